-- Printed by a program of this session's own (wip/print), out of the translation. Lean checks it.
import Derived.Test.YtjgnolohppnbbaaPSgx0
import Derived.Test.YtjgnolohppnbbaaPSgx4
import Derived.Test.YtjgnolohppnbbaaPSgx5
namespace Go.Proofs.Ytjgnolohppnbbaa.PSg
open Go.Proofs.YtjgnolohppnbbaaW
open Go.RowKit Go.Proofs.YtjgnolohppnbbaaW.PrintWords Go.Proofs.YtjgnolohppnbbaaW.PrintLast Go.Proofs.YtjgnolohppnbbaaW.PrintMore
attribute [local go_sem] max2_int min2_int max_two min_two max_three min_three max_four min_four   -- for this text's walks alone
set_option linter.unusedVariables false
set_option linter.unusedSimpArgs false

-- NOT PRINTED: function 72 (cmp_isNaN_int64)

-- NOT PRINTED: function 59 (cmp_Less_int64)

-- NOT PRINTED: function 53 (slices_insertionSortOrdered_int64)

-- NOT PRINTED: function 67 (slices_siftDownOrdered_int64)

-- NOT PRINTED: function 54 (slices_heapSortOrdered_int64)

-- NOT PRINTED: function 62 (bits_Len32)

-- NOT PRINTED: function 63 (bits_Len64)

-- NOT PRINTED: function 45 (bits_Len)

-- NOT PRINTED: function 68 (slices_nextPowerOfTwo)

-- NOT PRINTED: function 69 (slices_xorshift_Next)

-- NOT PRINTED: function 55 (slices_breakPatternsOrdered_int64)

-- NOT PRINTED: function 73 (slices_order2Ordered_int64)

-- NOT PRINTED: function 71 (slices_medianOrdered_int64)

-- NOT PRINTED: function 70 (slices_medianAdjacentOrdered_int64)

-- NOT PRINTED: function 56 (slices_choosePivotOrdered_int64)

-- NOT PRINTED: function 57 (slices_reverseRangeOrdered_int64)

-- NOT PRINTED: function 58 (slices_partialInsertionSortOrdered_int64)

-- NOT PRINTED: function 60 (slices_partitionEqualOrdered_int64)

-- NOT PRINTED: function 61 (slices_partitionOrdered_int64)

-- NOT PRINTED: function 44 (slices_pdqsortOrdered_int64)

-- NOT PRINTED: function 28 (slices_Sort_int64_int64)

/-! ### impl_Signif: function 9 (given by hand) -/
theorem lim_any (n : Int) (h1 : -12000 ≤ n) (h2 : n ≤ 12000) (w : World) : Calls Try.prog 43 #[.int .i64 n] w fun e w' => e = .returned (.bool true) ∧ w' = w := by
  go_enter Try.func43, Try.ntmps43
  go_wp2
  go_ret
  exact ⟨rfl, rfl⟩
def impl_Between.f (a0_0 : Int) (a0_1 : Nat) (a1_0 : Int) (a1_1 : Nat) (a2 : Int) : Option (Nat) :=
  if a2 = a0_0 then some a0_1 else if a2 = a1_0 then some a1_1 else
  if (-12000 ≤ a1_0 ∧ a0_0 ≤ 12000 ∧ a1_0 < a2 ∧ a2 < a0_0 ∧ a0_0 - a1_0 ≤ 12000) then
    if fok .quo (fofi (a0_0 - a2)) (fofi (a0_0 - a1_0)) = true then if fok .sub a1_1 a0_1 = true then
      if fok .mul (fop .sub a1_1 a0_1) (fop .quo (fofi (a0_0 - a2)) (fofi (a0_0 - a1_0))) = true then
        if fok .add a0_1 (fop .mul (fop .sub a1_1 a0_1) (fop .quo (fofi (a0_0 - a2)) (fofi (a0_0 - a1_0)))) = true then
          some (fop .add a0_1 (fop .mul (fop .sub a1_1 a0_1) (fop .quo (fofi (a0_0 - a2)) (fofi (a0_0 - a1_0))))) else none else none else none else none
  else none
set_option maxHeartbeats 1000000 in
theorem impl_Between.calls (a0_0 : Int) (a0_1 : Nat) (a1_0 : Int) (a1_1 : Nat) (a2 : Int) (r : Nat) (w : World) (h : impl_Between.f a0_0 a0_1 a1_0 a1_1 a2 = some r) :
    Calls Try.prog 27 #[.agg #[.int .i64 a0_0, .float .f64 a0_1], .agg #[.int .i64 a1_0, .float .f64 a1_1], .int .i64 a2] w fun e w' => e = .returned (.float .f64 r) ∧ Below w.heap.size w w' := by
  unfold impl_Between.f at h
  by_cases h1 : a2 = a0_0
  · rw [if_pos h1] at h
    obtain rfl := Option.some.inj h
    clear h
    have c1 : (a2 == a0_0) = true := beq_iff_eq.2 h1
    clear h1
    go_enter Try.func27, Try.ntmps27
    go_wp2
    go_ret
    exact ⟨rfl, ((Below.refl _ _).alloc (Nat.le_refl _) _).alloc (by simp) _⟩
  · rw [if_neg h1] at h
    have c1 : (a2 == a0_0) = false := beq_eq_false_iff_ne.2 h1
    by_cases h2 : a2 = a1_0
    · rw [if_pos h2] at h
      obtain rfl := Option.some.inj h
      clear h h1
      have c2 : (a2 == a1_0) = true := beq_iff_eq.2 h2
      clear h2
      go_enter Try.func27, Try.ntmps27
      go_wp2
      go_ret
      exact ⟨rfl, ((Below.refl _ _).alloc (Nat.le_refl _) _).alloc (by simp) _⟩
    · rw [if_neg h2] at h
      have c2 : (a2 == a1_0) = false := beq_eq_false_iff_ne.2 h2
      by_cases h3 : (-12000 ≤ a1_0 ∧ a0_0 ≤ 12000 ∧ a1_0 < a2 ∧ a2 < a0_0 ∧ a0_0 - a1_0 ≤ 12000)
      · rw [if_pos h3] at h
        obtain ⟨b1, b2, b3, b4, b5⟩ := h3
        clear h1 h2
        by_cases k1 : fok .quo (fofi (a0_0 - a2)) (fofi (a0_0 - a1_0)) = true
        · rw [if_pos k1] at h
          by_cases k2 : fok .sub a1_1 a0_1 = true
          · rw [if_pos k2] at h
            by_cases k3 : fok .mul (fop .sub a1_1 a0_1) (fop .quo (fofi (a0_0 - a2)) (fofi (a0_0 - a1_0))) = true
            · rw [if_pos k3] at h
              by_cases k4 : fok .add a0_1 (fop .mul (fop .sub a1_1 a0_1) (fop .quo (fofi (a0_0 - a2)) (fofi (a0_0 - a1_0)))) = true
              · rw [if_pos k4] at h
                obtain rfl := Option.some.inj h
                clear h
                go_enter Try.func27, Try.ntmps27
                go_wp2_with (go_at_call 43; refine (lim_any _ (by omega) (by omega) _).mono ?_; rintro e w' ⟨rfl, rfl⟩)
                go_ret
                exact ⟨rfl, ((Below.refl _ _).alloc (Nat.le_refl _) _).alloc (by simp) _⟩
              · rw [if_neg k4] at h; cases h
            · rw [if_neg k3] at h; cases h
          · rw [if_neg k2] at h; cases h
        · rw [if_neg k1] at h; cases h
      · rw [if_neg h3] at h; cases h
/-- What the closure 'part' and its maker hold in memory. -/
structure SigCap (w0 W : World) (BL BT BO BP : Nat) (A : Option Addr) (c : Nat) (l : List S41) (tol : Nat) (v : Value) (xs : List Int) : Prop where
  bl : W.heap[BL]? = some (.cells #[.slice A l.length c] 27 (0, 0))
  bt : W.heap[BT]? = some (.cells #[.float .f64 tol] 23 (0, 0))
  bo : W.heap[BO]? = some (.cells #[v] 25 (0, 0))
  bp : W.heap[BP]? = some (.cells #[.func (.func 25) #[] #[.pointer (some ⟨BL, 0, none⟩), .pointer (some ⟨BT, 0, none⟩), .pointer (some ⟨BO, 0, none⟩), .pointer (some ⟨BP, 0, none⟩)]] 48 (0, 0))
  rd : Kd.C k41 w0 A l.length l
  own : Kd.R (Kd.int .i64) 2 W w0.heap.size (fun _ => True) v xs
  below : Below w0.heap.size w0 W
  gl : w0.heap.size ≤ BL
  gt : w0.heap.size ≤ BT
  go : w0.heap.size ≤ BO
  gp : w0.heap.size ≤ BP

theorem sl_form {W : World} {e base : Nat} {ok : Nat → Prop} {v : Value} {xs : List Int} (h : Kd.R (Kd.int .i64) e W base ok v xs) : ∃ A n c, v = .slice A n c := by
  obtain ⟨A, c, e⟩ := Kd.R_slice h
  exact ⟨A, _, c, e⟩
theorem SigCap.grow {w0 W W1 : World} {BL BT BO BP : Nat} {A : Option Addr} {c : Nat} {l : List S41} {tol : Nat} {v : Value} {xs : List Int} (h : SigCap w0 W BL BT BO BP A c l tol v xs) (hb : Below W.heap.size W W1) : SigCap w0 W1 BL BT BO BP A c l tol v xs :=
  ⟨(hb.block BL (blk_lt h.bl)).trans h.bl, (hb.block BT (blk_lt h.bt)).trans h.bt, (hb.block BO (blk_lt h.bo)).trans h.bo, (hb.block BP (blk_lt h.bp)).trans h.bp, h.rd, Kd.R_below h.own hb, h.below.trans (hb.mono h.below.size), h.gl, h.gt, h.go, h.gp⟩
theorem SigCap.push {w0 W w1 : World} {BL BT BO BP : Nat} {A : Option Addr} {c : Nat} {l : List S41} {tol : Nat} {v v1 : Value} {xs xs1 : List Int} (h : SigCap w0 W BL BT BO BP A c l tol v xs)
    (hR : Kd.R (Kd.int .i64) 2 w1 w0.heap.size (fun _ => True) v1 xs1) (hB : Below w0.heap.size w0 w1) (hg : W.grownBy w1 v.ownBlock) : SigCap w0 (w1.setCell ⟨BO, 0, none⟩ v1) BL BT BO BP A c l tol v1 xs1 := by
  have bo := blk_grown h.bo hg (Kd.R_ne h.own h.bo (by decide))
  exact ⟨blk_far (blk_grown h.bl hg (Kd.R_ne h.own h.bl (by decide))) (blk_ne h.bl h.bo (by decide)) _, blk_far (blk_grown h.bt hg (Kd.R_ne h.own h.bt (by decide))) (blk_ne h.bt h.bo (by decide)) _, blk_put bo 0 _ rfl,
    blk_far (blk_grown h.bp hg (Kd.R_ne h.own h.bp (by decide))) (blk_ne h.bp h.bo (by decide)) _, h.rd, Kd.R_set hR bo (by decide) 0 _, hB.setCell h.go _, h.gl, h.gt, h.go, h.gp⟩
def impl_Signif.dAt (l : List S41) (a b i : Int) : Option Nat :=
  (impl_Between.f (rd_T41 l a).f0 (rd_T41 l a).f1 (rd_T41 l b).f0 (rd_T41 l b).f1 (rd_T41 l i).f0).bind fun t =>
    if fok .sub (rd_T41 l i).f1 t = true then some (F64.fabs (fop .sub (rd_T41 l i).f1 t)) else none
def impl_Signif.scan : Nat → List S41 → Nat → Int → Int → Int → Nat → Int → Option Int
  | 0, _, _, _, _, _, _, _ => none
  | k + 1, l, tol, a, b, i, most, at_ =>
    if i < b then (impl_Signif.dAt l a b i).bind fun d =>
      if fgt d tol = true then (if at_ < 0 then impl_Signif.scan k l tol a b (i + 1) d i else if fgt d most = true then impl_Signif.scan k l tol a b (i + 1) d i else impl_Signif.scan k l tol a b (i + 1) most at_)
      else impl_Signif.scan k l tol a b (i + 1) most at_
    else some at_
def impl_Signif.part : Nat → List S41 → Nat → Int → Int → Option (List Int)
  | 0, _, _, _, _ => none
  | k + 1, l, tol, a, b => (impl_Signif.scan (l.length + 1) l tol a b (a + 1) 0 (-1)).bind fun t =>
    if t < 0 then some [] else (impl_Signif.part k l tol a t).bind fun x => (impl_Signif.part k l tol t b).bind fun y => some (t :: (x ++ y))

theorem impl_Signif.scan_range (k : Nat) : ∀ (l : List S41) (tol : Nat) (a b i : Int) (most : Nat) (at_ t : Int), impl_Signif.scan k l tol a b i most at_ = some t → t = at_ ∨ (i ≤ t ∧ t < b) := by
  induction k with
  | zero => intro l tol a b i most at_ t h; cases h
  | succ k ih =>
    intro l tol a b i most at_ t h
    simp only [impl_Signif.scan] at h
    split at h
    · rename_i hlt
      obtain ⟨d, _, h⟩ := Option.bind_eq_some_iff.mp h
      split at h
      · split at h
        · rcases ih _ _ _ _ _ _ _ _ h with e | ⟨e1, e2⟩
          · exact .inr (by omega)
          · exact .inr (by omega)
        · split at h
          · rcases ih _ _ _ _ _ _ _ _ h with e | ⟨e1, e2⟩
            · exact .inr (by omega)
            · exact .inr (by omega)
          · rcases ih _ _ _ _ _ _ _ _ h with e | ⟨e1, e2⟩
            · exact .inl e
            · exact .inr (by omega)
      · rcases ih _ _ _ _ _ _ _ _ h with e | ⟨e1, e2⟩
        · exact .inl e
        · exact .inr (by omega)
    · exact .inl (Option.some.inj h).symm
theorem impl_Signif.part_len (n : Nat) : ∀ (l : List S41) (tol : Nat) (a b : Int) (ys : List Int), a < b → impl_Signif.part n l tol a b = some ys → (ys.length : Int) < b - a := by
  induction n with
  | zero => intro l tol a b ys hab h; cases h
  | succ n ih =>
    intro l tol a b ys hab h
    simp only [impl_Signif.part] at h
    obtain ⟨t, ht, h⟩ := Option.bind_eq_some_iff.mp h
    have hr := impl_Signif.scan_range _ _ _ _ _ _ _ _ _ ht
    split at h
    · obtain rfl := Option.some.inj h
      simp only [List.length_nil]; omega
    · obtain ⟨x, hx, h⟩ := Option.bind_eq_some_iff.mp h
      obtain ⟨y, hy, h⟩ := Option.bind_eq_some_iff.mp h
      obtain rfl := Option.some.inj h
      have h1 := ih _ _ _ _ _ (by omega) hx
      have h2 := ih _ _ _ _ _ (by omega) hy
      simp only [List.length_cons, List.length_append]
      omega
set_option maxHeartbeats 1000000 in
set_option maxRecDepth 100000 in
theorem impl_Signif.part_calls (n : Nat) : ∀ (w0 W : World) (BL BT BO BP : Nat) (A : Option Addr) (c : Nat) (l : List S41) (tol : Nat) (v : Value) (xs : List Int) (a b : Int) (ys : List Int),
    SigCap w0 W BL BT BO BP A c l tol v xs → 0 ≤ a → a < b → b < l.length → l.length ≤ c → l.length ≤ 1000000 → (xs.length : Int) + (b - a) ≤ 1000000000 → impl_Signif.part n l tol a b = some ys →
    Calls Try.prog 25 #[.int .i64 a, .int .i64 b, .pointer (some ⟨BL, 0, none⟩), .pointer (some ⟨BT, 0, none⟩), .pointer (some ⟨BO, 0, none⟩), .pointer (some ⟨BP, 0, none⟩)] W fun e W' =>
      e = .returned (.tuple #[]) ∧ ∃ v', SigCap w0 W' BL BT BO BP A c l tol v' (xs ++ ys) := by
  induction n with
  | zero => intro w0 W BL BT BO BP A c l tol v xs a b ys C h0 h1 h2 h3 h4 h5 h; cases h
  | succ n ih =>
    intro w0 W BL BT BO BP A c l tol v xs a b ys C h0 h1 h2 h3 h4 h5 h_
    have h := h_
    clear h_
    simp only [impl_Signif.part] at h
    obtain ⟨tt, hs, h⟩ := Option.bind_eq_some_iff.mp h
    have HS0 := Aside0.mk hs
    have HR := Aside0.mk h
    have HC0 := Aside0.mk C
    have HIH := Aside0.mk ih
    clear hs h C ih
    go_enter Try.func25, Try.ntmps25
    go_wp2_with (fail)
    go_loopw [8, 9, 10] (fun m t i wr => ∃ (kf : Nat) (iz : Int) (mz : Nat) (tz : Int), m = .float .f64 mz ∧ t = .int .i64 tz ∧ i = .int .i64 iz ∧ a < iz ∧ iz ≤ b ∧ (tz = -1 ∨ (a < tz ∧ tz < b)) ∧
        Aside0 (impl_Signif.scan kf l tol a b iz mz tz = some tt) ∧ Aside0 (SigCap w0 wr BL BT BO BP A c l tol v xs)) (fun _ _ i _ => (b - intOf i).toNat)
    case atStart => exact ⟨_, _, _, _, rfl, rfl, rfl, by omega, by omega, .inl rfl, HS0, HC0⟩
    case round =>
      obtain ⟨kf, iz, mz, tz, rfl, rfl, rfl, hi1, hi2, htz, HS, HC⟩ := hrel
      cases kf with
      | zero => exact absurd HS.out (by simp [impl_Signif.scan])
      | succ kf =>
      by_cases hlt : iz < b
      · have hs := HS.out
        simp only [impl_Signif.scan] at hs
        rw [if_pos hlt] at hs
        obtain ⟨d, hd, hs⟩ := Option.bind_eq_some_iff.mp hs
        unfold impl_Signif.dAt at hd
        obtain ⟨t, hbt, hd⟩ := Option.bind_eq_some_iff.mp hd
        by_cases hk : fok .sub (rd_T41 l iz).f1 t = true
        · rw [if_pos hk] at hd
          obtain rfl := Option.some.inj hd
          clear hd
          have HS1 := Aside0.mk hs
          have HBT := Aside0.mk hbt
          have C := HC.out
          have hcl : wr.cell? ⟨BL, 0, none⟩ = some (.slice A l.length c) := blk_cell C.bl 0
          have hct : wr.cell? ⟨BT, 0, none⟩ = some (.float .f64 tol) := blk_cell C.bt 0
          obtain ⟨ad, rfl, ci0, ci1⟩ := at_T41 (Kd.C_below C.rd C.below) iz (by omega) (by omega)
          obtain ⟨ad', e1, ca0, ca1⟩ := at_T41 (Kd.C_below C.rd C.below) a (by omega) (by omega)
          obtain rfl : ad = ad' := by injection e1
          obtain ⟨ad', e2, cb0, cb1⟩ := at_T41 (Kd.C_below C.rd C.below) b (by omega) (by omega)
          obtain rfl : ad = ad' := by injection e2
          have HCC := Aside0.mk C
          have HB0 := Aside0.mk (Below.refl wr.heap.size wr)
          have q1 : 0 ≤ iz := by omega
          have q2 : iz < (l.length : Int) := by omega
          have q3 : a < (l.length : Int) := by omega
          have q4 : 0 ≤ b := by omega
          clear C hs hbt HS e1 e2 hct
          go_wp2_with (fail)
          go_region_held3 (fun w' => Aside0 (Below wr.heap.size wr w') ∧ w'.cell? ⟨BL, 0, none⟩ = some (.slice (some ad) l.length c) ∧ w'.cell? (ad.add (iz.toNat * 2)) = some (.int .i64 (rd_T41 l iz).f0) ∧ w'.cell? ⟨(ad.add (iz.toNat * 2)).block, (ad.add (iz.toNat * 2)).off + 1, none⟩ = some (.float .f64 (rd_T41 l iz).f1) ∧
              w'.cell? (ad.add (a.toNat * 2)) = some (.int .i64 (rd_T41 l a).f0) ∧ w'.cell? ⟨(ad.add (a.toNat * 2)).block, (ad.add (a.toNat * 2)).off + 1, none⟩ = some (.float .f64 (rd_T41 l a).f1) ∧
              w'.cell? (ad.add (b.toNat * 2)) = some (.int .i64 (rd_T41 l b).f0) ∧ w'.cell? ⟨(ad.add (b.toNat * 2)).block, (ad.add (b.toNat * 2)).off + 1, none⟩ = some (.float .f64 (rd_T41 l b).f1)) (first | (refine ⟨Aside0.mk (below_drew1 HB0.out), ?_, ?_, ?_, ?_, ?_, ?_, ?_⟩ <;> go_keep) | (exact ⟨Aside0.mk ((below_drew1 HB0.out).trans hb), (hb.cell (World.block_lt_of_cell? wr _ hcl)).trans hcl, (hb.cell (World.block_lt_of_cell? wr _ ci0)).trans ci0, (hb.cell (World.block_lt_of_cell? wr _ ci1)).trans ci1, (hb.cell (World.block_lt_of_cell? wr _ ca0)).trans ca0, (hb.cell (World.block_lt_of_cell? wr _ ca1)).trans ca1, (hb.cell (World.block_lt_of_cell? wr _ cb0)).trans cb0, (hb.cell (World.block_lt_of_cell? wr _ cb1)).trans cb1⟩) | (exact ⟨Aside0.mk (pw_below_drewN ((below_drew1 HB0.out).trans hb) nq), (hb.cell (World.block_lt_of_cell? wr _ hcl)).trans hcl, (hb.cell (World.block_lt_of_cell? wr _ ci0)).trans ci0, (hb.cell (World.block_lt_of_cell? wr _ ci1)).trans ci1, (hb.cell (World.block_lt_of_cell? wr _ ca0)).trans ca0, (hb.cell (World.block_lt_of_cell? wr _ ca1)).trans ca1, (hb.cell (World.block_lt_of_cell? wr _ cb0)).trans cb0, (hb.cell (World.block_lt_of_cell? wr _ cb1)).trans cb1⟩) | (trace_state; fail))
            (first | (go_at_call 27; refine (impl_Between.calls _ _ _ _ _ t _ HBT.out).mono ?_; rintro e w' ⟨rfl, hb⟩) | (go_at_call 26; refine (math_Abs.calls _ _ _ rfl).mono ?_; rintro e w' ⟨rfl, ⟨⟨nq, rfl⟩⟩⟩))
          have HB1 : Aside0 (Below wr.heap.size wr (w'.drewN nq)) := (show Aside0 (Below wr.heap.size wr (w'.drewN nq)) ∧ _ from ‹_›).1
          generalize w'.drewN nq = w1 at HB1 ⊢
          generalize F64.fabs (fop .sub (rd_T41 l iz).f1 t) = d at HS1 ⊢
          have hct1 : w1.cell? ⟨BT, 0, none⟩ = some (.float .f64 tol) := (HB1.out.cell (World.block_lt_of_cell? wr _ (blk_cell HCC.out.bt 0))).trans (blk_cell HCC.out.bt 0)
          have HC1 := Aside0.mk (HCC.out.grow HB1.out)
          have hs := HS1.out
          clear HB1 HCC HB0 HS1 hcl ci0 ci1 ca0 ca1 cb0 cb1 hk
          by_cases g1 : fgt d tol = true
          · rw [if_pos g1] at hs
            by_cases g2 : tz < 0
            · rw [if_pos g2] at hs
              have HS2 := Aside0.mk hs
              clear hs
              go_wp2
              go_roundw
              case rel => exact ⟨kf, iz + 1, d, iz, rfl, rfl, rfl, by omega, by omega, .inr ⟨hi1, hlt⟩, HS2, HC1⟩
              case measure => simp [intOf]; omega
            · rw [if_neg g2] at hs
              by_cases g3 : fgt d mz = true
              · rw [if_pos g3] at hs
                have HS2 := Aside0.mk hs
                clear hs
                go_wp2
                go_roundw
                case rel => exact ⟨kf, iz + 1, d, iz, rfl, rfl, rfl, by omega, by omega, .inr ⟨hi1, hlt⟩, HS2, HC1⟩
                case measure => simp [intOf]; omega
              · rw [if_neg g3] at hs
                have HS2 := Aside0.mk hs
                clear hs
                have g3 : fgt d mz = false := by simpa using g3
                go_wp2
                go_roundw
                case rel => exact ⟨kf, iz + 1, mz, tz, rfl, rfl, rfl, by omega, by omega, htz, HS2, HC1⟩
                case measure => simp [intOf]; omega
          · rw [if_neg g1] at hs
            have HS2 := Aside0.mk hs
            clear hs
            have g1 : fgt d tol = false := by simpa using g1
            go_wp2
            go_roundw
            case rel => exact ⟨kf, iz + 1, mz, tz, rfl, rfl, rfl, by omega, by omega, htz, HS2, HC1⟩
            case measure => simp [intOf]; omega
        · rw [if_neg hk] at hd; cases hd
      · have hs := HS.out
        simp only [impl_Signif.scan] at hs
        rw [if_neg hlt] at hs
        obtain rfl := Option.some.inj hs
        have hbi : iz = b := by omega
        subst hbi
        clear hs HS HS0
        by_cases g0 : tz < 0
        · have hr := HR.out
          rw [if_pos g0] at hr
          obtain rfl := Option.some.inj hr
          go_wp2
          go_end0
          exact ⟨rfl, v, by first | exact HC.out | (rw [List.append_nil]; exact HC.out)⟩
        · have hr := HR.out
          rw [if_neg g0] at hr
          obtain ⟨x, hx, hr⟩ := Option.bind_eq_some_iff.mp hr
          obtain ⟨y, hy, hr⟩ := Option.bind_eq_some_iff.mp hr
          obtain rfl := Option.some.inj hr
          have hl1 := impl_Signif.part_len n l tol a tz x (by omega) hx
          have HX := Aside0.mk hx
          have HY := Aside0.mk hy
          have ht : a < tz ∧ tz < iz := by omega
          obtain ⟨ht1, ht2⟩ := ht
          have C := HC.out
          have hco : wr.cell? ⟨BO, 0, none⟩ = some v := blk_cell C.bo 0
          clear hx hy hr htz HR C
          go_wp2_with ((with_reducible refine gate_builtin (b := .append) (xs := #[.tmp 56, .tmp 58]) rfl ?_); at_builtin; refine Kd.R_append (Kd.int .i64) (w0 := w0) w0.heap.size rfl (.tmp 56) (.tmp 58) 25 2 (.int .i64 0) 8 rfl Try.underlying25 info2 rfl (by decide) (by omega) v xs tz [.int .i64 tz] (fun _ => True) (fun _ => False) rfl rfl ?aP (fun _ hk => hk.elim) ?aF ?aO ?aB ?aS ?aL ?_; (case aP => exact rfl); (case aB => exact HC.out.below); (case aF => exact (fun _ _ => trivial)); (case aO => exact HC.out.own); (case aS => exact HC.out.below.size); (case aL => omega); intro v1 w1 ho hb hg hat; obtain ⟨A1, n1, c1, hv1⟩ := sl_form ho; subst hv1; have HC1 := Aside0.mk (HC.out.push ho hb hg); have hco1 : w1.cell? ⟨BO, 0, none⟩ = some v := blk_cell (blk_grown HC.out.bo hg (Kd.R_ne HC.out.own HC.out.bo (by decide))) 0; have hfo1 : w1.frozen? ⟨BO, 0, none⟩ = false := blk_frozen (blk_grown HC.out.bo hg (Kd.R_ne HC.out.own HC.out.bo (by decide))) 0; have hcp1 : (w1.setCell ⟨BO, 0, none⟩ (.slice A1 n1 c1)).cell? ⟨BP, 0, none⟩ = some (.func (.func 25) #[] #[.pointer (some ⟨BL, 0, none⟩), .pointer (some ⟨BT, 0, none⟩), .pointer (some ⟨BO, 0, none⟩), .pointer (some ⟨BP, 0, none⟩)]) := blk_cell HC1.out.bp 0; clear ho hb hg hat)
          refine (HIH.out w0 _ BL BT BO BP A c l tol _ (xs ++ [tz]) a tz x HC1.out h0 ht1 (by omega) h3 h4 (by rw [List.length_append]; simp only [List.length_cons, List.length_nil]; omega) HX.out).mono ?_
          rintro e W1 ⟨rfl, v2, C2⟩
          have HC2 := Aside0.mk C2
          have hcp2 : W1.cell? ⟨BP, 0, none⟩ = some (.func (.func 25) #[] #[.pointer (some ⟨BL, 0, none⟩), .pointer (some ⟨BT, 0, none⟩), .pointer (some ⟨BO, 0, none⟩), .pointer (some ⟨BP, 0, none⟩)]) := blk_cell C2.bp 0
          clear C2
          go_wp2_with (fail)
          refine (HIH.out w0 _ BL BT BO BP A c l tol _ (xs ++ [tz] ++ x) tz iz y HC2.out (by omega) ht2 h2 h3 h4 (by rw [List.length_append, List.length_append]; simp only [List.length_cons, List.length_nil]; omega) HY.out).mono ?_
          rintro e W2 ⟨rfl, v3, C3⟩
          have HC3 := Aside0.mk C3
          clear C3
          go_wp2
          go_end0
          exact ⟨rfl, v3, by have h := HC3.out; simp only [List.append_assoc, List.singleton_append, List.cons_append] at h ⊢; exact h⟩
theorem sort_calls {W : World} {base : Nat} {ok : Nat → Prop} {v : Value} {xs : List Int} (hR : Kd.R (Kd.int .i64) 2 W base ok v xs) (hne : 0 < xs.length) (hl : xs.length < 4611686018427387904) :
    Calls Try.prog 28 #[v] W fun e W' => e = .returned (.tuple #[]) ∧ W.grownBy W' v.ownBlock ∧ Kd.R (Kd.int .i64) 2 W' base ok v (xs.mergeSort fun x y => decide (x ≤ y)) := by
  have ho := Kd.own_of_R (enc := Value.int .i64) (h1 := fun _ => rfl) hR
  rcases ho.2 with ⟨_, h0⟩ | ⟨g, cap, cur, rfl, hb, hh, h1, h2, h3, h4⟩
  · omega
  · have hlt : g < W.heap.size := blk_lt hh
    have hH : Go.Sort.Holds (Value.int .i64) W g 0 xs.toArray := holds_of_blockI hh (by rw [Nat.mul_one] at h4; exact h4)
    refine Calls.mono (AnyM.slices_Sort_int Try.sortL g 0 cap xs W hH hlt hl) ?_
    rintro e W' ⟨rfl, n, os, rfl⟩
    refine ⟨rfl, grownBy_sortedI _, ?_⟩
    have hlen : (xs.mergeSort fun x y => decide (x ≤ y)).length = xs.length := List.length_mergeSort xs
    have ho2 := ownsRow_sortedI (w := W) (n := n) (os := os) (ts := xs.mergeSort fun x y => decide (x ≤ y)) hlen hb hh h1 h2 h3
    rw [show (.slice (some ⟨g, 0, none⟩) xs.length cap : Value) = .slice (some ⟨g, 0, none⟩) (xs.mergeSort fun x y => decide (x ≤ y)).length cap by rw [hlen]]
    refine Kd.R_of_own (enc := Value.int .i64) (h1 := fun _ => rfl) (by rw [hlen]; exact ho2) (fun k hk => hR.1 k ?_)
    simpa [Value.ownBlock] using hk

theorem impl_Signif.cap_start {w w1 : World} {A0 : Option Addr} {c0 : Nat} {l0 : List S41} {a1 : Nat} (hb : Below ((w.alloc (.cells #[.slice A0 l0.length c0] 27)).alloc (.cells #[.float .f64 a1] 23)).heap.size ((w.alloc (.cells #[.slice A0 l0.length c0] 27)).alloc (.cells #[.float .f64 a1] 23)) w1) (hr : Kd.C k41 w A0 l0.length l0) (nd : Nat) :
    SigCap w ((((w1.drewN nd).alloc (.cells #[.int .i64 0, .int .i64 ((l0.length : Int) - 1)] 2)).alloc (.cells #[.slice (some ⟨w1.heap.size, 0, none⟩) 2 2] 25)).alloc (.cells #[.func (.func 25) #[] #[.pointer (some ⟨w.heap.size, 0, none⟩), .pointer (some ⟨w.heap.size + 1, 0, none⟩), .pointer (some ⟨w1.heap.size + 1, 0, none⟩), .pointer (some ⟨w1.heap.size + 1 + 1, 0, none⟩)]] 48))
      w.heap.size (w.heap.size + 1) (w1.heap.size + 1) (w1.heap.size + 1 + 1) A0 c0 l0 a1 (.slice (some ⟨w1.heap.size, 0, none⟩) 2 2) [0, (l0.length : Int) - 1] := by
  have hz : w.heap.size + 2 ≤ w1.heap.size := by have := hb.size; simp at this; omega
  refine ⟨?_, ?_, ?_, ?_, hr, ?_, ?_, Nat.le_refl _, by omega, by omega, by omega⟩
  · exact blk_alloc (blk_alloc (blk_alloc (blk_drewN (blk_below (blk_alloc (blk_new w _) _) hb) nd) _) _) _
  · have h := blk_new (w.alloc (.cells #[.slice A0 l0.length c0] 27)) (.cells #[.float .f64 a1] 23)
    rw [show (w.alloc (.cells #[.slice A0 l0.length c0] 27)).heap.size = w.heap.size + 1 by simp] at h
    exact blk_alloc (blk_alloc (blk_alloc (blk_drewN (blk_below h hb) nd) _) _) _
  · have h := blk_new ((w1.drewN nd).alloc (.cells #[.int .i64 0, .int .i64 ((l0.length : Int) - 1)] 2)) (.cells #[.slice (some ⟨w1.heap.size, 0, none⟩) 2 2] 25)
    rw [show ((w1.drewN nd).alloc (.cells #[.int .i64 0, .int .i64 ((l0.length : Int) - 1)] 2)).heap.size = w1.heap.size + 1 by simp] at h
    exact blk_alloc h _
  · have h := blk_new (((w1.drewN nd).alloc (.cells #[.int .i64 0, .int .i64 ((l0.length : Int) - 1)] 2)).alloc (.cells #[.slice (some ⟨w1.heap.size, 0, none⟩) 2 2] 25)) (.cells #[.func (.func 25) #[] #[.pointer (some ⟨w.heap.size, 0, none⟩), .pointer (some ⟨w.heap.size + 1, 0, none⟩), .pointer (some ⟨w1.heap.size + 1, 0, none⟩), .pointer (some ⟨w1.heap.size + 1 + 1, 0, none⟩)]] 48)
    rw [show (((w1.drewN nd).alloc (.cells #[.int .i64 0, .int .i64 ((l0.length : Int) - 1)] 2)).alloc (.cells #[.slice (some ⟨w1.heap.size, 0, none⟩) 2 2] 25)).heap.size = w1.heap.size + 1 + 1 by simp] at h
    exact h
  · refine Kd.R_of_own (enc := Value.int .i64) (h1 := fun _ => rfl) (xs := [0, (l0.length : Int) - 1]) ?_ (fun _ _ => trivial)
    have h := blk_new (w1.drewN nd) (.cells #[.int .i64 0, .int .i64 ((l0.length : Int) - 1)] 2)
    exact ⟨rfl, .inr ⟨w1.heap.size, 2, _, rfl, by omega, blk_alloc (blk_alloc h _) _, Nat.le_refl _, by unfold maxLen; decide, rfl, rfl⟩⟩
  · exact (((pw_below_drewN (below_step (((Below.refl w.heap.size w).alloc (Nat.le_refl _) _).alloc (by simp) _) hb) nd).alloc (by simp; omega) _).alloc (by simp; omega) _).alloc (by simp; omega) _

def impl_Signif.f (k : Nat) (l0 : List S41) (a1 : Nat) : Option (List Int) :=
  (impl_AscentOk.f k l0).bind fun t => if t = true then (impl_Known.f a1).bind fun u => if u = true then if flt a1 0 = true then some [] else
    if l0.length ≤ 1000000 then if 2 ≤ l0.length then (impl_Signif.part (l0.length + 1) l0 a1 0 ((l0.length : Int) - 1)).bind fun xs => some (([0, (l0.length : Int) - 1] ++ xs).mergeSort fun x y => decide (x ≤ y)) else none else none
    else some [] else some []
theorem impl_Signif.mono : ∀ a0 a1 k, LeO (impl_Signif.f k a0 a1) (impl_Signif.f (k + 1) a0 a1) := by
  intro a0 a1 k
  unfold impl_Signif.f
  exact LeO.bind (impl_AscentOk.mono _ _) (fun _ => LeO.refl _)
set_option maxHeartbeats 1000000 in
set_option maxRecDepth 100000 in
theorem impl_Signif.calls (k : Nat) (A0 : Option Addr) (c0 : Nat) (l0 : List S41) (a1 : Nat) (r : List Int) (w : World) (hr0 : Kd.C k41 w A0 l0.length l0) (hc0 : l0.length ≤ c0) (h : impl_Signif.f k l0 a1 = some r) :
    Calls Try.prog 9 #[.slice A0 l0.length c0, .float .f64 a1] w fun e w' => ∃ v0_ : Value, e = .returned (v0_) ∧ Kd.R (Kd.int .i64) 2 w' w.heap.size (fun _ => True) v0_ r ∧ Below w.heap.size w w' := by
  unfold impl_Signif.f at h
  obtain ⟨t, ht, h⟩ := Option.bind_eq_some_iff.mp h
  have HT := Aside0.mk ht
  have HR0 := Aside0.mk hr0
  clear ht hr0
  cases t with
  | false =>
    rw [if_neg (by decide)] at h
    obtain rfl := Option.some.inj h
    clear h
    go_enter Try.func9, Try.ntmps9
    go_wp2_with (go_at_call 23; refine (impl_AscentOk.calls k _ _ l0 false _ (Kd.C_alloc (Kd.C_alloc HR0.out _) _) hc0 HT.out).mono ?_; rintro e w' ⟨rfl, hb⟩)
    go_ret
    exact ⟨_, rfl, Kd.R_nil _ _ _ _ _, (((Below.refl w.heap.size w).alloc (Nat.le_refl _) _).alloc (by simp) _).trans (hb.mono (by simp; omega))⟩
  | true =>
    rw [if_pos rfl] at h
    obtain ⟨u, hu, h⟩ := Option.bind_eq_some_iff.mp h
    have HU := Aside0.mk hu
    clear hu
    cases u with
    | false =>
      rw [if_neg (by decide)] at h
      obtain rfl := Option.some.inj h
      clear h
      go_enter Try.func9, Try.ntmps9
      go_wp2_with (first | (go_at_call 23; refine (impl_AscentOk.calls k _ _ l0 true _ (Kd.C_alloc (Kd.C_alloc HR0.out _) _) hc0 HT.out).mono ?_; rintro e w1 ⟨rfl, hb⟩; have hct : w1.cell? ⟨w.heap.size + 1, 0, none⟩ = some (.float .f64 a1) := (hb.cell (p := ⟨w.heap.size + 1, 0, none⟩) (by simp)).trans (by simp)) | (go_at_call 24; refine (impl_Known.calls a1 false _ HU.out).mono ?_; rintro e w2 ⟨rfl, ⟨⟨nd, rfl⟩⟩⟩))
      go_ret
      exact ⟨_, rfl, Kd.R_nil _ _ _ _ _, pw_below_drewN (below_step (((Below.refl w.heap.size w).alloc (Nat.le_refl _) _).alloc (by simp) _) hb) nd⟩
    | true =>
      rw [if_pos rfl] at h
      by_cases g1 : flt a1 0 = true
      · rw [if_pos g1] at h
        obtain rfl := Option.some.inj h
        clear h
        go_enter Try.func9, Try.ntmps9
        go_wp2_with (first | (go_at_call 23; refine (impl_AscentOk.calls k _ _ l0 true _ (Kd.C_alloc (Kd.C_alloc HR0.out _) _) hc0 HT.out).mono ?_; rintro e w1 ⟨rfl, hb⟩; have hct : w1.cell? ⟨w.heap.size + 1, 0, none⟩ = some (.float .f64 a1) := (hb.cell (p := ⟨w.heap.size + 1, 0, none⟩) (by simp)).trans (by simp)) | (go_at_call 24; refine (impl_Known.calls a1 true _ HU.out).mono ?_; rintro e w2 ⟨rfl, ⟨⟨nd, rfl⟩⟩⟩))
        go_ret
        exact ⟨_, rfl, Kd.R_nil _ _ _ _ _, pw_below_drewN (below_step (((Below.refl w.heap.size w).alloc (Nat.le_refl _) _).alloc (by simp) _) hb) nd⟩
      · rw [if_neg g1] at h
        have g1 : flt a1 0 = false := by simpa using g1
        by_cases g2 : l0.length ≤ 1000000
        · rw [if_pos g2] at h
          by_cases g3 : 2 ≤ l0.length
          · rw [if_pos g3] at h
            obtain ⟨xs, hxs, h⟩ := Option.bind_eq_some_iff.mp h
            obtain rfl := Option.some.inj h
            have HX := Aside0.mk hxs
            clear h hxs
            go_enter Try.func9, Try.ntmps9
            go_wp2_with (first | (go_at_call 23; refine (impl_AscentOk.calls k _ _ l0 true _ (Kd.C_alloc (Kd.C_alloc HR0.out _) _) hc0 HT.out).mono ?_; rintro e w1 ⟨rfl, hb⟩; have hct : w1.cell? ⟨w.heap.size + 1, 0, none⟩ = some (.float .f64 a1) := (hb.cell (p := ⟨w.heap.size + 1, 0, none⟩) (by simp)).trans (by simp); have hcl : w1.cell? ⟨w.heap.size, 0, none⟩ = some (.slice A0 l0.length c0) := (hb.cell (p := ⟨w.heap.size, 0, none⟩) (by simp; omega)).trans (by simp); have hz : w.heap.size + 1 < w1.heap.size := by (have := hb.size; simp at this; omega)) | (go_at_call 24; refine (impl_Known.calls a1 true _ HU.out).mono ?_; rintro e w2 ⟨rfl, ⟨⟨nd, rfl⟩⟩⟩; have hcl3 : ∀ o1 o2 o3, ((((w1.drewN nd).alloc o1).alloc o2).alloc o3).cell? ⟨w.heap.size, 0, none⟩ = some (.slice A0 l0.length c0) := (fun o1 o2 o3 => by rw [World.cell?_alloc_lt _ _ _ (by simp; omega), World.cell?_alloc_lt _ _ _ (by simp; omega), World.cell?_alloc_lt _ _ _ (by simp; omega)]; exact hcl)))
            have hlen := impl_Signif.part_len _ _ _ _ _ _ (by omega) HX.out
            have HC : Aside0 (SigCap w _ w.heap.size (w.heap.size + 1) (w1.heap.size + 1) (w1.heap.size + 1 + 1) A0 c0 l0 a1 (.slice (some ⟨w1.heap.size, 0, none⟩) 2 2) [0, (l0.length : Int) - 1]) := Aside0.mk (impl_Signif.cap_start hb HR0.out nd)
            refine (impl_Signif.part_calls (l0.length + 1) w _ w.heap.size (w.heap.size + 1) (w1.heap.size + 1) (w1.heap.size + 1 + 1) A0 c0 l0 a1 _ [0, (l0.length : Int) - 1] 0 ((l0.length : Int) - 1) xs HC.out (by omega) (by omega) (by omega) hc0 g2 (by simp only [List.length_cons, List.length_nil]; omega) HX.out).mono ?_
            rintro e W2 ⟨rfl, v2, C2⟩
            obtain ⟨A2, n2, c2, hv2⟩ := sl_form C2.own
            subst hv2
            have HC2 := Aside0.mk C2
            have hco2 : W2.cell? ⟨w1.heap.size + 1, 0, none⟩ = some (.slice A2 n2 c2) := blk_cell C2.bo 0
            clear C2 hcl hcl3 hct
            go_wp2_with (fail)
            refine (sort_calls HC2.out.own (by simp) (by simp only [List.length_append, List.length_cons, List.length_nil]; omega)).mono ?_
            rintro e W3 ⟨rfl, hg, hR⟩
            have hco3 : W3.cell? ⟨w1.heap.size + 1, 0, none⟩ = some (.slice A2 n2 c2) := blk_cell (blk_grown HC2.out.bo hg (Kd.R_ne HC2.out.own HC2.out.bo (by decide))) 0
            have HR := Aside0.mk hR
            have HG := Aside0.mk hg
            clear hR hg hco2
            go_wp2
            go_ret
            exact ⟨_, rfl, HR.out, HC2.out.below.grown HG.out HC2.out.below.size (fun k hk => Kd.R_base HC2.out.own k hk)⟩
          · rw [if_neg g3] at h; cases h
        · rw [if_neg g2] at h; cases h

/-! ### laws_big: function 15 -/
def laws_big.f (l0 : List Int) : Option (Bool) := some (decide ((l0.length : Int) > 1048576))
set_option maxHeartbeats 8000000 in
set_option maxRecDepth 100000 in
theorem laws_big.calls (A0 : Option Addr) (c0 : Nat) (l0 : List Int) (r : Bool) (w : World) (hr0 : Kd.C (Kd.int .u8) w A0 l0.length l0) (hc0 : l0.length ≤ c0) (h : laws_big.f l0 = some r) :
    Calls Try.prog 15 #[.slice A0 l0.length c0] w fun e w' => e = .returned (.bool r) ∧ Drawn0 w w' := by
  have HR0 := Aside0.mk hr0
  have HC0 := Aside0.mk hc0
  clear hr0 hc0
  have H : (some (decide ((l0.length : Int) > 1048576))) = some r := h
  clear h
  obtain rfl := Option.some.inj H
  go_enter Try.func15, Try.ntmps15
  go_wp2
  go_ret
  exact ⟨by first | rfl | (simp; done) | (simp [*]; done), by repeat (first | exact Drawn0.refl _ | apply Drawn0.step)⟩

/-- A state of type 71 at block g of W; what its slices lead to came in by w0. -/
def IsS71 (w0 W : World) (g : Nat) (f0 : List Int) (f1 : Int) : Prop := ∃ A0 c0, W.heap[g]? = some (.cells #[.slice A0 f0.length c0, .int .i64 f1] 71 (0, 0)) ∧ w0.heap.size ≤ g ∧ Kd.C (Kd.int .u8) w0 A0 f0.length f0
theorem IsS71.grown {w0 W : World} {g : Nat} {f0 : List Int} {f1 : Int} {W1 : World} {row : Option Nat} (h : IsS71 w0 W g f0 f1) (hw : W.grownBy W1 row) (hne : some g ≠ row) : IsS71 w0 W1 g f0 f1 := by
  obtain ⟨A0, c0, hb, hg, hr0⟩ := h
  exact ⟨A0, c0, blk_grown hb hw hne, hg, hr0⟩
theorem IsS71.own_neN {w0 W : World} {g : Nat} {f0 : List Int} {f1 : Int} {α : Type} {d : Kd α} {e : Nat} {base : Nat} {ok : Nat → Prop} {v : Value} {xs : List α} (h : IsS71 w0 W g f0 f1) (ho : Kd.N d e W base ok v xs) (ht : e ≠ 71) : some g ≠ v.ownBlock := by
  obtain ⟨A0, c0, hb, hg, hr0⟩ := h
  exact Kd.N_ne ho hb ht
theorem IsS71.fresh {w0 W : World} {g : Nat} {f0 : List Int} {f1 : Int} (h : IsS71 w0 W g f0 f1) : ∀ k, W.heap.size ≤ k → k ≠ g := by
  obtain ⟨A0, c0, hb, hg, hr0⟩ := h
  exact Kd.freshB hb
theorem IsS71.kept {w0 W : World} {g : Nat} {f0 : List Int} {f1 : Int} {W1 : World} {S : Nat → Prop} (h : IsS71 w0 W g f0 f1) (hk : Kept W W1 S) (hne : ¬ S g) : IsS71 w0 W1 g f0 f1 := by
  obtain ⟨A0, c0, hb, hg, hr0⟩ := h
  exact ⟨A0, c0, blk_kept hb hk hne, hg, hr0⟩
theorem IsS71.below {w0 W : World} {g : Nat} {f0 : List Int} {f1 : Int} {W1 : World} (h : IsS71 w0 W g f0 f1) (hw : Below W.heap.size W W1) : IsS71 w0 W1 g f0 f1 := h.grown (grown_of_below hw none) (by simp)
theorem IsS71.alloc {w0 W : World} {g : Nat} {f0 : List Int} {f1 : Int} (h : IsS71 w0 W g f0 f1) (o : Obj) : IsS71 w0 (W.alloc o) g f0 f1 := h.below (below_alloc (Below.refl _ _) o)
theorem IsS71.drewN {w0 W : World} {g : Nat} {f0 : List Int} {f1 : Int} (h : IsS71 w0 W g f0 f1) (m : Nat) : IsS71 w0 (W.drewN m) g f0 f1 := h
theorem IsS71.drew {w0 W : World} {g : Nat} {f0 : List Int} {f1 : Int} (h : IsS71 w0 W g f0 f1) : IsS71 w0 W.drew g f0 f1 := h
theorem IsS71.at_ {w0 W : World} {g : Nat} {f0 : List Int} {f1 : Int} {w' : World} {m : Nat} (hq : W.drewN m = w') (h : IsS71 w0 W g f0 f1) : IsS71 w0 w' g f0 f1 := by subst hq; exact IsS71.drewN h m
theorem IsS71.apart {w0 W : World} {g : Nat} {f0 : List Int} {f1 : Int} {α : Type} {d : Kd α} {e : Nat} {base : Nat} {ok : Nat → Prop} {v : Value} {xs : List α} (h : IsS71 w0 W g f0 f1) (ho : d.R e W base ok v xs) (ht : ∀ q, q ∈ e :: d.E → q ≠ 71) : d.R e W base (fun k => ok k ∧ k ≠ g) v xs := by
  obtain ⟨A0, c0, hb, hg, hr0⟩ := h
  exact Kd.R_types ho hb ht
theorem IsS71.own_ne {w0 W : World} {g : Nat} {f0 : List Int} {f1 : Int} {α : Type} {d : Kd α} {e : Nat} {base : Nat} {ok : Nat → Prop} {v : Value} {xs : List α} (h : IsS71 w0 W g f0 f1) (ho : d.R e W base ok v xs) (ht : e ≠ 71) : some g ≠ v.ownBlock := by
  obtain ⟨A0, c0, hb, hg, hr0⟩ := h
  exact Kd.R_ne ho hb ht
theorem IsS71.apartQ {w0 W : World} {g : Nat} {f0 : List Int} {f1 : Int} {α : Type} {d : Kd α} {e : Nat} {base : Nat} {ok : Nat → Prop} {v : Value} {xs : List α} (h : IsS71 w0 W g f0 f1) (ho : d.Q e W base ok v xs) (ht : ∀ q, q ∈ e :: d.E → q ≠ 71) : d.Q e W base (fun k => ok k ∧ k ≠ g) v xs := by
  obtain ⟨A0, c0, hb, hg, hr0⟩ := h
  exact Kd.Q_types ho hb ht
theorem IsS71.own_neQ {w0 W : World} {g : Nat} {f0 : List Int} {f1 : Int} {α : Type} {d : Kd α} {e : Nat} {base : Nat} {ok : Nat → Prop} {v : Value} {xs : List α} (h : IsS71 w0 W g f0 f1) (ho : d.Q e W base ok v xs) (ht : e ≠ 71) : some g ≠ v.ownBlock := by
  obtain ⟨A0, c0, hb, hg, hr0⟩ := h
  exact Kd.Q_ne ho hb ht
theorem IsS71.apartS {w0 W : World} {g : Nat} {f0 : List Int} {f1 : Int} {α : Type} {d : Kd α} {e : Nat} {base : Nat} {ok : Nat → Prop} {v : Value} {xs : List α} (h : IsS71 w0 W g f0 f1) (ho : d.S e W base ok v xs) (ht : ∀ q, q ∈ e :: d.E → q ≠ 71) : d.S e W base (fun k => ok k ∧ k ≠ g) v xs := by
  obtain ⟨A0, c0, hb, hg, hr0⟩ := h
  exact Kd.S_types ho hb ht
theorem IsS71.own_neS {w0 W : World} {g : Nat} {f0 : List Int} {f1 : Int} {α : Type} {d : Kd α} {e : Nat} {base : Nat} {ok : Nat → Prop} {v : Value} {xs : List α} (h : IsS71 w0 W g f0 f1) (ho : d.S e W base ok v xs) (ht : e ≠ 71) : some g ≠ v.ownBlock := by
  obtain ⟨A0, c0, hb, hg, hr0⟩ := h
  exact Kd.S_ne ho hb ht
theorem IsS71.lt {w0 W : World} {g : Nat} {f0 : List Int} {f1 : Int} (h : IsS71 w0 W g f0 f1) : g < W.heap.size := by
  obtain ⟨A0, c0, hb, hg, hr0⟩ := h
  exact blk_lt hb
theorem IsS71.ge {w0 W : World} {g : Nat} {f0 : List Int} {f1 : Int} (h : IsS71 w0 W g f0 f1) : w0.heap.size ≤ g := by
  obtain ⟨A0, c0, hb, hg, hr0⟩ := h
  exact hg
theorem IsS71.ne_blk {w0 W : World} {g : Nat} {f0 : List Int} {f1 : Int} {a : Nat} {cs : Array Value} {t : TypeId} {fr : Nat × Nat} (h : IsS71 w0 W g f0 f1) (hb2 : W.heap[a]? = some (.cells cs t fr)) (ht : t ≠ 71) : g ≠ a := by
  obtain ⟨A0, c0, hb, hg, hr0⟩ := h
  rintro rfl
  rw [hb] at hb2
  injection hb2 with hb2
  injection hb2 with _ ht2
  exact ht ht2.symm
theorem IsS71.far {w0 W : World} {g : Nat} {f0 : List Int} {f1 : Int} {p : Addr} (h : IsS71 w0 W g f0 f1) (hne : g ≠ p.block) (u : Value) : IsS71 w0 (W.setCell p u) g f0 f1 := by
  obtain ⟨A0, c0, hb, hg, hr0⟩ := h
  exact ⟨A0, c0, blk_far hb hne u, hg, hr0⟩
theorem cellS71_0 {W : World} {g : Nat} {A0 : Option Addr} {c0 : Nat} {f0 : List Int} {f1 : Int} (h : W.heap[g]? = some (.cells #[.slice A0 f0.length c0, .int .i64 f1] 71 (0, 0))) : W.cell? ⟨g, 0, none⟩ = some (.slice A0 f0.length c0) := (blk_cell h 0).trans rfl
theorem cellS71_1 {W : World} {g : Nat} {A0 : Option Addr} {c0 : Nat} {f0 : List Int} {f1 : Int} (h : W.heap[g]? = some (.cells #[.slice A0 f0.length c0, .int .i64 f1] 71 (0, 0))) : W.cell? ⟨g, 1, none⟩ = some (.int .i64 f1) := (blk_cell h 1).trans rfl
theorem IsS71.set_1 {w0 W : World} {g : Nat} {f0 : List Int} {f1 : Int} (h : IsS71 w0 W g f0 f1) (x : Int) : IsS71 w0 (W.setCell ⟨g, 1, none⟩ (.int .i64 x)) g f0 x := by
  obtain ⟨A0, c0, hb, hg, hr0⟩ := h
  exact ⟨A0, c0, by simpa using blk_set hb 1 (.int .i64 x), hg, hr0⟩
theorem IsS71.new (w0 W : World) (A0 : Option Addr) (c0 : Nat) (f0 : List Int) (f1 : Int) (hB : Below w0.heap.size w0 W) (hr0 : Kd.C (Kd.int .u8) w0 A0 f0.length f0) : IsS71 w0 (W.alloc (.cells #[.slice A0 f0.length c0, .int .i64 f1] 71)) W.heap.size f0 f1 := ⟨A0, c0, by simpa using heap_alloc_new W _, hB.size, hr0⟩

/-! ### spec_l1Open: function 30 -/
def spec_l1Open.f (l0 : List Int) : Option (List Int × Int) := some (l0, 0)
set_option maxHeartbeats 8000000 in
set_option maxRecDepth 100000 in
theorem spec_l1Open.calls (A0 : Option Addr) (c0 : Nat) (l0 : List Int) (r1 : List Int) (r2 : Int) (w0 w : World) (hB : Below w0.heap.size w0 w) (hr0 : Kd.C (Kd.int .u8) w0 A0 l0.length l0) (hc0 : l0.length ≤ c0) (h : spec_l1Open.f l0 = some (r1, r2)) :
    Calls Try.prog 30 #[.slice A0 l0.length c0] w fun e w' => ∃ g_ : Nat, e = .returned (.pointer (some ⟨g_, 0, none⟩)) ∧ IsS71 w0 w' g_ r1 r2 ∧ Below w0.heap.size w0 w' ∧ Below w.heap.size w w' := by
  have hu71 := Try.underlying71
  have HR0 := Aside0.mk hr0
  have HC0 := Aside0.mk hc0
  clear hr0 hc0
  have HBW := Aside0.mk (Below.refl w.heap.size w)
  have HW0 := Aside0.mk hB.size
  have HB := Aside0.mk hB
  clear hB
  have H : (some (l0, 0)) = some (r1, r2) := h
  clear h
  simp only [Option.some.injEq, Prod.mk.injEq] at H
  obtain ⟨rfl, rfl⟩ := H
  go_enter Try.func30, Try.ntmps30
  go_wp2_with (first | ((with_reducible refine gate_dst (N := 5) rfl ?_); refine box_event ?hg (N := 5) ?hd (cs := #[.slice A0 l0.length c0, .int .i64 0]) (t := 71) ?hr ?_; (case hd => rfl); (case hg => rfl); (case hr => first | (go_simp; done) | (go_simp; rfl)); intro gb166 hg w2 hbox hb; have n0_ := Aside0.mk (below_step HBW.out hb); have n1_ := Aside0.mk (below_step (by repeat (first | (with_reducible first | exact HB.out | apply below_alloc | apply pw_below_drewN | apply below_drew1) | exact HB.out)) hb); have n2_ := Aside0.mk (hbox); have n3_ := Aside0.mk ((by rw [hg]; exact (below_size (by repeat (first | (with_reducible first | exact HBW.out | apply below_alloc | apply pw_below_drewN | apply below_drew1) | exact HBW.out))) : w.heap.size ≤ gb166)); have n4_ := Aside0.mk ((Nat.le_trans HW0.out (by rw [hg]; exact (below_size (by repeat (first | (with_reducible first | exact HBW.out | apply below_alloc | apply pw_below_drewN | apply below_drew1) | exact HBW.out))) : w.heap.size ≤ gb166) : w0.heap.size ≤ gb166)); clear HBW; clear HB; have HBW := n0_; have HB := n1_; have BK166 := n2_; have GW166 := n3_; have GE166 := n4_; clear n0_ n1_ n2_ n3_ n4_; clear hb hbox hg))
  go_ret
  exact ⟨_, rfl, (show IsS71 w0 _ gb166 l0 0 from ⟨_, _, by (with_reducible repeat (first | refine blk_drewN ?_ _ | refine blk_drew ?_ | refine blk_alloc ?_ _)); exact BK166.out, GE166.out, HR0.out⟩), by repeat (first | (with_reducible first | exact HB.out | apply below_alloc | apply pw_below_drewN | apply below_drew1 | refine below_set ?_ GE166.out) | exact HB.out), by repeat (first | (with_reducible first | exact HBW.out | apply below_alloc | apply pw_below_drewN | apply below_drew1 | refine below_set ?_ GW166.out) | exact HBW.out)⟩

/-! ### spec_l1Rd_next: function 49 -/
def spec_l1Rd_next.f (s0_0 : List Int) (s0_1 : Int) : Option (Int × Int) := if s0_1 ≥ (s0_0.length : Int) then (some (0, s0_1)) else (if 0 ≤ (wrap64 ((wrap64 (s0_1 + 1)) - 1)) then (if (wrap64 ((wrap64 (s0_1 + 1)) - 1)) < (s0_0.length : Int) then (some (wrap64 (rd s0_0 (wrap64 ((wrap64 (s0_1 + 1)) - 1))), wrap64 (s0_1 + 1))) else (none)) else (none))
set_option maxHeartbeats 8000000 in
set_option maxRecDepth 100000 in
theorem spec_l1Rd_next.calls (g : Nat) (s0_0 : List Int) (s0_1 : Int) (r1 : Int) (r2 : Int) (w0 w : World) (hI : IsS71 w0 w g s0_0 s0_1) (hB : Below w0.heap.size w0 w) (h : spec_l1Rd_next.f s0_0 s0_1 = some (r1, r2)) :
    Calls Try.prog 49 #[.pointer (some ⟨g, 0, none⟩)] w fun e w' => e = .returned (.int .i64 r1) ∧ IsS71 w0 w' g s0_0 r2 ∧ Below w0.heap.size w0 w' ∧ KeepBut w w' g none := by
  have HI0 := Aside0.mk hI
  have HK := Aside0.mk (KeepBut.refl w g none)
  have HL := Aside0.mk hB.size
  clear hI
  have HW0 := Aside0.mk hB.size
  have HB := Aside0.mk hB
  clear hB
  have H : (if s0_1 ≥ (s0_0.length : Int) then (some (0, s0_1)) else (if 0 ≤ (wrap64 ((wrap64 (s0_1 + 1)) - 1)) then (if (wrap64 ((wrap64 (s0_1 + 1)) - 1)) < (s0_0.length : Int) then (some (wrap64 (rd s0_0 (wrap64 ((wrap64 (s0_1 + 1)) - 1))), wrap64 (s0_1 + 1))) else (none)) else (none))) = some (r1, r2) := h
  clear h
  by_cases c2 : s0_1 ≥ (s0_0.length : Int)
  · rw [if_pos c2] at H
    have c2b0 : decide ((s0_0.length : Int) ≤ s0_1) = true := decide_eq_true c2
    clear c2
    simp only [Option.some.injEq, Prod.mk.injEq] at H
    obtain ⟨rfl, rfl⟩ := H
    obtain ⟨ASz3_0, cSz3_0, HGz3, hgz3, HSz3_0⟩ := HI0.out
    have hcz3_0 := cellS71_0 HGz3
    have hcz3_1 := cellS71_1 HGz3
    have hfz3_1 := blk_frozen HGz3 1
    clear HGz3 hgz3
    go_enter Try.func49, Try.ntmps49
    go_wp2
    repeat (go_quiet (fail); try go_wp2)
    go_ret
    exact ⟨by first | rfl | (simp [errW_none, errW_some] <;> rfl) | (simp [*, errW_none, errW_some] <;> rfl), by repeat (first | (with_reducible first | exact HI0.out | apply IsS71.alloc | apply IsS71.drewN | apply IsS71.drew | apply IsS71.set_1) | exact HI0.out), by repeat (first | (with_reducible first | exact HB.out | apply below_alloc | apply pw_below_drewN | apply below_drew1 | refine below_set ?_ (IsS71.ge HI0.out)) | exact HB.out), by repeat (first | (with_reducible first | exact HK.out | apply KeepBut.set_ | apply keep_drewN | apply keep_drew | apply keep_alloc) | exact HK.out)⟩
  · rw [if_neg c2] at H
    have c2b0 : decide ((s0_0.length : Int) ≤ s0_1) = false := decide_eq_false c2
    clear c2
    obtain ⟨ji4, hji4⟩ : ∃ j_ : Int, (wrap64 ((wrap64 (s0_1 + 1)) - 1)) = j_ := ⟨_, rfl⟩
    replace H : (if 0 ≤ (ji4) then (if (ji4) < (s0_0.length : Int) then (some (wrap64 (rd s0_0 (ji4)), wrap64 (s0_1 + 1))) else (none)) else (none)) = some (r1, r2) := by first | (rw [hji4] at H; exact H) | (simp only [hji4] at H ⊢; exact H)
    have hji4w : (IntKind.i64.wrap ((wrap64 (s0_1 + 1)) - 1)) = ji4 := (i64_w _).trans hji4
    by_cases c5 : 0 ≤ (ji4)
    · rw [if_pos c5] at H
      have c5b0 : decide (0 ≤ (ji4)) = true := decide_eq_true c5
      clear c5
      by_cases c6 : (ji4) < (s0_0.length : Int)
      · rw [if_pos c6] at H
        have c6b0 : decide ((ji4) < (s0_0.length : Int)) = true := decide_eq_true c6
        clear c6
        simp only [Option.some.injEq, Prod.mk.injEq] at H
        obtain ⟨rfl, rfl⟩ := H
        obtain ⟨ASz7_0, cSz7_0, HGz7, hgz7, HSz7_0⟩ := HI0.out
        have hcz7_0 := cellS71_0 HGz7
        have hcz7_1 := cellS71_1 HGz7
        have hfz7_1 := blk_frozen HGz7 1
        clear HGz7 hgz7
        have p167 : 0 ≤ ((ji4) : Int) := of_decide_eq_true (by first | (with_reducible assumption) | assumption)
        have q167 : (ji4) < (s0_0.length : Int) := of_decide_eq_true (by first | (with_reducible assumption) | assumption)
        obtain ⟨ad167, e167, hx167_0⟩ := Kd.at_int HSz7_0 (ji4) p167 q167
        cases e167
        have hn167_0 : ad167.block ≠ g := Nat.ne_of_lt (Nat.lt_of_lt_of_le (by have := World.block_lt_of_cell? _ _ hx167_0; first | rwa [add_block] at this | exact this) (IsS71.ge HI0.out))
        replace hx167_0 := pw_cell_below HB.out hx167_0
        replace hx167_0 := (cell_far (p := ⟨g, 1, none⟩) (by first | (rw [add_block]; exact hn167_0) | (show (Addr.add _ _).block ≠ _; rw [add_block]; exact hn167_0) | exact hn167_0) (.int .i64 (wrap64 (s0_1 + 1)))).trans hx167_0
        (try have hy167_0 := fun (n_ : Nat) => (show (((w.drewN n_).setCell ⟨g, 1, none⟩ (.int .i64 (wrap64 (s0_1 + 1))))).cell? _ = some _ from hx167_0))
        clear hn167_0
        replace p167 := eq_true p167
        replace q167 := eq_true q167
        go_enter Try.func49, Try.ntmps49
        go_wp2
        repeat (go_quiet (fail); try go_wp2)
        go_ret
        exact ⟨by first | rfl | (simp [errW_none, errW_some] <;> rfl) | (simp only [← hji4]; first | rfl | (simp [errW_none, errW_some] <;> rfl)) | (simp [*, errW_none, errW_some] <;> rfl), by repeat (first | (with_reducible first | exact HI0.out | apply IsS71.alloc | apply IsS71.drewN | apply IsS71.drew | apply IsS71.set_1) | exact HI0.out), by repeat (first | (with_reducible first | exact HB.out | apply below_alloc | apply pw_below_drewN | apply below_drew1 | refine below_set ?_ (IsS71.ge HI0.out)) | exact HB.out), by repeat (first | (with_reducible first | exact HK.out | apply KeepBut.set_ | apply keep_drewN | apply keep_drew | apply keep_alloc) | exact HK.out)⟩
      · rw [if_neg c6] at H
        exact absurd H (by simp)
    · rw [if_neg c5] at H
      exact absurd H (by simp)

/-! ### spec_l1Rd_below: function 32 -/
def spec_l1Rd_below.f (s0_0 : List Int) (s0_1 : Int) (a1 : Int) : Option (Int × Int) := if a1 ≤ 1 then (some (0, s0_1)) else (if a1 ≤ 256 then ((spec_l1Rd_next.f s0_0 s0_1).bind fun bt168 => (if a1 = 0 then (none) else (some (Int.tmod bt168.1 a1, bt168.2)))) else ((spec_l1Rd_next.f s0_0 s0_1).bind fun bt170 => ((spec_l1Rd_next.f s0_0 bt170.2).bind fun bt172 => (if a1 = 0 then (none) else (some (Int.tmod (wrap64 ((wrap64 (bt170.1 * 256)) + bt172.1)) a1, bt172.2))))))
set_option maxHeartbeats 8000000 in
set_option maxRecDepth 100000 in
theorem spec_l1Rd_below.calls (g : Nat) (s0_0 : List Int) (s0_1 : Int) (a1 : Int) (r1 : Int) (r2 : Int) (w0 w : World) (hI : IsS71 w0 w g s0_0 s0_1) (hB : Below w0.heap.size w0 w) (h : spec_l1Rd_below.f s0_0 s0_1 a1 = some (r1, r2)) :
    Calls Try.prog 32 #[.pointer (some ⟨g, 0, none⟩), .int .i64 a1] w fun e w' => e = .returned (.int .i64 r1) ∧ IsS71 w0 w' g s0_0 r2 ∧ Below w0.heap.size w0 w' ∧ KeepBut w w' g none := by
  have HI0 := Aside0.mk hI
  have HK := Aside0.mk (KeepBut.refl w g none)
  have HL := Aside0.mk hB.size
  clear hI
  have HW0 := Aside0.mk hB.size
  have HB := Aside0.mk hB
  clear hB
  have H : (if a1 ≤ 1 then (some (0, s0_1)) else (if a1 ≤ 256 then ((spec_l1Rd_next.f s0_0 s0_1).bind fun bt168 => (if a1 = 0 then (none) else (some (Int.tmod bt168.1 a1, bt168.2)))) else ((spec_l1Rd_next.f s0_0 s0_1).bind fun bt170 => ((spec_l1Rd_next.f s0_0 bt170.2).bind fun bt172 => (if a1 = 0 then (none) else (some (Int.tmod (wrap64 ((wrap64 (bt170.1 * 256)) + bt172.1)) a1, bt172.2))))))) = some (r1, r2) := h
  clear h
  by_cases c3 : a1 ≤ 1
  · rw [if_pos c3] at H
    have c3b0 : decide (a1 ≤ 1) = true := decide_eq_true c3
    clear c3
    simp only [Option.some.injEq, Prod.mk.injEq] at H
    obtain ⟨rfl, rfl⟩ := H
    go_enter Try.func32, Try.ntmps32
    go_wp2
    go_ret
    exact ⟨by first | rfl | (simp [errW_none, errW_some] <;> rfl) | (simp [*, errW_none, errW_some] <;> rfl), by repeat (first | (with_reducible first | exact HI0.out | apply IsS71.alloc | apply IsS71.drewN | apply IsS71.drew | apply IsS71.set_1) | exact HI0.out), by repeat (first | (with_reducible first | exact HB.out | apply below_alloc | apply pw_below_drewN | apply below_drew1 | refine below_set ?_ (IsS71.ge HI0.out)) | exact HB.out), by repeat (first | (with_reducible first | exact HK.out | apply KeepBut.set_ | apply keep_drewN | apply keep_drew | apply keep_alloc) | exact HK.out)⟩
  · rw [if_neg c3] at H
    have c3b0 : decide (a1 ≤ 1) = false := decide_eq_false c3
    clear c3
    by_cases c4 : a1 ≤ 256
    · rw [if_pos c4] at H
      have c4b0 : decide (a1 ≤ 256) = true := decide_eq_true c4
      clear c4
      replace H := Option.bind_eq_some_iff.mp H
      obtain ⟨⟨t168, t169⟩, A50, H⟩ := H
      replace H : (if a1 = 0 then (none) else (some (Int.tmod t168 a1, t169))) = some (r1, r2) := H
      have A5 := Aside0.mk A50
      clear A50
      by_cases c6 : a1 = 0
      · rw [if_pos c6] at H
        exact absurd H (by simp)
      · rw [if_neg c6] at H
        have c6b0 : (a1 == 0) = false := beq_eq_false_iff_ne.mpr c6
        have c6b1 : (a1 != 0) = true := bne_iff_ne.mpr c6
        simp only [Option.some.injEq, Prod.mk.injEq] at H
        obtain ⟨rfl, rfl⟩ := H
        go_enter Try.func32, Try.ntmps32
        go_wp2_with (first | ((with_reducible refine gate_callee (f := 49) rfl ?_); refine goesL_ (some 11) rfl rfl Try.func49 (by kernel_rfl) rfl #[.pointer (some ⟨g, 0, none⟩)] rfl (by (try simp only [List.map_toArray, List.map_cons, List.map_nil]); first | done | rfl | (simp only [List.length_drop, List.length_take]; rfl)) ?_; (with_reducible refine (spec_l1Rd_next.calls g s0_0 s0_1 t168 t169 w0 _ ?side1 ?side2 A5.out).mono ?_); (case side1 => repeat (first | (with_reducible first | exact HI0.out | apply IsS71.alloc | apply IsS71.drewN | apply IsS71.drew | apply IsS71.set_1) | exact HI0.out)); (case side2 => repeat (first | (with_reducible first | exact HB.out | apply below_alloc | apply pw_below_drewN | apply below_drew1 | refine below_set ?_ (IsS71.ge HI0.out)) | exact HB.out)); rintro e w7 ⟨rfl, hi, hb, hk⟩; refine ⟨_, rfl, ?_⟩; have n0_ := Aside0.mk (KeepBut.trans (by repeat (first | (with_reducible first | exact HK.out | apply KeepBut.set_ | apply keep_drewN | apply keep_drew | apply keep_alloc) | exact HK.out)) hk (.inl rfl)); have n1_ := Aside0.mk (hb); have n2_ := Aside0.mk (hi); clear HK; clear HB; clear HI0; have HK := n0_; have HB := n1_; have HI0 := n2_; clear n0_ n1_ n2_; (try clear hb); (try clear hb2); (try clear hk); (try clear hi)))
        go_ret
        exact ⟨by first | rfl | (simp [errW_none, errW_some] <;> rfl) | (simp [*, errW_none, errW_some] <;> rfl), by repeat (first | (with_reducible first | exact HI0.out | apply IsS71.alloc | apply IsS71.drewN | apply IsS71.drew | apply IsS71.set_1) | exact HI0.out), by repeat (first | (with_reducible first | exact HB.out | apply below_alloc | apply pw_below_drewN | apply below_drew1 | refine below_set ?_ (IsS71.ge HI0.out)) | exact HB.out), by repeat (first | (with_reducible first | exact HK.out | apply KeepBut.set_ | apply keep_drewN | apply keep_drew | apply keep_alloc) | exact HK.out)⟩
    · rw [if_neg c4] at H
      have c4b0 : decide (a1 ≤ 256) = false := decide_eq_false c4
      clear c4
      replace H := Option.bind_eq_some_iff.mp H
      obtain ⟨⟨t170, t171⟩, A80, H⟩ := H
      replace H : ((spec_l1Rd_next.f s0_0 t171).bind fun bt172 => (if a1 = 0 then (none) else (some (Int.tmod (wrap64 ((wrap64 (t170 * 256)) + bt172.1)) a1, bt172.2)))) = some (r1, r2) := H
      have A8 := Aside0.mk A80
      clear A80
      replace H := Option.bind_eq_some_iff.mp H
      obtain ⟨⟨t172, t173⟩, A90, H⟩ := H
      replace H : (if a1 = 0 then (none) else (some (Int.tmod (wrap64 ((wrap64 (t170 * 256)) + t172)) a1, t173))) = some (r1, r2) := H
      have A9 := Aside0.mk A90
      clear A90
      by_cases c10 : a1 = 0
      · rw [if_pos c10] at H
        exact absurd H (by simp)
      · rw [if_neg c10] at H
        have c10b0 : (a1 == 0) = false := beq_eq_false_iff_ne.mpr c10
        have c10b1 : (a1 != 0) = true := bne_iff_ne.mpr c10
        simp only [Option.some.injEq, Prod.mk.injEq] at H
        obtain ⟨rfl, rfl⟩ := H
        go_enter Try.func32, Try.ntmps32
        go_wp2_with (first | ((with_reducible refine gate_callee (f := 49) rfl ?_); refine goesL_ (some 15) rfl rfl Try.func49 (by kernel_rfl) rfl #[.pointer (some ⟨g, 0, none⟩)] rfl (by (try simp only [List.map_toArray, List.map_cons, List.map_nil]); first | done | rfl | (simp only [List.length_drop, List.length_take]; rfl)) ?_; (with_reducible refine (spec_l1Rd_next.calls g s0_0 s0_1 t170 t171 w0 _ ?side1 ?side2 A8.out).mono ?_); (case side1 => repeat (first | (with_reducible first | exact HI0.out | apply IsS71.alloc | apply IsS71.drewN | apply IsS71.drew | apply IsS71.set_1) | exact HI0.out)); (case side2 => repeat (first | (with_reducible first | exact HB.out | apply below_alloc | apply pw_below_drewN | apply below_drew1 | refine below_set ?_ (IsS71.ge HI0.out)) | exact HB.out)); rintro e w11 ⟨rfl, hi, hb, hk⟩; refine ⟨_, rfl, ?_⟩; have n0_ := Aside0.mk (KeepBut.trans (by repeat (first | (with_reducible first | exact HK.out | apply KeepBut.set_ | apply keep_drewN | apply keep_drew | apply keep_alloc) | exact HK.out)) hk (.inl rfl)); have n1_ := Aside0.mk (hb); have n2_ := Aside0.mk (hi); clear HK; clear HB; clear HI0; have HK := n0_; have HB := n1_; have HI0 := n2_; clear n0_ n1_ n2_; (try clear hb); (try clear hb2); (try clear hk); (try clear hi)) | ((with_reducible refine gate_callee (f := 49) rfl ?_); refine goesL_ (some 19) rfl rfl Try.func49 (by kernel_rfl) rfl #[.pointer (some ⟨g, 0, none⟩)] rfl (by (try simp only [List.map_toArray, List.map_cons, List.map_nil]); first | done | rfl | (simp only [List.length_drop, List.length_take]; rfl)) ?_; (with_reducible refine (spec_l1Rd_next.calls g s0_0 t171 t172 t173 w0 _ ?side1 ?side2 A9.out).mono ?_); (case side1 => repeat (first | (with_reducible first | exact HI0.out | apply IsS71.alloc | apply IsS71.drewN | apply IsS71.drew | apply IsS71.set_1) | exact HI0.out)); (case side2 => repeat (first | (with_reducible first | exact HB.out | apply below_alloc | apply pw_below_drewN | apply below_drew1 | refine below_set ?_ (IsS71.ge HI0.out)) | exact HB.out)); rintro e w12 ⟨rfl, hi, hb, hk⟩; refine ⟨_, rfl, ?_⟩; have n0_ := Aside0.mk (KeepBut.trans (by repeat (first | (with_reducible first | exact HK.out | apply KeepBut.set_ | apply keep_drewN | apply keep_drew | apply keep_alloc) | exact HK.out)) hk (.inl rfl)); have n1_ := Aside0.mk (hb); have n2_ := Aside0.mk (hi); clear HK; clear HB; clear HI0; have HK := n0_; have HB := n1_; have HI0 := n2_; clear n0_ n1_ n2_; (try clear hb); (try clear hb2); (try clear hk); (try clear hi)))
        go_ret
        exact ⟨by first | rfl | (simp [errW_none, errW_some] <;> rfl) | (simp [*, errW_none, errW_some] <;> rfl), by repeat (first | (with_reducible first | exact HI0.out | apply IsS71.alloc | apply IsS71.drewN | apply IsS71.drew | apply IsS71.set_1) | exact HI0.out), by repeat (first | (with_reducible first | exact HB.out | apply below_alloc | apply pw_below_drewN | apply below_drew1 | refine below_set ?_ (IsS71.ge HI0.out)) | exact HB.out), by repeat (first | (with_reducible first | exact HK.out | apply KeepBut.set_ | apply keep_drewN | apply keep_drew | apply keep_alloc) | exact HK.out)⟩

/-! ### spec_l1Rd_once: function 33 -/
def spec_l1Rd_once.f (s0_0 : List Int) (s0_1 : Int) (a1 : Int) : Option (Bool × Int) := (spec_l1Rd_below.f s0_0 s0_1 a1).bind fun bt174 => (some ((bt174.1 == (wrap64 (a1 - 1))), bt174.2))
set_option maxHeartbeats 8000000 in
set_option maxRecDepth 100000 in
theorem spec_l1Rd_once.calls (g : Nat) (s0_0 : List Int) (s0_1 : Int) (a1 : Int) (r1 : Bool) (r2 : Int) (w0 w : World) (hI : IsS71 w0 w g s0_0 s0_1) (hB : Below w0.heap.size w0 w) (h : spec_l1Rd_once.f s0_0 s0_1 a1 = some (r1, r2)) :
    Calls Try.prog 33 #[.pointer (some ⟨g, 0, none⟩), .int .i64 a1] w fun e w' => e = .returned (.bool r1) ∧ IsS71 w0 w' g s0_0 r2 ∧ Below w0.heap.size w0 w' ∧ KeepBut w w' g none := by
  have HI0 := Aside0.mk hI
  have HK := Aside0.mk (KeepBut.refl w g none)
  have HL := Aside0.mk hB.size
  clear hI
  have HW0 := Aside0.mk hB.size
  have HB := Aside0.mk hB
  clear hB
  have H : ((spec_l1Rd_below.f s0_0 s0_1 a1).bind fun bt174 => (some ((bt174.1 == (wrap64 (a1 - 1))), bt174.2))) = some (r1, r2) := h
  clear h
  replace H := Option.bind_eq_some_iff.mp H
  obtain ⟨⟨t174, t175⟩, A30, H⟩ := H
  replace H : (some ((t174 == (wrap64 (a1 - 1))), t175)) = some (r1, r2) := H
  have A3 := Aside0.mk A30
  clear A30
  simp only [Option.some.injEq, Prod.mk.injEq] at H
  obtain ⟨rfl, rfl⟩ := H
  go_enter Try.func33, Try.ntmps33
  go_wp2_with (first | ((with_reducible refine gate_callee (f := 32) rfl ?_); refine goesL_ (some 7) rfl rfl Try.func32 (by kernel_rfl) rfl #[.pointer (some ⟨g, 0, none⟩), .int .i64 a1] rfl (by (try simp only [List.map_toArray, List.map_cons, List.map_nil]); first | done | rfl | (simp only [List.length_drop, List.length_take]; rfl)) ?_; (with_reducible refine (spec_l1Rd_below.calls g s0_0 s0_1 a1 t174 t175 w0 _ ?side1 ?side2 A3.out).mono ?_); (case side1 => repeat (first | (with_reducible first | exact HI0.out | apply IsS71.alloc | apply IsS71.drewN | apply IsS71.drew | apply IsS71.set_1) | exact HI0.out)); (case side2 => repeat (first | (with_reducible first | exact HB.out | apply below_alloc | apply pw_below_drewN | apply below_drew1 | refine below_set ?_ (IsS71.ge HI0.out)) | exact HB.out)); rintro e w4 ⟨rfl, hi, hb, hk⟩; refine ⟨_, rfl, ?_⟩; have n0_ := Aside0.mk (KeepBut.trans (by repeat (first | (with_reducible first | exact HK.out | apply KeepBut.set_ | apply keep_drewN | apply keep_drew | apply keep_alloc) | exact HK.out)) hk (.inl rfl)); have n1_ := Aside0.mk (hb); have n2_ := Aside0.mk (hi); clear HK; clear HB; clear HI0; have HK := n0_; have HB := n1_; have HI0 := n2_; clear n0_ n1_ n2_; (try clear hb); (try clear hb2); (try clear hk); (try clear hi)))
  go_ret
  exact ⟨by first | rfl | (simp [errW_none, errW_some] <;> rfl) | (simp [*, errW_none, errW_some] <;> rfl), by repeat (first | (with_reducible first | exact HI0.out | apply IsS71.alloc | apply IsS71.drewN | apply IsS71.drew | apply IsS71.set_1) | exact HI0.out), by repeat (first | (with_reducible first | exact HB.out | apply below_alloc | apply pw_below_drewN | apply below_drew1 | refine below_set ?_ (IsS71.ge HI0.out)) | exact HB.out), by repeat (first | (with_reducible first | exact HK.out | apply KeepBut.set_ | apply keep_drewN | apply keep_drew | apply keep_alloc) | exact HK.out)⟩

/-! ### spec_l1Rd_size: function 64 -/
def spec_l1Rd_size.f (s0_0 : List Int) (s0_1 : Int) (a1 : Int) (a2 : Int) : Option (Int × Int) := if a1 = 0 then (none) else (if (wrap64 (1 + (wrap64 ((s0_0.length : Int) / a1)))) > a2 then ((spec_l1Rd_below.f s0_0 s0_1 a2).bind fun bt176 => (some (wrap64 (1 + bt176.1), bt176.2))) else ((spec_l1Rd_below.f s0_0 s0_1 (wrap64 (1 + (wrap64 ((s0_0.length : Int) / a1))))).bind fun bt178 => (some (wrap64 (1 + bt178.1), bt178.2))))
set_option maxHeartbeats 8000000 in
set_option maxRecDepth 100000 in
theorem spec_l1Rd_size.calls (g : Nat) (s0_0 : List Int) (s0_1 : Int) (a1 : Int) (a2 : Int) (r1 : Int) (r2 : Int) (w0 w : World) (hI : IsS71 w0 w g s0_0 s0_1) (hB : Below w0.heap.size w0 w) (h : spec_l1Rd_size.f s0_0 s0_1 a1 a2 = some (r1, r2)) :
    Calls Try.prog 64 #[.pointer (some ⟨g, 0, none⟩), .int .i64 a1, .int .i64 a2] w fun e w' => e = .returned (.int .i64 r1) ∧ IsS71 w0 w' g s0_0 r2 ∧ Below w0.heap.size w0 w' ∧ KeepBut w w' g none := by
  have HI0 := Aside0.mk hI
  have HK := Aside0.mk (KeepBut.refl w g none)
  have HL := Aside0.mk hB.size
  clear hI
  have HW0 := Aside0.mk hB.size
  have HB := Aside0.mk hB
  clear hB
  have H : (if a1 = 0 then (none) else (if (wrap64 (1 + (wrap64 ((s0_0.length : Int) / a1)))) > a2 then ((spec_l1Rd_below.f s0_0 s0_1 a2).bind fun bt176 => (some (wrap64 (1 + bt176.1), bt176.2))) else ((spec_l1Rd_below.f s0_0 s0_1 (wrap64 (1 + (wrap64 ((s0_0.length : Int) / a1))))).bind fun bt178 => (some (wrap64 (1 + bt178.1), bt178.2))))) = some (r1, r2) := h
  clear h
  by_cases c4 : a1 = 0
  · rw [if_pos c4] at H
    exact absurd H (by simp)
  · rw [if_neg c4] at H
    have c4b0 : (a1 == 0) = false := beq_eq_false_iff_ne.mpr c4
    have c4b1 : (a1 != 0) = true := bne_iff_ne.mpr c4
    by_cases c5 : (wrap64 (1 + (wrap64 ((s0_0.length : Int) / a1)))) > a2
    · rw [if_pos c5] at H
      have c5b0 : decide (a2 < (wrap64 (1 + (wrap64 ((s0_0.length : Int) / a1))))) = true := decide_eq_true c5
      clear c5
      replace H := Option.bind_eq_some_iff.mp H
      obtain ⟨⟨t176, t177⟩, A60, H⟩ := H
      replace H : (some (wrap64 (1 + t176), t177)) = some (r1, r2) := H
      have A6 := Aside0.mk A60
      clear A60
      simp only [Option.some.injEq, Prod.mk.injEq] at H
      obtain ⟨rfl, rfl⟩ := H
      obtain ⟨ASz7_0, cSz7_0, HGz7, hgz7, HSz7_0⟩ := HI0.out
      have hcz7_0 := cellS71_0 HGz7
      have hcz7_1 := cellS71_1 HGz7
      have hfz7_1 := blk_frozen HGz7 1
      clear HGz7 hgz7
      go_enter Try.func64, Try.ntmps64
      go_wp2_with (first | ((with_reducible refine gate_callee (f := 32) rfl ?_); refine goesL_ (some 22) rfl rfl Try.func32 (by kernel_rfl) rfl #[.pointer (some ⟨g, 0, none⟩), .int .i64 a2] rfl (by (try simp only [List.map_toArray, List.map_cons, List.map_nil]); first | done | rfl | (simp only [List.length_drop, List.length_take]; rfl)) ?_; (with_reducible refine (spec_l1Rd_below.calls g s0_0 s0_1 a2 t176 t177 w0 _ ?side1 ?side2 A6.out).mono ?_); (case side1 => repeat (first | (with_reducible first | exact HI0.out | apply IsS71.alloc | apply IsS71.drewN | apply IsS71.drew | apply IsS71.set_1) | exact HI0.out)); (case side2 => repeat (first | (with_reducible first | exact HB.out | apply below_alloc | apply pw_below_drewN | apply below_drew1 | refine below_set ?_ (IsS71.ge HI0.out)) | exact HB.out)); rintro e w8 ⟨rfl, hi, hb, hk⟩; refine ⟨_, rfl, ?_⟩; have n0_ := Aside0.mk (KeepBut.trans (by repeat (first | (with_reducible first | exact HK.out | apply KeepBut.set_ | apply keep_drewN | apply keep_drew | apply keep_alloc) | exact HK.out)) hk (.inl rfl)); have n1_ := Aside0.mk (hb); have n2_ := Aside0.mk (hi); clear HK; clear HB; clear HI0; have HK := n0_; have HB := n1_; have HI0 := n2_; clear n0_ n1_ n2_; (try clear hb); (try clear hb2); (try clear hk); (try clear hi)))
      go_ret
      exact ⟨by first | rfl | (simp [errW_none, errW_some] <;> rfl) | (simp [*, errW_none, errW_some] <;> rfl), by repeat (first | (with_reducible first | exact HI0.out | apply IsS71.alloc | apply IsS71.drewN | apply IsS71.drew | apply IsS71.set_1) | exact HI0.out), by repeat (first | (with_reducible first | exact HB.out | apply below_alloc | apply pw_below_drewN | apply below_drew1 | refine below_set ?_ (IsS71.ge HI0.out)) | exact HB.out), by repeat (first | (with_reducible first | exact HK.out | apply KeepBut.set_ | apply keep_drewN | apply keep_drew | apply keep_alloc) | exact HK.out)⟩
    · rw [if_neg c5] at H
      have c5b0 : decide (a2 < (wrap64 (1 + (wrap64 ((s0_0.length : Int) / a1))))) = false := decide_eq_false c5
      clear c5
      replace H := Option.bind_eq_some_iff.mp H
      obtain ⟨⟨t178, t179⟩, A90, H⟩ := H
      replace H : (some (wrap64 (1 + t178), t179)) = some (r1, r2) := H
      have A9 := Aside0.mk A90
      clear A90
      simp only [Option.some.injEq, Prod.mk.injEq] at H
      obtain ⟨rfl, rfl⟩ := H
      obtain ⟨ASz10_0, cSz10_0, HGz10, hgz10, HSz10_0⟩ := HI0.out
      have hcz10_0 := cellS71_0 HGz10
      have hcz10_1 := cellS71_1 HGz10
      have hfz10_1 := blk_frozen HGz10 1
      clear HGz10 hgz10
      go_enter Try.func64, Try.ntmps64
      go_wp2_with (first | ((with_reducible refine gate_callee (f := 32) rfl ?_); refine goesL_ (some 22) rfl rfl Try.func32 (by kernel_rfl) rfl #[.pointer (some ⟨g, 0, none⟩), .int .i64 (wrap64 (1 + (wrap64 ((s0_0.length : Int) / a1))))] rfl (by (try simp only [List.map_toArray, List.map_cons, List.map_nil]); first | done | rfl | (simp only [List.length_drop, List.length_take]; rfl)) ?_; (with_reducible refine (spec_l1Rd_below.calls g s0_0 s0_1 (wrap64 (1 + (wrap64 ((s0_0.length : Int) / a1)))) t178 t179 w0 _ ?side1 ?side2 A9.out).mono ?_); (case side1 => repeat (first | (with_reducible first | exact HI0.out | apply IsS71.alloc | apply IsS71.drewN | apply IsS71.drew | apply IsS71.set_1) | exact HI0.out)); (case side2 => repeat (first | (with_reducible first | exact HB.out | apply below_alloc | apply pw_below_drewN | apply below_drew1 | refine below_set ?_ (IsS71.ge HI0.out)) | exact HB.out)); rintro e w11 ⟨rfl, hi, hb, hk⟩; refine ⟨_, rfl, ?_⟩; have n0_ := Aside0.mk (KeepBut.trans (by repeat (first | (with_reducible first | exact HK.out | apply KeepBut.set_ | apply keep_drewN | apply keep_drew | apply keep_alloc) | exact HK.out)) hk (.inl rfl)); have n1_ := Aside0.mk (hb); have n2_ := Aside0.mk (hi); clear HK; clear HB; clear HI0; have HK := n0_; have HB := n1_; have HI0 := n2_; clear n0_ n1_ n2_; (try clear hb); (try clear hb2); (try clear hk); (try clear hi)))
      go_ret
      exact ⟨by first | rfl | (simp [errW_none, errW_some] <;> rfl) | (simp [*, errW_none, errW_some] <;> rfl), by repeat (first | (with_reducible first | exact HI0.out | apply IsS71.alloc | apply IsS71.drewN | apply IsS71.drew | apply IsS71.set_1) | exact HI0.out), by repeat (first | (with_reducible first | exact HB.out | apply below_alloc | apply pw_below_drewN | apply below_drew1 | refine below_set ?_ (IsS71.ge HI0.out)) | exact HB.out), by repeat (first | (with_reducible first | exact HK.out | apply KeepBut.set_ | apply keep_drewN | apply keep_drew | apply keep_alloc) | exact HK.out)⟩

/-! ### spec_l1Rd_tenth: function 65 -/
def spec_l1Rd_tenth.f (s0_0 : List Int) (s0_1 : Int) (a1 : Int) (a2 : Int) : Option (Nat × Int) := (spec_l1Rd_below.f s0_0 s0_1 (wrap64 ((wrap64 (a2 - a1)) + 1))).bind fun bt180 => (if fok .quo (fofi (wrap64 (a1 + bt180.1))) 4621819117588971520 = true then (some (fop .quo (fofi (wrap64 (a1 + bt180.1))) 4621819117588971520, bt180.2)) else (none))
set_option maxHeartbeats 8000000 in
set_option maxRecDepth 100000 in
theorem spec_l1Rd_tenth.calls (g : Nat) (s0_0 : List Int) (s0_1 : Int) (a1 : Int) (a2 : Int) (r1 : Nat) (r2 : Int) (w0 w : World) (hI : IsS71 w0 w g s0_0 s0_1) (hB : Below w0.heap.size w0 w) (h : spec_l1Rd_tenth.f s0_0 s0_1 a1 a2 = some (r1, r2)) :
    Calls Try.prog 65 #[.pointer (some ⟨g, 0, none⟩), .int .i64 a1, .int .i64 a2] w fun e w' => e = .returned (.float .f64 r1) ∧ IsS71 w0 w' g s0_0 r2 ∧ Below w0.heap.size w0 w' ∧ KeepBut w w' g none := by
  have HI0 := Aside0.mk hI
  have HK := Aside0.mk (KeepBut.refl w g none)
  have HL := Aside0.mk hB.size
  clear hI
  have HW0 := Aside0.mk hB.size
  have HB := Aside0.mk hB
  clear hB
  have H : ((spec_l1Rd_below.f s0_0 s0_1 (wrap64 ((wrap64 (a2 - a1)) + 1))).bind fun bt180 => (if fok .quo (fofi (wrap64 (a1 + bt180.1))) 4621819117588971520 = true then (some (fop .quo (fofi (wrap64 (a1 + bt180.1))) 4621819117588971520, bt180.2)) else (none))) = some (r1, r2) := h
  clear h
  replace H := Option.bind_eq_some_iff.mp H
  obtain ⟨⟨t180, t181⟩, A40, H⟩ := H
  replace H : (if fok .quo (fofi (wrap64 (a1 + t180))) 4621819117588971520 = true then (some (fop .quo (fofi (wrap64 (a1 + t180))) 4621819117588971520, t181)) else (none)) = some (r1, r2) := H
  have A4 := Aside0.mk A40
  clear A40
  by_cases c5 : fok .quo (fofi (wrap64 (a1 + t180))) 4621819117588971520 = true
  · rw [if_pos c5] at H
    have c5b0 := eq_true c5
    have c5b1 : decide (fok .quo (fofi (wrap64 (a1 + t180))) 4621819117588971520 = true) = true := decide_eq_true c5
    simp only [Option.some.injEq, Prod.mk.injEq] at H
    obtain ⟨rfl, rfl⟩ := H
    go_enter Try.func65, Try.ntmps65
    go_wp2_with (first | ((with_reducible refine gate_callee (f := 32) rfl ?_); refine goesL_ (some 13) rfl rfl Try.func32 (by kernel_rfl) rfl #[.pointer (some ⟨g, 0, none⟩), .int .i64 (wrap64 ((wrap64 (a2 - a1)) + 1))] rfl (by (try simp only [List.map_toArray, List.map_cons, List.map_nil]); first | done | rfl | (simp only [List.length_drop, List.length_take]; rfl)) ?_; (with_reducible refine (spec_l1Rd_below.calls g s0_0 s0_1 (wrap64 ((wrap64 (a2 - a1)) + 1)) t180 t181 w0 _ ?side1 ?side2 A4.out).mono ?_); (case side1 => repeat (first | (with_reducible first | exact HI0.out | apply IsS71.alloc | apply IsS71.drewN | apply IsS71.drew | apply IsS71.set_1) | exact HI0.out)); (case side2 => repeat (first | (with_reducible first | exact HB.out | apply below_alloc | apply pw_below_drewN | apply below_drew1 | refine below_set ?_ (IsS71.ge HI0.out)) | exact HB.out)); rintro e w6 ⟨rfl, hi, hb, hk⟩; refine ⟨_, rfl, ?_⟩; have n0_ := Aside0.mk (KeepBut.trans (by repeat (first | (with_reducible first | exact HK.out | apply KeepBut.set_ | apply keep_drewN | apply keep_drew | apply keep_alloc) | exact HK.out)) hk (.inl rfl)); have n1_ := Aside0.mk (hb); have n2_ := Aside0.mk (hi); clear HK; clear HB; clear HI0; have HK := n0_; have HB := n1_; have HI0 := n2_; clear n0_ n1_ n2_; (try clear hb); (try clear hb2); (try clear hk); (try clear hi)))
    go_ret
    exact ⟨by first | rfl | (simp [errW_none, errW_some] <;> rfl) | (simp [*, errW_none, errW_some] <;> rfl), by repeat (first | (with_reducible first | exact HI0.out | apply IsS71.alloc | apply IsS71.drewN | apply IsS71.drew | apply IsS71.set_1) | exact HI0.out), by repeat (first | (with_reducible first | exact HB.out | apply below_alloc | apply pw_below_drewN | apply below_drew1 | refine below_set ?_ (IsS71.ge HI0.out)) | exact HB.out), by repeat (first | (with_reducible first | exact HK.out | apply KeepBut.set_ | apply keep_drewN | apply keep_drew | apply keep_alloc) | exact HK.out)⟩
  · rw [if_neg c5] at H
    exact absurd H (by simp)

end Go.Proofs.Ytjgnolohppnbbaa.PSg
