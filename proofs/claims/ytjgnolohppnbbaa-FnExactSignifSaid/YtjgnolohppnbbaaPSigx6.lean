-- Printed by a program of this session's own (wip/print), out of the translation. Lean checks it.
import Derived.Test.YtjgnolohppnbbaaPSigx0
import Derived.Test.YtjgnolohppnbbaaPSigx4
import Derived.Test.YtjgnolohppnbbaaPSigx5
namespace Go.Proofs.Ytjgnolohppnbbaa.PSig
open Go.Proofs.YtjgnolohppnbbaaW
open Go.RowKit Go.Proofs.YtjgnolohppnbbaaW.PrintWords Go.Proofs.YtjgnolohppnbbaaW.PrintLast Go.Proofs.YtjgnolohppnbbaaW.PrintMore
attribute [local go_sem] max2_int min2_int max_two min_two max_three min_three max_four min_four   -- for this text's walks alone
set_option linter.unusedVariables false
set_option linter.unusedSimpArgs false

-- NOT PRINTED: function 72 (cmp_isNaN_int64)

-- NOT PRINTED: function 59 (cmp_Less_int64)

-- NOT PRINTED: function 53 (slices_insertionSortOrdered_int64)

-- NOT PRINTED: function 67 (slices_siftDownOrdered_int64)

-- NOT PRINTED: function 54 (slices_heapSortOrdered_int64)

-- NOT PRINTED: function 62 (bits_Len32)

-- NOT PRINTED: function 63 (bits_Len64)

-- NOT PRINTED: function 45 (bits_Len)

-- NOT PRINTED: function 68 (slices_nextPowerOfTwo)

-- NOT PRINTED: function 69 (slices_xorshift_Next)

-- NOT PRINTED: function 55 (slices_breakPatternsOrdered_int64)

-- NOT PRINTED: function 73 (slices_order2Ordered_int64)

-- NOT PRINTED: function 71 (slices_medianOrdered_int64)

-- NOT PRINTED: function 70 (slices_medianAdjacentOrdered_int64)

-- NOT PRINTED: function 56 (slices_choosePivotOrdered_int64)

-- NOT PRINTED: function 57 (slices_reverseRangeOrdered_int64)

-- NOT PRINTED: function 58 (slices_partialInsertionSortOrdered_int64)

-- NOT PRINTED: function 60 (slices_partitionEqualOrdered_int64)

-- NOT PRINTED: function 61 (slices_partitionOrdered_int64)

-- NOT PRINTED: function 44 (slices_pdqsortOrdered_int64)

-- NOT PRINTED: function 28 (slices_Sort_int64_int64)

/-! ### impl_Signif: function 9 (given by hand) -/
theorem lim_any (n : Int) (h1 : -12000 ≤ n) (h2 : n ≤ 12000) (w : World) : Calls Try.prog 43 #[.int .i64 n] w fun e w' => e = .returned (.bool true) ∧ w' = w := by
  go_enter Try.func43, Try.ntmps43
  go_wp2
  go_ret
  exact ⟨rfl, rfl⟩
def impl_Between.f (a0_0 : Int) (a0_1 : Nat) (a1_0 : Int) (a1_1 : Nat) (a2 : Int) : Option (Nat) :=
  if a2 = a0_0 then some a0_1 else if a2 = a1_0 then some a1_1 else
  if (-12000 ≤ a1_0 ∧ a0_0 ≤ 12000 ∧ a1_0 < a2 ∧ a2 < a0_0 ∧ a0_0 - a1_0 ≤ 12000) then
    if fok .quo (fofi (a0_0 - a2)) (fofi (a0_0 - a1_0)) = true then if fok .sub a1_1 a0_1 = true then
      if fok .mul (fop .sub a1_1 a0_1) (fop .quo (fofi (a0_0 - a2)) (fofi (a0_0 - a1_0))) = true then
        if fok .add a0_1 (fop .mul (fop .sub a1_1 a0_1) (fop .quo (fofi (a0_0 - a2)) (fofi (a0_0 - a1_0)))) = true then
          some (fop .add a0_1 (fop .mul (fop .sub a1_1 a0_1) (fop .quo (fofi (a0_0 - a2)) (fofi (a0_0 - a1_0))))) else none else none else none else none
  else none
set_option maxHeartbeats 1000000 in
theorem impl_Between.calls (a0_0 : Int) (a0_1 : Nat) (a1_0 : Int) (a1_1 : Nat) (a2 : Int) (r : Nat) (w : World) (h : impl_Between.f a0_0 a0_1 a1_0 a1_1 a2 = some r) :
    Calls Try.prog 27 #[.agg #[.int .i64 a0_0, .float .f64 a0_1], .agg #[.int .i64 a1_0, .float .f64 a1_1], .int .i64 a2] w fun e w' => e = .returned (.float .f64 r) ∧ Below w.heap.size w w' := by
  unfold impl_Between.f at h
  by_cases h1 : a2 = a0_0
  · rw [if_pos h1] at h
    obtain rfl := Option.some.inj h
    clear h
    have c1 : (a2 == a0_0) = true := beq_iff_eq.2 h1
    clear h1
    go_enter Try.func27, Try.ntmps27
    go_wp2
    go_ret
    exact ⟨rfl, ((Below.refl _ _).alloc (Nat.le_refl _) _).alloc (by simp) _⟩
  · rw [if_neg h1] at h
    have c1 : (a2 == a0_0) = false := beq_eq_false_iff_ne.2 h1
    by_cases h2 : a2 = a1_0
    · rw [if_pos h2] at h
      obtain rfl := Option.some.inj h
      clear h h1
      have c2 : (a2 == a1_0) = true := beq_iff_eq.2 h2
      clear h2
      go_enter Try.func27, Try.ntmps27
      go_wp2
      go_ret
      exact ⟨rfl, ((Below.refl _ _).alloc (Nat.le_refl _) _).alloc (by simp) _⟩
    · rw [if_neg h2] at h
      have c2 : (a2 == a1_0) = false := beq_eq_false_iff_ne.2 h2
      by_cases h3 : (-12000 ≤ a1_0 ∧ a0_0 ≤ 12000 ∧ a1_0 < a2 ∧ a2 < a0_0 ∧ a0_0 - a1_0 ≤ 12000)
      · rw [if_pos h3] at h
        obtain ⟨b1, b2, b3, b4, b5⟩ := h3
        clear h1 h2
        by_cases k1 : fok .quo (fofi (a0_0 - a2)) (fofi (a0_0 - a1_0)) = true
        · rw [if_pos k1] at h
          by_cases k2 : fok .sub a1_1 a0_1 = true
          · rw [if_pos k2] at h
            by_cases k3 : fok .mul (fop .sub a1_1 a0_1) (fop .quo (fofi (a0_0 - a2)) (fofi (a0_0 - a1_0))) = true
            · rw [if_pos k3] at h
              by_cases k4 : fok .add a0_1 (fop .mul (fop .sub a1_1 a0_1) (fop .quo (fofi (a0_0 - a2)) (fofi (a0_0 - a1_0)))) = true
              · rw [if_pos k4] at h
                obtain rfl := Option.some.inj h
                clear h
                go_enter Try.func27, Try.ntmps27
                go_wp2_with (go_at_call 43; refine (lim_any _ (by omega) (by omega) _).mono ?_; rintro e w' ⟨rfl, rfl⟩)
                go_ret
                exact ⟨rfl, ((Below.refl _ _).alloc (Nat.le_refl _) _).alloc (by simp) _⟩
              · rw [if_neg k4] at h; cases h
            · rw [if_neg k3] at h; cases h
          · rw [if_neg k2] at h; cases h
        · rw [if_neg k1] at h; cases h
      · rw [if_neg h3] at h; cases h
/-- What the closure 'part' and its maker hold in memory. -/
structure SigCap (w0 W : World) (BL BT BO BP : Nat) (A : Option Addr) (c : Nat) (l : List S41) (tol : Nat) (v : Value) (xs : List Int) : Prop where
  bl : W.heap[BL]? = some (.cells #[.slice A l.length c] 27 (0, 0))
  bt : W.heap[BT]? = some (.cells #[.float .f64 tol] 23 (0, 0))
  bo : W.heap[BO]? = some (.cells #[v] 25 (0, 0))
  bp : W.heap[BP]? = some (.cells #[.func (.func 25) #[] #[.pointer (some ⟨BL, 0, none⟩), .pointer (some ⟨BT, 0, none⟩), .pointer (some ⟨BO, 0, none⟩), .pointer (some ⟨BP, 0, none⟩)]] 48 (0, 0))
  rd : Kd.C k41 w0 A l.length l
  own : Kd.R (Kd.int .i64) 2 W w0.heap.size (fun _ => True) v xs
  below : Below w0.heap.size w0 W
  gl : w0.heap.size ≤ BL
  gt : w0.heap.size ≤ BT
  go : w0.heap.size ≤ BO
  gp : w0.heap.size ≤ BP

theorem sl_form {W : World} {e base : Nat} {ok : Nat → Prop} {v : Value} {xs : List Int} (h : Kd.R (Kd.int .i64) e W base ok v xs) : ∃ A n c, v = .slice A n c := by
  obtain ⟨A, c, e⟩ := Kd.R_slice h
  exact ⟨A, _, c, e⟩
theorem SigCap.grow {w0 W W1 : World} {BL BT BO BP : Nat} {A : Option Addr} {c : Nat} {l : List S41} {tol : Nat} {v : Value} {xs : List Int} (h : SigCap w0 W BL BT BO BP A c l tol v xs) (hb : Below W.heap.size W W1) : SigCap w0 W1 BL BT BO BP A c l tol v xs :=
  ⟨(hb.block BL (blk_lt h.bl)).trans h.bl, (hb.block BT (blk_lt h.bt)).trans h.bt, (hb.block BO (blk_lt h.bo)).trans h.bo, (hb.block BP (blk_lt h.bp)).trans h.bp, h.rd, Kd.R_below h.own hb, h.below.trans (hb.mono h.below.size), h.gl, h.gt, h.go, h.gp⟩
theorem SigCap.push {w0 W w1 : World} {BL BT BO BP : Nat} {A : Option Addr} {c : Nat} {l : List S41} {tol : Nat} {v v1 : Value} {xs xs1 : List Int} (h : SigCap w0 W BL BT BO BP A c l tol v xs)
    (hR : Kd.R (Kd.int .i64) 2 w1 w0.heap.size (fun _ => True) v1 xs1) (hB : Below w0.heap.size w0 w1) (hg : W.grownBy w1 v.ownBlock) : SigCap w0 (w1.setCell ⟨BO, 0, none⟩ v1) BL BT BO BP A c l tol v1 xs1 := by
  have bo := blk_grown h.bo hg (Kd.R_ne h.own h.bo (by decide))
  exact ⟨blk_far (blk_grown h.bl hg (Kd.R_ne h.own h.bl (by decide))) (blk_ne h.bl h.bo (by decide)) _, blk_far (blk_grown h.bt hg (Kd.R_ne h.own h.bt (by decide))) (blk_ne h.bt h.bo (by decide)) _, blk_put bo 0 _ rfl,
    blk_far (blk_grown h.bp hg (Kd.R_ne h.own h.bp (by decide))) (blk_ne h.bp h.bo (by decide)) _, h.rd, Kd.R_set hR bo (by decide) 0 _, hB.setCell h.go _, h.gl, h.gt, h.go, h.gp⟩
def impl_Signif.dAt (l : List S41) (a b i : Int) : Option Nat :=
  (impl_Between.f (rd_T41 l a).f0 (rd_T41 l a).f1 (rd_T41 l b).f0 (rd_T41 l b).f1 (rd_T41 l i).f0).bind fun t =>
    if fok .sub (rd_T41 l i).f1 t = true then some (F64.fabs (fop .sub (rd_T41 l i).f1 t)) else none
def impl_Signif.scan : Nat → List S41 → Nat → Int → Int → Int → Nat → Int → Option Int
  | 0, _, _, _, _, _, _, _ => none
  | k + 1, l, tol, a, b, i, most, at_ =>
    if i < b then (impl_Signif.dAt l a b i).bind fun d =>
      if fgt d tol = true then (if at_ < 0 then impl_Signif.scan k l tol a b (i + 1) d i else if fgt d most = true then impl_Signif.scan k l tol a b (i + 1) d i else impl_Signif.scan k l tol a b (i + 1) most at_)
      else impl_Signif.scan k l tol a b (i + 1) most at_
    else some at_
def impl_Signif.part : Nat → List S41 → Nat → Int → Int → Option (List Int)
  | 0, _, _, _, _ => none
  | k + 1, l, tol, a, b => (impl_Signif.scan (l.length + 1) l tol a b (a + 1) 0 (-1)).bind fun t =>
    if t < 0 then some [] else (impl_Signif.part k l tol a t).bind fun x => (impl_Signif.part k l tol t b).bind fun y => some (t :: (x ++ y))

theorem impl_Signif.scan_range (k : Nat) : ∀ (l : List S41) (tol : Nat) (a b i : Int) (most : Nat) (at_ t : Int), impl_Signif.scan k l tol a b i most at_ = some t → t = at_ ∨ (i ≤ t ∧ t < b) := by
  induction k with
  | zero => intro l tol a b i most at_ t h; cases h
  | succ k ih =>
    intro l tol a b i most at_ t h
    simp only [impl_Signif.scan] at h
    split at h
    · rename_i hlt
      obtain ⟨d, _, h⟩ := Option.bind_eq_some_iff.mp h
      split at h
      · split at h
        · rcases ih _ _ _ _ _ _ _ _ h with e | ⟨e1, e2⟩
          · exact .inr (by omega)
          · exact .inr (by omega)
        · split at h
          · rcases ih _ _ _ _ _ _ _ _ h with e | ⟨e1, e2⟩
            · exact .inr (by omega)
            · exact .inr (by omega)
          · rcases ih _ _ _ _ _ _ _ _ h with e | ⟨e1, e2⟩
            · exact .inl e
            · exact .inr (by omega)
      · rcases ih _ _ _ _ _ _ _ _ h with e | ⟨e1, e2⟩
        · exact .inl e
        · exact .inr (by omega)
    · exact .inl (Option.some.inj h).symm
theorem impl_Signif.part_len (n : Nat) : ∀ (l : List S41) (tol : Nat) (a b : Int) (ys : List Int), a < b → impl_Signif.part n l tol a b = some ys → (ys.length : Int) < b - a := by
  induction n with
  | zero => intro l tol a b ys hab h; cases h
  | succ n ih =>
    intro l tol a b ys hab h
    simp only [impl_Signif.part] at h
    obtain ⟨t, ht, h⟩ := Option.bind_eq_some_iff.mp h
    have hr := impl_Signif.scan_range _ _ _ _ _ _ _ _ _ ht
    split at h
    · obtain rfl := Option.some.inj h
      simp only [List.length_nil]; omega
    · obtain ⟨x, hx, h⟩ := Option.bind_eq_some_iff.mp h
      obtain ⟨y, hy, h⟩ := Option.bind_eq_some_iff.mp h
      obtain rfl := Option.some.inj h
      have h1 := ih _ _ _ _ _ (by omega) hx
      have h2 := ih _ _ _ _ _ (by omega) hy
      simp only [List.length_cons, List.length_append]
      omega
set_option maxHeartbeats 1000000 in
set_option maxRecDepth 100000 in
theorem impl_Signif.part_calls (n : Nat) : ∀ (w0 W : World) (BL BT BO BP : Nat) (A : Option Addr) (c : Nat) (l : List S41) (tol : Nat) (v : Value) (xs : List Int) (a b : Int) (ys : List Int),
    SigCap w0 W BL BT BO BP A c l tol v xs → 0 ≤ a → a < b → b < l.length → l.length ≤ c → l.length ≤ 1000000 → (xs.length : Int) + (b - a) ≤ 1000000000 → impl_Signif.part n l tol a b = some ys →
    Calls Try.prog 25 #[.int .i64 a, .int .i64 b, .pointer (some ⟨BL, 0, none⟩), .pointer (some ⟨BT, 0, none⟩), .pointer (some ⟨BO, 0, none⟩), .pointer (some ⟨BP, 0, none⟩)] W fun e W' =>
      e = .returned (.tuple #[]) ∧ ∃ v', SigCap w0 W' BL BT BO BP A c l tol v' (xs ++ ys) := by
  induction n with
  | zero => intro w0 W BL BT BO BP A c l tol v xs a b ys C h0 h1 h2 h3 h4 h5 h; cases h
  | succ n ih =>
    intro w0 W BL BT BO BP A c l tol v xs a b ys C h0 h1 h2 h3 h4 h5 h_
    have h := h_
    clear h_
    simp only [impl_Signif.part] at h
    obtain ⟨tt, hs, h⟩ := Option.bind_eq_some_iff.mp h
    have HS0 := Aside0.mk hs
    have HR := Aside0.mk h
    have HC0 := Aside0.mk C
    have HIH := Aside0.mk ih
    clear hs h C ih
    go_enter Try.func25, Try.ntmps25
    go_wp2_with (fail)
    go_loopw [8, 9, 10] (fun m t i wr => ∃ (kf : Nat) (iz : Int) (mz : Nat) (tz : Int), m = .float .f64 mz ∧ t = .int .i64 tz ∧ i = .int .i64 iz ∧ a < iz ∧ iz ≤ b ∧ (tz = -1 ∨ (a < tz ∧ tz < b)) ∧
        Aside0 (impl_Signif.scan kf l tol a b iz mz tz = some tt) ∧ Aside0 (SigCap w0 wr BL BT BO BP A c l tol v xs)) (fun _ _ i _ => (b - intOf i).toNat)
    case atStart => exact ⟨_, _, _, _, rfl, rfl, rfl, by omega, by omega, .inl rfl, HS0, HC0⟩
    case round =>
      obtain ⟨kf, iz, mz, tz, rfl, rfl, rfl, hi1, hi2, htz, HS, HC⟩ := hrel
      cases kf with
      | zero => exact absurd HS.out (by simp [impl_Signif.scan])
      | succ kf =>
      by_cases hlt : iz < b
      · have hs := HS.out
        simp only [impl_Signif.scan] at hs
        rw [if_pos hlt] at hs
        obtain ⟨d, hd, hs⟩ := Option.bind_eq_some_iff.mp hs
        unfold impl_Signif.dAt at hd
        obtain ⟨t, hbt, hd⟩ := Option.bind_eq_some_iff.mp hd
        by_cases hk : fok .sub (rd_T41 l iz).f1 t = true
        · rw [if_pos hk] at hd
          obtain rfl := Option.some.inj hd
          clear hd
          have HS1 := Aside0.mk hs
          have HBT := Aside0.mk hbt
          have C := HC.out
          have hcl : wr.cell? ⟨BL, 0, none⟩ = some (.slice A l.length c) := blk_cell C.bl 0
          have hct : wr.cell? ⟨BT, 0, none⟩ = some (.float .f64 tol) := blk_cell C.bt 0
          obtain ⟨ad, rfl, ci0, ci1⟩ := at_T41 (Kd.C_below C.rd C.below) iz (by omega) (by omega)
          obtain ⟨ad', e1, ca0, ca1⟩ := at_T41 (Kd.C_below C.rd C.below) a (by omega) (by omega)
          obtain rfl : ad = ad' := by injection e1
          obtain ⟨ad', e2, cb0, cb1⟩ := at_T41 (Kd.C_below C.rd C.below) b (by omega) (by omega)
          obtain rfl : ad = ad' := by injection e2
          have HCC := Aside0.mk C
          have HB0 := Aside0.mk (Below.refl wr.heap.size wr)
          have q1 : 0 ≤ iz := by omega
          have q2 : iz < (l.length : Int) := by omega
          have q3 : a < (l.length : Int) := by omega
          have q4 : 0 ≤ b := by omega
          clear C hs hbt HS e1 e2 hct
          go_wp2_with (fail)
          go_region_held3 (fun w' => Aside0 (Below wr.heap.size wr w') ∧ w'.cell? ⟨BL, 0, none⟩ = some (.slice (some ad) l.length c) ∧ w'.cell? (ad.add (iz.toNat * 2)) = some (.int .i64 (rd_T41 l iz).f0) ∧ w'.cell? ⟨(ad.add (iz.toNat * 2)).block, (ad.add (iz.toNat * 2)).off + 1, none⟩ = some (.float .f64 (rd_T41 l iz).f1) ∧
              w'.cell? (ad.add (a.toNat * 2)) = some (.int .i64 (rd_T41 l a).f0) ∧ w'.cell? ⟨(ad.add (a.toNat * 2)).block, (ad.add (a.toNat * 2)).off + 1, none⟩ = some (.float .f64 (rd_T41 l a).f1) ∧
              w'.cell? (ad.add (b.toNat * 2)) = some (.int .i64 (rd_T41 l b).f0) ∧ w'.cell? ⟨(ad.add (b.toNat * 2)).block, (ad.add (b.toNat * 2)).off + 1, none⟩ = some (.float .f64 (rd_T41 l b).f1)) (first | (refine ⟨Aside0.mk (below_drew1 HB0.out), ?_, ?_, ?_, ?_, ?_, ?_, ?_⟩ <;> go_keep) | (exact ⟨Aside0.mk ((below_drew1 HB0.out).trans hb), (hb.cell (World.block_lt_of_cell? wr _ hcl)).trans hcl, (hb.cell (World.block_lt_of_cell? wr _ ci0)).trans ci0, (hb.cell (World.block_lt_of_cell? wr _ ci1)).trans ci1, (hb.cell (World.block_lt_of_cell? wr _ ca0)).trans ca0, (hb.cell (World.block_lt_of_cell? wr _ ca1)).trans ca1, (hb.cell (World.block_lt_of_cell? wr _ cb0)).trans cb0, (hb.cell (World.block_lt_of_cell? wr _ cb1)).trans cb1⟩) | (exact ⟨Aside0.mk (pw_below_drewN ((below_drew1 HB0.out).trans hb) nq), (hb.cell (World.block_lt_of_cell? wr _ hcl)).trans hcl, (hb.cell (World.block_lt_of_cell? wr _ ci0)).trans ci0, (hb.cell (World.block_lt_of_cell? wr _ ci1)).trans ci1, (hb.cell (World.block_lt_of_cell? wr _ ca0)).trans ca0, (hb.cell (World.block_lt_of_cell? wr _ ca1)).trans ca1, (hb.cell (World.block_lt_of_cell? wr _ cb0)).trans cb0, (hb.cell (World.block_lt_of_cell? wr _ cb1)).trans cb1⟩) | (trace_state; fail))
            (first | (go_at_call 27; refine (impl_Between.calls _ _ _ _ _ t _ HBT.out).mono ?_; rintro e w' ⟨rfl, hb⟩) | (go_at_call 26; refine (math_Abs.calls _ _ _ rfl).mono ?_; rintro e w' ⟨rfl, ⟨⟨nq, rfl⟩⟩⟩))
          have HB1 : Aside0 (Below wr.heap.size wr (w'.drewN nq)) := (show Aside0 (Below wr.heap.size wr (w'.drewN nq)) ∧ _ from ‹_›).1
          generalize w'.drewN nq = w1 at HB1 ⊢
          generalize F64.fabs (fop .sub (rd_T41 l iz).f1 t) = d at HS1 ⊢
          have hct1 : w1.cell? ⟨BT, 0, none⟩ = some (.float .f64 tol) := (HB1.out.cell (World.block_lt_of_cell? wr _ (blk_cell HCC.out.bt 0))).trans (blk_cell HCC.out.bt 0)
          have HC1 := Aside0.mk (HCC.out.grow HB1.out)
          have hs := HS1.out
          clear HB1 HCC HB0 HS1 hcl ci0 ci1 ca0 ca1 cb0 cb1 hk
          by_cases g1 : fgt d tol = true
          · rw [if_pos g1] at hs
            by_cases g2 : tz < 0
            · rw [if_pos g2] at hs
              have HS2 := Aside0.mk hs
              clear hs
              go_wp2
              go_roundw
              case rel => exact ⟨kf, iz + 1, d, iz, rfl, rfl, rfl, by omega, by omega, .inr ⟨hi1, hlt⟩, HS2, HC1⟩
              case measure => simp [intOf]; omega
            · rw [if_neg g2] at hs
              by_cases g3 : fgt d mz = true
              · rw [if_pos g3] at hs
                have HS2 := Aside0.mk hs
                clear hs
                go_wp2
                go_roundw
                case rel => exact ⟨kf, iz + 1, d, iz, rfl, rfl, rfl, by omega, by omega, .inr ⟨hi1, hlt⟩, HS2, HC1⟩
                case measure => simp [intOf]; omega
              · rw [if_neg g3] at hs
                have HS2 := Aside0.mk hs
                clear hs
                have g3 : fgt d mz = false := by simpa using g3
                go_wp2
                go_roundw
                case rel => exact ⟨kf, iz + 1, mz, tz, rfl, rfl, rfl, by omega, by omega, htz, HS2, HC1⟩
                case measure => simp [intOf]; omega
          · rw [if_neg g1] at hs
            have HS2 := Aside0.mk hs
            clear hs
            have g1 : fgt d tol = false := by simpa using g1
            go_wp2
            go_roundw
            case rel => exact ⟨kf, iz + 1, mz, tz, rfl, rfl, rfl, by omega, by omega, htz, HS2, HC1⟩
            case measure => simp [intOf]; omega
        · rw [if_neg hk] at hd; cases hd
      · have hs := HS.out
        simp only [impl_Signif.scan] at hs
        rw [if_neg hlt] at hs
        obtain rfl := Option.some.inj hs
        have hbi : iz = b := by omega
        subst hbi
        clear hs HS HS0
        by_cases g0 : tz < 0
        · have hr := HR.out
          rw [if_pos g0] at hr
          obtain rfl := Option.some.inj hr
          go_wp2
          go_end0
          exact ⟨rfl, v, by first | exact HC.out | (rw [List.append_nil]; exact HC.out)⟩
        · have hr := HR.out
          rw [if_neg g0] at hr
          obtain ⟨x, hx, hr⟩ := Option.bind_eq_some_iff.mp hr
          obtain ⟨y, hy, hr⟩ := Option.bind_eq_some_iff.mp hr
          obtain rfl := Option.some.inj hr
          have hl1 := impl_Signif.part_len n l tol a tz x (by omega) hx
          have HX := Aside0.mk hx
          have HY := Aside0.mk hy
          have ht : a < tz ∧ tz < iz := by omega
          obtain ⟨ht1, ht2⟩ := ht
          have C := HC.out
          have hco : wr.cell? ⟨BO, 0, none⟩ = some v := blk_cell C.bo 0
          clear hx hy hr htz HR C
          go_wp2_with ((with_reducible refine gate_builtin (b := .append) (xs := #[.tmp 56, .tmp 58]) rfl ?_); at_builtin; refine Kd.R_append (Kd.int .i64) (w0 := w0) w0.heap.size rfl (.tmp 56) (.tmp 58) 25 2 (.int .i64 0) 8 rfl Try.underlying25 info2 rfl (by decide) (by omega) v xs tz [.int .i64 tz] (fun _ => True) (fun _ => False) rfl rfl ?aP (fun _ hk => hk.elim) ?aF ?aO ?aB ?aS ?aL ?_; (case aP => exact rfl); (case aB => exact HC.out.below); (case aF => exact (fun _ _ => trivial)); (case aO => exact HC.out.own); (case aS => exact HC.out.below.size); (case aL => omega); intro v1 w1 ho hb hg hat; obtain ⟨A1, n1, c1, hv1⟩ := sl_form ho; subst hv1; have HC1 := Aside0.mk (HC.out.push ho hb hg); have hco1 : w1.cell? ⟨BO, 0, none⟩ = some v := blk_cell (blk_grown HC.out.bo hg (Kd.R_ne HC.out.own HC.out.bo (by decide))) 0; have hfo1 : w1.frozen? ⟨BO, 0, none⟩ = false := blk_frozen (blk_grown HC.out.bo hg (Kd.R_ne HC.out.own HC.out.bo (by decide))) 0; have hcp1 : (w1.setCell ⟨BO, 0, none⟩ (.slice A1 n1 c1)).cell? ⟨BP, 0, none⟩ = some (.func (.func 25) #[] #[.pointer (some ⟨BL, 0, none⟩), .pointer (some ⟨BT, 0, none⟩), .pointer (some ⟨BO, 0, none⟩), .pointer (some ⟨BP, 0, none⟩)]) := blk_cell HC1.out.bp 0; clear ho hb hg hat)
          refine (HIH.out w0 _ BL BT BO BP A c l tol _ (xs ++ [tz]) a tz x HC1.out h0 ht1 (by omega) h3 h4 (by rw [List.length_append]; simp only [List.length_cons, List.length_nil]; omega) HX.out).mono ?_
          rintro e W1 ⟨rfl, v2, C2⟩
          have HC2 := Aside0.mk C2
          have hcp2 : W1.cell? ⟨BP, 0, none⟩ = some (.func (.func 25) #[] #[.pointer (some ⟨BL, 0, none⟩), .pointer (some ⟨BT, 0, none⟩), .pointer (some ⟨BO, 0, none⟩), .pointer (some ⟨BP, 0, none⟩)]) := blk_cell C2.bp 0
          clear C2
          go_wp2_with (fail)
          refine (HIH.out w0 _ BL BT BO BP A c l tol _ (xs ++ [tz] ++ x) tz iz y HC2.out (by omega) ht2 h2 h3 h4 (by rw [List.length_append, List.length_append]; simp only [List.length_cons, List.length_nil]; omega) HY.out).mono ?_
          rintro e W2 ⟨rfl, v3, C3⟩
          have HC3 := Aside0.mk C3
          clear C3
          go_wp2
          go_end0
          exact ⟨rfl, v3, by have h := HC3.out; simp only [List.append_assoc, List.singleton_append, List.cons_append] at h ⊢; exact h⟩
theorem sort_calls {W : World} {base : Nat} {ok : Nat → Prop} {v : Value} {xs : List Int} (hR : Kd.R (Kd.int .i64) 2 W base ok v xs) (hne : 0 < xs.length) (hl : xs.length < 4611686018427387904) :
    Calls Try.prog 28 #[v] W fun e W' => e = .returned (.tuple #[]) ∧ W.grownBy W' v.ownBlock ∧ Kd.R (Kd.int .i64) 2 W' base ok v (xs.mergeSort fun x y => decide (x ≤ y)) := by
  have ho := Kd.own_of_R (enc := Value.int .i64) (h1 := fun _ => rfl) hR
  rcases ho.2 with ⟨_, h0⟩ | ⟨g, cap, cur, rfl, hb, hh, h1, h2, h3, h4⟩
  · omega
  · have hlt : g < W.heap.size := blk_lt hh
    have hH : Go.Sort.Holds (Value.int .i64) W g 0 xs.toArray := holds_of_blockI hh (by rw [Nat.mul_one] at h4; exact h4)
    refine Calls.mono (AnyM.slices_Sort_int Try.sortL g 0 cap xs W hH hlt hl) ?_
    rintro e W' ⟨rfl, n, os, rfl⟩
    refine ⟨rfl, grownBy_sortedI _, ?_⟩
    have hlen : (xs.mergeSort fun x y => decide (x ≤ y)).length = xs.length := List.length_mergeSort xs
    have ho2 := ownsRow_sortedI (w := W) (n := n) (os := os) (ts := xs.mergeSort fun x y => decide (x ≤ y)) hlen hb hh h1 h2 h3
    rw [show (.slice (some ⟨g, 0, none⟩) xs.length cap : Value) = .slice (some ⟨g, 0, none⟩) (xs.mergeSort fun x y => decide (x ≤ y)).length cap by rw [hlen]]
    refine Kd.R_of_own (enc := Value.int .i64) (h1 := fun _ => rfl) (by rw [hlen]; exact ho2) (fun k hk => hR.1 k ?_)
    simpa [Value.ownBlock] using hk

theorem impl_Signif.cap_start {w w1 : World} {A0 : Option Addr} {c0 : Nat} {l0 : List S41} {a1 : Nat} (hb : Below ((w.alloc (.cells #[.slice A0 l0.length c0] 27)).alloc (.cells #[.float .f64 a1] 23)).heap.size ((w.alloc (.cells #[.slice A0 l0.length c0] 27)).alloc (.cells #[.float .f64 a1] 23)) w1) (hr : Kd.C k41 w A0 l0.length l0) (nd : Nat) :
    SigCap w ((((w1.drewN nd).alloc (.cells #[.int .i64 0, .int .i64 ((l0.length : Int) - 1)] 2)).alloc (.cells #[.slice (some ⟨w1.heap.size, 0, none⟩) 2 2] 25)).alloc (.cells #[.func (.func 25) #[] #[.pointer (some ⟨w.heap.size, 0, none⟩), .pointer (some ⟨w.heap.size + 1, 0, none⟩), .pointer (some ⟨w1.heap.size + 1, 0, none⟩), .pointer (some ⟨w1.heap.size + 1 + 1, 0, none⟩)]] 48))
      w.heap.size (w.heap.size + 1) (w1.heap.size + 1) (w1.heap.size + 1 + 1) A0 c0 l0 a1 (.slice (some ⟨w1.heap.size, 0, none⟩) 2 2) [0, (l0.length : Int) - 1] := by
  have hz : w.heap.size + 2 ≤ w1.heap.size := by have := hb.size; simp at this; omega
  refine ⟨?_, ?_, ?_, ?_, hr, ?_, ?_, Nat.le_refl _, by omega, by omega, by omega⟩
  · exact blk_alloc (blk_alloc (blk_alloc (blk_drewN (blk_below (blk_alloc (blk_new w _) _) hb) nd) _) _) _
  · have h := blk_new (w.alloc (.cells #[.slice A0 l0.length c0] 27)) (.cells #[.float .f64 a1] 23)
    rw [show (w.alloc (.cells #[.slice A0 l0.length c0] 27)).heap.size = w.heap.size + 1 by simp] at h
    exact blk_alloc (blk_alloc (blk_alloc (blk_drewN (blk_below h hb) nd) _) _) _
  · have h := blk_new ((w1.drewN nd).alloc (.cells #[.int .i64 0, .int .i64 ((l0.length : Int) - 1)] 2)) (.cells #[.slice (some ⟨w1.heap.size, 0, none⟩) 2 2] 25)
    rw [show ((w1.drewN nd).alloc (.cells #[.int .i64 0, .int .i64 ((l0.length : Int) - 1)] 2)).heap.size = w1.heap.size + 1 by simp] at h
    exact blk_alloc h _
  · have h := blk_new (((w1.drewN nd).alloc (.cells #[.int .i64 0, .int .i64 ((l0.length : Int) - 1)] 2)).alloc (.cells #[.slice (some ⟨w1.heap.size, 0, none⟩) 2 2] 25)) (.cells #[.func (.func 25) #[] #[.pointer (some ⟨w.heap.size, 0, none⟩), .pointer (some ⟨w.heap.size + 1, 0, none⟩), .pointer (some ⟨w1.heap.size + 1, 0, none⟩), .pointer (some ⟨w1.heap.size + 1 + 1, 0, none⟩)]] 48)
    rw [show (((w1.drewN nd).alloc (.cells #[.int .i64 0, .int .i64 ((l0.length : Int) - 1)] 2)).alloc (.cells #[.slice (some ⟨w1.heap.size, 0, none⟩) 2 2] 25)).heap.size = w1.heap.size + 1 + 1 by simp] at h
    exact h
  · refine Kd.R_of_own (enc := Value.int .i64) (h1 := fun _ => rfl) (xs := [0, (l0.length : Int) - 1]) ?_ (fun _ _ => trivial)
    have h := blk_new (w1.drewN nd) (.cells #[.int .i64 0, .int .i64 ((l0.length : Int) - 1)] 2)
    exact ⟨rfl, .inr ⟨w1.heap.size, 2, _, rfl, by omega, blk_alloc (blk_alloc h _) _, Nat.le_refl _, by unfold maxLen; decide, rfl, rfl⟩⟩
  · exact (((pw_below_drewN (below_step (((Below.refl w.heap.size w).alloc (Nat.le_refl _) _).alloc (by simp) _) hb) nd).alloc (by simp; omega) _).alloc (by simp; omega) _).alloc (by simp; omega) _

def impl_Signif.f (k : Nat) (l0 : List S41) (a1 : Nat) : Option (List Int) :=
  (impl_AscentOk.f k l0).bind fun t => if t = true then (impl_Known.f a1).bind fun u => if u = true then if flt a1 0 = true then some [] else
    if l0.length ≤ 1000000 then if 2 ≤ l0.length then (impl_Signif.part (l0.length + 1) l0 a1 0 ((l0.length : Int) - 1)).bind fun xs => some (([0, (l0.length : Int) - 1] ++ xs).mergeSort fun x y => decide (x ≤ y)) else none else none
    else some [] else some []
theorem impl_Signif.mono : ∀ a0 a1 k, LeO (impl_Signif.f k a0 a1) (impl_Signif.f (k + 1) a0 a1) := by
  intro a0 a1 k
  unfold impl_Signif.f
  exact LeO.bind (impl_AscentOk.mono _ _) (fun _ => LeO.refl _)
set_option maxHeartbeats 1000000 in
set_option maxRecDepth 100000 in
theorem impl_Signif.calls (k : Nat) (A0 : Option Addr) (c0 : Nat) (l0 : List S41) (a1 : Nat) (r : List Int) (w : World) (hr0 : Kd.C k41 w A0 l0.length l0) (hc0 : l0.length ≤ c0) (h : impl_Signif.f k l0 a1 = some r) :
    Calls Try.prog 9 #[.slice A0 l0.length c0, .float .f64 a1] w fun e w' => ∃ v0_ : Value, e = .returned (v0_) ∧ Kd.R (Kd.int .i64) 2 w' w.heap.size (fun _ => True) v0_ r ∧ Below w.heap.size w w' := by
  unfold impl_Signif.f at h
  obtain ⟨t, ht, h⟩ := Option.bind_eq_some_iff.mp h
  have HT := Aside0.mk ht
  have HR0 := Aside0.mk hr0
  clear ht hr0
  cases t with
  | false =>
    rw [if_neg (by decide)] at h
    obtain rfl := Option.some.inj h
    clear h
    go_enter Try.func9, Try.ntmps9
    go_wp2_with (go_at_call 23; refine (impl_AscentOk.calls k _ _ l0 false _ (Kd.C_alloc (Kd.C_alloc HR0.out _) _) hc0 HT.out).mono ?_; rintro e w' ⟨rfl, hb⟩)
    go_ret
    exact ⟨_, rfl, Kd.R_nil _ _ _ _ _, (((Below.refl w.heap.size w).alloc (Nat.le_refl _) _).alloc (by simp) _).trans (hb.mono (by simp; omega))⟩
  | true =>
    rw [if_pos rfl] at h
    obtain ⟨u, hu, h⟩ := Option.bind_eq_some_iff.mp h
    have HU := Aside0.mk hu
    clear hu
    cases u with
    | false =>
      rw [if_neg (by decide)] at h
      obtain rfl := Option.some.inj h
      clear h
      go_enter Try.func9, Try.ntmps9
      go_wp2_with (first | (go_at_call 23; refine (impl_AscentOk.calls k _ _ l0 true _ (Kd.C_alloc (Kd.C_alloc HR0.out _) _) hc0 HT.out).mono ?_; rintro e w1 ⟨rfl, hb⟩; have hct : w1.cell? ⟨w.heap.size + 1, 0, none⟩ = some (.float .f64 a1) := (hb.cell (p := ⟨w.heap.size + 1, 0, none⟩) (by simp)).trans (by simp)) | (go_at_call 24; refine (impl_Known.calls a1 false _ HU.out).mono ?_; rintro e w2 ⟨rfl, ⟨⟨nd, rfl⟩⟩⟩))
      go_ret
      exact ⟨_, rfl, Kd.R_nil _ _ _ _ _, pw_below_drewN (below_step (((Below.refl w.heap.size w).alloc (Nat.le_refl _) _).alloc (by simp) _) hb) nd⟩
    | true =>
      rw [if_pos rfl] at h
      by_cases g1 : flt a1 0 = true
      · rw [if_pos g1] at h
        obtain rfl := Option.some.inj h
        clear h
        go_enter Try.func9, Try.ntmps9
        go_wp2_with (first | (go_at_call 23; refine (impl_AscentOk.calls k _ _ l0 true _ (Kd.C_alloc (Kd.C_alloc HR0.out _) _) hc0 HT.out).mono ?_; rintro e w1 ⟨rfl, hb⟩; have hct : w1.cell? ⟨w.heap.size + 1, 0, none⟩ = some (.float .f64 a1) := (hb.cell (p := ⟨w.heap.size + 1, 0, none⟩) (by simp)).trans (by simp)) | (go_at_call 24; refine (impl_Known.calls a1 true _ HU.out).mono ?_; rintro e w2 ⟨rfl, ⟨⟨nd, rfl⟩⟩⟩))
        go_ret
        exact ⟨_, rfl, Kd.R_nil _ _ _ _ _, pw_below_drewN (below_step (((Below.refl w.heap.size w).alloc (Nat.le_refl _) _).alloc (by simp) _) hb) nd⟩
      · rw [if_neg g1] at h
        have g1 : flt a1 0 = false := by simpa using g1
        by_cases g2 : l0.length ≤ 1000000
        · rw [if_pos g2] at h
          by_cases g3 : 2 ≤ l0.length
          · rw [if_pos g3] at h
            obtain ⟨xs, hxs, h⟩ := Option.bind_eq_some_iff.mp h
            obtain rfl := Option.some.inj h
            have HX := Aside0.mk hxs
            clear h hxs
            go_enter Try.func9, Try.ntmps9
            go_wp2_with (first | (go_at_call 23; refine (impl_AscentOk.calls k _ _ l0 true _ (Kd.C_alloc (Kd.C_alloc HR0.out _) _) hc0 HT.out).mono ?_; rintro e w1 ⟨rfl, hb⟩; have hct : w1.cell? ⟨w.heap.size + 1, 0, none⟩ = some (.float .f64 a1) := (hb.cell (p := ⟨w.heap.size + 1, 0, none⟩) (by simp)).trans (by simp); have hcl : w1.cell? ⟨w.heap.size, 0, none⟩ = some (.slice A0 l0.length c0) := (hb.cell (p := ⟨w.heap.size, 0, none⟩) (by simp; omega)).trans (by simp); have hz : w.heap.size + 1 < w1.heap.size := by (have := hb.size; simp at this; omega)) | (go_at_call 24; refine (impl_Known.calls a1 true _ HU.out).mono ?_; rintro e w2 ⟨rfl, ⟨⟨nd, rfl⟩⟩⟩; have hcl3 : ∀ o1 o2 o3, ((((w1.drewN nd).alloc o1).alloc o2).alloc o3).cell? ⟨w.heap.size, 0, none⟩ = some (.slice A0 l0.length c0) := (fun o1 o2 o3 => by rw [World.cell?_alloc_lt _ _ _ (by simp; omega), World.cell?_alloc_lt _ _ _ (by simp; omega), World.cell?_alloc_lt _ _ _ (by simp; omega)]; exact hcl)))
            have hlen := impl_Signif.part_len _ _ _ _ _ _ (by omega) HX.out
            have HC : Aside0 (SigCap w _ w.heap.size (w.heap.size + 1) (w1.heap.size + 1) (w1.heap.size + 1 + 1) A0 c0 l0 a1 (.slice (some ⟨w1.heap.size, 0, none⟩) 2 2) [0, (l0.length : Int) - 1]) := Aside0.mk (impl_Signif.cap_start hb HR0.out nd)
            refine (impl_Signif.part_calls (l0.length + 1) w _ w.heap.size (w.heap.size + 1) (w1.heap.size + 1) (w1.heap.size + 1 + 1) A0 c0 l0 a1 _ [0, (l0.length : Int) - 1] 0 ((l0.length : Int) - 1) xs HC.out (by omega) (by omega) (by omega) hc0 g2 (by simp only [List.length_cons, List.length_nil]; omega) HX.out).mono ?_
            rintro e W2 ⟨rfl, v2, C2⟩
            obtain ⟨A2, n2, c2, hv2⟩ := sl_form C2.own
            subst hv2
            have HC2 := Aside0.mk C2
            have hco2 : W2.cell? ⟨w1.heap.size + 1, 0, none⟩ = some (.slice A2 n2 c2) := blk_cell C2.bo 0
            clear C2 hcl hcl3 hct
            go_wp2_with (fail)
            refine (sort_calls HC2.out.own (by simp) (by simp only [List.length_append, List.length_cons, List.length_nil]; omega)).mono ?_
            rintro e W3 ⟨rfl, hg, hR⟩
            have hco3 : W3.cell? ⟨w1.heap.size + 1, 0, none⟩ = some (.slice A2 n2 c2) := blk_cell (blk_grown HC2.out.bo hg (Kd.R_ne HC2.out.own HC2.out.bo (by decide))) 0
            have HR := Aside0.mk hR
            have HG := Aside0.mk hg
            clear hR hg hco2
            go_wp2
            go_ret
            exact ⟨_, rfl, HR.out, HC2.out.below.grown HG.out HC2.out.below.size (fun k hk => Kd.R_base HC2.out.own k hk)⟩
          · rw [if_neg g3] at h; cases h
        · rw [if_neg g2] at h; cases h

/-! ### laws_eqInt64S: function 10 -/
def laws_eqInt64S.l0 : Nat → List Int → List Int → Int → Option (Bool)
  | 0, _, _, _ => none
  | k + 1, x0, x1, x5 => if x5 < (x0.length : Int) then (if 0 ≤ x5 then (if x5 < (x1.length : Int) then (if (rd x0 x5) = (rd x1 x5) then (laws_eqInt64S.l0 k x0 x1 (wrap64 (x5 + 1))) else (some false)) else (none)) else (none)) else (some true)
def laws_eqInt64S.f (k : Nat) (l0 : List Int) (l1 : List Int) : Option (Bool) := if (l0.length : Int) = (l1.length : Int) then (laws_eqInt64S.l0 k l0 l1 0) else (some false)
theorem laws_eqInt64S.mono_l : ∀ k, (∀ y0 y1 y2, LeO (laws_eqInt64S.l0 k y0 y1 y2) (laws_eqInt64S.l0 (k + 1) y0 y1 y2))
  | 0 => fun _ _ _ r h => by simp [laws_eqInt64S.l0] at h
  | k + 1 => by
    have ih0 := laws_eqInt64S.mono_l k
    · intro y0 y1 y2
      unfold laws_eqInt64S.l0
      repeat' first
      | (with_reducible exact ih0 _ _ _)
      | (with_reducible exact LeO.refl _)
      | (with_reducible exact LeO.none _)
      | (with_reducible refine LeO.ite ?_ ?_)
      | (with_reducible refine LeO.bind ?_ (fun _ => ?_))
      | exact ih0 _ _ _
      | exact LeO.none _
      | refine LeO.ite ?_ ?_
      | refine LeO.bind ?_ (fun _ => ?_)
theorem laws_eqInt64S.mono : ∀ a0 a1 k, LeO (laws_eqInt64S.f k a0 a1) (laws_eqInt64S.f (k + 1) a0 a1) := by
  intro a0 a1 k
  have ih0 := laws_eqInt64S.mono_l k
  unfold laws_eqInt64S.f
  repeat' first
      | (with_reducible exact ih0 _ _ _)
      | (with_reducible exact LeO.refl _)
      | (with_reducible exact LeO.none _)
      | (with_reducible refine LeO.ite ?_ ?_)
      | (with_reducible refine LeO.bind ?_ (fun _ => ?_))
      | exact ih0 _ _ _
      | exact LeO.none _
      | refine LeO.ite ?_ ?_
      | refine LeO.bind ?_ (fun _ => ?_)
set_option maxHeartbeats 8000000 in
set_option maxRecDepth 100000 in
theorem laws_eqInt64S.calls (k : Nat) (A0 : Option Addr) (c0 : Nat) (l0 : List Int) (A1 : Option Addr) (c1 : Nat) (l1 : List Int) (r : Bool) (w : World) (hr0 : Kd.C (Kd.int .i64) w A0 l0.length l0) (hc0 : l0.length ≤ c0) (hr1 : Kd.C (Kd.int .i64) w A1 l1.length l1) (hc1 : l1.length ≤ c1) (h : laws_eqInt64S.f k l0 l1 = some r) :
    Calls Try.prog 10 #[.slice A0 l0.length c0, .slice A1 l1.length c1] w fun e w' => e = .returned (.bool r) ∧ Drawn0 w w' := by
  have HR0 := Aside0.mk hr0
  have HC0 := Aside0.mk hc0
  clear hr0 hc0
  have HR1 := Aside0.mk hr1
  have HC1 := Aside0.mk hc1
  clear hr1 hc1
  have H : (if (l0.length : Int) = (l1.length : Int) then (laws_eqInt64S.l0 k l0 l1 0) else (some false)) = some r := h
  clear h
  by_cases c3 : (l0.length : Int) = (l1.length : Int)
  · rw [if_pos c3] at H
    have c3b0 : ((l0.length : Int) == (l1.length : Int)) = true := beq_iff_eq.mpr c3
    have c3b1 : ((l0.length : Int) != (l1.length : Int)) = false := bne_eq_false_iff_eq.mpr c3
    have c3b2 : (l0.length == l1.length) = true := by first | simpa using c3 | (simp at c3 ⊢; omega)
    clear c3
    have H' := Aside0.mk H
    clear H
    go_enter Try.func10, Try.ntmps10
    go_wp2
    repeat (go_quiet (fail); try go_wp2)
    go_loopg [5] k (fun kq v5 w' => ∃ (x5_1 : Int), v5 = .int .i64 x5_1 ∧ Aside0 (laws_eqInt64S.l0 kq l0 l1 x5_1 = some r) ∧ Aside0 (kq ≤ k) ∧ Drawn0 w w')
    case atStart => exact ⟨(0), (by first | rfl | (simp; done) | (simp [*]; done)), H', ⟨Nat.le_refl _⟩, by repeat (first | exact Drawn0.refl _ | apply Drawn0.step)⟩
    case round =>
      clear H'
      try clear c1
      try clear p2
      try clear c3
      try clear c3b0
      try clear c3b1
      try clear c3b2
      obtain ⟨x5_1, rfl, HA, HK1, ⟨m1, rfl⟩⟩ := hrel
      cases gk with
      | zero => exact absurd HA.out (by simp [laws_eqInt64S.l0])
      | succ k1 =>
        have H := HA.out
        clear HA
        simp only [laws_eqInt64S.l0] at H
        by_cases c4 : x5_1 < (l0.length : Int)
        · rw [if_pos c4] at H
          have c4b0 : decide (x5_1 < (l0.length : Int)) = true := decide_eq_true c4
          clear c4
          by_cases c5 : 0 ≤ x5_1
          · rw [if_pos c5] at H
            have c5b0 : decide (0 ≤ x5_1) = true := decide_eq_true c5
            clear c5
            by_cases c6 : x5_1 < (l1.length : Int)
            · rw [if_pos c6] at H
              have c6b0 : decide (x5_1 < (l1.length : Int)) = true := decide_eq_true c6
              clear c6
              by_cases c7 : (rd l0 x5_1) = (rd l1 x5_1)
              · rw [if_pos c7] at H
                have c7b0 : ((rd l0 x5_1) == (rd l1 x5_1)) = true := beq_iff_eq.mpr c7
                have c7b1 : ((rd l0 x5_1) != (rd l1 x5_1)) = false := bne_eq_false_iff_eq.mpr c7
                clear c7
                have H' := Aside0.mk H
                clear H
                have p176 : 0 ≤ (x5_1 : Int) := of_decide_eq_true (by first | (with_reducible assumption) | assumption)
                have q176 : x5_1 < (l0.length : Int) := of_decide_eq_true (by first | (with_reducible assumption) | assumption)
                obtain ⟨ad176, e176, hx176_0⟩ := Kd.at_int HR0.out x5_1 p176 q176
                cases e176
                replace p176 := eq_true p176
                replace q176 := eq_true q176
                have p177 : 0 ≤ (x5_1 : Int) := of_decide_eq_true (by first | (with_reducible assumption) | assumption)
                have q177 : x5_1 < (l1.length : Int) := of_decide_eq_true (by first | (with_reducible assumption) | assumption)
                obtain ⟨ad177, e177, hx177_0⟩ := Kd.at_int HR1.out x5_1 p177 q177
                cases e177
                replace p177 := eq_true p177
                replace q177 := eq_true q177
                go_wp2
                repeat (go_quiet (fail); try go_wp2)
                go_roundg k1
                case measure => have := HK1.out; omega
                case rel => exact ⟨(wrap64 (x5_1 + 1)), (by first | rfl | (simp; done) | (simp [*]; done)), H', ⟨by have := HK1.out; omega⟩, by repeat (first | exact Drawn0.refl _ | apply Drawn0.step)⟩
              · rw [if_neg c7] at H
                have c7b0 : ((rd l0 x5_1) == (rd l1 x5_1)) = false := beq_eq_false_iff_ne.mpr c7
                have c7b1 : ((rd l0 x5_1) != (rd l1 x5_1)) = true := bne_iff_ne.mpr c7
                obtain rfl := Option.some.inj H
                have p176 : 0 ≤ (x5_1 : Int) := of_decide_eq_true (by first | (with_reducible assumption) | assumption)
                have q176 : x5_1 < (l0.length : Int) := of_decide_eq_true (by first | (with_reducible assumption) | assumption)
                obtain ⟨ad176, e176, hx176_0⟩ := Kd.at_int HR0.out x5_1 p176 q176
                cases e176
                replace p176 := eq_true p176
                replace q176 := eq_true q176
                have p177 : 0 ≤ (x5_1 : Int) := of_decide_eq_true (by first | (with_reducible assumption) | assumption)
                have q177 : x5_1 < (l1.length : Int) := of_decide_eq_true (by first | (with_reducible assumption) | assumption)
                obtain ⟨ad177, e177, hx177_0⟩ := Kd.at_int HR1.out x5_1 p177 q177
                cases e177
                replace p177 := eq_true p177
                replace q177 := eq_true q177
                go_wp2
                repeat (go_quiet (fail); try go_wp2)
                go_ret
                exact ⟨by first | rfl | (simp; done) | (simp [*]; done), by repeat (first | exact Drawn0.refl _ | apply Drawn0.step)⟩
            · rw [if_neg c6] at H
              exact absurd H (by simp)
          · rw [if_neg c5] at H
            exact absurd H (by simp)
        · rw [if_neg c4] at H
          have c4b0 : decide (x5_1 < (l0.length : Int)) = false := decide_eq_false c4
          clear c4
          obtain rfl := Option.some.inj H
          go_wp2
          repeat (go_quiet (fail); try go_wp2)
          go_ret
          exact ⟨by first | rfl | (simp; done) | (simp [*]; done), by repeat (first | exact Drawn0.refl _ | apply Drawn0.step)⟩
  · rw [if_neg c3] at H
    have c3b0 : ((l0.length : Int) == (l1.length : Int)) = false := beq_eq_false_iff_ne.mpr c3
    have c3b1 : ((l0.length : Int) != (l1.length : Int)) = true := bne_iff_ne.mpr c3
    have c3b2 : (l0.length == l1.length) = false := by first | simpa using c3 | (simp at c3 ⊢; omega)
    obtain rfl := Option.some.inj H
    go_enter Try.func10, Try.ntmps10
    go_wp2
    repeat (go_quiet (fail); try go_wp2)
    go_ret
    exact ⟨by first | rfl | (simp; done) | (simp [*]; done), by repeat (first | exact Drawn0.refl _ | apply Drawn0.step)⟩

/-! ### laws_sameFloat: function 46 -/
def laws_sameFloat.j0 : Nat → Nat → Nat → Bool → Option (Bool)
  | 0, _, _, _ => none
  | k + 1, x0, x1, x12 => if x12 = true then (if (fne x0 x0) = true then (some (fne x1 x1)) else (some false)) else (if (feq x0 0) = true then (if (feq x1 0) = true then (if fok .quo 4607182418800017408 x0 = true then (if fok .quo 4607182418800017408 x1 = true then (some ((fgt (fop .quo 4607182418800017408 x0) 0) == (fgt (fop .quo 4607182418800017408 x1) 0))) else (none)) else (none)) else (some (feq x0 x1))) else (some (feq x0 x1)))
def laws_sameFloat.f (k : Nat) (a0 : Nat) (a1 : Nat) : Option (Bool) := if (fne a0 a0) = true then (laws_sameFloat.j0 k a0 a1 true) else (laws_sameFloat.j0 k a0 a1 (fne a1 a1))
theorem laws_sameFloat.mono_l : ∀ k, (∀ y0 y1 y2, LeO (laws_sameFloat.j0 k y0 y1 y2) (laws_sameFloat.j0 (k + 1) y0 y1 y2))
  | 0 => fun _ _ _ r h => by simp [laws_sameFloat.j0] at h
  | k + 1 => by
    have ih0 := laws_sameFloat.mono_l k
    · intro y0 y1 y2
      unfold laws_sameFloat.j0
      repeat' first
      | (with_reducible exact ih0 _ _ _)
      | (with_reducible exact LeO.refl _)
      | (with_reducible exact LeO.none _)
      | (with_reducible refine LeO.ite ?_ ?_)
      | (with_reducible refine LeO.bind ?_ (fun _ => ?_))
      | exact ih0 _ _ _
      | exact LeO.none _
      | refine LeO.ite ?_ ?_
      | refine LeO.bind ?_ (fun _ => ?_)
theorem laws_sameFloat.mono : ∀ a0 a1 k, LeO (laws_sameFloat.f k a0 a1) (laws_sameFloat.f (k + 1) a0 a1) := by
  intro a0 a1 k
  have ih0 := laws_sameFloat.mono_l k
  unfold laws_sameFloat.f
  repeat' first
      | (with_reducible exact ih0 _ _ _)
      | (with_reducible exact LeO.refl _)
      | (with_reducible exact LeO.none _)
      | (with_reducible refine LeO.ite ?_ ?_)
      | (with_reducible refine LeO.bind ?_ (fun _ => ?_))
      | exact ih0 _ _ _
      | exact LeO.none _
      | refine LeO.ite ?_ ?_
      | refine LeO.bind ?_ (fun _ => ?_)
set_option maxHeartbeats 8000000 in
set_option maxRecDepth 100000 in
theorem laws_sameFloat.calls (k : Nat) (a0 : Nat) (a1 : Nat) (r : Bool) (w : World) (h : laws_sameFloat.f k a0 a1 = some r) :
    Calls Try.prog 46 #[.float .f64 a0, .float .f64 a1] w fun e w' => e = .returned (.bool r) ∧ Drawn0 w w' := by
  have H : (if (fne a0 a0) = true then (laws_sameFloat.j0 k a0 a1 true) else (laws_sameFloat.j0 k a0 a1 (fne a1 a1))) = some r := h
  clear h
  have HC3 := Aside0.mk H
  clear H
  go_enter Try.func46, Try.ntmps46
  go_upto_region 1 with (fail)
  go_cut [12] (fun v12 wc => ∃ (kq : Nat) (x12_2 : Bool), v12 = .bool x12_2 ∧ Aside0 (laws_sameFloat.j0 kq a0 a1 x12_2 = some r) ∧ Aside0 (kq ≤ k) ∧ Drawn0 w wc)
  case first =>
    have H := HC3.out
    clear HC3
    by_cases c4 : (fne a0 a0) = true
    · rw [if_pos c4] at H
      have c4b0 : (fne a0 a0) = true := c4
      clear c4
      (first | rw [c4b0] | (simp only [i64_w, i32_w]; rw [c4b0]) | skip)
      have H' := Aside0.mk H
      clear H
      go_wp2
      go_meet
      case rel => exact ⟨_, (true), (by first | rfl | (simp; done) | (simp [*]; done)), H', ⟨by first | omega | exact Nat.le_refl _⟩, by repeat (first | exact Drawn0.refl _ | apply Drawn0.step)⟩
    · rw [if_neg c4] at H
      have c4b0 : (fne a0 a0) = false := by simpa using c4
      clear c4
      (first | rw [c4b0] | (simp only [i64_w, i32_w]; rw [c4b0]) | skip)
      have H' := Aside0.mk H
      clear H
      go_wp2
      go_meet
      case rel => exact ⟨_, ((fne a1 a1)), (by first | rfl | (simp; done) | (simp [*]; done)), H', ⟨by first | omega | exact Nat.le_refl _⟩, by repeat (first | exact Drawn0.refl _ | apply Drawn0.step)⟩
  case rest =>
    clear HC3
    try clear p2
    try clear c4
    try clear c4b0
    obtain ⟨kq, x12_2, rfl, HA, HJ2, ⟨mc2, rfl⟩⟩ := hcut
    cases kq with
    | zero => exact absurd HA.out (by simp [laws_sameFloat.j0])
    | succ kj2 =>
      have H := HA.out
      clear HA
      simp only [laws_sameFloat.j0] at H
      by_cases c5 : x12_2 = true
      · subst c5
        have H1 : (if (fne a0 a0) = true then (some (fne a1 a1)) else (some false)) = some r := by rw [if_pos rfl] at H; exact H
        clear H
        have H := H1
        clear H1
        by_cases c6 : (fne a0 a0) = true
        · rw [if_pos c6] at H
          have c6b0 : (fne a0 a0) = true := c6
          clear c6
          obtain rfl := Option.some.inj H
          go_wp2
          go_ret
          exact ⟨by first | rfl | (simp; done) | (simp [*]; done), by repeat (first | exact Drawn0.refl _ | apply Drawn0.step)⟩
        · rw [if_neg c6] at H
          have c6b0 : (fne a0 a0) = false := by simpa using c6
          clear c6
          obtain rfl := Option.some.inj H
          go_wp2
          go_ret
          exact ⟨by first | rfl | (simp; done) | (simp [*]; done), by repeat (first | exact Drawn0.refl _ | apply Drawn0.step)⟩
      · replace c5 := Bool.eq_false_iff.mpr c5
        subst c5
        have H1 : (if (feq a0 0) = true then (if (feq a1 0) = true then (if fok .quo 4607182418800017408 a0 = true then (if fok .quo 4607182418800017408 a1 = true then (some ((fgt (fop .quo 4607182418800017408 a0) 0) == (fgt (fop .quo 4607182418800017408 a1) 0))) else (none)) else (none)) else (some (feq a0 a1))) else (some (feq a0 a1))) = some r := by rw [if_neg (show ¬ (false = true) by decide)] at H; exact H
        clear H
        have H := H1
        clear H1
        by_cases c7 : (feq a0 0) = true
        · rw [if_pos c7] at H
          have c7b0 : (feq a0 0) = true := c7
          clear c7
          by_cases c8 : (feq a1 0) = true
          · rw [if_pos c8] at H
            have c8b0 : (feq a1 0) = true := c8
            clear c8
            by_cases c9 : fok .quo 4607182418800017408 a0 = true
            · rw [if_pos c9] at H
              have c9b0 := eq_true c9
              have c9b1 : decide (fok .quo 4607182418800017408 a0 = true) = true := decide_eq_true c9
              clear c9
              by_cases c10 : fok .quo 4607182418800017408 a1 = true
              · rw [if_pos c10] at H
                have c10b0 := eq_true c10
                have c10b1 : decide (fok .quo 4607182418800017408 a1 = true) = true := decide_eq_true c10
                clear c10
                obtain rfl := Option.some.inj H
                go_wp2
                go_ret
                exact ⟨by first | rfl | (simp; done) | (simp [*]; done), by repeat (first | exact Drawn0.refl _ | apply Drawn0.step)⟩
              · rw [if_neg c10] at H
                exact absurd H (by simp)
            · rw [if_neg c9] at H
              exact absurd H (by simp)
          · rw [if_neg c8] at H
            have c8b0 : (feq a1 0) = false := by simpa using c8
            clear c8
            obtain rfl := Option.some.inj H
            go_wp2
            go_ret
            exact ⟨by first | rfl | (simp; done) | (simp [*]; done), by repeat (first | exact Drawn0.refl _ | apply Drawn0.step)⟩
        · rw [if_neg c7] at H
          have c7b0 : (feq a0 0) = false := by simpa using c7
          clear c7
          obtain rfl := Option.some.inj H
          go_wp2
          go_ret
          exact ⟨by first | rfl | (simp; done) | (simp [*]; done), by repeat (first | exact Drawn0.refl _ | apply Drawn0.step)⟩

/-! ### laws_eqLevel: function 29 -/
def laws_eqLevel.f (k : Nat) (a0_0 : Int) (a0_1 : Nat) (a1_0 : Int) (a1_1 : Nat) : Option (Bool) := if a0_0 = a1_0 then ((laws_sameFloat.f k a0_1 a1_1).bind fun t180 => (if t180 = true then (some true) else (some false))) else (some false)
theorem laws_eqLevel.mono : ∀ a0 a1 a2 a3 k, LeO (laws_eqLevel.f k a0 a1 a2 a3) (laws_eqLevel.f (k + 1) a0 a1 a2 a3) := by
  intro a0 a1 a2 a3 k
  unfold laws_eqLevel.f
  repeat' first
      | (with_reducible exact laws_sameFloat.mono _ _ _)
      | (with_reducible exact LeO.refl _)
      | (with_reducible exact LeO.none _)
      | (with_reducible refine LeO.ite ?_ ?_)
      | (with_reducible refine LeO.bind ?_ (fun _ => ?_))
      | exact laws_sameFloat.mono _ _ _
      | exact LeO.none _
      | refine LeO.ite ?_ ?_
      | refine LeO.bind ?_ (fun _ => ?_)
set_option maxHeartbeats 8000000 in
set_option maxRecDepth 100000 in
theorem laws_eqLevel.calls (k : Nat) (a0_0 : Int) (a0_1 : Nat) (a1_0 : Int) (a1_1 : Nat) (r : Bool) (w : World) (h : laws_eqLevel.f k a0_0 a0_1 a1_0 a1_1 = some r) :
    Calls Try.prog 29 #[.agg #[.int .i64 a0_0, .float .f64 a0_1], .agg #[.int .i64 a1_0, .float .f64 a1_1]] w fun e w' => e = .returned (.bool r) ∧ Below w.heap.size w w' := by
  have hu41 := Try.underlying41
  have HB := Aside0.mk (Below.refl w.heap.size w)
  have H : (if a0_0 = a1_0 then ((laws_sameFloat.f k a0_1 a1_1).bind fun t180 => (if t180 = true then (some true) else (some false))) else (some false)) = some r := h
  clear h
  by_cases c3 : a0_0 = a1_0
  · rw [if_pos c3] at H
    have c3b0 : (a0_0 == a1_0) = true := beq_iff_eq.mpr c3
    have c3b1 : (a0_0 != a1_0) = false := bne_eq_false_iff_eq.mpr c3
    clear c3
    replace H := Option.bind_eq_some_iff.mp H
    obtain ⟨t180, A40, H⟩ := H
    replace H : (if t180 = true then (some true) else (some false)) = some r := H
    have A4 := Aside0.mk A40
    clear A40
    by_cases c5 : t180 = true
    · subst c5
      have H1 : (some true) = some r := by rw [if_pos rfl] at H; exact H
      clear H
      have H := H1
      clear H1
      obtain rfl := Option.some.inj H
      go_enter Try.func29, Try.ntmps29
      go_wp2_with (first | ((with_reducible refine gate_dst (N := 2) rfl ?_); refine box_event ?hg (N := 2) ?hd (cs := #[.int .i64 a0_0, .float .f64 a0_1]) (t := 41) ?hr ?_; (case hd => rfl); (case hg => rfl); (case hr => first | (go_simp; done) | (go_simp; rfl)); intro gb178 hg w6 hbox hb; have n0_ := Aside0.mk (below_step (by repeat (first | (with_reducible first | exact HB.out | apply below_alloc | apply pw_below_drewN | apply below_drew1) | exact HB.out)) hb); have n1_ := Aside0.mk (hbox); have n2_ := Aside0.mk ((by rw [hg]; exact (below_size (by repeat (first | (with_reducible first | exact HB.out | apply below_alloc | apply pw_below_drewN | apply below_drew1) | exact HB.out))) : w.heap.size ≤ gb178)); have n3_ := Aside0.mk ((by rw [hg]; exact (below_size (by repeat (first | (with_reducible first | exact HB.out | apply below_alloc | apply pw_below_drewN | apply below_drew1) | exact HB.out))) : w.heap.size ≤ gb178)); clear HB; have HB := n0_; have BK178 := n1_; have GW178 := n2_; have GE178 := n3_; clear n0_ n1_ n2_ n3_; clear hb hbox hg) | ((with_reducible refine gate_dst (N := 3) rfl ?_); refine box_event ?hg (N := 3) ?hd (cs := #[.int .i64 a1_0, .float .f64 a1_1]) (t := 41) ?hr ?_; (case hd => rfl); (case hg => rfl); (case hr => first | (go_simp; done) | (go_simp; rfl)); intro gb179 hg w7 hbox hb; have n0_ := Aside0.mk (blk_below (g := gb178) (o := .cells #[.int .i64 a0_0, .float .f64 a0_1] 41 (0, 0)) (by (with_reducible repeat (first | refine blk_drewN ?_ _ | refine blk_drew ?_ | refine blk_alloc ?_ _)); exact BK178.out) hb); have n1_ := Aside0.mk (below_step (by repeat (first | (with_reducible first | exact HB.out | apply below_alloc | apply pw_below_drewN | apply below_drew1 | refine below_set ?_ GE178.out) | exact HB.out)) hb); have n2_ := Aside0.mk (hbox); have n3_ := Aside0.mk ((by rw [hg]; exact (below_size (by repeat (first | (with_reducible first | exact HB.out | apply below_alloc | apply pw_below_drewN | apply below_drew1 | refine below_set ?_ GE178.out) | exact HB.out))) : w.heap.size ≤ gb179)); have n4_ := Aside0.mk ((by rw [hg]; exact (below_size (by repeat (first | (with_reducible first | exact HB.out | apply below_alloc | apply pw_below_drewN | apply below_drew1 | refine below_set ?_ GE178.out) | exact HB.out))) : w.heap.size ≤ gb179)); have n5_ := Aside0.mk ((by rw [hg]; exact Nat.ne_of_lt (blk_lt (g := gb178) (o := .cells #[.int .i64 a0_0, .float .f64 a0_1] 41 (0, 0)) (by (with_reducible repeat (first | refine blk_drewN ?_ _ | refine blk_drew ?_ | refine blk_alloc ?_ _)); exact BK178.out)) : gb178 ≠ gb179)); have n6_ := Aside0.mk ((by rw [hg]; exact Nat.ne_of_gt (blk_lt (g := gb178) (o := .cells #[.int .i64 a0_0, .float .f64 a0_1] 41 (0, 0)) (by (with_reducible repeat (first | refine blk_drewN ?_ _ | refine blk_drew ?_ | refine blk_alloc ?_ _)); exact BK178.out)) : gb179 ≠ gb178)); clear BK178; clear HB; have BK178 := n0_; have HB := n1_; have BK179 := n2_; have GW179 := n3_; have GE179 := n4_; have NB178_179 := n5_; have NB179_178 := n6_; clear n0_ n1_ n2_ n3_ n4_ n5_ n6_; clear hb hbox hg; have hnb8 := NB178_179.out; have hnc8 := NB179_178.out; have hcz9_0 : w7.cell? ⟨gb178, 0, none⟩ = some (.int .i64 a0_0) := (blk_cell BK178.out 0).trans rfl; have hcz9_1 : w7.cell? ⟨gb178, 1, none⟩ = some (.float .f64 a0_1) := (blk_cell BK178.out 1).trans rfl; have hfz9_0 := blk_frozen BK178.out 0; have hfz9_1 := blk_frozen BK178.out 1; have hcz10_0 : w7.cell? ⟨gb179, 0, none⟩ = some (.int .i64 a1_0) := (blk_cell BK179.out 0).trans rfl; have hcz10_1 : w7.cell? ⟨gb179, 1, none⟩ = some (.float .f64 a1_1) := (blk_cell BK179.out 1).trans rfl; have hfz10_0 := blk_frozen BK179.out 0; have hfz10_1 := blk_frozen BK179.out 1) | ((with_reducible refine gate_callee (f := 46) rfl ?_); refine goesL_ (some 14) rfl rfl Try.func46 (by kernel_rfl) rfl #[.float .f64 a0_1, .float .f64 a1_1] rfl (by (try simp only [List.map_toArray, List.map_cons, List.map_nil]); first | done | rfl | (simp only [List.length_drop, List.length_take]; rfl)) ?_; (with_reducible refine (laws_sameFloat.calls k a0_1 a1_1 true _ A4.out).mono ?_); rintro e w' ⟨rfl, ⟨nd, rfl⟩⟩; refine ⟨_, rfl, ?_⟩))
      go_ret
      exact ⟨by first | rfl | (simp [errW_none, errW_some] <;> rfl) | (simp [*, errW_none, errW_some] <;> rfl), by repeat (first | (with_reducible first | exact HB.out | apply below_alloc | apply pw_below_drewN | apply below_drew1 | refine below_set ?_ GE178.out | refine below_set ?_ GE179.out) | exact HB.out)⟩
    · replace c5 := Bool.eq_false_iff.mpr c5
      subst c5
      have H1 : (some false) = some r := by rw [if_neg (show ¬ (false = true) by decide)] at H; exact H
      clear H
      have H := H1
      clear H1
      obtain rfl := Option.some.inj H
      go_enter Try.func29, Try.ntmps29
      go_wp2_with (first | ((with_reducible refine gate_dst (N := 2) rfl ?_); refine box_event ?hg (N := 2) ?hd (cs := #[.int .i64 a0_0, .float .f64 a0_1]) (t := 41) ?hr ?_; (case hd => rfl); (case hg => rfl); (case hr => first | (go_simp; done) | (go_simp; rfl)); intro gb178 hg w11 hbox hb; have n0_ := Aside0.mk (below_step (by repeat (first | (with_reducible first | exact HB.out | apply below_alloc | apply pw_below_drewN | apply below_drew1) | exact HB.out)) hb); have n1_ := Aside0.mk (hbox); have n2_ := Aside0.mk ((by rw [hg]; exact (below_size (by repeat (first | (with_reducible first | exact HB.out | apply below_alloc | apply pw_below_drewN | apply below_drew1) | exact HB.out))) : w.heap.size ≤ gb178)); have n3_ := Aside0.mk ((by rw [hg]; exact (below_size (by repeat (first | (with_reducible first | exact HB.out | apply below_alloc | apply pw_below_drewN | apply below_drew1) | exact HB.out))) : w.heap.size ≤ gb178)); clear HB; have HB := n0_; have BK178 := n1_; have GW178 := n2_; have GE178 := n3_; clear n0_ n1_ n2_ n3_; clear hb hbox hg) | ((with_reducible refine gate_dst (N := 3) rfl ?_); refine box_event ?hg (N := 3) ?hd (cs := #[.int .i64 a1_0, .float .f64 a1_1]) (t := 41) ?hr ?_; (case hd => rfl); (case hg => rfl); (case hr => first | (go_simp; done) | (go_simp; rfl)); intro gb179 hg w12 hbox hb; have n0_ := Aside0.mk (blk_below (g := gb178) (o := .cells #[.int .i64 a0_0, .float .f64 a0_1] 41 (0, 0)) (by (with_reducible repeat (first | refine blk_drewN ?_ _ | refine blk_drew ?_ | refine blk_alloc ?_ _)); exact BK178.out) hb); have n1_ := Aside0.mk (below_step (by repeat (first | (with_reducible first | exact HB.out | apply below_alloc | apply pw_below_drewN | apply below_drew1 | refine below_set ?_ GE178.out) | exact HB.out)) hb); have n2_ := Aside0.mk (hbox); have n3_ := Aside0.mk ((by rw [hg]; exact (below_size (by repeat (first | (with_reducible first | exact HB.out | apply below_alloc | apply pw_below_drewN | apply below_drew1 | refine below_set ?_ GE178.out) | exact HB.out))) : w.heap.size ≤ gb179)); have n4_ := Aside0.mk ((by rw [hg]; exact (below_size (by repeat (first | (with_reducible first | exact HB.out | apply below_alloc | apply pw_below_drewN | apply below_drew1 | refine below_set ?_ GE178.out) | exact HB.out))) : w.heap.size ≤ gb179)); have n5_ := Aside0.mk ((by rw [hg]; exact Nat.ne_of_lt (blk_lt (g := gb178) (o := .cells #[.int .i64 a0_0, .float .f64 a0_1] 41 (0, 0)) (by (with_reducible repeat (first | refine blk_drewN ?_ _ | refine blk_drew ?_ | refine blk_alloc ?_ _)); exact BK178.out)) : gb178 ≠ gb179)); have n6_ := Aside0.mk ((by rw [hg]; exact Nat.ne_of_gt (blk_lt (g := gb178) (o := .cells #[.int .i64 a0_0, .float .f64 a0_1] 41 (0, 0)) (by (with_reducible repeat (first | refine blk_drewN ?_ _ | refine blk_drew ?_ | refine blk_alloc ?_ _)); exact BK178.out)) : gb179 ≠ gb178)); clear BK178; clear HB; have BK178 := n0_; have HB := n1_; have BK179 := n2_; have GW179 := n3_; have GE179 := n4_; have NB178_179 := n5_; have NB179_178 := n6_; clear n0_ n1_ n2_ n3_ n4_ n5_ n6_; clear hb hbox hg; have hnb13 := NB178_179.out; have hnc13 := NB179_178.out; have hcz14_0 : w12.cell? ⟨gb178, 0, none⟩ = some (.int .i64 a0_0) := (blk_cell BK178.out 0).trans rfl; have hcz14_1 : w12.cell? ⟨gb178, 1, none⟩ = some (.float .f64 a0_1) := (blk_cell BK178.out 1).trans rfl; have hfz14_0 := blk_frozen BK178.out 0; have hfz14_1 := blk_frozen BK178.out 1; have hcz15_0 : w12.cell? ⟨gb179, 0, none⟩ = some (.int .i64 a1_0) := (blk_cell BK179.out 0).trans rfl; have hcz15_1 : w12.cell? ⟨gb179, 1, none⟩ = some (.float .f64 a1_1) := (blk_cell BK179.out 1).trans rfl; have hfz15_0 := blk_frozen BK179.out 0; have hfz15_1 := blk_frozen BK179.out 1) | ((with_reducible refine gate_callee (f := 46) rfl ?_); refine goesL_ (some 14) rfl rfl Try.func46 (by kernel_rfl) rfl #[.float .f64 a0_1, .float .f64 a1_1] rfl (by (try simp only [List.map_toArray, List.map_cons, List.map_nil]); first | done | rfl | (simp only [List.length_drop, List.length_take]; rfl)) ?_; (with_reducible refine (laws_sameFloat.calls k a0_1 a1_1 false _ A4.out).mono ?_); rintro e w' ⟨rfl, ⟨nd, rfl⟩⟩; refine ⟨_, rfl, ?_⟩))
      go_ret
      exact ⟨by first | rfl | (simp [errW_none, errW_some] <;> rfl) | (simp [*, errW_none, errW_some] <;> rfl), by repeat (first | (with_reducible first | exact HB.out | apply below_alloc | apply pw_below_drewN | apply below_drew1 | refine below_set ?_ GE178.out | refine below_set ?_ GE179.out) | exact HB.out)⟩
  · rw [if_neg c3] at H
    have c3b0 : (a0_0 == a1_0) = false := beq_eq_false_iff_ne.mpr c3
    have c3b1 : (a0_0 != a1_0) = true := bne_iff_ne.mpr c3
    obtain rfl := Option.some.inj H
    go_enter Try.func29, Try.ntmps29
    go_wp2_with (first | ((with_reducible refine gate_dst (N := 2) rfl ?_); refine box_event ?hg (N := 2) ?hd (cs := #[.int .i64 a0_0, .float .f64 a0_1]) (t := 41) ?hr ?_; (case hd => rfl); (case hg => rfl); (case hr => first | (go_simp; done) | (go_simp; rfl)); intro gb178 hg w16 hbox hb; have n0_ := Aside0.mk (below_step (by repeat (first | (with_reducible first | exact HB.out | apply below_alloc | apply pw_below_drewN | apply below_drew1) | exact HB.out)) hb); have n1_ := Aside0.mk (hbox); have n2_ := Aside0.mk ((by rw [hg]; exact (below_size (by repeat (first | (with_reducible first | exact HB.out | apply below_alloc | apply pw_below_drewN | apply below_drew1) | exact HB.out))) : w.heap.size ≤ gb178)); have n3_ := Aside0.mk ((by rw [hg]; exact (below_size (by repeat (first | (with_reducible first | exact HB.out | apply below_alloc | apply pw_below_drewN | apply below_drew1) | exact HB.out))) : w.heap.size ≤ gb178)); clear HB; have HB := n0_; have BK178 := n1_; have GW178 := n2_; have GE178 := n3_; clear n0_ n1_ n2_ n3_; clear hb hbox hg) | ((with_reducible refine gate_dst (N := 3) rfl ?_); refine box_event ?hg (N := 3) ?hd (cs := #[.int .i64 a1_0, .float .f64 a1_1]) (t := 41) ?hr ?_; (case hd => rfl); (case hg => rfl); (case hr => first | (go_simp; done) | (go_simp; rfl)); intro gb179 hg w17 hbox hb; have n0_ := Aside0.mk (blk_below (g := gb178) (o := .cells #[.int .i64 a0_0, .float .f64 a0_1] 41 (0, 0)) (by (with_reducible repeat (first | refine blk_drewN ?_ _ | refine blk_drew ?_ | refine blk_alloc ?_ _)); exact BK178.out) hb); have n1_ := Aside0.mk (below_step (by repeat (first | (with_reducible first | exact HB.out | apply below_alloc | apply pw_below_drewN | apply below_drew1 | refine below_set ?_ GE178.out) | exact HB.out)) hb); have n2_ := Aside0.mk (hbox); have n3_ := Aside0.mk ((by rw [hg]; exact (below_size (by repeat (first | (with_reducible first | exact HB.out | apply below_alloc | apply pw_below_drewN | apply below_drew1 | refine below_set ?_ GE178.out) | exact HB.out))) : w.heap.size ≤ gb179)); have n4_ := Aside0.mk ((by rw [hg]; exact (below_size (by repeat (first | (with_reducible first | exact HB.out | apply below_alloc | apply pw_below_drewN | apply below_drew1 | refine below_set ?_ GE178.out) | exact HB.out))) : w.heap.size ≤ gb179)); have n5_ := Aside0.mk ((by rw [hg]; exact Nat.ne_of_lt (blk_lt (g := gb178) (o := .cells #[.int .i64 a0_0, .float .f64 a0_1] 41 (0, 0)) (by (with_reducible repeat (first | refine blk_drewN ?_ _ | refine blk_drew ?_ | refine blk_alloc ?_ _)); exact BK178.out)) : gb178 ≠ gb179)); have n6_ := Aside0.mk ((by rw [hg]; exact Nat.ne_of_gt (blk_lt (g := gb178) (o := .cells #[.int .i64 a0_0, .float .f64 a0_1] 41 (0, 0)) (by (with_reducible repeat (first | refine blk_drewN ?_ _ | refine blk_drew ?_ | refine blk_alloc ?_ _)); exact BK178.out)) : gb179 ≠ gb178)); clear BK178; clear HB; have BK178 := n0_; have HB := n1_; have BK179 := n2_; have GW179 := n3_; have GE179 := n4_; have NB178_179 := n5_; have NB179_178 := n6_; clear n0_ n1_ n2_ n3_ n4_ n5_ n6_; clear hb hbox hg; have hnb18 := NB178_179.out; have hnc18 := NB179_178.out; have hcz19_0 : w17.cell? ⟨gb178, 0, none⟩ = some (.int .i64 a0_0) := (blk_cell BK178.out 0).trans rfl; have hcz19_1 : w17.cell? ⟨gb178, 1, none⟩ = some (.float .f64 a0_1) := (blk_cell BK178.out 1).trans rfl; have hfz19_0 := blk_frozen BK178.out 0; have hfz19_1 := blk_frozen BK178.out 1; have hcz20_0 : w17.cell? ⟨gb179, 0, none⟩ = some (.int .i64 a1_0) := (blk_cell BK179.out 0).trans rfl; have hcz20_1 : w17.cell? ⟨gb179, 1, none⟩ = some (.float .f64 a1_1) := (blk_cell BK179.out 1).trans rfl; have hfz20_0 := blk_frozen BK179.out 0; have hfz20_1 := blk_frozen BK179.out 1))
    go_ret
    exact ⟨by first | rfl | (simp [errW_none, errW_some] <;> rfl) | (simp [*, errW_none, errW_some] <;> rfl), by repeat (first | (with_reducible first | exact HB.out | apply below_alloc | apply pw_below_drewN | apply below_drew1 | refine below_set ?_ GE178.out | refine below_set ?_ GE179.out) | exact HB.out)⟩

end Go.Proofs.Ytjgnolohppnbbaa.PSig
