-- Printed by a program of this session's own (wip/print), out of the translation. Lean checks it.
import Derived.Test.YtjgnolohppnbbaaPSgx0
import Derived.Test.YtjgnolohppnbbaaPSgx5
import Derived.Test.YtjgnolohppnbbaaPSgx6
import Derived.Test.YtjgnolohppnbbaaPSgx7
namespace Go.Proofs.Ytjgnolohppnbbaa.PSg
open Go.Proofs.YtjgnolohppnbbaaW
open Go.RowKit Go.Proofs.YtjgnolohppnbbaaW.PrintWords Go.Proofs.YtjgnolohppnbbaaW.PrintLast Go.Proofs.YtjgnolohppnbbaaW.PrintMore
attribute [local go_sem] max2_int min2_int max_two min_two max_three min_three max_four min_four   -- for this text's walks alone
set_option linter.unusedVariables false
set_option linter.unusedSimpArgs false

/-! ### impl_Rebuild: function 18 -/
def impl_Rebuild.l0 : Nat → List (S41) → Int → Int → Option (Nat)
  | 0, _, _, _ => none
  | k + 1, x0, x1, x5 => if (wrap64 (x5 + 1)) < (x0.length : Int) then (if 0 ≤ x5 then (if x5 < (x0.length : Int) then (if x1 ≤ ((rd_T41 x0 x5).f0) then (if 0 ≤ (wrap64 (x5 + 1)) then (if x1 ≥ ((rd_T41 x0 (wrap64 (x5 + 1))).f0) then ((impl_Between.f ((rd_T41 x0 x5).f0) ((rd_T41 x0 x5).f1) ((rd_T41 x0 (wrap64 (x5 + 1))).f0) ((rd_T41 x0 (wrap64 (x5 + 1))).f1) x1).bind fun t246 => (some t246)) else (impl_Rebuild.l0 k x0 x1 (wrap64 (x5 + 1)))) else (none)) else (impl_Rebuild.l0 k x0 x1 (wrap64 (x5 + 1)))) else (none)) else (none)) else ((impl_nan.f).bind fun t247 => (some t247))
def impl_Rebuild.f (k : Nat) (l0 : List (S41)) (a1 : Int) : Option (Nat) := (impl_AscentOk.f k l0).bind fun t240 => (if t240 = true then (impl_Rebuild.l0 k l0 a1 0) else ((impl_nan.f).bind fun t241 => (some t241)))
theorem impl_Rebuild.mono_l : ∀ k, (∀ y0 y1 y2, LeO (impl_Rebuild.l0 k y0 y1 y2) (impl_Rebuild.l0 (k + 1) y0 y1 y2))
  | 0 => fun _ _ _ r h => by simp [impl_Rebuild.l0] at h
  | k + 1 => by
    have ih0 := impl_Rebuild.mono_l k
    · intro y0 y1 y2
      unfold impl_Rebuild.l0
      repeat' first
      | (with_reducible exact ih0 _ _ _)
      | (with_reducible exact impl_AscentOk.mono _ _)
      | (with_reducible exact LeO.refl _)
      | (with_reducible exact LeO.none _)
      | (with_reducible refine LeO.ite ?_ ?_)
      | (with_reducible refine LeO.bind ?_ (fun _ => ?_))
      | exact ih0 _ _ _
      | exact impl_AscentOk.mono _ _
      | exact LeO.none _
      | refine LeO.ite ?_ ?_
      | refine LeO.bind ?_ (fun _ => ?_)
theorem impl_Rebuild.mono : ∀ a0 a1 k, LeO (impl_Rebuild.f k a0 a1) (impl_Rebuild.f (k + 1) a0 a1) := by
  intro a0 a1 k
  have ih0 := impl_Rebuild.mono_l k
  unfold impl_Rebuild.f
  repeat' first
      | (with_reducible exact ih0 _ _ _)
      | (with_reducible exact impl_AscentOk.mono _ _)
      | (with_reducible exact LeO.refl _)
      | (with_reducible exact LeO.none _)
      | (with_reducible refine LeO.ite ?_ ?_)
      | (with_reducible refine LeO.bind ?_ (fun _ => ?_))
      | exact ih0 _ _ _
      | exact impl_AscentOk.mono _ _
      | exact LeO.none _
      | refine LeO.ite ?_ ?_
      | refine LeO.bind ?_ (fun _ => ?_)
def impl_Rebuild.T7 : Bool × List (List Nat × List Nat) := (true, [([], []), ([], []), ([0, 1], [0, 1]), ([2], [2]), ([], []), ([], []), ([5], [5]), ([4, 6], [4, 6]), ([7], [7]), ([], []), ([3, 8, 9], [3, 8, 9]), ([10, 10, 0, 1, 2, 3, 4, 5, 6, 7, 8, 9, 10], [10])])
def impl_Rebuild.B7 : List Nat := [0, 0, 3, 7, 0, 0, 32, 112, 240, 0, 1023, 2047]
theorem impl_Rebuild.tab7 : rtab .any (opsOf Try.f18 7) = impl_Rebuild.T7 := by kernel_rfl
theorem impl_Rebuild.bits7 : waitsOk impl_Rebuild.T7.2 impl_Rebuild.B7 = true := by kernel_rfl
set_option maxHeartbeats 8000000 in
set_option maxRecDepth 100000 in
theorem impl_Rebuild.calls (k : Nat) (A0 : Option Addr) (c0 : Nat) (l0 : List (S41)) (a1 : Int) (r : Nat) (w : World) (hr0 : Kd.C k41 w A0 l0.length l0) (hc0 : l0.length ≤ c0) (h : impl_Rebuild.f k l0 a1 = some r) :
    Calls Try.prog 18 #[.slice A0 l0.length c0, .int .i64 a1] w fun e w' => e = .returned (.float .f64 r) ∧ Below w.heap.size w w' := by
  have hu41 := Try.underlying41
  have HR0 := Aside0.mk hr0
  have HC0 := Aside0.mk hc0
  clear hr0 hc0
  have HB := Aside0.mk (Below.refl w.heap.size w)
  have H : ((impl_AscentOk.f k l0).bind fun t240 => (if t240 = true then (impl_Rebuild.l0 k l0 a1 0) else ((impl_nan.f).bind fun t241 => (some t241)))) = some r := h
  clear h
  replace H := Option.bind_eq_some_iff.mp H
  obtain ⟨t240, A30, H⟩ := H
  replace H : (if t240 = true then (impl_Rebuild.l0 k l0 a1 0) else ((impl_nan.f).bind fun t241 => (some t241))) = some r := H
  have A3 := Aside0.mk A30
  clear A30
  by_cases c4 : t240 = true
  · subst c4
    have H1 : (impl_Rebuild.l0 k l0 a1 0) = some r := by rw [if_pos rfl] at H; exact H
    clear H
    have H := H1
    clear H1
    have H' := Aside0.mk H
    clear H
    go_enter Try.func18, Try.ntmps18
    go_wp2_with (first | ((with_reducible refine gate_callee (f := 23) rfl ?_); refine goesL_ (some 7) rfl rfl Try.func23 (by kernel_rfl) rfl #[.slice A0 l0.length c0] rfl (by (try simp only [List.map_toArray, List.map_cons, List.map_nil]); first | done | rfl | (simp only [List.length_drop, List.length_take]; rfl)) ?_; (with_reducible refine (impl_AscentOk.calls k _ _ l0 true _ ?side1 ?side2 A3.out).mono ?_); (case side1 => repeat (first | exact HR0.out | (with_reducible refine Kd.C_alloc ?_ _) | (with_reducible refine Kd.C_drewN ?_ _) | (with_reducible refine Kd.C_drew ?_))); (case side2 => exact HC0.out); rintro e w5 ⟨rfl, hb⟩; refine ⟨_, rfl, ?_⟩; have n0_ := Aside0.mk (below_step (by repeat (first | (with_reducible first | exact HB.out | apply below_alloc | apply pw_below_drewN | apply below_drew1) | exact HB.out)) hb); clear HB; have HB := n0_; clear n0_; (try clear hb); (try clear hb2); (try clear hk); (try clear hi)))
    go_loopg [5] k (fun kq v5 w' => ∃ (x5_1 : Int), v5 = .int .i64 x5_1 ∧ Aside0 (impl_Rebuild.l0 kq l0 a1 x5_1 = some r) ∧ Aside0 (kq ≤ k) ∧ Aside0 (Below w.heap.size w w'))
    case atStart => exact ⟨(0), (by first | rfl | (simp; done) | (simp [*]; done)), H', ⟨Nat.le_refl _⟩, ⟨by repeat (first | (with_reducible first | exact HB.out | apply below_alloc | apply pw_below_drewN | apply below_drew1) | exact HB.out)⟩⟩
    case round =>
      clear H'
      try clear c1
      try clear c2
      try clear p2
      try clear c4
      obtain ⟨x5_1, rfl, HA, HK1, HB⟩ := hrel
      cases gk with
      | zero => exact absurd HA.out (by simp [impl_Rebuild.l0])
      | succ k1 =>
        have H := HA.out
        clear HA
        simp only [impl_Rebuild.l0] at H
        by_cases c6 : (wrap64 (x5_1 + 1)) < (l0.length : Int)
        · rw [if_pos c6] at H
          have c6b0 : decide ((wrap64 (x5_1 + 1)) < (l0.length : Int)) = true := decide_eq_true c6
          clear c6
          by_cases c7 : 0 ≤ x5_1
          · rw [if_pos c7] at H
            have c7b0 : decide (0 ≤ x5_1) = true := decide_eq_true c7
            clear c7
            by_cases c8 : x5_1 < (l0.length : Int)
            · rw [if_pos c8] at H
              have c8b0 : decide (x5_1 < (l0.length : Int)) = true := decide_eq_true c8
              clear c8
              by_cases c9 : a1 ≤ ((rd_T41 l0 x5_1).f0)
              · rw [if_pos c9] at H
                have c9b0 : decide (a1 ≤ ((rd_T41 l0 x5_1).f0)) = true := decide_eq_true c9
                clear c9
                obtain ⟨ji10, hji10⟩ : ∃ j_ : Int, (wrap64 (x5_1 + 1)) = j_ := ⟨_, rfl⟩
                replace H : (if 0 ≤ (ji10) then (if a1 ≥ ((rd_T41 l0 (ji10)).f0) then ((impl_Between.f ((rd_T41 l0 x5_1).f0) ((rd_T41 l0 x5_1).f1) ((rd_T41 l0 (ji10)).f0) ((rd_T41 l0 (ji10)).f1) a1).bind fun t246 => (some t246)) else (impl_Rebuild.l0 k1 l0 a1 ji10)) else (none)) = some r := by first | (rw [hji10] at H; exact H) | (simp only [hji10] at H ⊢; exact H)
                (try rw [hji10] at c6b0)
                have hji10w : (IntKind.i64.wrap (x5_1 + 1)) = ji10 := (i64_w _).trans hji10
                by_cases c11 : 0 ≤ (ji10)
                · rw [if_pos c11] at H
                  have c11b0 : decide (0 ≤ (ji10)) = true := decide_eq_true c11
                  clear c11
                  by_cases c12 : a1 ≥ ((rd_T41 l0 (ji10)).f0)
                  · rw [if_pos c12] at H
                    have c12b0 : decide (((rd_T41 l0 (ji10)).f0) ≤ a1) = true := decide_eq_true c12
                    clear c12
                    replace H := Option.bind_eq_some_iff.mp H
                    obtain ⟨t246, A130, H⟩ := H
                    replace H : (some t246) = some r := H
                    have A13 := Aside0.mk A130
                    clear A130
                    obtain rfl := Option.some.inj H
                    have p242 : 0 ≤ (x5_1 : Int) := of_decide_eq_true (by first | (with_reducible assumption) | assumption)
                    have q242 : x5_1 < (l0.length : Int) := of_decide_eq_true (by first | (with_reducible assumption) | assumption)
                    obtain ⟨ad242, e242, hx242_0, hx242_1⟩ := at_T41 HR0.out x5_1 p242 q242
                    cases e242
                    replace hx242_0 := (HB.out.cell (World.block_lt_of_cell? w _ hx242_0)).trans hx242_0
                    replace hx242_1 := (HB.out.cell (World.block_lt_of_cell? w _ hx242_1)).trans hx242_1
                    replace p242 := eq_true p242
                    replace q242 := eq_true q242
                    have p243 : 0 ≤ ((ji10) : Int) := of_decide_eq_true (by first | (with_reducible assumption) | assumption)
                    have q243 : (ji10) < (l0.length : Int) := of_decide_eq_true (by first | (with_reducible assumption) | assumption)
                    obtain ⟨ad243, e243, hx243_0, hx243_1⟩ := at_T41 HR0.out (ji10) p243 q243
                    obtain rfl : ad242 = ad243 := (by injection e243)
                    replace hx243_0 := (HB.out.cell (World.block_lt_of_cell? w _ hx243_0)).trans hx243_0
                    replace hx243_1 := (HB.out.cell (World.block_lt_of_cell? w _ hx243_1)).trans hx243_1
                    replace p243 := eq_true p243
                    replace q243 := eq_true q243
                    try go_wp2
                    have n0_ := Aside0.mk (below_drew1 HB.out)
                    clear HB
                    have HB := n0_
                    clear n0_
                    have p244 : 0 ≤ (x5_1 : Int) := of_decide_eq_true (by first | (with_reducible assumption) | assumption)
                    have q244 : x5_1 < (l0.length : Int) := of_decide_eq_true (by first | (with_reducible assumption) | assumption)
                    obtain ⟨ad244, e244, hx244_0, hx244_1⟩ := at_T41 HR0.out x5_1 p244 q244
                    have hw244_1 := hx244_1
                    have hw244_0 := hx244_0
                    obtain rfl : ad242 = ad244 := (by injection e244)
                    replace hx244_0 := (HB.out.cell (World.block_lt_of_cell? w _ hx244_0)).trans hx244_0
                    replace hx244_1 := (HB.out.cell (World.block_lt_of_cell? w _ hx244_1)).trans hx244_1
                    replace p244 := eq_true p244
                    replace q244 := eq_true q244
                    have p245 : 0 ≤ ((ji10) : Int) := of_decide_eq_true (by first | (with_reducible assumption) | assumption)
                    have q245 : (ji10) < (l0.length : Int) := of_decide_eq_true (by first | (with_reducible assumption) | assumption)
                    obtain ⟨ad245, e245, hx245_0, hx245_1⟩ := at_T41 HR0.out (ji10) p245 q245
                    have hw245_1 := hx245_1
                    have hw245_0 := hx245_0
                    obtain rfl : ad242 = ad245 := (by injection e245)
                    replace hx245_0 := (HB.out.cell (World.block_lt_of_cell? w _ hx245_0)).trans hx245_0
                    replace hx245_1 := (HB.out.cell (World.block_lt_of_cell? w _ hx245_1)).trans hx245_1
                    replace p245 := eq_true p245
                    replace q245 := eq_true q245
                    refine start_ (n := 12) (S := fun w' => w'.cell? (ad242.add ((x5_1).toNat * 2)) = some (.int .i64 ((rd_T41 l0 x5_1).f0)) ∧ w'.cell? ⟨(ad242.add ((x5_1).toNat * 2)).block, (ad242.add ((x5_1).toNat * 2)).off + 1, none⟩ = some (.float .f64 ((rd_T41 l0 x5_1).f1)) ∧ w'.cell? (ad242.add (((ji10)).toNat * 2)) = some (.int .i64 ((rd_T41 l0 (ji10)).f0)) ∧ w'.cell? ⟨(ad242.add (((ji10)).toNat * 2)).block, (ad242.add (((ji10)).toNat * 2)).off + 1, none⟩ = some (.float .f64 ((rd_T41 l0 (ji10)).f1))) (ds := []) #[false, false, false, false, false, false, false, false, false, false, false, false] (by kernel_rfl) rfl rfl ⟨((HB.out.cell (World.block_lt_of_cell? w _ hw244_0)).trans hw244_0), ((HB.out.cell (World.block_lt_of_cell? w _ hw244_1)).trans hw244_1), ((HB.out.cell (World.block_lt_of_cell? w _ hw245_0)).trans hw245_0), ((HB.out.cell (World.block_lt_of_cell? w _ hw245_1)).trans hw245_1)⟩ (fun hHeld => ?_); refine with_tabW impl_Rebuild.tab7 impl_Rebuild.bits7 (fun HT_ HW_ => ?_)
                    generalize wr.drew = w14 at HB hx244_0 hx244_1 hx245_0 hx245_1 hHeld ⊢
                    refine pure_ (i := 0) (N := some 34) (v := ?_) (a' := ?_) #[true, false, false, false, false, false, false, false, false, false, false, false] rfl rfl (any_of HT_.out (by kernel_rfl)) (fun _ _ _ h => h) (Or.inl ⟨by rfl, ?_⟩) ?_ ?_
                    rotate_left
                    · intro w'
                      go_simp
                      with_reducible rfl
                    rotate_left
                    · simp only [Act.put, List.setIfInBounds_toArray, List.set_cons_zero, List.set_cons_succ, i64_w, i32_w]
                      rfl
                    refine pure_ (i := 1) (N := some 35) (v := ?_) (a' := ?_) #[true, true, false, false, false, false, false, false, false, false, false, false] rfl rfl (any_of HT_.out (by kernel_rfl)) (fun _ _ _ h => h) (Or.inl ⟨by rfl, ?_⟩) ?_ ?_
                    rotate_left
                    · intro w'
                      go_simp
                      with_reducible rfl
                    rotate_left
                    · simp only [Act.put, List.setIfInBounds_toArray, List.set_cons_zero, List.set_cons_succ, i64_w, i32_w]
                      rfl
                    refine pure_ (i := 2) (N := some 36) (v := ?_) (a' := ?_) #[true, true, true, false, false, false, false, false, false, false, false, false] rfl rfl (any_of HT_.out (by kernel_rfl)) (fun _ _ _ h => h) (Or.inl ⟨by rfl, ?_⟩) ?_ ?_
                    rotate_left
                    · intro w'
                      go_simp
                      with_reducible rfl
                    rotate_left
                    · simp only [Act.put, List.setIfInBounds_toArray, List.set_cons_zero, List.set_cons_succ, i64_w, i32_w]
                      rfl
                    refine pure_ (i := 4) (N := some 38) (v := ?_) (a' := ?_) #[true, true, true, false, true, false, false, false, false, false, false, false] rfl rfl (any_of HT_.out (by kernel_rfl)) (fun _ _ _ h => h) (Or.inl ⟨by rfl, ?_⟩) ?_ ?_
                    rotate_left
                    · intro w'
                      go_simp
                      with_reducible rfl
                    rotate_left
                    · simp only [Act.put, List.setIfInBounds_toArray, List.set_cons_zero, List.set_cons_succ, i64_w, i32_w]
                      rfl
                    refine pure_ (i := 5) (N := some 39) (v := ?_) (a' := ?_) #[true, true, true, false, true, true, false, false, false, false, false, false] rfl rfl (any_of HT_.out (by kernel_rfl)) (fun _ _ _ h => h) (Or.inl ⟨by rfl, ?_⟩) ?_ ?_
                    rotate_left
                    · intro w'
                      go_simp
                      with_reducible rfl
                    rotate_left
                    · simp only [Act.put, List.setIfInBounds_toArray, List.set_cons_zero, List.set_cons_succ, i64_w, i32_w]
                      rfl
                    refine pure_ (i := 6) (N := some 40) (v := ?_) (a' := ?_) #[true, true, true, false, true, true, true, false, false, false, false, false] rfl rfl (any_of HT_.out (by kernel_rfl)) (fun _ _ _ h => h) (Or.inl ⟨by rfl, ?_⟩) ?_ ?_
                    rotate_left
                    · intro w'
                      go_simp
                      with_reducible rfl
                    rotate_left
                    · simp only [Act.put, List.setIfInBounds_toArray, List.set_cons_zero, List.set_cons_succ, i64_w, i32_w]
                      rfl
                    refine pure_ (i := 7) (N := some 41) (v := ?_) (a' := ?_) #[true, true, true, false, true, true, true, true, false, false, false, false] rfl rfl (any_of HT_.out (by kernel_rfl)) (fun _ _ _ h => h) (Or.inl ⟨by rfl, ?_⟩) ?_ ?_
                    rotate_left
                    · intro w'
                      go_simp
                      with_reducible rfl
                    rotate_left
                    · simp only [Act.put, List.setIfInBounds_toArray, List.set_cons_zero, List.set_cons_succ, i64_w, i32_w]
                      rfl
                    refine pure_ (i := 9) (N := some 43) (v := ?_) (a' := ?_) #[true, true, true, false, true, true, true, true, false, true, false, false] rfl rfl (any_of HT_.out (by kernel_rfl)) (fun _ _ _ h => h) (Or.inl ⟨by rfl, ?_⟩) ?_ ?_
                    rotate_left
                    · intro w'
                      go_simp
                      with_reducible rfl
                    rotate_left
                    · simp only [Act.put, List.setIfInBounds_toArray, List.set_cons_zero, List.set_cons_succ, i64_w, i32_w]
                      rfl
                    refine take_ (i := 3) (N := some 37) (v := ?_) (a' := ?_) #[true, true, true, true, true, true, true, true, false, true, false, false] rfl rfl (take_ofW HT_.out HW_.out (by kernel_rfl)) (fun _ _ _ h => h) (Or.inl ⟨by rfl, ?_⟩) hHeld ?_ ?_
                    rotate_left
                    · rintro w' ⟨s0, s1, s2, s3⟩
                      go_simp
                      with_reducible rfl
                    rotate_left
                    · simp only [Act.put, List.setIfInBounds_toArray, List.set_cons_zero, List.set_cons_succ, i64_w, i32_w]
                      rfl
                    refine take_ (i := 8) (N := some 42) (v := ?_) (a' := ?_) #[true, true, true, true, true, true, true, true, true, true, false, false] rfl rfl (take_ofW HT_.out HW_.out (by kernel_rfl)) (fun _ _ _ h => h) (Or.inl ⟨by rfl, ?_⟩) hHeld ?_ ?_
                    rotate_left
                    · rintro w' ⟨s0, s1, s2, s3⟩
                      go_simp
                      with_reducible rfl
                    rotate_left
                    · simp only [Act.put, List.setIfInBounds_toArray, List.set_cons_zero, List.set_cons_succ, i64_w, i32_w]
                      rfl
                    refine one_ (i := 10) (N := some 44) #[true, true, true, true, true, true, true, true, true, true, true, false] rfl rfl (one_of HT_.out (by kernel_rfl)) (by decide) (fun K hK => ?_)
                    refine goes_ Try.func27 (by kernel_rfl) rfl #[.agg #[.int .i64 ((rd_T41 l0 x5_1).f0), .float .f64 ((rd_T41 l0 x5_1).f1)], .agg #[.int .i64 ((rd_T41 l0 (ji10)).f0), .float .f64 ((rd_T41 l0 (ji10)).f1)], .int .i64 a1] (by rfl) rfl rfl (by (try simp only [List.map_toArray, List.map_cons, List.map_nil]); first | done | (simp only [hji10]; rfl) | rfl | (simp only [List.length_drop, List.length_take]; rfl)) ?_
                    with_reducible refine (impl_Between.calls ((rd_T41 l0 x5_1).f0) ((rd_T41 l0 x5_1).f1) ((rd_T41 l0 (ji10)).f0) ((rd_T41 l0 (ji10)).f1) a1 t246 _ A13.out).mono ?_
                    rintro e w15 ⟨rfl, hb⟩
                    refine ⟨_, rfl, ?_⟩
                    have n0_ := Aside0.mk (below_step (by repeat (first | (with_reducible first | exact HB.out | apply below_alloc | apply pw_below_drewN | apply below_drew1) | exact HB.out)) hb)
                    clear HB
                    have HB := n0_
                    clear n0_
                    (try clear hb)
                    (try clear hb2)
                    (try clear hk)
                    (try clear hi)
                    refine hK.out _ _ ⟨((HB.out.cell (World.block_lt_of_cell? w _ hw244_0)).trans hw244_0), ((HB.out.cell (World.block_lt_of_cell? w _ hw244_1)).trans hw244_1), ((HB.out.cell (World.block_lt_of_cell? w _ hw245_0)).trans hw245_0), ((HB.out.cell (World.block_lt_of_cell? w _ hw245_1)).trans hw245_1)⟩ (fun hHeld => ?_)
                    clear hK K
                    refine norm_ (a' := ?_) ?_ ?_
                    rotate_left
                    · show Act.put _ (some 44) _ = _
                      simp only [Act.put, List.setIfInBounds_toArray, List.set_cons_zero, List.set_cons_succ, i64_w, i32_w]
                      rfl
                    refine pure_ (i := 11) (N := some 4) (v := ?_) (a' := ?_) #[true, true, true, true, true, true, true, true, true, true, true, true] rfl rfl (any_of HT_.out (by kernel_rfl)) (fun _ _ _ h => h) (Or.inl ⟨by rfl, ?_⟩) ?_ ?_
                    rotate_left
                    · intro w'
                      go_simp
                      with_reducible rfl
                    rotate_left
                    · simp only [Act.put, List.setIfInBounds_toArray, List.set_cons_zero, List.set_cons_succ, i64_w, i32_w]
                      rfl
                    refine done_ (done_of HT_.out (by kernel_rfl)) ?_
                    try go_wp2
                    go_ret
                    exact ⟨by first | rfl | (simp [errW_none, errW_some] <;> rfl) | (simp only [← hji10]; first | rfl | (simp [errW_none, errW_some] <;> rfl)) | (simp [*, errW_none, errW_some] <;> rfl), by repeat (first | (with_reducible first | exact HB.out | apply below_alloc | apply pw_below_drewN | apply below_drew1) | exact HB.out)⟩
                  · rw [if_neg c12] at H
                    have c12b0 : decide (((rd_T41 l0 (ji10)).f0) ≤ a1) = false := decide_eq_false c12
                    clear c12
                    have H' := Aside0.mk H
                    clear H
                    have p242 : 0 ≤ (x5_1 : Int) := of_decide_eq_true (by first | (with_reducible assumption) | assumption)
                    have q242 : x5_1 < (l0.length : Int) := of_decide_eq_true (by first | (with_reducible assumption) | assumption)
                    obtain ⟨ad242, e242, hx242_0, hx242_1⟩ := at_T41 HR0.out x5_1 p242 q242
                    cases e242
                    replace hx242_0 := (HB.out.cell (World.block_lt_of_cell? w _ hx242_0)).trans hx242_0
                    replace hx242_1 := (HB.out.cell (World.block_lt_of_cell? w _ hx242_1)).trans hx242_1
                    replace p242 := eq_true p242
                    replace q242 := eq_true q242
                    have p243 : 0 ≤ ((ji10) : Int) := of_decide_eq_true (by first | (with_reducible assumption) | assumption)
                    have q243 : (ji10) < (l0.length : Int) := of_decide_eq_true (by first | (with_reducible assumption) | assumption)
                    obtain ⟨ad243, e243, hx243_0, hx243_1⟩ := at_T41 HR0.out (ji10) p243 q243
                    obtain rfl : ad242 = ad243 := (by injection e243)
                    replace hx243_0 := (HB.out.cell (World.block_lt_of_cell? w _ hx243_0)).trans hx243_0
                    replace hx243_1 := (HB.out.cell (World.block_lt_of_cell? w _ hx243_1)).trans hx243_1
                    replace p243 := eq_true p243
                    replace q243 := eq_true q243
                    go_wp2
                    go_roundg k1
                    case measure => have := HK1.out; omega
                    case rel => exact ⟨(ji10), (by first | rfl | (simp; done) | (simp only [← hji10] <;> (first | rfl | simp)) | (simp [*]; done)), H', ⟨by have := HK1.out; omega⟩, ⟨by repeat (first | (with_reducible first | exact HB.out | apply below_alloc | apply pw_below_drewN | apply below_drew1) | exact HB.out)⟩⟩
                · rw [if_neg c11] at H
                  exact absurd H (by simp)
              · rw [if_neg c9] at H
                have c9b0 : decide (a1 ≤ ((rd_T41 l0 x5_1).f0)) = false := decide_eq_false c9
                clear c9
                have H' := Aside0.mk H
                clear H
                have p242 : 0 ≤ (x5_1 : Int) := of_decide_eq_true (by first | (with_reducible assumption) | assumption)
                have q242 : x5_1 < (l0.length : Int) := of_decide_eq_true (by first | (with_reducible assumption) | assumption)
                obtain ⟨ad242, e242, hx242_0, hx242_1⟩ := at_T41 HR0.out x5_1 p242 q242
                cases e242
                replace hx242_0 := (HB.out.cell (World.block_lt_of_cell? w _ hx242_0)).trans hx242_0
                replace hx242_1 := (HB.out.cell (World.block_lt_of_cell? w _ hx242_1)).trans hx242_1
                replace p242 := eq_true p242
                replace q242 := eq_true q242
                go_wp2
                go_roundg k1
                case measure => have := HK1.out; omega
                case rel => exact ⟨(wrap64 (x5_1 + 1)), (by first | rfl | (simp; done) | (simp [*]; done)), H', ⟨by have := HK1.out; omega⟩, ⟨by repeat (first | (with_reducible first | exact HB.out | apply below_alloc | apply pw_below_drewN | apply below_drew1) | exact HB.out)⟩⟩
            · rw [if_neg c8] at H
              exact absurd H (by simp)
          · rw [if_neg c7] at H
            exact absurd H (by simp)
        · rw [if_neg c6] at H
          have c6b0 : decide ((wrap64 (x5_1 + 1)) < (l0.length : Int)) = false := decide_eq_false c6
          clear c6
          replace H := Option.bind_eq_some_iff.mp H
          obtain ⟨t247, A160, H⟩ := H
          replace H : (some t247) = some r := H
          have A16 := Aside0.mk A160
          clear A160
          obtain rfl := Option.some.inj H
          go_wp2_with (first | ((with_reducible refine gate_callee (f := 35) rfl ?_); refine goesL_ (some 45) rfl rfl Try.func35 (by kernel_rfl) rfl #[] rfl (by (try simp only [List.map_toArray, List.map_cons, List.map_nil]); first | done | rfl | (simp only [List.length_drop, List.length_take]; rfl)) ?_; (with_reducible refine (impl_nan.calls  t247 _ A16.out).mono ?_); rintro e w' ⟨rfl, ⟨nd, rfl⟩⟩; refine ⟨_, rfl, ?_⟩))
          go_ret
          exact ⟨by first | rfl | (simp [errW_none, errW_some] <;> rfl) | (simp [*, errW_none, errW_some] <;> rfl), by repeat (first | (with_reducible first | exact HB.out | apply below_alloc | apply pw_below_drewN | apply below_drew1) | exact HB.out)⟩
  · replace c4 := Bool.eq_false_iff.mpr c4
    subst c4
    have H1 : ((impl_nan.f).bind fun t241 => (some t241)) = some r := by rw [if_neg (show ¬ (false = true) by decide)] at H; exact H
    clear H
    have H := H1
    clear H1
    replace H := Option.bind_eq_some_iff.mp H
    obtain ⟨t241, A170, H⟩ := H
    replace H : (some t241) = some r := H
    have A17 := Aside0.mk A170
    clear A170
    obtain rfl := Option.some.inj H
    go_enter Try.func18, Try.ntmps18
    go_wp2_with (first | ((with_reducible refine gate_callee (f := 23) rfl ?_); refine goesL_ (some 7) rfl rfl Try.func23 (by kernel_rfl) rfl #[.slice A0 l0.length c0] rfl (by (try simp only [List.map_toArray, List.map_cons, List.map_nil]); first | done | rfl | (simp only [List.length_drop, List.length_take]; rfl)) ?_; (with_reducible refine (impl_AscentOk.calls k _ _ l0 false _ ?side1 ?side2 A3.out).mono ?_); (case side1 => repeat (first | exact HR0.out | (with_reducible refine Kd.C_alloc ?_ _) | (with_reducible refine Kd.C_drewN ?_ _) | (with_reducible refine Kd.C_drew ?_))); (case side2 => exact HC0.out); rintro e w18 ⟨rfl, hb⟩; refine ⟨_, rfl, ?_⟩; have n0_ := Aside0.mk (below_step (by repeat (first | (with_reducible first | exact HB.out | apply below_alloc | apply pw_below_drewN | apply below_drew1) | exact HB.out)) hb); clear HB; have HB := n0_; clear n0_; (try clear hb); (try clear hb2); (try clear hk); (try clear hi)) | ((with_reducible refine gate_callee (f := 35) rfl ?_); refine goesL_ (some 9) rfl rfl Try.func35 (by kernel_rfl) rfl #[] rfl (by (try simp only [List.map_toArray, List.map_cons, List.map_nil]); first | done | rfl | (simp only [List.length_drop, List.length_take]; rfl)) ?_; (with_reducible refine (impl_nan.calls  t241 _ A17.out).mono ?_); rintro e w' ⟨rfl, ⟨nd, rfl⟩⟩; refine ⟨_, rfl, ?_⟩))
    go_ret
    exact ⟨by first | rfl | (simp [errW_none, errW_some] <;> rfl) | (simp [*, errW_none, errW_some] <;> rfl), by repeat (first | (with_reducible first | exact HB.out | apply below_alloc | apply pw_below_drewN | apply below_drew1) | exact HB.out)⟩

-- NOT PRINTED: function 5 (laws_FnSignificant)

end Go.Proofs.Ytjgnolohppnbbaa.PSg
