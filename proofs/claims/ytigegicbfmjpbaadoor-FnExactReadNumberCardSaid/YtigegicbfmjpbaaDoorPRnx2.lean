-- Printed by a program of this session's own (wip/print), out of the translation. Lean checks it.
import Derived.Test.YtigegicbfmjpbaaDoorPRnx0
import Derived.Test.YtigegicbfmjpbaaDoorPRnx1
namespace Go.Proofs.YtigegicbfmjpbaaDoor.PRn
open Go.Proofs.YtigegicbfmjpbaaDoorW
open Go.RowKit Go.Proofs.YtigegicbfmjpbaaDoorW.PrintWords Go.Proofs.YtigegicbfmjpbaaDoorW.PrintLast Go.Proofs.YtigegicbfmjpbaaDoorW.PrintMore
attribute [local go_sem] max2_int min2_int max_two min_two max_three min_three max_four min_four   -- for this text's walks alone
set_option linter.unusedVariables false
set_option linter.unusedSimpArgs false

/-! ### spec_ReadNumber: function 10 -/
mutual
def spec_ReadNumber.l0 : Nat → ByteArray → Int → Int → Int → Option (Nat × Bool)
  | 0, _, _, _, _ => none
  | k + 1, x0, x5, x6, x7 => if x7 < (x0.size : Int) then (if 0 ≤ x7 then (if (bt x0 x7) = 46 then (spec_ReadNumber.j1 k x0 x5 x6 x7 (decide (x6 < 0))) else (spec_ReadNumber.j1 k x0 x5 x6 x7 false)) else (none)) else (if x6 = 0 then (spec_ReadNumber.j2 k x0 x5 x6 true) else (if x6 > 6 then (spec_ReadNumber.j2 k x0 x5 x6 true) else (spec_ReadNumber.j2 k x0 x5 x6 (decide (x5 > 1000000000000000)))))
def spec_ReadNumber.j1 : Nat → ByteArray → Int → Int → Int → Bool → Option (Nat × Bool)
  | 0, _, _, _, _, _ => none
  | k + 1, x0, x5, x6, x7, x36 => if x36 = true then (spec_ReadNumber.l0 k x0 x5 0 (wrap64 (x7 + 1))) else (if 0 ≤ x7 then (if x7 < (x0.size : Int) then ((spec_l1Digit.f (bt x0 x7)).bind fun t105 => (if t105 = true then (if x5 > 1000000000000000 then (some (0, false)) else (if x6 ≥ 0 then (spec_ReadNumber.l0 k x0 (wrap64 ((wrap64 (x5 * 10)) + (((bt x0 x7) - 48) % 256))) (wrap64 (x6 + 1)) (wrap64 (x7 + 1))) else (spec_ReadNumber.l0 k x0 (wrap64 ((wrap64 (x5 * 10)) + (((bt x0 x7) - 48) % 256))) x6 (wrap64 (x7 + 1))))) else (if x7 > 0 then (some (0, false)) else (if (bt x0 x7) = 45 then (spec_ReadNumber.l0 k x0 x5 x6 (wrap64 (x7 + 1))) else (some (0, false)))))) else (none)) else (none))
def spec_ReadNumber.j2 : Nat → ByteArray → Int → Int → Bool → Option (Nat × Bool)
  | 0, _, _, _, _ => none
  | k + 1, x0, x5, x6, x72 => if x72 = true then (some (0, false)) else (if (x0.size : Int) > 0 then (if 0 < (x0.size : Int) then (spec_ReadNumber.j3 k x0 x5 x6 ((bt x0 0) == 45)) else (none)) else (spec_ReadNumber.j3 k x0 x5 x6 false))
def spec_ReadNumber.j3 : Nat → ByteArray → Int → Int → Bool → Option (Nat × Bool)
  | 0, _, _, _, _ => none
  | k + 1, x0, x5, x6, x80 => if x80 = true then (spec_ReadNumber.j4 k x0 (wrap64 (-x5)) x6) else (spec_ReadNumber.j4 k x0 x5 x6)
def spec_ReadNumber.j4 : Nat → ByteArray → Int → Int → Option (Nat × Bool)
  | 0, _, _, _ => none
  | k + 1, x0, x5, x6 => (spec_l1Point.f k x5 (mx x6 0)).bind fun t106 => (if t106.toList = x0.toList then ((spec_l1Ten.f k (mx x6 0)).bind fun t107 => (if fok .quo (fofi x5) (fofi t107) = true then (some (fop .quo (fofi x5) (fofi t107), true)) else (none))) else (some (0, false)))
end
def spec_ReadNumber.f (k : Nat) (a0 : ByteArray) : Option (Nat × Bool) := if a0.toList = ([47] : List UInt8) then ((spec_l1None.f).bind fun t104 => (some (t104, true))) else (if a0.toList = ([104, 105, 103, 104] : List UInt8) then (if fok .mul 9214871658872686752 4621819117588971520 = true then (some (fop .mul 9214871658872686752 4621819117588971520, true)) else (none)) else (if a0.toList = ([108, 111, 119] : List UInt8) then (if fok .mul (fneg 9214871658872686752) 4621819117588971520 = true then (some (fop .mul (fneg 9214871658872686752) 4621819117588971520, true)) else (none)) else (if (a0.size : Int) > 30 then (some (0, false)) else (spec_ReadNumber.l0 k a0 0 (-1) 0))))
theorem spec_ReadNumber.mono_l : ∀ k, (∀ y0 y1 y2 y3, LeO (spec_ReadNumber.l0 k y0 y1 y2 y3) (spec_ReadNumber.l0 (k + 1) y0 y1 y2 y3)) ∧ (∀ y0 y1 y2 y3 y4, LeO (spec_ReadNumber.j1 k y0 y1 y2 y3 y4) (spec_ReadNumber.j1 (k + 1) y0 y1 y2 y3 y4)) ∧ (∀ y0 y1 y2 y3, LeO (spec_ReadNumber.j2 k y0 y1 y2 y3) (spec_ReadNumber.j2 (k + 1) y0 y1 y2 y3)) ∧ (∀ y0 y1 y2 y3, LeO (spec_ReadNumber.j3 k y0 y1 y2 y3) (spec_ReadNumber.j3 (k + 1) y0 y1 y2 y3)) ∧ (∀ y0 y1 y2, LeO (spec_ReadNumber.j4 k y0 y1 y2) (spec_ReadNumber.j4 (k + 1) y0 y1 y2))
  | 0 => ⟨fun _ _ _ _ r h => by simp [spec_ReadNumber.l0] at h, fun _ _ _ _ _ r h => by simp [spec_ReadNumber.j1] at h, fun _ _ _ _ r h => by simp [spec_ReadNumber.j2] at h, fun _ _ _ _ r h => by simp [spec_ReadNumber.j3] at h, fun _ _ _ r h => by simp [spec_ReadNumber.j4] at h⟩
  | k + 1 => by
    obtain ⟨ih0, ih1, ih2, ih3, ih4⟩ := spec_ReadNumber.mono_l k
    refine ⟨?_, ?_, ?_, ?_, ?_⟩
    · intro y0 y1 y2 y3
      unfold spec_ReadNumber.l0
      repeat' first
      | (with_reducible exact ih0 _ _ _ _)
      | (with_reducible exact ih1 _ _ _ _ _)
      | (with_reducible exact ih2 _ _ _ _)
      | (with_reducible exact ih3 _ _ _ _)
      | (with_reducible exact ih4 _ _ _)
      | (with_reducible exact spec_l1Point.mono _ _ _)
      | (with_reducible exact spec_l1Ten.mono _ _)
      | (with_reducible exact LeO.refl _)
      | (with_reducible exact LeO.none _)
      | (with_reducible refine LeO.ite ?_ ?_)
      | (with_reducible refine LeO.bind ?_ (fun _ => ?_))
      | exact ih0 _ _ _ _
      | exact ih1 _ _ _ _ _
      | exact ih2 _ _ _ _
      | exact ih3 _ _ _ _
      | exact ih4 _ _ _
      | exact spec_l1Point.mono _ _ _
      | exact spec_l1Ten.mono _ _
      | exact LeO.none _
      | refine LeO.ite ?_ ?_
      | refine LeO.bind ?_ (fun _ => ?_)
    · intro y0 y1 y2 y3 y4
      unfold spec_ReadNumber.j1
      repeat' first
      | (with_reducible exact ih0 _ _ _ _)
      | (with_reducible exact ih1 _ _ _ _ _)
      | (with_reducible exact ih2 _ _ _ _)
      | (with_reducible exact ih3 _ _ _ _)
      | (with_reducible exact ih4 _ _ _)
      | (with_reducible exact spec_l1Point.mono _ _ _)
      | (with_reducible exact spec_l1Ten.mono _ _)
      | (with_reducible exact LeO.refl _)
      | (with_reducible exact LeO.none _)
      | (with_reducible refine LeO.ite ?_ ?_)
      | (with_reducible refine LeO.bind ?_ (fun _ => ?_))
      | exact ih0 _ _ _ _
      | exact ih1 _ _ _ _ _
      | exact ih2 _ _ _ _
      | exact ih3 _ _ _ _
      | exact ih4 _ _ _
      | exact spec_l1Point.mono _ _ _
      | exact spec_l1Ten.mono _ _
      | exact LeO.none _
      | refine LeO.ite ?_ ?_
      | refine LeO.bind ?_ (fun _ => ?_)
    · intro y0 y1 y2 y3
      unfold spec_ReadNumber.j2
      repeat' first
      | (with_reducible exact ih0 _ _ _ _)
      | (with_reducible exact ih1 _ _ _ _ _)
      | (with_reducible exact ih2 _ _ _ _)
      | (with_reducible exact ih3 _ _ _ _)
      | (with_reducible exact ih4 _ _ _)
      | (with_reducible exact spec_l1Point.mono _ _ _)
      | (with_reducible exact spec_l1Ten.mono _ _)
      | (with_reducible exact LeO.refl _)
      | (with_reducible exact LeO.none _)
      | (with_reducible refine LeO.ite ?_ ?_)
      | (with_reducible refine LeO.bind ?_ (fun _ => ?_))
      | exact ih0 _ _ _ _
      | exact ih1 _ _ _ _ _
      | exact ih2 _ _ _ _
      | exact ih3 _ _ _ _
      | exact ih4 _ _ _
      | exact spec_l1Point.mono _ _ _
      | exact spec_l1Ten.mono _ _
      | exact LeO.none _
      | refine LeO.ite ?_ ?_
      | refine LeO.bind ?_ (fun _ => ?_)
    · intro y0 y1 y2 y3
      unfold spec_ReadNumber.j3
      repeat' first
      | (with_reducible exact ih0 _ _ _ _)
      | (with_reducible exact ih1 _ _ _ _ _)
      | (with_reducible exact ih2 _ _ _ _)
      | (with_reducible exact ih3 _ _ _ _)
      | (with_reducible exact ih4 _ _ _)
      | (with_reducible exact spec_l1Point.mono _ _ _)
      | (with_reducible exact spec_l1Ten.mono _ _)
      | (with_reducible exact LeO.refl _)
      | (with_reducible exact LeO.none _)
      | (with_reducible refine LeO.ite ?_ ?_)
      | (with_reducible refine LeO.bind ?_ (fun _ => ?_))
      | exact ih0 _ _ _ _
      | exact ih1 _ _ _ _ _
      | exact ih2 _ _ _ _
      | exact ih3 _ _ _ _
      | exact ih4 _ _ _
      | exact spec_l1Point.mono _ _ _
      | exact spec_l1Ten.mono _ _
      | exact LeO.none _
      | refine LeO.ite ?_ ?_
      | refine LeO.bind ?_ (fun _ => ?_)
    · intro y0 y1 y2
      unfold spec_ReadNumber.j4
      repeat' first
      | (with_reducible exact ih0 _ _ _ _)
      | (with_reducible exact ih1 _ _ _ _ _)
      | (with_reducible exact ih2 _ _ _ _)
      | (with_reducible exact ih3 _ _ _ _)
      | (with_reducible exact ih4 _ _ _)
      | (with_reducible exact spec_l1Point.mono _ _ _)
      | (with_reducible exact spec_l1Ten.mono _ _)
      | (with_reducible exact LeO.refl _)
      | (with_reducible exact LeO.none _)
      | (with_reducible refine LeO.ite ?_ ?_)
      | (with_reducible refine LeO.bind ?_ (fun _ => ?_))
      | exact ih0 _ _ _ _
      | exact ih1 _ _ _ _ _
      | exact ih2 _ _ _ _
      | exact ih3 _ _ _ _
      | exact ih4 _ _ _
      | exact spec_l1Point.mono _ _ _
      | exact spec_l1Ten.mono _ _
      | exact LeO.none _
      | refine LeO.ite ?_ ?_
      | refine LeO.bind ?_ (fun _ => ?_)
theorem spec_ReadNumber.mono : ∀ a0 k, LeO (spec_ReadNumber.f k a0) (spec_ReadNumber.f (k + 1) a0) := by
  intro a0 k
  obtain ⟨ih0, ih1, ih2, ih3, ih4⟩ := spec_ReadNumber.mono_l k
  unfold spec_ReadNumber.f
  repeat' first
      | (with_reducible exact ih0 _ _ _ _)
      | (with_reducible exact ih1 _ _ _ _ _)
      | (with_reducible exact ih2 _ _ _ _)
      | (with_reducible exact ih3 _ _ _ _)
      | (with_reducible exact ih4 _ _ _)
      | (with_reducible exact spec_l1Point.mono _ _ _)
      | (with_reducible exact spec_l1Ten.mono _ _)
      | (with_reducible exact LeO.refl _)
      | (with_reducible exact LeO.none _)
      | (with_reducible refine LeO.ite ?_ ?_)
      | (with_reducible refine LeO.bind ?_ (fun _ => ?_))
      | exact ih0 _ _ _ _
      | exact ih1 _ _ _ _ _
      | exact ih2 _ _ _ _
      | exact ih3 _ _ _ _
      | exact ih4 _ _ _
      | exact spec_l1Point.mono _ _ _
      | exact spec_l1Ten.mono _ _
      | exact LeO.none _
      | refine LeO.ite ?_ ?_
      | refine LeO.bind ?_ (fun _ => ?_)
set_option maxHeartbeats 8000000 in
set_option maxRecDepth 100000 in
theorem spec_ReadNumber.calls (k : Nat) (a0 : ByteArray) (r1 : Nat) (r2 : Bool) (w : World) (h : spec_ReadNumber.f k a0 = some (r1, r2)) :
    Calls Tryd.prog 10 #[.string a0] w fun e w' => e = .returned (.tuple #[.float .f64 r1, .bool r2]) ∧ Below w.heap.size w w' := by
  have HB := Aside0.mk (Below.refl w.heap.size w)
  have H : (if a0.toList = ([47] : List UInt8) then ((spec_l1None.f).bind fun t104 => (some (t104, true))) else (if a0.toList = ([104, 105, 103, 104] : List UInt8) then (if fok .mul 9214871658872686752 4621819117588971520 = true then (some (fop .mul 9214871658872686752 4621819117588971520, true)) else (none)) else (if a0.toList = ([108, 111, 119] : List UInt8) then (if fok .mul (fneg 9214871658872686752) 4621819117588971520 = true then (some (fop .mul (fneg 9214871658872686752) 4621819117588971520, true)) else (none)) else (if (a0.size : Int) > 30 then (some (0, false)) else (spec_ReadNumber.l0 k a0 0 (-1) 0))))) = some (r1, r2) := h
  clear h
  by_cases c2 : a0.toList = ([47] : List UInt8)
  · rw [if_pos c2] at H
    have c2b0 : (a0.toList == ([47] : List UInt8)) = true := beq_iff_eq.mpr c2
    have c2b1 : (a0.toList != ([47] : List UInt8)) = false := bne_eq_false_iff_eq.mpr c2
    clear c2
    replace H := Option.bind_eq_some_iff.mp H
    obtain ⟨t104, A30, H⟩ := H
    replace H : (some (t104, true)) = some (r1, r2) := H
    have A3 := Aside0.mk A30
    clear A30
    simp only [Option.some.injEq, Prod.mk.injEq] at H
    obtain ⟨rfl, rfl⟩ := H
    go_enter Tryd.func10, Tryd.ntmps10
    go_wp2_with (first | ((with_reducible refine gate_callee (f := 35) rfl ?_); refine goesL_ (some 10) rfl rfl Tryd.func35 (by kernel_rfl) rfl #[] rfl (by (try simp only [List.map_toArray, List.map_cons, List.map_nil]); first | done | rfl | (simp only [List.length_drop, List.length_take]; rfl)) ?_; (with_reducible refine (spec_l1None.calls  t104 _ A3.out).mono ?_); rintro e w' ⟨rfl, ⟨nd, rfl⟩⟩; refine ⟨_, rfl, ?_⟩))
    go_ret2
    exact ⟨by first | rfl | (simp [errW_none, errW_some] <;> rfl) | (simp [*, errW_none, errW_some] <;> rfl), by repeat (first | (with_reducible first | exact HB.out | apply below_alloc | apply pw_below_drewN | apply below_drew1) | exact HB.out)⟩
  · rw [if_neg c2] at H
    have c2b0 : (a0.toList == ([47] : List UInt8)) = false := beq_eq_false_iff_ne.mpr c2
    have c2b1 : (a0.toList != ([47] : List UInt8)) = true := bne_iff_ne.mpr c2
    by_cases c4 : a0.toList = ([104, 105, 103, 104] : List UInt8)
    · rw [if_pos c4] at H
      have c4b0 : (a0.toList == ([104, 105, 103, 104] : List UInt8)) = true := beq_iff_eq.mpr c4
      have c4b1 : (a0.toList != ([104, 105, 103, 104] : List UInt8)) = false := bne_eq_false_iff_eq.mpr c4
      clear c4
      by_cases c5 : fok .mul 9214871658872686752 4621819117588971520 = true
      · rw [if_pos c5] at H
        have c5b0 := eq_true c5
        have c5b1 : decide (fok .mul 9214871658872686752 4621819117588971520 = true) = true := decide_eq_true c5
        clear c5
        simp only [Option.some.injEq, Prod.mk.injEq] at H
        obtain ⟨rfl, rfl⟩ := H
        go_enter Tryd.func10, Tryd.ntmps10
        go_wp2
        go_ret2
        exact ⟨by first | rfl | (simp [errW_none, errW_some] <;> rfl) | (simp [*, errW_none, errW_some] <;> rfl), by repeat (first | (with_reducible first | exact HB.out | apply below_alloc | apply pw_below_drewN | apply below_drew1) | exact HB.out)⟩
      · rw [if_neg c5] at H
        exact absurd H (by simp)
    · rw [if_neg c4] at H
      have c4b0 : (a0.toList == ([104, 105, 103, 104] : List UInt8)) = false := beq_eq_false_iff_ne.mpr c4
      have c4b1 : (a0.toList != ([104, 105, 103, 104] : List UInt8)) = true := bne_iff_ne.mpr c4
      by_cases c6 : a0.toList = ([108, 111, 119] : List UInt8)
      · rw [if_pos c6] at H
        have c6b0 : (a0.toList == ([108, 111, 119] : List UInt8)) = true := beq_iff_eq.mpr c6
        have c6b1 : (a0.toList != ([108, 111, 119] : List UInt8)) = false := bne_eq_false_iff_eq.mpr c6
        clear c6
        by_cases c7 : fok .mul (fneg 9214871658872686752) 4621819117588971520 = true
        · rw [if_pos c7] at H
          have c7b0 := eq_true c7
          have c7b1 : decide (fok .mul (fneg 9214871658872686752) 4621819117588971520 = true) = true := decide_eq_true c7
          clear c7
          simp only [Option.some.injEq, Prod.mk.injEq] at H
          obtain ⟨rfl, rfl⟩ := H
          go_enter Tryd.func10, Tryd.ntmps10
          go_wp2
          go_ret2
          exact ⟨by first | rfl | (simp [errW_none, errW_some] <;> rfl) | (simp [*, errW_none, errW_some] <;> rfl), by repeat (first | (with_reducible first | exact HB.out | apply below_alloc | apply pw_below_drewN | apply below_drew1) | exact HB.out)⟩
        · rw [if_neg c7] at H
          exact absurd H (by simp)
      · rw [if_neg c6] at H
        have c6b0 : (a0.toList == ([108, 111, 119] : List UInt8)) = false := beq_eq_false_iff_ne.mpr c6
        have c6b1 : (a0.toList != ([108, 111, 119] : List UInt8)) = true := bne_iff_ne.mpr c6
        by_cases c8 : (a0.size : Int) > 30
        · rw [if_pos c8] at H
          have c8b0 : decide (30 < (a0.size : Int)) = true := decide_eq_true c8
          have c8b1 : decide (30 < a0.size) = true := decide_eq_true (by omega)
          clear c8
          simp only [Option.some.injEq, Prod.mk.injEq] at H
          obtain ⟨rfl, rfl⟩ := H
          go_enter Tryd.func10, Tryd.ntmps10
          go_wp2
          go_ret2
          exact ⟨by first | rfl | (simp [errW_none, errW_some] <;> rfl) | (simp [*, errW_none, errW_some] <;> rfl), by repeat (first | (with_reducible first | exact HB.out | apply below_alloc | apply pw_below_drewN | apply below_drew1) | exact HB.out)⟩
        · rw [if_neg c8] at H
          have c8b0 : decide (30 < (a0.size : Int)) = false := decide_eq_false c8
          have c8b1 : decide (30 < a0.size) = false := decide_eq_false (by omega)
          clear c8
          have H' := Aside0.mk H
          clear H
          go_enter Tryd.func10, Tryd.ntmps10
          go_wp2
          go_loopg [5, 6, 7] k (fun kq v5 v6 v7 w' => ∃ (x5_1 : Int) (x6_1 : Int) (x7_1 : Int), v5 = .int .i64 x5_1 ∧ v6 = .int .i64 x6_1 ∧ v7 = .int .i64 x7_1 ∧ Aside0 (spec_ReadNumber.l0 kq a0 x5_1 x6_1 x7_1 = some (r1, r2)) ∧ Aside0 (kq ≤ k) ∧ Aside0 (Below w.heap.size w w'))
          case atStart => exact ⟨(0), ((-1)), (0), (by first | rfl | (simp; done) | (simp [*]; done)), (by first | rfl | (simp; done) | (simp [*]; done)), (by first | rfl | (simp; done) | (simp [*]; done)), H', ⟨Nat.le_refl _⟩, ⟨by repeat (first | (with_reducible first | exact HB.out | apply below_alloc | apply pw_below_drewN | apply below_drew1) | exact HB.out)⟩⟩
          case round =>
            clear H'
            try clear c1
            try clear c2
            try clear c2b0
            try clear c2b1
            try clear p2
            try clear c3
            try clear c4
            try clear c4b0
            try clear c4b1
            try clear c5
            try clear c5b0
            try clear c5b1
            try clear c6
            try clear c6b0
            try clear c6b1
            try clear c7
            try clear c7b0
            try clear c7b1
            try clear c8
            try clear c8b0
            try clear c8b1
            obtain ⟨x5_1, x6_1, x7_1, rfl, rfl, rfl, HA, HK1, HB⟩ := hrel
            cases gk with
            | zero => exact absurd HA.out (by simp [spec_ReadNumber.l0])
            | succ k1 =>
              have H := HA.out
              clear HA
              simp only [spec_ReadNumber.l0] at H
              by_cases c9 : x7_1 < (a0.size : Int)
              · rw [if_pos c9] at H
                have c9b0 : decide (x7_1 < (a0.size : Int)) = true := decide_eq_true c9
                clear c9
                have HC10 := Aside0.mk H
                clear H
                go_upto_region 15 with (fail)
                go_cut [36] (fun v36 wc => ∃ (kq : Nat) (x36_9 : Bool), v36 = .bool x36_9 ∧ Aside0 (spec_ReadNumber.j1 kq a0 x5_1 x6_1 x7_1 x36_9 = some (r1, r2)) ∧ Aside0 (kq ≤ k1) ∧ Aside0 (Below w.heap.size w wc))
                case first =>
                  have H := HC10.out
                  clear HC10
                  by_cases c11 : 0 ≤ x7_1
                  · rw [if_pos c11] at H
                    have c11b0 : decide (0 ≤ x7_1) = true := decide_eq_true c11
                    clear c11
                    (first | rw [c11b0] | (simp only [i64_w, i32_w]; rw [c11b0]) | skip)
                    by_cases c13 : (bt a0 x7_1) = 46
                    · rw [if_pos c13] at H
                      have c13b0 : ((bt a0 x7_1) == 46) = true := beq_iff_eq.mpr c13
                      have c13b1 : ((bt a0 x7_1) != 46) = false := bne_eq_false_iff_eq.mpr c13
                      clear c13
                      have H' := Aside0.mk H
                      clear H
                      have p12 : 0 ≤ (x7_1 : Int) := of_decide_eq_true (by first | (with_reducible assumption) | assumption)
                      have q12 : x7_1 < (a0.size : Int) := of_decide_eq_true (by first | (with_reducible assumption) | assumption)
                      have hx12 := bt_at a0 x7_1
                      replace p12 := eq_true p12
                      replace q12 := eq_true q12
                      go_wp2
                      go_meet
                      case rel => exact ⟨_, (decide (x6_1 < 0)), (by first | rfl | (simp; done) | (simp [*]; done)), H', ⟨by have := HK1.out; first | omega | exact Nat.le_refl _⟩, ⟨by repeat (first | (with_reducible first | exact HB.out | apply below_alloc | apply pw_below_drewN | apply below_drew1) | exact HB.out)⟩⟩
                    · rw [if_neg c13] at H
                      have c13b0 : ((bt a0 x7_1) == 46) = false := beq_eq_false_iff_ne.mpr c13
                      have c13b1 : ((bt a0 x7_1) != 46) = true := bne_iff_ne.mpr c13
                      have H' := Aside0.mk H
                      clear H
                      have p12 : 0 ≤ (x7_1 : Int) := of_decide_eq_true (by first | (with_reducible assumption) | assumption)
                      have q12 : x7_1 < (a0.size : Int) := of_decide_eq_true (by first | (with_reducible assumption) | assumption)
                      have hx12 := bt_at a0 x7_1
                      replace p12 := eq_true p12
                      replace q12 := eq_true q12
                      go_wp2
                      go_meet
                      case rel => exact ⟨_, (false), (by first | rfl | (simp; done) | (simp [*]; done)), H', ⟨by have := HK1.out; first | omega | exact Nat.le_refl _⟩, ⟨by repeat (first | (with_reducible first | exact HB.out | apply below_alloc | apply pw_below_drewN | apply below_drew1) | exact HB.out)⟩⟩
                  · rw [if_neg c11] at H
                    exact absurd H (by simp)
                case rest =>
                  clear HC10
                  try clear c1
                  try clear p1
                  try clear q1
                  try clear hx1
                  try clear c2
                  try clear c2b0
                  try clear c2b1
                  try clear p2
                  try clear c3
                  try clear c4
                  try clear c4b0
                  try clear c4b1
                  try clear c5
                  try clear c5b0
                  try clear c5b1
                  try clear c6
                  try clear c6b0
                  try clear c6b1
                  try clear c7
                  try clear c7b0
                  try clear c7b1
                  try clear c8
                  try clear c8b0
                  try clear c8b1
                  try clear c9
                  try clear c9b0
                  try clear c10
                  try clear c11
                  try clear c11b0
                  try clear p12
                  try clear q12
                  try clear hx12
                  try clear c13
                  try clear c13b0
                  try clear c13b1
                  try clear p12
                  try clear p2
                  try clear q12
                  obtain ⟨kq, x36_9, rfl, HA, HJ9, HB⟩ := hcut
                  cases kq with
                  | zero => exact absurd HA.out (by simp [spec_ReadNumber.j1])
                  | succ kj9 =>
                    have H := HA.out
                    clear HA
                    simp only [spec_ReadNumber.j1] at H
                    by_cases c14 : x36_9 = true
                    · subst c14
                      have H1 : (spec_ReadNumber.l0 kj9 a0 x5_1 0 (wrap64 (x7_1 + 1))) = some (r1, r2) := by rw [if_pos rfl] at H; exact H
                      clear H
                      have H := H1
                      clear H1
                      have H' := Aside0.mk H
                      clear H
                      go_wp2
                      go_roundg kj9
                      case measure => have := HK1.out; have := HJ9.out; omega
                      case rel => exact ⟨(x5_1), (0), (wrap64 (x7_1 + 1)), (by first | rfl | (simp; done) | (simp [*]; done)), (by first | rfl | (simp; done) | (simp [*]; done)), (by first | rfl | (simp; done) | (simp [*]; done)), H', ⟨by have := HK1.out; have := HJ9.out; omega⟩, ⟨by repeat (first | (with_reducible first | exact HB.out | apply below_alloc | apply pw_below_drewN | apply below_drew1) | exact HB.out)⟩⟩
                    · replace c14 := Bool.eq_false_iff.mpr c14
                      subst c14
                      have H1 : (if 0 ≤ x7_1 then (if x7_1 < (a0.size : Int) then ((spec_l1Digit.f (bt a0 x7_1)).bind fun t105 => (if t105 = true then (if x5_1 > 1000000000000000 then (some (0, false)) else (if x6_1 ≥ 0 then (spec_ReadNumber.l0 kj9 a0 (wrap64 ((wrap64 (x5_1 * 10)) + (((bt a0 x7_1) - 48) % 256))) (wrap64 (x6_1 + 1)) (wrap64 (x7_1 + 1))) else (spec_ReadNumber.l0 kj9 a0 (wrap64 ((wrap64 (x5_1 * 10)) + (((bt a0 x7_1) - 48) % 256))) x6_1 (wrap64 (x7_1 + 1))))) else (if x7_1 > 0 then (some (0, false)) else (if (bt a0 x7_1) = 45 then (spec_ReadNumber.l0 kj9 a0 x5_1 x6_1 (wrap64 (x7_1 + 1))) else (some (0, false)))))) else (none)) else (none)) = some (r1, r2) := by rw [if_neg (show ¬ (false = true) by decide)] at H; exact H
                      clear H
                      have H := H1
                      clear H1
                      by_cases c15 : 0 ≤ x7_1
                      · rw [if_pos c15] at H
                        have c15b0 : decide (0 ≤ x7_1) = true := decide_eq_true c15
                        clear c15
                        by_cases c16 : x7_1 < (a0.size : Int)
                        · rw [if_pos c16] at H
                          have c16b0 : decide (x7_1 < (a0.size : Int)) = true := decide_eq_true c16
                          clear c16
                          replace H := Option.bind_eq_some_iff.mp H
                          obtain ⟨t105, A180, H⟩ := H
                          replace H : (if t105 = true then (if x5_1 > 1000000000000000 then (some (0, false)) else (if x6_1 ≥ 0 then (spec_ReadNumber.l0 kj9 a0 (wrap64 ((wrap64 (x5_1 * 10)) + (((bt a0 x7_1) - 48) % 256))) (wrap64 (x6_1 + 1)) (wrap64 (x7_1 + 1))) else (spec_ReadNumber.l0 kj9 a0 (wrap64 ((wrap64 (x5_1 * 10)) + (((bt a0 x7_1) - 48) % 256))) x6_1 (wrap64 (x7_1 + 1))))) else (if x7_1 > 0 then (some (0, false)) else (if (bt a0 x7_1) = 45 then (spec_ReadNumber.l0 kj9 a0 x5_1 x6_1 (wrap64 (x7_1 + 1))) else (some (0, false))))) = some (r1, r2) := H
                          have A18 := Aside0.mk A180
                          clear A180
                          by_cases c19 : t105 = true
                          · subst c19
                            have H1 : (if x5_1 > 1000000000000000 then (some (0, false)) else (if x6_1 ≥ 0 then (spec_ReadNumber.l0 kj9 a0 (wrap64 ((wrap64 (x5_1 * 10)) + (((bt a0 x7_1) - 48) % 256))) (wrap64 (x6_1 + 1)) (wrap64 (x7_1 + 1))) else (spec_ReadNumber.l0 kj9 a0 (wrap64 ((wrap64 (x5_1 * 10)) + (((bt a0 x7_1) - 48) % 256))) x6_1 (wrap64 (x7_1 + 1))))) = some (r1, r2) := by rw [if_pos rfl] at H; exact H
                            clear H
                            have H := H1
                            clear H1
                            by_cases c20 : x5_1 > 1000000000000000
                            · rw [if_pos c20] at H
                              have c20b0 : decide (1000000000000000 < x5_1) = true := decide_eq_true c20
                              clear c20
                              simp only [Option.some.injEq, Prod.mk.injEq] at H
                              obtain ⟨rfl, rfl⟩ := H
                              have p17 : 0 ≤ (x7_1 : Int) := of_decide_eq_true (by first | (with_reducible assumption) | assumption)
                              have q17 : x7_1 < (a0.size : Int) := of_decide_eq_true (by first | (with_reducible assumption) | assumption)
                              have hx17 := bt_at a0 x7_1
                              replace p17 := eq_true p17
                              replace q17 := eq_true q17
                              go_wp2_with (first | ((with_reducible refine gate_callee (f := 36) rfl ?_); refine goesL_ (some 40) rfl rfl Tryd.func36 (by kernel_rfl) rfl #[.int .u8 (bt a0 x7_1)] rfl (by (try simp only [List.map_toArray, List.map_cons, List.map_nil]); first | done | rfl | (simp only [List.length_drop, List.length_take]; rfl)) ?_; (with_reducible refine (spec_l1Digit.calls (bt a0 x7_1) true _ A18.out).mono ?_); rintro e w' ⟨rfl, ⟨nd, rfl⟩⟩; refine ⟨_, rfl, ?_⟩))
                              go_ret2
                              exact ⟨by first | rfl | (simp [errW_none, errW_some] <;> rfl) | (simp [*, errW_none, errW_some] <;> rfl), by repeat (first | (with_reducible first | exact HB.out | apply below_alloc | apply pw_below_drewN | apply below_drew1) | exact HB.out)⟩
                            · rw [if_neg c20] at H
                              have c20b0 : decide (1000000000000000 < x5_1) = false := decide_eq_false c20
                              clear c20
                              by_cases c22 : x6_1 ≥ 0
                              · rw [if_pos c22] at H
                                have c22b0 : decide (0 ≤ x6_1) = true := decide_eq_true c22
                                clear c22
                                have H' := Aside0.mk H
                                clear H
                                have p17 : 0 ≤ (x7_1 : Int) := of_decide_eq_true (by first | (with_reducible assumption) | assumption)
                                have q17 : x7_1 < (a0.size : Int) := of_decide_eq_true (by first | (with_reducible assumption) | assumption)
                                have hx17 := bt_at a0 x7_1
                                replace p17 := eq_true p17
                                replace q17 := eq_true q17
                                go_wp2_with (first | ((with_reducible refine gate_callee (f := 36) rfl ?_); refine goesL_ (some 40) rfl rfl Tryd.func36 (by kernel_rfl) rfl #[.int .u8 (bt a0 x7_1)] rfl (by (try simp only [List.map_toArray, List.map_cons, List.map_nil]); first | done | rfl | (simp only [List.length_drop, List.length_take]; rfl)) ?_; (with_reducible refine (spec_l1Digit.calls (bt a0 x7_1) true _ A18.out).mono ?_); rintro e w' ⟨rfl, ⟨nd, rfl⟩⟩; refine ⟨_, rfl, ?_⟩; have p21 : 0 ≤ (x7_1 : Int) := of_decide_eq_true (by first | (with_reducible assumption) | assumption); have q21 : x7_1 < (a0.size : Int) := of_decide_eq_true (by first | (with_reducible assumption) | assumption); have hx21 := bt_at a0 x7_1; replace p21 := eq_true p21; replace q21 := eq_true q21))
                                go_roundg kj9
                                case measure => have := HK1.out; have := HJ9.out; omega
                                case rel => exact ⟨(wrap64 ((wrap64 (x5_1 * 10)) + (((bt a0 x7_1) - 48) % 256))), (wrap64 (x6_1 + 1)), (wrap64 (x7_1 + 1)), (by first | rfl | (simp; done) | (simp [*]; done)), (by first | rfl | (simp; done) | (simp [*]; done)), (by first | rfl | (simp; done) | (simp [*]; done)), H', ⟨by have := HK1.out; have := HJ9.out; omega⟩, ⟨by repeat (first | (with_reducible first | exact HB.out | apply below_alloc | apply pw_below_drewN | apply below_drew1) | exact HB.out)⟩⟩
                              · rw [if_neg c22] at H
                                have c22b0 : decide (0 ≤ x6_1) = false := decide_eq_false c22
                                clear c22
                                have H' := Aside0.mk H
                                clear H
                                have p17 : 0 ≤ (x7_1 : Int) := of_decide_eq_true (by first | (with_reducible assumption) | assumption)
                                have q17 : x7_1 < (a0.size : Int) := of_decide_eq_true (by first | (with_reducible assumption) | assumption)
                                have hx17 := bt_at a0 x7_1
                                replace p17 := eq_true p17
                                replace q17 := eq_true q17
                                go_wp2_with (first | ((with_reducible refine gate_callee (f := 36) rfl ?_); refine goesL_ (some 40) rfl rfl Tryd.func36 (by kernel_rfl) rfl #[.int .u8 (bt a0 x7_1)] rfl (by (try simp only [List.map_toArray, List.map_cons, List.map_nil]); first | done | rfl | (simp only [List.length_drop, List.length_take]; rfl)) ?_; (with_reducible refine (spec_l1Digit.calls (bt a0 x7_1) true _ A18.out).mono ?_); rintro e w' ⟨rfl, ⟨nd, rfl⟩⟩; refine ⟨_, rfl, ?_⟩; have p21 : 0 ≤ (x7_1 : Int) := of_decide_eq_true (by first | (with_reducible assumption) | assumption); have q21 : x7_1 < (a0.size : Int) := of_decide_eq_true (by first | (with_reducible assumption) | assumption); have hx21 := bt_at a0 x7_1; replace p21 := eq_true p21; replace q21 := eq_true q21))
                                go_roundg kj9
                                case measure => have := HK1.out; have := HJ9.out; omega
                                case rel => exact ⟨(wrap64 ((wrap64 (x5_1 * 10)) + (((bt a0 x7_1) - 48) % 256))), (x6_1), (wrap64 (x7_1 + 1)), (by first | rfl | (simp; done) | (simp [*]; done)), (by first | rfl | (simp; done) | (simp [*]; done)), (by first | rfl | (simp; done) | (simp [*]; done)), H', ⟨by have := HK1.out; have := HJ9.out; omega⟩, ⟨by repeat (first | (with_reducible first | exact HB.out | apply below_alloc | apply pw_below_drewN | apply below_drew1) | exact HB.out)⟩⟩
                          · replace c19 := Bool.eq_false_iff.mpr c19
                            subst c19
                            have H1 : (if x7_1 > 0 then (some (0, false)) else (if (bt a0 x7_1) = 45 then (spec_ReadNumber.l0 kj9 a0 x5_1 x6_1 (wrap64 (x7_1 + 1))) else (some (0, false)))) = some (r1, r2) := by rw [if_neg (show ¬ (false = true) by decide)] at H; exact H
                            clear H
                            have H := H1
                            clear H1
                            by_cases c23 : x7_1 > 0
                            · rw [if_pos c23] at H
                              have c23b0 : decide (0 < x7_1) = true := decide_eq_true c23
                              clear c23
                              simp only [Option.some.injEq, Prod.mk.injEq] at H
                              obtain ⟨rfl, rfl⟩ := H
                              have p17 : 0 ≤ (x7_1 : Int) := of_decide_eq_true (by first | (with_reducible assumption) | assumption)
                              have q17 : x7_1 < (a0.size : Int) := of_decide_eq_true (by first | (with_reducible assumption) | assumption)
                              have hx17 := bt_at a0 x7_1
                              replace p17 := eq_true p17
                              replace q17 := eq_true q17
                              go_wp2_with (first | ((with_reducible refine gate_callee (f := 36) rfl ?_); refine goesL_ (some 40) rfl rfl Tryd.func36 (by kernel_rfl) rfl #[.int .u8 (bt a0 x7_1)] rfl (by (try simp only [List.map_toArray, List.map_cons, List.map_nil]); first | done | rfl | (simp only [List.length_drop, List.length_take]; rfl)) ?_; (with_reducible refine (spec_l1Digit.calls (bt a0 x7_1) false _ A18.out).mono ?_); rintro e w' ⟨rfl, ⟨nd, rfl⟩⟩; refine ⟨_, rfl, ?_⟩))
                              go_ret2
                              exact ⟨by first | rfl | (simp [errW_none, errW_some] <;> rfl) | (simp [*, errW_none, errW_some] <;> rfl), by repeat (first | (with_reducible first | exact HB.out | apply below_alloc | apply pw_below_drewN | apply below_drew1) | exact HB.out)⟩
                            · rw [if_neg c23] at H
                              have c23b0 : decide (0 < x7_1) = false := decide_eq_false c23
                              clear c23
                              by_cases c25 : (bt a0 x7_1) = 45
                              · rw [if_pos c25] at H
                                have c25b0 : ((bt a0 x7_1) == 45) = true := beq_iff_eq.mpr c25
                                have c25b1 : ((bt a0 x7_1) != 45) = false := bne_eq_false_iff_eq.mpr c25
                                clear c25
                                have H' := Aside0.mk H
                                clear H
                                have p17 : 0 ≤ (x7_1 : Int) := of_decide_eq_true (by first | (with_reducible assumption) | assumption)
                                have q17 : x7_1 < (a0.size : Int) := of_decide_eq_true (by first | (with_reducible assumption) | assumption)
                                have hx17 := bt_at a0 x7_1
                                replace p17 := eq_true p17
                                replace q17 := eq_true q17
                                go_wp2_with (first | ((with_reducible refine gate_callee (f := 36) rfl ?_); refine goesL_ (some 40) rfl rfl Tryd.func36 (by kernel_rfl) rfl #[.int .u8 (bt a0 x7_1)] rfl (by (try simp only [List.map_toArray, List.map_cons, List.map_nil]); first | done | rfl | (simp only [List.length_drop, List.length_take]; rfl)) ?_; (with_reducible refine (spec_l1Digit.calls (bt a0 x7_1) false _ A18.out).mono ?_); rintro e w' ⟨rfl, ⟨nd, rfl⟩⟩; refine ⟨_, rfl, ?_⟩; have p24 : 0 ≤ (x7_1 : Int) := of_decide_eq_true (by first | (with_reducible assumption) | assumption); have q24 : x7_1 < (a0.size : Int) := of_decide_eq_true (by first | (with_reducible assumption) | assumption); have hx24 := bt_at a0 x7_1; replace p24 := eq_true p24; replace q24 := eq_true q24))
                                go_roundg kj9
                                case measure => have := HK1.out; have := HJ9.out; omega
                                case rel => exact ⟨(x5_1), (x6_1), (wrap64 (x7_1 + 1)), (by first | rfl | (simp; done) | (simp [*]; done)), (by first | rfl | (simp; done) | (simp [*]; done)), (by first | rfl | (simp; done) | (simp [*]; done)), H', ⟨by have := HK1.out; have := HJ9.out; omega⟩, ⟨by repeat (first | (with_reducible first | exact HB.out | apply below_alloc | apply pw_below_drewN | apply below_drew1) | exact HB.out)⟩⟩
                              · rw [if_neg c25] at H
                                have c25b0 : ((bt a0 x7_1) == 45) = false := beq_eq_false_iff_ne.mpr c25
                                have c25b1 : ((bt a0 x7_1) != 45) = true := bne_iff_ne.mpr c25
                                simp only [Option.some.injEq, Prod.mk.injEq] at H
                                obtain ⟨rfl, rfl⟩ := H
                                have p17 : 0 ≤ (x7_1 : Int) := of_decide_eq_true (by first | (with_reducible assumption) | assumption)
                                have q17 : x7_1 < (a0.size : Int) := of_decide_eq_true (by first | (with_reducible assumption) | assumption)
                                have hx17 := bt_at a0 x7_1
                                replace p17 := eq_true p17
                                replace q17 := eq_true q17
                                go_wp2_with (first | ((with_reducible refine gate_callee (f := 36) rfl ?_); refine goesL_ (some 40) rfl rfl Tryd.func36 (by kernel_rfl) rfl #[.int .u8 (bt a0 x7_1)] rfl (by (try simp only [List.map_toArray, List.map_cons, List.map_nil]); first | done | rfl | (simp only [List.length_drop, List.length_take]; rfl)) ?_; (with_reducible refine (spec_l1Digit.calls (bt a0 x7_1) false _ A18.out).mono ?_); rintro e w' ⟨rfl, ⟨nd, rfl⟩⟩; refine ⟨_, rfl, ?_⟩; have p24 : 0 ≤ (x7_1 : Int) := of_decide_eq_true (by first | (with_reducible assumption) | assumption); have q24 : x7_1 < (a0.size : Int) := of_decide_eq_true (by first | (with_reducible assumption) | assumption); have hx24 := bt_at a0 x7_1; replace p24 := eq_true p24; replace q24 := eq_true q24))
                                go_ret2
                                exact ⟨by first | rfl | (simp [errW_none, errW_some] <;> rfl) | (simp [*, errW_none, errW_some] <;> rfl), by repeat (first | (with_reducible first | exact HB.out | apply below_alloc | apply pw_below_drewN | apply below_drew1) | exact HB.out)⟩
                        · rw [if_neg c16] at H
                          exact absurd H (by simp)
                      · rw [if_neg c15] at H
                        exact absurd H (by simp)
              · rw [if_neg c9] at H
                have c9b0 : decide (x7_1 < (a0.size : Int)) = false := decide_eq_false c9
                clear c9
                have HC26 := Aside0.mk H
                clear H
                go_upto_region 25 with (fail)
                go_cut [72] (fun v72 wc => ∃ (kq : Nat) (x72_25 : Bool), v72 = .bool x72_25 ∧ Aside0 (spec_ReadNumber.j2 kq a0 x5_1 x6_1 x72_25 = some (r1, r2)) ∧ Aside0 (kq ≤ k1) ∧ Aside0 (Below w.heap.size w wc))
                case first =>
                  have H := HC26.out
                  clear HC26
                  by_cases c27 : x6_1 = 0
                  · rw [if_pos c27] at H
                    have c27b0 : (x6_1 == 0) = true := beq_iff_eq.mpr c27
                    have c27b1 : (x6_1 != 0) = false := bne_eq_false_iff_eq.mpr c27
                    clear c27
                    (first | rw [c27b0] | (simp only [i64_w, i32_w]; rw [c27b0]) | skip)
                    have H' := Aside0.mk H
                    clear H
                    go_wp2
                    go_meet
                    case rel => exact ⟨_, (true), (by first | rfl | (simp; done) | (simp [*]; done)), H', ⟨by have := HK1.out; first | omega | exact Nat.le_refl _⟩, ⟨by repeat (first | (with_reducible first | exact HB.out | apply below_alloc | apply pw_below_drewN | apply below_drew1) | exact HB.out)⟩⟩
                  · rw [if_neg c27] at H
                    have c27b0 : (x6_1 == 0) = false := beq_eq_false_iff_ne.mpr c27
                    have c27b1 : (x6_1 != 0) = true := bne_iff_ne.mpr c27
                    (first | rw [c27b0] | (simp only [i64_w, i32_w]; rw [c27b0]) | skip)
                    by_cases c28 : x6_1 > 6
                    · rw [if_pos c28] at H
                      have c28b0 : decide (6 < x6_1) = true := decide_eq_true c28
                      clear c28
                      have H' := Aside0.mk H
                      clear H
                      go_wp2
                      go_meet
                      case rel => exact ⟨_, (true), (by first | rfl | (simp; done) | (simp [*]; done)), H', ⟨by have := HK1.out; first | omega | exact Nat.le_refl _⟩, ⟨by repeat (first | (with_reducible first | exact HB.out | apply below_alloc | apply pw_below_drewN | apply below_drew1) | exact HB.out)⟩⟩
                    · rw [if_neg c28] at H
                      have c28b0 : decide (6 < x6_1) = false := decide_eq_false c28
                      clear c28
                      have H' := Aside0.mk H
                      clear H
                      go_wp2
                      go_meet
                      case rel => exact ⟨_, (decide (x5_1 > 1000000000000000)), (by first | rfl | (simp; done) | (simp [*]; done)), H', ⟨by have := HK1.out; first | omega | exact Nat.le_refl _⟩, ⟨by repeat (first | (with_reducible first | exact HB.out | apply below_alloc | apply pw_below_drewN | apply below_drew1) | exact HB.out)⟩⟩
                case rest =>
                  clear HC26
                  try clear c1
                  try clear p1
                  try clear q1
                  try clear hx1
                  try clear c2
                  try clear c2b0
                  try clear c2b1
                  try clear p2
                  try clear q2
                  try clear hx2
                  try clear c3
                  try clear c4
                  try clear c4b0
                  try clear c4b1
                  try clear c5
                  try clear c5b0
                  try clear c5b1
                  try clear c6
                  try clear c6b0
                  try clear c6b1
                  try clear p6
                  try clear c7
                  try clear c7b0
                  try clear c7b1
                  try clear c8
                  try clear c8b0
                  try clear c8b1
                  try clear c9
                  try clear c9b0
                  try clear c10
                  try clear c11
                  try clear c11b0
                  try clear p12
                  try clear q12
                  try clear hx12
                  try clear c13
                  try clear c13b0
                  try clear c13b1
                  try clear c14
                  try clear c15
                  try clear c15b0
                  try clear c16
                  try clear c16b0
                  try clear p17
                  try clear q17
                  try clear hx17
                  try clear c19
                  try clear c20
                  try clear c20b0
                  try clear p21
                  try clear q21
                  try clear hx21
                  try clear c22
                  try clear c22b0
                  try clear c23
                  try clear c23b0
                  try clear p24
                  try clear q24
                  try clear hx24
                  try clear c25
                  try clear c25b0
                  try clear c25b1
                  try clear c27
                  try clear c27b0
                  try clear c27b1
                  try clear c28
                  try clear c28b0
                  try clear p1
                  try clear p12
                  try clear p17
                  try clear p2
                  try clear p21
                  try clear p24
                  try clear q1
                  try clear q12
                  try clear q17
                  try clear q21
                  try clear q24
                  obtain ⟨kq, x72_25, rfl, HA, HJ25, HB⟩ := hcut
                  cases kq with
                  | zero => exact absurd HA.out (by simp [spec_ReadNumber.j2])
                  | succ kj25 =>
                    have H := HA.out
                    clear HA
                    simp only [spec_ReadNumber.j2] at H
                    by_cases c29 : x72_25 = true
                    · subst c29
                      have H1 : (some (0, false)) = some (r1, r2) := by rw [if_pos rfl] at H; exact H
                      clear H
                      have H := H1
                      clear H1
                      simp only [Option.some.injEq, Prod.mk.injEq] at H
                      obtain ⟨rfl, rfl⟩ := H
                      go_wp2
                      go_ret2
                      exact ⟨by first | rfl | (simp [errW_none, errW_some] <;> rfl) | (simp [*, errW_none, errW_some] <;> rfl), by repeat (first | (with_reducible first | exact HB.out | apply below_alloc | apply pw_below_drewN | apply below_drew1) | exact HB.out)⟩
                    · replace c29 := Bool.eq_false_iff.mpr c29
                      subst c29
                      have H1 : (if (a0.size : Int) > 0 then (if 0 < (a0.size : Int) then (spec_ReadNumber.j3 kj25 a0 x5_1 x6_1 ((bt a0 0) == 45)) else (none)) else (spec_ReadNumber.j3 kj25 a0 x5_1 x6_1 false)) = some (r1, r2) := by rw [if_neg (show ¬ (false = true) by decide)] at H; exact H
                      clear H
                      have H := H1
                      clear H1
                      have HC30 := Aside0.mk H
                      clear H
                      go_upto_region 27 with (fail)
                      go_cut [80] (fun v80 wc => ∃ (kq : Nat) (x80_29 : Bool), v80 = .bool x80_29 ∧ Aside0 (spec_ReadNumber.j3 kq a0 x5_1 x6_1 x80_29 = some (r1, r2)) ∧ Aside0 (kq ≤ kj25) ∧ Aside0 (Below w.heap.size w wc))
                      case first =>
                        have H := HC30.out
                        clear HC30
                        by_cases c31 : (a0.size : Int) > 0
                        · rw [if_pos c31] at H
                          have c31b0 : decide (0 < (a0.size : Int)) = true := decide_eq_true c31
                          have c31b1 : decide (0 < a0.size) = true := decide_eq_true (by omega)
                          clear c31
                          (first | rw [c31b0] | (simp only [i64_w, i32_w]; rw [c31b0]) | skip)
                          by_cases c32 : 0 < (a0.size : Int)
                          · rw [if_pos c32] at H
                            have c32b0 : decide (0 < (a0.size : Int)) = true := decide_eq_true c32
                            have c32b1 : decide (0 < a0.size) = true := decide_eq_true (by omega)
                            clear c32
                            have H' := Aside0.mk H
                            clear H
                            have p33 : 0 ≤ (0 : Int) := (by omega)
                            have q33 : 0 < a0.size := (by have : (0 : Int) < (a0.size : Int) := of_decide_eq_true (by first | (with_reducible assumption) | assumption); omega)
                            have hx33 : ∀ h : 0 < a0.size, ((a0[0]'h).toNat : Int) = bt a0 0 := bt_at a0 0
                            clear p33
                            have qi33 : (0 < (a0.size : Int)) = True := eq_true (of_decide_eq_true (by first | (with_reducible assumption) | assumption))
                            replace q33 := eq_true q33
                            go_wp2
                            go_meet
                            case rel => exact ⟨_, (((bt a0 0) == 45)), (by first | rfl | (simp; done) | (simp [*]; done)), H', ⟨by have := HK1.out; have := HJ25.out; first | omega | exact Nat.le_refl _⟩, ⟨by repeat (first | (with_reducible first | exact HB.out | apply below_alloc | apply pw_below_drewN | apply below_drew1) | exact HB.out)⟩⟩
                          · rw [if_neg c32] at H
                            exact absurd H (by simp)
                        · rw [if_neg c31] at H
                          have c31b0 : decide (0 < (a0.size : Int)) = false := decide_eq_false c31
                          have c31b1 : decide (0 < a0.size) = false := decide_eq_false (by omega)
                          clear c31
                          (first | rw [c31b0] | (simp only [i64_w, i32_w]; rw [c31b0]) | skip)
                          have H' := Aside0.mk H
                          clear H
                          go_wp2
                          go_meet
                          case rel => exact ⟨_, (false), (by first | rfl | (simp; done) | (simp [*]; done)), H', ⟨by have := HK1.out; have := HJ25.out; first | omega | exact Nat.le_refl _⟩, ⟨by repeat (first | (with_reducible first | exact HB.out | apply below_alloc | apply pw_below_drewN | apply below_drew1) | exact HB.out)⟩⟩
                      case rest =>
                        clear HC30
                        try clear c1
                        try clear p1
                        try clear q1
                        try clear hx1
                        try clear c2
                        try clear c2b0
                        try clear c2b1
                        try clear p2
                        try clear q2
                        try clear hx2
                        try clear c3
                        try clear p3
                        try clear q3
                        try clear hx3
                        try clear qi3
                        try clear c4
                        try clear c4b0
                        try clear c4b1
                        try clear c5
                        try clear c5b0
                        try clear c5b1
                        try clear c6
                        try clear c6b0
                        try clear c6b1
                        try clear p6
                        try clear c7
                        try clear c7b0
                        try clear c7b1
                        try clear c8
                        try clear c8b0
                        try clear c8b1
                        try clear c9
                        try clear c9b0
                        try clear c10
                        try clear c11
                        try clear c11b0
                        try clear p12
                        try clear q12
                        try clear hx12
                        try clear c13
                        try clear c13b0
                        try clear c13b1
                        try clear c14
                        try clear c15
                        try clear c15b0
                        try clear c16
                        try clear c16b0
                        try clear p17
                        try clear q17
                        try clear hx17
                        try clear c19
                        try clear c20
                        try clear c20b0
                        try clear p21
                        try clear q21
                        try clear hx21
                        try clear c22
                        try clear c22b0
                        try clear c23
                        try clear c23b0
                        try clear p24
                        try clear q24
                        try clear hx24
                        try clear c25
                        try clear c25b0
                        try clear c25b1
                        try clear c27
                        try clear c27b0
                        try clear c27b1
                        try clear c28
                        try clear c28b0
                        try clear c29
                        try clear c31
                        try clear c31b0
                        try clear c31b1
                        try clear c32
                        try clear c32b0
                        try clear c32b1
                        try clear p33
                        try clear q33
                        try clear hx33
                        try clear qi33
                        try clear p1
                        try clear p12
                        try clear p17
                        try clear p2
                        try clear p21
                        try clear p24
                        try clear p33
                        try clear p6
                        try clear q1
                        try clear q12
                        try clear q17
                        try clear q2
                        try clear q21
                        try clear q24
                        try clear q33
                        obtain ⟨kq, x80_29, rfl, HA, HJ29, HB⟩ := hcut
                        cases kq with
                        | zero => exact absurd HA.out (by simp [spec_ReadNumber.j3])
                        | succ kj29 =>
                          have H := HA.out
                          clear HA
                          simp only [spec_ReadNumber.j3] at H
                          have HC34 := Aside0.mk H
                          clear H
                          go_upto_if 80 with (fail)
                          go_cut [5] (fun v5 wc => ∃ (kq : Nat) (x5_33 : Int), v5 = .int .i64 x5_33 ∧ Aside0 (spec_ReadNumber.j4 kq a0 x5_33 x6_1 = some (r1, r2)) ∧ Aside0 (kq ≤ kj29) ∧ Aside0 (Below w.heap.size w wc))
                          case first =>
                            have H := HC34.out
                            clear HC34
                            by_cases c35 : x80_29 = true
                            · subst c35
                              have H1 : (spec_ReadNumber.j4 kj29 a0 (wrap64 (-x5_1)) x6_1) = some (r1, r2) := by rw [if_pos rfl] at H; exact H
                              clear H
                              have H := H1
                              clear H1
                              have H' := Aside0.mk H
                              clear H
                              go_wp2
                              go_meet
                              case rel => exact ⟨_, (wrap64 (-x5_1)), (by first | rfl | (simp; done) | (simp [*]; done)), H', ⟨by have := HK1.out; have := HJ25.out; have := HJ29.out; first | omega | exact Nat.le_refl _⟩, ⟨by repeat (first | (with_reducible first | exact HB.out | apply below_alloc | apply pw_below_drewN | apply below_drew1) | exact HB.out)⟩⟩
                            · replace c35 := Bool.eq_false_iff.mpr c35
                              subst c35
                              have H1 : (spec_ReadNumber.j4 kj29 a0 x5_1 x6_1) = some (r1, r2) := by rw [if_neg (show ¬ (false = true) by decide)] at H; exact H
                              clear H
                              have H := H1
                              clear H1
                              have H' := Aside0.mk H
                              clear H
                              go_wp2
                              go_meet
                              case rel => exact ⟨_, (x5_1), (by first | rfl | (simp; done) | (simp [*]; done)), H', ⟨by have := HK1.out; have := HJ25.out; have := HJ29.out; first | omega | exact Nat.le_refl _⟩, ⟨by repeat (first | (with_reducible first | exact HB.out | apply below_alloc | apply pw_below_drewN | apply below_drew1) | exact HB.out)⟩⟩
                          case rest =>
                            clear HC34
                            try clear c1
                            try clear p1
                            try clear q1
                            try clear hx1
                            try clear c2
                            try clear c2b0
                            try clear c2b1
                            try clear p2
                            try clear q2
                            try clear hx2
                            try clear c3
                            try clear p3
                            try clear q3
                            try clear hx3
                            try clear qi3
                            try clear c4
                            try clear c4b0
                            try clear c4b1
                            try clear c5
                            try clear c5b0
                            try clear c5b1
                            try clear c6
                            try clear c6b0
                            try clear c6b1
                            try clear p6
                            try clear c7
                            try clear c7b0
                            try clear c7b1
                            try clear c8
                            try clear c8b0
                            try clear c8b1
                            try clear c9
                            try clear c9b0
                            try clear c10
                            try clear c11
                            try clear c11b0
                            try clear p12
                            try clear q12
                            try clear hx12
                            try clear c13
                            try clear c13b0
                            try clear c13b1
                            try clear c14
                            try clear c15
                            try clear c15b0
                            try clear c16
                            try clear c16b0
                            try clear p17
                            try clear q17
                            try clear hx17
                            try clear c19
                            try clear c20
                            try clear c20b0
                            try clear p21
                            try clear q21
                            try clear hx21
                            try clear c22
                            try clear c22b0
                            try clear c23
                            try clear c23b0
                            try clear p24
                            try clear q24
                            try clear hx24
                            try clear c25
                            try clear c25b0
                            try clear c25b1
                            try clear c27
                            try clear c27b0
                            try clear c27b1
                            try clear c28
                            try clear c28b0
                            try clear c29
                            try clear c31
                            try clear c31b0
                            try clear c31b1
                            try clear c32
                            try clear c32b0
                            try clear c32b1
                            try clear p33
                            try clear q33
                            try clear hx33
                            try clear qi33
                            try clear c35
                            try clear p1
                            try clear p12
                            try clear p17
                            try clear p2
                            try clear p21
                            try clear p24
                            try clear p3
                            try clear p33
                            try clear p6
                            try clear q1
                            try clear q12
                            try clear q17
                            try clear q2
                            try clear q21
                            try clear q24
                            try clear q3
                            try clear q33
                            obtain ⟨kq, x5_33, rfl, HA, HJ33, HB⟩ := hcut
                            cases kq with
                            | zero => exact absurd HA.out (by simp [spec_ReadNumber.j4])
                            | succ kj33 =>
                              have H := HA.out
                              clear HA
                              simp only [spec_ReadNumber.j4] at H
                              obtain ⟨ji36, hji36⟩ : ∃ j_ : Int, (mx x6_1 0) = j_ := ⟨_, rfl⟩
                              replace H : ((spec_l1Point.f kj33 x5_33 (ji36)).bind fun t106 => (if t106.toList = a0.toList then ((spec_l1Ten.f kj33 (ji36)).bind fun t107 => (if fok .quo (fofi x5_33) (fofi t107) = true then (some (fop .quo (fofi x5_33) (fofi t107), true)) else (none))) else (some (0, false)))) = some (r1, r2) := by first | (rw [hji36] at H; exact H) | (simp only [hji36] at H ⊢; exact H)
                              have hji36_ : (if x6_1 < 0 then 0 else x6_1) = ji36 := hji36
                              replace H := Option.bind_eq_some_iff.mp H
                              obtain ⟨t106, A370, H⟩ := H
                              replace H : (if t106.toList = a0.toList then ((spec_l1Ten.f kj33 (ji36)).bind fun t107 => (if fok .quo (fofi x5_33) (fofi t107) = true then (some (fop .quo (fofi x5_33) (fofi t107), true)) else (none))) else (some (0, false))) = some (r1, r2) := H
                              have A37 := Aside0.mk A370
                              clear A370
                              by_cases c38 : t106.toList = a0.toList
                              · rw [if_pos c38] at H
                                have c38b0 : (t106.toList == a0.toList) = true := beq_iff_eq.mpr c38
                                have c38b1 : (t106.toList != a0.toList) = false := bne_eq_false_iff_eq.mpr c38
                                clear c38
                                replace H := Option.bind_eq_some_iff.mp H
                                obtain ⟨t107, A390, H⟩ := H
                                replace H : (if fok .quo (fofi x5_33) (fofi t107) = true then (some (fop .quo (fofi x5_33) (fofi t107), true)) else (none)) = some (r1, r2) := H
                                have A39 := Aside0.mk A390
                                clear A390
                                by_cases c40 : fok .quo (fofi x5_33) (fofi t107) = true
                                · rw [if_pos c40] at H
                                  have c40b0 := eq_true c40
                                  have c40b1 : decide (fok .quo (fofi x5_33) (fofi t107) = true) = true := decide_eq_true c40
                                  clear c40
                                  simp only [Option.some.injEq, Prod.mk.injEq] at H
                                  obtain ⟨rfl, rfl⟩ := H
                                  go_wp2_with (first | ((with_reducible refine gate_callee (f := 27) rfl ?_); refine goesL_ (some 87) rfl rfl Tryd.func27 (by kernel_rfl) rfl #[.int .i64 x5_33, .int .i64 ji36] rfl (by (try simp only [List.map_toArray, List.map_cons, List.map_nil]); first | done | (simp only [hji36]; rfl) | rfl | (simp only [List.length_drop, List.length_take]; rfl)) ?_; (with_reducible refine (spec_l1Point.calls kj33 x5_33 ji36 t106 _ A37.out).mono ?_); rintro e w41 ⟨rfl, hb⟩; refine ⟨_, rfl, ?_⟩; have n0_ := Aside0.mk (below_step (by repeat (first | (with_reducible first | exact HB.out | apply below_alloc | apply pw_below_drewN | apply below_drew1) | exact HB.out)) hb); clear HB; have HB := n0_; clear n0_; (try clear hb); (try clear hb2); (try clear hk); (try clear hi)) | ((with_reducible refine gate_callee (f := 26) rfl ?_); refine goesL_ (some 93) rfl rfl Tryd.func26 (by kernel_rfl) rfl #[.int .i64 ji36] rfl (by (try simp only [List.map_toArray, List.map_cons, List.map_nil]); first | done | (simp only [hji36]; rfl) | rfl | (simp only [List.length_drop, List.length_take]; rfl)) ?_; (with_reducible refine (spec_l1Ten.calls kj33 ji36 t107 _ A39.out).mono ?_); rintro e w' ⟨rfl, ⟨nd, rfl⟩⟩; refine ⟨_, rfl, ?_⟩))
                                  go_ret2
                                  exact ⟨by first | rfl | (simp [errW_none, errW_some] <;> rfl) | (simp only [← hji36]; first | rfl | (simp [errW_none, errW_some] <;> rfl)) | (simp [*, errW_none, errW_some] <;> rfl), by repeat (first | (with_reducible first | exact HB.out | apply below_alloc | apply pw_below_drewN | apply below_drew1) | exact HB.out)⟩
                                · rw [if_neg c40] at H
                                  exact absurd H (by simp)
                              · rw [if_neg c38] at H
                                have c38b0 : (t106.toList == a0.toList) = false := beq_eq_false_iff_ne.mpr c38
                                have c38b1 : (t106.toList != a0.toList) = true := bne_iff_ne.mpr c38
                                simp only [Option.some.injEq, Prod.mk.injEq] at H
                                obtain ⟨rfl, rfl⟩ := H
                                go_wp2_with (first | ((with_reducible refine gate_callee (f := 27) rfl ?_); refine goesL_ (some 87) rfl rfl Tryd.func27 (by kernel_rfl) rfl #[.int .i64 x5_33, .int .i64 ji36] rfl (by (try simp only [List.map_toArray, List.map_cons, List.map_nil]); first | done | (simp only [hji36]; rfl) | rfl | (simp only [List.length_drop, List.length_take]; rfl)) ?_; (with_reducible refine (spec_l1Point.calls kj33 x5_33 ji36 t106 _ A37.out).mono ?_); rintro e w42 ⟨rfl, hb⟩; refine ⟨_, rfl, ?_⟩; have n0_ := Aside0.mk (below_step (by repeat (first | (with_reducible first | exact HB.out | apply below_alloc | apply pw_below_drewN | apply below_drew1) | exact HB.out)) hb); clear HB; have HB := n0_; clear n0_; (try clear hb); (try clear hb2); (try clear hk); (try clear hi)))
                                go_ret2
                                exact ⟨by first | rfl | (simp [errW_none, errW_some] <;> rfl) | (simp only [← hji36]; first | rfl | (simp [errW_none, errW_some] <;> rfl)) | (simp [*, errW_none, errW_some] <;> rfl), by repeat (first | (with_reducible first | exact HB.out | apply below_alloc | apply pw_below_drewN | apply below_drew1) | exact HB.out)⟩

end Go.Proofs.YtigegicbfmjpbaaDoor.PRn
