-- Printed by a program of this session's own (wip/print), out of the translation. Lean checks it.
import Derived.Test.YtigegicbfmjpbaaDoorPTox0
import Derived.Test.YtigegicbfmjpbaaDoorPTox1
namespace Go.Proofs.YtigegicbfmjpbaaDoor.PTo
open Go.Proofs.YtigegicbfmjpbaaDoorW
open Go.RowKit Go.Proofs.YtigegicbfmjpbaaDoorW.PrintWords Go.Proofs.YtigegicbfmjpbaaDoorW.PrintLast Go.Proofs.YtigegicbfmjpbaaDoorW.PrintMore
attribute [local go_sem] max2_int min2_int max_two min_two max_three min_three max_four min_four   -- for this text's walks alone
set_option linter.unusedVariables false
set_option linter.unusedSimpArgs false

/-! ### spec_Told: function 8 -/
mutual
def spec_Told.j0 : Nat → Nat → Int → Bool → Option (ByteArray)
  | 0, _, _, _ => none
  | k + 1, x0, x1, x12 => if x12 = true then (some (⟨#[]⟩ : ByteArray)) else (if (fne x0 x0) = true then (some (⟨#[47]⟩ : ByteArray)) else ((spec_Known.f x0).bind fun t106 => (if t106 = true then (spec_Told.j1 k x0 x1 false) else (spec_Told.j1 k x0 x1 (fgt x0 0)))))
def spec_Told.j1 : Nat → Nat → Int → Bool → Option (ByteArray)
  | 0, _, _, _ => none
  | k + 1, x0, x1, x22 => if x22 = true then (some (⟨#[104, 105, 103, 104]⟩ : ByteArray)) else ((spec_Known.f x0).bind fun t107 => (if t107 = true then ((spec_l1Ten.f k x1).bind fun t108 => (if fok .mul x0 (fofi t108) = true then ((spec_Nearest.f (fop .mul x0 (fofi t108))).bind fun bt109 => (if bt109.2 = true then ((spec_l1Point.f k bt109.1 x1).bind fun t111 => (some t111)) else (some (⟨#[102, 97, 114]⟩ : ByteArray)))) else (none))) else (some (⟨#[108, 111, 119]⟩ : ByteArray))))
end
def spec_Told.f (k : Nat) (a0 : Nat) (a1 : Int) : Option (ByteArray) := if a1 < 0 then (spec_Told.j0 k a0 a1 true) else (spec_Told.j0 k a0 a1 (decide (a1 > 6)))
theorem spec_Told.mono_l : ∀ k, (∀ y0 y1 y2, LeO (spec_Told.j0 k y0 y1 y2) (spec_Told.j0 (k + 1) y0 y1 y2)) ∧ (∀ y0 y1 y2, LeO (spec_Told.j1 k y0 y1 y2) (spec_Told.j1 (k + 1) y0 y1 y2))
  | 0 => ⟨fun _ _ _ r h => by simp [spec_Told.j0] at h, fun _ _ _ r h => by simp [spec_Told.j1] at h⟩
  | k + 1 => by
    obtain ⟨ih0, ih1⟩ := spec_Told.mono_l k
    refine ⟨?_, ?_⟩
    · intro y0 y1 y2
      unfold spec_Told.j0
      repeat' first
      | (with_reducible exact ih0 _ _ _)
      | (with_reducible exact ih1 _ _ _)
      | (with_reducible exact spec_l1Point.mono _ _ _)
      | (with_reducible exact spec_l1Ten.mono _ _)
      | (with_reducible exact LeO.refl _)
      | (with_reducible exact LeO.none _)
      | (with_reducible refine LeO.ite ?_ ?_)
      | (with_reducible refine LeO.bind ?_ (fun _ => ?_))
      | exact ih0 _ _ _
      | exact ih1 _ _ _
      | exact spec_l1Point.mono _ _ _
      | exact spec_l1Ten.mono _ _
      | exact LeO.none _
      | refine LeO.ite ?_ ?_
      | refine LeO.bind ?_ (fun _ => ?_)
    · intro y0 y1 y2
      unfold spec_Told.j1
      repeat' first
      | (with_reducible exact ih0 _ _ _)
      | (with_reducible exact ih1 _ _ _)
      | (with_reducible exact spec_l1Point.mono _ _ _)
      | (with_reducible exact spec_l1Ten.mono _ _)
      | (with_reducible exact LeO.refl _)
      | (with_reducible exact LeO.none _)
      | (with_reducible refine LeO.ite ?_ ?_)
      | (with_reducible refine LeO.bind ?_ (fun _ => ?_))
      | exact ih0 _ _ _
      | exact ih1 _ _ _
      | exact spec_l1Point.mono _ _ _
      | exact spec_l1Ten.mono _ _
      | exact LeO.none _
      | refine LeO.ite ?_ ?_
      | refine LeO.bind ?_ (fun _ => ?_)
theorem spec_Told.mono : ∀ a0 a1 k, LeO (spec_Told.f k a0 a1) (spec_Told.f (k + 1) a0 a1) := by
  intro a0 a1 k
  obtain ⟨ih0, ih1⟩ := spec_Told.mono_l k
  unfold spec_Told.f
  repeat' first
      | (with_reducible exact ih0 _ _ _)
      | (with_reducible exact ih1 _ _ _)
      | (with_reducible exact spec_l1Point.mono _ _ _)
      | (with_reducible exact spec_l1Ten.mono _ _)
      | (with_reducible exact LeO.refl _)
      | (with_reducible exact LeO.none _)
      | (with_reducible refine LeO.ite ?_ ?_)
      | (with_reducible refine LeO.bind ?_ (fun _ => ?_))
      | exact ih0 _ _ _
      | exact ih1 _ _ _
      | exact spec_l1Point.mono _ _ _
      | exact spec_l1Ten.mono _ _
      | exact LeO.none _
      | refine LeO.ite ?_ ?_
      | refine LeO.bind ?_ (fun _ => ?_)
set_option maxHeartbeats 8000000 in
set_option maxRecDepth 100000 in
theorem spec_Told.calls (k : Nat) (a0 : Nat) (a1 : Int) (r : ByteArray) (w : World) (h : spec_Told.f k a0 a1 = some r) :
    Calls Tryd.prog 8 #[.float .f64 a0, .int .i64 a1] w fun e w' => e = .returned (.string r) ∧ Below w.heap.size w w' := by
  have HB := Aside0.mk (Below.refl w.heap.size w)
  have H : (if a1 < 0 then (spec_Told.j0 k a0 a1 true) else (spec_Told.j0 k a0 a1 (decide (a1 > 6)))) = some r := h
  clear h
  have HC3 := Aside0.mk H
  clear H
  go_enter Tryd.func8, Tryd.ntmps8
  go_upto_region 1 with (fail)
  go_cut [12] (fun v12 wc => ∃ (kq : Nat) (x12_2 : Bool), v12 = .bool x12_2 ∧ Aside0 (spec_Told.j0 kq a0 a1 x12_2 = some r) ∧ Aside0 (kq ≤ k) ∧ Aside0 (Below w.heap.size w wc))
  case first =>
    have H := HC3.out
    clear HC3
    by_cases c4 : a1 < 0
    · rw [if_pos c4] at H
      have c4b0 : decide (a1 < 0) = true := decide_eq_true c4
      clear c4
      (first | rw [c4b0] | (simp only [i64_w, i32_w]; rw [c4b0]) | skip)
      have H' := Aside0.mk H
      clear H
      go_wp2
      go_meet
      case rel => exact ⟨_, (true), (by first | rfl | (simp; done) | (simp [*]; done)), H', ⟨by first | omega | exact Nat.le_refl _⟩, ⟨by repeat (first | (with_reducible first | exact HB.out | apply below_alloc | apply pw_below_drewN | apply below_drew1) | exact HB.out)⟩⟩
    · rw [if_neg c4] at H
      have c4b0 : decide (a1 < 0) = false := decide_eq_false c4
      clear c4
      (first | rw [c4b0] | (simp only [i64_w, i32_w]; rw [c4b0]) | skip)
      have H' := Aside0.mk H
      clear H
      go_wp2
      go_meet
      case rel => exact ⟨_, (decide (a1 > 6)), (by first | rfl | (simp; done) | (simp [*]; done)), H', ⟨by first | omega | exact Nat.le_refl _⟩, ⟨by repeat (first | (with_reducible first | exact HB.out | apply below_alloc | apply pw_below_drewN | apply below_drew1) | exact HB.out)⟩⟩
  case rest =>
    clear HC3
    try clear p2
    try clear c4
    try clear c4b0
    obtain ⟨kq, x12_2, rfl, HA, HJ2, HB⟩ := hcut
    cases kq with
    | zero => exact absurd HA.out (by simp [spec_Told.j0])
    | succ kj2 =>
      have H := HA.out
      clear HA
      simp only [spec_Told.j0] at H
      by_cases c5 : x12_2 = true
      · subst c5
        have H1 : (some (⟨#[]⟩ : ByteArray)) = some r := by rw [if_pos rfl] at H; exact H
        clear H
        have H := H1
        clear H1
        obtain rfl := Option.some.inj H
        go_wp2
        go_ret
        exact ⟨by first | rfl | (simp [errW_none, errW_some] <;> rfl) | (simp [*, errW_none, errW_some] <;> rfl), by repeat (first | (with_reducible first | exact HB.out | apply below_alloc | apply pw_below_drewN | apply below_drew1) | exact HB.out)⟩
      · replace c5 := Bool.eq_false_iff.mpr c5
        subst c5
        have H1 : (if (fne a0 a0) = true then (some (⟨#[47]⟩ : ByteArray)) else ((spec_Known.f a0).bind fun t106 => (if t106 = true then (spec_Told.j1 kj2 a0 a1 false) else (spec_Told.j1 kj2 a0 a1 (fgt a0 0))))) = some r := by rw [if_neg (show ¬ (false = true) by decide)] at H; exact H
        clear H
        have H := H1
        clear H1
        by_cases c6 : (fne a0 a0) = true
        · rw [if_pos c6] at H
          have c6b0 : (fne a0 a0) = true := c6
          clear c6
          obtain rfl := Option.some.inj H
          go_wp2
          go_ret
          exact ⟨by first | rfl | (simp [errW_none, errW_some] <;> rfl) | (simp [*, errW_none, errW_some] <;> rfl), by repeat (first | (with_reducible first | exact HB.out | apply below_alloc | apply pw_below_drewN | apply below_drew1) | exact HB.out)⟩
        · rw [if_neg c6] at H
          have c6b0 : (fne a0 a0) = false := by simpa using c6
          clear c6
          have HC7 := Aside0.mk H
          clear H
          go_upto_region 5 with (fail)
          go_cut [22] (fun v22 wc => ∃ (kq : Nat) (x22_6 : Bool), v22 = .bool x22_6 ∧ Aside0 (spec_Told.j1 kq a0 a1 x22_6 = some r) ∧ Aside0 (kq ≤ kj2) ∧ Aside0 (Below w.heap.size w wc))
          case first =>
            have H := HC7.out
            clear HC7
            replace H := Option.bind_eq_some_iff.mp H
            obtain ⟨t106, A80, H⟩ := H
            replace H : (if t106 = true then (spec_Told.j1 kj2 a0 a1 false) else (spec_Told.j1 kj2 a0 a1 (fgt a0 0))) = some r := H
            have A8 := Aside0.mk A80
            clear A80
            by_cases c9 : t106 = true
            · subst c9
              have H1 : (spec_Told.j1 kj2 a0 a1 false) = some r := by rw [if_pos rfl] at H; exact H
              clear H
              have H := H1
              clear H1
              have H' := Aside0.mk H
              clear H
              go_wp2_with (first | ((with_reducible refine gate_callee (f := 24) rfl ?_); refine goesL_ (some 17) rfl rfl Tryd.func24 (by kernel_rfl) rfl #[.float .f64 a0] rfl (by (try simp only [List.map_toArray, List.map_cons, List.map_nil]); first | done | rfl | (simp only [List.length_drop, List.length_take]; rfl)) ?_; (with_reducible refine (spec_Known.calls a0 true _ A8.out).mono ?_); rintro e w' ⟨rfl, ⟨nd, rfl⟩⟩; refine ⟨_, rfl, ?_⟩))
              go_meet
              case rel => exact ⟨_, (false), (by first | rfl | (simp; done) | (simp [*]; done)), H', ⟨by have := HJ2.out; first | omega | exact Nat.le_refl _⟩, ⟨by repeat (first | (with_reducible first | exact HB.out | apply below_alloc | apply pw_below_drewN | apply below_drew1) | exact HB.out)⟩⟩
            · replace c9 := Bool.eq_false_iff.mpr c9
              subst c9
              have H1 : (spec_Told.j1 kj2 a0 a1 (fgt a0 0)) = some r := by rw [if_neg (show ¬ (false = true) by decide)] at H; exact H
              clear H
              have H := H1
              clear H1
              have H' := Aside0.mk H
              clear H
              go_wp2_with (first | ((with_reducible refine gate_callee (f := 24) rfl ?_); refine goesL_ (some 17) rfl rfl Tryd.func24 (by kernel_rfl) rfl #[.float .f64 a0] rfl (by (try simp only [List.map_toArray, List.map_cons, List.map_nil]); first | done | rfl | (simp only [List.length_drop, List.length_take]; rfl)) ?_; (with_reducible refine (spec_Known.calls a0 false _ A8.out).mono ?_); rintro e w' ⟨rfl, ⟨nd, rfl⟩⟩; refine ⟨_, rfl, ?_⟩))
              go_meet
              case rel => exact ⟨_, ((fgt a0 0)), (by first | rfl | (simp; done) | (simp [*]; done)), H', ⟨by have := HJ2.out; first | omega | exact Nat.le_refl _⟩, ⟨by repeat (first | (with_reducible first | exact HB.out | apply below_alloc | apply pw_below_drewN | apply below_drew1) | exact HB.out)⟩⟩
          case rest =>
            clear HC7
            try clear c2
            try clear p2
            try clear c4
            try clear c4b0
            try clear c5
            try clear c6
            try clear c6b0
            try clear c8
            try clear c9
            try clear p2
            obtain ⟨kq, x22_6, rfl, HA, HJ6, HB⟩ := hcut
            cases kq with
            | zero => exact absurd HA.out (by simp [spec_Told.j1])
            | succ kj6 =>
              have H := HA.out
              clear HA
              simp only [spec_Told.j1] at H
              by_cases c10 : x22_6 = true
              · subst c10
                have H1 : (some (⟨#[104, 105, 103, 104]⟩ : ByteArray)) = some r := by rw [if_pos rfl] at H; exact H
                clear H
                have H := H1
                clear H1
                obtain rfl := Option.some.inj H
                go_wp2
                go_ret
                exact ⟨by first | rfl | (simp [errW_none, errW_some] <;> rfl) | (simp [*, errW_none, errW_some] <;> rfl), by repeat (first | (with_reducible first | exact HB.out | apply below_alloc | apply pw_below_drewN | apply below_drew1) | exact HB.out)⟩
              · replace c10 := Bool.eq_false_iff.mpr c10
                subst c10
                have H1 : ((spec_Known.f a0).bind fun t107 => (if t107 = true then ((spec_l1Ten.f kj6 a1).bind fun t108 => (if fok .mul a0 (fofi t108) = true then ((spec_Nearest.f (fop .mul a0 (fofi t108))).bind fun bt109 => (if bt109.2 = true then ((spec_l1Point.f kj6 bt109.1 a1).bind fun t111 => (some t111)) else (some (⟨#[102, 97, 114]⟩ : ByteArray)))) else (none))) else (some (⟨#[108, 111, 119]⟩ : ByteArray)))) = some r := by rw [if_neg (show ¬ (false = true) by decide)] at H; exact H
                clear H
                have H := H1
                clear H1
                replace H := Option.bind_eq_some_iff.mp H
                obtain ⟨t107, A110, H⟩ := H
                replace H : (if t107 = true then ((spec_l1Ten.f kj6 a1).bind fun t108 => (if fok .mul a0 (fofi t108) = true then ((spec_Nearest.f (fop .mul a0 (fofi t108))).bind fun bt109 => (if bt109.2 = true then ((spec_l1Point.f kj6 bt109.1 a1).bind fun t111 => (some t111)) else (some (⟨#[102, 97, 114]⟩ : ByteArray)))) else (none))) else (some (⟨#[108, 111, 119]⟩ : ByteArray))) = some r := H
                have A11 := Aside0.mk A110
                clear A110
                by_cases c12 : t107 = true
                · subst c12
                  have H1 : ((spec_l1Ten.f kj6 a1).bind fun t108 => (if fok .mul a0 (fofi t108) = true then ((spec_Nearest.f (fop .mul a0 (fofi t108))).bind fun bt109 => (if bt109.2 = true then ((spec_l1Point.f kj6 bt109.1 a1).bind fun t111 => (some t111)) else (some (⟨#[102, 97, 114]⟩ : ByteArray)))) else (none))) = some r := by rw [if_pos rfl] at H; exact H
                  clear H
                  have H := H1
                  clear H1
                  replace H := Option.bind_eq_some_iff.mp H
                  obtain ⟨t108, A130, H⟩ := H
                  replace H : (if fok .mul a0 (fofi t108) = true then ((spec_Nearest.f (fop .mul a0 (fofi t108))).bind fun bt109 => (if bt109.2 = true then ((spec_l1Point.f kj6 bt109.1 a1).bind fun t111 => (some t111)) else (some (⟨#[102, 97, 114]⟩ : ByteArray)))) else (none)) = some r := H
                  have A13 := Aside0.mk A130
                  clear A130
                  by_cases c14 : fok .mul a0 (fofi t108) = true
                  · rw [if_pos c14] at H
                    have c14b0 := eq_true c14
                    have c14b1 : decide (fok .mul a0 (fofi t108) = true) = true := decide_eq_true c14
                    clear c14
                    replace H := Option.bind_eq_some_iff.mp H
                    obtain ⟨⟨t109, t110⟩, A150, H⟩ := H
                    replace H : (if t110 = true then ((spec_l1Point.f kj6 t109 a1).bind fun t111 => (some t111)) else (some (⟨#[102, 97, 114]⟩ : ByteArray))) = some r := H
                    have A15 := Aside0.mk A150
                    clear A150
                    by_cases c16 : t110 = true
                    · subst c16
                      have H1 : ((spec_l1Point.f kj6 t109 a1).bind fun t111 => (some t111)) = some r := by rw [if_pos rfl] at H; exact H
                      clear H
                      have H := H1
                      clear H1
                      replace H := Option.bind_eq_some_iff.mp H
                      obtain ⟨t111, A170, H⟩ := H
                      replace H : (some t111) = some r := H
                      have A17 := Aside0.mk A170
                      clear A170
                      obtain rfl := Option.some.inj H
                      go_wp2_with (first | ((with_reducible refine gate_callee (f := 24) rfl ?_); refine goesL_ (some 24) rfl rfl Tryd.func24 (by kernel_rfl) rfl #[.float .f64 a0] rfl (by (try simp only [List.map_toArray, List.map_cons, List.map_nil]); first | done | rfl | (simp only [List.length_drop, List.length_take]; rfl)) ?_; (with_reducible refine (spec_Known.calls a0 true _ A11.out).mono ?_); rintro e w' ⟨rfl, ⟨nd, rfl⟩⟩; refine ⟨_, rfl, ?_⟩) | ((with_reducible refine gate_callee (f := 26) rfl ?_); refine goesL_ (some 29) rfl rfl Tryd.func26 (by kernel_rfl) rfl #[.int .i64 a1] rfl (by (try simp only [List.map_toArray, List.map_cons, List.map_nil]); first | done | rfl | (simp only [List.length_drop, List.length_take]; rfl)) ?_; (with_reducible refine (spec_l1Ten.calls kj6 a1 t108 _ A13.out).mono ?_); rintro e w' ⟨rfl, ⟨nd, rfl⟩⟩; refine ⟨_, rfl, ?_⟩) | ((with_reducible refine gate_callee (f := 25) rfl ?_); refine goesL_ (some 32) rfl rfl Tryd.func25 (by kernel_rfl) rfl #[.float .f64 (fop .mul a0 (fofi t108))] rfl (by (try simp only [List.map_toArray, List.map_cons, List.map_nil]); first | done | rfl | (simp only [List.length_drop, List.length_take]; rfl)) ?_; (with_reducible refine (spec_Nearest.calls (fop .mul a0 (fofi t108)) t109 true _ A15.out).mono ?_); rintro e w' ⟨rfl, ⟨nd, rfl⟩⟩; refine ⟨_, rfl, ?_⟩) | ((with_reducible refine gate_callee (f := 27) rfl ?_); refine goesL_ (some 39) rfl rfl Tryd.func27 (by kernel_rfl) rfl #[.int .i64 t109, .int .i64 a1] rfl (by (try simp only [List.map_toArray, List.map_cons, List.map_nil]); first | done | rfl | (simp only [List.length_drop, List.length_take]; rfl)) ?_; (with_reducible refine (spec_l1Point.calls kj6 t109 a1 t111 _ A17.out).mono ?_); rintro e w18 ⟨rfl, hb⟩; refine ⟨_, rfl, ?_⟩; have n0_ := Aside0.mk (below_step (by repeat (first | (with_reducible first | exact HB.out | apply below_alloc | apply pw_below_drewN | apply below_drew1) | exact HB.out)) hb); clear HB; have HB := n0_; clear n0_; (try clear hb); (try clear hb2); (try clear hk); (try clear hi)))
                      go_ret
                      exact ⟨by first | rfl | (simp [errW_none, errW_some] <;> rfl) | (simp [*, errW_none, errW_some] <;> rfl), by repeat (first | (with_reducible first | exact HB.out | apply below_alloc | apply pw_below_drewN | apply below_drew1) | exact HB.out)⟩
                    · replace c16 := Bool.eq_false_iff.mpr c16
                      subst c16
                      have H1 : (some (⟨#[102, 97, 114]⟩ : ByteArray)) = some r := by rw [if_neg (show ¬ (false = true) by decide)] at H; exact H
                      clear H
                      have H := H1
                      clear H1
                      obtain rfl := Option.some.inj H
                      go_wp2_with (first | ((with_reducible refine gate_callee (f := 24) rfl ?_); refine goesL_ (some 24) rfl rfl Tryd.func24 (by kernel_rfl) rfl #[.float .f64 a0] rfl (by (try simp only [List.map_toArray, List.map_cons, List.map_nil]); first | done | rfl | (simp only [List.length_drop, List.length_take]; rfl)) ?_; (with_reducible refine (spec_Known.calls a0 true _ A11.out).mono ?_); rintro e w' ⟨rfl, ⟨nd, rfl⟩⟩; refine ⟨_, rfl, ?_⟩) | ((with_reducible refine gate_callee (f := 26) rfl ?_); refine goesL_ (some 29) rfl rfl Tryd.func26 (by kernel_rfl) rfl #[.int .i64 a1] rfl (by (try simp only [List.map_toArray, List.map_cons, List.map_nil]); first | done | rfl | (simp only [List.length_drop, List.length_take]; rfl)) ?_; (with_reducible refine (spec_l1Ten.calls kj6 a1 t108 _ A13.out).mono ?_); rintro e w' ⟨rfl, ⟨nd, rfl⟩⟩; refine ⟨_, rfl, ?_⟩) | ((with_reducible refine gate_callee (f := 25) rfl ?_); refine goesL_ (some 32) rfl rfl Tryd.func25 (by kernel_rfl) rfl #[.float .f64 (fop .mul a0 (fofi t108))] rfl (by (try simp only [List.map_toArray, List.map_cons, List.map_nil]); first | done | rfl | (simp only [List.length_drop, List.length_take]; rfl)) ?_; (with_reducible refine (spec_Nearest.calls (fop .mul a0 (fofi t108)) t109 false _ A15.out).mono ?_); rintro e w' ⟨rfl, ⟨nd, rfl⟩⟩; refine ⟨_, rfl, ?_⟩))
                      go_ret
                      exact ⟨by first | rfl | (simp [errW_none, errW_some] <;> rfl) | (simp [*, errW_none, errW_some] <;> rfl), by repeat (first | (with_reducible first | exact HB.out | apply below_alloc | apply pw_below_drewN | apply below_drew1) | exact HB.out)⟩
                  · rw [if_neg c14] at H
                    exact absurd H (by simp)
                · replace c12 := Bool.eq_false_iff.mpr c12
                  subst c12
                  have H1 : (some (⟨#[108, 111, 119]⟩ : ByteArray)) = some r := by rw [if_neg (show ¬ (false = true) by decide)] at H; exact H
                  clear H
                  have H := H1
                  clear H1
                  obtain rfl := Option.some.inj H
                  go_wp2_with (first | ((with_reducible refine gate_callee (f := 24) rfl ?_); refine goesL_ (some 24) rfl rfl Tryd.func24 (by kernel_rfl) rfl #[.float .f64 a0] rfl (by (try simp only [List.map_toArray, List.map_cons, List.map_nil]); first | done | rfl | (simp only [List.length_drop, List.length_take]; rfl)) ?_; (with_reducible refine (spec_Known.calls a0 false _ A11.out).mono ?_); rintro e w' ⟨rfl, ⟨nd, rfl⟩⟩; refine ⟨_, rfl, ?_⟩))
                  go_ret
                  exact ⟨by first | rfl | (simp [errW_none, errW_some] <;> rfl) | (simp [*, errW_none, errW_some] <;> rfl), by repeat (first | (with_reducible first | exact HB.out | apply below_alloc | apply pw_below_drewN | apply below_drew1) | exact HB.out)⟩

/-! ### impl_in: function 28 -/
def impl_in.f (a0 : Int) (a1 : Int) (a2 : Int) : Option (Bool) := if a0 ≥ a1 then (some (decide (a0 ≤ a2))) else (some false)
set_option maxHeartbeats 8000000 in
set_option maxRecDepth 100000 in
theorem impl_in.calls (a0 : Int) (a1 : Int) (a2 : Int) (r : Bool) (w : World) (h : impl_in.f a0 a1 a2 = some r) :
    Calls Tryd.prog 28 #[.int .i64 a0, .int .i64 a1, .int .i64 a2] w fun e w' => e = .returned (.bool r) ∧ Drawn0 w w' := by
  have H : (if a0 ≥ a1 then (some (decide (a0 ≤ a2))) else (some false)) = some r := h
  clear h
  by_cases c4 : a0 ≥ a1
  · rw [if_pos c4] at H
    have c4b0 : decide (a1 ≤ a0) = true := decide_eq_true c4
    clear c4
    obtain rfl := Option.some.inj H
    go_enter Tryd.func28, Tryd.ntmps28
    go_wp2
    go_ret
    exact ⟨by first | rfl | (simp; done) | (simp [*]; done), by repeat (first | exact Drawn0.refl _ | apply Drawn0.step)⟩
  · rw [if_neg c4] at H
    have c4b0 : decide (a1 ≤ a0) = false := decide_eq_false c4
    clear c4
    obtain rfl := Option.some.inj H
    go_enter Tryd.func28, Tryd.ntmps28
    go_wp2
    go_ret
    exact ⟨by first | rfl | (simp; done) | (simp [*]; done), by repeat (first | exact Drawn0.refl _ | apply Drawn0.step)⟩

/-! ### impl_missing: function 29 -/
def impl_missing.f (a0 : Nat) : Option (Bool) := some (fne a0 a0)
set_option maxHeartbeats 8000000 in
set_option maxRecDepth 100000 in
theorem impl_missing.calls (a0 : Nat) (r : Bool) (w : World) (h : impl_missing.f a0 = some r) :
    Calls Tryd.prog 29 #[.float .f64 a0] w fun e w' => e = .returned (.bool r) ∧ Drawn0 w w' := by
  have H : (some (fne a0 a0)) = some r := h
  clear h
  obtain rfl := Option.some.inj H
  go_enter Tryd.func29, Tryd.ntmps29
  go_wp2
  go_ret
  exact ⟨by first | rfl | (simp; done) | (simp [*]; done), by repeat (first | exact Drawn0.refl _ | apply Drawn0.step)⟩

-- NOT PRINTED: function 85 (math_Float64frombits)

-- NOT PRINTED: function 108 (math_Float64bits)

/-! ### math_Abs: function 79 (given by hand) -/
theorem abs_bits_run (x : Nat) (w : World) : (callFunc 108 #[.float .f64 x]).run Tryd.prog w = .ok (.value (.int .u64 x)) w := by
  rw [run_callFunc_extern (e := Extern.MathFloatBits.float64bits) Tryd.func108 (by kernel_rfl) (by kernel_rfl) (by kernel_rfl) (by kernel_rfl)]; rfl
theorem abs_frombits_run (x : Int) (w : World) : (callFunc 85 #[.int .u64 x]).run Tryd.prog w = .ok (.value (.float .f64 x.toNat)) w := by
  rw [run_callFunc_extern (e := Extern.MathFloatBits.float64frombits) Tryd.func85 (by kernel_rfl) (by kernel_rfl) (by kernel_rfl) (by kernel_rfl)]; rfl
def math_Abs.f (a0 : Nat) : Option (Nat) := some (F64.fabs a0)
theorem math_Abs.calls (a0 : Nat) (r : Nat) (w : World) (h : math_Abs.f a0 = some r) :
    Calls Tryd.prog 79 #[.float .f64 a0] w fun e w' => e = .returned (.float .f64 r) ∧ Drawn0 w w' := by
  obtain rfl := Option.some.inj h
  clear h
  have h1 := fun x w => abs_bits_run x w
  have h2 := fun x w => abs_frombits_run x w
  have h3 := Aside0.mk (F64.bits_abs a0)
  go_enter Tryd.func79, Tryd.ntmps79
  go_wp2
  go_ret
  exact ⟨by rw [← h3.out]; rfl, Drawn0.refl _⟩

/-! ### math_IsInf: function 30 -/
def math_IsInf.f (a0 : Nat) (a1 : Int) : Option (Bool) := if a1 = 0 then ((math_Abs.f a0).bind fun t112 => (some (fgt t112 9218868437227405311))) else (if a1 < 0 then (some (fgt (fneg a0) 9218868437227405311)) else (some (fgt a0 9218868437227405311)))
set_option maxHeartbeats 8000000 in
set_option maxRecDepth 100000 in
theorem math_IsInf.calls (a0 : Nat) (a1 : Int) (r : Bool) (w : World) (h : math_IsInf.f a0 a1 = some r) :
    Calls Tryd.prog 30 #[.float .f64 a0, .int .i64 a1] w fun e w' => e = .returned (.bool r) ∧ Drawn0 w w' := by
  have H : (if a1 = 0 then ((math_Abs.f a0).bind fun t112 => (some (fgt t112 9218868437227405311))) else (if a1 < 0 then (some (fgt (fneg a0) 9218868437227405311)) else (some (fgt a0 9218868437227405311)))) = some r := h
  clear h
  by_cases c3 : a1 = 0
  · rw [if_pos c3] at H
    have c3b0 : (a1 == 0) = true := beq_iff_eq.mpr c3
    have c3b1 : (a1 != 0) = false := bne_eq_false_iff_eq.mpr c3
    clear c3
    replace H := Option.bind_eq_some_iff.mp H
    obtain ⟨t112, A40, H⟩ := H
    replace H : (some (fgt t112 9218868437227405311)) = some r := H
    have A4 := Aside0.mk A40
    clear A40
    obtain rfl := Option.some.inj H
    go_enter Tryd.func30, Tryd.ntmps30
    go_wp2_with (first | ((with_reducible refine gate_callee (f := 79) rfl ?_); refine goesL_ (some 8) rfl rfl Tryd.func79 (by kernel_rfl) rfl #[.float .f64 a0] rfl (by (try simp only [List.map_toArray, List.map_cons, List.map_nil]); first | done | rfl | (simp only [List.length_drop, List.length_take]; rfl)) ?_; (with_reducible refine (math_Abs.calls a0 t112 _ A4.out).mono ?_); rintro e w' ⟨rfl, ⟨nd, rfl⟩⟩; refine ⟨_, rfl, ?_⟩))
    go_ret
    exact ⟨by first | rfl | (simp; done) | (simp [*]; done), by repeat (first | exact Drawn0.refl _ | apply Drawn0.step)⟩
  · rw [if_neg c3] at H
    have c3b0 : (a1 == 0) = false := beq_eq_false_iff_ne.mpr c3
    have c3b1 : (a1 != 0) = true := bne_iff_ne.mpr c3
    by_cases c5 : a1 < 0
    · rw [if_pos c5] at H
      have c5b0 : decide (a1 < 0) = true := decide_eq_true c5
      clear c5
      obtain rfl := Option.some.inj H
      go_enter Tryd.func30, Tryd.ntmps30
      go_wp2
      go_ret
      exact ⟨by first | rfl | (simp; done) | (simp [*]; done), by repeat (first | exact Drawn0.refl _ | apply Drawn0.step)⟩
    · rw [if_neg c5] at H
      have c5b0 : decide (a1 < 0) = false := decide_eq_false c5
      clear c5
      obtain rfl := Option.some.inj H
      go_enter Tryd.func30, Tryd.ntmps30
      go_wp2
      go_ret
      exact ⟨by first | rfl | (simp; done) | (simp [*]; done), by repeat (first | exact Drawn0.refl _ | apply Drawn0.step)⟩

/-! ### impl_Known: function 80 -/
def impl_Known.f (a0 : Nat) : Option (Bool) := (impl_missing.f a0).bind fun t113 => (if t113 = true then (some false) else ((math_IsInf.f a0 0).bind fun t114 => (some (!t114))))
set_option maxHeartbeats 8000000 in
set_option maxRecDepth 100000 in
theorem impl_Known.calls (a0 : Nat) (r : Bool) (w : World) (h : impl_Known.f a0 = some r) :
    Calls Tryd.prog 80 #[.float .f64 a0] w fun e w' => e = .returned (.bool r) ∧ Drawn0 w w' := by
  have H : ((impl_missing.f a0).bind fun t113 => (if t113 = true then (some false) else ((math_IsInf.f a0 0).bind fun t114 => (some (!t114))))) = some r := h
  clear h
  replace H := Option.bind_eq_some_iff.mp H
  obtain ⟨t113, A20, H⟩ := H
  replace H : (if t113 = true then (some false) else ((math_IsInf.f a0 0).bind fun t114 => (some (!t114)))) = some r := H
  have A2 := Aside0.mk A20
  clear A20
  by_cases c3 : t113 = true
  · subst c3
    have H1 : (some false) = some r := by rw [if_pos rfl] at H; exact H
    clear H
    have H := H1
    clear H1
    obtain rfl := Option.some.inj H
    go_enter Tryd.func80, Tryd.ntmps80
    go_wp2_with (first | ((with_reducible refine gate_callee (f := 29) rfl ?_); refine goesL_ (some 4) rfl rfl Tryd.func29 (by kernel_rfl) rfl #[.float .f64 a0] rfl (by (try simp only [List.map_toArray, List.map_cons, List.map_nil]); first | done | rfl | (simp only [List.length_drop, List.length_take]; rfl)) ?_; (with_reducible refine (impl_missing.calls a0 true _ A2.out).mono ?_); rintro e w' ⟨rfl, ⟨nd, rfl⟩⟩; refine ⟨_, rfl, ?_⟩))
    go_ret
    exact ⟨by first | rfl | (simp; done) | (simp [*]; done), by repeat (first | exact Drawn0.refl _ | apply Drawn0.step)⟩
  · replace c3 := Bool.eq_false_iff.mpr c3
    subst c3
    have H1 : ((math_IsInf.f a0 0).bind fun t114 => (some (!t114))) = some r := by rw [if_neg (show ¬ (false = true) by decide)] at H; exact H
    clear H
    have H := H1
    clear H1
    replace H := Option.bind_eq_some_iff.mp H
    obtain ⟨t114, A40, H⟩ := H
    replace H : (some (!t114)) = some r := H
    have A4 := Aside0.mk A40
    clear A40
    obtain rfl := Option.some.inj H
    go_enter Tryd.func80, Tryd.ntmps80
    go_wp2_with (first | ((with_reducible refine gate_callee (f := 29) rfl ?_); refine goesL_ (some 4) rfl rfl Tryd.func29 (by kernel_rfl) rfl #[.float .f64 a0] rfl (by (try simp only [List.map_toArray, List.map_cons, List.map_nil]); first | done | rfl | (simp only [List.length_drop, List.length_take]; rfl)) ?_; (with_reducible refine (impl_missing.calls a0 false _ A2.out).mono ?_); rintro e w' ⟨rfl, ⟨nd, rfl⟩⟩; refine ⟨_, rfl, ?_⟩) | (go_at_call 30; (with_reducible refine (math_IsInf.calls a0 0 t114 _ A4.out).mono ?_); rintro e w' ⟨rfl, ⟨nd, rfl⟩⟩))
    go_ret
    exact ⟨by first | rfl | (simp; done) | (simp [*]; done), by repeat (first | exact Drawn0.refl _ | apply Drawn0.step)⟩

-- NOT PRINTED: function 81 (math_RoundToEven)

/-! ### impl_Nearest: function 31 (given by hand) -/
/-- To the nearest whole number, of two the even one: the model's own words. -/
def fround (x : Nat) : Nat := FloatKind.f64.encode ((FloatKind.f64.decode x).integral .even)
theorem fround_run (x : Nat) (hx : F64.Fin x) (w : World) : (callFunc 81 #[.float .f64 x]).run Tryd.prog w = .ok (.value (.float .f64 (fround x))) w := by
  rw [run_callFunc_extern (e := Extern.MathFloor.toIntegral "math.RoundToEven" .even) Tryd.func81 (by kernel_rfl) (by kernel_rfl) (by kernel_rfl) (by kernel_rfl)]
  obtain ⟨m, e, h1, _, _⟩ := F64.read_fin hx
  have h : FloatKind.f64.decode x = .number (F64.sgn x) m e := h1
  have key : ∀ d : Ieee.Datum, d = FloatKind.f64.decode x → (∀ s t, d ≠ .nan s t) → (Extern.MathFloor.toIntegral "math.RoundToEven" .even #[.float .f64 x]) = pure (.float .f64 (FloatKind.f64.encode (d.integral .even))) := by
    intro d hd hn
    have e : (Extern.MathFloor.toIntegral "math.RoundToEven" .even #[.float .f64 x]) = (match FloatKind.f64.decode x with
      | .nan s t => if FloatKind.f64.format.quiet t = t then pure (.float .f64 x) else do
        let kept ← choose (.extern "math.Floor,Ceil,Trunc,RoundToEven.signallingNaN kept" 2)
        pure (.float .f64 (if kept == 1 then x else FloatKind.f64.encode (.nan s (FloatKind.f64.format.quiet t))))
      | d => pure (.float .f64 (FloatKind.f64.encode (d.integral .even)))) := rfl
    rw [e, ← hd]
    cases d with
    | nan s t => exact absurd rfl (hn s t)
    | number s m e => rfl
    | infinity s => rfl
  have hk := key _ rfl (fun s t hh => by rw [h] at hh; cases hh)
  rw [hk]; rfl
theorem impl_Known_eq (x : Nat) : impl_Known.f x = some (F64.ffin x) := by
  have hmax : ¬ F64.IsNaN 9218868437227405311 := by decide
  have kmax : F64.key 9218868437227405311 = 9218868437227405311 := by decide
  have nf : ∀ {y : Nat}, ¬ F64.IsNaN y → ¬ F64.IsNaN (F64.fabs y) := fun {y} h => by unfold F64.IsNaN at *; rwa [F64.rung_fabs]
  unfold impl_Known.f impl_missing.f math_IsInf.f math_Abs.f
  simp only [Option.bind_some, if_true]
  by_cases h : F64.IsNaN x
  · rw [F64.fne_nan (.inl h), if_pos rfl]
    unfold F64.ffin
    rw [decide_eq_false (fun hf => F64.fin_notNaN hf h)]
  · rw [F64.fne_key h h, decide_eq_true rfl, if_neg (by decide), F64.fgt_key (nf h) hmax, kmax, F64.key_fabs]
    have e : F64.ffin x = decide (F64.rung x < 9218868437227405312) := decide_eq_decide.2 Iff.rfl
    rw [e]
    congr 1
    by_cases hr : F64.rung x < 9218868437227405312
    · rw [decide_eq_true hr, decide_eq_false (by omega)]; rfl
    · rw [decide_eq_false hr, decide_eq_true (by omega)]; rfl
def impl_Nearest.f (a0 : Nat) : Option (Int × Bool) :=
  if F64.ffin a0 = true then (if flt a0 14054727237768577024 = true then some (0, false) else if fgt a0 4831355200913801216 = true then some (0, false) else
    if fiok .i64 (fround a0) = true then some (fint .i64 (fround a0), true) else none) else some (0, false)
theorem impl_Nearest.calls (a0 : Nat) (r1 : Int) (r2 : Bool) (w : World) (h : impl_Nearest.f a0 = some (r1, r2)) :
    Calls Tryd.prog 31 #[.float .f64 a0] w fun e w' => e = .returned (.tuple #[.int .i64 r1, .bool r2]) ∧ Drawn0 w w' := by
  have hK := Aside0.mk (impl_Known_eq a0)
  unfold impl_Nearest.f at h
  by_cases hf : F64.ffin a0 = true
  · rw [if_pos hf] at h
    rw [hf] at hK
    have h1 := fun w => fround_run a0 (of_decide_eq_true hf) w
    by_cases c1 : flt a0 14054727237768577024 = true
    · rw [if_pos c1] at h
      simp only [Option.some.injEq, Prod.mk.injEq] at h
      obtain ⟨rfl, rfl⟩ := h
      go_enter Tryd.func31, Tryd.ntmps31
      go_wp2_with (first | (go_at_call 80; refine (impl_Known.calls a0 true _ hK.out).mono ?_; rintro e w' ⟨rfl, ⟨nd, rfl⟩⟩))
      go_ret2
      exact ⟨rfl, by repeat (first | exact Drawn0.refl _ | apply Drawn0.step)⟩
    · rw [if_neg c1] at h
      replace c1 := Bool.eq_false_iff.mpr c1
      by_cases c2 : fgt a0 4831355200913801216 = true
      · rw [if_pos c2] at h
        simp only [Option.some.injEq, Prod.mk.injEq] at h
        obtain ⟨rfl, rfl⟩ := h
        go_enter Tryd.func31, Tryd.ntmps31
        go_wp2_with (first | (go_at_call 80; refine (impl_Known.calls a0 true _ hK.out).mono ?_; rintro e w' ⟨rfl, ⟨nd, rfl⟩⟩))
        go_ret2
        exact ⟨rfl, by repeat (first | exact Drawn0.refl _ | apply Drawn0.step)⟩
      · rw [if_neg c2] at h
        replace c2 := Bool.eq_false_iff.mpr c2
        by_cases c3 : fiok .i64 (fround a0) = true
        · rw [if_pos c3] at h
          simp only [Option.some.injEq, Prod.mk.injEq] at h
          obtain ⟨rfl, rfl⟩ := h
          go_enter Tryd.func31, Tryd.ntmps31
          go_wp2_with (first | (go_at_call 80; refine (impl_Known.calls a0 true _ hK.out).mono ?_; rintro e w' ⟨rfl, ⟨nd, rfl⟩⟩))
          go_ret2
          exact ⟨rfl, by repeat (first | exact Drawn0.refl _ | apply Drawn0.step)⟩
        · rw [if_neg c3] at h; cases h
  · rw [if_neg hf] at h
    replace hf := Bool.eq_false_iff.mpr hf
    rw [hf] at hK
    simp only [Option.some.injEq, Prod.mk.injEq] at h
    obtain ⟨rfl, rfl⟩ := h
    go_enter Tryd.func31, Tryd.ntmps31
    go_wp2_with (first | (go_at_call 80; refine (impl_Known.calls a0 false _ hK.out).mono ?_; rintro e w' ⟨rfl, ⟨nd, rfl⟩⟩))
    go_ret2
    exact ⟨rfl, by repeat (first | exact Drawn0.refl _ | apply Drawn0.step)⟩

/-! ### impl_ten: function 32 -/
def impl_ten.l0 : Nat → Int → Nat → Option (Nat)
  | 0, _, _ => none
  | k + 1, x0, x3 => if x0 > 0 then (if fok .mul x3 4621819117588971520 = true then (impl_ten.l0 k (wrap64 (x0 - 1)) (fop .mul x3 4621819117588971520)) else (none)) else (some x3)
def impl_ten.f (k : Nat) (a0 : Int) : Option (Nat) := impl_ten.l0 k a0 4607182418800017408
theorem impl_ten.mono_l : ∀ k, (∀ y0 y1, LeO (impl_ten.l0 k y0 y1) (impl_ten.l0 (k + 1) y0 y1))
  | 0 => fun _ _ r h => by simp [impl_ten.l0] at h
  | k + 1 => by
    have ih0 := impl_ten.mono_l k
    · intro y0 y1
      unfold impl_ten.l0
      repeat' first
      | (with_reducible exact ih0 _ _)
      | (with_reducible exact LeO.refl _)
      | (with_reducible exact LeO.none _)
      | (with_reducible refine LeO.ite ?_ ?_)
      | (with_reducible refine LeO.bind ?_ (fun _ => ?_))
      | exact ih0 _ _
      | exact LeO.none _
      | refine LeO.ite ?_ ?_
      | refine LeO.bind ?_ (fun _ => ?_)
theorem impl_ten.mono : ∀ a0 k, LeO (impl_ten.f k a0) (impl_ten.f (k + 1) a0) := by
  intro a0 k
  have ih0 := impl_ten.mono_l k
  unfold impl_ten.f
  repeat' first
      | (with_reducible exact ih0 _ _)
      | (with_reducible exact LeO.refl _)
      | (with_reducible exact LeO.none _)
      | (with_reducible refine LeO.ite ?_ ?_)
      | (with_reducible refine LeO.bind ?_ (fun _ => ?_))
      | exact ih0 _ _
      | exact LeO.none _
      | refine LeO.ite ?_ ?_
      | refine LeO.bind ?_ (fun _ => ?_)
set_option maxHeartbeats 8000000 in
set_option maxRecDepth 100000 in
theorem impl_ten.calls (k : Nat) (a0 : Int) (r : Nat) (w : World) (h : impl_ten.f k a0 = some r) :
    Calls Tryd.prog 32 #[.int .i64 a0] w fun e w' => e = .returned (.float .f64 r) ∧ Drawn0 w w' := by
  have H : (impl_ten.l0 k a0 4607182418800017408) = some r := h
  clear h
  have H' := Aside0.mk H
  clear H
  go_enter Tryd.func32, Tryd.ntmps32
  go_wp2
  go_loopg [0, 3] k (fun kq v0 v3 w' => ∃ (x0_1 : Int) (x3_1 : Nat), v0 = .int .i64 x0_1 ∧ v3 = .float .f64 x3_1 ∧ Aside0 (impl_ten.l0 kq x0_1 x3_1 = some r) ∧ Aside0 (kq ≤ k) ∧ Drawn0 w w')
  case atStart => exact ⟨(a0), (4607182418800017408), (by first | rfl | (simp; done) | (simp [*]; done)), (by first | rfl | (simp; done) | (simp [*]; done)), H', ⟨Nat.le_refl _⟩, by repeat (first | exact Drawn0.refl _ | apply Drawn0.step)⟩
  case round =>
    clear H'
    obtain ⟨x0_1, x3_1, rfl, rfl, HA, HK1, ⟨m1, rfl⟩⟩ := hrel
    cases gk with
    | zero => exact absurd HA.out (by simp [impl_ten.l0])
    | succ k1 =>
      have H := HA.out
      clear HA
      simp only [impl_ten.l0] at H
      by_cases c2 : x0_1 > 0
      · rw [if_pos c2] at H
        have c2b0 : decide (0 < x0_1) = true := decide_eq_true c2
        clear c2
        by_cases c3 : fok .mul x3_1 4621819117588971520 = true
        · rw [if_pos c3] at H
          have c3b0 := eq_true c3
          have c3b1 : decide (fok .mul x3_1 4621819117588971520 = true) = true := decide_eq_true c3
          clear c3
          have H' := Aside0.mk H
          clear H
          go_wp2
          go_roundg k1
          case measure => have := HK1.out; omega
          case rel => exact ⟨(wrap64 (x0_1 - 1)), (fop .mul x3_1 4621819117588971520), (by first | rfl | (simp; done) | (simp [*]; done)), (by first | rfl | (simp; done) | (simp [*]; done)), H', ⟨by have := HK1.out; omega⟩, by repeat (first | exact Drawn0.refl _ | apply Drawn0.step)⟩
        · rw [if_neg c3] at H
          exact absurd H (by simp)
      · rw [if_neg c2] at H
        have c2b0 : decide (0 < x0_1) = false := decide_eq_false c2
        clear c2
        obtain rfl := Option.some.inj H
        go_wp2
        go_ret
        exact ⟨by first | rfl | (simp; done) | (simp [*]; done), by repeat (first | exact Drawn0.refl _ | apply Drawn0.step)⟩

-- NOT PRINTED: function 131 (strconv_small)

-- NOT PRINTED: function 152 (strconv_log10Pow2)

-- NOT PRINTED: function 153 (bits_Len64)

-- NOT PRINTED: function 154 (strconv_bool2_int)

-- NOT PRINTED: function 132 (strconv_numDigits)

-- NOT PRINTED: function 133 (strconv_formatBase10)

-- NOT PRINTED: function 155 (strconv_isPowerOfTwo)

-- NOT PRINTED: function 162 (bits_TrailingZeros32)

-- NOT PRINTED: function 163 (bits_TrailingZeros64)

-- NOT PRINTED: function 156 (bits_TrailingZeros)

-- NOT PRINTED: function 134 (strconv_formatBits)

-- NOT PRINTED: function 109 (strconv_FormatInt_109)

-- NOT PRINTED: function 82 (strconv_FormatInt_82)

-- NOT PRINTED: function 33 (impl_dec)

-- NOT PRINTED: function 149 (abi_NoEscape)

-- NOT PRINTED: function 127 (strings_Builder_copyCheck)

-- NOT PRINTED: function 150 (bytealg_MakeNoZero)

-- NOT PRINTED: function 128 (strings_Builder_grow)

-- NOT PRINTED: function 104 (strings_Builder_Grow)

-- NOT PRINTED: function 105 (strings_Builder_WriteString)

-- NOT PRINTED: function 106 (strings_Builder_String)

-- NOT PRINTED: function 135 (bits_Mul32)

-- NOT PRINTED: function 136 (bits_Mul64)

-- NOT PRINTED: function 110 (bits_Mul)

-- NOT PRINTED: function 113 (stringslite_HasPrefix)

-- NOT PRINTED: function 111 (strings_HasPrefix)

-- NOT PRINTED: function 112 (strings_Builder_Len)

-- NOT PRINTED: function 83 (strings_Repeat)

-- NOT PRINTED: function 34 (impl_fill)

-- NOT PRINTED: function 9 (impl_Told)

-- NOT PRINTED: function 3 (laws_FnExactTold)

end Go.Proofs.YtigegicbfmjpbaaDoor.PTo
