/- The draws of seat d end with some value, whatever the bytes and whatever NaN is made. Conditions: none. -/
import Derived.Test.YtjgnolohppnbbaaQSg
import Derived.Test.YtjgnolohppnbbaaPSgx8
namespace Go.Proofs.Ytjgnolohppnbbaa.PSg
open Go.Proofs.YtjgnolohppnbbaaW
open Go.RowKit Go.Proofs.YtjgnolohppnbbaaW.PrintWords Go.Proofs.YtjgnolohppnbbaaW.PrintLast Go.Proofs.YtjgnolohppnbbaaW.PrintMore
attribute [local go_sem] max2_int min2_int max_two min_two max_three min_three max_four min_four   -- for this text's walks alone
set_option linter.unusedVariables false
set_option linter.unusedSimpArgs false
open F64
theorem l1None_any (w : World) : Calls Try.prog 48 #[] w fun e w' => ∃ b : Nat, IsNaN b ∧ e = .returned (.float .f64 b) ∧ Drawn0 w w' := by
  go_enter Try.func48, Try.ntmps48
  go_wp2
  obtain ⟨b, hb, _, hr⟩ := run_fop_nan (P := Try.prog) w .quo (.inr (.inr (.inr rfl))) 23 0 0 (by decide +kernel)
  rw [hr]
  go_wp2
  go_ret
  exact ⟨b, nan_of hb, rfl, ⟨⟨1, rfl⟩⟩⟩
def spec_l1Rd_float.f (k : Nat) (s0_0 : List Int) (s0_1 : Int) : Option (Nat × Int) := (spec_l1Rd_below.f s0_0 s0_1 8).bind fun bt268 => (if bt268.1 = 0 then ((spec_l1None.f).bind fun t270 => (some (t270, bt268.2))) else (if bt268.1 = 1 then (if fok .mul 9214871658872686752 4621819117588971520 = true then (if fok .mul (fneg 9214871658872686752) 4621819117588971520 = true then ((some (([0, fneg 0, 4602678819172646912, 13826050856027422720, 4609434218613702656, 4612811918334230528, 13836183955189006336, 4831355200913801216, 4831355200913801224, 14054727237768577024, 1, 9214871658872686752, fop .mul 9214871658872686752 4621819117588971520, fop .mul (fneg 9214871658872686752) 4621819117588971520, 4587366580439587226, 4598175219545276416] : List Nat) : List Nat)).bind fun y271 => ((spec_l1Rd_below.f s0_0 bt268.2 16).bind fun bt274 => (if 0 ≤ bt274.1 then (if bt274.1 < (y271.length : Int) then (some (rdOf 0 y271 bt274.1, bt274.2)) else (none)) else (none)))) else (none)) else (none)) else (if bt268.1 = 2 then ((spec_l1Rd_number.f k s0_0 bt268.2).bind fun bt277 => ((spec_l1Rd_below.f s0_0 bt277.2 1000).bind fun bt279 => (if fok .quo (fofi bt277.1) (fofi (wrap64 (1 + bt279.1))) = true then (some (fop .quo (fofi bt277.1) (fofi (wrap64 (1 + bt279.1))), bt279.2)) else (none)))) else (if bt268.1 = 3 then ((spec_l1Rd_below.f s0_0 bt268.2 1000).bind fun bt281 => (if fok .quo (fofi bt281.1) 4621819117588971520 = true then (some (fneg (fop .quo (fofi bt281.1) 4621819117588971520), bt281.2)) else (none))) else ((spec_l1Rd_below.f s0_0 bt268.2 1000).bind fun bt283 => (if fok .quo (fofi bt283.1) 4621819117588971520 = true then (some (fop .quo (fofi bt283.1) 4621819117588971520, bt283.2)) else (none)))))))
theorem spec_l1Rd_float.mono : ∀ a0 a1 k, LeO (spec_l1Rd_float.f k a0 a1) (spec_l1Rd_float.f (k + 1) a0 a1) := by
  intro a0 a1 k
  unfold spec_l1Rd_float.f
  repeat' first
      | (with_reducible exact spec_l1Rd_number.mono _ _ _)
      | (with_reducible exact LeO.refl _)
      | (with_reducible exact LeO.none _)
      | (with_reducible refine LeO.ite ?_ ?_)
      | (with_reducible refine LeO.bind ?_ (fun _ => ?_))
      | exact spec_l1Rd_number.mono _ _ _
      | exact LeO.none _
      | refine LeO.ite ?_ ?_
      | refine LeO.bind ?_ (fun _ => ?_)
set_option maxHeartbeats 8000000 in
set_option maxRecDepth 100000 in
theorem spec_l1Rd_float.calls (k : Nat) (g : Nat) (s0_0 : List Int) (s0_1 : Int) (r1 : Nat) (r2 : Int) (w0 w : World) (hI : IsS71 w0 w g s0_0 s0_1) (hB : Below w0.heap.size w0 w) (h : spec_l1Rd_float.f k s0_0 s0_1 = some (r1, r2)) :
    Calls Try.prog 34 #[.pointer (some ⟨g, 0, none⟩)] w fun e w' => e = .returned (.float .f64 r1) ∧ IsS71 w0 w' g s0_0 r2 ∧ Below w0.heap.size w0 w' ∧ KeepBut w w' g none := by
  have HI0 := Aside0.mk hI
  have HK := Aside0.mk (KeepBut.refl w g none)
  have HL := Aside0.mk hB.size
  clear hI
  have HW0 := Aside0.mk hB.size
  have HB := Aside0.mk hB
  clear hB
  have H : ((spec_l1Rd_below.f s0_0 s0_1 8).bind fun bt268 => (if bt268.1 = 0 then ((spec_l1None.f).bind fun t270 => (some (t270, bt268.2))) else (if bt268.1 = 1 then (if fok .mul 9214871658872686752 4621819117588971520 = true then (if fok .mul (fneg 9214871658872686752) 4621819117588971520 = true then ((some (([0, fneg 0, 4602678819172646912, 13826050856027422720, 4609434218613702656, 4612811918334230528, 13836183955189006336, 4831355200913801216, 4831355200913801224, 14054727237768577024, 1, 9214871658872686752, fop .mul 9214871658872686752 4621819117588971520, fop .mul (fneg 9214871658872686752) 4621819117588971520, 4587366580439587226, 4598175219545276416] : List Nat) : List Nat)).bind fun y271 => ((spec_l1Rd_below.f s0_0 bt268.2 16).bind fun bt274 => (if 0 ≤ bt274.1 then (if bt274.1 < (y271.length : Int) then (some (rdOf 0 y271 bt274.1, bt274.2)) else (none)) else (none)))) else (none)) else (none)) else (if bt268.1 = 2 then ((spec_l1Rd_number.f k s0_0 bt268.2).bind fun bt277 => ((spec_l1Rd_below.f s0_0 bt277.2 1000).bind fun bt279 => (if fok .quo (fofi bt277.1) (fofi (wrap64 (1 + bt279.1))) = true then (some (fop .quo (fofi bt277.1) (fofi (wrap64 (1 + bt279.1))), bt279.2)) else (none)))) else (if bt268.1 = 3 then ((spec_l1Rd_below.f s0_0 bt268.2 1000).bind fun bt281 => (if fok .quo (fofi bt281.1) 4621819117588971520 = true then (some (fneg (fop .quo (fofi bt281.1) 4621819117588971520), bt281.2)) else (none))) else ((spec_l1Rd_below.f s0_0 bt268.2 1000).bind fun bt283 => (if fok .quo (fofi bt283.1) 4621819117588971520 = true then (some (fop .quo (fofi bt283.1) 4621819117588971520, bt283.2)) else (none)))))))) = some (r1, r2) := h
  clear h
  replace H := Option.bind_eq_some_iff.mp H
  obtain ⟨⟨t268, t269⟩, A20, H⟩ := H
  replace H : (if t268 = 0 then ((spec_l1None.f).bind fun t270 => (some (t270, t269))) else (if t268 = 1 then (if fok .mul 9214871658872686752 4621819117588971520 = true then (if fok .mul (fneg 9214871658872686752) 4621819117588971520 = true then ((some (([0, fneg 0, 4602678819172646912, 13826050856027422720, 4609434218613702656, 4612811918334230528, 13836183955189006336, 4831355200913801216, 4831355200913801224, 14054727237768577024, 1, 9214871658872686752, fop .mul 9214871658872686752 4621819117588971520, fop .mul (fneg 9214871658872686752) 4621819117588971520, 4587366580439587226, 4598175219545276416] : List Nat) : List Nat)).bind fun y271 => ((spec_l1Rd_below.f s0_0 t269 16).bind fun bt274 => (if 0 ≤ bt274.1 then (if bt274.1 < (y271.length : Int) then (some (rdOf 0 y271 bt274.1, bt274.2)) else (none)) else (none)))) else (none)) else (none)) else (if t268 = 2 then ((spec_l1Rd_number.f k s0_0 t269).bind fun bt277 => ((spec_l1Rd_below.f s0_0 bt277.2 1000).bind fun bt279 => (if fok .quo (fofi bt277.1) (fofi (wrap64 (1 + bt279.1))) = true then (some (fop .quo (fofi bt277.1) (fofi (wrap64 (1 + bt279.1))), bt279.2)) else (none)))) else (if t268 = 3 then ((spec_l1Rd_below.f s0_0 t269 1000).bind fun bt281 => (if fok .quo (fofi bt281.1) 4621819117588971520 = true then (some (fneg (fop .quo (fofi bt281.1) 4621819117588971520), bt281.2)) else (none))) else ((spec_l1Rd_below.f s0_0 t269 1000).bind fun bt283 => (if fok .quo (fofi bt283.1) 4621819117588971520 = true then (some (fop .quo (fofi bt283.1) 4621819117588971520, bt283.2)) else (none))))))) = some (r1, r2) := H
  have A2 := Aside0.mk A20
  clear A20
  by_cases c3 : t268 = 0
  · rw [if_pos c3] at H
    have c3b0 : (t268 == 0) = true := beq_iff_eq.mpr c3
    have c3b1 : (t268 != 0) = false := bne_eq_false_iff_eq.mpr c3
    clear c3
    replace H := Option.bind_eq_some_iff.mp H
    obtain ⟨t270, A40, H⟩ := H
    replace H : (some (t270, t269)) = some (r1, r2) := H
    have A4 := Aside0.mk A40
    clear A40
    simp only [Option.some.injEq, Prod.mk.injEq] at H
    obtain ⟨rfl, rfl⟩ := H
    go_enter Try.func34, Try.ntmps34
    go_wp2_with (first | ((with_reducible refine gate_callee (f := 32) rfl ?_); refine goesL_ (some 6) rfl rfl Try.func32 (by kernel_rfl) rfl #[.pointer (some ⟨g, 0, none⟩), .int .i64 8] rfl (by (try simp only [List.map_toArray, List.map_cons, List.map_nil]); first | done | rfl | (simp only [List.length_drop, List.length_take]; rfl)) ?_; (with_reducible refine (spec_l1Rd_below.calls g s0_0 s0_1 8 t268 t269 w0 _ ?side1 ?side2 A2.out).mono ?_); (case side1 => repeat (first | (with_reducible first | exact HI0.out | apply IsS71.alloc | apply IsS71.drewN | apply IsS71.drew | apply IsS71.set_1) | exact HI0.out)); (case side2 => repeat (first | (with_reducible first | exact HB.out | apply below_alloc | apply pw_below_drewN | apply below_drew1 | refine below_set ?_ (IsS71.ge HI0.out)) | exact HB.out)); rintro e w5 ⟨rfl, hi, hb, hk⟩; refine ⟨_, rfl, ?_⟩; have n0_ := Aside0.mk (KeepBut.trans (by repeat (first | (with_reducible first | exact HK.out | apply KeepBut.set_ | apply keep_drewN | apply keep_drew | apply keep_alloc) | exact HK.out)) hk (.inl rfl)); have n1_ := Aside0.mk (hb); have n2_ := Aside0.mk (hi); clear HK; clear HB; clear HI0; have HK := n0_; have HB := n1_; have HI0 := n2_; clear n0_ n1_ n2_; (try clear hb); (try clear hb2); (try clear hk); (try clear hi)) | ((with_reducible refine gate_callee (f := 48) rfl ?_); refine goesL_ (some 9) rfl rfl Try.func48 (by kernel_rfl) rfl #[] rfl (by (try simp only [List.map_toArray, List.map_cons, List.map_nil]); first | done | rfl | (simp only [List.length_drop, List.length_take]; rfl)) ?_; (with_reducible refine (spec_l1None.calls  t270 _ A4.out).mono ?_); rintro e w' ⟨rfl, ⟨nd, rfl⟩⟩; refine ⟨_, rfl, ?_⟩))
    go_ret
    exact ⟨by first | rfl | (simp [errW_none, errW_some] <;> rfl) | (simp [*, errW_none, errW_some] <;> rfl), by repeat (first | (with_reducible first | exact HI0.out | apply IsS71.alloc | apply IsS71.drewN | apply IsS71.drew | apply IsS71.set_1) | exact HI0.out), by repeat (first | (with_reducible first | exact HB.out | apply below_alloc | apply pw_below_drewN | apply below_drew1 | refine below_set ?_ (IsS71.ge HI0.out)) | exact HB.out), by repeat (first | (with_reducible first | exact HK.out | apply KeepBut.set_ | apply keep_drewN | apply keep_drew | apply keep_alloc) | exact HK.out)⟩
  · rw [if_neg c3] at H
    have c3b0 : (t268 == 0) = false := beq_eq_false_iff_ne.mpr c3
    have c3b1 : (t268 != 0) = true := bne_iff_ne.mpr c3
    by_cases c6 : t268 = 1
    · rw [if_pos c6] at H
      have c6b0 : (t268 == 1) = true := beq_iff_eq.mpr c6
      have c6b1 : (t268 != 1) = false := bne_eq_false_iff_eq.mpr c6
      clear c6
      by_cases c7 : fok .mul 9214871658872686752 4621819117588971520 = true
      · rw [if_pos c7] at H
        have c7b0 := eq_true c7
        have c7b1 : decide (fok .mul 9214871658872686752 4621819117588971520 = true) = true := decide_eq_true c7
        clear c7
        by_cases c8 : fok .mul (fneg 9214871658872686752) 4621819117588971520 = true
        · rw [if_pos c8] at H
          have c8b0 := eq_true c8
          have c8b1 : decide (fok .mul (fneg 9214871658872686752) 4621819117588971520 = true) = true := decide_eq_true c8
          clear c8
          obtain ⟨y271, hy271⟩ : ∃ y_ : List Nat, y_ = (([0, fneg 0, 4602678819172646912, 13826050856027422720, 4609434218613702656, 4612811918334230528, 13836183955189006336, 4831355200913801216, 4831355200913801224, 14054727237768577024, 1, 9214871658872686752, fop .mul 9214871658872686752 4621819117588971520, fop .mul (fneg 9214871658872686752) 4621819117588971520, 4587366580439587226, 4598175219545276416] : List Nat)) := ⟨_, rfl⟩
          replace H : ((spec_l1Rd_below.f s0_0 t269 16).bind fun bt274 => (if 0 ≤ bt274.1 then (if bt274.1 < (y271.length : Int) then (some (rdOf 0 y271 bt274.1, bt274.2)) else (none)) else (none))) = some (r1, r2) := by first | (rw [hy271]; with_reducible exact H) | (have H2_ := (Option.bind_some _ _).symm.trans H; rw [hy271]; with_reducible exact H2_) | (have H2_ := (Option.bind_some _ _).symm.trans H; with_reducible exact H2_) | with_reducible exact H | (rw [hy271]; exact H) | exact H
          have Ny271 := Aside0.mk hy271
          clear hy271
          replace H := Option.bind_eq_some_iff.mp H
          obtain ⟨⟨t274, t275⟩, A90, H⟩ := H
          replace H : (if 0 ≤ t274 then (if t274 < (y271.length : Int) then (some (rdOf 0 y271 t274, t275)) else (none)) else (none)) = some (r1, r2) := H
          have A9 := Aside0.mk A90
          clear A90
          by_cases c10 : 0 ≤ t274
          · rw [if_pos c10] at H
            have c10b0 : decide (0 ≤ t274) = true := decide_eq_true c10
            clear c10
            by_cases c11 : t274 < (y271.length : Int)
            · rw [if_pos c11] at H
              have c11b0 : decide (t274 < (y271.length : Int)) = true := decide_eq_true c11
              clear c11
              simp only [Option.some.injEq, Prod.mk.injEq] at H
              obtain ⟨rfl, rfl⟩ := H
              go_enter Try.func34, Try.ntmps34
              go_wp2_with (first | ((with_reducible refine gate_callee (f := 32) rfl ?_); refine goesL_ (some 6) rfl rfl Try.func32 (by kernel_rfl) rfl #[.pointer (some ⟨g, 0, none⟩), .int .i64 8] rfl (by (try simp only [List.map_toArray, List.map_cons, List.map_nil]); first | done | rfl | (simp only [List.length_drop, List.length_take]; rfl)) ?_; (with_reducible refine (spec_l1Rd_below.calls g s0_0 s0_1 8 t268 t269 w0 _ ?side1 ?side2 A2.out).mono ?_); (case side1 => repeat (first | (with_reducible first | exact HI0.out | apply IsS71.alloc | apply IsS71.drewN | apply IsS71.drew | apply IsS71.set_1) | exact HI0.out)); (case side2 => repeat (first | (with_reducible first | exact HB.out | apply below_alloc | apply pw_below_drewN | apply below_drew1 | refine below_set ?_ (IsS71.ge HI0.out)) | exact HB.out)); rintro e w12 ⟨rfl, hi, hb, hk⟩; refine ⟨_, rfl, ?_⟩; have n0_ := Aside0.mk (KeepBut.trans (by repeat (first | (with_reducible first | exact HK.out | apply KeepBut.set_ | apply keep_drewN | apply keep_drew | apply keep_alloc) | exact HK.out)) hk (.inl rfl)); have n1_ := Aside0.mk (hb); have n2_ := Aside0.mk (hi); clear HK; clear HB; clear HI0; have HK := n0_; have HB := n1_; have HI0 := n2_; clear n0_ n1_ n2_; (try clear hb); (try clear hb2); (try clear hk); (try clear hi)) | ((with_reducible refine gate_dst (N := 21) rfl ?_); refine Kd.R_lit Kd.f64 _ 23 ?hg (N := 21) ?hd (xs := ([0, fneg 0, 4602678819172646912, 13826050856027422720, 4609434218613702656, 4612811918334230528, 13836183955189006336, 4831355200913801216, 4831355200913801224, 14054727237768577024, 1, 9214871658872686752, fop .mul 9214871658872686752 4621819117588971520, fop .mul (fneg 9214871658872686752) 4621819117588971520, 4587366580439587226, 4598175219545276416] : List Nat)) (inner := [.float .f64 0, .float .f64 (fneg 0), .float .f64 4602678819172646912, .float .f64 13826050856027422720, .float .f64 4609434218613702656, .float .f64 4612811918334230528, .float .f64 13836183955189006336, .float .f64 4831355200913801216, .float .f64 4831355200913801224, .float .f64 14054727237768577024, .float .f64 1, .float .f64 9214871658872686752, .float .f64 (fop .mul 9214871658872686752 4621819117588971520), .float .f64 (fop .mul (fneg 9214871658872686752) 4621819117588971520), .float .f64 4587366580439587226, .float .f64 4598175219545276416]) (ok := fun _ => True) (okp := fun _ => True) ?hr ?hp (fun _ hk => hk) trivial (Below.refl _ _) (Nat.le_refl _) (by simp) ?_; (case hd => rfl); (case hg => rfl); (case hr => first | (go_simp; done) | (go_simp; rfl)); (case hp => exact (Reps.one (show Kd.M Kd.f64 _ _ _ 0 [.float .f64 0] from rfl) (Reps.one (show Kd.M Kd.f64 _ _ _ (fneg 0) [.float .f64 (fneg 0)] from rfl) (Reps.one (show Kd.M Kd.f64 _ _ _ 4602678819172646912 [.float .f64 4602678819172646912] from rfl) (Reps.one (show Kd.M Kd.f64 _ _ _ 13826050856027422720 [.float .f64 13826050856027422720] from rfl) (Reps.one (show Kd.M Kd.f64 _ _ _ 4609434218613702656 [.float .f64 4609434218613702656] from rfl) (Reps.one (show Kd.M Kd.f64 _ _ _ 4612811918334230528 [.float .f64 4612811918334230528] from rfl) (Reps.one (show Kd.M Kd.f64 _ _ _ 13836183955189006336 [.float .f64 13836183955189006336] from rfl) (Reps.one (show Kd.M Kd.f64 _ _ _ 4831355200913801216 [.float .f64 4831355200913801216] from rfl) (Reps.one (show Kd.M Kd.f64 _ _ _ 4831355200913801224 [.float .f64 4831355200913801224] from rfl) (Reps.one (show Kd.M Kd.f64 _ _ _ 14054727237768577024 [.float .f64 14054727237768577024] from rfl) (Reps.one (show Kd.M Kd.f64 _ _ _ 1 [.float .f64 1] from rfl) (Reps.one (show Kd.M Kd.f64 _ _ _ 9214871658872686752 [.float .f64 9214871658872686752] from rfl) (Reps.one (show Kd.M Kd.f64 _ _ _ (fop .mul 9214871658872686752 4621819117588971520) [.float .f64 (fop .mul 9214871658872686752 4621819117588971520)] from rfl) (Reps.one (show Kd.M Kd.f64 _ _ _ (fop .mul (fneg 9214871658872686752) 4621819117588971520) [.float .f64 (fop .mul (fneg 9214871658872686752) 4621819117588971520)] from rfl) (Reps.one (show Kd.M Kd.f64 _ _ _ 4587366580439587226 [.float .f64 4587366580439587226] from rfl) (Reps.one (show Kd.M Kd.f64 _ _ _ 4598175219545276416 [.float .f64 4598175219545276416] from rfl) (Reps.none _ _)))))))))))))))))); intro v272 w13 ho14 hb hg_ hnew_; clear hg_ hnew_; (first | rw [← Ny271.out] at ho14 | (simp only [Int.reduceToNat] at ho14; rw [← Ny271.out] at ho14)); have n0_ := Aside0.mk (Kd.R_lower ho14 (keep_size (w := w) (g := g) (row := none) (by repeat (first | (with_reducible first | exact HK.out | apply KeepBut.set_ | apply keep_drewN | apply keep_drew | apply keep_alloc) | exact HK.out)))); have n1_ := Aside0.mk (IsS71.below (by repeat (first | (with_reducible first | exact HI0.out | apply IsS71.alloc | apply IsS71.drewN | apply IsS71.drew | apply IsS71.set_1) | exact HI0.out)) hb); have n2_ := Aside0.mk (KeepBut.trans (by repeat (first | (with_reducible first | exact HK.out | apply KeepBut.set_ | apply keep_drewN | apply keep_drew | apply keep_alloc) | exact HK.out)) (KeepBut.of_below hb g none) (.inl rfl)); have n3_ := Aside0.mk (below_step (by repeat (first | (with_reducible first | exact HB.out | apply below_alloc | apply pw_below_drewN | apply below_drew1 | refine below_set ?_ (IsS71.ge HI0.out)) | exact HB.out)) hb); clear HI0; clear HK; clear HB; have HO273 := n0_; have HI0 := n1_; have HK := n2_; have HB := n3_; clear n0_ n1_ n2_ n3_; clear hb ho14) | ((with_reducible refine gate_callee (f := 32) rfl ?_); refine goesL_ (some 23) rfl rfl Try.func32 (by kernel_rfl) rfl #[.pointer (some ⟨g, 0, none⟩), .int .i64 16] rfl (by (try simp only [List.map_toArray, List.map_cons, List.map_nil]); first | done | rfl | (simp only [List.length_drop, List.length_take]; rfl)) ?_; (with_reducible refine (spec_l1Rd_below.calls g s0_0 t269 16 t274 t275 w0 _ ?side1 ?side2 A9.out).mono ?_); (case side1 => repeat (first | (with_reducible first | exact HI0.out | apply IsS71.alloc | apply IsS71.drewN | apply IsS71.drew | apply IsS71.set_1) | exact HI0.out)); (case side2 => repeat (first | (with_reducible first | exact HB.out | apply below_alloc | apply pw_below_drewN | apply below_drew1 | refine below_set ?_ (IsS71.ge HI0.out)) | exact HB.out)); rintro e w15 ⟨rfl, hi, hb, hk⟩; refine ⟨_, rfl, ?_⟩; have n0_ := Aside0.mk (Kd.R_mono (Kd.R_keep (IsS71.apart (show IsS71 w0 _ g s0_0 t269 from by repeat (first | (with_reducible first | exact HI0.out | apply IsS71.alloc | apply IsS71.drewN | apply IsS71.drew | apply IsS71.set_1) | exact HI0.out)) (by (with_reducible repeat (first | apply Kd.R_alloc | apply Kd.R_drewN | apply Kd.R_drew)); exact HO273.out) (by decide)) hk (fun _ h => h.2)) (fun _ h => h.1)); have n1_ := Aside0.mk (KeepBut.trans (by repeat (first | (with_reducible first | exact HK.out | apply KeepBut.set_ | apply keep_drewN | apply keep_drew | apply keep_alloc) | exact HK.out)) hk (.inl rfl)); have n2_ := Aside0.mk (hb); have n3_ := Aside0.mk (hi); clear HO273; clear HK; clear HB; clear HI0; have HO273 := n0_; have HK := n1_; have HB := n2_; have HI0 := n3_; clear n0_ n1_ n2_ n3_; (try clear hb); (try clear hb2); (try clear hk); (try clear hi); obtain ⟨Ao16, co16, eo16⟩ := Kd.R_slice HO273.out; subst eo16; have p276 : 0 ≤ (t274 : Int) := of_decide_eq_true (by first | (with_reducible assumption) | assumption); have q276 : t274 < (y271.length : Int) := of_decide_eq_true (by first | (with_reducible assumption) | assumption); obtain ⟨ad276, e276, hx276_0⟩ := Kd.at_f64 (Kd.R_reads' HO273.out).2.2 t274 p276 q276; cases e276; replace p276 := eq_true p276; replace q276 := eq_true q276))
              go_ret
              exact ⟨by first | rfl | (simp [errW_none, errW_some] <;> rfl) | (simp [*, errW_none, errW_some] <;> rfl), by repeat (first | (with_reducible first | exact HI0.out | apply IsS71.alloc | apply IsS71.drewN | apply IsS71.drew | apply IsS71.set_1) | exact HI0.out), by repeat (first | (with_reducible first | exact HB.out | apply below_alloc | apply pw_below_drewN | apply below_drew1 | refine below_set ?_ (IsS71.ge HI0.out)) | exact HB.out), by repeat (first | (with_reducible first | exact HK.out | apply KeepBut.set_ | apply keep_drewN | apply keep_drew | apply keep_alloc) | exact HK.out)⟩
            · rw [if_neg c11] at H
              exact absurd H (by simp)
          · rw [if_neg c10] at H
            exact absurd H (by simp)
        · rw [if_neg c8] at H
          exact absurd H (by simp)
      · rw [if_neg c7] at H
        exact absurd H (by simp)
    · rw [if_neg c6] at H
      have c6b0 : (t268 == 1) = false := beq_eq_false_iff_ne.mpr c6
      have c6b1 : (t268 != 1) = true := bne_iff_ne.mpr c6
      by_cases c17 : t268 = 2
      · rw [if_pos c17] at H
        have c17b0 : (t268 == 2) = true := beq_iff_eq.mpr c17
        have c17b1 : (t268 != 2) = false := bne_eq_false_iff_eq.mpr c17
        clear c17
        replace H := Option.bind_eq_some_iff.mp H
        obtain ⟨⟨t277, t278⟩, A180, H⟩ := H
        replace H : ((spec_l1Rd_below.f s0_0 t278 1000).bind fun bt279 => (if fok .quo (fofi t277) (fofi (wrap64 (1 + bt279.1))) = true then (some (fop .quo (fofi t277) (fofi (wrap64 (1 + bt279.1))), bt279.2)) else (none))) = some (r1, r2) := H
        have A18 := Aside0.mk A180
        clear A180
        replace H := Option.bind_eq_some_iff.mp H
        obtain ⟨⟨t279, t280⟩, A190, H⟩ := H
        replace H : (if fok .quo (fofi t277) (fofi (wrap64 (1 + t279))) = true then (some (fop .quo (fofi t277) (fofi (wrap64 (1 + t279))), t280)) else (none)) = some (r1, r2) := H
        have A19 := Aside0.mk A190
        clear A190
        by_cases c20 : fok .quo (fofi t277) (fofi (wrap64 (1 + t279))) = true
        · rw [if_pos c20] at H
          have c20b0 := eq_true c20
          have c20b1 : decide (fok .quo (fofi t277) (fofi (wrap64 (1 + t279))) = true) = true := decide_eq_true c20
          simp only [Option.some.injEq, Prod.mk.injEq] at H
          obtain ⟨rfl, rfl⟩ := H
          go_enter Try.func34, Try.ntmps34
          go_wp2_with (first | ((with_reducible refine gate_callee (f := 32) rfl ?_); refine goesL_ (some 6) rfl rfl Try.func32 (by kernel_rfl) rfl #[.pointer (some ⟨g, 0, none⟩), .int .i64 8] rfl (by (try simp only [List.map_toArray, List.map_cons, List.map_nil]); first | done | rfl | (simp only [List.length_drop, List.length_take]; rfl)) ?_; (with_reducible refine (spec_l1Rd_below.calls g s0_0 s0_1 8 t268 t269 w0 _ ?side1 ?side2 A2.out).mono ?_); (case side1 => repeat (first | (with_reducible first | exact HI0.out | apply IsS71.alloc | apply IsS71.drewN | apply IsS71.drew | apply IsS71.set_1) | exact HI0.out)); (case side2 => repeat (first | (with_reducible first | exact HB.out | apply below_alloc | apply pw_below_drewN | apply below_drew1 | refine below_set ?_ (IsS71.ge HI0.out)) | exact HB.out)); rintro e w21 ⟨rfl, hi, hb, hk⟩; refine ⟨_, rfl, ?_⟩; have n0_ := Aside0.mk (KeepBut.trans (by repeat (first | (with_reducible first | exact HK.out | apply KeepBut.set_ | apply keep_drewN | apply keep_drew | apply keep_alloc) | exact HK.out)) hk (.inl rfl)); have n1_ := Aside0.mk (hb); have n2_ := Aside0.mk (hi); clear HK; clear HB; clear HI0; have HK := n0_; have HB := n1_; have HI0 := n2_; clear n0_ n1_ n2_; (try clear hb); (try clear hb2); (try clear hk); (try clear hi)) | ((with_reducible refine gate_callee (f := 50) rfl ?_); refine goesL_ (some 29) rfl rfl Try.func50 (by kernel_rfl) rfl #[.pointer (some ⟨g, 0, none⟩)] rfl (by (try simp only [List.map_toArray, List.map_cons, List.map_nil]); first | done | rfl | (simp only [List.length_drop, List.length_take]; rfl)) ?_; (with_reducible refine (spec_l1Rd_number.calls k g s0_0 t269 t277 t278 w0 _ ?side1 ?side2 A18.out).mono ?_); (case side1 => repeat (first | (with_reducible first | exact HI0.out | apply IsS71.alloc | apply IsS71.drewN | apply IsS71.drew | apply IsS71.set_1) | exact HI0.out)); (case side2 => repeat (first | (with_reducible first | exact HB.out | apply below_alloc | apply pw_below_drewN | apply below_drew1 | refine below_set ?_ (IsS71.ge HI0.out)) | exact HB.out)); rintro e w22 ⟨rfl, hi, hb, hk⟩; refine ⟨_, rfl, ?_⟩; have n0_ := Aside0.mk (KeepBut.trans (by repeat (first | (with_reducible first | exact HK.out | apply KeepBut.set_ | apply keep_drewN | apply keep_drew | apply keep_alloc) | exact HK.out)) hk (.inl rfl)); have n1_ := Aside0.mk (hb); have n2_ := Aside0.mk (hi); clear HK; clear HB; clear HI0; have HK := n0_; have HB := n1_; have HI0 := n2_; clear n0_ n1_ n2_; (try clear hb); (try clear hb2); (try clear hk); (try clear hi)) | ((with_reducible refine gate_callee (f := 32) rfl ?_); refine goesL_ (some 32) rfl rfl Try.func32 (by kernel_rfl) rfl #[.pointer (some ⟨g, 0, none⟩), .int .i64 1000] rfl (by (try simp only [List.map_toArray, List.map_cons, List.map_nil]); first | done | rfl | (simp only [List.length_drop, List.length_take]; rfl)) ?_; (with_reducible refine (spec_l1Rd_below.calls g s0_0 t278 1000 t279 t280 w0 _ ?side1 ?side2 A19.out).mono ?_); (case side1 => repeat (first | (with_reducible first | exact HI0.out | apply IsS71.alloc | apply IsS71.drewN | apply IsS71.drew | apply IsS71.set_1) | exact HI0.out)); (case side2 => repeat (first | (with_reducible first | exact HB.out | apply below_alloc | apply pw_below_drewN | apply below_drew1 | refine below_set ?_ (IsS71.ge HI0.out)) | exact HB.out)); rintro e w23 ⟨rfl, hi, hb, hk⟩; refine ⟨_, rfl, ?_⟩; have n0_ := Aside0.mk (KeepBut.trans (by repeat (first | (with_reducible first | exact HK.out | apply KeepBut.set_ | apply keep_drewN | apply keep_drew | apply keep_alloc) | exact HK.out)) hk (.inl rfl)); have n1_ := Aside0.mk (hb); have n2_ := Aside0.mk (hi); clear HK; clear HB; clear HI0; have HK := n0_; have HB := n1_; have HI0 := n2_; clear n0_ n1_ n2_; (try clear hb); (try clear hb2); (try clear hk); (try clear hi)))
          go_ret
          exact ⟨by first | rfl | (simp [errW_none, errW_some] <;> rfl) | (simp [*, errW_none, errW_some] <;> rfl), by repeat (first | (with_reducible first | exact HI0.out | apply IsS71.alloc | apply IsS71.drewN | apply IsS71.drew | apply IsS71.set_1) | exact HI0.out), by repeat (first | (with_reducible first | exact HB.out | apply below_alloc | apply pw_below_drewN | apply below_drew1 | refine below_set ?_ (IsS71.ge HI0.out)) | exact HB.out), by repeat (first | (with_reducible first | exact HK.out | apply KeepBut.set_ | apply keep_drewN | apply keep_drew | apply keep_alloc) | exact HK.out)⟩
        · rw [if_neg c20] at H
          exact absurd H (by simp)
      · rw [if_neg c17] at H
        have c17b0 : (t268 == 2) = false := beq_eq_false_iff_ne.mpr c17
        have c17b1 : (t268 != 2) = true := bne_iff_ne.mpr c17
        by_cases c24 : t268 = 3
        · rw [if_pos c24] at H
          have c24b0 : (t268 == 3) = true := beq_iff_eq.mpr c24
          have c24b1 : (t268 != 3) = false := bne_eq_false_iff_eq.mpr c24
          clear c24
          replace H := Option.bind_eq_some_iff.mp H
          obtain ⟨⟨t281, t282⟩, A250, H⟩ := H
          replace H : (if fok .quo (fofi t281) 4621819117588971520 = true then (some (fneg (fop .quo (fofi t281) 4621819117588971520), t282)) else (none)) = some (r1, r2) := H
          have A25 := Aside0.mk A250
          clear A250
          by_cases c26 : fok .quo (fofi t281) 4621819117588971520 = true
          · rw [if_pos c26] at H
            have c26b0 := eq_true c26
            have c26b1 : decide (fok .quo (fofi t281) 4621819117588971520 = true) = true := decide_eq_true c26
            clear c26
            simp only [Option.some.injEq, Prod.mk.injEq] at H
            obtain ⟨rfl, rfl⟩ := H
            go_enter Try.func34, Try.ntmps34
            go_wp2_with (first | ((with_reducible refine gate_callee (f := 32) rfl ?_); refine goesL_ (some 6) rfl rfl Try.func32 (by kernel_rfl) rfl #[.pointer (some ⟨g, 0, none⟩), .int .i64 8] rfl (by (try simp only [List.map_toArray, List.map_cons, List.map_nil]); first | done | rfl | (simp only [List.length_drop, List.length_take]; rfl)) ?_; (with_reducible refine (spec_l1Rd_below.calls g s0_0 s0_1 8 t268 t269 w0 _ ?side1 ?side2 A2.out).mono ?_); (case side1 => repeat (first | (with_reducible first | exact HI0.out | apply IsS71.alloc | apply IsS71.drewN | apply IsS71.drew | apply IsS71.set_1) | exact HI0.out)); (case side2 => repeat (first | (with_reducible first | exact HB.out | apply below_alloc | apply pw_below_drewN | apply below_drew1 | refine below_set ?_ (IsS71.ge HI0.out)) | exact HB.out)); rintro e w27 ⟨rfl, hi, hb, hk⟩; refine ⟨_, rfl, ?_⟩; have n0_ := Aside0.mk (KeepBut.trans (by repeat (first | (with_reducible first | exact HK.out | apply KeepBut.set_ | apply keep_drewN | apply keep_drew | apply keep_alloc) | exact HK.out)) hk (.inl rfl)); have n1_ := Aside0.mk (hb); have n2_ := Aside0.mk (hi); clear HK; clear HB; clear HI0; have HK := n0_; have HB := n1_; have HI0 := n2_; clear n0_ n1_ n2_; (try clear hb); (try clear hb2); (try clear hk); (try clear hi)) | ((with_reducible refine gate_callee (f := 32) rfl ?_); refine goesL_ (some 39) rfl rfl Try.func32 (by kernel_rfl) rfl #[.pointer (some ⟨g, 0, none⟩), .int .i64 1000] rfl (by (try simp only [List.map_toArray, List.map_cons, List.map_nil]); first | done | rfl | (simp only [List.length_drop, List.length_take]; rfl)) ?_; (with_reducible refine (spec_l1Rd_below.calls g s0_0 t269 1000 t281 t282 w0 _ ?side1 ?side2 A25.out).mono ?_); (case side1 => repeat (first | (with_reducible first | exact HI0.out | apply IsS71.alloc | apply IsS71.drewN | apply IsS71.drew | apply IsS71.set_1) | exact HI0.out)); (case side2 => repeat (first | (with_reducible first | exact HB.out | apply below_alloc | apply pw_below_drewN | apply below_drew1 | refine below_set ?_ (IsS71.ge HI0.out)) | exact HB.out)); rintro e w28 ⟨rfl, hi, hb, hk⟩; refine ⟨_, rfl, ?_⟩; have n0_ := Aside0.mk (KeepBut.trans (by repeat (first | (with_reducible first | exact HK.out | apply KeepBut.set_ | apply keep_drewN | apply keep_drew | apply keep_alloc) | exact HK.out)) hk (.inl rfl)); have n1_ := Aside0.mk (hb); have n2_ := Aside0.mk (hi); clear HK; clear HB; clear HI0; have HK := n0_; have HB := n1_; have HI0 := n2_; clear n0_ n1_ n2_; (try clear hb); (try clear hb2); (try clear hk); (try clear hi)))
            go_ret
            exact ⟨by first | rfl | (simp [errW_none, errW_some] <;> rfl) | (simp [*, errW_none, errW_some] <;> rfl), by repeat (first | (with_reducible first | exact HI0.out | apply IsS71.alloc | apply IsS71.drewN | apply IsS71.drew | apply IsS71.set_1) | exact HI0.out), by repeat (first | (with_reducible first | exact HB.out | apply below_alloc | apply pw_below_drewN | apply below_drew1 | refine below_set ?_ (IsS71.ge HI0.out)) | exact HB.out), by repeat (first | (with_reducible first | exact HK.out | apply KeepBut.set_ | apply keep_drewN | apply keep_drew | apply keep_alloc) | exact HK.out)⟩
          · rw [if_neg c26] at H
            exact absurd H (by simp)
        · rw [if_neg c24] at H
          have c24b0 : (t268 == 3) = false := beq_eq_false_iff_ne.mpr c24
          have c24b1 : (t268 != 3) = true := bne_iff_ne.mpr c24
          replace H := Option.bind_eq_some_iff.mp H
          obtain ⟨⟨t283, t284⟩, A290, H⟩ := H
          replace H : (if fok .quo (fofi t283) 4621819117588971520 = true then (some (fop .quo (fofi t283) 4621819117588971520, t284)) else (none)) = some (r1, r2) := H
          have A29 := Aside0.mk A290
          clear A290
          by_cases c30 : fok .quo (fofi t283) 4621819117588971520 = true
          · rw [if_pos c30] at H
            have c30b0 := eq_true c30
            have c30b1 : decide (fok .quo (fofi t283) 4621819117588971520 = true) = true := decide_eq_true c30
            clear c30
            simp only [Option.some.injEq, Prod.mk.injEq] at H
            obtain ⟨rfl, rfl⟩ := H
            go_enter Try.func34, Try.ntmps34
            go_wp2_with (first | ((with_reducible refine gate_callee (f := 32) rfl ?_); refine goesL_ (some 6) rfl rfl Try.func32 (by kernel_rfl) rfl #[.pointer (some ⟨g, 0, none⟩), .int .i64 8] rfl (by (try simp only [List.map_toArray, List.map_cons, List.map_nil]); first | done | rfl | (simp only [List.length_drop, List.length_take]; rfl)) ?_; (with_reducible refine (spec_l1Rd_below.calls g s0_0 s0_1 8 t268 t269 w0 _ ?side1 ?side2 A2.out).mono ?_); (case side1 => repeat (first | (with_reducible first | exact HI0.out | apply IsS71.alloc | apply IsS71.drewN | apply IsS71.drew | apply IsS71.set_1) | exact HI0.out)); (case side2 => repeat (first | (with_reducible first | exact HB.out | apply below_alloc | apply pw_below_drewN | apply below_drew1 | refine below_set ?_ (IsS71.ge HI0.out)) | exact HB.out)); rintro e w31 ⟨rfl, hi, hb, hk⟩; refine ⟨_, rfl, ?_⟩; have n0_ := Aside0.mk (KeepBut.trans (by repeat (first | (with_reducible first | exact HK.out | apply KeepBut.set_ | apply keep_drewN | apply keep_drew | apply keep_alloc) | exact HK.out)) hk (.inl rfl)); have n1_ := Aside0.mk (hb); have n2_ := Aside0.mk (hi); clear HK; clear HB; clear HI0; have HK := n0_; have HB := n1_; have HI0 := n2_; clear n0_ n1_ n2_; (try clear hb); (try clear hb2); (try clear hk); (try clear hi)) | ((with_reducible refine gate_callee (f := 32) rfl ?_); refine goesL_ (some 44) rfl rfl Try.func32 (by kernel_rfl) rfl #[.pointer (some ⟨g, 0, none⟩), .int .i64 1000] rfl (by (try simp only [List.map_toArray, List.map_cons, List.map_nil]); first | done | rfl | (simp only [List.length_drop, List.length_take]; rfl)) ?_; (with_reducible refine (spec_l1Rd_below.calls g s0_0 t269 1000 t283 t284 w0 _ ?side1 ?side2 A29.out).mono ?_); (case side1 => repeat (first | (with_reducible first | exact HI0.out | apply IsS71.alloc | apply IsS71.drewN | apply IsS71.drew | apply IsS71.set_1) | exact HI0.out)); (case side2 => repeat (first | (with_reducible first | exact HB.out | apply below_alloc | apply pw_below_drewN | apply below_drew1 | refine below_set ?_ (IsS71.ge HI0.out)) | exact HB.out)); rintro e w32 ⟨rfl, hi, hb, hk⟩; refine ⟨_, rfl, ?_⟩; have n0_ := Aside0.mk (KeepBut.trans (by repeat (first | (with_reducible first | exact HK.out | apply KeepBut.set_ | apply keep_drewN | apply keep_drew | apply keep_alloc) | exact HK.out)) hk (.inl rfl)); have n1_ := Aside0.mk (hb); have n2_ := Aside0.mk (hi); clear HK; clear HB; clear HI0; have HK := n0_; have HB := n1_; have HI0 := n2_; clear n0_ n1_ n2_; (try clear hb); (try clear hb2); (try clear hk); (try clear hi)))
            go_ret
            exact ⟨by first | rfl | (simp [errW_none, errW_some] <;> rfl) | (simp [*, errW_none, errW_some] <;> rfl), by repeat (first | (with_reducible first | exact HI0.out | apply IsS71.alloc | apply IsS71.drewN | apply IsS71.drew | apply IsS71.set_1) | exact HI0.out), by repeat (first | (with_reducible first | exact HB.out | apply below_alloc | apply pw_below_drewN | apply below_drew1 | refine below_set ?_ (IsS71.ge HI0.out)) | exact HB.out), by repeat (first | (with_reducible first | exact HK.out | apply KeepBut.set_ | apply keep_drewN | apply keep_drew | apply keep_alloc) | exact HK.out)⟩
          · rw [if_neg c30] at H
            exact absurd H (by simp)

theorem d_float {l : List Int} {p v p1 : Int} (hl : Byt l) (hb : spec_l1Rd_below.f l p 8 = some (v, p1)) (hv : v ≠ 0) (hp : Pos l p1) (k : Nat) (hk : 9 ≤ k) : ∃ x p', spec_l1Rd_float.f k l p = some (x, p') ∧ Pos l p' := by
  unfold spec_l1Rd_float.f
  rw [hb]
  simp only [Option.bind_some]
  rw [if_neg hv]
  by_cases h1 : v = 1
  · rw [if_pos h1, if_pos (by decide +kernel), if_pos (by decide +kernel)]
    obtain ⟨u, p2, e2, u0, u1, u2, hp2⟩ := d_below (n := 16) hl hp (by omega)
    have u3 := u1 (by omega)
    rw [e2]
    simp only [Option.bind_some]
    rw [if_pos u0, if_pos (by simp only [List.length_cons, List.length_nil]; omega)]
    exact ⟨_, _, rfl, hp2⟩
  rw [if_neg h1]
  by_cases h2 : v = 2
  · rw [if_pos h2]
    obtain ⟨t, p2, e2, t1, hp2⟩ := d_number hl hp k hk
    obtain ⟨u, p3, e3, u0, u1, u2, hp3⟩ := d_below (n := 1000) hl hp2 (by omega)
    have u3 := u1 (by omega)
    rw [e2]
    simp only [Option.bind_some, e3]
    rw [wrap_id (i := 1 + u) (by omega) (by omega)]
    have hy : 1023 * 4503599627370496 ≤ rung (fofi (1 + u)) := by
      have h := rung_fofi_mono (n := 1) (m := 1 + u) (by omega)
      have h1 : 1023 * 4503599627370496 ≤ rung (fofi 1) := by decide +kernel
      omega
    rw [if_pos (quo_ge_one (b := 63) (by omega) t1 (fofi_fin (by omega)) hy).1]
    exact ⟨_, _, rfl, hp3⟩
  rw [if_neg h2]
  by_cases h3 : v = 3
  · rw [if_pos h3]
    obtain ⟨u, p2, e2, u0, u1, u2, hp2⟩ := d_below (n := 1000) hl hp (by omega)
    have u3 := u1 (by omega)
    rw [e2]
    simp only [Option.bind_some]
    rw [if_pos (quo_ten (b := 10) (by omega) (by omega)).1]
    exact ⟨_, _, rfl, hp2⟩
  · rw [if_neg h3]
    obtain ⟨u, p2, e2, u0, u1, u2, hp2⟩ := d_below (n := 1000) hl hp (by omega)
    have u3 := u1 (by omega)
    rw [e2]
    simp only [Option.bind_some]
    rw [if_pos (quo_ten (b := 10) (by omega) (by omega)).1]
    exact ⟨_, _, rfl, hp2⟩
theorem float_any (g : Nat) (l : List Int) (p : Int) (hl : Byt l) (hp : Pos l p) (w0 w : World) (hI : IsS71 w0 w g l p) (hB : Below w0.heap.size w0 w) :
    Calls Try.prog 34 #[.pointer (some ⟨g, 0, none⟩)] w fun e w' => ∃ (x : Nat) (p' : Int), e = .returned (.float .f64 x) ∧ Pos l p' ∧ IsS71 w0 w' g l p' ∧ Below w0.heap.size w0 w' ∧ KeepBut w w' g none := by
  obtain ⟨v, p1, e1, v0, v1, v2, hp1⟩ := d_below (n := 8) hl hp (by omega)
  by_cases hv : v = 0
  · subst hv
    go_enter Try.func34, Try.ntmps34
    go_wp2_with (first | (go_at_call 32; refine (spec_l1Rd_below.calls g l p 8 0 p1 w0 _ hI hB e1).mono ?_; rintro e w1 ⟨rfl, hI1, hB1, hK1⟩) | (go_at_call 48; refine (l1None_any _).mono ?_; rintro e w2 ⟨b, hb, rfl, ⟨nd, rfl⟩⟩))
    go_ret
    exact ⟨b, p1, rfl, hp1, hI1.drewN nd, pw_below_drewN hB1 nd, keep_drewN hK1 nd⟩
  · obtain ⟨x, p', e, hp'⟩ := d_float hl e1 hv hp1 9 (by omega)
    exact (spec_l1Rd_float.calls 9 g l p x p' w0 w hI hB e).mono fun e' w' ⟨h1, h2, h3, h4⟩ => ⟨x, p', h1, hp', h2, h3, h4⟩

mutual
def spec_l6DrawAny.j0 : Nat → List (S41) → List Int → Int → Option ((List (S41)) × Int)
  | 0, _, _, _ => none
  | k + 1, x3, x1000, x1001 => (spec_l1Rd_once.f x1000 x1001 50).bind fun bt240 => (if bt240.1 = true then ((spec_l1Rd_below.f x1000 bt240.2 2).bind fun bt242 => (if 0 ≤ (x3.length : Int) then (spec_l6DrawAny.l0 k (x3.take (0 : Int).toNat) (wrap64 (400 + bt242.1)) 0 x1000 bt242.2) else (none))) else (some (x3, bt240.2)))
def spec_l6DrawAny.l0 : Nat → List (S41) → Int → Int → List Int → Int → Option ((List (S41)) × Int)
  | 0, _, _, _, _, _ => none
  | k + 1, x3, x5, x6, x1000, x1001 => if x6 < x5 then (if x3.length < 8796093022208 then (spec_l6DrawAny.l0 k (x3 ++ [(⟨wrap64 (10000 - x6), fofi (Int.tmod x6 7)⟩ : S41)]) x5 (wrap64 (x6 + 1)) x1000 x1001) else (none)) else (some (x3, x1001))
end
def spec_l6DrawAny.f (nu : Nat) (k : Nat) (s0_0 : List Int) (s0_1 : Int) : Option ((List (S41)) × Int) := (spec_l1Rd_ascent.f k s0_0 s0_1 40).bind fun bt206 => ((spec_l1Rd_once.f s0_0 bt206.2 7).bind fun bt210 => (if bt210.1 = true then ((spec_l1Rd_below.f s0_0 bt210.2 (bt206.1.length : Int)).bind fun bt212 => ((spec_l1Rd_below.f s0_0 bt212.2 6).bind fun bt214 => (if bt214.1 = 0 then ((some nu).bind fun t216 => (if 0 ≤ bt212.1 then (if bt212.1 < (bt206.1.length : Int) then (spec_l6DrawAny.j0 k (bt206.1.set (bt212.1 : Int).toNat (⟨(rd_T41 bt206.1 bt212.1).f0, t216⟩ : S41)) s0_0 bt214.2) else (none)) else (none))) else (if bt214.1 = 1 then ((some (([4641240890982006784, 13864612927836782592, 4641258483168051200, 13864648112208871424] : List Nat) : List Nat)).bind fun y218 => ((spec_l1Rd_below.f s0_0 bt214.2 4).bind fun bt221 => (if 0 ≤ bt221.1 then (if bt221.1 < (y218.length : Int) then (if 0 ≤ bt212.1 then (if bt212.1 < (bt206.1.length : Int) then (spec_l6DrawAny.j0 k (bt206.1.set (bt212.1 : Int).toNat (⟨(rd_T41 bt206.1 bt212.1).f0, rdOf 0 y218 bt221.1⟩ : S41)) s0_0 bt221.2) else (none)) else (none)) else (none)) else (none)))) else (if bt214.1 = 2 then ((some (([0, 1, 12000, 12001, (-5)] : List Int) : List Int)).bind fun y225 => ((spec_l1Rd_below.f s0_0 bt214.2 5).bind fun bt228 => (if 0 ≤ bt228.1 then (if bt228.1 < (y225.length : Int) then (if 0 ≤ bt212.1 then (if bt212.1 < (bt206.1.length : Int) then (spec_l6DrawAny.j0 k (bt206.1.set (bt212.1 : Int).toNat (⟨rd y225 bt228.1, (rd_T41 bt206.1 bt212.1).f1⟩ : S41)) s0_0 bt228.2) else (none)) else (none)) else (none)) else (none)))) else (if bt214.1 = 3 then (if 1 ≤ (bt206.1.length : Int) then (spec_l6DrawAny.j0 k (bt206.1.take (1 : Int).toNat) s0_0 bt214.2) else (none)) else (if bt214.1 = 4 then (if 0 ≤ (bt206.1.length : Int) then (spec_l6DrawAny.j0 k (bt206.1.take (0 : Int).toNat) s0_0 bt214.2) else (none)) else (if 0 < (bt206.1.length : Int) then (if 0 ≤ (wrap64 ((bt206.1.length : Int) - 1)) then (if (wrap64 ((bt206.1.length : Int) - 1)) < (bt206.1.length : Int) then (spec_l6DrawAny.j0 k (bt206.1.set ((wrap64 ((bt206.1.length : Int) - 1)) : Int).toNat (⟨(rd_T41 bt206.1 0).f0, (rd_T41 bt206.1 (wrap64 ((bt206.1.length : Int) - 1))).f1⟩ : S41)) s0_0 bt214.2) else (none)) else (none)) else (none))))))))) else (spec_l6DrawAny.j0 k bt206.1 s0_0 bt210.2)))
set_option maxHeartbeats 8000000 in
set_option maxRecDepth 100000 in
theorem spec_l6DrawAny.any (k : Nat) (g : Nat) (s0_0 : List Int) (s0_1 : Int) (w0 w : World) (hI : IsS71 w0 w g s0_0 s0_1) (hB : Below w0.heap.size w0 w) (h : ∀ nu, ∃ r, spec_l6DrawAny.f nu k s0_0 s0_1 = some r ∧ Pos s0_0 r.2) :
    Calls Try.prog 31 #[.pointer (some ⟨g, 0, none⟩)] w fun e w' => ∃ (r1 : List S41) (r2 : Int) (v0_ : Value), Pos s0_0 r2 ∧ e = .returned (v0_) ∧ Kd.R k41 41 w' w.heap.size (fun _ => True) v0_ r1 ∧ IsS71 w0 w' g s0_0 r2 ∧ Below w0.heap.size w0 w' ∧ KeepBut w w' g none := by
  have hu41 := Try.underlying41
  have HI0 := Aside0.mk hI
  have HK := Aside0.mk (KeepBut.refl w g none)
  have HL := Aside0.mk hB.size
  clear hI
  have HW0 := Aside0.mk hB.size
  have HB := Aside0.mk hB
  clear hB
  obtain ⟨⟨r1, r2⟩, h0, hp0⟩ := h 0
  have HQ0 := Aside0.mk h
  have HPOS := Aside0.mk hp0
  clear hp0
  have H : ((spec_l1Rd_ascent.f k s0_0 s0_1 40).bind fun bt206 => ((spec_l1Rd_once.f s0_0 bt206.2 7).bind fun bt210 => (if bt210.1 = true then ((spec_l1Rd_below.f s0_0 bt210.2 (bt206.1.length : Int)).bind fun bt212 => ((spec_l1Rd_below.f s0_0 bt212.2 6).bind fun bt214 => (if bt214.1 = 0 then ((some (0 : Nat)).bind fun t216 => (if 0 ≤ bt212.1 then (if bt212.1 < (bt206.1.length : Int) then (spec_l6DrawAny.j0 k (bt206.1.set (bt212.1 : Int).toNat (⟨(rd_T41 bt206.1 bt212.1).f0, t216⟩ : S41)) s0_0 bt214.2) else (none)) else (none))) else (if bt214.1 = 1 then ((some (([4641240890982006784, 13864612927836782592, 4641258483168051200, 13864648112208871424] : List Nat) : List Nat)).bind fun y218 => ((spec_l1Rd_below.f s0_0 bt214.2 4).bind fun bt221 => (if 0 ≤ bt221.1 then (if bt221.1 < (y218.length : Int) then (if 0 ≤ bt212.1 then (if bt212.1 < (bt206.1.length : Int) then (spec_l6DrawAny.j0 k (bt206.1.set (bt212.1 : Int).toNat (⟨(rd_T41 bt206.1 bt212.1).f0, rdOf 0 y218 bt221.1⟩ : S41)) s0_0 bt221.2) else (none)) else (none)) else (none)) else (none)))) else (if bt214.1 = 2 then ((some (([0, 1, 12000, 12001, (-5)] : List Int) : List Int)).bind fun y225 => ((spec_l1Rd_below.f s0_0 bt214.2 5).bind fun bt228 => (if 0 ≤ bt228.1 then (if bt228.1 < (y225.length : Int) then (if 0 ≤ bt212.1 then (if bt212.1 < (bt206.1.length : Int) then (spec_l6DrawAny.j0 k (bt206.1.set (bt212.1 : Int).toNat (⟨rd y225 bt228.1, (rd_T41 bt206.1 bt212.1).f1⟩ : S41)) s0_0 bt228.2) else (none)) else (none)) else (none)) else (none)))) else (if bt214.1 = 3 then (if 1 ≤ (bt206.1.length : Int) then (spec_l6DrawAny.j0 k (bt206.1.take (1 : Int).toNat) s0_0 bt214.2) else (none)) else (if bt214.1 = 4 then (if 0 ≤ (bt206.1.length : Int) then (spec_l6DrawAny.j0 k (bt206.1.take (0 : Int).toNat) s0_0 bt214.2) else (none)) else (if 0 < (bt206.1.length : Int) then (if 0 ≤ (wrap64 ((bt206.1.length : Int) - 1)) then (if (wrap64 ((bt206.1.length : Int) - 1)) < (bt206.1.length : Int) then (spec_l6DrawAny.j0 k (bt206.1.set ((wrap64 ((bt206.1.length : Int) - 1)) : Int).toNat (⟨(rd_T41 bt206.1 0).f0, (rd_T41 bt206.1 (wrap64 ((bt206.1.length : Int) - 1))).f1⟩ : S41)) s0_0 bt214.2) else (none)) else (none)) else (none))))))))) else (spec_l6DrawAny.j0 k bt206.1 s0_0 bt210.2)))) = some (r1, r2) := h0
  clear h0
  clear h
  replace H := Option.bind_eq_some_iff.mp H
  obtain ⟨⟨t206, t209⟩, A20, H⟩ := H
  replace H : ((spec_l1Rd_once.f s0_0 t209 7).bind fun bt210 => (if bt210.1 = true then ((spec_l1Rd_below.f s0_0 bt210.2 (t206.length : Int)).bind fun bt212 => ((spec_l1Rd_below.f s0_0 bt212.2 6).bind fun bt214 => (if bt214.1 = 0 then ((some (0 : Nat)).bind fun t216 => (if 0 ≤ bt212.1 then (if bt212.1 < (t206.length : Int) then (spec_l6DrawAny.j0 k (t206.set (bt212.1 : Int).toNat (⟨(rd_T41 t206 bt212.1).f0, t216⟩ : S41)) s0_0 bt214.2) else (none)) else (none))) else (if bt214.1 = 1 then ((some (([4641240890982006784, 13864612927836782592, 4641258483168051200, 13864648112208871424] : List Nat) : List Nat)).bind fun y218 => ((spec_l1Rd_below.f s0_0 bt214.2 4).bind fun bt221 => (if 0 ≤ bt221.1 then (if bt221.1 < (y218.length : Int) then (if 0 ≤ bt212.1 then (if bt212.1 < (t206.length : Int) then (spec_l6DrawAny.j0 k (t206.set (bt212.1 : Int).toNat (⟨(rd_T41 t206 bt212.1).f0, rdOf 0 y218 bt221.1⟩ : S41)) s0_0 bt221.2) else (none)) else (none)) else (none)) else (none)))) else (if bt214.1 = 2 then ((some (([0, 1, 12000, 12001, (-5)] : List Int) : List Int)).bind fun y225 => ((spec_l1Rd_below.f s0_0 bt214.2 5).bind fun bt228 => (if 0 ≤ bt228.1 then (if bt228.1 < (y225.length : Int) then (if 0 ≤ bt212.1 then (if bt212.1 < (t206.length : Int) then (spec_l6DrawAny.j0 k (t206.set (bt212.1 : Int).toNat (⟨rd y225 bt228.1, (rd_T41 t206 bt212.1).f1⟩ : S41)) s0_0 bt228.2) else (none)) else (none)) else (none)) else (none)))) else (if bt214.1 = 3 then (if 1 ≤ (t206.length : Int) then (spec_l6DrawAny.j0 k (t206.take (1 : Int).toNat) s0_0 bt214.2) else (none)) else (if bt214.1 = 4 then (if 0 ≤ (t206.length : Int) then (spec_l6DrawAny.j0 k (t206.take (0 : Int).toNat) s0_0 bt214.2) else (none)) else (if 0 < (t206.length : Int) then (if 0 ≤ (wrap64 ((t206.length : Int) - 1)) then (if (wrap64 ((t206.length : Int) - 1)) < (t206.length : Int) then (spec_l6DrawAny.j0 k (t206.set ((wrap64 ((t206.length : Int) - 1)) : Int).toNat (⟨(rd_T41 t206 0).f0, (rd_T41 t206 (wrap64 ((t206.length : Int) - 1))).f1⟩ : S41)) s0_0 bt214.2) else (none)) else (none)) else (none))))))))) else (spec_l6DrawAny.j0 k t206 s0_0 bt210.2))) = some (r1, r2) := H
  have A2 := Aside0.mk A20
  clear A20
  replace H := Option.bind_eq_some_iff.mp H
  obtain ⟨⟨t210, t211⟩, A30, H⟩ := H
  replace H : (if t210 = true then ((spec_l1Rd_below.f s0_0 t211 (t206.length : Int)).bind fun bt212 => ((spec_l1Rd_below.f s0_0 bt212.2 6).bind fun bt214 => (if bt214.1 = 0 then ((some (0 : Nat)).bind fun t216 => (if 0 ≤ bt212.1 then (if bt212.1 < (t206.length : Int) then (spec_l6DrawAny.j0 k (t206.set (bt212.1 : Int).toNat (⟨(rd_T41 t206 bt212.1).f0, t216⟩ : S41)) s0_0 bt214.2) else (none)) else (none))) else (if bt214.1 = 1 then ((some (([4641240890982006784, 13864612927836782592, 4641258483168051200, 13864648112208871424] : List Nat) : List Nat)).bind fun y218 => ((spec_l1Rd_below.f s0_0 bt214.2 4).bind fun bt221 => (if 0 ≤ bt221.1 then (if bt221.1 < (y218.length : Int) then (if 0 ≤ bt212.1 then (if bt212.1 < (t206.length : Int) then (spec_l6DrawAny.j0 k (t206.set (bt212.1 : Int).toNat (⟨(rd_T41 t206 bt212.1).f0, rdOf 0 y218 bt221.1⟩ : S41)) s0_0 bt221.2) else (none)) else (none)) else (none)) else (none)))) else (if bt214.1 = 2 then ((some (([0, 1, 12000, 12001, (-5)] : List Int) : List Int)).bind fun y225 => ((spec_l1Rd_below.f s0_0 bt214.2 5).bind fun bt228 => (if 0 ≤ bt228.1 then (if bt228.1 < (y225.length : Int) then (if 0 ≤ bt212.1 then (if bt212.1 < (t206.length : Int) then (spec_l6DrawAny.j0 k (t206.set (bt212.1 : Int).toNat (⟨rd y225 bt228.1, (rd_T41 t206 bt212.1).f1⟩ : S41)) s0_0 bt228.2) else (none)) else (none)) else (none)) else (none)))) else (if bt214.1 = 3 then (if 1 ≤ (t206.length : Int) then (spec_l6DrawAny.j0 k (t206.take (1 : Int).toNat) s0_0 bt214.2) else (none)) else (if bt214.1 = 4 then (if 0 ≤ (t206.length : Int) then (spec_l6DrawAny.j0 k (t206.take (0 : Int).toNat) s0_0 bt214.2) else (none)) else (if 0 < (t206.length : Int) then (if 0 ≤ (wrap64 ((t206.length : Int) - 1)) then (if (wrap64 ((t206.length : Int) - 1)) < (t206.length : Int) then (spec_l6DrawAny.j0 k (t206.set ((wrap64 ((t206.length : Int) - 1)) : Int).toNat (⟨(rd_T41 t206 0).f0, (rd_T41 t206 (wrap64 ((t206.length : Int) - 1))).f1⟩ : S41)) s0_0 bt214.2) else (none)) else (none)) else (none))))))))) else (spec_l6DrawAny.j0 k t206 s0_0 t211)) = some (r1, r2) := H
  have A3 := Aside0.mk A30
  clear A30
  have HC4 := Aside0.mk H
  clear H
  go_enter Try.func31, Try.ntmps31
  go_upto_if 10 with (first | ((with_reducible refine gate_callee (f := 47) rfl ?_); refine goesL_ (some 8) rfl rfl Try.func47 (by kernel_rfl) rfl #[.pointer (some ⟨g, 0, none⟩), .int .i64 40] rfl (by (try simp only [List.map_toArray, List.map_cons, List.map_nil]); first | done | rfl | (simp only [List.length_drop, List.length_take]; rfl)) ?_; (with_reducible refine (spec_l1Rd_ascent.calls k g s0_0 s0_1 40 t206 t209 w0 _ ?side1 ?side2 A2.out).mono ?_); (case side1 => repeat (first | (with_reducible first | exact HI0.out | apply IsS71.alloc | apply IsS71.drewN | apply IsS71.drew | apply IsS71.set_1) | exact HI0.out)); (case side2 => repeat (first | (with_reducible first | exact HB.out | apply below_alloc | apply pw_below_drewN | apply below_drew1 | refine below_set ?_ (IsS71.ge HI0.out)) | exact HB.out)); rintro e w5 ⟨v207, rfl, ho0, hi, hb, hk⟩; refine ⟨_, rfl, ?_⟩; have n0_ := Aside0.mk (Kd.R_lower ho0 (keep_size (w := w) (g := g) (row := none) (by repeat (first | (with_reducible first | exact HK.out | apply KeepBut.set_ | apply keep_drewN | apply keep_drew | apply keep_alloc) | exact HK.out)))); have n1_ := Aside0.mk (KeepBut.trans (by repeat (first | (with_reducible first | exact HK.out | apply KeepBut.set_ | apply keep_drewN | apply keep_drew | apply keep_alloc) | exact HK.out)) hk (.inl rfl)); have n2_ := Aside0.mk (hb); have n3_ := Aside0.mk (hi); clear HK; clear HB; clear HI0; have HO208 := n0_; have HK := n1_; have HB := n2_; have HI0 := n3_; clear n0_ n1_ n2_ n3_; (try clear hb); (try clear hb2); (try clear hk); (try clear hi); (try clear ho0)) | ((with_reducible refine gate_callee (f := 33) rfl ?_); refine goesL_ (some 10) rfl rfl Try.func33 (by kernel_rfl) rfl #[.pointer (some ⟨g, 0, none⟩), .int .i64 7] rfl (by (try simp only [List.map_toArray, List.map_cons, List.map_nil]); first | done | rfl | (simp only [List.length_drop, List.length_take]; rfl)) ?_; (with_reducible refine (spec_l1Rd_once.calls g s0_0 t209 7 t210 t211 w0 _ ?side1 ?side2 A3.out).mono ?_); (case side1 => repeat (first | (with_reducible first | exact HI0.out | apply IsS71.alloc | apply IsS71.drewN | apply IsS71.drew | apply IsS71.set_1) | exact HI0.out)); (case side2 => repeat (first | (with_reducible first | exact HB.out | apply below_alloc | apply pw_below_drewN | apply below_drew1 | refine below_set ?_ (IsS71.ge HI0.out)) | exact HB.out)); rintro e w6 ⟨rfl, hi, hb, hk⟩; refine ⟨_, rfl, ?_⟩; have n0_ := Aside0.mk (Kd.R_mono (Kd.R_keep (IsS71.apart (show IsS71 w0 _ g s0_0 t209 from by repeat (first | (with_reducible first | exact HI0.out | apply IsS71.alloc | apply IsS71.drewN | apply IsS71.drew | apply IsS71.set_1) | exact HI0.out)) (by (with_reducible repeat (first | apply Kd.R_alloc | apply Kd.R_drewN | apply Kd.R_drew)); exact HO208.out) (by decide)) hk (fun _ h => h.2)) (fun _ h => h.1)); have n1_ := Aside0.mk (KeepBut.trans (by repeat (first | (with_reducible first | exact HK.out | apply KeepBut.set_ | apply keep_drewN | apply keep_drew | apply keep_alloc) | exact HK.out)) hk (.inl rfl)); have n2_ := Aside0.mk (hb); have n3_ := Aside0.mk (hi); clear HO208; clear HK; clear HB; clear HI0; have HO208 := n0_; have HK := n1_; have HB := n2_; have HI0 := n3_; clear n0_ n1_ n2_ n3_; (try clear hb); (try clear hb2); (try clear hk); (try clear hi)))
  (try simp only [Act.put, List.setIfInBounds_toArray, List.set_cons_zero, List.set_cons_succ])
  go_cut [3] (fun v3 wc => ∃ (r1 : List S41) (r2 : Int) (kq : Nat) (x3_3 : List (S41)) (x1001_3 : Int), Aside0 (Pos s0_0 r2) ∧ Aside0 (spec_l6DrawAny.j0 kq x3_3 s0_0 x1001_3 = some (r1, r2)) ∧ Aside0 (kq ≤ k) ∧ Aside0 (Kd.R k41 41 wc w.heap.size (fun _ => True) v3 x3_3) ∧ Aside0 (IsS71 w0 wc g s0_0 x1001_3) ∧ Aside0 (KeepBut w wc g none) ∧ Aside0 (Below w0.heap.size w0 wc))
  case first =>
    have H := HC4.out
    clear HC4
    by_cases c7 : t210 = true
    · subst c7
      have H1 : ((spec_l1Rd_below.f s0_0 t211 (t206.length : Int)).bind fun bt212 => ((spec_l1Rd_below.f s0_0 bt212.2 6).bind fun bt214 => (if bt214.1 = 0 then ((some (0 : Nat)).bind fun t216 => (if 0 ≤ bt212.1 then (if bt212.1 < (t206.length : Int) then (spec_l6DrawAny.j0 k (t206.set (bt212.1 : Int).toNat (⟨(rd_T41 t206 bt212.1).f0, t216⟩ : S41)) s0_0 bt214.2) else (none)) else (none))) else (if bt214.1 = 1 then ((some (([4641240890982006784, 13864612927836782592, 4641258483168051200, 13864648112208871424] : List Nat) : List Nat)).bind fun y218 => ((spec_l1Rd_below.f s0_0 bt214.2 4).bind fun bt221 => (if 0 ≤ bt221.1 then (if bt221.1 < (y218.length : Int) then (if 0 ≤ bt212.1 then (if bt212.1 < (t206.length : Int) then (spec_l6DrawAny.j0 k (t206.set (bt212.1 : Int).toNat (⟨(rd_T41 t206 bt212.1).f0, rdOf 0 y218 bt221.1⟩ : S41)) s0_0 bt221.2) else (none)) else (none)) else (none)) else (none)))) else (if bt214.1 = 2 then ((some (([0, 1, 12000, 12001, (-5)] : List Int) : List Int)).bind fun y225 => ((spec_l1Rd_below.f s0_0 bt214.2 5).bind fun bt228 => (if 0 ≤ bt228.1 then (if bt228.1 < (y225.length : Int) then (if 0 ≤ bt212.1 then (if bt212.1 < (t206.length : Int) then (spec_l6DrawAny.j0 k (t206.set (bt212.1 : Int).toNat (⟨rd y225 bt228.1, (rd_T41 t206 bt212.1).f1⟩ : S41)) s0_0 bt228.2) else (none)) else (none)) else (none)) else (none)))) else (if bt214.1 = 3 then (if 1 ≤ (t206.length : Int) then (spec_l6DrawAny.j0 k (t206.take (1 : Int).toNat) s0_0 bt214.2) else (none)) else (if bt214.1 = 4 then (if 0 ≤ (t206.length : Int) then (spec_l6DrawAny.j0 k (t206.take (0 : Int).toNat) s0_0 bt214.2) else (none)) else (if 0 < (t206.length : Int) then (if 0 ≤ (wrap64 ((t206.length : Int) - 1)) then (if (wrap64 ((t206.length : Int) - 1)) < (t206.length : Int) then (spec_l6DrawAny.j0 k (t206.set ((wrap64 ((t206.length : Int) - 1)) : Int).toNat (⟨(rd_T41 t206 0).f0, (rd_T41 t206 (wrap64 ((t206.length : Int) - 1))).f1⟩ : S41)) s0_0 bt214.2) else (none)) else (none)) else (none))))))))) = some (r1, r2) := by rw [if_pos rfl] at H; exact H
      clear H
      have H := H1
      clear H1
      replace H := Option.bind_eq_some_iff.mp H
      obtain ⟨⟨t212, t213⟩, A80, H⟩ := H
      replace H : ((spec_l1Rd_below.f s0_0 t213 6).bind fun bt214 => (if bt214.1 = 0 then ((some (0 : Nat)).bind fun t216 => (if 0 ≤ t212 then (if t212 < (t206.length : Int) then (spec_l6DrawAny.j0 k (t206.set (t212 : Int).toNat (⟨(rd_T41 t206 t212).f0, t216⟩ : S41)) s0_0 bt214.2) else (none)) else (none))) else (if bt214.1 = 1 then ((some (([4641240890982006784, 13864612927836782592, 4641258483168051200, 13864648112208871424] : List Nat) : List Nat)).bind fun y218 => ((spec_l1Rd_below.f s0_0 bt214.2 4).bind fun bt221 => (if 0 ≤ bt221.1 then (if bt221.1 < (y218.length : Int) then (if 0 ≤ t212 then (if t212 < (t206.length : Int) then (spec_l6DrawAny.j0 k (t206.set (t212 : Int).toNat (⟨(rd_T41 t206 t212).f0, rdOf 0 y218 bt221.1⟩ : S41)) s0_0 bt221.2) else (none)) else (none)) else (none)) else (none)))) else (if bt214.1 = 2 then ((some (([0, 1, 12000, 12001, (-5)] : List Int) : List Int)).bind fun y225 => ((spec_l1Rd_below.f s0_0 bt214.2 5).bind fun bt228 => (if 0 ≤ bt228.1 then (if bt228.1 < (y225.length : Int) then (if 0 ≤ t212 then (if t212 < (t206.length : Int) then (spec_l6DrawAny.j0 k (t206.set (t212 : Int).toNat (⟨rd y225 bt228.1, (rd_T41 t206 t212).f1⟩ : S41)) s0_0 bt228.2) else (none)) else (none)) else (none)) else (none)))) else (if bt214.1 = 3 then (if 1 ≤ (t206.length : Int) then (spec_l6DrawAny.j0 k (t206.take (1 : Int).toNat) s0_0 bt214.2) else (none)) else (if bt214.1 = 4 then (if 0 ≤ (t206.length : Int) then (spec_l6DrawAny.j0 k (t206.take (0 : Int).toNat) s0_0 bt214.2) else (none)) else (if 0 < (t206.length : Int) then (if 0 ≤ (wrap64 ((t206.length : Int) - 1)) then (if (wrap64 ((t206.length : Int) - 1)) < (t206.length : Int) then (spec_l6DrawAny.j0 k (t206.set ((wrap64 ((t206.length : Int) - 1)) : Int).toNat (⟨(rd_T41 t206 0).f0, (rd_T41 t206 (wrap64 ((t206.length : Int) - 1))).f1⟩ : S41)) s0_0 bt214.2) else (none)) else (none)) else (none)))))))) = some (r1, r2) := H
      have A8 := Aside0.mk A80
      clear A80
      replace H := Option.bind_eq_some_iff.mp H
      obtain ⟨⟨t214, t215⟩, A90, H⟩ := H
      replace H : (if t214 = 0 then ((some (0 : Nat)).bind fun t216 => (if 0 ≤ t212 then (if t212 < (t206.length : Int) then (spec_l6DrawAny.j0 k (t206.set (t212 : Int).toNat (⟨(rd_T41 t206 t212).f0, t216⟩ : S41)) s0_0 t215) else (none)) else (none))) else (if t214 = 1 then ((some (([4641240890982006784, 13864612927836782592, 4641258483168051200, 13864648112208871424] : List Nat) : List Nat)).bind fun y218 => ((spec_l1Rd_below.f s0_0 t215 4).bind fun bt221 => (if 0 ≤ bt221.1 then (if bt221.1 < (y218.length : Int) then (if 0 ≤ t212 then (if t212 < (t206.length : Int) then (spec_l6DrawAny.j0 k (t206.set (t212 : Int).toNat (⟨(rd_T41 t206 t212).f0, rdOf 0 y218 bt221.1⟩ : S41)) s0_0 bt221.2) else (none)) else (none)) else (none)) else (none)))) else (if t214 = 2 then ((some (([0, 1, 12000, 12001, (-5)] : List Int) : List Int)).bind fun y225 => ((spec_l1Rd_below.f s0_0 t215 5).bind fun bt228 => (if 0 ≤ bt228.1 then (if bt228.1 < (y225.length : Int) then (if 0 ≤ t212 then (if t212 < (t206.length : Int) then (spec_l6DrawAny.j0 k (t206.set (t212 : Int).toNat (⟨rd y225 bt228.1, (rd_T41 t206 t212).f1⟩ : S41)) s0_0 bt228.2) else (none)) else (none)) else (none)) else (none)))) else (if t214 = 3 then (if 1 ≤ (t206.length : Int) then (spec_l6DrawAny.j0 k (t206.take (1 : Int).toNat) s0_0 t215) else (none)) else (if t214 = 4 then (if 0 ≤ (t206.length : Int) then (spec_l6DrawAny.j0 k (t206.take (0 : Int).toNat) s0_0 t215) else (none)) else (if 0 < (t206.length : Int) then (if 0 ≤ (wrap64 ((t206.length : Int) - 1)) then (if (wrap64 ((t206.length : Int) - 1)) < (t206.length : Int) then (spec_l6DrawAny.j0 k (t206.set ((wrap64 ((t206.length : Int) - 1)) : Int).toNat (⟨(rd_T41 t206 0).f0, (rd_T41 t206 (wrap64 ((t206.length : Int) - 1))).f1⟩ : S41)) s0_0 t215) else (none)) else (none)) else (none))))))) = some (r1, r2) := H
      have A9 := Aside0.mk A90
      clear A90
      by_cases c10 : t214 = 0
      · rw [if_pos c10] at H
        have c10b0 : (t214 == 0) = true := beq_iff_eq.mpr c10
        have c10b1 : (t214 != 0) = false := bne_eq_false_iff_eq.mpr c10
        clear c10
        (first | rw [c10b0] | (simp only [i64_w, i32_w]; rw [c10b0]) | skip)
        replace H := Option.bind_eq_some_iff.mp H
        obtain ⟨t216, A110, H⟩ := H
        replace H : (if 0 ≤ t212 then (if t212 < (t206.length : Int) then (spec_l6DrawAny.j0 k (t206.set (t212 : Int).toNat (⟨(rd_T41 t206 t212).f0, t216⟩ : S41)) s0_0 t215) else (none)) else (none)) = some (r1, r2) := H
        have A11 := Aside0.mk A110
        clear A110
        by_cases c12 : 0 ≤ t212
        · rw [if_pos c12] at H
          have c12b0 : decide (0 ≤ t212) = true := decide_eq_true c12
          clear c12
          by_cases c13 : t212 < (t206.length : Int)
          · rw [if_pos c13] at H
            have c13b0 : decide (t212 < (t206.length : Int)) = true := decide_eq_true c13
            clear c13
            clear H
            obtain ⟨Ao15, co15, eo15⟩ := Kd.R_slice HO208.out
            subst eo15
            go_wp2_with (first | ((with_reducible refine gate_callee (f := 32) rfl ?_); refine goesL_ (some 14) rfl rfl Try.func32 (by kernel_rfl) rfl #[.pointer (some ⟨g, 0, none⟩), .int .i64 (t206.length : Int)] rfl (by (try simp only [List.map_toArray, List.map_cons, List.map_nil]); first | done | rfl | (simp only [List.length_drop, List.length_take]; rfl)) ?_; (with_reducible refine (spec_l1Rd_below.calls g s0_0 t211 (t206.length : Int) t212 t213 w0 _ ?side1 ?side2 A8.out).mono ?_); (case side1 => repeat (first | (with_reducible first | exact HI0.out | apply IsS71.alloc | apply IsS71.drewN | apply IsS71.drew | apply IsS71.set_1) | exact HI0.out)); (case side2 => repeat (first | (with_reducible first | exact HB.out | apply below_alloc | apply pw_below_drewN | apply below_drew1 | refine below_set ?_ (IsS71.ge HI0.out)) | exact HB.out)); rintro e w16 ⟨rfl, hi, hb, hk⟩; refine ⟨_, rfl, ?_⟩; have n0_ := Aside0.mk (Kd.R_mono (Kd.R_keep (IsS71.apart (show IsS71 w0 _ g s0_0 t211 from by repeat (first | (with_reducible first | exact HI0.out | apply IsS71.alloc | apply IsS71.drewN | apply IsS71.drew | apply IsS71.set_1) | exact HI0.out)) (by (with_reducible repeat (first | apply Kd.R_alloc | apply Kd.R_drewN | apply Kd.R_drew)); exact HO208.out) (by decide)) hk (fun _ h => h.2)) (fun _ h => h.1)); have n1_ := Aside0.mk (KeepBut.trans (by repeat (first | (with_reducible first | exact HK.out | apply KeepBut.set_ | apply keep_drewN | apply keep_drew | apply keep_alloc) | exact HK.out)) hk (.inl rfl)); have n2_ := Aside0.mk (hb); have n3_ := Aside0.mk (hi); clear HO208; clear HK; clear HB; clear HI0; have HO208 := n0_; have HK := n1_; have HB := n2_; have HI0 := n3_; clear n0_ n1_ n2_ n3_; (try clear hb); (try clear hb2); (try clear hk); (try clear hi)) | ((with_reducible refine gate_callee (f := 32) rfl ?_); refine goesL_ (some 16) rfl rfl Try.func32 (by kernel_rfl) rfl #[.pointer (some ⟨g, 0, none⟩), .int .i64 6] rfl (by (try simp only [List.map_toArray, List.map_cons, List.map_nil]); first | done | rfl | (simp only [List.length_drop, List.length_take]; rfl)) ?_; (with_reducible refine (spec_l1Rd_below.calls g s0_0 t213 6 t214 t215 w0 _ ?side1 ?side2 A9.out).mono ?_); (case side1 => repeat (first | (with_reducible first | exact HI0.out | apply IsS71.alloc | apply IsS71.drewN | apply IsS71.drew | apply IsS71.set_1) | exact HI0.out)); (case side2 => repeat (first | (with_reducible first | exact HB.out | apply below_alloc | apply pw_below_drewN | apply below_drew1 | refine below_set ?_ (IsS71.ge HI0.out)) | exact HB.out)); rintro e w17 ⟨rfl, hi, hb, hk⟩; refine ⟨_, rfl, ?_⟩; have n0_ := Aside0.mk (Kd.R_mono (Kd.R_keep (IsS71.apart (show IsS71 w0 _ g s0_0 t213 from by repeat (first | (with_reducible first | exact HI0.out | apply IsS71.alloc | apply IsS71.drewN | apply IsS71.drew | apply IsS71.set_1) | exact HI0.out)) (by (with_reducible repeat (first | apply Kd.R_alloc | apply Kd.R_drewN | apply Kd.R_drew)); exact HO208.out) (by decide)) hk (fun _ h => h.2)) (fun _ h => h.1)); have n1_ := Aside0.mk (KeepBut.trans (by repeat (first | (with_reducible first | exact HK.out | apply KeepBut.set_ | apply keep_drewN | apply keep_drew | apply keep_alloc) | exact HK.out)) hk (.inl rfl)); have n2_ := Aside0.mk (hb); have n3_ := Aside0.mk (hi); clear HO208; clear HK; clear HB; clear HI0; have HO208 := n0_; have HK := n1_; have HB := n2_; have HI0 := n3_; clear n0_ n1_ n2_ n3_; (try clear hb); (try clear hb2); (try clear hk); (try clear hi)) | ((with_reducible refine gate_callee (f := 48) rfl ?_); refine goesL_ (some 31) rfl rfl Try.func48 (by kernel_rfl) rfl #[] rfl (by (try simp only [List.map_toArray, List.map_cons, List.map_nil]); first | done | rfl | (simp only [List.length_drop, List.length_take]; rfl)) ?_; (with_reducible refine (l1None_any _).mono ?_); rintro e w' ⟨bn, hbn, rfl, ⟨nd, rfl⟩⟩; refine ⟨_, rfl, ?_⟩; obtain ⟨⟨rn1, rn2⟩, hn0, hpn⟩ := HQ0.out bn; obtain ⟨y217, hy217⟩ : ∃ y_ : List (S41), y_ = (t206.set (t212 : Int).toNat (⟨(rd_T41 t206 t212).f0, bn⟩ : S41)) := ⟨_, rfl⟩; have H' : Aside0 (spec_l6DrawAny.j0 k y217 s0_0 t215 = some (rn1, rn2)) := ⟨by rw [hy217]; have hn1 := hn0; unfold spec_l6DrawAny.f at hn1; simp only [A2.out, A3.out, A8.out, A9.out, Option.bind_some, if_true] at hn1; rw [if_pos (beq_iff_eq.mp c10b0), if_pos (of_decide_eq_true c12b0), if_pos (of_decide_eq_true c13b0)] at hn1; exact hn1⟩; have Ny217 := Aside0.mk hy217; clear hy217; have HPN := Aside0.mk hpn; (try (rw [drewN_self w17]; generalize hq_ : World.drewN w17 _ = w17; have n0_ : Aside0 (Kd.R k41 41 w17 w.heap.size (fun _ => True) (.slice Ao15 t206.length co15) t206) := ⟨by rw [← hq_]; exact (by (with_reducible repeat (first | apply Kd.R_alloc | apply Kd.R_drewN | apply Kd.R_drew)); exact HO208.out)⟩; have n1_ : Aside0 (IsS71 w0 w17 g s0_0 t215) := ⟨by rw [← hq_]; exact (by repeat (first | (with_reducible first | exact HI0.out | apply IsS71.alloc | apply IsS71.drewN | apply IsS71.drew | apply IsS71.set_1) | exact HI0.out))⟩; have n2_ : Aside0 (KeepBut w w17 g none) := ⟨by rw [← hq_]; exact (by repeat (first | (with_reducible first | exact HK.out | apply KeepBut.set_ | apply keep_drewN | apply keep_drew | apply keep_alloc) | exact HK.out))⟩; have n3_ : Aside0 (Below w0.heap.size w0 w17) := ⟨by rw [← hq_]; exact (by repeat (first | (with_reducible first | exact HB.out | apply below_alloc | apply pw_below_drewN | apply below_drew1 | refine below_set ?_ (IsS71.ge HI0.out)) | exact HB.out))⟩; clear HO208 HI0 HK HB hq_; have HO208 := n0_; have HI0 := n1_; have HK := n2_; have HB := n3_; clear n0_ n1_ n2_ n3_)); have p14 : 0 ≤ (t212 : Int) := of_decide_eq_true (by first | (with_reducible assumption) | assumption); have q14 : (t212 : Int) < ((t206.length : Int) : Int) := of_decide_eq_true (by first | (with_reducible assumption) | assumption); obtain ⟨go14, co14, eo14, gb14, gl14, cl14, HG14⟩ := Kd.R_form HO208.out (by omega); (first | cases eo14 | (injection eo14 with ea_ en_ ec_; (first | subst ea_ | (injection ea_ with ea_; subst ea_)); subst ec_; clear en_)); have GB14 := Aside0.mk gb14; have GG14 := Aside0.mk HG14; clear gb14 gl14 HG14; obtain ⟨ce14, hcl14, hM14, hcc14, hfr14⟩ := Kd.R_elem HO208.out z41 (t212 : Int) p14 q14; obtain rfl := k41_openM hM14; have hx14_0 : w17.cell? ⟨go14, (t212 : Int).toNat * 2, none⟩ = some (.int .i64 ((rd_T41 t206 t212).f0)) := hcc14 0 _ rfl; have hx14_1 : w17.cell? ⟨go14, (t212 : Int).toNat * 2 + 1, none⟩ = some (.float .f64 ((rd_T41 t206 t212).f1)) := hcc14 1 _ rfl; have hf14_0 : w17.frozen? ⟨go14, (t212 : Int).toNat * 2, none⟩ = false := hfr14 0; have hf14_1 : w17.frozen? ⟨go14, (t212 : Int).toNat * 2 + 1, none⟩ = false := hfr14 1; clear hcl14 hcc14 hfr14 hM14; replace p14 := eq_true p14; replace q14 := eq_true q14; have HX18 := Aside0.mk (show Kd.R k41 41 w17 w.heap.size (fun _ => True) (.slice (some ⟨go14, 0, none⟩) t206.length co15) t206 from (by (with_reducible repeat (first | apply Kd.R_alloc | apply Kd.R_drewN | apply Kd.R_drew)); exact HO208.out)); obtain ⟨ce18, hcl18, hM18, hcc18, hfr18⟩ := Kd.R_elem HX18.out z41 (t212 : Int) (of_decide_eq_true (by first | (with_reducible assumption) | assumption)) (by have h_ : (t212 : Int) < ((t206.length : Int) : Int) := of_decide_eq_true (by first | (with_reducible assumption) | assumption); first | exact h_ | (have e_ := (Kd.R_reads' HO208.out).1; omega) | simpa using h_); obtain rfl := k41_openM hM18; have HP18 := Kd.R_seg HX18.out (t212 : Int) (of_decide_eq_true (by first | (with_reducible assumption) | assumption)) (by have h_ : (t212 : Int) < ((t206.length : Int) : Int) := of_decide_eq_true (by first | (with_reducible assumption) | assumption); first | exact h_ | (have e_ := (Kd.R_reads' HO208.out).1; omega) | simpa using h_) (seg := [.float .f64 bn]) (j := 1) hcl18 hcc18 (show 2 ≤ 2 from by decide) (x' := (⟨(rd_T41 t206 t212).f0, bn⟩ : S41)) (k41_mkM _ _ _ (⟨(rd_T41 t206 t212).f0, bn⟩ : S41) ) (fun _ hk => hk); have hx18_1 := hcc18 1 _ rfl; (try simp only [show (k41).sz = 2 from rfl, Nat.mul_one, Nat.add_zero] at hx18_1); have hf18_1 := hfr18 1; (try simp only [show (k41).sz = 2 from rfl, Nat.mul_one, Nat.add_zero] at hf18_1); clear hcl18 hcc18 hfr18 hM18) | ((with_reducible refine gate_store (t := 23) (p := 33) rfl ?_); refine store_event (t := 23) (p := 33) (v := ?vo_w19) (w1 := (w17.setCell ⟨go14, (t212 : Int).toNat * 2 + 1, none⟩ (.float .f64 bn))) ?hg ?ho ?hn ?hr ?_; (case ho => rfl); (case hg => rfl); (case hn => rfl); (case hr => first | (go_simp; done) | (go_simp; rfl)); intro w19 hw; have hg : w17.grownBy w19 (some go14) := (by rw [hw]; exact HP18.2); have hp_ : Kd.R k41 41 w19 w.heap.size (fun _ => True) (.slice (some ⟨go14, 0, none⟩) t206.length co15) y217 := (by rw [hw, Ny217.out]; exact HP18.1); clear HP18; have n0_ := Aside0.mk (IsS71.grown (by repeat (first | (with_reducible first | exact HI0.out | apply IsS71.alloc | apply IsS71.drewN | apply IsS71.drew | apply IsS71.set_1) | exact HI0.out)) hg (IsS71.own_ne HI0.out HO208.out (by decide))); have n1_ := Aside0.mk (hp_); have n2_ := Aside0.mk ((by rw [hw]; exact below_set (HB.out) (Nat.le_trans HL.out GB14.out) : Below w0.heap.size w0 w19)); have n3_ := Aside0.mk (KeepBut.trans (by repeat (first | (with_reducible first | exact HK.out | apply KeepBut.set_ | apply keep_drewN | apply keep_drew | apply keep_alloc) | exact HK.out)) (KeepBut.of_grown hg g) (Kd.R_base2 HO208.out)); clear HI0; clear HO208; clear HB; clear HK; have HI0 := n0_; have HO208 := n1_; have HB := n2_; have HK := n3_; clear n0_ n1_ n2_ n3_; clear hg hw hp_))
            go_meet
            case rel => exact ⟨rn1, rn2, _, (y217), (t215), HPN, H', ⟨by first | omega | exact Nat.le_refl _⟩, ⟨by (with_reducible repeat (first | apply Kd.R_alloc | apply Kd.R_drewN | apply Kd.R_drew)); exact HO208.out⟩, ⟨by repeat (first | (with_reducible first | exact HI0.out | apply IsS71.alloc | apply IsS71.drewN | apply IsS71.drew | apply IsS71.set_1) | exact HI0.out)⟩, ⟨by repeat (first | (with_reducible first | exact HK.out | apply KeepBut.set_ | apply keep_drewN | apply keep_drew | apply keep_alloc) | exact HK.out)⟩, ⟨by repeat (first | (with_reducible first | exact HB.out | apply below_alloc | apply pw_below_drewN | apply below_drew1 | refine below_set ?_ (IsS71.ge HI0.out)) | exact HB.out)⟩⟩
          · rw [if_neg c13] at H
            exact absurd H (by simp)
        · rw [if_neg c12] at H
          exact absurd H (by simp)
      · rw [if_neg c10] at H
        have c10b0 : (t214 == 0) = false := beq_eq_false_iff_ne.mpr c10
        have c10b1 : (t214 != 0) = true := bne_iff_ne.mpr c10
        (first | rw [c10b0] | (simp only [i64_w, i32_w]; rw [c10b0]) | skip)
        by_cases c20 : t214 = 1
        · rw [if_pos c20] at H
          have c20b0 : (t214 == 1) = true := beq_iff_eq.mpr c20
          have c20b1 : (t214 != 1) = false := bne_eq_false_iff_eq.mpr c20
          clear c20
          obtain ⟨y218, hy218⟩ : ∃ y_ : List Nat, y_ = (([4641240890982006784, 13864612927836782592, 4641258483168051200, 13864648112208871424] : List Nat)) := ⟨_, rfl⟩
          replace H : ((spec_l1Rd_below.f s0_0 t215 4).bind fun bt221 => (if 0 ≤ bt221.1 then (if bt221.1 < (y218.length : Int) then (if 0 ≤ t212 then (if t212 < (t206.length : Int) then (spec_l6DrawAny.j0 k (t206.set (t212 : Int).toNat (⟨(rd_T41 t206 t212).f0, rdOf 0 y218 bt221.1⟩ : S41)) s0_0 bt221.2) else (none)) else (none)) else (none)) else (none))) = some (r1, r2) := by first | (rw [hy218]; with_reducible exact H) | (have H2_ := (Option.bind_some _ _).symm.trans H; rw [hy218]; with_reducible exact H2_) | (have H2_ := (Option.bind_some _ _).symm.trans H; with_reducible exact H2_) | with_reducible exact H | (rw [hy218]; exact H) | exact H
          have Ny218 := Aside0.mk hy218
          clear hy218
          replace H := Option.bind_eq_some_iff.mp H
          obtain ⟨⟨t221, t222⟩, A210, H⟩ := H
          replace H : (if 0 ≤ t221 then (if t221 < (y218.length : Int) then (if 0 ≤ t212 then (if t212 < (t206.length : Int) then (spec_l6DrawAny.j0 k (t206.set (t212 : Int).toNat (⟨(rd_T41 t206 t212).f0, rdOf 0 y218 t221⟩ : S41)) s0_0 t222) else (none)) else (none)) else (none)) else (none)) = some (r1, r2) := H
          have A21 := Aside0.mk A210
          clear A210
          by_cases c22 : 0 ≤ t221
          · rw [if_pos c22] at H
            have c22b0 : decide (0 ≤ t221) = true := decide_eq_true c22
            clear c22
            by_cases c23 : t221 < (y218.length : Int)
            · rw [if_pos c23] at H
              have c23b0 : decide (t221 < (y218.length : Int)) = true := decide_eq_true c23
              clear c23
              by_cases c24 : 0 ≤ t212
              · rw [if_pos c24] at H
                have c24b0 : decide (0 ≤ t212) = true := decide_eq_true c24
                clear c24
                by_cases c25 : t212 < (t206.length : Int)
                · rw [if_pos c25] at H
                  have c25b0 : decide (t212 < (t206.length : Int)) = true := decide_eq_true c25
                  clear c25
                  obtain ⟨y224, hy224⟩ : ∃ y_ : List (S41), y_ = (t206.set (t212 : Int).toNat (⟨(rd_T41 t206 t212).f0, rdOf 0 y218 t221⟩ : S41)) := ⟨_, rfl⟩
                  replace H : (spec_l6DrawAny.j0 k y224 s0_0 t222) = some (r1, r2) := by first | (rw [hy224]; with_reducible exact H) | (have H2_ := (Option.bind_some _ _).symm.trans H; rw [hy224]; with_reducible exact H2_) | (have H2_ := (Option.bind_some _ _).symm.trans H; with_reducible exact H2_) | with_reducible exact H | (rw [hy224]; exact H) | exact H
                  have Ny224 := Aside0.mk hy224
                  clear hy224
                  have H' := Aside0.mk H
                  clear H
                  obtain ⟨Ao27, co27, eo27⟩ := Kd.R_slice HO208.out
                  subst eo27
                  go_wp2_with (first | ((with_reducible refine gate_callee (f := 32) rfl ?_); refine goesL_ (some 14) rfl rfl Try.func32 (by kernel_rfl) rfl #[.pointer (some ⟨g, 0, none⟩), .int .i64 (t206.length : Int)] rfl (by (try simp only [List.map_toArray, List.map_cons, List.map_nil]); first | done | rfl | (simp only [List.length_drop, List.length_take]; rfl)) ?_; (with_reducible refine (spec_l1Rd_below.calls g s0_0 t211 (t206.length : Int) t212 t213 w0 _ ?side1 ?side2 A8.out).mono ?_); (case side1 => repeat (first | (with_reducible first | exact HI0.out | apply IsS71.alloc | apply IsS71.drewN | apply IsS71.drew | apply IsS71.set_1) | exact HI0.out)); (case side2 => repeat (first | (with_reducible first | exact HB.out | apply below_alloc | apply pw_below_drewN | apply below_drew1 | refine below_set ?_ (IsS71.ge HI0.out)) | exact HB.out)); rintro e w28 ⟨rfl, hi, hb, hk⟩; refine ⟨_, rfl, ?_⟩; have n0_ := Aside0.mk (Kd.R_mono (Kd.R_keep (IsS71.apart (show IsS71 w0 _ g s0_0 t211 from by repeat (first | (with_reducible first | exact HI0.out | apply IsS71.alloc | apply IsS71.drewN | apply IsS71.drew | apply IsS71.set_1) | exact HI0.out)) (by (with_reducible repeat (first | apply Kd.R_alloc | apply Kd.R_drewN | apply Kd.R_drew)); exact HO208.out) (by decide)) hk (fun _ h => h.2)) (fun _ h => h.1)); have n1_ := Aside0.mk (KeepBut.trans (by repeat (first | (with_reducible first | exact HK.out | apply KeepBut.set_ | apply keep_drewN | apply keep_drew | apply keep_alloc) | exact HK.out)) hk (.inl rfl)); have n2_ := Aside0.mk (hb); have n3_ := Aside0.mk (hi); clear HO208; clear HK; clear HB; clear HI0; have HO208 := n0_; have HK := n1_; have HB := n2_; have HI0 := n3_; clear n0_ n1_ n2_ n3_; (try clear hb); (try clear hb2); (try clear hk); (try clear hi)) | ((with_reducible refine gate_callee (f := 32) rfl ?_); refine goesL_ (some 16) rfl rfl Try.func32 (by kernel_rfl) rfl #[.pointer (some ⟨g, 0, none⟩), .int .i64 6] rfl (by (try simp only [List.map_toArray, List.map_cons, List.map_nil]); first | done | rfl | (simp only [List.length_drop, List.length_take]; rfl)) ?_; (with_reducible refine (spec_l1Rd_below.calls g s0_0 t213 6 t214 t215 w0 _ ?side1 ?side2 A9.out).mono ?_); (case side1 => repeat (first | (with_reducible first | exact HI0.out | apply IsS71.alloc | apply IsS71.drewN | apply IsS71.drew | apply IsS71.set_1) | exact HI0.out)); (case side2 => repeat (first | (with_reducible first | exact HB.out | apply below_alloc | apply pw_below_drewN | apply below_drew1 | refine below_set ?_ (IsS71.ge HI0.out)) | exact HB.out)); rintro e w29 ⟨rfl, hi, hb, hk⟩; refine ⟨_, rfl, ?_⟩; have n0_ := Aside0.mk (Kd.R_mono (Kd.R_keep (IsS71.apart (show IsS71 w0 _ g s0_0 t213 from by repeat (first | (with_reducible first | exact HI0.out | apply IsS71.alloc | apply IsS71.drewN | apply IsS71.drew | apply IsS71.set_1) | exact HI0.out)) (by (with_reducible repeat (first | apply Kd.R_alloc | apply Kd.R_drewN | apply Kd.R_drew)); exact HO208.out) (by decide)) hk (fun _ h => h.2)) (fun _ h => h.1)); have n1_ := Aside0.mk (KeepBut.trans (by repeat (first | (with_reducible first | exact HK.out | apply KeepBut.set_ | apply keep_drewN | apply keep_drew | apply keep_alloc) | exact HK.out)) hk (.inl rfl)); have n2_ := Aside0.mk (hb); have n3_ := Aside0.mk (hi); clear HO208; clear HK; clear HB; clear HI0; have HO208 := n0_; have HK := n1_; have HB := n2_; have HI0 := n3_; clear n0_ n1_ n2_ n3_; (try clear hb); (try clear hb2); (try clear hk); (try clear hi)) | ((with_reducible refine gate_dst (N := 38) rfl ?_); refine Kd.R_lit Kd.f64 _ 23 ?hg (N := 38) ?hd (xs := ([4641240890982006784, 13864612927836782592, 4641258483168051200, 13864648112208871424] : List Nat)) (inner := [.float .f64 4641240890982006784, .float .f64 13864612927836782592, .float .f64 4641258483168051200, .float .f64 13864648112208871424]) (ok := fun _ => True) (okp := fun _ => True) ?hr ?hp (fun _ hk => hk) trivial (Below.refl _ _) (Nat.le_refl _) (by simp) ?_; (case hd => rfl); (case hg => rfl); (case hr => first | (go_simp; done) | (go_simp; rfl)); (case hp => exact (Reps.one (show Kd.M Kd.f64 _ _ _ 4641240890982006784 [.float .f64 4641240890982006784] from rfl) (Reps.one (show Kd.M Kd.f64 _ _ _ 13864612927836782592 [.float .f64 13864612927836782592] from rfl) (Reps.one (show Kd.M Kd.f64 _ _ _ 4641258483168051200 [.float .f64 4641258483168051200] from rfl) (Reps.one (show Kd.M Kd.f64 _ _ _ 13864648112208871424 [.float .f64 13864648112208871424] from rfl) (Reps.none _ _)))))); intro v219 w30 ho31 hb hg_ hnew_; clear hg_ hnew_; (first | rw [← Ny218.out] at ho31 | (simp only [Int.reduceToNat] at ho31; rw [← Ny218.out] at ho31)); have n0_ := Aside0.mk (Kd.R_below (by (with_reducible repeat (first | apply Kd.R_alloc | apply Kd.R_drewN | apply Kd.R_drew)); exact HO208.out) hb); have n1_ := Aside0.mk (Kd.R_lower ho31 (keep_size (w := w) (g := g) (row := none) (by repeat (first | (with_reducible first | exact HK.out | apply KeepBut.set_ | apply keep_drewN | apply keep_drew | apply keep_alloc) | exact HK.out)))); have n2_ := Aside0.mk (IsS71.below (by repeat (first | (with_reducible first | exact HI0.out | apply IsS71.alloc | apply IsS71.drewN | apply IsS71.drew | apply IsS71.set_1) | exact HI0.out)) hb); have n3_ := Aside0.mk (KeepBut.trans (by repeat (first | (with_reducible first | exact HK.out | apply KeepBut.set_ | apply keep_drewN | apply keep_drew | apply keep_alloc) | exact HK.out)) (KeepBut.of_below hb g none) (.inl rfl)); have n4_ := Aside0.mk (below_step (by repeat (first | (with_reducible first | exact HB.out | apply below_alloc | apply pw_below_drewN | apply below_drew1 | refine below_set ?_ (IsS71.ge HI0.out)) | exact HB.out)) hb); clear HO208; clear HI0; clear HK; clear HB; have HO208 := n0_; have HO220 := n1_; have HI0 := n2_; have HK := n3_; have HB := n4_; clear n0_ n1_ n2_ n3_ n4_; clear hb ho31) | ((with_reducible refine gate_callee (f := 32) rfl ?_); refine goesL_ (some 40) rfl rfl Try.func32 (by kernel_rfl) rfl #[.pointer (some ⟨g, 0, none⟩), .int .i64 4] rfl (by (try simp only [List.map_toArray, List.map_cons, List.map_nil]); first | done | rfl | (simp only [List.length_drop, List.length_take]; rfl)) ?_; (with_reducible refine (spec_l1Rd_below.calls g s0_0 t215 4 t221 t222 w0 _ ?side1 ?side2 A21.out).mono ?_); (case side1 => repeat (first | (with_reducible first | exact HI0.out | apply IsS71.alloc | apply IsS71.drewN | apply IsS71.drew | apply IsS71.set_1) | exact HI0.out)); (case side2 => repeat (first | (with_reducible first | exact HB.out | apply below_alloc | apply pw_below_drewN | apply below_drew1 | refine below_set ?_ (IsS71.ge HI0.out)) | exact HB.out)); rintro e w32 ⟨rfl, hi, hb, hk⟩; refine ⟨_, rfl, ?_⟩; have n0_ := Aside0.mk (Kd.R_mono (Kd.R_keep (IsS71.apart (show IsS71 w0 _ g s0_0 t215 from by repeat (first | (with_reducible first | exact HI0.out | apply IsS71.alloc | apply IsS71.drewN | apply IsS71.drew | apply IsS71.set_1) | exact HI0.out)) (by (with_reducible repeat (first | apply Kd.R_alloc | apply Kd.R_drewN | apply Kd.R_drew)); exact HO208.out) (by decide)) hk (fun _ h => h.2)) (fun _ h => h.1)); have n1_ := Aside0.mk (Kd.R_mono (Kd.R_keep (IsS71.apart (show IsS71 w0 _ g s0_0 t215 from by repeat (first | (with_reducible first | exact HI0.out | apply IsS71.alloc | apply IsS71.drewN | apply IsS71.drew | apply IsS71.set_1) | exact HI0.out)) (by (with_reducible repeat (first | apply Kd.R_alloc | apply Kd.R_drewN | apply Kd.R_drew)); exact HO220.out) (by decide)) hk (fun _ h => h.2)) (fun _ h => h.1)); have n2_ := Aside0.mk (KeepBut.trans (by repeat (first | (with_reducible first | exact HK.out | apply KeepBut.set_ | apply keep_drewN | apply keep_drew | apply keep_alloc) | exact HK.out)) hk (.inl rfl)); have n3_ := Aside0.mk (hb); have n4_ := Aside0.mk (hi); clear HO208; clear HO220; clear HK; clear HB; clear HI0; have HO208 := n0_; have HO220 := n1_; have HK := n2_; have HB := n3_; have HI0 := n4_; clear n0_ n1_ n2_ n3_ n4_; (try clear hb); (try clear hb2); (try clear hk); (try clear hi); obtain ⟨Ao33, co33, eo33⟩ := Kd.R_slice HO220.out; subst eo33; have p223 : 0 ≤ (t221 : Int) := of_decide_eq_true (by first | (with_reducible assumption) | assumption); have q223 : t221 < (y218.length : Int) := of_decide_eq_true (by first | (with_reducible assumption) | assumption); obtain ⟨ad223, e223, hx223_0⟩ := Kd.at_f64 (Kd.R_reads' HO220.out).2.2 t221 p223 q223; cases e223; replace p223 := eq_true p223; replace q223 := eq_true q223; have p26 : 0 ≤ (t212 : Int) := of_decide_eq_true (by first | (with_reducible assumption) | assumption); have q26 : (t212 : Int) < ((t206.length : Int) : Int) := of_decide_eq_true (by first | (with_reducible assumption) | assumption); obtain ⟨go26, co26, eo26, gb26, gl26, cl26, HG26⟩ := Kd.R_form HO208.out (by omega); (first | cases eo26 | (injection eo26 with ea_ en_ ec_; (first | subst ea_ | (injection ea_ with ea_; subst ea_)); subst ec_; clear en_)); have GB26 := Aside0.mk gb26; have GG26 := Aside0.mk HG26; clear gb26 gl26 HG26; obtain ⟨ce26, hcl26, hM26, hcc26, hfr26⟩ := Kd.R_elem HO208.out z41 (t212 : Int) p26 q26; obtain rfl := k41_openM hM26; have hx26_0 : w32.cell? ⟨go26, (t212 : Int).toNat * 2, none⟩ = some (.int .i64 ((rd_T41 t206 t212).f0)) := hcc26 0 _ rfl; have hx26_1 : w32.cell? ⟨go26, (t212 : Int).toNat * 2 + 1, none⟩ = some (.float .f64 ((rd_T41 t206 t212).f1)) := hcc26 1 _ rfl; have hf26_0 : w32.frozen? ⟨go26, (t212 : Int).toNat * 2, none⟩ = false := hfr26 0; have hf26_1 : w32.frozen? ⟨go26, (t212 : Int).toNat * 2 + 1, none⟩ = false := hfr26 1; clear hcl26 hcc26 hfr26 hM26; replace p26 := eq_true p26; replace q26 := eq_true q26; have HX34 := Aside0.mk (show Kd.R k41 41 w32 w.heap.size (fun _ => True) (.slice (some ⟨go26, 0, none⟩) t206.length co27) t206 from (by (with_reducible repeat (first | apply Kd.R_alloc | apply Kd.R_drewN | apply Kd.R_drew)); exact HO208.out)); obtain ⟨ce34, hcl34, hM34, hcc34, hfr34⟩ := Kd.R_elem HX34.out z41 (t212 : Int) (of_decide_eq_true (by first | (with_reducible assumption) | assumption)) (by have h_ : (t212 : Int) < ((t206.length : Int) : Int) := of_decide_eq_true (by first | (with_reducible assumption) | assumption); first | exact h_ | (have e_ := (Kd.R_reads' HO208.out).1; omega) | simpa using h_); obtain rfl := k41_openM hM34; have HP34 := Kd.R_seg HX34.out (t212 : Int) (of_decide_eq_true (by first | (with_reducible assumption) | assumption)) (by have h_ : (t212 : Int) < ((t206.length : Int) : Int) := of_decide_eq_true (by first | (with_reducible assumption) | assumption); first | exact h_ | (have e_ := (Kd.R_reads' HO208.out).1; omega) | simpa using h_) (seg := [.float .f64 (rdOf 0 y218 t221)]) (j := 1) hcl34 hcc34 (show 2 ≤ 2 from by decide) (x' := (⟨(rd_T41 t206 t212).f0, rdOf 0 y218 t221⟩ : S41)) (k41_mkM _ _ _ (⟨(rd_T41 t206 t212).f0, rdOf 0 y218 t221⟩ : S41) ) (fun _ hk => hk); have hx34_1 := hcc34 1 _ rfl; (try simp only [show (k41).sz = 2 from rfl, Nat.mul_one, Nat.add_zero] at hx34_1); have hf34_1 := hfr34 1; (try simp only [show (k41).sz = 2 from rfl, Nat.mul_one, Nat.add_zero] at hf34_1); clear hcl34 hcc34 hfr34 hM34) | ((with_reducible refine gate_store (t := 23) (p := 44) rfl ?_); refine store_event (t := 23) (p := 44) (v := ?vo_w35) (w1 := (w32.setCell ⟨go26, (t212 : Int).toNat * 2 + 1, none⟩ (.float .f64 (rdOf 0 y218 t221)))) ?hg ?ho ?hn ?hr ?_; (case ho => rfl); (case hg => rfl); (case hn => rfl); (case hr => first | (go_simp; done) | (go_simp; rfl)); intro w35 hw; have hg : w32.grownBy w35 (some go26) := (by rw [hw]; exact HP34.2); have hp_ : Kd.R k41 41 w35 w.heap.size (fun _ => True) (.slice (some ⟨go26, 0, none⟩) t206.length co27) y224 := (by rw [hw, Ny224.out]; exact HP34.1); clear HP34; have n0_ := Aside0.mk (IsS71.grown (by repeat (first | (with_reducible first | exact HI0.out | apply IsS71.alloc | apply IsS71.drewN | apply IsS71.drew | apply IsS71.set_1) | exact HI0.out)) hg (IsS71.own_ne HI0.out HO208.out (by decide))); have n1_ := Aside0.mk (hp_); have n2_ := Aside0.mk (Kd.R_over' (v := (.slice (some ⟨go26, 0, none⟩) t206.length co27)) (by (with_reducible repeat (first | apply Kd.R_alloc | apply Kd.R_drewN | apply Kd.R_drew)); exact HO220.out) (Kd.R_typed HO208.out) (by decide) hg); have n3_ := Aside0.mk ((by rw [hw]; exact below_set (HB.out) (Nat.le_trans HL.out GB26.out) : Below w0.heap.size w0 w35)); have n4_ := Aside0.mk (KeepBut.trans (by repeat (first | (with_reducible first | exact HK.out | apply KeepBut.set_ | apply keep_drewN | apply keep_drew | apply keep_alloc) | exact HK.out)) (KeepBut.of_grown hg g) (Kd.R_base2 HO208.out)); clear HI0; clear HO208; clear HO220; clear HB; clear HK; have HI0 := n0_; have HO208 := n1_; have HO220 := n2_; have HB := n3_; have HK := n4_; clear n0_ n1_ n2_ n3_ n4_; clear hg hw hp_))
                  go_meet
                  case rel => exact ⟨_, _, _, (y224), (t222), HPOS, H', ⟨by first | omega | exact Nat.le_refl _⟩, ⟨by (with_reducible repeat (first | apply Kd.R_alloc | apply Kd.R_drewN | apply Kd.R_drew)); exact HO208.out⟩, ⟨by repeat (first | (with_reducible first | exact HI0.out | apply IsS71.alloc | apply IsS71.drewN | apply IsS71.drew | apply IsS71.set_1) | exact HI0.out)⟩, ⟨by repeat (first | (with_reducible first | exact HK.out | apply KeepBut.set_ | apply keep_drewN | apply keep_drew | apply keep_alloc) | exact HK.out)⟩, ⟨by repeat (first | (with_reducible first | exact HB.out | apply below_alloc | apply pw_below_drewN | apply below_drew1 | refine below_set ?_ (IsS71.ge HI0.out)) | exact HB.out)⟩⟩
                · rw [if_neg c25] at H
                  exact absurd H (by simp)
              · rw [if_neg c24] at H
                exact absurd H (by simp)
            · rw [if_neg c23] at H
              exact absurd H (by simp)
          · rw [if_neg c22] at H
            exact absurd H (by simp)
        · rw [if_neg c20] at H
          have c20b0 : (t214 == 1) = false := beq_eq_false_iff_ne.mpr c20
          have c20b1 : (t214 != 1) = true := bne_iff_ne.mpr c20
          by_cases c36 : t214 = 2
          · rw [if_pos c36] at H
            have c36b0 : (t214 == 2) = true := beq_iff_eq.mpr c36
            have c36b1 : (t214 != 2) = false := bne_eq_false_iff_eq.mpr c36
            clear c36
            obtain ⟨y225, hy225⟩ : ∃ y_ : List Int, y_ = (([0, 1, 12000, 12001, (-5)] : List Int)) := ⟨_, rfl⟩
            replace H : ((spec_l1Rd_below.f s0_0 t215 5).bind fun bt228 => (if 0 ≤ bt228.1 then (if bt228.1 < (y225.length : Int) then (if 0 ≤ t212 then (if t212 < (t206.length : Int) then (spec_l6DrawAny.j0 k (t206.set (t212 : Int).toNat (⟨rd y225 bt228.1, (rd_T41 t206 t212).f1⟩ : S41)) s0_0 bt228.2) else (none)) else (none)) else (none)) else (none))) = some (r1, r2) := by first | (rw [hy225]; with_reducible exact H) | (have H2_ := (Option.bind_some _ _).symm.trans H; rw [hy225]; with_reducible exact H2_) | (have H2_ := (Option.bind_some _ _).symm.trans H; with_reducible exact H2_) | with_reducible exact H | (rw [hy225]; exact H) | exact H
            have Ny225 := Aside0.mk hy225
            clear hy225
            replace H := Option.bind_eq_some_iff.mp H
            obtain ⟨⟨t228, t229⟩, A370, H⟩ := H
            replace H : (if 0 ≤ t228 then (if t228 < (y225.length : Int) then (if 0 ≤ t212 then (if t212 < (t206.length : Int) then (spec_l6DrawAny.j0 k (t206.set (t212 : Int).toNat (⟨rd y225 t228, (rd_T41 t206 t212).f1⟩ : S41)) s0_0 t229) else (none)) else (none)) else (none)) else (none)) = some (r1, r2) := H
            have A37 := Aside0.mk A370
            clear A370
            by_cases c38 : 0 ≤ t228
            · rw [if_pos c38] at H
              have c38b0 : decide (0 ≤ t228) = true := decide_eq_true c38
              clear c38
              by_cases c39 : t228 < (y225.length : Int)
              · rw [if_pos c39] at H
                have c39b0 : decide (t228 < (y225.length : Int)) = true := decide_eq_true c39
                clear c39
                by_cases c40 : 0 ≤ t212
                · rw [if_pos c40] at H
                  have c40b0 : decide (0 ≤ t212) = true := decide_eq_true c40
                  clear c40
                  by_cases c41 : t212 < (t206.length : Int)
                  · rw [if_pos c41] at H
                    have c41b0 : decide (t212 < (t206.length : Int)) = true := decide_eq_true c41
                    clear c41
                    obtain ⟨y231, hy231⟩ : ∃ y_ : List (S41), y_ = (t206.set (t212 : Int).toNat (⟨rd y225 t228, (rd_T41 t206 t212).f1⟩ : S41)) := ⟨_, rfl⟩
                    replace H : (spec_l6DrawAny.j0 k y231 s0_0 t229) = some (r1, r2) := by first | (rw [hy231]; with_reducible exact H) | (have H2_ := (Option.bind_some _ _).symm.trans H; rw [hy231]; with_reducible exact H2_) | (have H2_ := (Option.bind_some _ _).symm.trans H; with_reducible exact H2_) | with_reducible exact H | (rw [hy231]; exact H) | exact H
                    have Ny231 := Aside0.mk hy231
                    clear hy231
                    have H' := Aside0.mk H
                    clear H
                    obtain ⟨Ao43, co43, eo43⟩ := Kd.R_slice HO208.out
                    subst eo43
                    go_wp2_with (first | ((with_reducible refine gate_callee (f := 32) rfl ?_); refine goesL_ (some 14) rfl rfl Try.func32 (by kernel_rfl) rfl #[.pointer (some ⟨g, 0, none⟩), .int .i64 (t206.length : Int)] rfl (by (try simp only [List.map_toArray, List.map_cons, List.map_nil]); first | done | rfl | (simp only [List.length_drop, List.length_take]; rfl)) ?_; (with_reducible refine (spec_l1Rd_below.calls g s0_0 t211 (t206.length : Int) t212 t213 w0 _ ?side1 ?side2 A8.out).mono ?_); (case side1 => repeat (first | (with_reducible first | exact HI0.out | apply IsS71.alloc | apply IsS71.drewN | apply IsS71.drew | apply IsS71.set_1) | exact HI0.out)); (case side2 => repeat (first | (with_reducible first | exact HB.out | apply below_alloc | apply pw_below_drewN | apply below_drew1 | refine below_set ?_ (IsS71.ge HI0.out)) | exact HB.out)); rintro e w44 ⟨rfl, hi, hb, hk⟩; refine ⟨_, rfl, ?_⟩; have n0_ := Aside0.mk (Kd.R_mono (Kd.R_keep (IsS71.apart (show IsS71 w0 _ g s0_0 t211 from by repeat (first | (with_reducible first | exact HI0.out | apply IsS71.alloc | apply IsS71.drewN | apply IsS71.drew | apply IsS71.set_1) | exact HI0.out)) (by (with_reducible repeat (first | apply Kd.R_alloc | apply Kd.R_drewN | apply Kd.R_drew)); exact HO208.out) (by decide)) hk (fun _ h => h.2)) (fun _ h => h.1)); have n1_ := Aside0.mk (KeepBut.trans (by repeat (first | (with_reducible first | exact HK.out | apply KeepBut.set_ | apply keep_drewN | apply keep_drew | apply keep_alloc) | exact HK.out)) hk (.inl rfl)); have n2_ := Aside0.mk (hb); have n3_ := Aside0.mk (hi); clear HO208; clear HK; clear HB; clear HI0; have HO208 := n0_; have HK := n1_; have HB := n2_; have HI0 := n3_; clear n0_ n1_ n2_ n3_; (try clear hb); (try clear hb2); (try clear hk); (try clear hi)) | ((with_reducible refine gate_callee (f := 32) rfl ?_); refine goesL_ (some 16) rfl rfl Try.func32 (by kernel_rfl) rfl #[.pointer (some ⟨g, 0, none⟩), .int .i64 6] rfl (by (try simp only [List.map_toArray, List.map_cons, List.map_nil]); first | done | rfl | (simp only [List.length_drop, List.length_take]; rfl)) ?_; (with_reducible refine (spec_l1Rd_below.calls g s0_0 t213 6 t214 t215 w0 _ ?side1 ?side2 A9.out).mono ?_); (case side1 => repeat (first | (with_reducible first | exact HI0.out | apply IsS71.alloc | apply IsS71.drewN | apply IsS71.drew | apply IsS71.set_1) | exact HI0.out)); (case side2 => repeat (first | (with_reducible first | exact HB.out | apply below_alloc | apply pw_below_drewN | apply below_drew1 | refine below_set ?_ (IsS71.ge HI0.out)) | exact HB.out)); rintro e w45 ⟨rfl, hi, hb, hk⟩; refine ⟨_, rfl, ?_⟩; have n0_ := Aside0.mk (Kd.R_mono (Kd.R_keep (IsS71.apart (show IsS71 w0 _ g s0_0 t213 from by repeat (first | (with_reducible first | exact HI0.out | apply IsS71.alloc | apply IsS71.drewN | apply IsS71.drew | apply IsS71.set_1) | exact HI0.out)) (by (with_reducible repeat (first | apply Kd.R_alloc | apply Kd.R_drewN | apply Kd.R_drew)); exact HO208.out) (by decide)) hk (fun _ h => h.2)) (fun _ h => h.1)); have n1_ := Aside0.mk (KeepBut.trans (by repeat (first | (with_reducible first | exact HK.out | apply KeepBut.set_ | apply keep_drewN | apply keep_drew | apply keep_alloc) | exact HK.out)) hk (.inl rfl)); have n2_ := Aside0.mk (hb); have n3_ := Aside0.mk (hi); clear HO208; clear HK; clear HB; clear HI0; have HO208 := n0_; have HK := n1_; have HB := n2_; have HI0 := n3_; clear n0_ n1_ n2_ n3_; (try clear hb); (try clear hb2); (try clear hk); (try clear hi)) | ((with_reducible refine gate_dst (N := 49) rfl ?_); refine Kd.R_lit (Kd.int .i64) _ 2 ?hg (N := 49) ?hd (xs := ([0, 1, 12000, 12001, (-5)] : List Int)) (inner := [.int .i64 0, .int .i64 1, .int .i64 12000, .int .i64 12001, .int .i64 (-5)]) (ok := fun _ => True) (okp := fun _ => True) ?hr ?hp (fun _ hk => hk) trivial (Below.refl _ _) (Nat.le_refl _) (by simp) ?_; (case hd => rfl); (case hg => rfl); (case hr => first | (go_simp; done) | (go_simp; rfl)); (case hp => exact (Reps.one (show Kd.M (Kd.int .i64) _ _ _ 0 [.int .i64 0] from rfl) (Reps.one (show Kd.M (Kd.int .i64) _ _ _ 1 [.int .i64 1] from rfl) (Reps.one (show Kd.M (Kd.int .i64) _ _ _ 12000 [.int .i64 12000] from rfl) (Reps.one (show Kd.M (Kd.int .i64) _ _ _ 12001 [.int .i64 12001] from rfl) (Reps.one (show Kd.M (Kd.int .i64) _ _ _ (-5) [.int .i64 (-5)] from rfl) (Reps.none _ _))))))); intro v226 w46 ho47 hb hg_ hnew_; clear hg_ hnew_; (first | rw [← Ny225.out] at ho47 | (simp only [Int.reduceToNat] at ho47; rw [← Ny225.out] at ho47)); have n0_ := Aside0.mk (Kd.R_below (by (with_reducible repeat (first | apply Kd.R_alloc | apply Kd.R_drewN | apply Kd.R_drew)); exact HO208.out) hb); have n1_ := Aside0.mk (Kd.R_lower ho47 (keep_size (w := w) (g := g) (row := none) (by repeat (first | (with_reducible first | exact HK.out | apply KeepBut.set_ | apply keep_drewN | apply keep_drew | apply keep_alloc) | exact HK.out)))); have n2_ := Aside0.mk (IsS71.below (by repeat (first | (with_reducible first | exact HI0.out | apply IsS71.alloc | apply IsS71.drewN | apply IsS71.drew | apply IsS71.set_1) | exact HI0.out)) hb); have n3_ := Aside0.mk (KeepBut.trans (by repeat (first | (with_reducible first | exact HK.out | apply KeepBut.set_ | apply keep_drewN | apply keep_drew | apply keep_alloc) | exact HK.out)) (KeepBut.of_below hb g none) (.inl rfl)); have n4_ := Aside0.mk (below_step (by repeat (first | (with_reducible first | exact HB.out | apply below_alloc | apply pw_below_drewN | apply below_drew1 | refine below_set ?_ (IsS71.ge HI0.out)) | exact HB.out)) hb); clear HO208; clear HI0; clear HK; clear HB; have HO208 := n0_; have HO227 := n1_; have HI0 := n2_; have HK := n3_; have HB := n4_; clear n0_ n1_ n2_ n3_ n4_; clear hb ho47) | ((with_reducible refine gate_callee (f := 32) rfl ?_); refine goesL_ (some 51) rfl rfl Try.func32 (by kernel_rfl) rfl #[.pointer (some ⟨g, 0, none⟩), .int .i64 5] rfl (by (try simp only [List.map_toArray, List.map_cons, List.map_nil]); first | done | rfl | (simp only [List.length_drop, List.length_take]; rfl)) ?_; (with_reducible refine (spec_l1Rd_below.calls g s0_0 t215 5 t228 t229 w0 _ ?side1 ?side2 A37.out).mono ?_); (case side1 => repeat (first | (with_reducible first | exact HI0.out | apply IsS71.alloc | apply IsS71.drewN | apply IsS71.drew | apply IsS71.set_1) | exact HI0.out)); (case side2 => repeat (first | (with_reducible first | exact HB.out | apply below_alloc | apply pw_below_drewN | apply below_drew1 | refine below_set ?_ (IsS71.ge HI0.out)) | exact HB.out)); rintro e w48 ⟨rfl, hi, hb, hk⟩; refine ⟨_, rfl, ?_⟩; have n0_ := Aside0.mk (Kd.R_mono (Kd.R_keep (IsS71.apart (show IsS71 w0 _ g s0_0 t215 from by repeat (first | (with_reducible first | exact HI0.out | apply IsS71.alloc | apply IsS71.drewN | apply IsS71.drew | apply IsS71.set_1) | exact HI0.out)) (by (with_reducible repeat (first | apply Kd.R_alloc | apply Kd.R_drewN | apply Kd.R_drew)); exact HO208.out) (by decide)) hk (fun _ h => h.2)) (fun _ h => h.1)); have n1_ := Aside0.mk (Kd.R_mono (Kd.R_keep (IsS71.apart (show IsS71 w0 _ g s0_0 t215 from by repeat (first | (with_reducible first | exact HI0.out | apply IsS71.alloc | apply IsS71.drewN | apply IsS71.drew | apply IsS71.set_1) | exact HI0.out)) (by (with_reducible repeat (first | apply Kd.R_alloc | apply Kd.R_drewN | apply Kd.R_drew)); exact HO227.out) (by decide)) hk (fun _ h => h.2)) (fun _ h => h.1)); have n2_ := Aside0.mk (KeepBut.trans (by repeat (first | (with_reducible first | exact HK.out | apply KeepBut.set_ | apply keep_drewN | apply keep_drew | apply keep_alloc) | exact HK.out)) hk (.inl rfl)); have n3_ := Aside0.mk (hb); have n4_ := Aside0.mk (hi); clear HO208; clear HO227; clear HK; clear HB; clear HI0; have HO208 := n0_; have HO227 := n1_; have HK := n2_; have HB := n3_; have HI0 := n4_; clear n0_ n1_ n2_ n3_ n4_; (try clear hb); (try clear hb2); (try clear hk); (try clear hi); obtain ⟨Ao49, co49, eo49⟩ := Kd.R_slice HO227.out; subst eo49; have p230 : 0 ≤ (t228 : Int) := of_decide_eq_true (by first | (with_reducible assumption) | assumption); have q230 : t228 < (y225.length : Int) := of_decide_eq_true (by first | (with_reducible assumption) | assumption); obtain ⟨ad230, e230, hx230_0⟩ := Kd.at_int (Kd.R_reads' HO227.out).2.2 t228 p230 q230; cases e230; replace p230 := eq_true p230; replace q230 := eq_true q230; have p42 : 0 ≤ (t212 : Int) := of_decide_eq_true (by first | (with_reducible assumption) | assumption); have q42 : (t212 : Int) < ((t206.length : Int) : Int) := of_decide_eq_true (by first | (with_reducible assumption) | assumption); obtain ⟨go42, co42, eo42, gb42, gl42, cl42, HG42⟩ := Kd.R_form HO208.out (by omega); (first | cases eo42 | (injection eo42 with ea_ en_ ec_; (first | subst ea_ | (injection ea_ with ea_; subst ea_)); subst ec_; clear en_)); have GB42 := Aside0.mk gb42; have GG42 := Aside0.mk HG42; clear gb42 gl42 HG42; obtain ⟨ce42, hcl42, hM42, hcc42, hfr42⟩ := Kd.R_elem HO208.out z41 (t212 : Int) p42 q42; obtain rfl := k41_openM hM42; have hx42_0 : w48.cell? ⟨go42, (t212 : Int).toNat * 2, none⟩ = some (.int .i64 ((rd_T41 t206 t212).f0)) := hcc42 0 _ rfl; have hx42_1 : w48.cell? ⟨go42, (t212 : Int).toNat * 2 + 1, none⟩ = some (.float .f64 ((rd_T41 t206 t212).f1)) := hcc42 1 _ rfl; have hf42_0 : w48.frozen? ⟨go42, (t212 : Int).toNat * 2, none⟩ = false := hfr42 0; have hf42_1 : w48.frozen? ⟨go42, (t212 : Int).toNat * 2 + 1, none⟩ = false := hfr42 1; clear hcl42 hcc42 hfr42 hM42; replace p42 := eq_true p42; replace q42 := eq_true q42; have HX50 := Aside0.mk (show Kd.R k41 41 w48 w.heap.size (fun _ => True) (.slice (some ⟨go42, 0, none⟩) t206.length co43) t206 from (by (with_reducible repeat (first | apply Kd.R_alloc | apply Kd.R_drewN | apply Kd.R_drew)); exact HO208.out)); obtain ⟨ce50, hcl50, hM50, hcc50, hfr50⟩ := Kd.R_elem HX50.out z41 (t212 : Int) (of_decide_eq_true (by first | (with_reducible assumption) | assumption)) (by have h_ : (t212 : Int) < ((t206.length : Int) : Int) := of_decide_eq_true (by first | (with_reducible assumption) | assumption); first | exact h_ | (have e_ := (Kd.R_reads' HO208.out).1; omega) | simpa using h_); obtain rfl := k41_openM hM50; have HP50 := Kd.R_seg HX50.out (t212 : Int) (of_decide_eq_true (by first | (with_reducible assumption) | assumption)) (by have h_ : (t212 : Int) < ((t206.length : Int) : Int) := of_decide_eq_true (by first | (with_reducible assumption) | assumption); first | exact h_ | (have e_ := (Kd.R_reads' HO208.out).1; omega) | simpa using h_) (seg := [.int .i64 (rd y225 t228)]) (j := 0) hcl50 hcc50 (show 1 ≤ 2 from by decide) (x' := (⟨rd y225 t228, (rd_T41 t206 t212).f1⟩ : S41)) (k41_mkM _ _ _ (⟨rd y225 t228, (rd_T41 t206 t212).f1⟩ : S41) ) (fun _ hk => hk); have hx50_0 := hcc50 0 _ rfl; (try simp only [show (k41).sz = 2 from rfl, Nat.mul_one, Nat.add_zero] at hx50_0); have hf50_0 := hfr50 0; (try simp only [show (k41).sz = 2 from rfl, Nat.mul_one, Nat.add_zero] at hf50_0); clear hcl50 hcc50 hfr50 hM50) | ((with_reducible refine gate_store (t := 2) (p := 55) rfl ?_); refine store_event (t := 2) (p := 55) (v := ?vo_w51) (w1 := (w48.setCell ⟨go42, (t212 : Int).toNat * 2, none⟩ (.int .i64 (rd y225 t228)))) ?hg ?ho ?hn ?hr ?_; (case ho => rfl); (case hg => rfl); (case hn => rfl); (case hr => first | (go_simp; done) | (go_simp; rfl)); intro w51 hw; have hg : w48.grownBy w51 (some go42) := (by rw [hw]; exact HP50.2); have hp_ : Kd.R k41 41 w51 w.heap.size (fun _ => True) (.slice (some ⟨go42, 0, none⟩) t206.length co43) y231 := (by rw [hw, Ny231.out]; exact HP50.1); clear HP50; have n0_ := Aside0.mk (IsS71.grown (by repeat (first | (with_reducible first | exact HI0.out | apply IsS71.alloc | apply IsS71.drewN | apply IsS71.drew | apply IsS71.set_1) | exact HI0.out)) hg (IsS71.own_ne HI0.out HO208.out (by decide))); have n1_ := Aside0.mk (hp_); have n2_ := Aside0.mk (Kd.R_over' (v := (.slice (some ⟨go42, 0, none⟩) t206.length co43)) (by (with_reducible repeat (first | apply Kd.R_alloc | apply Kd.R_drewN | apply Kd.R_drew)); exact HO227.out) (Kd.R_typed HO208.out) (by decide) hg); have n3_ := Aside0.mk ((by rw [hw]; exact below_set (HB.out) (Nat.le_trans HL.out GB42.out) : Below w0.heap.size w0 w51)); have n4_ := Aside0.mk (KeepBut.trans (by repeat (first | (with_reducible first | exact HK.out | apply KeepBut.set_ | apply keep_drewN | apply keep_drew | apply keep_alloc) | exact HK.out)) (KeepBut.of_grown hg g) (Kd.R_base2 HO208.out)); clear HI0; clear HO208; clear HO227; clear HB; clear HK; have HI0 := n0_; have HO208 := n1_; have HO227 := n2_; have HB := n3_; have HK := n4_; clear n0_ n1_ n2_ n3_ n4_; clear hg hw hp_))
                    go_meet
                    case rel => exact ⟨_, _, _, (y231), (t229), HPOS, H', ⟨by first | omega | exact Nat.le_refl _⟩, ⟨by (with_reducible repeat (first | apply Kd.R_alloc | apply Kd.R_drewN | apply Kd.R_drew)); exact HO208.out⟩, ⟨by repeat (first | (with_reducible first | exact HI0.out | apply IsS71.alloc | apply IsS71.drewN | apply IsS71.drew | apply IsS71.set_1) | exact HI0.out)⟩, ⟨by repeat (first | (with_reducible first | exact HK.out | apply KeepBut.set_ | apply keep_drewN | apply keep_drew | apply keep_alloc) | exact HK.out)⟩, ⟨by repeat (first | (with_reducible first | exact HB.out | apply below_alloc | apply pw_below_drewN | apply below_drew1 | refine below_set ?_ (IsS71.ge HI0.out)) | exact HB.out)⟩⟩
                  · rw [if_neg c41] at H
                    exact absurd H (by simp)
                · rw [if_neg c40] at H
                  exact absurd H (by simp)
              · rw [if_neg c39] at H
                exact absurd H (by simp)
            · rw [if_neg c38] at H
              exact absurd H (by simp)
          · rw [if_neg c36] at H
            have c36b0 : (t214 == 2) = false := beq_eq_false_iff_ne.mpr c36
            have c36b1 : (t214 != 2) = true := bne_iff_ne.mpr c36
            by_cases c52 : t214 = 3
            · rw [if_pos c52] at H
              have c52b0 : (t214 == 3) = true := beq_iff_eq.mpr c52
              have c52b1 : (t214 != 3) = false := bne_eq_false_iff_eq.mpr c52
              clear c52
              by_cases c53 : 1 ≤ (t206.length : Int)
              · rw [if_pos c53] at H
                have c53b0 := eq_true c53
                have c53b1 : decide (1 ≤ (t206.length : Int)) = true := decide_eq_true c53
                clear c53
                obtain ⟨y232, hy232⟩ : ∃ y_ : List (S41), y_ = (t206.take (1 : Int).toNat) := ⟨_, rfl⟩
                replace H : (spec_l6DrawAny.j0 k y232 s0_0 t215) = some (r1, r2) := by first | (rw [hy232]; with_reducible exact H) | (have H2_ := (Option.bind_some _ _).symm.trans H; rw [hy232]; with_reducible exact H2_) | (have H2_ := (Option.bind_some _ _).symm.trans H; with_reducible exact H2_) | with_reducible exact H | (rw [hy232]; exact H) | exact H
                have Ny232 := Aside0.mk hy232
                clear hy232
                have H' := Aside0.mk H
                clear H
                obtain ⟨Ao54, co54, eo54⟩ := Kd.R_slice HO208.out
                subst eo54
                go_wp2_with (first | ((with_reducible refine gate_callee (f := 32) rfl ?_); refine goesL_ (some 14) rfl rfl Try.func32 (by kernel_rfl) rfl #[.pointer (some ⟨g, 0, none⟩), .int .i64 (t206.length : Int)] rfl (by (try simp only [List.map_toArray, List.map_cons, List.map_nil]); first | done | rfl | (simp only [List.length_drop, List.length_take]; rfl)) ?_; (with_reducible refine (spec_l1Rd_below.calls g s0_0 t211 (t206.length : Int) t212 t213 w0 _ ?side1 ?side2 A8.out).mono ?_); (case side1 => repeat (first | (with_reducible first | exact HI0.out | apply IsS71.alloc | apply IsS71.drewN | apply IsS71.drew | apply IsS71.set_1) | exact HI0.out)); (case side2 => repeat (first | (with_reducible first | exact HB.out | apply below_alloc | apply pw_below_drewN | apply below_drew1 | refine below_set ?_ (IsS71.ge HI0.out)) | exact HB.out)); rintro e w55 ⟨rfl, hi, hb, hk⟩; refine ⟨_, rfl, ?_⟩; have n0_ := Aside0.mk (Kd.R_mono (Kd.R_keep (IsS71.apart (show IsS71 w0 _ g s0_0 t211 from by repeat (first | (with_reducible first | exact HI0.out | apply IsS71.alloc | apply IsS71.drewN | apply IsS71.drew | apply IsS71.set_1) | exact HI0.out)) (by (with_reducible repeat (first | apply Kd.R_alloc | apply Kd.R_drewN | apply Kd.R_drew)); exact HO208.out) (by decide)) hk (fun _ h => h.2)) (fun _ h => h.1)); have n1_ := Aside0.mk (KeepBut.trans (by repeat (first | (with_reducible first | exact HK.out | apply KeepBut.set_ | apply keep_drewN | apply keep_drew | apply keep_alloc) | exact HK.out)) hk (.inl rfl)); have n2_ := Aside0.mk (hb); have n3_ := Aside0.mk (hi); clear HO208; clear HK; clear HB; clear HI0; have HO208 := n0_; have HK := n1_; have HB := n2_; have HI0 := n3_; clear n0_ n1_ n2_ n3_; (try clear hb); (try clear hb2); (try clear hk); (try clear hi)) | ((with_reducible refine gate_callee (f := 32) rfl ?_); refine goesL_ (some 16) rfl rfl Try.func32 (by kernel_rfl) rfl #[.pointer (some ⟨g, 0, none⟩), .int .i64 6] rfl (by (try simp only [List.map_toArray, List.map_cons, List.map_nil]); first | done | rfl | (simp only [List.length_drop, List.length_take]; rfl)) ?_; (with_reducible refine (spec_l1Rd_below.calls g s0_0 t213 6 t214 t215 w0 _ ?side1 ?side2 A9.out).mono ?_); (case side1 => repeat (first | (with_reducible first | exact HI0.out | apply IsS71.alloc | apply IsS71.drewN | apply IsS71.drew | apply IsS71.set_1) | exact HI0.out)); (case side2 => repeat (first | (with_reducible first | exact HB.out | apply below_alloc | apply pw_below_drewN | apply below_drew1 | refine below_set ?_ (IsS71.ge HI0.out)) | exact HB.out)); rintro e w56 ⟨rfl, hi, hb, hk⟩; refine ⟨_, rfl, ?_⟩; have n0_ := Aside0.mk (Kd.R_mono (Kd.R_keep (IsS71.apart (show IsS71 w0 _ g s0_0 t213 from by repeat (first | (with_reducible first | exact HI0.out | apply IsS71.alloc | apply IsS71.drewN | apply IsS71.drew | apply IsS71.set_1) | exact HI0.out)) (by (with_reducible repeat (first | apply Kd.R_alloc | apply Kd.R_drewN | apply Kd.R_drew)); exact HO208.out) (by decide)) hk (fun _ h => h.2)) (fun _ h => h.1)); have n1_ := Aside0.mk (KeepBut.trans (by repeat (first | (with_reducible first | exact HK.out | apply KeepBut.set_ | apply keep_drewN | apply keep_drew | apply keep_alloc) | exact HK.out)) hk (.inl rfl)); have n2_ := Aside0.mk (hb); have n3_ := Aside0.mk (hi); clear HO208; clear HK; clear HB; clear HI0; have HO208 := n0_; have HK := n1_; have HB := n2_; have HI0 := n3_; clear n0_ n1_ n2_ n3_; (try clear hb); (try clear hb2); (try clear hk); (try clear hi); have q57 : (1 : Int) ≤ ((t206.length : Int) : Int) := of_decide_eq_true (by first | (with_reducible assumption) | assumption); obtain ⟨i057, hi057, _, hsz57, _⟩ := info_parts info41; have hcut57 := cut_to (P := Try.prog) 27 41 .i64 Try.underlying27 hi057 Ao54 t206.length co54 1 (by omega) q57 (Kd.R_reads' HO208.out).2.1; have hr57 := Kd.R_take (m := (1 : Int).toNat) HO208.out (by omega); have hy57 : y232.length = (1 : Int).toNat := (by rw [Ny232.out, List.length_take]; omega); rw [← Ny232.out] at hr57; rw [← hy57] at hr57 hcut57; clear hy57 hi057 hsz57 HO208; have HO234 := Aside0.mk hr57; clear hr57; replace q57 := eq_true q57))
                go_meet
                case rel => exact ⟨_, _, _, (y232), (t215), HPOS, H', ⟨by first | omega | exact Nat.le_refl _⟩, ⟨by (with_reducible repeat (first | apply Kd.R_alloc | apply Kd.R_drewN | apply Kd.R_drew)); exact HO234.out⟩, ⟨by repeat (first | (with_reducible first | exact HI0.out | apply IsS71.alloc | apply IsS71.drewN | apply IsS71.drew | apply IsS71.set_1) | exact HI0.out)⟩, ⟨by repeat (first | (with_reducible first | exact HK.out | apply KeepBut.set_ | apply keep_drewN | apply keep_drew | apply keep_alloc) | exact HK.out)⟩, ⟨by repeat (first | (with_reducible first | exact HB.out | apply below_alloc | apply pw_below_drewN | apply below_drew1 | refine below_set ?_ (IsS71.ge HI0.out)) | exact HB.out)⟩⟩
              · rw [if_neg c53] at H
                exact absurd H (by simp)
            · rw [if_neg c52] at H
              have c52b0 : (t214 == 3) = false := beq_eq_false_iff_ne.mpr c52
              have c52b1 : (t214 != 3) = true := bne_iff_ne.mpr c52
              by_cases c58 : t214 = 4
              · rw [if_pos c58] at H
                have c58b0 : (t214 == 4) = true := beq_iff_eq.mpr c58
                have c58b1 : (t214 != 4) = false := bne_eq_false_iff_eq.mpr c58
                clear c58
                by_cases c59 : 0 ≤ (t206.length : Int)
                · rw [if_pos c59] at H
                  have c59b0 := eq_true c59
                  have c59b1 : decide (0 ≤ (t206.length : Int)) = true := decide_eq_true c59
                  clear c59
                  obtain ⟨y235, hy235⟩ : ∃ y_ : List (S41), y_ = (t206.take (0 : Int).toNat) := ⟨_, rfl⟩
                  replace H : (spec_l6DrawAny.j0 k y235 s0_0 t215) = some (r1, r2) := by first | (rw [hy235]; with_reducible exact H) | (have H2_ := (Option.bind_some _ _).symm.trans H; rw [hy235]; with_reducible exact H2_) | (have H2_ := (Option.bind_some _ _).symm.trans H; with_reducible exact H2_) | with_reducible exact H | (rw [hy235]; exact H) | exact H
                  have Ny235 := Aside0.mk hy235
                  clear hy235
                  have H' := Aside0.mk H
                  clear H
                  obtain ⟨Ao60, co60, eo60⟩ := Kd.R_slice HO208.out
                  subst eo60
                  go_wp2_with (first | ((with_reducible refine gate_callee (f := 32) rfl ?_); refine goesL_ (some 14) rfl rfl Try.func32 (by kernel_rfl) rfl #[.pointer (some ⟨g, 0, none⟩), .int .i64 (t206.length : Int)] rfl (by (try simp only [List.map_toArray, List.map_cons, List.map_nil]); first | done | rfl | (simp only [List.length_drop, List.length_take]; rfl)) ?_; (with_reducible refine (spec_l1Rd_below.calls g s0_0 t211 (t206.length : Int) t212 t213 w0 _ ?side1 ?side2 A8.out).mono ?_); (case side1 => repeat (first | (with_reducible first | exact HI0.out | apply IsS71.alloc | apply IsS71.drewN | apply IsS71.drew | apply IsS71.set_1) | exact HI0.out)); (case side2 => repeat (first | (with_reducible first | exact HB.out | apply below_alloc | apply pw_below_drewN | apply below_drew1 | refine below_set ?_ (IsS71.ge HI0.out)) | exact HB.out)); rintro e w61 ⟨rfl, hi, hb, hk⟩; refine ⟨_, rfl, ?_⟩; have n0_ := Aside0.mk (Kd.R_mono (Kd.R_keep (IsS71.apart (show IsS71 w0 _ g s0_0 t211 from by repeat (first | (with_reducible first | exact HI0.out | apply IsS71.alloc | apply IsS71.drewN | apply IsS71.drew | apply IsS71.set_1) | exact HI0.out)) (by (with_reducible repeat (first | apply Kd.R_alloc | apply Kd.R_drewN | apply Kd.R_drew)); exact HO208.out) (by decide)) hk (fun _ h => h.2)) (fun _ h => h.1)); have n1_ := Aside0.mk (KeepBut.trans (by repeat (first | (with_reducible first | exact HK.out | apply KeepBut.set_ | apply keep_drewN | apply keep_drew | apply keep_alloc) | exact HK.out)) hk (.inl rfl)); have n2_ := Aside0.mk (hb); have n3_ := Aside0.mk (hi); clear HO208; clear HK; clear HB; clear HI0; have HO208 := n0_; have HK := n1_; have HB := n2_; have HI0 := n3_; clear n0_ n1_ n2_ n3_; (try clear hb); (try clear hb2); (try clear hk); (try clear hi)) | ((with_reducible refine gate_callee (f := 32) rfl ?_); refine goesL_ (some 16) rfl rfl Try.func32 (by kernel_rfl) rfl #[.pointer (some ⟨g, 0, none⟩), .int .i64 6] rfl (by (try simp only [List.map_toArray, List.map_cons, List.map_nil]); first | done | rfl | (simp only [List.length_drop, List.length_take]; rfl)) ?_; (with_reducible refine (spec_l1Rd_below.calls g s0_0 t213 6 t214 t215 w0 _ ?side1 ?side2 A9.out).mono ?_); (case side1 => repeat (first | (with_reducible first | exact HI0.out | apply IsS71.alloc | apply IsS71.drewN | apply IsS71.drew | apply IsS71.set_1) | exact HI0.out)); (case side2 => repeat (first | (with_reducible first | exact HB.out | apply below_alloc | apply pw_below_drewN | apply below_drew1 | refine below_set ?_ (IsS71.ge HI0.out)) | exact HB.out)); rintro e w62 ⟨rfl, hi, hb, hk⟩; refine ⟨_, rfl, ?_⟩; have n0_ := Aside0.mk (Kd.R_mono (Kd.R_keep (IsS71.apart (show IsS71 w0 _ g s0_0 t213 from by repeat (first | (with_reducible first | exact HI0.out | apply IsS71.alloc | apply IsS71.drewN | apply IsS71.drew | apply IsS71.set_1) | exact HI0.out)) (by (with_reducible repeat (first | apply Kd.R_alloc | apply Kd.R_drewN | apply Kd.R_drew)); exact HO208.out) (by decide)) hk (fun _ h => h.2)) (fun _ h => h.1)); have n1_ := Aside0.mk (KeepBut.trans (by repeat (first | (with_reducible first | exact HK.out | apply KeepBut.set_ | apply keep_drewN | apply keep_drew | apply keep_alloc) | exact HK.out)) hk (.inl rfl)); have n2_ := Aside0.mk (hb); have n3_ := Aside0.mk (hi); clear HO208; clear HK; clear HB; clear HI0; have HO208 := n0_; have HK := n1_; have HB := n2_; have HI0 := n3_; clear n0_ n1_ n2_ n3_; (try clear hb); (try clear hb2); (try clear hk); (try clear hi); have q63 : (0 : Int) ≤ ((t206.length : Int) : Int) := of_decide_eq_true (by first | (with_reducible assumption) | assumption); obtain ⟨i063, hi063, _, hsz63, _⟩ := info_parts info41; have hcut63 := cut_to (P := Try.prog) 27 41 .i64 Try.underlying27 hi063 Ao60 t206.length co60 0 (by omega) q63 (Kd.R_reads' HO208.out).2.1; have hr63 := Kd.R_take (m := (0 : Int).toNat) HO208.out (by omega); have hy63 : y235.length = (0 : Int).toNat := (by rw [Ny235.out, List.length_take]; omega); rw [← Ny235.out] at hr63; rw [← hy63] at hr63 hcut63; clear hy63 hi063 hsz63 HO208; have HO237 := Aside0.mk hr63; clear hr63; replace q63 := eq_true q63))
                  go_meet
                  case rel => exact ⟨_, _, _, (y235), (t215), HPOS, H', ⟨by first | omega | exact Nat.le_refl _⟩, ⟨by (with_reducible repeat (first | apply Kd.R_alloc | apply Kd.R_drewN | apply Kd.R_drew)); exact HO237.out⟩, ⟨by repeat (first | (with_reducible first | exact HI0.out | apply IsS71.alloc | apply IsS71.drewN | apply IsS71.drew | apply IsS71.set_1) | exact HI0.out)⟩, ⟨by repeat (first | (with_reducible first | exact HK.out | apply KeepBut.set_ | apply keep_drewN | apply keep_drew | apply keep_alloc) | exact HK.out)⟩, ⟨by repeat (first | (with_reducible first | exact HB.out | apply below_alloc | apply pw_below_drewN | apply below_drew1 | refine below_set ?_ (IsS71.ge HI0.out)) | exact HB.out)⟩⟩
                · rw [if_neg c59] at H
                  exact absurd H (by simp)
              · rw [if_neg c58] at H
                have c58b0 : (t214 == 4) = false := beq_eq_false_iff_ne.mpr c58
                have c58b1 : (t214 != 4) = true := bne_iff_ne.mpr c58
                by_cases c64 : 0 < (t206.length : Int)
                · rw [if_pos c64] at H
                  have c64b0 : decide (0 < (t206.length : Int)) = true := decide_eq_true c64
                  have c64b1 : decide (0 < t206.length) = true := decide_eq_true (by omega)
                  clear c64
                  obtain ⟨ji65, hji65⟩ : ∃ j_ : Int, (wrap64 ((t206.length : Int) - 1)) = j_ := ⟨_, rfl⟩
                  replace H : (if 0 ≤ (ji65) then (if (ji65) < (t206.length : Int) then (spec_l6DrawAny.j0 k (t206.set ((ji65) : Int).toNat (⟨(rd_T41 t206 0).f0, (rd_T41 t206 (ji65)).f1⟩ : S41)) s0_0 t215) else (none)) else (none)) = some (r1, r2) := by first | (rw [hji65] at H; exact H) | (simp only [hji65] at H ⊢; exact H)
                  (try rw [hji65] at A8)
                  (try rw [hji65] at A9)
                  have hji65w : (IntKind.i64.wrap ((t206.length : Int) - 1)) = ji65 := (i64_w _).trans hji65
                  by_cases c66 : 0 ≤ (ji65)
                  · rw [if_pos c66] at H
                    have c66b0 : decide (0 ≤ (ji65)) = true := decide_eq_true c66
                    clear c66
                    by_cases c67 : (ji65) < (t206.length : Int)
                    · rw [if_pos c67] at H
                      have c67b0 : decide ((ji65) < (t206.length : Int)) = true := decide_eq_true c67
                      clear c67
                      obtain ⟨y239, hy239⟩ : ∃ y_ : List (S41), y_ = (t206.set ((ji65) : Int).toNat (⟨(rd_T41 t206 0).f0, (rd_T41 t206 (ji65)).f1⟩ : S41)) := ⟨_, rfl⟩
                      replace H : (spec_l6DrawAny.j0 k y239 s0_0 t215) = some (r1, r2) := by first | (rw [hy239]; with_reducible exact H) | (have H2_ := (Option.bind_some _ _).symm.trans H; rw [hy239]; with_reducible exact H2_) | (have H2_ := (Option.bind_some _ _).symm.trans H; with_reducible exact H2_) | with_reducible exact H | (rw [hy239]; exact H) | exact H
                      have Ny239 := Aside0.mk hy239
                      clear hy239
                      have H' := Aside0.mk H
                      clear H
                      obtain ⟨Ao69, co69, eo69⟩ := Kd.R_slice HO208.out
                      subst eo69
                      go_wp2_with (first | ((with_reducible refine gate_callee (f := 32) rfl ?_); refine goesL_ (some 14) rfl rfl Try.func32 (by kernel_rfl) rfl #[.pointer (some ⟨g, 0, none⟩), .int .i64 (t206.length : Int)] rfl (by (try simp only [List.map_toArray, List.map_cons, List.map_nil]); first | done | rfl | (simp only [List.length_drop, List.length_take]; rfl)) ?_; (with_reducible refine (spec_l1Rd_below.calls g s0_0 t211 (t206.length : Int) t212 t213 w0 _ ?side1 ?side2 A8.out).mono ?_); (case side1 => repeat (first | (with_reducible first | exact HI0.out | apply IsS71.alloc | apply IsS71.drewN | apply IsS71.drew | apply IsS71.set_1) | exact HI0.out)); (case side2 => repeat (first | (with_reducible first | exact HB.out | apply below_alloc | apply pw_below_drewN | apply below_drew1 | refine below_set ?_ (IsS71.ge HI0.out)) | exact HB.out)); rintro e w70 ⟨rfl, hi, hb, hk⟩; refine ⟨_, rfl, ?_⟩; have n0_ := Aside0.mk (Kd.R_mono (Kd.R_keep (IsS71.apart (show IsS71 w0 _ g s0_0 t211 from by repeat (first | (with_reducible first | exact HI0.out | apply IsS71.alloc | apply IsS71.drewN | apply IsS71.drew | apply IsS71.set_1) | exact HI0.out)) (by (with_reducible repeat (first | apply Kd.R_alloc | apply Kd.R_drewN | apply Kd.R_drew)); exact HO208.out) (by decide)) hk (fun _ h => h.2)) (fun _ h => h.1)); have n1_ := Aside0.mk (KeepBut.trans (by repeat (first | (with_reducible first | exact HK.out | apply KeepBut.set_ | apply keep_drewN | apply keep_drew | apply keep_alloc) | exact HK.out)) hk (.inl rfl)); have n2_ := Aside0.mk (hb); have n3_ := Aside0.mk (hi); clear HO208; clear HK; clear HB; clear HI0; have HO208 := n0_; have HK := n1_; have HB := n2_; have HI0 := n3_; clear n0_ n1_ n2_ n3_; (try clear hb); (try clear hb2); (try clear hk); (try clear hi)) | ((with_reducible refine gate_callee (f := 32) rfl ?_); refine goesL_ (some 16) rfl rfl Try.func32 (by kernel_rfl) rfl #[.pointer (some ⟨g, 0, none⟩), .int .i64 6] rfl (by (try simp only [List.map_toArray, List.map_cons, List.map_nil]); first | done | rfl | (simp only [List.length_drop, List.length_take]; rfl)) ?_; (with_reducible refine (spec_l1Rd_below.calls g s0_0 t213 6 t214 t215 w0 _ ?side1 ?side2 A9.out).mono ?_); (case side1 => repeat (first | (with_reducible first | exact HI0.out | apply IsS71.alloc | apply IsS71.drewN | apply IsS71.drew | apply IsS71.set_1) | exact HI0.out)); (case side2 => repeat (first | (with_reducible first | exact HB.out | apply below_alloc | apply pw_below_drewN | apply below_drew1 | refine below_set ?_ (IsS71.ge HI0.out)) | exact HB.out)); rintro e w71 ⟨rfl, hi, hb, hk⟩; refine ⟨_, rfl, ?_⟩; have n0_ := Aside0.mk (Kd.R_mono (Kd.R_keep (IsS71.apart (show IsS71 w0 _ g s0_0 t213 from by repeat (first | (with_reducible first | exact HI0.out | apply IsS71.alloc | apply IsS71.drewN | apply IsS71.drew | apply IsS71.set_1) | exact HI0.out)) (by (with_reducible repeat (first | apply Kd.R_alloc | apply Kd.R_drewN | apply Kd.R_drew)); exact HO208.out) (by decide)) hk (fun _ h => h.2)) (fun _ h => h.1)); have n1_ := Aside0.mk (KeepBut.trans (by repeat (first | (with_reducible first | exact HK.out | apply KeepBut.set_ | apply keep_drewN | apply keep_drew | apply keep_alloc) | exact HK.out)) hk (.inl rfl)); have n2_ := Aside0.mk (hb); have n3_ := Aside0.mk (hi); clear HO208; clear HK; clear HB; clear HI0; have HO208 := n0_; have HK := n1_; have HB := n2_; have HI0 := n3_; clear n0_ n1_ n2_ n3_; (try clear hb); (try clear hb2); (try clear hk); (try clear hi); have p238 : 0 ≤ (0 : Int) := (by omega); have q238 : 0 < (t206.length : Int) := of_decide_eq_true (by first | (with_reducible assumption) | assumption); obtain ⟨ad238, e238, hx238_0, hx238_1⟩ := at_T41 (Kd.R_reads' HO208.out).2.2 0 p238 q238; cases e238; have qi238 : (0 < t206.length) = True := eq_true (by omega); (try rw [show ((0 : Int)).toNat = 0 from rfl] at hx238_0); (try rw [show 0 * 2 = 0 from rfl] at hx238_0); (try rw [Addr.add_zero'] at hx238_0); (try rw [show ((0 : Int)).toNat = 0 from rfl] at hx238_1); (try rw [show 0 * 2 = 0 from rfl] at hx238_1); (try rw [Addr.add_zero'] at hx238_1); replace p238 := eq_true p238; replace q238 := eq_true q238; have p68 : 0 ≤ ((ji65) : Int) := of_decide_eq_true (by first | (with_reducible assumption) | assumption); have q68 : ((ji65) : Int) < ((t206.length : Int) : Int) := of_decide_eq_true (by first | (with_reducible assumption) | assumption); obtain ⟨go68, co68, eo68, gb68, gl68, cl68, HG68⟩ := Kd.R_form HO208.out (by omega); (first | cases eo68 | (injection eo68 with ea_ en_ ec_; (first | subst ea_ | (injection ea_ with ea_; subst ea_)); subst ec_; clear en_)); have GB68 := Aside0.mk gb68; have GG68 := Aside0.mk HG68; clear gb68 gl68 HG68; (first | simp only [add_plain] at hx238_0 | skip); (first | simp only [add_plain] at hx238_1 | skip); obtain ⟨ce68, hcl68, hM68, hcc68, hfr68⟩ := Kd.R_elem HO208.out z41 ((ji65) : Int) p68 q68; obtain rfl := k41_openM hM68; have hx68_0 : w71.cell? ⟨go68, ((ji65) : Int).toNat * 2, none⟩ = some (.int .i64 ((rd_T41 t206 (ji65)).f0)) := hcc68 0 _ rfl; have hx68_1 : w71.cell? ⟨go68, ((ji65) : Int).toNat * 2 + 1, none⟩ = some (.float .f64 ((rd_T41 t206 (ji65)).f1)) := hcc68 1 _ rfl; have hf68_0 : w71.frozen? ⟨go68, ((ji65) : Int).toNat * 2, none⟩ = false := hfr68 0; have hf68_1 : w71.frozen? ⟨go68, ((ji65) : Int).toNat * 2 + 1, none⟩ = false := hfr68 1; clear hcl68 hcc68 hfr68 hM68; replace p68 := eq_true p68; replace q68 := eq_true q68; have HX72 := Aside0.mk (show Kd.R k41 41 w71 w.heap.size (fun _ => True) (.slice (some ⟨go68, 0, none⟩) t206.length co69) t206 from (by (with_reducible repeat (first | apply Kd.R_alloc | apply Kd.R_drewN | apply Kd.R_drew)); exact HO208.out)); obtain ⟨ce72, hcl72, hM72, hcc72, hfr72⟩ := Kd.R_elem HX72.out z41 ((ji65) : Int) (of_decide_eq_true (by first | (with_reducible assumption) | assumption)) (by have h_ : ((ji65) : Int) < ((t206.length : Int) : Int) := of_decide_eq_true (by first | (with_reducible assumption) | assumption); first | exact h_ | (have e_ := (Kd.R_reads' HO208.out).1; omega) | simpa using h_); obtain rfl := k41_openM hM72; have HP72 := Kd.R_seg HX72.out ((ji65) : Int) (of_decide_eq_true (by first | (with_reducible assumption) | assumption)) (by have h_ : ((ji65) : Int) < ((t206.length : Int) : Int) := of_decide_eq_true (by first | (with_reducible assumption) | assumption); first | exact h_ | (have e_ := (Kd.R_reads' HO208.out).1; omega) | simpa using h_) (seg := [.int .i64 ((rd_T41 t206 0).f0)]) (j := 0) hcl72 hcc72 (show 1 ≤ 2 from by decide) (x' := (⟨(rd_T41 t206 0).f0, (rd_T41 t206 (ji65)).f1⟩ : S41)) (k41_mkM _ _ _ (⟨(rd_T41 t206 0).f0, (rd_T41 t206 (ji65)).f1⟩ : S41) ) (fun _ hk => hk); have hx72_0 := hcc72 0 _ rfl; (try simp only [show (k41).sz = 2 from rfl, Nat.mul_one, Nat.add_zero] at hx72_0); have hf72_0 := hfr72 0; (try simp only [show (k41).sz = 2 from rfl, Nat.mul_one, Nat.add_zero] at hf72_0); clear hcl72 hcc72 hfr72 hM72) | ((with_reducible refine gate_store (t := 2) (p := 26) rfl ?_); refine store_event (t := 2) (p := 26) (v := ?vo_w73) (w1 := (w71.setCell ⟨go68, ((ji65) : Int).toNat * 2, none⟩ (.int .i64 ((rd_T41 t206 0).f0)))) ?hg ?ho ?hn ?hr ?_; (case ho => rfl); (case hg => rfl); (case hn => rfl); (case hr => first | (go_simp; done) | (go_simp; rfl)); intro w73 hw; have hg : w71.grownBy w73 (some go68) := (by rw [hw]; exact HP72.2); have hp_ : Kd.R k41 41 w73 w.heap.size (fun _ => True) (.slice (some ⟨go68, 0, none⟩) t206.length co69) y239 := (by rw [hw, Ny239.out]; exact HP72.1); clear HP72; have n0_ := Aside0.mk (IsS71.grown (by repeat (first | (with_reducible first | exact HI0.out | apply IsS71.alloc | apply IsS71.drewN | apply IsS71.drew | apply IsS71.set_1) | exact HI0.out)) hg (IsS71.own_ne HI0.out HO208.out (by decide))); have n1_ := Aside0.mk (hp_); have n2_ := Aside0.mk ((by rw [hw]; exact below_set (HB.out) (Nat.le_trans HL.out GB68.out) : Below w0.heap.size w0 w73)); have n3_ := Aside0.mk (KeepBut.trans (by repeat (first | (with_reducible first | exact HK.out | apply KeepBut.set_ | apply keep_drewN | apply keep_drew | apply keep_alloc) | exact HK.out)) (KeepBut.of_grown hg g) (Kd.R_base2 HO208.out)); clear HI0; clear HO208; clear HB; clear HK; have HI0 := n0_; have HO208 := n1_; have HB := n2_; have HK := n3_; clear n0_ n1_ n2_ n3_; clear hg hw hp_))
                      go_meet
                      case rel => exact ⟨_, _, _, (y239), (t215), HPOS, H', ⟨by first | omega | exact Nat.le_refl _⟩, ⟨by (with_reducible repeat (first | apply Kd.R_alloc | apply Kd.R_drewN | apply Kd.R_drew)); exact HO208.out⟩, ⟨by repeat (first | (with_reducible first | exact HI0.out | apply IsS71.alloc | apply IsS71.drewN | apply IsS71.drew | apply IsS71.set_1) | exact HI0.out)⟩, ⟨by repeat (first | (with_reducible first | exact HK.out | apply KeepBut.set_ | apply keep_drewN | apply keep_drew | apply keep_alloc) | exact HK.out)⟩, ⟨by repeat (first | (with_reducible first | exact HB.out | apply below_alloc | apply pw_below_drewN | apply below_drew1 | refine below_set ?_ (IsS71.ge HI0.out)) | exact HB.out)⟩⟩
                    · rw [if_neg c67] at H
                      exact absurd H (by simp)
                  · rw [if_neg c66] at H
                    exact absurd H (by simp)
                · rw [if_neg c64] at H
                  exact absurd H (by simp)
    · replace c7 := Bool.eq_false_iff.mpr c7
      subst c7
      have H1 : (spec_l6DrawAny.j0 k t206 s0_0 t211) = some (r1, r2) := by rw [if_neg (show ¬ (false = true) by decide)] at H; exact H
      clear H
      have H := H1
      clear H1
      have H' := Aside0.mk H
      clear H
      go_wp2
      go_meet
      case rel => exact ⟨_, _, _, (t206), (t211), HPOS, H', ⟨by first | omega | exact Nat.le_refl _⟩, ⟨by (with_reducible repeat (first | apply Kd.R_alloc | apply Kd.R_drewN | apply Kd.R_drew)); exact HO208.out⟩, ⟨by repeat (first | (with_reducible first | exact HI0.out | apply IsS71.alloc | apply IsS71.drewN | apply IsS71.drew | apply IsS71.set_1) | exact HI0.out)⟩, ⟨by repeat (first | (with_reducible first | exact HK.out | apply KeepBut.set_ | apply keep_drewN | apply keep_drew | apply keep_alloc) | exact HK.out)⟩, ⟨by repeat (first | (with_reducible first | exact HB.out | apply below_alloc | apply pw_below_drewN | apply below_drew1 | refine below_set ?_ (IsS71.ge HI0.out)) | exact HB.out)⟩⟩
  case rest =>
    clear HC4
    try clear c1
    try clear p1
    try clear q1
    try clear hx1
    try clear hf1
    try clear c2
    try clear p2
    try clear q2
    try clear hx2
    try clear qi2
    try clear hf2
    try clear c3
    try clear hx3
    try clear hf3
    try clear c4
    try clear p4
    try clear q4
    try clear hx4
    try clear hf4
    try clear c5
    try clear q5
    try clear hx5
    try clear hf5
    try clear c6
    try clear p6
    try clear q6
    try clear hx6
    try clear hf6
    try clear c7
    try clear hx7
    try clear hf7
    try clear c10
    try clear c10b0
    try clear c10b1
    try clear c12
    try clear c12b0
    try clear c13
    try clear c13b0
    try clear c14
    try clear p14
    try clear q14
    try clear hx14
    try clear hf14
    try clear c18
    try clear hx18
    try clear hf18
    try clear c20
    try clear c20b0
    try clear c20b1
    try clear c22
    try clear c22b0
    try clear p22
    try clear q22
    try clear hx22
    try clear c23
    try clear c23b0
    try clear p23
    try clear q23
    try clear hx23
    try clear qi23
    try clear c24
    try clear c24b0
    try clear c25
    try clear c25b0
    try clear c26
    try clear p26
    try clear q26
    try clear hx26
    try clear hf26
    try clear c31
    try clear c32
    try clear c33
    try clear c34
    try clear hx34
    try clear hf34
    try clear c36
    try clear c36b0
    try clear c36b1
    try clear c38
    try clear c38b0
    try clear c39
    try clear c39b0
    try clear c40
    try clear c40b0
    try clear c41
    try clear c41b0
    try clear c42
    try clear p42
    try clear q42
    try clear hx42
    try clear hf42
    try clear c47
    try clear c48
    try clear c50
    try clear hx50
    try clear hf50
    try clear c52
    try clear c52b0
    try clear c52b1
    try clear c53
    try clear c53b0
    try clear c53b1
    try clear q57
    try clear c58
    try clear c58b0
    try clear c58b1
    try clear c59
    try clear c59b0
    try clear c59b1
    try clear q63
    try clear c64
    try clear c64b0
    try clear c64b1
    try clear p64
    try clear c66
    try clear c66b0
    try clear c67
    try clear c67b0
    try clear c68
    try clear p68
    try clear q68
    try clear hx68
    try clear hf68
    try clear c72
    try clear hx72
    try clear hf72
    try clear hx14_0
    try clear hx14_1
    try clear hx18_1
    try clear hx223_0
    try clear hx230_0
    try clear hx238_0
    try clear hx238_1
    try clear hx26_0
    try clear hx26_1
    try clear hx34_1
    try clear hx42_0
    try clear hx42_1
    try clear hx50_0
    try clear hx68_0
    try clear hx68_1
    try clear hx72_0
    try clear p14
    try clear p223
    try clear p230
    try clear p238
    try clear p26
    try clear p42
    try clear p68
    try clear q14
    try clear q223
    try clear q230
    try clear q238
    try clear q26
    try clear q42
    try clear q57
    try clear q63
    try clear q68
    clear HQ0 HPOS
    clear r1 r2
    obtain ⟨r1, r2, kq, x3_3, x1001_3, HPOS, HA, HJ3, HO_3, HI0, HK, HB⟩ := hcut
    cases kq with
    | zero => exact absurd HA.out (by simp [spec_l6DrawAny.j0])
    | succ kj3 =>
      have H := HA.out
      clear HA
      simp only [spec_l6DrawAny.j0] at H
      replace H := Option.bind_eq_some_iff.mp H
      obtain ⟨⟨t240, t241⟩, A740, H⟩ := H
      replace H : (if t240 = true then ((spec_l1Rd_below.f s0_0 t241 2).bind fun bt242 => (if 0 ≤ (x3_3.length : Int) then (spec_l6DrawAny.l0 kj3 (x3_3.take (0 : Int).toNat) (wrap64 (400 + bt242.1)) 0 s0_0 bt242.2) else (none))) else (some (x3_3, t241))) = some (r1, r2) := H
      have A74 := Aside0.mk A740
      clear A740
      by_cases c75 : t240 = true
      · subst c75
        have H1 : ((spec_l1Rd_below.f s0_0 t241 2).bind fun bt242 => (if 0 ≤ (x3_3.length : Int) then (spec_l6DrawAny.l0 kj3 (x3_3.take (0 : Int).toNat) (wrap64 (400 + bt242.1)) 0 s0_0 bt242.2) else (none))) = some (r1, r2) := by rw [if_pos rfl] at H; exact H
        clear H
        have H := H1
        clear H1
        replace H := Option.bind_eq_some_iff.mp H
        obtain ⟨⟨t242, t243⟩, A760, H⟩ := H
        replace H : (if 0 ≤ (x3_3.length : Int) then (spec_l6DrawAny.l0 kj3 (x3_3.take (0 : Int).toNat) (wrap64 (400 + t242)) 0 s0_0 t243) else (none)) = some (r1, r2) := H
        have A76 := Aside0.mk A760
        clear A760
        by_cases c77 : 0 ≤ (x3_3.length : Int)
        · rw [if_pos c77] at H
          have c77b0 := eq_true c77
          have c77b1 : decide (0 ≤ (x3_3.length : Int)) = true := decide_eq_true c77
          clear c77
          obtain ⟨y244, hy244⟩ : ∃ y_ : List (S41), y_ = (x3_3.take (0 : Int).toNat) := ⟨_, rfl⟩
          replace H : (spec_l6DrawAny.l0 kj3 y244 (wrap64 (400 + t242)) 0 s0_0 t243) = some (r1, r2) := by first | (rw [hy244]; with_reducible exact H) | (have H2_ := (Option.bind_some _ _).symm.trans H; rw [hy244]; with_reducible exact H2_) | (have H2_ := (Option.bind_some _ _).symm.trans H; with_reducible exact H2_) | with_reducible exact H | (rw [hy244]; exact H) | exact H
          have Ny244 := Aside0.mk hy244
          clear hy244
          have H' := Aside0.mk H
          clear H
          go_wp2_with (first | ((with_reducible refine gate_callee (f := 33) rfl ?_); refine goesL_ (some 65) rfl rfl Try.func33 (by kernel_rfl) rfl #[.pointer (some ⟨g, 0, none⟩), .int .i64 50] rfl (by (try simp only [List.map_toArray, List.map_cons, List.map_nil]); first | done | rfl | (simp only [List.length_drop, List.length_take]; rfl)) ?_; (with_reducible refine (spec_l1Rd_once.calls g s0_0 x1001_3 50 true t241 w0 _ ?side1 ?side2 A74.out).mono ?_); (case side1 => repeat (first | (with_reducible first | exact HI0.out | apply IsS71.alloc | apply IsS71.drewN | apply IsS71.drew | apply IsS71.set_1) | exact HI0.out)); (case side2 => repeat (first | (with_reducible first | exact HB.out | apply below_alloc | apply pw_below_drewN | apply below_drew1 | refine below_set ?_ (IsS71.ge HI0.out)) | exact HB.out)); rintro e w78 ⟨rfl, hi, hb, hk⟩; refine ⟨_, rfl, ?_⟩; have n0_ := Aside0.mk (Kd.R_mono (Kd.R_keep (IsS71.apart (show IsS71 w0 _ g s0_0 x1001_3 from by repeat (first | (with_reducible first | exact HI0.out | apply IsS71.alloc | apply IsS71.drewN | apply IsS71.drew | apply IsS71.set_1) | exact HI0.out)) (by (with_reducible repeat (first | apply Kd.R_alloc | apply Kd.R_drewN | apply Kd.R_drew)); exact HO_3.out) (by decide)) hk (fun _ h => h.2)) (fun _ h => h.1)); have n1_ := Aside0.mk (KeepBut.trans (by repeat (first | (with_reducible first | exact HK.out | apply KeepBut.set_ | apply keep_drewN | apply keep_drew | apply keep_alloc) | exact HK.out)) hk (.inl rfl)); have n2_ := Aside0.mk (hb); have n3_ := Aside0.mk (hi); clear HO_3; clear HK; clear HB; clear HI0; have HO_3 := n0_; have HK := n1_; have HB := n2_; have HI0 := n3_; clear n0_ n1_ n2_ n3_; (try clear hb); (try clear hb2); (try clear hk); (try clear hi)) | ((with_reducible refine gate_callee (f := 32) rfl ?_); refine goesL_ (some 67) rfl rfl Try.func32 (by kernel_rfl) rfl #[.pointer (some ⟨g, 0, none⟩), .int .i64 2] rfl (by (try simp only [List.map_toArray, List.map_cons, List.map_nil]); first | done | rfl | (simp only [List.length_drop, List.length_take]; rfl)) ?_; (with_reducible refine (spec_l1Rd_below.calls g s0_0 t241 2 t242 t243 w0 _ ?side1 ?side2 A76.out).mono ?_); (case side1 => repeat (first | (with_reducible first | exact HI0.out | apply IsS71.alloc | apply IsS71.drewN | apply IsS71.drew | apply IsS71.set_1) | exact HI0.out)); (case side2 => repeat (first | (with_reducible first | exact HB.out | apply below_alloc | apply pw_below_drewN | apply below_drew1 | refine below_set ?_ (IsS71.ge HI0.out)) | exact HB.out)); rintro e w79 ⟨rfl, hi, hb, hk⟩; refine ⟨_, rfl, ?_⟩; have n0_ := Aside0.mk (Kd.R_mono (Kd.R_keep (IsS71.apart (show IsS71 w0 _ g s0_0 t241 from by repeat (first | (with_reducible first | exact HI0.out | apply IsS71.alloc | apply IsS71.drewN | apply IsS71.drew | apply IsS71.set_1) | exact HI0.out)) (by (with_reducible repeat (first | apply Kd.R_alloc | apply Kd.R_drewN | apply Kd.R_drew)); exact HO_3.out) (by decide)) hk (fun _ h => h.2)) (fun _ h => h.1)); have n1_ := Aside0.mk (KeepBut.trans (by repeat (first | (with_reducible first | exact HK.out | apply KeepBut.set_ | apply keep_drewN | apply keep_drew | apply keep_alloc) | exact HK.out)) hk (.inl rfl)); have n2_ := Aside0.mk (hb); have n3_ := Aside0.mk (hi); clear HO_3; clear HK; clear HB; clear HI0; have HO_3 := n0_; have HK := n1_; have HB := n2_; have HI0 := n3_; clear n0_ n1_ n2_ n3_; (try clear hb); (try clear hb2); (try clear hk); (try clear hi); obtain ⟨Ao80, co80, eo80⟩ := Kd.R_slice HO_3.out; subst eo80; have q81 : (0 : Int) ≤ ((x3_3.length : Int) : Int) := of_decide_eq_true (by first | (with_reducible assumption) | assumption); obtain ⟨i081, hi081, _, hsz81, _⟩ := info_parts info41; have hcut81 := cut_to (P := Try.prog) 27 41 .i64 Try.underlying27 hi081 Ao80 x3_3.length co80 0 (by omega) q81 (Kd.R_reads' HO_3.out).2.1; have hr81 := Kd.R_take (m := (0 : Int).toNat) HO_3.out (by omega); have hy81 : y244.length = (0 : Int).toNat := (by rw [Ny244.out, List.length_take]; omega); rw [← Ny244.out] at hr81; rw [← hy81] at hr81 hcut81; clear hy81 hi081 hsz81 HO_3; have HO246 := Aside0.mk hr81; clear hr81; replace q81 := eq_true q81))
          go_loopg [3, 6] kj3 (fun kq v3 v6 w' => ∃ (x3_2 : List (S41)) (x6_2 : Int), v6 = .int .i64 x6_2 ∧ Aside0 (spec_l6DrawAny.l0 kq x3_2 (wrap64 (400 + t242)) x6_2 s0_0 t243 = some (r1, r2)) ∧ Aside0 (kq ≤ kj3) ∧ Aside0 (Kd.R k41 41 w' w.heap.size (fun _ => True) v3 x3_2) ∧ Aside0 (IsS71 w0 w' g s0_0 t243) ∧ Aside0 (KeepBut w w' g none) ∧ Aside0 (Below w0.heap.size w0 w'))
          case atStart => exact ⟨(y244), (0), (by first | rfl | (simp; done) | (simp [*]; done)), H', ⟨Nat.le_refl _⟩, ⟨by (with_reducible repeat (first | apply Kd.R_alloc | apply Kd.R_drewN | apply Kd.R_drew)); exact HO246.out⟩, ⟨by repeat (first | (with_reducible first | exact HI0.out | apply IsS71.alloc | apply IsS71.drewN | apply IsS71.drew | apply IsS71.set_1) | exact HI0.out)⟩, ⟨by repeat (first | (with_reducible first | exact HK.out | apply KeepBut.set_ | apply keep_drewN | apply keep_drew | apply keep_alloc) | exact HK.out)⟩, ⟨by repeat (first | (with_reducible first | exact HB.out | apply below_alloc | apply pw_below_drewN | apply below_drew1 | refine below_set ?_ (IsS71.ge HI0.out)) | exact HB.out)⟩⟩
          case round =>
            clear H'
            try clear c1
            try clear p1
            try clear q1
            try clear hx1
            try clear hf1
            try clear c2
            try clear p2
            try clear q2
            try clear hx2
            try clear qi2
            try clear hf2
            try clear c3
            try clear hx3
            try clear hf3
            try clear c4
            try clear p4
            try clear q4
            try clear hx4
            try clear hf4
            try clear c5
            try clear q5
            try clear hx5
            try clear hf5
            try clear c6
            try clear p6
            try clear q6
            try clear hx6
            try clear hf6
            try clear c7
            try clear hx7
            try clear hf7
            try clear q8
            try clear c10
            try clear c10b0
            try clear c10b1
            try clear c12
            try clear c12b0
            try clear c13
            try clear c13b0
            try clear c14
            try clear p14
            try clear q14
            try clear hx14
            try clear hf14
            try clear c18
            try clear hx18
            try clear hf18
            try clear c20
            try clear c20b0
            try clear c20b1
            try clear c22
            try clear c22b0
            try clear p22
            try clear q22
            try clear hx22
            try clear c23
            try clear c23b0
            try clear p23
            try clear q23
            try clear hx23
            try clear qi23
            try clear c24
            try clear c24b0
            try clear c25
            try clear c25b0
            try clear c26
            try clear p26
            try clear q26
            try clear hx26
            try clear hf26
            try clear c31
            try clear c32
            try clear c33
            try clear c34
            try clear hx34
            try clear hf34
            try clear c36
            try clear c36b0
            try clear c36b1
            try clear c38
            try clear c38b0
            try clear c39
            try clear c39b0
            try clear c40
            try clear c40b0
            try clear c41
            try clear c41b0
            try clear c42
            try clear p42
            try clear q42
            try clear hx42
            try clear hf42
            try clear c47
            try clear c48
            try clear c50
            try clear hx50
            try clear hf50
            try clear c52
            try clear c52b0
            try clear c52b1
            try clear c53
            try clear c53b0
            try clear c53b1
            try clear q57
            try clear c58
            try clear c58b0
            try clear c58b1
            try clear c59
            try clear c59b0
            try clear c59b1
            try clear q63
            try clear c64
            try clear c64b0
            try clear c64b1
            try clear p64
            try clear c66
            try clear c66b0
            try clear c67
            try clear c67b0
            try clear c68
            try clear p68
            try clear q68
            try clear hx68
            try clear hf68
            try clear c72
            try clear hx72
            try clear hf72
            try clear c75
            try clear c77
            try clear c77b0
            try clear c77b1
            try clear q81
            try clear hx14_0
            try clear hx14_1
            try clear hx18_1
            try clear hx223_0
            try clear hx230_0
            try clear hx238_0
            try clear hx238_1
            try clear hx26_0
            try clear hx26_1
            try clear hx34_1
            try clear hx42_0
            try clear hx42_1
            try clear hx50_0
            try clear hx68_0
            try clear hx68_1
            try clear hx72_0
            try clear p1
            try clear p14
            try clear p2
            try clear p22
            try clear p223
            try clear p23
            try clear p230
            try clear p238
            try clear p26
            try clear p4
            try clear p42
            try clear p6
            try clear p64
            try clear p68
            try clear q1
            try clear q14
            try clear q2
            try clear q22
            try clear q223
            try clear q23
            try clear q230
            try clear q238
            try clear q26
            try clear q4
            try clear q42
            try clear q5
            try clear q57
            try clear q6
            try clear q63
            try clear q68
            try clear q81
            obtain ⟨x3_2, x6_2, rfl, HA, HK2, HO_3, HI0, HK, HB⟩ := hrel
            cases gk with
            | zero => exact absurd HA.out (by simp [spec_l6DrawAny.l0])
            | succ k2 =>
              have H := HA.out
              clear HA
              simp only [spec_l6DrawAny.l0] at H
              by_cases c82 : x6_2 < (wrap64 (400 + t242))
              · rw [if_pos c82] at H
                have c82b0 : decide (x6_2 < (wrap64 (400 + t242))) = true := decide_eq_true c82
                clear c82
                by_cases c83 : x3_2.length < 8796093022208
                · rw [if_pos c83] at H
                  have LMc83 := Aside0.mk c83
                  clear c83
                  obtain ⟨y247, hy247⟩ : ∃ y_ : List (S41), y_ = (x3_2 ++ [(⟨wrap64 (10000 - x6_2), fofi (Int.tmod x6_2 7)⟩ : S41)]) := ⟨_, rfl⟩
                  replace H : (spec_l6DrawAny.l0 k2 y247 (wrap64 (400 + t242)) (wrap64 (x6_2 + 1)) s0_0 t243) = some (r1, r2) := by first | (rw [hy247]; with_reducible exact H) | (have H2_ := (Option.bind_some _ _).symm.trans H; rw [hy247]; with_reducible exact H2_) | (have H2_ := (Option.bind_some _ _).symm.trans H; with_reducible exact H2_) | with_reducible exact H | (rw [hy247]; exact H) | exact H
                  have Ny247 := Aside0.mk hy247
                  clear hy247
                  have H' := Aside0.mk H
                  clear H
                  go_wp2_with (first | ((with_reducible refine gate_builtin (b := .append) (xs := #[.tmp 76, .tmp 83]) rfl ?_); at_builtin; refine Kd.R_append k41 w.heap.size rfl (.tmp 76) (.tmp 83) 27 41 (.agg #[(.int .i64 0), (.float .f64 0)]) 16 rfl Try.underlying27 info41 rfl (by decide) (by omega) u3 x3_2 (⟨wrap64 (10000 - x6_2), fofi (Int.tmod x6_2 7)⟩ : S41) [.int .i64 (wrap64 (10000 - x6_2)), .float .f64 (fofi (Int.tmod x6_2 7))] (fun _ => True) (fun _ => False) rfl rfl ?aP (fun _ hk => hk.elim) ?aF ?aO (Below.refl _ _) ?aS ?aL ?_; (case aP => exact k41_mkM _ _ _ (⟨wrap64 (10000 - x6_2), fofi (Int.tmod x6_2 7)⟩ : S41)); (case aF => exact (fun _ _ => trivial)); (case aO => exact (by (with_reducible repeat (first | apply Kd.R_alloc | apply Kd.R_drewN | apply Kd.R_drew)); exact HO_3.out)); (case aS => exact (keep_size (w := w) (g := g) (row := none) (by repeat (first | (with_reducible first | exact HK.out | apply KeepBut.set_ | apply keep_drewN | apply keep_drew | apply keep_alloc) | exact HK.out)))); (case aL => have := LMc83.out; omega); intro v248 w84 ho hb hg hat; rw [← Ny247.out] at ho; have n0_ := Aside0.mk (IsS71.grown (by repeat (first | (with_reducible first | exact HI0.out | apply IsS71.alloc | apply IsS71.drewN | apply IsS71.drew | apply IsS71.set_1) | exact HI0.out)) hg (IsS71.own_ne HI0.out HO_3.out (by decide))); have n1_ := Aside0.mk (below_weaken (by repeat (first | (with_reducible first | exact HB.out | apply below_alloc | apply pw_below_drewN | apply below_drew1 | refine below_set ?_ (IsS71.ge HI0.out)) | exact HB.out)) HL.out hb); have n2_ := Aside0.mk (KeepBut.trans (by repeat (first | (with_reducible first | exact HK.out | apply KeepBut.set_ | apply keep_drewN | apply keep_drew | apply keep_alloc) | exact HK.out)) (KeepBut.of_grown hg g) (Kd.R_base2 HO_3.out)); have n3_ := Aside0.mk (ho); clear HI0; clear HB; clear HK; clear HO_3; have HI0 := n0_; have HB := n1_; have HK := n2_; have HO249 := n3_; clear n0_ n1_ n2_ n3_; clear ho hb hg hat))
                  go_roundg k2
                  case measure => have := HJ3.out; have := HK2.out; omega
                  case rel => exact ⟨(y247), (wrap64 (x6_2 + 1)), (by first | rfl | (simp; done) | (simp [*]; done)), H', ⟨by have := HJ3.out; have := HK2.out; omega⟩, ⟨by (with_reducible repeat (first | apply Kd.R_alloc | apply Kd.R_drewN | apply Kd.R_drew)); exact HO249.out⟩, ⟨by repeat (first | (with_reducible first | exact HI0.out | apply IsS71.alloc | apply IsS71.drewN | apply IsS71.drew | apply IsS71.set_1) | exact HI0.out)⟩, ⟨by repeat (first | (with_reducible first | exact HK.out | apply KeepBut.set_ | apply keep_drewN | apply keep_drew | apply keep_alloc) | exact HK.out)⟩, ⟨by repeat (first | (with_reducible first | exact HB.out | apply below_alloc | apply pw_below_drewN | apply below_drew1 | refine below_set ?_ (IsS71.ge HI0.out)) | exact HB.out)⟩⟩
                · rw [if_neg c83] at H
                  exact absurd H (by simp)
              · rw [if_neg c82] at H
                have c82b0 : decide (x6_2 < (wrap64 (400 + t242))) = false := decide_eq_false c82
                clear c82
                simp only [Option.some.injEq, Prod.mk.injEq] at H
                obtain ⟨rfl, rfl⟩ := H
                go_wp2
                go_ret
                exact ⟨_, _, _, HPOS.out, by first | rfl | (simp [errW_none, errW_some] <;> rfl) | (simp [*, errW_none, errW_some] <;> rfl), by (with_reducible repeat (first | apply Kd.R_alloc | apply Kd.R_drewN | apply Kd.R_drew)); exact HO_3.out, by repeat (first | (with_reducible first | exact HI0.out | apply IsS71.alloc | apply IsS71.drewN | apply IsS71.drew | apply IsS71.set_1) | exact HI0.out), by repeat (first | (with_reducible first | exact HB.out | apply below_alloc | apply pw_below_drewN | apply below_drew1 | refine below_set ?_ (IsS71.ge HI0.out)) | exact HB.out), by repeat (first | (with_reducible first | exact HK.out | apply KeepBut.set_ | apply keep_drewN | apply keep_drew | apply keep_alloc) | exact HK.out)⟩
        · rw [if_neg c77] at H
          exact absurd H (by simp)
      · replace c75 := Bool.eq_false_iff.mpr c75
        subst c75
        have H1 : (some (x3_3, t241)) = some (r1, r2) := by rw [if_neg (show ¬ (false = true) by decide)] at H; exact H
        clear H
        have H := H1
        clear H1
        simp only [Option.some.injEq, Prod.mk.injEq] at H
        obtain ⟨rfl, rfl⟩ := H
        go_wp2_with (first | ((with_reducible refine gate_callee (f := 33) rfl ?_); refine goesL_ (some 65) rfl rfl Try.func33 (by kernel_rfl) rfl #[.pointer (some ⟨g, 0, none⟩), .int .i64 50] rfl (by (try simp only [List.map_toArray, List.map_cons, List.map_nil]); first | done | rfl | (simp only [List.length_drop, List.length_take]; rfl)) ?_; (with_reducible refine (spec_l1Rd_once.calls g s0_0 x1001_3 50 false t241 w0 _ ?side1 ?side2 A74.out).mono ?_); (case side1 => repeat (first | (with_reducible first | exact HI0.out | apply IsS71.alloc | apply IsS71.drewN | apply IsS71.drew | apply IsS71.set_1) | exact HI0.out)); (case side2 => repeat (first | (with_reducible first | exact HB.out | apply below_alloc | apply pw_below_drewN | apply below_drew1 | refine below_set ?_ (IsS71.ge HI0.out)) | exact HB.out)); rintro e w85 ⟨rfl, hi, hb, hk⟩; refine ⟨_, rfl, ?_⟩; have n0_ := Aside0.mk (Kd.R_mono (Kd.R_keep (IsS71.apart (show IsS71 w0 _ g s0_0 x1001_3 from by repeat (first | (with_reducible first | exact HI0.out | apply IsS71.alloc | apply IsS71.drewN | apply IsS71.drew | apply IsS71.set_1) | exact HI0.out)) (by (with_reducible repeat (first | apply Kd.R_alloc | apply Kd.R_drewN | apply Kd.R_drew)); exact HO_3.out) (by decide)) hk (fun _ h => h.2)) (fun _ h => h.1)); have n1_ := Aside0.mk (KeepBut.trans (by repeat (first | (with_reducible first | exact HK.out | apply KeepBut.set_ | apply keep_drewN | apply keep_drew | apply keep_alloc) | exact HK.out)) hk (.inl rfl)); have n2_ := Aside0.mk (hb); have n3_ := Aside0.mk (hi); clear HO_3; clear HK; clear HB; clear HI0; have HO_3 := n0_; have HK := n1_; have HB := n2_; have HI0 := n3_; clear n0_ n1_ n2_ n3_; (try clear hb); (try clear hb2); (try clear hk); (try clear hi)))
        go_ret
        exact ⟨_, _, _, HPOS.out, by first | rfl | (simp [errW_none, errW_some] <;> rfl) | (simp [*, errW_none, errW_some] <;> rfl), by (with_reducible repeat (first | apply Kd.R_alloc | apply Kd.R_drewN | apply Kd.R_drew)); exact HO_3.out, by repeat (first | (with_reducible first | exact HI0.out | apply IsS71.alloc | apply IsS71.drewN | apply IsS71.drew | apply IsS71.set_1) | exact HI0.out), by repeat (first | (with_reducible first | exact HB.out | apply below_alloc | apply pw_below_drewN | apply below_drew1 | refine below_set ?_ (IsS71.ge HI0.out)) | exact HB.out), by repeat (first | (with_reducible first | exact HK.out | apply KeepBut.set_ | apply keep_drewN | apply keep_drew | apply keep_alloc) | exact HK.out)⟩


theorem d_anyl {l : List Int} : ∀ (n : Nat) (x3 : List S41) (x5 x6 : Int) (p : Int) (k : Nat), x6 + n = x5 → 0 ≤ x6 → x5 ≤ 1000 → (x3.length : Int) = x6 → n + 1 ≤ k → ∃ r, spec_l6DrawAny.l0 k x3 x5 x6 l p = some (r, p) := by
  intro n
  induction n with
  | zero =>
    intro x3 x5 x6 p k h1 h2 h3 h4 hk
    obtain ⟨k, rfl⟩ : ∃ m, k = m + 1 := ⟨k - 1, by omega⟩
    rw [spec_l6DrawAny.l0, if_neg (by omega)]; exact ⟨_, rfl⟩
  | succ n ih =>
    intro x3 x5 x6 p k h1 h2 h3 h4 hk
    obtain ⟨k, rfl⟩ : ∃ m, k = m + 1 := ⟨k - 1, by omega⟩
    rw [spec_l6DrawAny.l0, if_pos (by omega), if_pos (by omega), wrap_id (i := x6 + 1) (by omega) (by omega)]
    exact ih _ _ _ _ k (by omega) (by omega) h3 (by simp only [List.length_append, List.length_cons, List.length_nil]; omega) (by omega)
theorem d_anyj {l : List Int} {p : Int} (hl : Byt l) (hp : Pos l p) (x3 : List S41) (k : Nat) (hk : 500 ≤ k) : ∃ r, spec_l6DrawAny.j0 k x3 l p = some r ∧ Pos l r.2 := by
  obtain ⟨k, rfl⟩ : ∃ m, k = m + 1 := ⟨k - 1, by omega⟩
  obtain ⟨b, p1, e1, hp1⟩ := d_once (n := 50) hl hp (by omega)
  rw [spec_l6DrawAny.j0, e1]
  simp only [Option.bind_some]
  cases b with
  | false => rw [if_neg (by decide)]; exact ⟨_, rfl, hp1⟩
  | true =>
    rw [if_pos rfl]
    obtain ⟨v, p2, e2, v0, v1, v2, hp2⟩ := d_below (n := 2) hl hp1 (by omega)
    have v3 := v1 (by omega)
    rw [e2]
    simp only [Option.bind_some]
    rw [if_pos (by omega), wrap_id (i := 400 + v) (by omega) (by omega)]
    obtain ⟨r, e⟩ := d_anyl (l := l) (400 + v).toNat (x3.take (0 : Int).toNat) (400 + v) 0 p2 k (by omega) (by omega) (by omega) (by simp) (by omega)
    exact ⟨_, e, hp2⟩
theorem d_any {l : List Int} {p : Int} (hl : Byt l) (hp : Pos l p) (k : Nat) (hk : 500 ≤ k) (nu : Nat) : ∃ r, spec_l6DrawAny.f nu k l p = some r ∧ Pos l r.2 := by
  obtain ⟨r, p1, e1, r1, r2, hp1⟩ := d_ascent (n := 40) hl hp (by omega) (by omega) k (by omega)
  obtain ⟨b, p2, e2, hp2⟩ := d_once (n := 7) hl hp1 (by omega)
  unfold spec_l6DrawAny.f
  rw [e1]
  simp only [Option.bind_some, e2]
  cases b with
  | false => rw [if_neg (by decide)]; exact d_anyj hl hp2 _ k hk
  | true =>
    rw [if_pos rfl]
    obtain ⟨v, p3, e3, v0, v1, v2, hp3⟩ := d_below (n := (r.length : Int)) hl hp2 (by omega)
    have v3 := v1 (by omega)
    obtain ⟨u, p4, e4, u0, u1, u2, hp4⟩ := d_below (n := 6) hl hp3 (by omega)
    have u3 := u1 (by omega)
    rw [e3]
    simp only [Option.bind_some, e4]
    by_cases c0 : u = 0
    · rw [if_pos c0, if_pos v0, if_pos v3]; exact d_anyj hl hp4 _ k hk
    rw [if_neg c0]
    by_cases c1 : u = 1
    · rw [if_pos c1]
      obtain ⟨t, p5, e5, t0, t1, t2, hp5⟩ := d_below (n := 4) hl hp4 (by omega)
      have t3 := t1 (by omega)
      rw [e5]
      simp only [Option.bind_some]
      rw [if_pos t0, if_pos (by simp only [List.length_cons, List.length_nil]; omega), if_pos v0, if_pos v3]; exact d_anyj hl hp5 _ k hk
    rw [if_neg c1]
    by_cases c2 : u = 2
    · rw [if_pos c2]
      obtain ⟨t, p5, e5, t0, t1, t2, hp5⟩ := d_below (n := 5) hl hp4 (by omega)
      have t3 := t1 (by omega)
      rw [e5]
      simp only [Option.bind_some]
      rw [if_pos t0, if_pos (by simp only [List.length_cons, List.length_nil]; omega), if_pos v0, if_pos v3]; exact d_anyj hl hp5 _ k hk
    rw [if_neg c2]
    by_cases c3 : u = 3
    · rw [if_pos c3, if_pos (by omega)]; exact d_anyj hl hp4 _ k hk
    rw [if_neg c3]
    by_cases c4 : u = 4
    · rw [if_pos c4, if_pos (by omega)]; exact d_anyj hl hp4 _ k hk
    · rw [if_neg c4, if_pos (by omega), wrap_id (i := (r.length : Int) - 1) (by omega) (by omega), if_pos (by omega), if_pos (by omega)]; exact d_anyj hl hp4 _ k hk
theorem drawSignif_any (A0 : Option Addr) (c0 : Nat) (l0 : List Int) (hl : Byt l0) (hlen : l0.length ≤ 1048576) (w : World) (hr0 : Kd.C (Kd.int .u8) w A0 l0.length l0) (hc0 : l0.length ≤ c0) :
    Calls Try.prog 16 #[.slice A0 l0.length c0] w fun e w' => ∃ (r1 : List S41) (r2 : Nat) (v0_ : Value), e = .returned (.tuple #[v0_, .float .f64 r2]) ∧ Kd.R k41 41 w' w.heap.size (fun _ => True) v0_ r1 ∧ Below w.heap.size w w' := by
  have hp0 : Pos l0 0 := ⟨by omega, by omega, hlen⟩
  go_enter Try.func16, Try.ntmps16
  go_wp2_with (first | (go_at_call 30; refine (spec_l1Open.calls A0 c0 l0 l0 0 w _ (Below.refl _ _) hr0 hc0 rfl).mono ?_; rintro e w1 ⟨g, rfl, hI1, hB1, hB0⟩) |
    (go_at_call 31; refine (spec_l6DrawAny.any 500 g l0 0 w _ hI1 hB1 (d_any hl hp0 500 (by omega))).mono ?_; rintro e w2 ⟨r1, q1, v1, hp1, rfl, hR2, hI2, hB2, hK2⟩; have HR2 := Aside0.mk hR2; clear hR2; have HI := Aside0.mk hI2; have HB := Aside0.mk hB2; obtain ⟨t, q2, e2, t0, t1, t2, hp2⟩ := d_below (n := 40) hl hp1 (by omega); have t3 := t1 (by omega); have hq := quo_ten (n := t) (b := 6) (by omega) (by omega)) |
    (go_at_call 32; refine (spec_l1Rd_below.calls g l0 q1 40 t q2 w _ HI.out HB.out e2).mono ?_; rintro e w3 ⟨rfl, hI3, hB3, hK3⟩; have HR3 := Aside0.mk (Kd.R_mono (Kd.R_keep (IsS71.apart HI.out HR2.out (by decide)) hK3 (fun _ h => h.2)) (fun _ h => h.1)); clear HR2 HI HB hK3; have HI := Aside0.mk hI3; have HB := Aside0.mk hB3; clear hI3 hB3; have hq1 := hq.1; obtain ⟨b, q3, e3, hp3⟩ := d_once (n := 12) hl hp2 (by omega)) |
    (go_at_call 33; refine (spec_l1Rd_once.calls g l0 q2 12 b q3 w _ HI.out HB.out e3).mono ?_; rintro e w4 ⟨rfl, hI4, hB4, hK4⟩; have HR4 := Aside0.mk (Kd.R_mono (Kd.R_keep (IsS71.apart HI.out HR3.out (by decide)) hK4 (fun _ h => h.2)) (fun _ h => h.1)); clear HR3 HI HB hK4; have HI := Aside0.mk hI4; have HB := Aside0.mk hB4; clear hI4 hB4; cases b) |
    (go_at_call 34; refine (float_any g l0 q3 hl hp3 w _ HI.out HB.out).mono ?_; rintro e w5 ⟨x, q4, rfl, hp4, hI5, hB5, hK5⟩; have HR5 := Aside0.mk (Kd.R_mono (Kd.R_keep (IsS71.apart HI.out HR4.out (by decide)) hK5 (fun _ h => h.2)) (fun _ h => h.1)); have HB5 := Aside0.mk hB5))
  · go_ret2
    exact ⟨r1, _, _, rfl, Kd.R_lower HR4.out (below_size hB1), HB.out⟩
  · go_ret2
    exact ⟨r1, _, _, rfl, Kd.R_lower HR5.out (below_size hB1), HB5.out⟩
end Go.Proofs.Ytjgnolohppnbbaa.PSg
