-- Printed by a program of this session's own (wip/print), out of the translation. Lean checks it.
import Derived.Test.YtigegicbfmjpbaaDoorPRnx0
namespace Go.Proofs.YtigegicbfmjpbaaDoor.PRn
open Go.Proofs.YtigegicbfmjpbaaDoorW
open Go.RowKit Go.Proofs.YtigegicbfmjpbaaDoorW.PrintWords Go.Proofs.YtigegicbfmjpbaaDoorW.PrintLast Go.Proofs.YtigegicbfmjpbaaDoorW.PrintMore
attribute [local go_sem] max2_int min2_int max_two min_two max_three min_three max_four min_four   -- for this text's walks alone
set_option linter.unusedVariables false
set_option linter.unusedSimpArgs false

/-! ### spec_l1Ten: function 26 -/
def spec_l1Ten.l0 : Nat → Int → Int → Int → Option (Int)
  | 0, _, _, _ => none
  | k + 1, x0, x3, x4 => if x4 < x0 then (spec_l1Ten.l0 k x0 (wrap64 (x3 * 10)) (wrap64 (x4 + 1))) else (some x3)
def spec_l1Ten.f (k : Nat) (a0 : Int) : Option (Int) := spec_l1Ten.l0 k a0 1 0
theorem spec_l1Ten.mono_l : ∀ k, (∀ y0 y1 y2, LeO (spec_l1Ten.l0 k y0 y1 y2) (spec_l1Ten.l0 (k + 1) y0 y1 y2))
  | 0 => fun _ _ _ r h => by simp [spec_l1Ten.l0] at h
  | k + 1 => by
    have ih0 := spec_l1Ten.mono_l k
    · intro y0 y1 y2
      unfold spec_l1Ten.l0
      repeat' first
      | (with_reducible exact ih0 _ _ _)
      | (with_reducible exact LeO.refl _)
      | (with_reducible exact LeO.none _)
      | (with_reducible refine LeO.ite ?_ ?_)
      | (with_reducible refine LeO.bind ?_ (fun _ => ?_))
      | exact ih0 _ _ _
      | exact LeO.none _
      | refine LeO.ite ?_ ?_
      | refine LeO.bind ?_ (fun _ => ?_)
theorem spec_l1Ten.mono : ∀ a0 k, LeO (spec_l1Ten.f k a0) (spec_l1Ten.f (k + 1) a0) := by
  intro a0 k
  have ih0 := spec_l1Ten.mono_l k
  unfold spec_l1Ten.f
  repeat' first
      | (with_reducible exact ih0 _ _ _)
      | (with_reducible exact LeO.refl _)
      | (with_reducible exact LeO.none _)
      | (with_reducible refine LeO.ite ?_ ?_)
      | (with_reducible refine LeO.bind ?_ (fun _ => ?_))
      | exact ih0 _ _ _
      | exact LeO.none _
      | refine LeO.ite ?_ ?_
      | refine LeO.bind ?_ (fun _ => ?_)
set_option maxHeartbeats 8000000 in
set_option maxRecDepth 100000 in
theorem spec_l1Ten.calls (k : Nat) (a0 : Int) (r : Int) (w : World) (h : spec_l1Ten.f k a0 = some r) :
    Calls Tryd.prog 26 #[.int .i64 a0] w fun e w' => e = .returned (.int .i64 r) ∧ Drawn0 w w' := by
  have H : (spec_l1Ten.l0 k a0 1 0) = some r := h
  clear h
  have H' := Aside0.mk H
  clear H
  go_enter Tryd.func26, Tryd.ntmps26
  go_wp2
  go_loopg [3, 4] k (fun kq v3 v4 w' => ∃ (x3_1 : Int) (x4_1 : Int), v3 = .int .i64 x3_1 ∧ v4 = .int .i64 x4_1 ∧ Aside0 (spec_l1Ten.l0 kq a0 x3_1 x4_1 = some r) ∧ Aside0 (kq ≤ k) ∧ Drawn0 w w')
  case atStart => exact ⟨(1), (0), (by first | rfl | (simp; done) | (simp [*]; done)), (by first | rfl | (simp; done) | (simp [*]; done)), H', ⟨Nat.le_refl _⟩, by repeat (first | exact Drawn0.refl _ | apply Drawn0.step)⟩
  case round =>
    clear H'
    obtain ⟨x3_1, x4_1, rfl, rfl, HA, HK1, ⟨m1, rfl⟩⟩ := hrel
    cases gk with
    | zero => exact absurd HA.out (by simp [spec_l1Ten.l0])
    | succ k1 =>
      have H := HA.out
      clear HA
      simp only [spec_l1Ten.l0] at H
      by_cases c2 : x4_1 < a0
      · rw [if_pos c2] at H
        have c2b0 : decide (x4_1 < a0) = true := decide_eq_true c2
        clear c2
        have H' := Aside0.mk H
        clear H
        go_wp2
        go_roundg k1
        case measure => have := HK1.out; omega
        case rel => exact ⟨(wrap64 (x3_1 * 10)), (wrap64 (x4_1 + 1)), (by first | rfl | (simp; done) | (simp [*]; done)), (by first | rfl | (simp; done) | (simp [*]; done)), H', ⟨by have := HK1.out; omega⟩, by repeat (first | exact Drawn0.refl _ | apply Drawn0.step)⟩
      · rw [if_neg c2] at H
        have c2b0 : decide (x4_1 < a0) = false := decide_eq_false c2
        clear c2
        obtain rfl := Option.some.inj H
        go_wp2
        go_ret
        exact ⟨by first | rfl | (simp; done) | (simp [*]; done), by repeat (first | exact Drawn0.refl _ | apply Drawn0.step)⟩

/-! ### spec_l1Dec: function 48 -/
mutual
def spec_l1Dec.j0 : Nat → Int → ByteArray → Int → Option (ByteArray)
  | 0, _, _, _ => none
  | k + 1, x0, x3, x4 => spec_l1Dec.l0 k x0 x3 x4
def spec_l1Dec.l0 : Nat → Int → ByteArray → Int → Option (ByteArray)
  | 0, _, _, _ => none
  | k + 1, x0, x3, x4 => if x4 > 0 then ((some (([(IntKind.u64.wrap (48 + (Int.tmod x4 10))) % 256] : List Int) : List Int)).bind fun y101 => (if (strOfNums y101).size + x3.size ≤ 9223372036854775807 then (spec_l1Dec.l0 k x0 ((strOfNums y101) ++ x3) (IntKind.u64.wrap (Int.tdiv x4 10))) else (none))) else (if x0 < 0 then (if 1 + x3.size ≤ 9223372036854775807 then (some ((⟨#[45]⟩ : ByteArray) ++ x3)) else (none)) else (some x3))
end
def spec_l1Dec.f (k : Nat) (a0 : Int) : Option (ByteArray) := if a0 = 0 then (some (⟨#[48]⟩ : ByteArray)) else (if a0 < 0 then (spec_l1Dec.j0 k a0 (⟨#[]⟩ : ByteArray) (IntKind.u64.wrap (-(IntKind.u64.wrap (a0))))) else (spec_l1Dec.j0 k a0 (⟨#[]⟩ : ByteArray) (IntKind.u64.wrap (a0))))
theorem spec_l1Dec.mono_l : ∀ k, (∀ y0 y1 y2, LeO (spec_l1Dec.j0 k y0 y1 y2) (spec_l1Dec.j0 (k + 1) y0 y1 y2)) ∧ (∀ y0 y1 y2, LeO (spec_l1Dec.l0 k y0 y1 y2) (spec_l1Dec.l0 (k + 1) y0 y1 y2))
  | 0 => ⟨fun _ _ _ r h => by simp [spec_l1Dec.j0] at h, fun _ _ _ r h => by simp [spec_l1Dec.l0] at h⟩
  | k + 1 => by
    obtain ⟨ih0, ih1⟩ := spec_l1Dec.mono_l k
    refine ⟨?_, ?_⟩
    · intro y0 y1 y2
      unfold spec_l1Dec.j0
      repeat' first
      | (with_reducible exact ih0 _ _ _)
      | (with_reducible exact ih1 _ _ _)
      | (with_reducible exact LeO.refl _)
      | (with_reducible exact LeO.none _)
      | (with_reducible refine LeO.ite ?_ ?_)
      | (with_reducible refine LeO.bind ?_ (fun _ => ?_))
      | exact ih0 _ _ _
      | exact ih1 _ _ _
      | exact LeO.none _
      | refine LeO.ite ?_ ?_
      | refine LeO.bind ?_ (fun _ => ?_)
    · intro y0 y1 y2
      unfold spec_l1Dec.l0
      repeat' first
      | (with_reducible exact ih0 _ _ _)
      | (with_reducible exact ih1 _ _ _)
      | (with_reducible exact LeO.refl _)
      | (with_reducible exact LeO.none _)
      | (with_reducible refine LeO.ite ?_ ?_)
      | (with_reducible refine LeO.bind ?_ (fun _ => ?_))
      | exact ih0 _ _ _
      | exact ih1 _ _ _
      | exact LeO.none _
      | refine LeO.ite ?_ ?_
      | refine LeO.bind ?_ (fun _ => ?_)
theorem spec_l1Dec.mono : ∀ a0 k, LeO (spec_l1Dec.f k a0) (spec_l1Dec.f (k + 1) a0) := by
  intro a0 k
  obtain ⟨ih0, ih1⟩ := spec_l1Dec.mono_l k
  unfold spec_l1Dec.f
  repeat' first
      | (with_reducible exact ih0 _ _ _)
      | (with_reducible exact ih1 _ _ _)
      | (with_reducible exact LeO.refl _)
      | (with_reducible exact LeO.none _)
      | (with_reducible refine LeO.ite ?_ ?_)
      | (with_reducible refine LeO.bind ?_ (fun _ => ?_))
      | exact ih0 _ _ _
      | exact ih1 _ _ _
      | exact LeO.none _
      | refine LeO.ite ?_ ?_
      | refine LeO.bind ?_ (fun _ => ?_)
set_option maxHeartbeats 8000000 in
set_option maxRecDepth 100000 in
theorem spec_l1Dec.calls (k : Nat) (a0 : Int) (r : ByteArray) (w : World) (h : spec_l1Dec.f k a0 = some r) :
    Calls Tryd.prog 48 #[.int .i64 a0] w fun e w' => e = .returned (.string r) ∧ Below w.heap.size w w' := by
  have HB := Aside0.mk (Below.refl w.heap.size w)
  have H : (if a0 = 0 then (some (⟨#[48]⟩ : ByteArray)) else (if a0 < 0 then (spec_l1Dec.j0 k a0 (⟨#[]⟩ : ByteArray) (IntKind.u64.wrap (-(IntKind.u64.wrap (a0))))) else (spec_l1Dec.j0 k a0 (⟨#[]⟩ : ByteArray) (IntKind.u64.wrap (a0))))) = some r := h
  clear h
  by_cases c2 : a0 = 0
  · rw [if_pos c2] at H
    have c2b0 : (a0 == 0) = true := beq_iff_eq.mpr c2
    have c2b1 : (a0 != 0) = false := bne_eq_false_iff_eq.mpr c2
    clear c2
    obtain rfl := Option.some.inj H
    go_enter Tryd.func48, Tryd.ntmps48
    go_wp2
    go_ret
    exact ⟨by first | rfl | (simp [errW_none, errW_some] <;> rfl) | (simp [*, errW_none, errW_some] <;> rfl), by repeat (first | (with_reducible first | exact HB.out | apply below_alloc | apply pw_below_drewN | apply below_drew1) | exact HB.out)⟩
  · rw [if_neg c2] at H
    have c2b0 : (a0 == 0) = false := beq_eq_false_iff_ne.mpr c2
    have c2b1 : (a0 != 0) = true := bne_iff_ne.mpr c2
    have HC3 := Aside0.mk H
    clear H
    go_enter Tryd.func48, Tryd.ntmps48
    go_upto_if 10 with (fail)
    go_cut [4] (fun v4 wc => ∃ (kq : Nat) (x4_2 : Int), v4 = .int .u64 x4_2 ∧ Aside0 (spec_l1Dec.j0 kq a0 (⟨#[]⟩ : ByteArray) x4_2 = some r) ∧ Aside0 (kq ≤ k) ∧ Aside0 (Below w.heap.size w wc))
    case first =>
      have H := HC3.out
      clear HC3
      by_cases c4 : a0 < 0
      · rw [if_pos c4] at H
        have c4b0 : decide (a0 < 0) = true := decide_eq_true c4
        clear c4
        (first | rw [c4b0] | (simp only [i64_w, i32_w]; rw [c4b0]) | skip)
        have H' := Aside0.mk H
        clear H
        go_wp2
        go_meet
        case rel => exact ⟨_, (IntKind.u64.wrap (-(IntKind.u64.wrap (a0)))), (by first | rfl | (simp; done) | (simp [*]; done)), H', ⟨by first | omega | exact Nat.le_refl _⟩, ⟨by repeat (first | (with_reducible first | exact HB.out | apply below_alloc | apply pw_below_drewN | apply below_drew1) | exact HB.out)⟩⟩
      · rw [if_neg c4] at H
        have c4b0 : decide (a0 < 0) = false := decide_eq_false c4
        clear c4
        (first | rw [c4b0] | (simp only [i64_w, i32_w]; rw [c4b0]) | skip)
        have H' := Aside0.mk H
        clear H
        go_wp2
        go_meet
        case rel => exact ⟨_, (IntKind.u64.wrap (a0)), (by first | rfl | (simp; done) | (simp [*]; done)), H', ⟨by first | omega | exact Nat.le_refl _⟩, ⟨by repeat (first | (with_reducible first | exact HB.out | apply below_alloc | apply pw_below_drewN | apply below_drew1) | exact HB.out)⟩⟩
    case rest =>
      clear HC3
      try clear c2
      try clear c2b0
      try clear c2b1
      try clear p2
      try clear c4
      try clear c4b0
      obtain ⟨kq, x4_2, rfl, HA, HJ2, HB⟩ := hcut
      cases kq with
      | zero => exact absurd HA.out (by simp [spec_l1Dec.j0])
      | succ kj2 =>
        have H := HA.out
        clear HA
        simp only [spec_l1Dec.j0] at H
        have H' := Aside0.mk H
        clear H
        go_wp2
        go_loopg [3, 4] kj2 (fun kq v3 v4 w' => ∃ (x3_2 : ByteArray) (x4_2 : Int), v3 = .string x3_2 ∧ v4 = .int .u64 x4_2 ∧ Aside0 (spec_l1Dec.l0 kq a0 x3_2 x4_2 = some r) ∧ Aside0 (kq ≤ kj2) ∧ Aside0 (Below w.heap.size w w'))
        case atStart => exact ⟨((⟨#[]⟩ : ByteArray)), (x4_2), (by first | rfl | (simp; done) | (simp [*]; done)), (by first | rfl | (simp; done) | (simp [*]; done)), H', ⟨Nat.le_refl _⟩, ⟨by repeat (first | (with_reducible first | exact HB.out | apply below_alloc | apply pw_below_drewN | apply below_drew1) | exact HB.out)⟩⟩
        case round =>
          clear H'
          try clear c2
          try clear c2b0
          try clear c2b1
          try clear p2
          try clear c4
          try clear c4b0
          try clear p2
          obtain ⟨x3_2, x4_2, rfl, rfl, HA, HK2, HB⟩ := hrel
          cases gk with
          | zero => exact absurd HA.out (by simp [spec_l1Dec.l0])
          | succ k2 =>
            have H := HA.out
            clear HA
            simp only [spec_l1Dec.l0] at H
            by_cases c5 : x4_2 > 0
            · rw [if_pos c5] at H
              have c5b0 : decide (0 < x4_2) = true := decide_eq_true c5
              clear c5
              obtain ⟨y101, hy101⟩ : ∃ y_ : List Int, y_ = (([(IntKind.u64.wrap (48 + (Int.tmod x4_2 10))) % 256] : List Int)) := ⟨_, rfl⟩
              replace H : (if (strOfNums y101).size + x3_2.size ≤ 9223372036854775807 then (spec_l1Dec.l0 k2 a0 ((strOfNums y101) ++ x3_2) (IntKind.u64.wrap (Int.tdiv x4_2 10))) else (none)) = some r := by first | (rw [hy101]; with_reducible exact H) | (have H2_ := (Option.bind_some _ _).symm.trans H; rw [hy101]; with_reducible exact H2_) | (have H2_ := (Option.bind_some _ _).symm.trans H; with_reducible exact H2_) | with_reducible exact H | (rw [hy101]; exact H) | exact H
              have Ny101 := Aside0.mk hy101
              clear hy101
              by_cases c6 : (strOfNums y101).size + x3_2.size ≤ 9223372036854775807
              · rw [if_pos c6] at H
                have c6b0 := eq_true c6
                have c6b1 : decide ((strOfNums y101).size + x3_2.size ≤ 9223372036854775807) = true := decide_eq_true c6
                try have c6b2 : (9223372036854775807 < (strOfNums y101).size + x3_2.size) = False := eq_false (Nat.not_lt.2 c6)
                have H' := Aside0.mk H
                clear H
                go_wp2_with (first | ((with_reducible refine gate_dst (N := 19) rfl ?_); refine Kd.R_lit (Kd.int .u8) _ 5 ?hg (N := 19) ?hd (xs := ([(IntKind.u64.wrap (48 + (Int.tmod x4_2 10))) % 256] : List Int)) (inner := [.int .u8 ((IntKind.u64.wrap (48 + (Int.tmod x4_2 10))) % 256)]) (ok := fun _ => True) (okp := fun _ => True) ?hr ?hp (fun _ hk => hk) trivial (Below.refl _ _) (Nat.le_refl _) (by simp) ?_; (case hd => rfl); (case hg => rfl); (case hr => first | (go_simp; done) | (go_simp; rfl)); (case hp => exact (Reps.one (show Kd.M (Kd.int .u8) _ _ _ ((IntKind.u64.wrap (48 + (Int.tmod x4_2 10))) % 256) [.int .u8 ((IntKind.u64.wrap (48 + (Int.tmod x4_2 10))) % 256)] from rfl) (Reps.none _ _))); intro v102 w7 ho8 hb hg_ hnew_; clear hg_ hnew_; (first | rw [← Ny101.out] at ho8 | (simp only [Int.reduceToNat] at ho8; rw [← Ny101.out] at ho8)); have n0_ := Aside0.mk (Kd.R_lower ho8 (below_size (by repeat (first | (with_reducible first | exact HB.out | apply below_alloc | apply pw_below_drewN | apply below_drew1) | exact HB.out)))); have n1_ := Aside0.mk (below_step (by repeat (first | (with_reducible first | exact HB.out | apply below_alloc | apply pw_below_drewN | apply below_drew1) | exact HB.out)) hb); clear HB; have HO103 := n0_; have HB := n1_; clear n0_ n1_; clear hb ho8; have hcv9 := own_string (P := Tryd.prog) Tryd.underlying98 Tryd.underlying5 Tryd.underlying9 (Kd.own_of_R HO103.out)))
                go_roundg k2
                case measure => have := HJ2.out; have := HK2.out; omega
                case rel => exact ⟨((strOfNums y101) ++ x3_2), (IntKind.u64.wrap (Int.tdiv x4_2 10)), (by first | rfl | (simp; done) | (simp [*]; done)), (by first | rfl | (simp; done) | (simp [*]; done)), H', ⟨by have := HJ2.out; have := HK2.out; omega⟩, ⟨by repeat (first | (with_reducible first | exact HB.out | apply below_alloc | apply pw_below_drewN | apply below_drew1) | exact HB.out)⟩⟩
              · rw [if_neg c6] at H
                exact absurd H (by simp)
            · rw [if_neg c5] at H
              have c5b0 : decide (0 < x4_2) = false := decide_eq_false c5
              clear c5
              by_cases c10 : a0 < 0
              · rw [if_pos c10] at H
                have c10b0 : decide (a0 < 0) = true := decide_eq_true c10
                clear c10
                by_cases c11 : 1 + x3_2.size ≤ 9223372036854775807
                · rw [if_pos c11] at H
                  have c11b0 := eq_true c11
                  have c11b1 : decide (1 + x3_2.size ≤ 9223372036854775807) = true := decide_eq_true c11
                  try have c11b2 : (9223372036854775807 < 1 + x3_2.size) = False := eq_false (Nat.not_lt.2 c11)
                  obtain rfl := Option.some.inj H
                  go_wp2
                  go_ret
                  exact ⟨by first | rfl | (simp [errW_none, errW_some] <;> rfl) | (simp [*, errW_none, errW_some] <;> rfl), by repeat (first | (with_reducible first | exact HB.out | apply below_alloc | apply pw_below_drewN | apply below_drew1) | exact HB.out)⟩
                · rw [if_neg c11] at H
                  exact absurd H (by simp)
              · rw [if_neg c10] at H
                have c10b0 : decide (a0 < 0) = false := decide_eq_false c10
                clear c10
                obtain rfl := Option.some.inj H
                go_wp2
                go_ret
                exact ⟨by first | rfl | (simp [errW_none, errW_some] <;> rfl) | (simp [*, errW_none, errW_some] <;> rfl), by repeat (first | (with_reducible first | exact HB.out | apply below_alloc | apply pw_below_drewN | apply below_drew1) | exact HB.out)⟩

/-! ### spec_l1Point: function 27 (given by hand) -/
mutual
def spec_l1Point.j0 : Nat → Int → ByteArray → ByteArray → Option (ByteArray)
  | 0, _, _, _ => none
  | k + 1, x1, x5, x6 => spec_l1Point.l0 k x1 x5 x6
def spec_l1Point.l0 : Nat → Int → ByteArray → ByteArray → Option (ByteArray)
  | 0, _, _, _ => none
  | k + 1, x1, x5, x6 => if (x5.size : Int) ≤ x1 then (if 1 + x5.size ≤ 9223372036854775807 then (spec_l1Point.l0 k x1 ((⟨#[48]⟩ : ByteArray) ++ x5) x6) else (none)) else (if 0 ≤ (wrap64 ((x5.size : Int) - x1)) then (if (wrap64 ((x5.size : Int) - x1)) ≤ (x5.size : Int) then (if x6.size + (x5.extract 0 ((wrap64 ((x5.size : Int) - x1)) : Int).toNat).size ≤ 9223372036854775807 then (if (x6 ++ (x5.extract 0 ((wrap64 ((x5.size : Int) - x1)) : Int).toNat)).size + 1 ≤ 9223372036854775807 then (if ((x6 ++ (x5.extract 0 ((wrap64 ((x5.size : Int) - x1)) : Int).toNat)) ++ (⟨#[46]⟩ : ByteArray)).size + (x5.extract ((wrap64 ((x5.size : Int) - x1)) : Int).toNat x5.size).size ≤ 9223372036854775807 then (some (((x6 ++ (x5.extract 0 ((wrap64 ((x5.size : Int) - x1)) : Int).toNat)) ++ (⟨#[46]⟩ : ByteArray)) ++ (x5.extract ((wrap64 ((x5.size : Int) - x1)) : Int).toNat x5.size))) else (none)) else (none)) else (none)) else (none)) else (none))
end
def spec_l1Point.f (k : Nat) (a0 : Int) (a1 : Int) : Option (ByteArray) := (spec_l1Dec.f k a0).bind fun t106 => (if a1 = 0 then (some t106) else (if a0 < 0 then (if 1 ≤ (t106.size : Int) then (spec_l1Point.j0 k a1 (t106.extract 1 t106.size) (⟨#[45]⟩ : ByteArray)) else (none)) else (spec_l1Point.j0 k a1 t106 (⟨#[]⟩ : ByteArray))))
theorem spec_l1Point.mono_l : ∀ k, (∀ y0 y1 y2, LeO (spec_l1Point.j0 k y0 y1 y2) (spec_l1Point.j0 (k + 1) y0 y1 y2)) ∧ (∀ y0 y1 y2, LeO (spec_l1Point.l0 k y0 y1 y2) (spec_l1Point.l0 (k + 1) y0 y1 y2))
  | 0 => ⟨fun _ _ _ r h => by simp [spec_l1Point.j0] at h, fun _ _ _ r h => by simp [spec_l1Point.l0] at h⟩
  | k + 1 => by
    obtain ⟨ih0, ih1⟩ := spec_l1Point.mono_l k
    refine ⟨?_, ?_⟩
    · intro y0 y1 y2
      unfold spec_l1Point.j0
      repeat' first
      | (with_reducible exact ih0 _ _ _)
      | (with_reducible exact ih1 _ _ _)
      | (with_reducible exact spec_l1Dec.mono _ _)
      | (with_reducible exact LeO.refl _)
      | (with_reducible exact LeO.none _)
      | (with_reducible refine LeO.ite ?_ ?_)
      | (with_reducible refine LeO.bind ?_ (fun _ => ?_))
      | exact ih0 _ _ _
      | exact ih1 _ _ _
      | exact spec_l1Dec.mono _ _
      | exact LeO.none _
      | refine LeO.ite ?_ ?_
      | refine LeO.bind ?_ (fun _ => ?_)
    · intro y0 y1 y2
      unfold spec_l1Point.l0
      repeat' first
      | (with_reducible exact ih0 _ _ _)
      | (with_reducible exact ih1 _ _ _)
      | (with_reducible exact spec_l1Dec.mono _ _)
      | (with_reducible exact LeO.refl _)
      | (with_reducible exact LeO.none _)
      | (with_reducible refine LeO.ite ?_ ?_)
      | (with_reducible refine LeO.bind ?_ (fun _ => ?_))
      | exact ih0 _ _ _
      | exact ih1 _ _ _
      | exact spec_l1Dec.mono _ _
      | exact LeO.none _
      | refine LeO.ite ?_ ?_
      | refine LeO.bind ?_ (fun _ => ?_)
theorem spec_l1Point.mono : ∀ a0 a1 k, LeO (spec_l1Point.f k a0 a1) (spec_l1Point.f (k + 1) a0 a1) := by
  intro a0 a1 k
  obtain ⟨ih0, ih1⟩ := spec_l1Point.mono_l k
  unfold spec_l1Point.f
  repeat' first
      | (with_reducible exact ih0 _ _ _)
      | (with_reducible exact ih1 _ _ _)
      | (with_reducible exact spec_l1Dec.mono _ _)
      | (with_reducible exact LeO.refl _)
      | (with_reducible exact LeO.none _)
      | (with_reducible refine LeO.ite ?_ ?_)
      | (with_reducible refine LeO.bind ?_ (fun _ => ?_))
      | exact ih0 _ _ _
      | exact ih1 _ _ _
      | exact spec_l1Dec.mono _ _
      | exact LeO.none _
      | refine LeO.ite ?_ ?_
      | refine LeO.bind ?_ (fun _ => ?_)
set_option maxHeartbeats 8000000 in
set_option maxRecDepth 100000 in
theorem spec_l1Point.calls (k : Nat) (a0 : Int) (a1 : Int) (r : ByteArray) (w : World) (h : spec_l1Point.f k a0 a1 = some r) :
    Calls Tryd.prog 27 #[.int .i64 a0, .int .i64 a1] w fun e w' => e = .returned (.string r) ∧ Below w.heap.size w w' := by
  have HB := Aside0.mk (Below.refl w.heap.size w)
  have H : ((spec_l1Dec.f k a0).bind fun t106 => (if a1 = 0 then (some t106) else (if a0 < 0 then (if 1 ≤ (t106.size : Int) then (spec_l1Point.j0 k a1 (t106.extract 1 t106.size) (⟨#[45]⟩ : ByteArray)) else (none)) else (spec_l1Point.j0 k a1 t106 (⟨#[]⟩ : ByteArray))))) = some r := h
  clear h
  replace H := Option.bind_eq_some_iff.mp H
  obtain ⟨t106, A30, H⟩ := H
  replace H : (if a1 = 0 then (some t106) else (if a0 < 0 then (if 1 ≤ (t106.size : Int) then (spec_l1Point.j0 k a1 (t106.extract 1 t106.size) (⟨#[45]⟩ : ByteArray)) else (none)) else (spec_l1Point.j0 k a1 t106 (⟨#[]⟩ : ByteArray)))) = some r := H
  have A3 := Aside0.mk A30
  clear A30
  by_cases c4 : a1 = 0
  · rw [if_pos c4] at H
    have c4b0 : (a1 == 0) = true := beq_iff_eq.mpr c4
    have c4b1 : (a1 != 0) = false := bne_eq_false_iff_eq.mpr c4
    clear c4
    obtain rfl := Option.some.inj H
    go_enter Tryd.func27, Tryd.ntmps27
    go_wp2_with (first | (go_at_call 48; (with_reducible refine (spec_l1Dec.calls k a0 t106 _ A3.out).mono ?_); rintro e w5 ⟨rfl, hb⟩; have n0_ := Aside0.mk (below_step (by repeat (first | (with_reducible first | exact HB.out | apply below_alloc | apply pw_below_drewN | apply below_drew1) | exact HB.out)) hb); clear HB; have HB := n0_; clear n0_; (try clear hb); (try clear hb2); (try clear hk); (try clear hi)))
    repeat (go_quiet (first | (go_at_call 48; (with_reducible refine (spec_l1Dec.calls k a0 t106 _ A3.out).mono ?_); rintro e w5 ⟨rfl, hb⟩; have n0_ := Aside0.mk (below_step (by repeat (first | (with_reducible first | exact HB.out | apply below_alloc | apply pw_below_drewN | apply below_drew1) | exact HB.out)) hb); clear HB; have HB := n0_; clear n0_; (try clear hb); (try clear hb2); (try clear hk); (try clear hi))); try go_wp2_with (first | (go_at_call 48; (with_reducible refine (spec_l1Dec.calls k a0 t106 _ A3.out).mono ?_); rintro e w5 ⟨rfl, hb⟩; have n0_ := Aside0.mk (below_step (by repeat (first | (with_reducible first | exact HB.out | apply below_alloc | apply pw_below_drewN | apply below_drew1) | exact HB.out)) hb); clear HB; have HB := n0_; clear n0_; (try clear hb); (try clear hb2); (try clear hk); (try clear hi))))
    go_ret
    exact ⟨by first | rfl | (simp [errW_none, errW_some] <;> rfl) | (simp [*, errW_none, errW_some] <;> rfl), by repeat (first | (with_reducible first | exact HB.out | apply below_alloc | apply pw_below_drewN | apply below_drew1) | exact HB.out)⟩
  · rw [if_neg c4] at H
    have c4b0 : (a1 == 0) = false := beq_eq_false_iff_ne.mpr c4
    have c4b1 : (a1 != 0) = true := bne_iff_ne.mpr c4
    have HC6 := Aside0.mk H
    clear H
    go_enter Tryd.func27, Tryd.ntmps27
    go_upto_if 14 with (first | (go_at_call 48; (with_reducible refine (spec_l1Dec.calls k a0 t106 _ A3.out).mono ?_); rintro e w7 ⟨rfl, hb⟩; have n0_ := Aside0.mk (below_step (by repeat (first | (with_reducible first | exact HB.out | apply below_alloc | apply pw_below_drewN | apply below_drew1) | exact HB.out)) hb); clear HB; have HB := n0_; clear n0_; (try clear hb); (try clear hb2); (try clear hk); (try clear hi)))
    repeat (go_quiet (first | (go_at_call 48; (with_reducible refine (spec_l1Dec.calls k a0 t106 _ A3.out).mono ?_); rintro e w7 ⟨rfl, hb⟩; have n0_ := Aside0.mk (below_step (by repeat (first | (with_reducible first | exact HB.out | apply below_alloc | apply pw_below_drewN | apply below_drew1) | exact HB.out)) hb); clear HB; have HB := n0_; clear n0_; (try clear hb); (try clear hb2); (try clear hk); (try clear hi))); go_upto_if 14 with (first | (go_at_call 48; (with_reducible refine (spec_l1Dec.calls k a0 t106 _ A3.out).mono ?_); rintro e w7 ⟨rfl, hb⟩; have n0_ := Aside0.mk (below_step (by repeat (first | (with_reducible first | exact HB.out | apply below_alloc | apply pw_below_drewN | apply below_drew1) | exact HB.out)) hb); clear HB; have HB := n0_; clear n0_; (try clear hb); (try clear hb2); (try clear hk); (try clear hi))))
    (try simp only [Act.put, List.setIfInBounds_toArray, List.set_cons_zero, List.set_cons_succ])
    go_cut [5, 6] (fun v5 v6 wc => ∃ (kq : Nat) (x5_5 : ByteArray) (x6_5 : ByteArray), v5 = .string x5_5 ∧ v6 = .string x6_5 ∧ Aside0 (spec_l1Point.j0 kq a1 x5_5 x6_5 = some r) ∧ Aside0 (kq ≤ k) ∧ Aside0 (Below w.heap.size w wc))
    case first =>
      have H := HC6.out
      clear HC6
      by_cases c8 : a0 < 0
      · rw [if_pos c8] at H
        have c8b0 : decide (a0 < 0) = true := decide_eq_true c8
        clear c8
        (first | rw [c8b0] | (simp only [i64_w, i32_w]; rw [c8b0]) | skip)
        by_cases c9 : 1 ≤ (t106.size : Int)
        · rw [if_pos c9] at H
          have c9b0 := eq_true c9
          have c9b1 : decide (1 ≤ (t106.size : Int)) = true := decide_eq_true c9
          clear c9
          have H' := Aside0.mk H
          clear H
          go_wp2
          repeat (go_quiet (fail); try go_wp2)
          go_meet
          case rel => exact ⟨_, (t106.extract 1 t106.size), ((⟨#[45]⟩ : ByteArray)), (by first | rfl | (simp; done) | (simp [*]; done)), (by first | rfl | (simp; done) | (simp [*]; done)), H', ⟨by first | omega | exact Nat.le_refl _⟩, ⟨by repeat (first | (with_reducible first | exact HB.out | apply below_alloc | apply pw_below_drewN | apply below_drew1) | exact HB.out)⟩⟩
        · rw [if_neg c9] at H
          exact absurd H (by simp)
      · rw [if_neg c8] at H
        have c8b0 : decide (a0 < 0) = false := decide_eq_false c8
        clear c8
        (first | rw [c8b0] | (simp only [i64_w, i32_w]; rw [c8b0]) | skip)
        have H' := Aside0.mk H
        clear H
        go_wp2
        repeat (go_quiet (fail); try go_wp2)
        go_meet
        case rel => exact ⟨_, (t106), ((⟨#[]⟩ : ByteArray)), (by first | rfl | (simp; done) | (simp [*]; done)), (by first | rfl | (simp; done) | (simp [*]; done)), H', ⟨by first | omega | exact Nat.le_refl _⟩, ⟨by repeat (first | (with_reducible first | exact HB.out | apply below_alloc | apply pw_below_drewN | apply below_drew1) | exact HB.out)⟩⟩
    case rest =>
      clear HC6
      try clear c2
      try clear p2
      try clear c4
      try clear c4b0
      try clear c4b1
      try clear c8
      try clear c8b0
      try clear c9
      try clear c9b0
      try clear c9b1
      obtain ⟨kq, x5_5, x6_5, rfl, rfl, HA, HJ5, HB⟩ := hcut
      cases kq with
      | zero => exact absurd HA.out (by simp [spec_l1Point.j0])
      | succ kj5 =>
        have H := HA.out
        clear HA
        simp only [spec_l1Point.j0] at H
        have H' := Aside0.mk H
        clear H
        go_wp2
        repeat (go_quiet (fail); try go_wp2)
        go_loopg [5] kj5 (fun kq v5 w' => ∃ (x5_2 : ByteArray), v5 = .string x5_2 ∧ Aside0 (spec_l1Point.l0 kq a1 x5_2 x6_5 = some r) ∧ Aside0 (kq ≤ kj5) ∧ Aside0 (Below w.heap.size w w'))
        case atStart => exact ⟨(x5_5), (by first | rfl | (simp; done) | (simp [*]; done)), H', ⟨Nat.le_refl _⟩, ⟨by repeat (first | (with_reducible first | exact HB.out | apply below_alloc | apply pw_below_drewN | apply below_drew1) | exact HB.out)⟩⟩
        case round =>
          clear H'
          try clear c2
          try clear p2
          try clear c4
          try clear c4b0
          try clear c4b1
          try clear c8
          try clear c8b0
          try clear c9
          try clear c9b0
          try clear c9b1
          try clear p2
          obtain ⟨x5_2, rfl, HA, HK2, HB⟩ := hrel
          cases gk with
          | zero => exact absurd HA.out (by simp [spec_l1Point.l0])
          | succ k2 =>
            have H := HA.out
            clear HA
            simp only [spec_l1Point.l0] at H
            by_cases c10 : (x5_2.size : Int) ≤ a1
            · rw [if_pos c10] at H
              have c10b0 : decide ((x5_2.size : Int) ≤ a1) = true := decide_eq_true c10
              clear c10
              by_cases c11 : 1 + x5_2.size ≤ 9223372036854775807
              · rw [if_pos c11] at H
                have c11b0 := eq_true c11
                have c11b1 : decide (1 + x5_2.size ≤ 9223372036854775807) = true := decide_eq_true c11
                try have c11b2 : (9223372036854775807 < 1 + x5_2.size) = False := eq_false (Nat.not_lt.2 c11)
                have H' := Aside0.mk H
                clear H
                go_wp2
                repeat (go_quiet (fail); try go_wp2)
                go_roundg k2
                case measure => have := HJ5.out; have := HK2.out; omega
                case rel => exact ⟨((⟨#[48]⟩ : ByteArray) ++ x5_2), (by first | rfl | (simp; done) | (simp [*]; done)), H', ⟨by have := HJ5.out; have := HK2.out; omega⟩, ⟨by repeat (first | (with_reducible first | exact HB.out | apply below_alloc | apply pw_below_drewN | apply below_drew1) | exact HB.out)⟩⟩
              · rw [if_neg c11] at H
                exact absurd H (by simp)
            · rw [if_neg c10] at H
              have c10b0 : decide ((x5_2.size : Int) ≤ a1) = false := decide_eq_false c10
              clear c10
              obtain ⟨ji12, hji12⟩ : ∃ j_ : Int, (wrap64 ((x5_2.size : Int) - a1)) = j_ := ⟨_, rfl⟩
              replace H : (if 0 ≤ (ji12) then (if (ji12) ≤ (x5_2.size : Int) then (if x6_5.size + (x5_2.extract 0 ((ji12) : Int).toNat).size ≤ 9223372036854775807 then (if (x6_5 ++ (x5_2.extract 0 ((ji12) : Int).toNat)).size + 1 ≤ 9223372036854775807 then (if ((x6_5 ++ (x5_2.extract 0 ((ji12) : Int).toNat)) ++ (⟨#[46]⟩ : ByteArray)).size + (x5_2.extract ((ji12) : Int).toNat x5_2.size).size ≤ 9223372036854775807 then (some (((x6_5 ++ (x5_2.extract 0 ((ji12) : Int).toNat)) ++ (⟨#[46]⟩ : ByteArray)) ++ (x5_2.extract ((ji12) : Int).toNat x5_2.size))) else (none)) else (none)) else (none)) else (none)) else (none)) = some r := by first | (rw [hji12] at H; exact H) | (simp only [hji12] at H ⊢; exact H)
              have hji12w : (IntKind.i64.wrap ((x5_2.size : Int) - a1)) = ji12 := (i64_w _).trans hji12
              by_cases c13 : 0 ≤ (ji12)
              · rw [if_pos c13] at H
                have c13b0 := eq_true c13
                have c13b1 : decide (0 ≤ (ji12)) = true := decide_eq_true c13
                clear c13
                by_cases c14 : (ji12) ≤ (x5_2.size : Int)
                · rw [if_pos c14] at H
                  have c14b0 := eq_true c14
                  have c14b1 : decide ((ji12) ≤ (x5_2.size : Int)) = true := decide_eq_true c14
                  clear c14
                  by_cases c15 : x6_5.size + (x5_2.extract 0 ((ji12) : Int).toNat).size ≤ 9223372036854775807
                  · rw [if_pos c15] at H
                    have c15b0 := eq_true c15
                    have c15b1 : decide (x6_5.size + (x5_2.extract 0 ((ji12) : Int).toNat).size ≤ 9223372036854775807) = true := decide_eq_true c15
                    try have c15b2 : (9223372036854775807 < x6_5.size + (x5_2.extract 0 ((ji12) : Int).toNat).size) = False := eq_false (Nat.not_lt.2 c15)
                    by_cases c16 : (x6_5 ++ (x5_2.extract 0 ((ji12) : Int).toNat)).size + 1 ≤ 9223372036854775807
                    · rw [if_pos c16] at H
                      have c16b0 := eq_true c16
                      have c16b1 : decide ((x6_5 ++ (x5_2.extract 0 ((ji12) : Int).toNat)).size + 1 ≤ 9223372036854775807) = true := decide_eq_true c16
                      try have c16b2 : (9223372036854775807 < (x6_5 ++ (x5_2.extract 0 ((ji12) : Int).toNat)).size + 1) = False := eq_false (Nat.not_lt.2 c16)
                      have c17b0 := eq_true (of_decide_eq_true (by first | (with_reducible assumption) | assumption) : 0 ≤ (ji12))
                      have c18b0 := eq_true (of_decide_eq_true (by first | (with_reducible assumption) | assumption) : (ji12) ≤ (x5_2.size : Int))
                      by_cases c19 : ((x6_5 ++ (x5_2.extract 0 ((ji12) : Int).toNat)) ++ (⟨#[46]⟩ : ByteArray)).size + (x5_2.extract ((ji12) : Int).toNat x5_2.size).size ≤ 9223372036854775807
                      · rw [if_pos c19] at H
                        have c19b0 := eq_true c19
                        have c19b1 : decide (((x6_5 ++ (x5_2.extract 0 ((ji12) : Int).toNat)) ++ (⟨#[46]⟩ : ByteArray)).size + (x5_2.extract ((ji12) : Int).toNat x5_2.size).size ≤ 9223372036854775807) = true := decide_eq_true c19
                        try have c19b2 : (9223372036854775807 < ((x6_5 ++ (x5_2.extract 0 ((ji12) : Int).toNat)) ++ (⟨#[46]⟩ : ByteArray)).size + (x5_2.extract ((ji12) : Int).toNat x5_2.size).size) = False := eq_false (Nat.not_lt.2 c19)
                        obtain rfl := Option.some.inj H
                        have z1 : (x5_2.extract 0 ji12.toNat).size = ji12.toNat := by
                          have e1 : 0 ≤ ji12 := of_decide_eq_true c13b1
                          have e2 : ji12 ≤ (x5_2.size : Int) := of_decide_eq_true c14b1
                          rw [ByteArray.size_extract]; omega
                        have z2 : (x5_2.extract ji12.toNat x5_2.size).size = x5_2.size - ji12.toNat := by
                          rw [ByteArray.size_extract]; omega
                        have d15 := c15; have d16 := c16; have d19 := c19; simp only [ByteArray.size_append, z1, z2, show (⟨#[46]⟩ : ByteArray).size = 1 from rfl] at d15 d16 d19
                        replace d15 := eq_false (Nat.not_lt.2 d15); replace d16 := eq_false (Nat.not_lt.2 d16); replace d19 := eq_false (Nat.not_lt.2 d19); clear z1 z2
                        go_wp2
                        repeat (go_quiet (fail); try go_wp2)
                        go_ret
                        exact ⟨by first | rfl | (simp [errW_none, errW_some] <;> rfl) | (simp only [← hji12]; first | rfl | (simp [errW_none, errW_some] <;> rfl)) | (simp [*, errW_none, errW_some] <;> rfl), by repeat (first | (with_reducible first | exact HB.out | apply below_alloc | apply pw_below_drewN | apply below_drew1) | exact HB.out)⟩
                      · rw [if_neg c19] at H
                        exact absurd H (by simp)
                    · rw [if_neg c16] at H
                      exact absurd H (by simp)
                  · rw [if_neg c15] at H
                    exact absurd H (by simp)
                · rw [if_neg c14] at H
                  exact absurd H (by simp)
              · rw [if_neg c13] at H
                exact absurd H (by simp)


/-! ### spec_l1None: function 35 -/
def spec_l1None.f  : Option (Nat) := if fok .quo 0 0 = true then (some (fop .quo 0 0)) else (none)
set_option maxHeartbeats 8000000 in
set_option maxRecDepth 100000 in
theorem spec_l1None.calls  (r : Nat) (w : World) (h : spec_l1None.f  = some r) :
    Calls Tryd.prog 35 #[] w fun e w' => e = .returned (.float .f64 r) ∧ Drawn0 w w' := by
  have H : (if fok .quo 0 0 = true then (some (fop .quo 0 0)) else (none)) = some r := h
  clear h
  by_cases c1 : fok .quo 0 0 = true
  · rw [if_pos c1] at H
    have c1b0 := eq_true c1
    have c1b1 : decide (fok .quo 0 0 = true) = true := decide_eq_true c1
    clear c1
    obtain rfl := Option.some.inj H
    go_enter Tryd.func35, Tryd.ntmps35
    go_wp2
    go_ret
    exact ⟨by first | rfl | (simp; done) | (simp [*]; done), by repeat (first | exact Drawn0.refl _ | apply Drawn0.step)⟩
  · rw [if_neg c1] at H
    exact absurd H (by simp)

/-! ### spec_l1Digit: function 36 -/
def spec_l1Digit.f (a0 : Int) : Option (Bool) := if a0 ≥ 48 then (some (decide (a0 ≤ 57))) else (some false)
set_option maxHeartbeats 8000000 in
set_option maxRecDepth 100000 in
theorem spec_l1Digit.calls (a0 : Int) (r : Bool) (w : World) (h : spec_l1Digit.f a0 = some r) :
    Calls Tryd.prog 36 #[.int .u8 a0] w fun e w' => e = .returned (.bool r) ∧ Drawn0 w w' := by
  have H : (if a0 ≥ 48 then (some (decide (a0 ≤ 57))) else (some false)) = some r := h
  clear h
  by_cases c2 : a0 ≥ 48
  · rw [if_pos c2] at H
    have c2b0 : decide (48 ≤ a0) = true := decide_eq_true c2
    clear c2
    obtain rfl := Option.some.inj H
    go_enter Tryd.func36, Tryd.ntmps36
    go_wp2
    go_ret
    exact ⟨by first | rfl | (simp; done) | (simp [*]; done), by repeat (first | exact Drawn0.refl _ | apply Drawn0.step)⟩
  · rw [if_neg c2] at H
    have c2b0 : decide (48 ≤ a0) = false := decide_eq_false c2
    clear c2
    obtain rfl := Option.some.inj H
    go_enter Tryd.func36, Tryd.ntmps36
    go_wp2
    go_ret
    exact ⟨by first | rfl | (simp; done) | (simp [*]; done), by repeat (first | exact Drawn0.refl _ | apply Drawn0.step)⟩

end Go.Proofs.YtigegicbfmjpbaaDoor.PRn
