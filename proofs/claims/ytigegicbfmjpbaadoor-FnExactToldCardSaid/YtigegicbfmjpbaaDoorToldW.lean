/- FnExactTold: the walks of impl.Told and of the law. Conditions: none. -/
import Derived.Test.YtigegicbfmjpbaaDoorPTox2
import Derived.Test.YtigegicbfmjpbaaDoorShelf
import Derived.Lib.AppendIntMem
namespace Go.Proofs.YtigegicbfmjpbaaDoor.PTo
open Go.Proofs.YtigegicbfmjpbaaDoorW
open Go.RowKit Go.Proofs.YtigegicbfmjpbaaDoorW.PrintWords Go.Proofs.YtigegicbfmjpbaaDoorW.PrintLast Go.Proofs.YtigegicbfmjpbaaDoorW.PrintMore
attribute [local go_sem] max2_int min2_int max_two min_two max_three min_three max_four min_four   -- for this text's walks alone
set_option linter.unusedVariables false
set_option linter.unusedSimpArgs false
open F64
/-- The table of the powers of ten lies, here and in every world that the call makes of this one. -/
def Tab10 (w0 : World) : Prop := ∀ w', Below w0.heap.size w0 w' → Lib.TabIs Tryd.prog w' "internal/strconv.uint64pow10" .u64 Lib.pow10Tab
def decS (n : Int) : ByteArray := ⟨(Lib.itoa n).toArray⟩
theorem impl_dec_calls (n : Int) (h0 : -9223372036854775808 ≤ n) (h1 : n ≤ 9223372036854775807) (w0 w : World) (ht : Tab10 w0) (hb : Below w0.heap.size w0 w) :
    Calls Tryd.prog 33 #[.int .i64 n] w fun e w' => e = .returned (.string (decS n)) ∧ Below w0.heap.size w0 w' := by
  have ht' := fun nd => ht (w.drewN nd) (pw_below_drewN hb nd)
  go_enter Tryd.func33, Tryd.ntmps33
  go_wp2_with (first | (go_at_call 82; refine (Tryd.strconv_FormatInt_10 n h0 h1 _ (ht _ (by first | exact hb | exact pw_below_drewN hb _))).mono ?_; rintro e w' ⟨rfl, k, os, rfl⟩))
  go_ret
  exact ⟨rfl, hb.trans (Go.Lib.below_grow _ _ hb.size _ _)⟩
def padZ (c : Nat) : ByteArray := ⟨(Lib.repeatL (⟨#[48]⟩ : ByteArray).data.toList c).toArray⟩
theorem padZ_eq (c : Nat) : Lib.repeatL (⟨#[48]⟩ : ByteArray).data.toList c = List.replicate c 48 := by
  induction c with
  | zero => rfl
  | succ c ih => rw [List.replicate_succ, ← ih]; rfl
theorem padZ_size (c : Nat) : (padZ c).size = c := by
  show (Lib.repeatL (⟨#[48]⟩ : ByteArray).data.toList c).toArray.size = c
  rw [padZ_eq]; simp
def fillS (n d : Int) : ByteArray := padZ (d - (decS n).size).toNat ++ decS n
theorem fillS_size (n d : Int) (hd : 0 ≤ d) : d ≤ (fillS n d).size ∧ ((fillS n d).size : Int) ≤ d + (decS n).size := by
  have : (fillS n d).size = (d - (decS n).size).toNat + (decS n).size := by unfold fillS; rw [ByteArray.size_append, padZ_size]
  rw [this]; omega
theorem impl_fill_calls (n d : Int) (h0 : -9223372036854775808 ≤ n) (h1 : n ≤ 9223372036854775807) (hs : (decS n).size ≤ 20) (hd0 : 0 ≤ d) (hd : d ≤ 100) (w0 w : World) (ht : Tab10 w0) (hb : Below w0.heap.size w0 w) :
    Calls Tryd.prog 34 #[.int .i64 n, .int .i64 d] w fun e w' => e = .returned (.string (fillS n d)) ∧ Below w0.heap.size w0 w' := by
  go_enter Tryd.func34, Tryd.ntmps34
  go_wp2_with (first | (go_at_call 33; refine (impl_dec_calls n h0 h1 w0 _ ht hb).mono ?_; rintro e w1 ⟨rfl, hb1⟩))
  · obtain ⟨c, hc⟩ : ∃ c : Nat, d - ((decS n).size : Int) = c := Int.eq_ofNat_of_zero_le (by omega)
    rw [hc]
    have hz := padZ_size c
    refine (Tryd.strings_Repeat ⟨#[48]⟩ c _ (by omega) (by show 1 * c ≤ _; omega)).mono ?_
    rintro e w2 ⟨he, hb2⟩
    replace he : e = .returned (.string (padZ c)) := he
    subst he
    have hf : fillS n d = padZ c ++ decS n := by unfold fillS; rw [hc, Int.toNat_natCast]
    have hb3 := below_step hb1 hb2
    have hlim : (9223372036854775807 < c + (decS n).size) = False := eq_false (by omega)
    have hlim2 : (9223372036854775807 < (padZ c).size + (decS n).size) = False := eq_false (by omega)
    go_wp2
    go_ret
    exact ⟨by rw [hf]; rfl, hb3⟩
  · have hz := padZ_size 0
    refine (Tryd.strings_Repeat ⟨#[48]⟩ 0 _ (by omega) (by show 1 * 0 ≤ _; omega)).mono ?_
    rintro e w2 ⟨he, hb2⟩
    replace he : e = .returned (.string (padZ 0)) := he
    subst he
    have hf : fillS n d = padZ 0 ++ decS n := by unfold fillS; rw [show (d - ((decS n).size : Int)).toNat = 0 by omega]
    have hb3 := below_step hb1 hb2
    have hlim2 : (9223372036854775807 < (padZ 0).size + (decS n).size) = False := eq_false (by omega)
    have hlim : (9223372036854775807 < (decS n).size) = False := eq_false (by omega)
    go_wp2
    go_ret
    exact ⟨by rw [hf]; rfl, hb3⟩
def toldI (k : Nat) (x : Nat) (p : Int) : Option (Option Int) :=
  (impl_ten.f k p).bind fun t => if fok .mul x t = true then (impl_Nearest.f (fop .mul x t)).bind fun z => if z.2 = true then some (some z.1) else some none else none
def tellI (n p : Int) : ByteArray :=
  let sign : ByteArray := if n < 0 then ⟨#[45]⟩ else ⟨#[]⟩
  let m : Int := if n < 0 then -n else n
  if p = 0 then sign ++ decS m else
    let s := fillS m (p + 1)
    sign ++ s.extract 0 (s.size - p.toNat) ++ ⟨#[46]⟩ ++ s.extract (s.size - p.toNat) s.size
set_option maxRecDepth 100000 in
set_option maxHeartbeats 1000000 in
theorem impl_Told_far (k x : Nat) (p : Int) (hp : 0 ≤ p ∧ p ≤ 6) (h1 : fne x x = false) (h2 : fgt x 9218868437227405311 = false) (h3 : fgt (fneg x) 9218868437227405311 = false) (h : toldI k x p = some none) (w0 w : World) (ht : Tab10 w0) (hb : Below w0.heap.size w0 w) :
    Calls Tryd.prog 9 #[.float .f64 x, .int .i64 p] w fun e w' => e = .returned (.string ⟨#[102, 97, 114]⟩) ∧ Below w0.heap.size w0 w' := by
  unfold toldI at h
  obtain ⟨t, e1, h⟩ := Option.bind_eq_some_iff.mp h
  split at h
  · rename_i hok
    obtain ⟨⟨n, ok⟩, e2, h⟩ := Option.bind_eq_some_iff.mp h
    simp only at h
    cases ok with
    | true => rw [if_pos rfl] at h; cases h
    | false =>
      have g1 : impl_in.f p 0 6 = some true := by unfold impl_in.f; rw [if_pos (by omega)]; congr 1; exact decide_eq_true hp.2
      have g2 : impl_missing.f x = some false := by unfold impl_missing.f; rw [h1]
      have g3 : math_IsInf.f x 1 = some false := by unfold math_IsInf.f; rw [if_neg (by omega), if_neg (by omega), h2]
      have g4 : math_IsInf.f x (-1) = some false := by unfold math_IsInf.f; rw [if_neg (by omega), if_pos (by omega), h3]
      have hn : n = n := rfl
      go_enter Tryd.func9, Tryd.ntmps9
      go_wp2_with (first | (go_at_call 28; with_reducible refine (impl_in.calls p 0 6 true _ g1).mono ?_; rintro e w1 ⟨rfl, ⟨nd1, rfl⟩⟩) | (go_at_call 29; with_reducible refine (impl_missing.calls x false _ g2).mono ?_; rintro e w1 ⟨rfl, ⟨nd2, rfl⟩⟩) | (go_at_call 30; first | (with_reducible refine (math_IsInf.calls x 1 false _ g3).mono ?_; rintro e w1 ⟨rfl, ⟨nd3, rfl⟩⟩) | (with_reducible refine (math_IsInf.calls x (-1) false _ g4).mono ?_; rintro e w1 ⟨rfl, ⟨nd4, rfl⟩⟩)) | (go_at_call 32; with_reducible refine (impl_ten.calls k p t _ e1).mono ?_; rintro e w1 ⟨rfl, ⟨nd5, rfl⟩⟩) | (go_at_call 31; with_reducible refine (impl_Nearest.calls (fop .mul x t) n false _ e2).mono ?_; rintro e w1 ⟨rfl, ⟨nd6, rfl⟩⟩))
      go_ret
      exact ⟨rfl, pw_below_drewN hb _⟩
  · cases h
set_option maxRecDepth 100000 in
set_option maxHeartbeats 1000000 in
theorem impl_Told_pos0 (k x : Nat) (p n : Int) (hp : p = 0) (hp6 : p ≤ 6) (h1 : fne x x = false) (h2 : fgt x 9218868437227405311 = false) (h3 : fgt (fneg x) 9218868437227405311 = false) (h : toldI k x p = some (some n)) (hn0 : 0 ≤ n) (hm1 : n ≤ 1000000000000000) (hms : (decS n).size ≤ 20) (w0 w : World) (ht : Tab10 w0) (hb : Below w0.heap.size w0 w) :
    Calls Tryd.prog 9 #[.float .f64 x, .int .i64 p] w fun e w' => e = .returned (.string (tellI n p)) ∧ Below w0.heap.size w0 w' := by
  unfold toldI at h
  obtain ⟨t, e1, h⟩ := Option.bind_eq_some_iff.mp h
  split at h
  · rename_i hok
    obtain ⟨⟨n', ok⟩, e2, h⟩ := Option.bind_eq_some_iff.mp h
    simp only at h
    cases ok with
    | false => rw [if_neg (by decide)] at h; cases h
    | true =>
      rw [if_pos rfl] at h
      cases h
      have g1 : impl_in.f p 0 6 = some true := by unfold impl_in.f; rw [if_pos (by omega)]; congr 1; exact decide_eq_true (by omega)
      have g2 : impl_missing.f x = some false := by unfold impl_missing.f; rw [h1]
      have g3 : math_IsInf.f x 1 = some false := by unfold math_IsInf.f; rw [if_neg (by omega), if_neg (by omega), h2]
      have g4 : math_IsInf.f x (-1) = some false := by unfold math_IsInf.f; rw [if_neg (by omega), if_pos (by omega), h3]
      have hm0 : -9223372036854775808 ≤ n := by omega
      replace hm1 : n ≤ 9223372036854775807 := by omega
      have c1 : decide (n < 0) = false := decide_eq_false (by omega)
      have c2 : (p == 0) = true := beq_iff_eq.mpr hp
      have c3 : (9223372036854775807 < (decS n).size) = False := eq_false (by omega)
      have c4 : (9223372036854775807 < 1 + (decS n).size) = False := eq_false (by omega)
      have HP := Aside0.mk hp
      clear hp
      have HT : tellI n p = tellI n p := rfl
      go_enter Tryd.func9, Tryd.ntmps9
      go_wp2_with (first | (go_at_call 28; with_reducible refine (impl_in.calls p 0 6 true _ g1).mono ?_; rintro e w1 ⟨rfl, ⟨nd1, rfl⟩⟩) | (go_at_call 29; with_reducible refine (impl_missing.calls x false _ g2).mono ?_; rintro e w1 ⟨rfl, ⟨nd2, rfl⟩⟩) | (go_at_call 30; first | (with_reducible refine (math_IsInf.calls x 1 false _ g3).mono ?_; rintro e w1 ⟨rfl, ⟨nd3, rfl⟩⟩) | (with_reducible refine (math_IsInf.calls x (-1) false _ g4).mono ?_; rintro e w1 ⟨rfl, ⟨nd4, rfl⟩⟩)) | (go_at_call 32; with_reducible refine (impl_ten.calls k p t _ e1).mono ?_; rintro e w1 ⟨rfl, ⟨nd5, rfl⟩⟩) | (go_at_call 31; with_reducible refine (impl_Nearest.calls (fop .mul x t) n true _ e2).mono ?_; rintro e w1 ⟨rfl, ⟨nd6, rfl⟩⟩) | (go_at_call 33; refine (impl_dec_calls _ hm0 hm1 w0 _ ht (pw_below_drewN hb _)).mono ?_; rintro e w1 ⟨rfl, hb7⟩))
      go_ret
      exact ⟨by rw [HP.out]; unfold tellI; first | (simp [show ¬ n < 0 by omega]; rfl) | (simp [show n < 0 by omega]; rfl) | simp [show ¬ n < 0 by omega] | simp [show n < 0 by omega], hb7⟩
  · cases h
set_option maxRecDepth 100000 in
set_option maxHeartbeats 1000000 in
theorem impl_Told_neg0 (k x : Nat) (p n : Int) (hp : p = 0) (hp6 : p ≤ 6) (h1 : fne x x = false) (h2 : fgt x 9218868437227405311 = false) (h3 : fgt (fneg x) 9218868437227405311 = false) (h : toldI k x p = some (some n)) (hn0 : n < 0) (hm1 : (-n) ≤ 1000000000000000) (hms : (decS (-n)).size ≤ 20) (w0 w : World) (ht : Tab10 w0) (hb : Below w0.heap.size w0 w) :
    Calls Tryd.prog 9 #[.float .f64 x, .int .i64 p] w fun e w' => e = .returned (.string (tellI n p)) ∧ Below w0.heap.size w0 w' := by
  unfold toldI at h
  obtain ⟨t, e1, h⟩ := Option.bind_eq_some_iff.mp h
  split at h
  · rename_i hok
    obtain ⟨⟨n', ok⟩, e2, h⟩ := Option.bind_eq_some_iff.mp h
    simp only at h
    cases ok with
    | false => rw [if_neg (by decide)] at h; cases h
    | true =>
      rw [if_pos rfl] at h
      cases h
      have g1 : impl_in.f p 0 6 = some true := by unfold impl_in.f; rw [if_pos (by omega)]; congr 1; exact decide_eq_true (by omega)
      have g2 : impl_missing.f x = some false := by unfold impl_missing.f; rw [h1]
      have g3 : math_IsInf.f x 1 = some false := by unfold math_IsInf.f; rw [if_neg (by omega), if_neg (by omega), h2]
      have g4 : math_IsInf.f x (-1) = some false := by unfold math_IsInf.f; rw [if_neg (by omega), if_pos (by omega), h3]
      have hm0 : -9223372036854775808 ≤ (-n) := by omega
      replace hm1 : (-n) ≤ 9223372036854775807 := by omega
      have c1 : decide (n < 0) = true := decide_eq_true (by omega)
      have c2 : (p == 0) = true := beq_iff_eq.mpr hp
      have c3 : (9223372036854775807 < (decS (-n)).size) = False := eq_false (by omega)
      have c4 : (9223372036854775807 < 1 + (decS (-n)).size) = False := eq_false (by omega)
      have c5 : wrap64 (-n) = -n := by unfold wrap64; omega
      have c6 : IntKind.i64.wrap (-n) = -n := (i64_w _).trans c5
      have HP := Aside0.mk hp
      clear hp
      have HT : tellI n p = tellI n p := rfl
      go_enter Tryd.func9, Tryd.ntmps9
      go_wp2_with (first | (go_at_call 28; with_reducible refine (impl_in.calls p 0 6 true _ g1).mono ?_; rintro e w1 ⟨rfl, ⟨nd1, rfl⟩⟩) | (go_at_call 29; with_reducible refine (impl_missing.calls x false _ g2).mono ?_; rintro e w1 ⟨rfl, ⟨nd2, rfl⟩⟩) | (go_at_call 30; first | (with_reducible refine (math_IsInf.calls x 1 false _ g3).mono ?_; rintro e w1 ⟨rfl, ⟨nd3, rfl⟩⟩) | (with_reducible refine (math_IsInf.calls x (-1) false _ g4).mono ?_; rintro e w1 ⟨rfl, ⟨nd4, rfl⟩⟩)) | (go_at_call 32; with_reducible refine (impl_ten.calls k p t _ e1).mono ?_; rintro e w1 ⟨rfl, ⟨nd5, rfl⟩⟩) | (go_at_call 31; with_reducible refine (impl_Nearest.calls (fop .mul x t) n true _ e2).mono ?_; rintro e w1 ⟨rfl, ⟨nd6, rfl⟩⟩) | (go_at_call 33; refine (impl_dec_calls _ hm0 hm1 w0 _ ht (pw_below_drewN hb _)).mono ?_; rintro e w1 ⟨rfl, hb7⟩))
      go_ret
      exact ⟨by rw [HP.out]; unfold tellI; first | (simp [show ¬ n < 0 by omega]; rfl) | (simp [show n < 0 by omega]; rfl) | simp [show ¬ n < 0 by omega] | simp [show n < 0 by omega], hb7⟩
  · cases h
set_option maxRecDepth 100000 in
set_option maxHeartbeats 1000000 in
theorem impl_Told_posp (k x : Nat) (p n : Int) (hp : 0 < p) (hp6 : p ≤ 6) (h1 : fne x x = false) (h2 : fgt x 9218868437227405311 = false) (h3 : fgt (fneg x) 9218868437227405311 = false) (h : toldI k x p = some (some n)) (hn0 : 0 ≤ n) (hm1 : n ≤ 1000000000000000) (hms : (decS n).size ≤ 20) (w0 w : World) (ht : Tab10 w0) (hb : Below w0.heap.size w0 w) :
    Calls Tryd.prog 9 #[.float .f64 x, .int .i64 p] w fun e w' => e = .returned (.string (tellI n p)) ∧ Below w0.heap.size w0 w' := by
  unfold toldI at h
  obtain ⟨t, e1, h⟩ := Option.bind_eq_some_iff.mp h
  split at h
  · rename_i hok
    obtain ⟨⟨n', ok⟩, e2, h⟩ := Option.bind_eq_some_iff.mp h
    simp only at h
    cases ok with
    | false => rw [if_neg (by decide)] at h; cases h
    | true =>
      rw [if_pos rfl] at h
      cases h
      have g1 : impl_in.f p 0 6 = some true := by unfold impl_in.f; rw [if_pos (by omega)]; congr 1; exact decide_eq_true (by omega)
      have g2 : impl_missing.f x = some false := by unfold impl_missing.f; rw [h1]
      have g3 : math_IsInf.f x 1 = some false := by unfold math_IsInf.f; rw [if_neg (by omega), if_neg (by omega), h2]
      have g4 : math_IsInf.f x (-1) = some false := by unfold math_IsInf.f; rw [if_neg (by omega), if_pos (by omega), h3]
      have hm0 : -9223372036854775808 ≤ n := by omega
      replace hm1 : n ≤ 9223372036854775807 := by omega
      have c1 : decide (n < 0) = false := decide_eq_false (by omega)
      have c2 : (p == 0) = false := beq_eq_false_iff_ne.mpr (by omega)
      have c3 : (9223372036854775807 < (decS n).size) = False := eq_false (by omega)
      have c4 : (9223372036854775807 < 1 + (decS n).size) = False := eq_false (by omega)
      have HT : tellI n p = tellI n p := rfl
      go_enter Tryd.func9, Tryd.ntmps9
      go_wp2_with (first | (go_at_call 28; with_reducible refine (impl_in.calls p 0 6 true _ g1).mono ?_; rintro e w1 ⟨rfl, ⟨nd1, rfl⟩⟩) | (go_at_call 29; with_reducible refine (impl_missing.calls x false _ g2).mono ?_; rintro e w1 ⟨rfl, ⟨nd2, rfl⟩⟩) | (go_at_call 30; first | (with_reducible refine (math_IsInf.calls x 1 false _ g3).mono ?_; rintro e w1 ⟨rfl, ⟨nd3, rfl⟩⟩) | (with_reducible refine (math_IsInf.calls x (-1) false _ g4).mono ?_; rintro e w1 ⟨rfl, ⟨nd4, rfl⟩⟩)) | (go_at_call 32; with_reducible refine (impl_ten.calls k p t _ e1).mono ?_; rintro e w1 ⟨rfl, ⟨nd5, rfl⟩⟩) | (go_at_call 31; with_reducible refine (impl_Nearest.calls (fop .mul x t) n true _ e2).mono ?_; rintro e w1 ⟨rfl, ⟨nd6, rfl⟩⟩) | (go_at_call 34; refine (impl_fill_calls _ _ hm0 hm1 hms (by omega) (by omega) w0 _ ht (pw_below_drewN hb _)).mono ?_; rintro e w1 ⟨rfl, hb7⟩))
      have hf := fillS_size n (p + 1) (by omega)
      obtain ⟨S, hS⟩ : ∃ S : ByteArray, S = fillS n (p + 1) := ⟨_, rfl⟩
      rw [← hS] at hf
      try rw [show fillS (-n) (p + 1) = S from hS.symm]
      try rw [show fillS n (p + 1) = S from hS.symm]
      obtain ⟨j, hj⟩ : ∃ j : Int, wrap64 ((S.size : Int) - p) = j := ⟨_, rfl⟩
      have hj' : j = (S.size : Int) - p := by rw [← hj]; unfold wrap64; omega
      rw [hj]
      have d1 : (0 ≤ j) = True := eq_true (by omega)
      have d2 : (j ≤ (S.size : Int)) = True := eq_true (by omega)
      have d1b : decide (0 ≤ j) = true := decide_eq_true (by omega)
      have d2b : decide (j ≤ (S.size : Int)) = true := decide_eq_true (by omega)
      have z1 : (S.extract 0 j.toNat).size = j.toNat := by rw [ByteArray.size_extract]; omega
      have z2 : (S.extract j.toNat S.size).size = S.size - j.toNat := by rw [ByteArray.size_extract]; omega
      have HS := Aside0.mk hS
      have HJ := Aside0.mk hj'
      have f1 : (9223372036854775807 < 0 + j.toNat) = False := eq_false (by omega)
      have f2 : (9223372036854775807 < 0 + j.toNat + 1) = False := eq_false (by omega)
      have f3 : (9223372036854775807 < 0 + j.toNat + 1 + (S.size - j.toNat)) = False := eq_false (by omega)
      have f4 : (9223372036854775807 < j.toNat) = False := eq_false (by omega)
      have f5 : (9223372036854775807 < j.toNat + 1) = False := eq_false (by omega)
      have f6 : (9223372036854775807 < j.toNat + 1 + (S.size - j.toNat)) = False := eq_false (by omega)
      clear z1 z2 hj hj' hS hf
      go_wp2
      repeat (go_quiet (fail); try go_wp2)
      go_ret
      have hj2 : j.toNat = S.size - p.toNat := by have := HJ.out; omega
      have ht : tellI n p = (⟨#[]⟩ : ByteArray) ++ S.extract 0 j.toNat ++ ⟨#[46]⟩ ++ S.extract j.toNat S.size := by
        rw [hj2, HS.out]; unfold tellI
        rw [if_neg (show ¬ p = 0 by omega)]
        simp only [show ¬ n < 0 by omega, if_false]
      exact ⟨by rw [ht]; rfl, pw_below_drewN hb7 _⟩
  · cases h
set_option maxRecDepth 100000 in
set_option maxHeartbeats 1000000 in
theorem impl_Told_negp (k x : Nat) (p n : Int) (hp : 0 < p) (hp6 : p ≤ 6) (h1 : fne x x = false) (h2 : fgt x 9218868437227405311 = false) (h3 : fgt (fneg x) 9218868437227405311 = false) (h : toldI k x p = some (some n)) (hn0 : n < 0) (hm1 : (-n) ≤ 1000000000000000) (hms : (decS (-n)).size ≤ 20) (w0 w : World) (ht : Tab10 w0) (hb : Below w0.heap.size w0 w) :
    Calls Tryd.prog 9 #[.float .f64 x, .int .i64 p] w fun e w' => e = .returned (.string (tellI n p)) ∧ Below w0.heap.size w0 w' := by
  unfold toldI at h
  obtain ⟨t, e1, h⟩ := Option.bind_eq_some_iff.mp h
  split at h
  · rename_i hok
    obtain ⟨⟨n', ok⟩, e2, h⟩ := Option.bind_eq_some_iff.mp h
    simp only at h
    cases ok with
    | false => rw [if_neg (by decide)] at h; cases h
    | true =>
      rw [if_pos rfl] at h
      cases h
      have g1 : impl_in.f p 0 6 = some true := by unfold impl_in.f; rw [if_pos (by omega)]; congr 1; exact decide_eq_true (by omega)
      have g2 : impl_missing.f x = some false := by unfold impl_missing.f; rw [h1]
      have g3 : math_IsInf.f x 1 = some false := by unfold math_IsInf.f; rw [if_neg (by omega), if_neg (by omega), h2]
      have g4 : math_IsInf.f x (-1) = some false := by unfold math_IsInf.f; rw [if_neg (by omega), if_pos (by omega), h3]
      have hm0 : -9223372036854775808 ≤ (-n) := by omega
      replace hm1 : (-n) ≤ 9223372036854775807 := by omega
      have c1 : decide (n < 0) = true := decide_eq_true (by omega)
      have c2 : (p == 0) = false := beq_eq_false_iff_ne.mpr (by omega)
      have c3 : (9223372036854775807 < (decS (-n)).size) = False := eq_false (by omega)
      have c4 : (9223372036854775807 < 1 + (decS (-n)).size) = False := eq_false (by omega)
      have c5 : wrap64 (-n) = -n := by unfold wrap64; omega
      have c6 : IntKind.i64.wrap (-n) = -n := (i64_w _).trans c5
      have HT : tellI n p = tellI n p := rfl
      go_enter Tryd.func9, Tryd.ntmps9
      go_wp2_with (first | (go_at_call 28; with_reducible refine (impl_in.calls p 0 6 true _ g1).mono ?_; rintro e w1 ⟨rfl, ⟨nd1, rfl⟩⟩) | (go_at_call 29; with_reducible refine (impl_missing.calls x false _ g2).mono ?_; rintro e w1 ⟨rfl, ⟨nd2, rfl⟩⟩) | (go_at_call 30; first | (with_reducible refine (math_IsInf.calls x 1 false _ g3).mono ?_; rintro e w1 ⟨rfl, ⟨nd3, rfl⟩⟩) | (with_reducible refine (math_IsInf.calls x (-1) false _ g4).mono ?_; rintro e w1 ⟨rfl, ⟨nd4, rfl⟩⟩)) | (go_at_call 32; with_reducible refine (impl_ten.calls k p t _ e1).mono ?_; rintro e w1 ⟨rfl, ⟨nd5, rfl⟩⟩) | (go_at_call 31; with_reducible refine (impl_Nearest.calls (fop .mul x t) n true _ e2).mono ?_; rintro e w1 ⟨rfl, ⟨nd6, rfl⟩⟩) | (go_at_call 34; refine (impl_fill_calls _ _ hm0 hm1 hms (by omega) (by omega) w0 _ ht (pw_below_drewN hb _)).mono ?_; rintro e w1 ⟨rfl, hb7⟩))
      have hf := fillS_size (-n) (p + 1) (by omega)
      obtain ⟨S, hS⟩ : ∃ S : ByteArray, S = fillS (-n) (p + 1) := ⟨_, rfl⟩
      rw [← hS] at hf
      try rw [show fillS (-n) (p + 1) = S from hS.symm]
      try rw [show fillS n (p + 1) = S from hS.symm]
      obtain ⟨j, hj⟩ : ∃ j : Int, wrap64 ((S.size : Int) - p) = j := ⟨_, rfl⟩
      have hj' : j = (S.size : Int) - p := by rw [← hj]; unfold wrap64; omega
      rw [hj]
      have d1 : (0 ≤ j) = True := eq_true (by omega)
      have d2 : (j ≤ (S.size : Int)) = True := eq_true (by omega)
      have d1b : decide (0 ≤ j) = true := decide_eq_true (by omega)
      have d2b : decide (j ≤ (S.size : Int)) = true := decide_eq_true (by omega)
      have z1 : (S.extract 0 j.toNat).size = j.toNat := by rw [ByteArray.size_extract]; omega
      have z2 : (S.extract j.toNat S.size).size = S.size - j.toNat := by rw [ByteArray.size_extract]; omega
      have HS := Aside0.mk hS
      have HJ := Aside0.mk hj'
      have f1 : (9223372036854775807 < 1 + j.toNat) = False := eq_false (by omega)
      have f2 : (9223372036854775807 < 1 + j.toNat + 1) = False := eq_false (by omega)
      have f3 : (9223372036854775807 < 1 + j.toNat + 1 + (S.size - j.toNat)) = False := eq_false (by omega)
      have f4 : (9223372036854775807 < j.toNat) = False := eq_false (by omega)
      have f5 : (9223372036854775807 < j.toNat + 1) = False := eq_false (by omega)
      have f6 : (9223372036854775807 < j.toNat + 1 + (S.size - j.toNat)) = False := eq_false (by omega)
      clear z1 z2 hj hj' hS hf
      go_wp2
      repeat (go_quiet (fail); try go_wp2)
      go_ret
      have hj2 : j.toNat = S.size - p.toNat := by have := HJ.out; omega
      have ht : tellI n p = (⟨#[45]⟩ : ByteArray) ++ S.extract 0 j.toNat ++ ⟨#[46]⟩ ++ S.extract j.toNat S.size := by
        rw [hj2, HS.out]; unfold tellI
        rw [if_neg (show ¬ p = 0 by omega)]
        simp only [show n < 0 by omega, if_true]
      exact ⟨by rw [ht]; rfl, pw_below_drewN hb7 _⟩
  · cases h
set_option maxRecDepth 100000 in
theorem impl_Told_out (x : Nat) (p : Int) (hp : ¬ (0 ≤ p ∧ p ≤ 6)) (w0 w : World) (hb : Below w0.heap.size w0 w) :
    Calls Tryd.prog 9 #[.float .f64 x, .int .i64 p] w fun e w' => e = .returned (.string ⟨#[]⟩) ∧ Below w0.heap.size w0 w' := by
  have g1 : impl_in.f p 0 6 = some false := by
    unfold impl_in.f
    by_cases h : p ≥ 0
    · rw [if_pos h]; congr 1; exact decide_eq_false (by omega)
    · rw [if_neg h]
  go_enter Tryd.func9, Tryd.ntmps9
  go_wp2_with (first | (go_at_call 28; with_reducible refine (impl_in.calls p 0 6 false _ g1).mono ?_; rintro e w1 ⟨rfl, ⟨nd1, rfl⟩⟩))
  go_ret
  exact ⟨rfl, pw_below_drewN hb _⟩
set_option maxRecDepth 100000 in
theorem impl_Told_nan (x : Nat) (p : Int) (hp : 0 ≤ p ∧ p ≤ 6) (h1 : fne x x = true) (w0 w : World) (hb : Below w0.heap.size w0 w) :
    Calls Tryd.prog 9 #[.float .f64 x, .int .i64 p] w fun e w' => e = .returned (.string ⟨#[47]⟩) ∧ Below w0.heap.size w0 w' := by
  have g1 : impl_in.f p 0 6 = some true := by unfold impl_in.f; rw [if_pos (by omega)]; congr 1; exact decide_eq_true hp.2
  have g2 : impl_missing.f x = some true := by unfold impl_missing.f; rw [h1]
  go_enter Tryd.func9, Tryd.ntmps9
  go_wp2_with (first | (go_at_call 28; with_reducible refine (impl_in.calls p 0 6 true _ g1).mono ?_; rintro e w1 ⟨rfl, ⟨nd1, rfl⟩⟩) | (go_at_call 29; with_reducible refine (impl_missing.calls x true _ g2).mono ?_; rintro e w1 ⟨rfl, ⟨nd2, rfl⟩⟩))
  go_ret
  exact ⟨rfl, pw_below_drewN hb _⟩
set_option maxRecDepth 100000 in
theorem impl_Told_high (x : Nat) (p : Int) (hp : 0 ≤ p ∧ p ≤ 6) (h1 : fne x x = false) (h2 : fgt x 9218868437227405311 = true) (w0 w : World) (hb : Below w0.heap.size w0 w) :
    Calls Tryd.prog 9 #[.float .f64 x, .int .i64 p] w fun e w' => e = .returned (.string ⟨#[104, 105, 103, 104]⟩) ∧ Below w0.heap.size w0 w' := by
  have g1 : impl_in.f p 0 6 = some true := by unfold impl_in.f; rw [if_pos (by omega)]; congr 1; exact decide_eq_true hp.2
  have g2 : impl_missing.f x = some false := by unfold impl_missing.f; rw [h1]
  have g3 : math_IsInf.f x 1 = some true := by unfold math_IsInf.f; rw [if_neg (by omega), if_neg (by omega), h2]
  go_enter Tryd.func9, Tryd.ntmps9
  go_wp2_with (first | (go_at_call 28; with_reducible refine (impl_in.calls p 0 6 true _ g1).mono ?_; rintro e w1 ⟨rfl, ⟨nd1, rfl⟩⟩) | (go_at_call 29; with_reducible refine (impl_missing.calls x false _ g2).mono ?_; rintro e w1 ⟨rfl, ⟨nd2, rfl⟩⟩) | (go_at_call 30; with_reducible refine (math_IsInf.calls x 1 true _ g3).mono ?_; rintro e w1 ⟨rfl, ⟨nd3, rfl⟩⟩))
  go_ret
  exact ⟨rfl, pw_below_drewN hb _⟩
set_option maxRecDepth 100000 in
theorem impl_Told_low (x : Nat) (p : Int) (hp : 0 ≤ p ∧ p ≤ 6) (h1 : fne x x = false) (h2 : fgt x 9218868437227405311 = false) (h3 : fgt (fneg x) 9218868437227405311 = true) (w0 w : World) (hb : Below w0.heap.size w0 w) :
    Calls Tryd.prog 9 #[.float .f64 x, .int .i64 p] w fun e w' => e = .returned (.string ⟨#[108, 111, 119]⟩) ∧ Below w0.heap.size w0 w' := by
  have g1 : impl_in.f p 0 6 = some true := by unfold impl_in.f; rw [if_pos (by omega)]; congr 1; exact decide_eq_true hp.2
  have g2 : impl_missing.f x = some false := by unfold impl_missing.f; rw [h1]
  have g3 : math_IsInf.f x 1 = some false := by unfold math_IsInf.f; rw [if_neg (by omega), if_neg (by omega), h2]
  have g4 : math_IsInf.f x (-1) = some true := by unfold math_IsInf.f; rw [if_neg (by omega), if_pos (by omega), h3]
  go_enter Tryd.func9, Tryd.ntmps9
  go_wp2_with (first | (go_at_call 28; with_reducible refine (impl_in.calls p 0 6 true _ g1).mono ?_; rintro e w1 ⟨rfl, ⟨nd1, rfl⟩⟩) | (go_at_call 29; with_reducible refine (impl_missing.calls x false _ g2).mono ?_; rintro e w1 ⟨rfl, ⟨nd2, rfl⟩⟩) | (go_at_call 30; first | (with_reducible refine (math_IsInf.calls x 1 false _ g3).mono ?_; rintro e w1 ⟨rfl, ⟨nd3, rfl⟩⟩) | (with_reducible refine (math_IsInf.calls x (-1) true _ g4).mono ?_; rintro e w1 ⟨rfl, ⟨nd4, rfl⟩⟩)))
  go_ret
  exact ⟨rfl, pw_below_drewN hb _⟩
theorem told_walk (k x : Nat) (p : Int) (r : ByteArray) (w : World) (ht : Tab10 w) (hs : spec_Told.f k x p = some r)
    (hi : ∀ w1, Below w.heap.size w w1 → Calls Tryd.prog 9 #[.float .f64 x, .int .i64 p] w1 fun e w' => e = .returned (.string r) ∧ Below w.heap.size w w') :
    Calls Tryd.prog 3 #[.float .f64 x, .int .i64 p] w fun e w' => e = .returned (.bool true) ∧ Below w.heap.size w w' := by
  have hr : (!(r.toList == r.toList)) = false := by simp
  have hr2 : (r.toList == r.toList) = true := by simp
  go_enter Tryd.func3, Tryd.ntmps3
  go_wp2_with (first | (go_at_call 8; with_reducible refine (spec_Told.calls k x p r _ hs).mono ?_; rintro e w1 ⟨rfl, hb1⟩) | (go_at_call 9; refine (hi _ hb1).mono ?_; rintro e w2 ⟨rfl, hb2⟩))
  go_ret
  exact ⟨rfl, hb2⟩
end Go.Proofs.YtigegicbfmjpbaaDoor.PTo
