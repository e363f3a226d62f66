/- FnExactReadNumber: the walks of impl.ReadNumber and of the law. Conditions: none. -/
import Derived.Test.YtigegicbfmjpbaaDoorPRnx0
import Derived.Test.YtigegicbfmjpbaaDoorPRnx1
import Derived.Test.YtigegicbfmjpbaaDoorPRnx2
import Derived.Test.YtigegicbfmjpbaaDoorPRnx3
import Derived.Test.YtigegicbfmjpbaaDoorShelfR
import Derived.Test.YtigegicbfmjpbaaDoorWF66
namespace Go.Proofs.YtigegicbfmjpbaaDoor.PRn
open Go.Proofs.YtigegicbfmjpbaaDoorW
open Go.RowKit Go.Proofs.YtigegicbfmjpbaaDoorW.PrintWords Go.Proofs.YtigegicbfmjpbaaDoorW.PrintLast Go.Proofs.YtigegicbfmjpbaaDoorW.PrintMore
attribute [local go_sem] max2_int min2_int max_two min_two max_three min_three max_four min_four   -- for this text's walks alone
set_option linter.unusedVariables false
set_option linter.unusedSimpArgs false
open F64
theorem frombits_run (x : Int) (w : World) : (callFunc 85 #[.int .u64 x]).run Tryd.prog w = .ok (.value (.float .f64 x.toNat)) w := by
  rw [run_callFunc_extern (e := Extern.MathFloatBits.float64frombits) Tryd.func85 (by kernel_rfl) (by kernel_rfl) (by kernel_rfl) (by kernel_rfl)]; rfl
theorem nan84_calls (w : World) : Calls Tryd.prog 84 #[] w fun e w' => e = .returned (.float .f64 9221120237041090561) ∧ w' = w := by
  have h2 := fun x w => frombits_run x w
  go_enter Tryd.func84, Tryd.ntmps84
  go_wp2
  go_ret
  exact ⟨rfl, rfl⟩
theorem nan_calls (w : World) : Calls Tryd.prog 37 #[] w fun e w' => e = .returned (.float .f64 9221120237041090561) ∧ w' = w := by
  go_enter Tryd.func37, Tryd.ntmps37
  go_wp2_with (go_at_call 84; refine (nan84_calls _).mono ?_; rintro e w' ⟨rfl, rfl⟩)
  go_ret
  exact ⟨rfl, rfl⟩
theorem inf_pos_calls (w : World) : Calls Tryd.prog 38 #[.int .i64 1] w fun e w' => e = .returned (.float .f64 9218868437227405312) ∧ w' = w := by
  have h2 := fun x w => frombits_run x w
  go_enter Tryd.func38, Tryd.ntmps38
  go_wp2
  go_ret
  exact ⟨rfl, rfl⟩
theorem inf_neg_calls (w : World) : Calls Tryd.prog 38 #[.int .i64 (-1)] w fun e w' => e = .returned (.float .f64 18442240474082181120) ∧ w' = w := by
  have h2 := fun x w => frombits_run x w
  go_enter Tryd.func38, Tryd.ntmps38
  go_wp2
  go_ret
  exact ⟨rfl, rfl⟩
theorem lcut_hit (s : ByteArray) (n : Nat) (hn : n < s.size) (hs : s.size ≤ 2000000) (hi : Lib.indexByte s.data.toList 46 = (n : Int)) (w : World) :
    Calls Tryd.prog 87 #[.string s, .string ⟨#[46]⟩] w fun e w' => e = .returned (.tuple #[.string (s.extract 0 n), .string (s.extract (n + 1) s.size), .bool true]) ∧ ∃ m, w' = w.drewN m := by
  have h3 := fun w => Tryd.stringslite_Index_one s 46 w
  simp only [hi] at h3
  clear hi
  go_enter Tryd.func87, Tryd.ntmps87
  go_wp2_with (go_at_call 114; refine (h3 _).mono ?_; rintro e w' ⟨rfl, rfl⟩)
  go_region
  go_wp2
  go_ret3
  exact ⟨rfl, _, rfl⟩
theorem lcut_miss (s : ByteArray) (hi : Lib.indexByte s.data.toList 46 = -1) (w : World) :
    Calls Tryd.prog 87 #[.string s, .string ⟨#[46]⟩] w fun e w' => e = .returned (.tuple #[.string s, .string ⟨#[]⟩, .bool false]) ∧ ∃ m, w' = w.drewN m := by
  have h3 := fun w => Tryd.stringslite_Index_one s 46 w
  simp only [hi] at h3
  clear hi
  go_enter Tryd.func87, Tryd.ntmps87
  go_wp2_with (go_at_call 114; refine (h3 _).mono ?_; rintro e w' ⟨rfl, rfl⟩)
  go_ret3
  exact ⟨rfl, 0, rfl⟩
theorem cut_hit (s : ByteArray) (n : Nat) (hn : n < s.size) (hs : s.size ≤ 2000000) (hi : Lib.indexByte s.data.toList 46 = (n : Int)) (w : World) :
    Calls Tryd.prog 40 #[.string s, .string ⟨#[46]⟩] w fun e w' => e = .returned (.tuple #[.string (s.extract 0 n), .string (s.extract (n + 1) s.size), .bool true]) ∧ ∃ m, w' = w.drewN m := by
  have h3 := fun w => lcut_hit s n hn hs hi w
  clear hi
  go_enter Tryd.func40, Tryd.ntmps40
  go_wp2_with (go_at_call 87; refine (h3 _).mono ?_; rintro e w' ⟨rfl, m, rfl⟩)
  go_ret3
  exact ⟨rfl, _, rfl⟩
theorem cut_miss (s : ByteArray) (hi : Lib.indexByte s.data.toList 46 = -1) (w : World) :
    Calls Tryd.prog 40 #[.string s, .string ⟨#[46]⟩] w fun e w' => e = .returned (.tuple #[.string s, .string ⟨#[]⟩, .bool false]) ∧ ∃ m, w' = w.drewN m := by
  have h3 := fun w => lcut_miss s hi w
  clear hi
  go_enter Tryd.func40, Tryd.ntmps40
  go_wp2_with (go_at_call 87; refine (h3 _).mono ?_; rintro e w' ⟨rfl, m, rfl⟩)
  go_ret3
  exact ⟨rfl, _, rfl⟩
def digB (x : ByteArray) : Bool := x.data.toList.all (fun c => decide (48 ≤ c.toNat) && decide (c.toNat ≤ 57)) && decide (0 < x.size)
theorem dig_loop (x : ByteArray) (hx : x.size ≤ 2000000) : ∀ (d i k : Nat), x.size - i = d → i ≤ x.size → d < k →
    impl_digits.l0 k x i = some ((x.data.toList.drop i).all (fun c => decide (48 ≤ c.toNat) && decide (c.toNat ≤ 57)) && decide (0 < x.size)) := by
  intro d
  induction d with
  | zero =>
    intro i k hd hi hk
    obtain ⟨k, rfl⟩ : ∃ m, k = m + 1 := ⟨k - 1, by omega⟩
    rw [impl_digits.l0, if_neg (by omega), List.drop_eq_nil_of_le (by rw [Array.length_toList]; exact (by omega : x.size ≤ i))]
    rw [List.all_nil, Bool.true_and]
    congr 1; exact decide_eq_decide.2 (by omega)
  | succ d ih =>
    intro i k hd hi hk
    obtain ⟨k, rfl⟩ : ∃ m, k = m + 1 := ⟨k - 1, by omega⟩
    have hlt : i < x.size := by omega
    have hl : i < x.data.toList.length := by rw [Array.length_toList]; exact hlt
    have hb : bt x i = ((x.data.toList[i]'hl).toNat : Int) := by
      unfold bt
      rw [dif_pos (show ((i : Nat) : Int).toNat < x.size from hlt)]; rfl
    rw [impl_digits.l0, if_pos (by omega), if_pos (by omega), hb, List.drop_eq_getElem_cons hl, List.all_cons]
    generalize x.data.toList[i]'hl = c
    by_cases h1 : (c.toNat : Int) < 48
    · rw [if_pos h1, decide_eq_false (show ¬ 48 ≤ c.toNat by omega)]; rfl
    · rw [if_neg h1, decide_eq_true (show 48 ≤ c.toNat by omega)]
      by_cases h2 : (c.toNat : Int) > 57
      · rw [if_pos h2, decide_eq_false (show ¬ c.toNat ≤ 57 by omega)]; rfl
      · rw [if_neg h2, decide_eq_true (show c.toNat ≤ 57 by omega), show wrap64 ((i : Int) + 1) = ((i + 1 : Nat) : Int) by unfold wrap64; omega, ih (i + 1) k (by omega) (by omega) (by omega)]
        rfl
theorem digits_calls (x : ByteArray) (hx : x.size ≤ 2000000) (w : World) : Calls Tryd.prog 41 #[.string x] w fun e w' => e = .returned (.bool (digB x)) ∧ ∃ nd, w' = w.drewN nd := by
  have h : impl_digits.f (x.size + 1) x = some (digB x) := by
    unfold impl_digits.f
    exact dig_loop x hx x.size 0 (x.size + 1) (by omega) (by omega) (by omega)
  exact (impl_digits.calls _ x _ w h).mono fun e w' ⟨a, n, b⟩ => ⟨a, n, b⟩
set_option maxRecDepth 100000 in
set_option maxHeartbeats 1000000 in
theorem rn_at (s t W P : ByteArray) (hs : s.size ≤ 1048576) (hWs : W.size ≤ 1048576) (hPs : P.size ≤ 1048576) (c1 : (s.toList == [47]) = false) (c2 : (s.toList == [104, 105, 103, 104]) = false) (c3 : (s.toList == [108, 111, 119]) = false)
    (htrim : ∀ w, Calls Tryd.prog 39 #[.string s, .string ⟨#[45]⟩] w fun e w' => e = .returned (.string t) ∧ w' = w)
    (hcut : ∀ w, Calls Tryd.prog 40 #[.string t, .string ⟨#[46]⟩] w fun e w' => e = .returned (.tuple #[.string W, .string P, .bool true]) ∧ ∃ m, w' = w.drewN m) (dW : digB W = false) (w0 w : World) (hb : Below w0.heap.size w0 w)
    : Calls Tryd.prog 11 #[.string s] w fun e w' => e = .returned (.tuple #[.float .f64 0, .bool false]) ∧ Below w0.heap.size w0 w' := by
  go_enter Tryd.func11, Tryd.ntmps11
  go_wp2_with (first | (go_at_call 39; refine (htrim _).mono ?_; rintro e w1 ⟨rfl, rfl⟩) | (go_at_call 40; refine (hcut _).mono ?_; rintro e w1 ⟨rfl, m, rfl⟩) | (go_at_call 41; refine (digits_calls _ (by omega) _).mono ?_; rintro e w1 ⟨rfl, m, rfl⟩))
  go_ret2
  exact ⟨rfl, by first | exact pw_below_drewN hb _ | exact hb | exact pw_below_drewN hb2 _ | exact hb2⟩
set_option maxRecDepth 100000 in
set_option maxHeartbeats 1000000 in
theorem rn_b (s t W P : ByteArray) (hs : s.size ≤ 1048576) (hWs : W.size ≤ 1048576) (hPs : P.size ≤ 1048576) (c1 : (s.toList == [47]) = false) (c2 : (s.toList == [104, 105, 103, 104]) = false) (c3 : (s.toList == [108, 111, 119]) = false)
    (htrim : ∀ w, Calls Tryd.prog 39 #[.string s, .string ⟨#[45]⟩] w fun e w' => e = .returned (.string t) ∧ w' = w)
    (hcut : ∀ w, Calls Tryd.prog 40 #[.string t, .string ⟨#[46]⟩] w fun e w' => e = .returned (.tuple #[.string W, .string P, .bool true]) ∧ ∃ m, w' = w.drewN m) (dW : digB W = true) (dP : digB P = false) (w0 w : World) (hb : Below w0.heap.size w0 w)
    : Calls Tryd.prog 11 #[.string s] w fun e w' => e = .returned (.tuple #[.float .f64 0, .bool false]) ∧ Below w0.heap.size w0 w' := by
  go_enter Tryd.func11, Tryd.ntmps11
  go_wp2_with (first | (go_at_call 39; refine (htrim _).mono ?_; rintro e w1 ⟨rfl, rfl⟩) | (go_at_call 40; refine (hcut _).mono ?_; rintro e w1 ⟨rfl, m, rfl⟩) | (go_at_call 41; refine (digits_calls _ (by omega) _).mono ?_; rintro e w1 ⟨rfl, m, rfl⟩))
  go_ret2
  exact ⟨rfl, by first | exact pw_below_drewN hb _ | exact hb | exact pw_below_drewN hb2 _ | exact hb2⟩
set_option maxRecDepth 100000 in
set_option maxHeartbeats 1000000 in
theorem rn_c (s t W P : ByteArray) (hs : s.size ≤ 1048576) (hWs : W.size ≤ 1048576) (hPs : P.size ≤ 1048576) (c1 : (s.toList == [47]) = false) (c2 : (s.toList == [104, 105, 103, 104]) = false) (c3 : (s.toList == [108, 111, 119]) = false)
    (htrim : ∀ w, Calls Tryd.prog 39 #[.string s, .string ⟨#[45]⟩] w fun e w' => e = .returned (.string t) ∧ w' = w)
    (hcut : ∀ w, Calls Tryd.prog 40 #[.string t, .string ⟨#[46]⟩] w fun e w' => e = .returned (.tuple #[.string W, .string P, .bool true]) ∧ ∃ m, w' = w.drewN m) (dW : digB W = true) (dP : digB P = true) (p6 : decide ((6 : Int) < (P.size : Int)) = true) (w0 w : World) (hb : Below w0.heap.size w0 w)
    : Calls Tryd.prog 11 #[.string s] w fun e w' => e = .returned (.tuple #[.float .f64 0, .bool false]) ∧ Below w0.heap.size w0 w' := by
  go_enter Tryd.func11, Tryd.ntmps11
  go_wp2_with (first | (go_at_call 39; refine (htrim _).mono ?_; rintro e w1 ⟨rfl, rfl⟩) | (go_at_call 40; refine (hcut _).mono ?_; rintro e w1 ⟨rfl, m, rfl⟩) | (go_at_call 41; refine (digits_calls _ (by omega) _).mono ?_; rintro e w1 ⟨rfl, m, rfl⟩))
  go_ret2
  exact ⟨rfl, by first | exact pw_below_drewN hb _ | exact hb | exact pw_below_drewN hb2 _ | exact hb2⟩
set_option maxRecDepth 100000 in
set_option maxHeartbeats 1000000 in
theorem rn_dt (s t W P : ByteArray) (hs : s.size ≤ 1048576) (hWs : W.size ≤ 1048576) (hPs : P.size ≤ 1048576) (c1 : (s.toList == [47]) = false) (c2 : (s.toList == [104, 105, 103, 104]) = false) (c3 : (s.toList == [108, 111, 119]) = false)
    (htrim : ∀ w, Calls Tryd.prog 39 #[.string s, .string ⟨#[45]⟩] w fun e w' => e = .returned (.string t) ∧ w' = w)
    (hcut : ∀ w, Calls Tryd.prog 40 #[.string t, .string ⟨#[46]⟩] w fun e w' => e = .returned (.tuple #[.string W, .string P, .bool true]) ∧ ∃ m, w' = w.drewN m) (dW : digB W = true) (dP : digB P = true) (p6 : decide ((6 : Int) < (P.size : Int)) = false) (w1 : decide ((1 : Int) < (W.size : Int)) = true) (w10 : 0 < W.size) (w48 : ∀ h : 0 < W.size, (((W[0]'h).toNat : Int) == 48) = true) (w0 w : World) (hb : Below w0.heap.size w0 w)
    : Calls Tryd.prog 11 #[.string s] w fun e w' => e = .returned (.tuple #[.float .f64 0, .bool false]) ∧ Below w0.heap.size w0 w' := by
  go_enter Tryd.func11, Tryd.ntmps11
  go_wp2_with (first | (go_at_call 39; refine (htrim _).mono ?_; rintro e w1 ⟨rfl, rfl⟩) | (go_at_call 40; refine (hcut _).mono ?_; rintro e w1 ⟨rfl, m, rfl⟩) | (go_at_call 41; refine (digits_calls _ (by omega) _).mono ?_; rintro e w1 ⟨rfl, m, rfl⟩))
  go_ret2
  exact ⟨rfl, by first | exact pw_below_drewN hb _ | exact hb | exact pw_below_drewN hb2 _ | exact hb2⟩
set_option maxRecDepth 100000 in
set_option maxHeartbeats 1000000 in
theorem rn_ft1 (w0 w : World) (hb : Below w0.heap.size w0 w) (s t W P : ByteArray) (hs : s.size ≤ 1048576) (hWs : W.size ≤ 1048576) (hPs : P.size ≤ 1048576) (c1 : (s.toList == [47]) = false) (c2 : (s.toList == [104, 105, 103, 104]) = false) (c3 : (s.toList == [108, 111, 119]) = false)
    (htrim : ∀ w, Calls Tryd.prog 39 #[.string s, .string ⟨#[45]⟩] w fun e w' => e = .returned (.string t) ∧ w' = w)
    (hcut : ∀ w, Calls Tryd.prog 40 #[.string t, .string ⟨#[46]⟩] w fun e w' => e = .returned (.tuple #[.string W, .string P, .bool true]) ∧ ∃ m, w' = w.drewN m) (dW : digB W = true) (dP : digB P = true) (p6 : decide ((6 : Int) < (P.size : Int)) = false) (w1 : decide ((1 : Int) < (W.size : Int)) = false) (w17 : decide ((17 : Int) < (W.size : Int)) = false) (sat : Int) (hparse : ∀ w1, Below w0.heap.size w0 w1 → Calls Tryd.prog 42 #[.string (W ++ P), .int .i64 10, .int .i64 64] w1 fun e w' => ∃ N, e = .returned (.tuple #[.int .i64 sat, .iface 122 (.pointer (some ⟨N, 0, none⟩))]) ∧ Below w0.heap.size w0 w') 
    : Calls Tryd.prog 11 #[.string s] w fun e w' => e = .returned (.tuple #[.float .f64 0, .bool false]) ∧ Below w0.heap.size w0 w' := by
  have hlim : (9223372036854775807 < W.size + P.size) = False := eq_false (by omega)
  go_enter Tryd.func11, Tryd.ntmps11
  go_wp2_with (first | (go_at_call 39; refine (htrim _).mono ?_; rintro e w1 ⟨rfl, rfl⟩) | (go_at_call 40; refine (hcut _).mono ?_; rintro e w1 ⟨rfl, m, rfl⟩) | (go_at_call 41; refine (digits_calls _ (by omega) _).mono ?_; rintro e w1 ⟨rfl, m, rfl⟩) | (go_at_call 42; refine (hparse _ (by first | exact hb | exact pw_below_drewN hb _)).mono ?_; rintro e w1 ⟨N, rfl, hb2⟩))
  go_ret2
  exact ⟨rfl, by first | exact pw_below_drewN hb2 _ | exact hb2⟩
set_option maxRecDepth 100000 in
set_option maxHeartbeats 1000000 in
theorem rn_gt1 (w0 w : World) (hb : Below w0.heap.size w0 w) (s t W P : ByteArray) (hs : s.size ≤ 1048576) (hWs : W.size ≤ 1048576) (hPs : P.size ≤ 1048576) (c1 : (s.toList == [47]) = false) (c2 : (s.toList == [104, 105, 103, 104]) = false) (c3 : (s.toList == [108, 111, 119]) = false)
    (htrim : ∀ w, Calls Tryd.prog 39 #[.string s, .string ⟨#[45]⟩] w fun e w' => e = .returned (.string t) ∧ w' = w)
    (hcut : ∀ w, Calls Tryd.prog 40 #[.string t, .string ⟨#[46]⟩] w fun e w' => e = .returned (.tuple #[.string W, .string P, .bool true]) ∧ ∃ m, w' = w.drewN m) (dW : digB W = true) (dP : digB P = true) (p6 : decide ((6 : Int) < (P.size : Int)) = false) (w1 : decide ((1 : Int) < (W.size : Int)) = false) (w17 : decide ((17 : Int) < (W.size : Int)) = false) (sat : Int) (hparse : ∀ w1, Below w0.heap.size w0 w1 → Calls Tryd.prog 42 #[.string (W ++ P), .int .i64 10, .int .i64 64] w1 fun e w' => ∃ N : Nat, e = .returned (.tuple #[.int .i64 sat, .nilIface]) ∧ Below w0.heap.size w0 w') (big : decide (1000000000000000 < sat) = true) 
    : Calls Tryd.prog 11 #[.string s] w fun e w' => e = .returned (.tuple #[.float .f64 0, .bool false]) ∧ Below w0.heap.size w0 w' := by
  have hlim : (9223372036854775807 < W.size + P.size) = False := eq_false (by omega)
  go_enter Tryd.func11, Tryd.ntmps11
  go_wp2_with (first | (go_at_call 39; refine (htrim _).mono ?_; rintro e w1 ⟨rfl, rfl⟩) | (go_at_call 40; refine (hcut _).mono ?_; rintro e w1 ⟨rfl, m, rfl⟩) | (go_at_call 41; refine (digits_calls _ (by omega) _).mono ?_; rintro e w1 ⟨rfl, m, rfl⟩) | (go_at_call 42; refine (hparse _ (by first | exact hb | exact pw_below_drewN hb _)).mono ?_; rintro e w1 ⟨N, rfl, hb2⟩))
  go_ret2
  exact ⟨rfl, by first | exact pw_below_drewN hb2 _ | exact hb2⟩
set_option maxRecDepth 100000 in
set_option maxHeartbeats 1000000 in
theorem rn_ht1 (w0 w : World) (hb : Below w0.heap.size w0 w) (s t W P : ByteArray) (hs : s.size ≤ 1048576) (hWs : W.size ≤ 1048576) (hPs : P.size ≤ 1048576) (c1 : (s.toList == [47]) = false) (c2 : (s.toList == [104, 105, 103, 104]) = false) (c3 : (s.toList == [108, 111, 119]) = false)
    (htrim : ∀ w, Calls Tryd.prog 39 #[.string s, .string ⟨#[45]⟩] w fun e w' => e = .returned (.string t) ∧ w' = w)
    (hcut : ∀ w, Calls Tryd.prog 40 #[.string t, .string ⟨#[46]⟩] w fun e w' => e = .returned (.tuple #[.string W, .string P, .bool true]) ∧ ∃ m, w' = w.drewN m) (dW : digB W = true) (dP : digB P = true) (p6 : decide ((6 : Int) < (P.size : Int)) = false) (w1 : decide ((1 : Int) < (W.size : Int)) = false) (w17 : decide ((17 : Int) < (W.size : Int)) = false) (sat : Int) (hparse : ∀ w1, Below w0.heap.size w0 w1 → Calls Tryd.prog 42 #[.string (W ++ P), .int .i64 10, .int .i64 64] w1 fun e w' => ∃ N : Nat, e = .returned (.tuple #[.int .i64 sat, .nilIface]) ∧ Below w0.heap.size w0 w') (zero : (sat == 0) = true) (z1 : decide (1000000000000000 < sat) = false) (hne : (t.toList == s.toList) = false) 
    : Calls Tryd.prog 11 #[.string s] w fun e w' => e = .returned (.tuple #[.float .f64 0, .bool false]) ∧ Below w0.heap.size w0 w' := by
  have hlim : (9223372036854775807 < W.size + P.size) = False := eq_false (by omega)
  go_enter Tryd.func11, Tryd.ntmps11
  go_wp2_with (first | (go_at_call 39; refine (htrim _).mono ?_; rintro e w1 ⟨rfl, rfl⟩) | (go_at_call 40; refine (hcut _).mono ?_; rintro e w1 ⟨rfl, m, rfl⟩) | (go_at_call 41; refine (digits_calls _ (by omega) _).mono ?_; rintro e w1 ⟨rfl, m, rfl⟩) | (go_at_call 42; refine (hparse _ (by first | exact hb | exact pw_below_drewN hb _)).mono ?_; rintro e w1 ⟨N, rfl, hb2⟩))
  go_ret2
  exact ⟨rfl, by first | exact pw_below_drewN hb2 _ | exact hb2⟩
set_option maxRecDepth 100000 in
set_option maxHeartbeats 1000000 in
theorem rn_it1p (w0 w : World) (hb : Below w0.heap.size w0 w) (s t W P : ByteArray) (hs : s.size ≤ 1048576) (hWs : W.size ≤ 1048576) (hPs : P.size ≤ 1048576) (c1 : (s.toList == [47]) = false) (c2 : (s.toList == [104, 105, 103, 104]) = false) (c3 : (s.toList == [108, 111, 119]) = false)
    (htrim : ∀ w, Calls Tryd.prog 39 #[.string s, .string ⟨#[45]⟩] w fun e w' => e = .returned (.string t) ∧ w' = w)
    (hcut : ∀ w, Calls Tryd.prog 40 #[.string t, .string ⟨#[46]⟩] w fun e w' => e = .returned (.tuple #[.string W, .string P, .bool true]) ∧ ∃ m, w' = w.drewN m) (dW : digB W = true) (dP : digB P = true) (p6 : decide ((6 : Int) < (P.size : Int)) = false) (w1 : decide ((1 : Int) < (W.size : Int)) = false) (w17 : decide ((17 : Int) < (W.size : Int)) = false) (sat : Int) (hparse : ∀ w1, Below w0.heap.size w0 w1 → Calls Tryd.prog 42 #[.string (W ++ P), .int .i64 10, .int .i64 64] w1 fun e w' => ∃ N : Nat, e = .returned (.tuple #[.int .i64 sat, .nilIface]) ∧ Below w0.heap.size w0 w') (low : 0 ≤ sat) (z2 : sat ≤ 1000000000000000) (z1 : decide (1000000000000000 < sat) = false) (z0 : (sat == 0) = false) (hne : (t.toList == s.toList) = true) (T : Nat) (hten : impl_ten.f 98 (P.size : Int) = some T) (hq : fok .quo (fofi sat) T = true) 
    : Calls Tryd.prog 11 #[.string s] w fun e w' => e = .returned (.tuple #[.float .f64 (fop .quo (fofi sat) T), .bool true]) ∧ Below w0.heap.size w0 w' := by
  have hlim : (9223372036854775807 < W.size + P.size) = False := eq_false (by omega)
  go_enter Tryd.func11, Tryd.ntmps11
  go_wp2_with (first | (go_at_call 39; refine (htrim _).mono ?_; rintro e w1 ⟨rfl, rfl⟩) | (go_at_call 40; refine (hcut _).mono ?_; rintro e w1 ⟨rfl, m, rfl⟩) | (go_at_call 41; refine (digits_calls _ (by omega) _).mono ?_; rintro e w1 ⟨rfl, m, rfl⟩) | (go_at_call 42; refine (hparse _ (by first | exact hb | exact pw_below_drewN hb _)).mono ?_; rintro e w1 ⟨N, rfl, hb2⟩) | (go_at_call 32; with_reducible refine (impl_ten.calls 98 _ T _ hten).mono ?_; rintro e w1 ⟨rfl, m, rfl⟩))
  go_ret2
  exact ⟨rfl, by first | exact pw_below_drewN hb2 _ | exact hb2⟩
set_option maxRecDepth 100000 in
set_option maxHeartbeats 1000000 in
theorem rn_it1n (w0 w : World) (hb : Below w0.heap.size w0 w) (s t W P : ByteArray) (hs : s.size ≤ 1048576) (hWs : W.size ≤ 1048576) (hPs : P.size ≤ 1048576) (c1 : (s.toList == [47]) = false) (c2 : (s.toList == [104, 105, 103, 104]) = false) (c3 : (s.toList == [108, 111, 119]) = false)
    (htrim : ∀ w, Calls Tryd.prog 39 #[.string s, .string ⟨#[45]⟩] w fun e w' => e = .returned (.string t) ∧ w' = w)
    (hcut : ∀ w, Calls Tryd.prog 40 #[.string t, .string ⟨#[46]⟩] w fun e w' => e = .returned (.tuple #[.string W, .string P, .bool true]) ∧ ∃ m, w' = w.drewN m) (dW : digB W = true) (dP : digB P = true) (p6 : decide ((6 : Int) < (P.size : Int)) = false) (w1 : decide ((1 : Int) < (W.size : Int)) = false) (w17 : decide ((17 : Int) < (W.size : Int)) = false) (sat : Int) (hparse : ∀ w1, Below w0.heap.size w0 w1 → Calls Tryd.prog 42 #[.string (W ++ P), .int .i64 10, .int .i64 64] w1 fun e w' => ∃ N : Nat, e = .returned (.tuple #[.int .i64 sat, .nilIface]) ∧ Below w0.heap.size w0 w') (low : 0 ≤ sat) (z2 : sat ≤ 1000000000000000) (z1 : decide (1000000000000000 < sat) = false) (z0 : (sat == 0) = false) (hne : (t.toList == s.toList) = false) (T : Nat) (hten : impl_ten.f 98 (P.size : Int) = some T) (hq : fok .quo (fofi (-sat)) T = true) 
    : Calls Tryd.prog 11 #[.string s] w fun e w' => e = .returned (.tuple #[.float .f64 (fop .quo (fofi (-sat)) T), .bool true]) ∧ Below w0.heap.size w0 w' := by
  have hlim : (9223372036854775807 < W.size + P.size) = False := eq_false (by omega)
  go_enter Tryd.func11, Tryd.ntmps11
  go_wp2_with (first | (go_at_call 39; refine (htrim _).mono ?_; rintro e w1 ⟨rfl, rfl⟩) | (go_at_call 40; refine (hcut _).mono ?_; rintro e w1 ⟨rfl, m, rfl⟩) | (go_at_call 41; refine (digits_calls _ (by omega) _).mono ?_; rintro e w1 ⟨rfl, m, rfl⟩) | (go_at_call 42; refine (hparse _ (by first | exact hb | exact pw_below_drewN hb _)).mono ?_; rintro e w1 ⟨N, rfl, hb2⟩) | (go_at_call 32; with_reducible refine (impl_ten.calls 98 _ T _ hten).mono ?_; rintro e w1 ⟨rfl, m, rfl⟩))
  go_ret2
  exact ⟨rfl, by first | exact pw_below_drewN hb2 _ | exact hb2⟩
set_option maxRecDepth 100000 in
set_option maxHeartbeats 1000000 in
theorem rn_it1z (w0 w : World) (hb : Below w0.heap.size w0 w) (s t W P : ByteArray) (hs : s.size ≤ 1048576) (hWs : W.size ≤ 1048576) (hPs : P.size ≤ 1048576) (c1 : (s.toList == [47]) = false) (c2 : (s.toList == [104, 105, 103, 104]) = false) (c3 : (s.toList == [108, 111, 119]) = false)
    (htrim : ∀ w, Calls Tryd.prog 39 #[.string s, .string ⟨#[45]⟩] w fun e w' => e = .returned (.string t) ∧ w' = w)
    (hcut : ∀ w, Calls Tryd.prog 40 #[.string t, .string ⟨#[46]⟩] w fun e w' => e = .returned (.tuple #[.string W, .string P, .bool true]) ∧ ∃ m, w' = w.drewN m) (dW : digB W = true) (dP : digB P = true) (p6 : decide ((6 : Int) < (P.size : Int)) = false) (w1 : decide ((1 : Int) < (W.size : Int)) = false) (w17 : decide ((17 : Int) < (W.size : Int)) = false) (hparse : ∀ w1, Below w0.heap.size w0 w1 → Calls Tryd.prog 42 #[.string (W ++ P), .int .i64 10, .int .i64 64] w1 fun e w' => ∃ N : Nat, e = .returned (.tuple #[.int .i64 0, .nilIface]) ∧ Below w0.heap.size w0 w') (hne : (t.toList == s.toList) = true) (T : Nat) (hten : impl_ten.f 98 (P.size : Int) = some T) (hq : fok .quo (fofi 0) T = true) 
    : Calls Tryd.prog 11 #[.string s] w fun e w' => e = .returned (.tuple #[.float .f64 (fop .quo (fofi 0) T), .bool true]) ∧ Below w0.heap.size w0 w' := by
  have hlim : (9223372036854775807 < W.size + P.size) = False := eq_false (by omega)
  go_enter Tryd.func11, Tryd.ntmps11
  go_wp2_with (first | (go_at_call 39; refine (htrim _).mono ?_; rintro e w1 ⟨rfl, rfl⟩) | (go_at_call 40; refine (hcut _).mono ?_; rintro e w1 ⟨rfl, m, rfl⟩) | (go_at_call 41; refine (digits_calls _ (by omega) _).mono ?_; rintro e w1 ⟨rfl, m, rfl⟩) | (go_at_call 42; refine (hparse _ (by first | exact hb | exact pw_below_drewN hb _)).mono ?_; rintro e w1 ⟨N, rfl, hb2⟩) | (go_at_call 32; with_reducible refine (impl_ten.calls 98 _ T _ hten).mono ?_; rintro e w1 ⟨rfl, m, rfl⟩))
  go_ret2
  exact ⟨rfl, by first | exact pw_below_drewN hb2 _ | exact hb2⟩
set_option maxRecDepth 100000 in
set_option maxHeartbeats 1000000 in
theorem rn_et2 (s t W P : ByteArray) (hs : s.size ≤ 1048576) (hWs : W.size ≤ 1048576) (hPs : P.size ≤ 1048576) (c1 : (s.toList == [47]) = false) (c2 : (s.toList == [104, 105, 103, 104]) = false) (c3 : (s.toList == [108, 111, 119]) = false)
    (htrim : ∀ w, Calls Tryd.prog 39 #[.string s, .string ⟨#[45]⟩] w fun e w' => e = .returned (.string t) ∧ w' = w)
    (hcut : ∀ w, Calls Tryd.prog 40 #[.string t, .string ⟨#[46]⟩] w fun e w' => e = .returned (.tuple #[.string W, .string P, .bool true]) ∧ ∃ m, w' = w.drewN m) (dW : digB W = true) (dP : digB P = true) (p6 : decide ((6 : Int) < (P.size : Int)) = false) (w1 : decide ((1 : Int) < (W.size : Int)) = true) (w10 : 0 < W.size) (w48 : ∀ h : 0 < W.size, (((W[0]'h).toNat : Int) == 48) = false) (w17 : decide ((17 : Int) < (W.size : Int)) = true) (w0 w : World) (hb : Below w0.heap.size w0 w)
    : Calls Tryd.prog 11 #[.string s] w fun e w' => e = .returned (.tuple #[.float .f64 0, .bool false]) ∧ Below w0.heap.size w0 w' := by
  go_enter Tryd.func11, Tryd.ntmps11
  go_wp2_with (first | (go_at_call 39; refine (htrim _).mono ?_; rintro e w1 ⟨rfl, rfl⟩) | (go_at_call 40; refine (hcut _).mono ?_; rintro e w1 ⟨rfl, m, rfl⟩) | (go_at_call 41; refine (digits_calls _ (by omega) _).mono ?_; rintro e w1 ⟨rfl, m, rfl⟩))
  go_ret2
  exact ⟨rfl, by first | exact pw_below_drewN hb _ | exact hb | exact pw_below_drewN hb2 _ | exact hb2⟩
set_option maxRecDepth 100000 in
set_option maxHeartbeats 1000000 in
theorem rn_ft2 (w0 w : World) (hb : Below w0.heap.size w0 w) (s t W P : ByteArray) (hs : s.size ≤ 1048576) (hWs : W.size ≤ 1048576) (hPs : P.size ≤ 1048576) (c1 : (s.toList == [47]) = false) (c2 : (s.toList == [104, 105, 103, 104]) = false) (c3 : (s.toList == [108, 111, 119]) = false)
    (htrim : ∀ w, Calls Tryd.prog 39 #[.string s, .string ⟨#[45]⟩] w fun e w' => e = .returned (.string t) ∧ w' = w)
    (hcut : ∀ w, Calls Tryd.prog 40 #[.string t, .string ⟨#[46]⟩] w fun e w' => e = .returned (.tuple #[.string W, .string P, .bool true]) ∧ ∃ m, w' = w.drewN m) (dW : digB W = true) (dP : digB P = true) (p6 : decide ((6 : Int) < (P.size : Int)) = false) (w1 : decide ((1 : Int) < (W.size : Int)) = true) (w10 : 0 < W.size) (w48 : ∀ h : 0 < W.size, (((W[0]'h).toNat : Int) == 48) = false) (w17 : decide ((17 : Int) < (W.size : Int)) = false) (sat : Int) (hparse : ∀ w1, Below w0.heap.size w0 w1 → Calls Tryd.prog 42 #[.string (W ++ P), .int .i64 10, .int .i64 64] w1 fun e w' => ∃ N, e = .returned (.tuple #[.int .i64 sat, .iface 122 (.pointer (some ⟨N, 0, none⟩))]) ∧ Below w0.heap.size w0 w') 
    : Calls Tryd.prog 11 #[.string s] w fun e w' => e = .returned (.tuple #[.float .f64 0, .bool false]) ∧ Below w0.heap.size w0 w' := by
  have hlim : (9223372036854775807 < W.size + P.size) = False := eq_false (by omega)
  go_enter Tryd.func11, Tryd.ntmps11
  go_wp2_with (first | (go_at_call 39; refine (htrim _).mono ?_; rintro e w1 ⟨rfl, rfl⟩) | (go_at_call 40; refine (hcut _).mono ?_; rintro e w1 ⟨rfl, m, rfl⟩) | (go_at_call 41; refine (digits_calls _ (by omega) _).mono ?_; rintro e w1 ⟨rfl, m, rfl⟩) | (go_at_call 42; refine (hparse _ (by first | exact hb | exact pw_below_drewN hb _)).mono ?_; rintro e w1 ⟨N, rfl, hb2⟩))
  go_ret2
  exact ⟨rfl, by first | exact pw_below_drewN hb2 _ | exact hb2⟩
set_option maxRecDepth 100000 in
set_option maxHeartbeats 1000000 in
theorem rn_gt2 (w0 w : World) (hb : Below w0.heap.size w0 w) (s t W P : ByteArray) (hs : s.size ≤ 1048576) (hWs : W.size ≤ 1048576) (hPs : P.size ≤ 1048576) (c1 : (s.toList == [47]) = false) (c2 : (s.toList == [104, 105, 103, 104]) = false) (c3 : (s.toList == [108, 111, 119]) = false)
    (htrim : ∀ w, Calls Tryd.prog 39 #[.string s, .string ⟨#[45]⟩] w fun e w' => e = .returned (.string t) ∧ w' = w)
    (hcut : ∀ w, Calls Tryd.prog 40 #[.string t, .string ⟨#[46]⟩] w fun e w' => e = .returned (.tuple #[.string W, .string P, .bool true]) ∧ ∃ m, w' = w.drewN m) (dW : digB W = true) (dP : digB P = true) (p6 : decide ((6 : Int) < (P.size : Int)) = false) (w1 : decide ((1 : Int) < (W.size : Int)) = true) (w10 : 0 < W.size) (w48 : ∀ h : 0 < W.size, (((W[0]'h).toNat : Int) == 48) = false) (w17 : decide ((17 : Int) < (W.size : Int)) = false) (sat : Int) (hparse : ∀ w1, Below w0.heap.size w0 w1 → Calls Tryd.prog 42 #[.string (W ++ P), .int .i64 10, .int .i64 64] w1 fun e w' => ∃ N : Nat, e = .returned (.tuple #[.int .i64 sat, .nilIface]) ∧ Below w0.heap.size w0 w') (big : decide (1000000000000000 < sat) = true) 
    : Calls Tryd.prog 11 #[.string s] w fun e w' => e = .returned (.tuple #[.float .f64 0, .bool false]) ∧ Below w0.heap.size w0 w' := by
  have hlim : (9223372036854775807 < W.size + P.size) = False := eq_false (by omega)
  go_enter Tryd.func11, Tryd.ntmps11
  go_wp2_with (first | (go_at_call 39; refine (htrim _).mono ?_; rintro e w1 ⟨rfl, rfl⟩) | (go_at_call 40; refine (hcut _).mono ?_; rintro e w1 ⟨rfl, m, rfl⟩) | (go_at_call 41; refine (digits_calls _ (by omega) _).mono ?_; rintro e w1 ⟨rfl, m, rfl⟩) | (go_at_call 42; refine (hparse _ (by first | exact hb | exact pw_below_drewN hb _)).mono ?_; rintro e w1 ⟨N, rfl, hb2⟩))
  go_ret2
  exact ⟨rfl, by first | exact pw_below_drewN hb2 _ | exact hb2⟩
set_option maxRecDepth 100000 in
set_option maxHeartbeats 1000000 in
theorem rn_ht2 (w0 w : World) (hb : Below w0.heap.size w0 w) (s t W P : ByteArray) (hs : s.size ≤ 1048576) (hWs : W.size ≤ 1048576) (hPs : P.size ≤ 1048576) (c1 : (s.toList == [47]) = false) (c2 : (s.toList == [104, 105, 103, 104]) = false) (c3 : (s.toList == [108, 111, 119]) = false)
    (htrim : ∀ w, Calls Tryd.prog 39 #[.string s, .string ⟨#[45]⟩] w fun e w' => e = .returned (.string t) ∧ w' = w)
    (hcut : ∀ w, Calls Tryd.prog 40 #[.string t, .string ⟨#[46]⟩] w fun e w' => e = .returned (.tuple #[.string W, .string P, .bool true]) ∧ ∃ m, w' = w.drewN m) (dW : digB W = true) (dP : digB P = true) (p6 : decide ((6 : Int) < (P.size : Int)) = false) (w1 : decide ((1 : Int) < (W.size : Int)) = true) (w10 : 0 < W.size) (w48 : ∀ h : 0 < W.size, (((W[0]'h).toNat : Int) == 48) = false) (w17 : decide ((17 : Int) < (W.size : Int)) = false) (sat : Int) (hparse : ∀ w1, Below w0.heap.size w0 w1 → Calls Tryd.prog 42 #[.string (W ++ P), .int .i64 10, .int .i64 64] w1 fun e w' => ∃ N : Nat, e = .returned (.tuple #[.int .i64 sat, .nilIface]) ∧ Below w0.heap.size w0 w') (zero : (sat == 0) = true) (z1 : decide (1000000000000000 < sat) = false) (hne : (t.toList == s.toList) = false) 
    : Calls Tryd.prog 11 #[.string s] w fun e w' => e = .returned (.tuple #[.float .f64 0, .bool false]) ∧ Below w0.heap.size w0 w' := by
  have hlim : (9223372036854775807 < W.size + P.size) = False := eq_false (by omega)
  go_enter Tryd.func11, Tryd.ntmps11
  go_wp2_with (first | (go_at_call 39; refine (htrim _).mono ?_; rintro e w1 ⟨rfl, rfl⟩) | (go_at_call 40; refine (hcut _).mono ?_; rintro e w1 ⟨rfl, m, rfl⟩) | (go_at_call 41; refine (digits_calls _ (by omega) _).mono ?_; rintro e w1 ⟨rfl, m, rfl⟩) | (go_at_call 42; refine (hparse _ (by first | exact hb | exact pw_below_drewN hb _)).mono ?_; rintro e w1 ⟨N, rfl, hb2⟩))
  go_ret2
  exact ⟨rfl, by first | exact pw_below_drewN hb2 _ | exact hb2⟩
set_option maxRecDepth 100000 in
set_option maxHeartbeats 1000000 in
theorem rn_it2p (w0 w : World) (hb : Below w0.heap.size w0 w) (s t W P : ByteArray) (hs : s.size ≤ 1048576) (hWs : W.size ≤ 1048576) (hPs : P.size ≤ 1048576) (c1 : (s.toList == [47]) = false) (c2 : (s.toList == [104, 105, 103, 104]) = false) (c3 : (s.toList == [108, 111, 119]) = false)
    (htrim : ∀ w, Calls Tryd.prog 39 #[.string s, .string ⟨#[45]⟩] w fun e w' => e = .returned (.string t) ∧ w' = w)
    (hcut : ∀ w, Calls Tryd.prog 40 #[.string t, .string ⟨#[46]⟩] w fun e w' => e = .returned (.tuple #[.string W, .string P, .bool true]) ∧ ∃ m, w' = w.drewN m) (dW : digB W = true) (dP : digB P = true) (p6 : decide ((6 : Int) < (P.size : Int)) = false) (w1 : decide ((1 : Int) < (W.size : Int)) = true) (w10 : 0 < W.size) (w48 : ∀ h : 0 < W.size, (((W[0]'h).toNat : Int) == 48) = false) (w17 : decide ((17 : Int) < (W.size : Int)) = false) (sat : Int) (hparse : ∀ w1, Below w0.heap.size w0 w1 → Calls Tryd.prog 42 #[.string (W ++ P), .int .i64 10, .int .i64 64] w1 fun e w' => ∃ N : Nat, e = .returned (.tuple #[.int .i64 sat, .nilIface]) ∧ Below w0.heap.size w0 w') (low : 0 ≤ sat) (z2 : sat ≤ 1000000000000000) (z1 : decide (1000000000000000 < sat) = false) (z0 : (sat == 0) = false) (hne : (t.toList == s.toList) = true) (T : Nat) (hten : impl_ten.f 98 (P.size : Int) = some T) (hq : fok .quo (fofi sat) T = true) 
    : Calls Tryd.prog 11 #[.string s] w fun e w' => e = .returned (.tuple #[.float .f64 (fop .quo (fofi sat) T), .bool true]) ∧ Below w0.heap.size w0 w' := by
  have hlim : (9223372036854775807 < W.size + P.size) = False := eq_false (by omega)
  go_enter Tryd.func11, Tryd.ntmps11
  go_wp2_with (first | (go_at_call 39; refine (htrim _).mono ?_; rintro e w1 ⟨rfl, rfl⟩) | (go_at_call 40; refine (hcut _).mono ?_; rintro e w1 ⟨rfl, m, rfl⟩) | (go_at_call 41; refine (digits_calls _ (by omega) _).mono ?_; rintro e w1 ⟨rfl, m, rfl⟩) | (go_at_call 42; refine (hparse _ (by first | exact hb | exact pw_below_drewN hb _)).mono ?_; rintro e w1 ⟨N, rfl, hb2⟩) | (go_at_call 32; with_reducible refine (impl_ten.calls 98 _ T _ hten).mono ?_; rintro e w1 ⟨rfl, m, rfl⟩))
  go_ret2
  exact ⟨rfl, by first | exact pw_below_drewN hb2 _ | exact hb2⟩
set_option maxRecDepth 100000 in
set_option maxHeartbeats 1000000 in
theorem rn_it2n (w0 w : World) (hb : Below w0.heap.size w0 w) (s t W P : ByteArray) (hs : s.size ≤ 1048576) (hWs : W.size ≤ 1048576) (hPs : P.size ≤ 1048576) (c1 : (s.toList == [47]) = false) (c2 : (s.toList == [104, 105, 103, 104]) = false) (c3 : (s.toList == [108, 111, 119]) = false)
    (htrim : ∀ w, Calls Tryd.prog 39 #[.string s, .string ⟨#[45]⟩] w fun e w' => e = .returned (.string t) ∧ w' = w)
    (hcut : ∀ w, Calls Tryd.prog 40 #[.string t, .string ⟨#[46]⟩] w fun e w' => e = .returned (.tuple #[.string W, .string P, .bool true]) ∧ ∃ m, w' = w.drewN m) (dW : digB W = true) (dP : digB P = true) (p6 : decide ((6 : Int) < (P.size : Int)) = false) (w1 : decide ((1 : Int) < (W.size : Int)) = true) (w10 : 0 < W.size) (w48 : ∀ h : 0 < W.size, (((W[0]'h).toNat : Int) == 48) = false) (w17 : decide ((17 : Int) < (W.size : Int)) = false) (sat : Int) (hparse : ∀ w1, Below w0.heap.size w0 w1 → Calls Tryd.prog 42 #[.string (W ++ P), .int .i64 10, .int .i64 64] w1 fun e w' => ∃ N : Nat, e = .returned (.tuple #[.int .i64 sat, .nilIface]) ∧ Below w0.heap.size w0 w') (low : 0 ≤ sat) (z2 : sat ≤ 1000000000000000) (z1 : decide (1000000000000000 < sat) = false) (z0 : (sat == 0) = false) (hne : (t.toList == s.toList) = false) (T : Nat) (hten : impl_ten.f 98 (P.size : Int) = some T) (hq : fok .quo (fofi (-sat)) T = true) 
    : Calls Tryd.prog 11 #[.string s] w fun e w' => e = .returned (.tuple #[.float .f64 (fop .quo (fofi (-sat)) T), .bool true]) ∧ Below w0.heap.size w0 w' := by
  have hlim : (9223372036854775807 < W.size + P.size) = False := eq_false (by omega)
  go_enter Tryd.func11, Tryd.ntmps11
  go_wp2_with (first | (go_at_call 39; refine (htrim _).mono ?_; rintro e w1 ⟨rfl, rfl⟩) | (go_at_call 40; refine (hcut _).mono ?_; rintro e w1 ⟨rfl, m, rfl⟩) | (go_at_call 41; refine (digits_calls _ (by omega) _).mono ?_; rintro e w1 ⟨rfl, m, rfl⟩) | (go_at_call 42; refine (hparse _ (by first | exact hb | exact pw_below_drewN hb _)).mono ?_; rintro e w1 ⟨N, rfl, hb2⟩) | (go_at_call 32; with_reducible refine (impl_ten.calls 98 _ T _ hten).mono ?_; rintro e w1 ⟨rfl, m, rfl⟩))
  go_ret2
  exact ⟨rfl, by first | exact pw_below_drewN hb2 _ | exact hb2⟩
set_option maxRecDepth 100000 in
set_option maxHeartbeats 1000000 in
theorem rn_it2z (w0 w : World) (hb : Below w0.heap.size w0 w) (s t W P : ByteArray) (hs : s.size ≤ 1048576) (hWs : W.size ≤ 1048576) (hPs : P.size ≤ 1048576) (c1 : (s.toList == [47]) = false) (c2 : (s.toList == [104, 105, 103, 104]) = false) (c3 : (s.toList == [108, 111, 119]) = false)
    (htrim : ∀ w, Calls Tryd.prog 39 #[.string s, .string ⟨#[45]⟩] w fun e w' => e = .returned (.string t) ∧ w' = w)
    (hcut : ∀ w, Calls Tryd.prog 40 #[.string t, .string ⟨#[46]⟩] w fun e w' => e = .returned (.tuple #[.string W, .string P, .bool true]) ∧ ∃ m, w' = w.drewN m) (dW : digB W = true) (dP : digB P = true) (p6 : decide ((6 : Int) < (P.size : Int)) = false) (w1 : decide ((1 : Int) < (W.size : Int)) = true) (w10 : 0 < W.size) (w48 : ∀ h : 0 < W.size, (((W[0]'h).toNat : Int) == 48) = false) (w17 : decide ((17 : Int) < (W.size : Int)) = false) (hparse : ∀ w1, Below w0.heap.size w0 w1 → Calls Tryd.prog 42 #[.string (W ++ P), .int .i64 10, .int .i64 64] w1 fun e w' => ∃ N : Nat, e = .returned (.tuple #[.int .i64 0, .nilIface]) ∧ Below w0.heap.size w0 w') (hne : (t.toList == s.toList) = true) (T : Nat) (hten : impl_ten.f 98 (P.size : Int) = some T) (hq : fok .quo (fofi 0) T = true) 
    : Calls Tryd.prog 11 #[.string s] w fun e w' => e = .returned (.tuple #[.float .f64 (fop .quo (fofi 0) T), .bool true]) ∧ Below w0.heap.size w0 w' := by
  have hlim : (9223372036854775807 < W.size + P.size) = False := eq_false (by omega)
  go_enter Tryd.func11, Tryd.ntmps11
  go_wp2_with (first | (go_at_call 39; refine (htrim _).mono ?_; rintro e w1 ⟨rfl, rfl⟩) | (go_at_call 40; refine (hcut _).mono ?_; rintro e w1 ⟨rfl, m, rfl⟩) | (go_at_call 41; refine (digits_calls _ (by omega) _).mono ?_; rintro e w1 ⟨rfl, m, rfl⟩) | (go_at_call 42; refine (hparse _ (by first | exact hb | exact pw_below_drewN hb _)).mono ?_; rintro e w1 ⟨N, rfl, hb2⟩) | (go_at_call 32; with_reducible refine (impl_ten.calls 98 _ T _ hten).mono ?_; rintro e w1 ⟨rfl, m, rfl⟩))
  go_ret2
  exact ⟨rfl, by first | exact pw_below_drewN hb2 _ | exact hb2⟩
set_option maxRecDepth 100000 in
set_option maxHeartbeats 1000000 in
theorem rn_af (s t W P : ByteArray) (hs : s.size ≤ 1048576) (hWs : W.size ≤ 1048576) (hPs : P.size ≤ 1048576) (c1 : (s.toList == [47]) = false) (c2 : (s.toList == [104, 105, 103, 104]) = false) (c3 : (s.toList == [108, 111, 119]) = false)
    (htrim : ∀ w, Calls Tryd.prog 39 #[.string s, .string ⟨#[45]⟩] w fun e w' => e = .returned (.string t) ∧ w' = w)
    (hcut : ∀ w, Calls Tryd.prog 40 #[.string t, .string ⟨#[46]⟩] w fun e w' => e = .returned (.tuple #[.string W, .string P, .bool false]) ∧ ∃ m, w' = w.drewN m) (dW : digB W = false) (w0 w : World) (hb : Below w0.heap.size w0 w)
    : Calls Tryd.prog 11 #[.string s] w fun e w' => e = .returned (.tuple #[.float .f64 0, .bool false]) ∧ Below w0.heap.size w0 w' := by
  go_enter Tryd.func11, Tryd.ntmps11
  go_wp2_with (first | (go_at_call 39; refine (htrim _).mono ?_; rintro e w1 ⟨rfl, rfl⟩) | (go_at_call 40; refine (hcut _).mono ?_; rintro e w1 ⟨rfl, m, rfl⟩) | (go_at_call 41; refine (digits_calls _ (by omega) _).mono ?_; rintro e w1 ⟨rfl, m, rfl⟩))
  go_ret2
  exact ⟨rfl, by first | exact pw_below_drewN hb _ | exact hb | exact pw_below_drewN hb2 _ | exact hb2⟩
set_option maxRecDepth 100000 in
set_option maxHeartbeats 1000000 in
theorem rn_df (s t W P : ByteArray) (hs : s.size ≤ 1048576) (hWs : W.size ≤ 1048576) (hPs : P.size ≤ 1048576) (c1 : (s.toList == [47]) = false) (c2 : (s.toList == [104, 105, 103, 104]) = false) (c3 : (s.toList == [108, 111, 119]) = false)
    (htrim : ∀ w, Calls Tryd.prog 39 #[.string s, .string ⟨#[45]⟩] w fun e w' => e = .returned (.string t) ∧ w' = w)
    (hcut : ∀ w, Calls Tryd.prog 40 #[.string t, .string ⟨#[46]⟩] w fun e w' => e = .returned (.tuple #[.string W, .string P, .bool false]) ∧ ∃ m, w' = w.drewN m) (dW : digB W = true) (w1 : decide ((1 : Int) < (W.size : Int)) = true) (w10 : 0 < W.size) (w48 : ∀ h : 0 < W.size, (((W[0]'h).toNat : Int) == 48) = true) (w0 w : World) (hb : Below w0.heap.size w0 w)
    : Calls Tryd.prog 11 #[.string s] w fun e w' => e = .returned (.tuple #[.float .f64 0, .bool false]) ∧ Below w0.heap.size w0 w' := by
  go_enter Tryd.func11, Tryd.ntmps11
  go_wp2_with (first | (go_at_call 39; refine (htrim _).mono ?_; rintro e w1 ⟨rfl, rfl⟩) | (go_at_call 40; refine (hcut _).mono ?_; rintro e w1 ⟨rfl, m, rfl⟩) | (go_at_call 41; refine (digits_calls _ (by omega) _).mono ?_; rintro e w1 ⟨rfl, m, rfl⟩))
  go_ret2
  exact ⟨rfl, by first | exact pw_below_drewN hb _ | exact hb | exact pw_below_drewN hb2 _ | exact hb2⟩
set_option maxRecDepth 100000 in
set_option maxHeartbeats 1000000 in
theorem rn_ff1 (w0 w : World) (hb : Below w0.heap.size w0 w) (s t W P : ByteArray) (hs : s.size ≤ 1048576) (hWs : W.size ≤ 1048576) (hPs : P.size ≤ 1048576) (c1 : (s.toList == [47]) = false) (c2 : (s.toList == [104, 105, 103, 104]) = false) (c3 : (s.toList == [108, 111, 119]) = false)
    (htrim : ∀ w, Calls Tryd.prog 39 #[.string s, .string ⟨#[45]⟩] w fun e w' => e = .returned (.string t) ∧ w' = w)
    (hcut : ∀ w, Calls Tryd.prog 40 #[.string t, .string ⟨#[46]⟩] w fun e w' => e = .returned (.tuple #[.string W, .string P, .bool false]) ∧ ∃ m, w' = w.drewN m) (dW : digB W = true) (w1 : decide ((1 : Int) < (W.size : Int)) = false) (w17 : decide ((17 : Int) < (W.size : Int)) = false) (sat : Int) (hparse : ∀ w1, Below w0.heap.size w0 w1 → Calls Tryd.prog 42 #[.string (W ++ P), .int .i64 10, .int .i64 64] w1 fun e w' => ∃ N, e = .returned (.tuple #[.int .i64 sat, .iface 122 (.pointer (some ⟨N, 0, none⟩))]) ∧ Below w0.heap.size w0 w') 
    : Calls Tryd.prog 11 #[.string s] w fun e w' => e = .returned (.tuple #[.float .f64 0, .bool false]) ∧ Below w0.heap.size w0 w' := by
  have hlim : (9223372036854775807 < W.size + P.size) = False := eq_false (by omega)
  go_enter Tryd.func11, Tryd.ntmps11
  go_wp2_with (first | (go_at_call 39; refine (htrim _).mono ?_; rintro e w1 ⟨rfl, rfl⟩) | (go_at_call 40; refine (hcut _).mono ?_; rintro e w1 ⟨rfl, m, rfl⟩) | (go_at_call 41; refine (digits_calls _ (by omega) _).mono ?_; rintro e w1 ⟨rfl, m, rfl⟩) | (go_at_call 42; refine (hparse _ (by first | exact hb | exact pw_below_drewN hb _)).mono ?_; rintro e w1 ⟨N, rfl, hb2⟩))
  go_ret2
  exact ⟨rfl, by first | exact pw_below_drewN hb2 _ | exact hb2⟩
set_option maxRecDepth 100000 in
set_option maxHeartbeats 1000000 in
theorem rn_gf1 (w0 w : World) (hb : Below w0.heap.size w0 w) (s t W P : ByteArray) (hs : s.size ≤ 1048576) (hWs : W.size ≤ 1048576) (hPs : P.size ≤ 1048576) (c1 : (s.toList == [47]) = false) (c2 : (s.toList == [104, 105, 103, 104]) = false) (c3 : (s.toList == [108, 111, 119]) = false)
    (htrim : ∀ w, Calls Tryd.prog 39 #[.string s, .string ⟨#[45]⟩] w fun e w' => e = .returned (.string t) ∧ w' = w)
    (hcut : ∀ w, Calls Tryd.prog 40 #[.string t, .string ⟨#[46]⟩] w fun e w' => e = .returned (.tuple #[.string W, .string P, .bool false]) ∧ ∃ m, w' = w.drewN m) (dW : digB W = true) (w1 : decide ((1 : Int) < (W.size : Int)) = false) (w17 : decide ((17 : Int) < (W.size : Int)) = false) (sat : Int) (hparse : ∀ w1, Below w0.heap.size w0 w1 → Calls Tryd.prog 42 #[.string (W ++ P), .int .i64 10, .int .i64 64] w1 fun e w' => ∃ N : Nat, e = .returned (.tuple #[.int .i64 sat, .nilIface]) ∧ Below w0.heap.size w0 w') (big : decide (1000000000000000 < sat) = true) 
    : Calls Tryd.prog 11 #[.string s] w fun e w' => e = .returned (.tuple #[.float .f64 0, .bool false]) ∧ Below w0.heap.size w0 w' := by
  have hlim : (9223372036854775807 < W.size + P.size) = False := eq_false (by omega)
  go_enter Tryd.func11, Tryd.ntmps11
  go_wp2_with (first | (go_at_call 39; refine (htrim _).mono ?_; rintro e w1 ⟨rfl, rfl⟩) | (go_at_call 40; refine (hcut _).mono ?_; rintro e w1 ⟨rfl, m, rfl⟩) | (go_at_call 41; refine (digits_calls _ (by omega) _).mono ?_; rintro e w1 ⟨rfl, m, rfl⟩) | (go_at_call 42; refine (hparse _ (by first | exact hb | exact pw_below_drewN hb _)).mono ?_; rintro e w1 ⟨N, rfl, hb2⟩))
  go_ret2
  exact ⟨rfl, by first | exact pw_below_drewN hb2 _ | exact hb2⟩
set_option maxRecDepth 100000 in
set_option maxHeartbeats 1000000 in
theorem rn_hf1 (w0 w : World) (hb : Below w0.heap.size w0 w) (s t W P : ByteArray) (hs : s.size ≤ 1048576) (hWs : W.size ≤ 1048576) (hPs : P.size ≤ 1048576) (c1 : (s.toList == [47]) = false) (c2 : (s.toList == [104, 105, 103, 104]) = false) (c3 : (s.toList == [108, 111, 119]) = false)
    (htrim : ∀ w, Calls Tryd.prog 39 #[.string s, .string ⟨#[45]⟩] w fun e w' => e = .returned (.string t) ∧ w' = w)
    (hcut : ∀ w, Calls Tryd.prog 40 #[.string t, .string ⟨#[46]⟩] w fun e w' => e = .returned (.tuple #[.string W, .string P, .bool false]) ∧ ∃ m, w' = w.drewN m) (dW : digB W = true) (w1 : decide ((1 : Int) < (W.size : Int)) = false) (w17 : decide ((17 : Int) < (W.size : Int)) = false) (sat : Int) (hparse : ∀ w1, Below w0.heap.size w0 w1 → Calls Tryd.prog 42 #[.string (W ++ P), .int .i64 10, .int .i64 64] w1 fun e w' => ∃ N : Nat, e = .returned (.tuple #[.int .i64 sat, .nilIface]) ∧ Below w0.heap.size w0 w') (zero : (sat == 0) = true) (z1 : decide (1000000000000000 < sat) = false) (hne : (t.toList == s.toList) = false) 
    : Calls Tryd.prog 11 #[.string s] w fun e w' => e = .returned (.tuple #[.float .f64 0, .bool false]) ∧ Below w0.heap.size w0 w' := by
  have hlim : (9223372036854775807 < W.size + P.size) = False := eq_false (by omega)
  go_enter Tryd.func11, Tryd.ntmps11
  go_wp2_with (first | (go_at_call 39; refine (htrim _).mono ?_; rintro e w1 ⟨rfl, rfl⟩) | (go_at_call 40; refine (hcut _).mono ?_; rintro e w1 ⟨rfl, m, rfl⟩) | (go_at_call 41; refine (digits_calls _ (by omega) _).mono ?_; rintro e w1 ⟨rfl, m, rfl⟩) | (go_at_call 42; refine (hparse _ (by first | exact hb | exact pw_below_drewN hb _)).mono ?_; rintro e w1 ⟨N, rfl, hb2⟩))
  go_ret2
  exact ⟨rfl, by first | exact pw_below_drewN hb2 _ | exact hb2⟩
set_option maxRecDepth 100000 in
set_option maxHeartbeats 1000000 in
theorem rn_if1p (w0 w : World) (hb : Below w0.heap.size w0 w) (s t W P : ByteArray) (hs : s.size ≤ 1048576) (hWs : W.size ≤ 1048576) (hPs : P.size ≤ 1048576) (c1 : (s.toList == [47]) = false) (c2 : (s.toList == [104, 105, 103, 104]) = false) (c3 : (s.toList == [108, 111, 119]) = false)
    (htrim : ∀ w, Calls Tryd.prog 39 #[.string s, .string ⟨#[45]⟩] w fun e w' => e = .returned (.string t) ∧ w' = w)
    (hcut : ∀ w, Calls Tryd.prog 40 #[.string t, .string ⟨#[46]⟩] w fun e w' => e = .returned (.tuple #[.string W, .string P, .bool false]) ∧ ∃ m, w' = w.drewN m) (dW : digB W = true) (w1 : decide ((1 : Int) < (W.size : Int)) = false) (w17 : decide ((17 : Int) < (W.size : Int)) = false) (sat : Int) (hparse : ∀ w1, Below w0.heap.size w0 w1 → Calls Tryd.prog 42 #[.string (W ++ P), .int .i64 10, .int .i64 64] w1 fun e w' => ∃ N : Nat, e = .returned (.tuple #[.int .i64 sat, .nilIface]) ∧ Below w0.heap.size w0 w') (low : 0 ≤ sat) (z2 : sat ≤ 1000000000000000) (z1 : decide (1000000000000000 < sat) = false) (z0 : (sat == 0) = false) (hne : (t.toList == s.toList) = true) (T : Nat) (hten : impl_ten.f 98 (P.size : Int) = some T) (hq : fok .quo (fofi sat) T = true) 
    : Calls Tryd.prog 11 #[.string s] w fun e w' => e = .returned (.tuple #[.float .f64 (fop .quo (fofi sat) T), .bool true]) ∧ Below w0.heap.size w0 w' := by
  have hlim : (9223372036854775807 < W.size + P.size) = False := eq_false (by omega)
  go_enter Tryd.func11, Tryd.ntmps11
  go_wp2_with (first | (go_at_call 39; refine (htrim _).mono ?_; rintro e w1 ⟨rfl, rfl⟩) | (go_at_call 40; refine (hcut _).mono ?_; rintro e w1 ⟨rfl, m, rfl⟩) | (go_at_call 41; refine (digits_calls _ (by omega) _).mono ?_; rintro e w1 ⟨rfl, m, rfl⟩) | (go_at_call 42; refine (hparse _ (by first | exact hb | exact pw_below_drewN hb _)).mono ?_; rintro e w1 ⟨N, rfl, hb2⟩) | (go_at_call 32; with_reducible refine (impl_ten.calls 98 _ T _ hten).mono ?_; rintro e w1 ⟨rfl, m, rfl⟩))
  go_ret2
  exact ⟨rfl, by first | exact pw_below_drewN hb2 _ | exact hb2⟩
set_option maxRecDepth 100000 in
set_option maxHeartbeats 1000000 in
theorem rn_if1n (w0 w : World) (hb : Below w0.heap.size w0 w) (s t W P : ByteArray) (hs : s.size ≤ 1048576) (hWs : W.size ≤ 1048576) (hPs : P.size ≤ 1048576) (c1 : (s.toList == [47]) = false) (c2 : (s.toList == [104, 105, 103, 104]) = false) (c3 : (s.toList == [108, 111, 119]) = false)
    (htrim : ∀ w, Calls Tryd.prog 39 #[.string s, .string ⟨#[45]⟩] w fun e w' => e = .returned (.string t) ∧ w' = w)
    (hcut : ∀ w, Calls Tryd.prog 40 #[.string t, .string ⟨#[46]⟩] w fun e w' => e = .returned (.tuple #[.string W, .string P, .bool false]) ∧ ∃ m, w' = w.drewN m) (dW : digB W = true) (w1 : decide ((1 : Int) < (W.size : Int)) = false) (w17 : decide ((17 : Int) < (W.size : Int)) = false) (sat : Int) (hparse : ∀ w1, Below w0.heap.size w0 w1 → Calls Tryd.prog 42 #[.string (W ++ P), .int .i64 10, .int .i64 64] w1 fun e w' => ∃ N : Nat, e = .returned (.tuple #[.int .i64 sat, .nilIface]) ∧ Below w0.heap.size w0 w') (low : 0 ≤ sat) (z2 : sat ≤ 1000000000000000) (z1 : decide (1000000000000000 < sat) = false) (z0 : (sat == 0) = false) (hne : (t.toList == s.toList) = false) (T : Nat) (hten : impl_ten.f 98 (P.size : Int) = some T) (hq : fok .quo (fofi (-sat)) T = true) 
    : Calls Tryd.prog 11 #[.string s] w fun e w' => e = .returned (.tuple #[.float .f64 (fop .quo (fofi (-sat)) T), .bool true]) ∧ Below w0.heap.size w0 w' := by
  have hlim : (9223372036854775807 < W.size + P.size) = False := eq_false (by omega)
  go_enter Tryd.func11, Tryd.ntmps11
  go_wp2_with (first | (go_at_call 39; refine (htrim _).mono ?_; rintro e w1 ⟨rfl, rfl⟩) | (go_at_call 40; refine (hcut _).mono ?_; rintro e w1 ⟨rfl, m, rfl⟩) | (go_at_call 41; refine (digits_calls _ (by omega) _).mono ?_; rintro e w1 ⟨rfl, m, rfl⟩) | (go_at_call 42; refine (hparse _ (by first | exact hb | exact pw_below_drewN hb _)).mono ?_; rintro e w1 ⟨N, rfl, hb2⟩) | (go_at_call 32; with_reducible refine (impl_ten.calls 98 _ T _ hten).mono ?_; rintro e w1 ⟨rfl, m, rfl⟩))
  go_ret2
  exact ⟨rfl, by first | exact pw_below_drewN hb2 _ | exact hb2⟩
set_option maxRecDepth 100000 in
set_option maxHeartbeats 1000000 in
theorem rn_if1z (w0 w : World) (hb : Below w0.heap.size w0 w) (s t W P : ByteArray) (hs : s.size ≤ 1048576) (hWs : W.size ≤ 1048576) (hPs : P.size ≤ 1048576) (c1 : (s.toList == [47]) = false) (c2 : (s.toList == [104, 105, 103, 104]) = false) (c3 : (s.toList == [108, 111, 119]) = false)
    (htrim : ∀ w, Calls Tryd.prog 39 #[.string s, .string ⟨#[45]⟩] w fun e w' => e = .returned (.string t) ∧ w' = w)
    (hcut : ∀ w, Calls Tryd.prog 40 #[.string t, .string ⟨#[46]⟩] w fun e w' => e = .returned (.tuple #[.string W, .string P, .bool false]) ∧ ∃ m, w' = w.drewN m) (dW : digB W = true) (w1 : decide ((1 : Int) < (W.size : Int)) = false) (w17 : decide ((17 : Int) < (W.size : Int)) = false) (hparse : ∀ w1, Below w0.heap.size w0 w1 → Calls Tryd.prog 42 #[.string (W ++ P), .int .i64 10, .int .i64 64] w1 fun e w' => ∃ N : Nat, e = .returned (.tuple #[.int .i64 0, .nilIface]) ∧ Below w0.heap.size w0 w') (hne : (t.toList == s.toList) = true) (T : Nat) (hten : impl_ten.f 98 (P.size : Int) = some T) (hq : fok .quo (fofi 0) T = true) 
    : Calls Tryd.prog 11 #[.string s] w fun e w' => e = .returned (.tuple #[.float .f64 (fop .quo (fofi 0) T), .bool true]) ∧ Below w0.heap.size w0 w' := by
  have hlim : (9223372036854775807 < W.size + P.size) = False := eq_false (by omega)
  go_enter Tryd.func11, Tryd.ntmps11
  go_wp2_with (first | (go_at_call 39; refine (htrim _).mono ?_; rintro e w1 ⟨rfl, rfl⟩) | (go_at_call 40; refine (hcut _).mono ?_; rintro e w1 ⟨rfl, m, rfl⟩) | (go_at_call 41; refine (digits_calls _ (by omega) _).mono ?_; rintro e w1 ⟨rfl, m, rfl⟩) | (go_at_call 42; refine (hparse _ (by first | exact hb | exact pw_below_drewN hb _)).mono ?_; rintro e w1 ⟨N, rfl, hb2⟩) | (go_at_call 32; with_reducible refine (impl_ten.calls 98 _ T _ hten).mono ?_; rintro e w1 ⟨rfl, m, rfl⟩))
  go_ret2
  exact ⟨rfl, by first | exact pw_below_drewN hb2 _ | exact hb2⟩
set_option maxRecDepth 100000 in
set_option maxHeartbeats 1000000 in
theorem rn_ef2 (s t W P : ByteArray) (hs : s.size ≤ 1048576) (hWs : W.size ≤ 1048576) (hPs : P.size ≤ 1048576) (c1 : (s.toList == [47]) = false) (c2 : (s.toList == [104, 105, 103, 104]) = false) (c3 : (s.toList == [108, 111, 119]) = false)
    (htrim : ∀ w, Calls Tryd.prog 39 #[.string s, .string ⟨#[45]⟩] w fun e w' => e = .returned (.string t) ∧ w' = w)
    (hcut : ∀ w, Calls Tryd.prog 40 #[.string t, .string ⟨#[46]⟩] w fun e w' => e = .returned (.tuple #[.string W, .string P, .bool false]) ∧ ∃ m, w' = w.drewN m) (dW : digB W = true) (w1 : decide ((1 : Int) < (W.size : Int)) = true) (w10 : 0 < W.size) (w48 : ∀ h : 0 < W.size, (((W[0]'h).toNat : Int) == 48) = false) (w17 : decide ((17 : Int) < (W.size : Int)) = true) (w0 w : World) (hb : Below w0.heap.size w0 w)
    : Calls Tryd.prog 11 #[.string s] w fun e w' => e = .returned (.tuple #[.float .f64 0, .bool false]) ∧ Below w0.heap.size w0 w' := by
  go_enter Tryd.func11, Tryd.ntmps11
  go_wp2_with (first | (go_at_call 39; refine (htrim _).mono ?_; rintro e w1 ⟨rfl, rfl⟩) | (go_at_call 40; refine (hcut _).mono ?_; rintro e w1 ⟨rfl, m, rfl⟩) | (go_at_call 41; refine (digits_calls _ (by omega) _).mono ?_; rintro e w1 ⟨rfl, m, rfl⟩))
  go_ret2
  exact ⟨rfl, by first | exact pw_below_drewN hb _ | exact hb | exact pw_below_drewN hb2 _ | exact hb2⟩
set_option maxRecDepth 100000 in
set_option maxHeartbeats 1000000 in
theorem rn_ff2 (w0 w : World) (hb : Below w0.heap.size w0 w) (s t W P : ByteArray) (hs : s.size ≤ 1048576) (hWs : W.size ≤ 1048576) (hPs : P.size ≤ 1048576) (c1 : (s.toList == [47]) = false) (c2 : (s.toList == [104, 105, 103, 104]) = false) (c3 : (s.toList == [108, 111, 119]) = false)
    (htrim : ∀ w, Calls Tryd.prog 39 #[.string s, .string ⟨#[45]⟩] w fun e w' => e = .returned (.string t) ∧ w' = w)
    (hcut : ∀ w, Calls Tryd.prog 40 #[.string t, .string ⟨#[46]⟩] w fun e w' => e = .returned (.tuple #[.string W, .string P, .bool false]) ∧ ∃ m, w' = w.drewN m) (dW : digB W = true) (w1 : decide ((1 : Int) < (W.size : Int)) = true) (w10 : 0 < W.size) (w48 : ∀ h : 0 < W.size, (((W[0]'h).toNat : Int) == 48) = false) (w17 : decide ((17 : Int) < (W.size : Int)) = false) (sat : Int) (hparse : ∀ w1, Below w0.heap.size w0 w1 → Calls Tryd.prog 42 #[.string (W ++ P), .int .i64 10, .int .i64 64] w1 fun e w' => ∃ N, e = .returned (.tuple #[.int .i64 sat, .iface 122 (.pointer (some ⟨N, 0, none⟩))]) ∧ Below w0.heap.size w0 w') 
    : Calls Tryd.prog 11 #[.string s] w fun e w' => e = .returned (.tuple #[.float .f64 0, .bool false]) ∧ Below w0.heap.size w0 w' := by
  have hlim : (9223372036854775807 < W.size + P.size) = False := eq_false (by omega)
  go_enter Tryd.func11, Tryd.ntmps11
  go_wp2_with (first | (go_at_call 39; refine (htrim _).mono ?_; rintro e w1 ⟨rfl, rfl⟩) | (go_at_call 40; refine (hcut _).mono ?_; rintro e w1 ⟨rfl, m, rfl⟩) | (go_at_call 41; refine (digits_calls _ (by omega) _).mono ?_; rintro e w1 ⟨rfl, m, rfl⟩) | (go_at_call 42; refine (hparse _ (by first | exact hb | exact pw_below_drewN hb _)).mono ?_; rintro e w1 ⟨N, rfl, hb2⟩))
  go_ret2
  exact ⟨rfl, by first | exact pw_below_drewN hb2 _ | exact hb2⟩
set_option maxRecDepth 100000 in
set_option maxHeartbeats 1000000 in
theorem rn_gf2 (w0 w : World) (hb : Below w0.heap.size w0 w) (s t W P : ByteArray) (hs : s.size ≤ 1048576) (hWs : W.size ≤ 1048576) (hPs : P.size ≤ 1048576) (c1 : (s.toList == [47]) = false) (c2 : (s.toList == [104, 105, 103, 104]) = false) (c3 : (s.toList == [108, 111, 119]) = false)
    (htrim : ∀ w, Calls Tryd.prog 39 #[.string s, .string ⟨#[45]⟩] w fun e w' => e = .returned (.string t) ∧ w' = w)
    (hcut : ∀ w, Calls Tryd.prog 40 #[.string t, .string ⟨#[46]⟩] w fun e w' => e = .returned (.tuple #[.string W, .string P, .bool false]) ∧ ∃ m, w' = w.drewN m) (dW : digB W = true) (w1 : decide ((1 : Int) < (W.size : Int)) = true) (w10 : 0 < W.size) (w48 : ∀ h : 0 < W.size, (((W[0]'h).toNat : Int) == 48) = false) (w17 : decide ((17 : Int) < (W.size : Int)) = false) (sat : Int) (hparse : ∀ w1, Below w0.heap.size w0 w1 → Calls Tryd.prog 42 #[.string (W ++ P), .int .i64 10, .int .i64 64] w1 fun e w' => ∃ N : Nat, e = .returned (.tuple #[.int .i64 sat, .nilIface]) ∧ Below w0.heap.size w0 w') (big : decide (1000000000000000 < sat) = true) 
    : Calls Tryd.prog 11 #[.string s] w fun e w' => e = .returned (.tuple #[.float .f64 0, .bool false]) ∧ Below w0.heap.size w0 w' := by
  have hlim : (9223372036854775807 < W.size + P.size) = False := eq_false (by omega)
  go_enter Tryd.func11, Tryd.ntmps11
  go_wp2_with (first | (go_at_call 39; refine (htrim _).mono ?_; rintro e w1 ⟨rfl, rfl⟩) | (go_at_call 40; refine (hcut _).mono ?_; rintro e w1 ⟨rfl, m, rfl⟩) | (go_at_call 41; refine (digits_calls _ (by omega) _).mono ?_; rintro e w1 ⟨rfl, m, rfl⟩) | (go_at_call 42; refine (hparse _ (by first | exact hb | exact pw_below_drewN hb _)).mono ?_; rintro e w1 ⟨N, rfl, hb2⟩))
  go_ret2
  exact ⟨rfl, by first | exact pw_below_drewN hb2 _ | exact hb2⟩
set_option maxRecDepth 100000 in
set_option maxHeartbeats 1000000 in
theorem rn_hf2 (w0 w : World) (hb : Below w0.heap.size w0 w) (s t W P : ByteArray) (hs : s.size ≤ 1048576) (hWs : W.size ≤ 1048576) (hPs : P.size ≤ 1048576) (c1 : (s.toList == [47]) = false) (c2 : (s.toList == [104, 105, 103, 104]) = false) (c3 : (s.toList == [108, 111, 119]) = false)
    (htrim : ∀ w, Calls Tryd.prog 39 #[.string s, .string ⟨#[45]⟩] w fun e w' => e = .returned (.string t) ∧ w' = w)
    (hcut : ∀ w, Calls Tryd.prog 40 #[.string t, .string ⟨#[46]⟩] w fun e w' => e = .returned (.tuple #[.string W, .string P, .bool false]) ∧ ∃ m, w' = w.drewN m) (dW : digB W = true) (w1 : decide ((1 : Int) < (W.size : Int)) = true) (w10 : 0 < W.size) (w48 : ∀ h : 0 < W.size, (((W[0]'h).toNat : Int) == 48) = false) (w17 : decide ((17 : Int) < (W.size : Int)) = false) (sat : Int) (hparse : ∀ w1, Below w0.heap.size w0 w1 → Calls Tryd.prog 42 #[.string (W ++ P), .int .i64 10, .int .i64 64] w1 fun e w' => ∃ N : Nat, e = .returned (.tuple #[.int .i64 sat, .nilIface]) ∧ Below w0.heap.size w0 w') (zero : (sat == 0) = true) (z1 : decide (1000000000000000 < sat) = false) (hne : (t.toList == s.toList) = false) 
    : Calls Tryd.prog 11 #[.string s] w fun e w' => e = .returned (.tuple #[.float .f64 0, .bool false]) ∧ Below w0.heap.size w0 w' := by
  have hlim : (9223372036854775807 < W.size + P.size) = False := eq_false (by omega)
  go_enter Tryd.func11, Tryd.ntmps11
  go_wp2_with (first | (go_at_call 39; refine (htrim _).mono ?_; rintro e w1 ⟨rfl, rfl⟩) | (go_at_call 40; refine (hcut _).mono ?_; rintro e w1 ⟨rfl, m, rfl⟩) | (go_at_call 41; refine (digits_calls _ (by omega) _).mono ?_; rintro e w1 ⟨rfl, m, rfl⟩) | (go_at_call 42; refine (hparse _ (by first | exact hb | exact pw_below_drewN hb _)).mono ?_; rintro e w1 ⟨N, rfl, hb2⟩))
  go_ret2
  exact ⟨rfl, by first | exact pw_below_drewN hb2 _ | exact hb2⟩
set_option maxRecDepth 100000 in
set_option maxHeartbeats 1000000 in
theorem rn_if2p (w0 w : World) (hb : Below w0.heap.size w0 w) (s t W P : ByteArray) (hs : s.size ≤ 1048576) (hWs : W.size ≤ 1048576) (hPs : P.size ≤ 1048576) (c1 : (s.toList == [47]) = false) (c2 : (s.toList == [104, 105, 103, 104]) = false) (c3 : (s.toList == [108, 111, 119]) = false)
    (htrim : ∀ w, Calls Tryd.prog 39 #[.string s, .string ⟨#[45]⟩] w fun e w' => e = .returned (.string t) ∧ w' = w)
    (hcut : ∀ w, Calls Tryd.prog 40 #[.string t, .string ⟨#[46]⟩] w fun e w' => e = .returned (.tuple #[.string W, .string P, .bool false]) ∧ ∃ m, w' = w.drewN m) (dW : digB W = true) (w1 : decide ((1 : Int) < (W.size : Int)) = true) (w10 : 0 < W.size) (w48 : ∀ h : 0 < W.size, (((W[0]'h).toNat : Int) == 48) = false) (w17 : decide ((17 : Int) < (W.size : Int)) = false) (sat : Int) (hparse : ∀ w1, Below w0.heap.size w0 w1 → Calls Tryd.prog 42 #[.string (W ++ P), .int .i64 10, .int .i64 64] w1 fun e w' => ∃ N : Nat, e = .returned (.tuple #[.int .i64 sat, .nilIface]) ∧ Below w0.heap.size w0 w') (low : 0 ≤ sat) (z2 : sat ≤ 1000000000000000) (z1 : decide (1000000000000000 < sat) = false) (z0 : (sat == 0) = false) (hne : (t.toList == s.toList) = true) (T : Nat) (hten : impl_ten.f 98 (P.size : Int) = some T) (hq : fok .quo (fofi sat) T = true) 
    : Calls Tryd.prog 11 #[.string s] w fun e w' => e = .returned (.tuple #[.float .f64 (fop .quo (fofi sat) T), .bool true]) ∧ Below w0.heap.size w0 w' := by
  have hlim : (9223372036854775807 < W.size + P.size) = False := eq_false (by omega)
  go_enter Tryd.func11, Tryd.ntmps11
  go_wp2_with (first | (go_at_call 39; refine (htrim _).mono ?_; rintro e w1 ⟨rfl, rfl⟩) | (go_at_call 40; refine (hcut _).mono ?_; rintro e w1 ⟨rfl, m, rfl⟩) | (go_at_call 41; refine (digits_calls _ (by omega) _).mono ?_; rintro e w1 ⟨rfl, m, rfl⟩) | (go_at_call 42; refine (hparse _ (by first | exact hb | exact pw_below_drewN hb _)).mono ?_; rintro e w1 ⟨N, rfl, hb2⟩) | (go_at_call 32; with_reducible refine (impl_ten.calls 98 _ T _ hten).mono ?_; rintro e w1 ⟨rfl, m, rfl⟩))
  go_ret2
  exact ⟨rfl, by first | exact pw_below_drewN hb2 _ | exact hb2⟩
set_option maxRecDepth 100000 in
set_option maxHeartbeats 1000000 in
theorem rn_if2n (w0 w : World) (hb : Below w0.heap.size w0 w) (s t W P : ByteArray) (hs : s.size ≤ 1048576) (hWs : W.size ≤ 1048576) (hPs : P.size ≤ 1048576) (c1 : (s.toList == [47]) = false) (c2 : (s.toList == [104, 105, 103, 104]) = false) (c3 : (s.toList == [108, 111, 119]) = false)
    (htrim : ∀ w, Calls Tryd.prog 39 #[.string s, .string ⟨#[45]⟩] w fun e w' => e = .returned (.string t) ∧ w' = w)
    (hcut : ∀ w, Calls Tryd.prog 40 #[.string t, .string ⟨#[46]⟩] w fun e w' => e = .returned (.tuple #[.string W, .string P, .bool false]) ∧ ∃ m, w' = w.drewN m) (dW : digB W = true) (w1 : decide ((1 : Int) < (W.size : Int)) = true) (w10 : 0 < W.size) (w48 : ∀ h : 0 < W.size, (((W[0]'h).toNat : Int) == 48) = false) (w17 : decide ((17 : Int) < (W.size : Int)) = false) (sat : Int) (hparse : ∀ w1, Below w0.heap.size w0 w1 → Calls Tryd.prog 42 #[.string (W ++ P), .int .i64 10, .int .i64 64] w1 fun e w' => ∃ N : Nat, e = .returned (.tuple #[.int .i64 sat, .nilIface]) ∧ Below w0.heap.size w0 w') (low : 0 ≤ sat) (z2 : sat ≤ 1000000000000000) (z1 : decide (1000000000000000 < sat) = false) (z0 : (sat == 0) = false) (hne : (t.toList == s.toList) = false) (T : Nat) (hten : impl_ten.f 98 (P.size : Int) = some T) (hq : fok .quo (fofi (-sat)) T = true) 
    : Calls Tryd.prog 11 #[.string s] w fun e w' => e = .returned (.tuple #[.float .f64 (fop .quo (fofi (-sat)) T), .bool true]) ∧ Below w0.heap.size w0 w' := by
  have hlim : (9223372036854775807 < W.size + P.size) = False := eq_false (by omega)
  go_enter Tryd.func11, Tryd.ntmps11
  go_wp2_with (first | (go_at_call 39; refine (htrim _).mono ?_; rintro e w1 ⟨rfl, rfl⟩) | (go_at_call 40; refine (hcut _).mono ?_; rintro e w1 ⟨rfl, m, rfl⟩) | (go_at_call 41; refine (digits_calls _ (by omega) _).mono ?_; rintro e w1 ⟨rfl, m, rfl⟩) | (go_at_call 42; refine (hparse _ (by first | exact hb | exact pw_below_drewN hb _)).mono ?_; rintro e w1 ⟨N, rfl, hb2⟩) | (go_at_call 32; with_reducible refine (impl_ten.calls 98 _ T _ hten).mono ?_; rintro e w1 ⟨rfl, m, rfl⟩))
  go_ret2
  exact ⟨rfl, by first | exact pw_below_drewN hb2 _ | exact hb2⟩
set_option maxRecDepth 100000 in
set_option maxHeartbeats 1000000 in
theorem rn_if2z (w0 w : World) (hb : Below w0.heap.size w0 w) (s t W P : ByteArray) (hs : s.size ≤ 1048576) (hWs : W.size ≤ 1048576) (hPs : P.size ≤ 1048576) (c1 : (s.toList == [47]) = false) (c2 : (s.toList == [104, 105, 103, 104]) = false) (c3 : (s.toList == [108, 111, 119]) = false)
    (htrim : ∀ w, Calls Tryd.prog 39 #[.string s, .string ⟨#[45]⟩] w fun e w' => e = .returned (.string t) ∧ w' = w)
    (hcut : ∀ w, Calls Tryd.prog 40 #[.string t, .string ⟨#[46]⟩] w fun e w' => e = .returned (.tuple #[.string W, .string P, .bool false]) ∧ ∃ m, w' = w.drewN m) (dW : digB W = true) (w1 : decide ((1 : Int) < (W.size : Int)) = true) (w10 : 0 < W.size) (w48 : ∀ h : 0 < W.size, (((W[0]'h).toNat : Int) == 48) = false) (w17 : decide ((17 : Int) < (W.size : Int)) = false) (hparse : ∀ w1, Below w0.heap.size w0 w1 → Calls Tryd.prog 42 #[.string (W ++ P), .int .i64 10, .int .i64 64] w1 fun e w' => ∃ N : Nat, e = .returned (.tuple #[.int .i64 0, .nilIface]) ∧ Below w0.heap.size w0 w') (hne : (t.toList == s.toList) = true) (T : Nat) (hten : impl_ten.f 98 (P.size : Int) = some T) (hq : fok .quo (fofi 0) T = true) 
    : Calls Tryd.prog 11 #[.string s] w fun e w' => e = .returned (.tuple #[.float .f64 (fop .quo (fofi 0) T), .bool true]) ∧ Below w0.heap.size w0 w' := by
  have hlim : (9223372036854775807 < W.size + P.size) = False := eq_false (by omega)
  go_enter Tryd.func11, Tryd.ntmps11
  go_wp2_with (first | (go_at_call 39; refine (htrim _).mono ?_; rintro e w1 ⟨rfl, rfl⟩) | (go_at_call 40; refine (hcut _).mono ?_; rintro e w1 ⟨rfl, m, rfl⟩) | (go_at_call 41; refine (digits_calls _ (by omega) _).mono ?_; rintro e w1 ⟨rfl, m, rfl⟩) | (go_at_call 42; refine (hparse _ (by first | exact hb | exact pw_below_drewN hb _)).mono ?_; rintro e w1 ⟨N, rfl, hb2⟩) | (go_at_call 32; with_reducible refine (impl_ten.calls 98 _ T _ hten).mono ?_; rintro e w1 ⟨rfl, m, rfl⟩))
  go_ret2
  exact ⟨rfl, by first | exact pw_below_drewN hb2 _ | exact hb2⟩
theorem l1None_any (w : World) : Calls Tryd.prog 35 #[] w fun e w' => ∃ b : Nat, IsNaN b ∧ e = .returned (.float .f64 b) ∧ Drawn0 w w' := by
  go_enter Tryd.func35, Tryd.ntmps35
  go_wp2
  obtain ⟨b, hb, _, hr⟩ := run_fop_nan (P := Tryd.prog) w .quo (.inr (.inr (.inr rfl))) 22 0 0 (by decide +kernel)
  rw [hr]
  go_wp2
  go_ret
  exact ⟨b, nan_of hb, rfl, ⟨⟨1, rfl⟩⟩⟩
theorem rn_spec_slash (w : World) : Calls Tryd.prog 10 #[.string ⟨#[47]⟩] w fun e w' => ∃ b : Nat, IsNaN b ∧ e = .returned (.tuple #[.float .f64 b, .bool true]) ∧ Below w.heap.size w w' := by
  have c1 : ((⟨#[47]⟩ : ByteArray).toList == [47]) = true := by rw [ByteArray.toList_eq]; rfl
  go_enter Tryd.func10, Tryd.ntmps10
  go_wp2_with (go_at_call 35; refine (l1None_any _).mono ?_; rintro e w1 ⟨b, hb, rfl, ⟨nd, rfl⟩⟩)
  go_ret2
  exact ⟨b, hb, rfl, pw_below_drewN (Below.refl _ _) _⟩
theorem rn_slash (w0 w : World) (hb : Below w0.heap.size w0 w) : Calls Tryd.prog 11 #[.string ⟨#[47]⟩] w fun e w' => e = .returned (.tuple #[.float .f64 9221120237041090561, .bool true]) ∧ Below w0.heap.size w0 w' := by
  have c1 : ((⟨#[47]⟩ : ByteArray).toList == [47]) = true := by rw [ByteArray.toList_eq]; rfl
  go_enter Tryd.func11, Tryd.ntmps11
  go_wp2_with (go_at_call 37; refine (nan_calls _).mono ?_; rintro e w' ⟨rfl, rfl⟩)
  go_ret2
  exact ⟨rfl, by first | exact hb | exact pw_below_drewN hb _⟩
theorem rn_high (w0 w : World) (hb : Below w0.heap.size w0 w) : Calls Tryd.prog 11 #[.string ⟨#[104, 105, 103, 104]⟩] w fun e w' => e = .returned (.tuple #[.float .f64 9218868437227405312, .bool true]) ∧ Below w0.heap.size w0 w' := by
  have c1 : ((⟨#[104, 105, 103, 104]⟩ : ByteArray).toList == [47]) = false := by rw [ByteArray.toList_eq]; rfl
  have c2 : ((⟨#[104, 105, 103, 104]⟩ : ByteArray).toList == [104, 105, 103, 104]) = true := by rw [ByteArray.toList_eq]; rfl
  go_enter Tryd.func11, Tryd.ntmps11
  go_wp2_with (go_at_call 38; refine (inf_pos_calls _).mono ?_; rintro e w' ⟨rfl, rfl⟩)
  go_ret2
  exact ⟨rfl, by first | exact hb | exact pw_below_drewN hb _⟩
theorem rn_low (w0 w : World) (hb : Below w0.heap.size w0 w) : Calls Tryd.prog 11 #[.string ⟨#[108, 111, 119]⟩] w fun e w' => e = .returned (.tuple #[.float .f64 18442240474082181120, .bool true]) ∧ Below w0.heap.size w0 w' := by
  have c1 : ((⟨#[108, 111, 119]⟩ : ByteArray).toList == [47]) = false := by rw [ByteArray.toList_eq]; rfl
  have c2 : ((⟨#[108, 111, 119]⟩ : ByteArray).toList == [104, 105, 103, 104]) = false := by rw [ByteArray.toList_eq]; rfl
  have c3 : ((⟨#[108, 111, 119]⟩ : ByteArray).toList == [108, 111, 119]) = true := by rw [ByteArray.toList_eq]; rfl
  go_enter Tryd.func11, Tryd.ntmps11
  go_wp2_with (go_at_call 38; refine (inf_neg_calls _).mono ?_; rintro e w' ⟨rfl, rfl⟩)
  go_ret2
  exact ⟨rfl, by first | exact hb | exact pw_below_drewN hb _⟩
theorem rn_law_long (s : ByteArray) (hs : decide ((1048576 : Int) < (s.size : Int)) = true) (w : World) : Calls Tryd.prog 4 #[.string s] w fun e w' => e = .returned (.bool true) ∧ Below w.heap.size w w' := by
  go_enter Tryd.func4, Tryd.ntmps4
  go_wp2
  go_ret
  exact ⟨rfl, Below.refl _ _⟩
theorem rn_law (s : ByteArray) (hs : decide ((1048576 : Int) < (s.size : Int)) = false) (PX : Nat → Prop) (y : Nat) (b : Bool) (w0 : World)
    (hspec : ∀ w1, Below w0.heap.size w0 w1 → Calls Tryd.prog 10 #[.string s] w1 fun e w' => ∃ x, PX x ∧ e = .returned (.tuple #[.float .f64 x, .bool b]) ∧ Below w0.heap.size w0 w')
    (himpl : ∀ w1, Below w0.heap.size w0 w1 → Calls Tryd.prog 11 #[.string s] w1 fun e w' => e = .returned (.tuple #[.float .f64 y, .bool b]) ∧ Below w0.heap.size w0 w')
    (hsame : ∀ x, PX x → laws_sameFloat.f 5 y x = some true) : Calls Tryd.prog 4 #[.string s] w0 fun e w' => e = .returned (.bool true) ∧ Below w0.heap.size w0 w' := by
  have hb0 := Below.refl w0.heap.size w0
  cases b
  all_goals
    go_enter Tryd.func4, Tryd.ntmps4
    go_wp2_with (first | (go_at_call 10; refine (hspec _ (by exact hb0)).mono ?_; rintro e w1 ⟨x, hx, rfl, hb1⟩) | (go_at_call 11; refine (himpl _ (by exact hb1)).mono ?_; rintro e w2 ⟨rfl, hb2⟩) | (go_at_call 12; refine (laws_sameFloat.calls 5 _ _ true _ (hsame _ hx)).mono ?_; rintro e w3 ⟨rfl, ⟨nd, rfl⟩⟩))
    go_ret
    exact ⟨rfl, by first | exact pw_below_drewN hb2 _ | exact hb2⟩
end Go.Proofs.YtigegicbfmjpbaaDoor.PRn
