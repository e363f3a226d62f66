/- FnExactReadNumber: the plain law, the reference's loop. Conditions: none. -/
import Derived.Test.YtigegicbfmjpbaaDoorQRn1
import Derived.Test.YtigegicbfmjpbaaDoorNum
set_option linter.unusedVariables false
namespace Go.Proofs.YtigegicbfmjpbaaDoor.PRn
open Go.Proofs.YtigegicbfmjpbaaDoorW Go.RowKit Go.Proofs.YtigegicbfmjpbaaDoorW.PrintWords Go.Proofs.YtigegicbfmjpbaaDoorW.PrintLast Go.Proofs.YtigegicbfmjpbaaDoorW.PrintMore
open F64 Num
theorem sz (s : ByteArray) : s.size = s.data.toList.length := by rw [Array.length_toList]; rfl
theorem str_eq {a b : ByteArray} : a.toList = b.toList ↔ a = b := by
  rw [ByteArray.toList_eq, ByteArray.toList_eq]
  exact ⟨Go.WideShapes.bytes_inj, fun h => by rw [h]⟩
theorem bt_drop {s : ByteArray} {i : Nat} {c : UInt8} {r : List UInt8} (h : s.data.toList.drop i = c :: r) : i < s.size ∧ bt s i = (c.toNat : Int) ∧ s.data.toList.drop (i + 1) = r := by
  have hs := sz s
  have hlt : i < s.data.toList.length := by
    rcases Nat.lt_or_ge i s.data.toList.length with h' | h'
    · exact h'
    · rw [List.drop_eq_nil_of_le h'] at h; cases h
  have h2 := List.drop_eq_getElem_cons hlt
  rw [h] at h2
  injection h2 with h3 h4
  refine ⟨by omega, ?_, h4.symm⟩
  unfold bt
  have hi : ((i : Nat) : Int).toNat < s.size := by rw [hs]; simpa using hlt
  rw [dif_pos hi]
  have : s[((i : Nat) : Int).toNat]'hi = c := by rw [h3]; rfl
  rw [this]
theorem drop_size {s : ByteArray} {i : Nat} (hi : i ≤ s.size) (h : s.data.toList.drop i = []) : i = s.size := by
  have hs := sz s
  have := List.drop_eq_nil_iff.1 h
  omega
theorem drop_length {s : ByteArray} {i : Nat} {r : List UInt8} (h : s.data.toList.drop i = r) : r.length = s.size - i := by
  have hs := sz s
  rw [← h, List.length_drop, hs]
/-- The reference's loop, over what is left of the text. -/
def sl : List UInt8 → Bool → Nat → Int → Option (Nat × Int)
  | [], _, n, p => some (n, p)
  | c :: r, first, n, p =>
    if c.toNat = 46 ∧ p < 0 then sl r false n 0
    else if isD c = true then
      (if 1000000000000000 < n then none else sl r false (n * 10 + (c.toNat - 48)) (if 0 ≤ p then p + 1 else p))
    else if first = true ∧ c.toNat = 45 then sl r false n p else none
def minus (s : ByteArray) : Bool := s.data.toList.head? == some 45
def numOf (s : ByteArray) (n : Nat) : Int := if minus s = true then -(n : Int) else n
/-- What the reference makes of the loop's end. -/
def Fins (s : ByteArray) (n : Nat) (p : Int) (o : Option (Nat × Bool)) : Prop :=
  ((p = 0 ∨ 6 < p ∨ 1000000000000000 < n) → o = some (0, false)) ∧
  (¬ (p = 0 ∨ 6 < p ∨ 1000000000000000 < n) → (tellI (numOf s n) (mx p 0) ≠ s → o = some (0, false)) ∧
    (tellI (numOf s n) (mx p 0) = s → ∃ t, impl_ten.f 98 (mx p 0) = some t ∧ fok .quo (fofi (numOf s n)) t = true ∧ o = some (fop .quo (fofi (numOf s n)) t, true)))
theorem t_ten2 (p : Int) (h0 : 0 ≤ p) (h6 : p ≤ 6) (k : Nat) (hk : 10 ≤ k) : ∃ t, spec_l1Ten.f k p = some t ∧ impl_ten.f k p = some (fofi t) ∧ impl_ten.f 98 p = some (fofi t) ∧ F64.Fin (fofi t) ∧ 1023 * 4503599627370496 ≤ F64.rung (fofi t) := by
  have h : ∀ n : Nat, n ≤ 6 → spec_l1Ten.f 10 n = some (10 ^ n) ∧ impl_ten.f 10 n = some (fofi (10 ^ n)) ∧ F64.Fin (fofi (10 ^ n)) ∧ 1023 * 4503599627370496 ≤ F64.rung (fofi (10 ^ n)) := by decide +kernel
  obtain ⟨n, rfl⟩ := Int.eq_ofNat_of_zero_le h0
  obtain ⟨a, b, c⟩ := h n (by omega)
  exact ⟨10 ^ n, at_rounds (fun k => spec_l1Ten.mono _ k) hk a, at_rounds (fun k => impl_ten.mono _ k) hk b, at_rounds (fun k => impl_ten.mono _ k) (by omega) b, c⟩
theorem minus_bt {s : ByteArray} (h : 0 < s.size) : (bt s 0 == 45) = minus s := by
  have hs := sz s
  match hd : s.data.toList with
  | [] => rw [hd, List.length_nil] at hs; omega
  | c :: r =>
    have h0 : s.data.toList.drop 0 = c :: r := by rw [List.drop_zero, hd]
    obtain ⟨_, h2, _⟩ := bt_drop h0
    have h2 : bt s 0 = (c.toNat : Int) := h2
    unfold minus
    rw [h2, hd, List.head?_cons]
    rw [Bool.eq_iff_iff, beq_iff_eq, beq_iff_eq]
    constructor
    · intro e
      have : c.toNat = 45 := by omega
      rw [show c = 45 from UInt8.toNat_inj.1 this]
    · intro e
      injection e with e
      rw [e]; rfl
theorem minus_empty {s : ByteArray} (h : ¬ 0 < s.size) : minus s = false := by
  have hs := sz s
  have : s.data.toList = [] := List.eq_nil_of_length_eq_zero (by omega)
  unfold minus; rw [this]; rfl
theorem fin_j4 (s : ByteArray) (n : Nat) (p : Int) (hp : -1 ≤ p) (k : Nat) (hk : 70 ≤ k) (hc : ¬ (p = 0 ∨ 6 < p ∨ 1000000000000000 < n)) :
    Fins s n p (spec_ReadNumber.j4 k s (numOf s n) p) := by
  obtain ⟨k, rfl⟩ : ∃ m, k = m + 1 := ⟨k - 1, by omega⟩
  refine ⟨fun h => absurd h hc, fun _ => ?_⟩
  have hq : 0 ≤ mx p 0 ∧ mx p 0 ≤ 6 := by unfold mx; split <;> omega
  have hn : (numOf s n).natAbs ≤ 1000000000000000 := by unfold numOf; split <;> omega
  rw [spec_ReadNumber.j4, p_point _ _ hq.1 hq.2 hn k (by omega)]
  simp only [Option.bind_some]
  obtain ⟨t, t1, _, t2, t3, t4⟩ := t_ten2 _ hq.1 hq.2 k (by omega)
  refine ⟨fun h => by rw [if_neg (fun e => h (str_eq.1 e))], fun h => ?_⟩
  obtain ⟨q1, _⟩ := quo_ge_one (n := numOf s n) (b := 50) (by omega) (by omega) t3 t4
  refine ⟨fofi t, t2, q1, ?_⟩
  rw [if_pos (str_eq.2 h), t1]
  simp only [Option.bind_some]
  rw [if_pos q1]
theorem fin_j2 (s : ByteArray) (n : Nat) (p : Int) (hp : -1 ≤ p) (hs : s.size ≤ 30) (k : Nat) (hk : 80 ≤ k) (b : Bool) (hb : b = true ↔ (p = 0 ∨ 6 < p ∨ 1000000000000000 < n)) :
    Fins s n p (spec_ReadNumber.j2 k s n p b) := by
  obtain ⟨k, rfl⟩ : ∃ m, k = m + 1 := ⟨k - 1, by omega⟩
  rw [spec_ReadNumber.j2]
  cases b with
  | true =>
    have h := hb.1 rfl
    rw [if_pos rfl]
    exact ⟨fun _ => rfl, fun h' => absurd h h'⟩
  | false =>
    have hc : ¬ (p = 0 ∨ 6 < p ∨ 1000000000000000 < n) := fun h => by have := hb.2 h; cases this
    rw [if_neg (by decide)]
    obtain ⟨k, rfl⟩ : ∃ m, k = m + 1 := ⟨k - 1, by omega⟩
    have key : spec_ReadNumber.j3 (k + 1) s n p (minus s) = spec_ReadNumber.j4 k s (numOf s n) p := by
      rw [spec_ReadNumber.j3]
      unfold numOf
      cases minus s with
      | true => rw [if_pos rfl, if_pos rfl, wrap_id (by omega) (by omega)]
      | false => rw [if_neg (by decide), if_neg (by decide)]
    by_cases h0 : 0 < s.size
    · rw [if_pos (by omega), if_pos (by omega), minus_bt h0, key]
      exact fin_j4 s n p hp k (by omega) hc
    · rw [if_neg (by omega)]
      rw [minus_empty h0] at key
      rw [key]
      exact fin_j4 s n p hp k (by omega) hc
/-- The loop says what 'sl' says. -/
theorem loop_sl (s : ByteArray) (hs : s.size ≤ 30) : ∀ (r : List UInt8) (i n : Nat) (p : Int) (k : Nat), s.data.toList.drop i = r → i ≤ s.size → n ≤ 10000000000000009 → -1 ≤ p → p ≤ i → 2 * r.length + 90 ≤ k →
    match sl r (decide (i = 0)) n p with
    | none => spec_ReadNumber.l0 k s n p i = some (0, false)
    | some (n', p') => Fins s n' p' (spec_ReadNumber.l0 k s n p i) := by
  intro r
  induction r with
  | nil =>
    intro i n p k hd hi hn hp hpi hk
    obtain ⟨k, rfl⟩ : ∃ m, k = m + 1 := ⟨k - 1, by omega⟩
    have e := drop_size hi hd
    show Fins s n p _
    rw [spec_ReadNumber.l0, if_neg (by omega)]
    simp only [List.length_nil] at hk
    by_cases c0 : p = 0
    · rw [if_pos c0]; exact fin_j2 s n p hp hs k (by omega) true (by simp [c0])
    · rw [if_neg c0]
      by_cases c1 : p > 6
      · rw [if_pos c1]; exact fin_j2 s n p hp hs k (by omega) true (by simp; omega)
      · rw [if_neg c1]; exact fin_j2 s n p hp hs k (by omega) _ (by rw [decide_eq_true_iff]; omega)
  | cons c r ih =>
    intro i n p k hd hi hn hp hpi hk
    obtain ⟨h1, h2, h3⟩ := bt_drop hd
    have hlen := drop_length hd
    simp only [List.length_cons] at hlen hk
    obtain ⟨k, rfl⟩ : ∃ m, k = m + 2 := ⟨k - 2, by omega⟩
    have hc255 := c.toNat_lt
    have ei : wrap64 ((i : Int) + 1) = ((i + 1 : Nat) : Int) := by rw [wrap_id (by omega) (by omega)]; omega
    have hstep : spec_ReadNumber.l0 (k + 2) s n p i = spec_ReadNumber.j1 (k + 1) s n p i (decide (c.toNat = 46 ∧ p < 0)) := by
      rw [spec_ReadNumber.l0, if_pos (by omega), if_pos (by omega), h2]
      by_cases c46 : c.toNat = 46
      · rw [if_pos (by omega)]; congr 1; simp [c46]
      · rw [if_neg (by omega)]; congr 1; simp [c46]
    have ih' := fun n p hn hp hpi => ih (i + 1) n p k h3 (by omega) hn hp hpi (by omega)
    have ef : decide (i + 1 = 0) = false := by simp
    rw [ef] at ih'
    rw [hstep, spec_ReadNumber.j1]
    have hdig : spec_l1Digit.f (c.toNat : Int) = some (isD c) := by
      unfold spec_l1Digit.f isD
      by_cases d : (c.toNat : Int) ≥ 48
      · rw [if_pos d, decide_eq_true (show 48 ≤ c.toNat by omega), Bool.true_and]
        congr 1; exact decide_eq_decide.2 (by omega)
      · rw [if_neg d, decide_eq_false (show ¬ 48 ≤ c.toNat by omega), Bool.false_and]
    rw [h2, hdig, ei]
    simp only [Option.bind_some]
    by_cases c0 : c.toNat = 46 ∧ p < 0
    · rw [show sl (c :: r) (decide (i = 0)) n p = sl r false n 0 by rw [sl, if_pos c0], if_pos (decide_eq_true c0)]
      exact ih' n 0 hn (by omega) (by omega)
    · rw [if_neg (show ¬ decide (c.toNat = 46 ∧ p < 0) = true by rw [decide_eq_true_iff]; exact c0), if_pos (show (0 : Int) ≤ i by omega), if_pos (show (i : Int) < s.size by omega)]
      by_cases cd : isD c = true
      · have hc := (isD_iff c).1 cd
        rw [if_pos cd]
        by_cases cn : 1000000000000000 < n
        · rw [show sl (c :: r) (decide (i = 0)) n p = none by rw [sl, if_neg c0, if_pos cd, if_pos cn], if_pos (show (n : Int) > 1000000000000000 by omega)]
        · have en : wrap64 (wrap64 ((n : Int) * 10) + (((c.toNat : Int) - 48) % 256)) = ((n * 10 + (c.toNat - 48) : Nat) : Int) := by
            rw [wrap_id (i := (n : Int) * 10) (by omega) (by omega), wrap_id (by omega) (by omega)]; omega
          rw [if_neg (show ¬ (n : Int) > 1000000000000000 by omega), en]
          by_cases cp : 0 ≤ p
          · rw [show sl (c :: r) (decide (i = 0)) n p = sl r false (n * 10 + (c.toNat - 48)) (p + 1) by rw [sl, if_neg c0, if_pos cd, if_neg cn, if_pos cp], if_pos (show p ≥ 0 by omega), wrap_id (i := p + 1) (by omega) (by omega)]
            exact ih' _ (p + 1) (by omega) (by omega) (by omega)
          · rw [show sl (c :: r) (decide (i = 0)) n p = sl r false (n * 10 + (c.toNat - 48)) p by rw [sl, if_neg c0, if_pos cd, if_neg cn, if_neg cp], if_neg (show ¬ p ≥ 0 by omega)]
            exact ih' _ p (by omega) (by omega) (by omega)
      · rw [if_neg cd]
        by_cases c1 : decide (i = 0) = true ∧ c.toNat = 45
        · have hi0 : i = 0 := by simpa using c1.1
          rw [show sl (c :: r) (decide (i = 0)) n p = sl r false n p by rw [sl, if_neg c0, if_neg cd, if_pos c1], if_neg (show ¬ (i : Int) > 0 by omega), if_pos (show (c.toNat : Int) = 45 by omega)]
          exact ih' n p hn hp (by omega)
        · rw [show sl (c :: r) (decide (i = 0)) n p = none by rw [sl, if_neg c0, if_neg cd, if_neg c1]]
          by_cases hi0 : (i : Int) > 0
          · rw [if_pos hi0]
          · rw [if_neg hi0, if_neg (show ¬ (c.toNat : Int) = 45 from fun h => c1 ⟨by simp; omega, by omega⟩)]
end Go.Proofs.YtigegicbfmjpbaaDoor.PRn
