/- Decimal numerals as lists of bytes: plain facts. Conditions: none. -/
import Derived.Lib.ItoaNum
import Derived.Lib.ParseIntB
set_option linter.unusedVariables false
namespace Go.Proofs.YtigegicbfmjpbaaDoor.Num
open Go
def isD (c : UInt8) : Bool := decide (48 ≤ c.toNat) && decide (c.toNat ≤ 57)
theorem isD_iff (c : UInt8) : isD c = true ↔ 48 ≤ c.toNat ∧ c.toNat ≤ 57 := by simp [isD]
def allD (l : List UInt8) : Bool := l.all isD
/-- The number that digits spell, behind acc. -/
def dv (a : Nat) (l : List UInt8) : Nat := l.foldl (fun a c => a * 10 + (c.toNat - 48)) a
theorem dv_nil (a : Nat) : dv a [] = a := rfl
theorem dv_cons (a : Nat) (c : UInt8) (l : List UInt8) : dv a (c :: l) = dv (a * 10 + (c.toNat - 48)) l := by unfold dv; rw [List.foldl_cons]
theorem dv_append (a : Nat) (l r : List UInt8) : dv a (l ++ r) = dv (dv a l) r := by unfold dv; rw [List.foldl_append]
theorem dv_snoc (a : Nat) (l : List UInt8) (c : UInt8) : dv a (l ++ [c]) = dv a l * 10 + (c.toNat - 48) := by rw [dv_append]; rfl
theorem dv_ge (a : Nat) (l : List UInt8) : a ≤ dv a l := by
  induction l generalizing a with
  | nil => exact Nat.le_refl _
  | cons c l ih => rw [dv_cons]; exact Nat.le_trans (by omega) (ih _)
theorem dv_mono (a : Nat) (l r : List UInt8) : dv a l ≤ dv a (l ++ r) := by rw [dv_append]; exact dv_ge _ _
theorem allD_cons {c : UInt8} {l : List UInt8} : allD (c :: l) = true ↔ isD c = true ∧ allD l = true := by simp [allD]
theorem allD_append {l r : List UInt8} : allD (l ++ r) = true ↔ allD l = true ∧ allD r = true := by simp [allD, List.all_append]
theorem digit_back {c : UInt8} (h : isD c = true) : UInt8.ofNat (48 + (c.toNat - 48)) = c := by
  rw [isD_iff] at h
  rw [show 48 + (c.toNat - 48) = c.toNat by omega]
  exact UInt8.ofNat_toNat
theorem digit_isD {d : Nat} (h : d < 10) : isD (UInt8.ofNat (48 + d)) = true := by
  rw [isD_iff, UInt8.toNat_ofNat']; omega
theorem digit_val {d : Nat} (h : d < 10) : (UInt8.ofNat (48 + d)).toNat = 48 + d := by
  rw [UInt8.toNat_ofNat']; omega
/-- Digits are the numeral of their number, filled up to their length. -/
theorem pad_self : ∀ (n : Nat) (l : List UInt8), l.length = n + 1 → allD l = true → Lib.nDigits (dv 0 l) ≤ n + 1 ∧ List.replicate (n + 1 - Lib.nDigits (dv 0 l)) 48 ++ Lib.decDigits (dv 0 l) = l := by
  intro n
  induction n with
  | zero =>
    intro l hl hd
    match l, hl with
    | [c], _ =>
      have hc := (allD_cons.1 hd).1
      have h := (isD_iff c).1 hc
      have e : dv 0 [c] = c.toNat - 48 := by rw [dv_cons, dv_nil]; omega
      rw [e, Lib.nDigits_small (by omega), Lib.decDigits_one (by omega), digit_back hc]
      exact ⟨Nat.le_refl _, rfl⟩
  | succ n ih =>
    intro l hl hd
    have hne : l ≠ [] := by intro h; rw [h] at hl; simp at hl
    obtain ⟨l0, c, rfl⟩ : ∃ l0 c, l = l0 ++ [c] := ⟨l.dropLast, l.getLast hne, (List.dropLast_concat_getLast hne).symm⟩
    have hl0 : l0.length = n + 1 := by simpa using hl
    obtain ⟨h1, h2⟩ := allD_append.1 hd
    have hc := (allD_cons.1 h2).1
    have h := (isD_iff c).1 hc
    obtain ⟨i1, i2⟩ := ih l0 hl0 h1
    rw [dv_snoc]
    by_cases c0 : dv 0 l0 * 10 + (c.toNat - 48) < 10
    · have z : dv 0 l0 = 0 := by omega
      rw [z] at i2 ⊢
      rw [show 0 * 10 + (c.toNat - 48) = c.toNat - 48 by omega, Lib.nDigits_small (by omega), Lib.decDigits_one (by omega), digit_back hc]
      refine ⟨by omega, ?_⟩
      rw [Lib.nDigits_small (by omega), Lib.decDigits_one (by omega)] at i2
      rw [← i2]
      rw [show n + 1 + 1 - 1 = n + 1 by omega, show n + 1 - 1 = n by omega, List.replicate_succ' (n := n)]
      rfl
    · have e1 : (dv 0 l0 * 10 + (c.toNat - 48)) / 10 = dv 0 l0 := by omega
      have e2 : (dv 0 l0 * 10 + (c.toNat - 48)) % 10 = c.toNat - 48 := by omega
      rw [Lib.nDigits_big c0, e1, Lib.decDigits, dif_neg c0, e1, e2, digit_back hc]
      refine ⟨by omega, ?_⟩
      rw [show n + 1 + 1 - (Lib.nDigits (dv 0 l0) + 1) = n + 1 - Lib.nDigits (dv 0 l0) by omega, ← List.append_assoc, i2]
theorem dv_zeros (n : Nat) (l : List UInt8) : dv 0 (List.replicate n 48 ++ l) = dv 0 l := by
  induction n with
  | zero => rfl
  | succ n ih => rw [List.replicate_succ, List.cons_append, dv_cons]; exact ih
/-- A numeral is digits, spells its number, and has no nought ahead. -/
theorem dec_facts (u : Nat) : allD (Lib.decDigits u) = true ∧ dv 0 (Lib.decDigits u) = u ∧ (10 ≤ u → (Lib.decDigits u).head? ≠ some 48) ∧ (0 < u → (Lib.decDigits u).head? ≠ some 48) ∧ Lib.decDigits u ≠ [] := by
  induction u using Nat.strongRecOn with
  | ind u ih =>
    by_cases c : u < 10
    · rw [Lib.decDigits_one c]
      refine ⟨?_, ?_, fun h => by omega, fun h he => ?_, by simp⟩
      · exact allD_cons.2 ⟨digit_isD c, rfl⟩
      · rw [dv_cons, dv_nil, digit_val c]; omega
      · simp only [List.head?_cons, Option.some.injEq] at he
        have := congrArg UInt8.toNat he
        rw [digit_val c] at this
        have e : (48 : UInt8).toNat = 48 := rfl
        omega
    · obtain ⟨a, b, _, d, e⟩ := ih (u / 10) (by omega)
      rw [Lib.decDigits, dif_neg c]
      have hh : (Lib.decDigits (u / 10) ++ [UInt8.ofNat (48 + u % 10)]).head? ≠ some 48 := by
        obtain ⟨x, xs, hx⟩ := List.exists_cons_of_ne_nil e
        have := d (by omega)
        rw [hx] at this ⊢
        simpa using this
      refine ⟨allD_append.2 ⟨a, allD_cons.2 ⟨digit_isD (by omega), rfl⟩⟩, ?_, fun _ => hh, fun _ => hh, by simp⟩
      rw [dv_snoc, b, digit_val (by omega)]; omega
/-- Digits without a nought ahead (or just so many as are asked for) are their number's numeral, filled up. -/
theorem pad_canon {l : List UInt8} {q : Nat} (hq : 1 ≤ q) (hl : q ≤ l.length) (hd : allD l = true) (h0 : l.length = q ∨ l.head? ≠ some 48) :
    List.replicate (q - (Lib.decDigits (dv 0 l)).length) 48 ++ Lib.decDigits (dv 0 l) = l := by
  obtain ⟨n, hn⟩ : ∃ n, l.length = n + 1 := ⟨l.length - 1, by omega⟩
  obtain ⟨a, b⟩ := pad_self n l hn hd
  rw [Lib.decDigits_length]
  rcases h0 with h0 | h0
  · rw [← h0, hn]; exact b
  · have e : Lib.nDigits (dv 0 l) = n + 1 := by
      by_cases c : Lib.nDigits (dv 0 l) = n + 1
      · exact c
      · exfalso
        apply h0
        obtain ⟨j, hj⟩ : ∃ j, n + 1 - Lib.nDigits (dv 0 l) = j + 1 := ⟨n + 1 - Lib.nDigits (dv 0 l) - 1, by omega⟩
        rw [← b, hj, List.replicate_succ]; rfl
    rw [e] at b ⊢
    rw [show q - (n + 1) = 0 by omega]
    rw [show n + 1 - (n + 1) = 0 by omega] at b
    exact b
theorem uintM_digits : ∀ (l : List UInt8) (a : Nat), allD l = true → a ≤ 18446744073709551615 →
    Lib.parseUintM 18446744073709551615 a l = if dv a l ≤ 18446744073709551615 then .ok (dv a l) else .range := by
  intro l
  induction l with
  | nil => intro a _ ha; rw [Lib.parseUintM, dv_nil, if_pos ha]
  | cons c l ih =>
    intro a hd ha
    obtain ⟨h1, h2⟩ := allD_cons.1 hd
    have hc := (isD_iff c).1 h1
    rw [Lib.parseUintM, if_pos hc, dv_cons]
    have hg := dv_ge (a * 10 + (c.toNat - 48)) l
    by_cases c1 : 1844674407370955162 ≤ a
    · rw [if_pos c1, if_neg (by omega)]
    · rw [if_neg c1]
      by_cases c2 : 18446744073709551615 < a * 10 + (c.toNat - 48)
      · rw [if_pos c2, if_neg (by omega)]
      · rw [if_neg c2]; exact ih _ h2 (by omega)
/-- ParseInt of digits. -/
theorem parse_digits {l : List UInt8} (hne : l ≠ []) (hd : allD l = true) :
    (dv 0 l < 9223372036854775808 → Lib.parseIntB 64 l = .ok (dv 0 l : Int)) ∧ (¬ dv 0 l < 9223372036854775808 → Lib.parseIntB 64 l = .range) := by
  match l, hne with
  | c :: r, _ =>
    have hc := (isD_iff c).1 (allD_cons.1 hd).1
    have hu : Lib.parseUintB 64 (c :: r) = if dv 0 (c :: r) ≤ 18446744073709551615 then .ok (dv 0 (c :: r)) else .range := by
      unfold Lib.parseUintB
      rw [if_neg (by simp)]
      exact uintM_digits (c :: r) 0 hd (by omega)
    have n1 : ¬ (c.toNat = 43 ∨ c.toNat = 45) := by omega
    have n2 : ¬ (c.toNat = 45) := by omega
    have e : Lib.parseIntB 64 (c :: r) = match Lib.parseUintB 64 (c :: r) with
      | .syntax => .syntax
      | .range => .range
      | .ok u => if ¬ (c.toNat = 45) ∧ 2 ^ (64 - 1) ≤ u then .range else if (c.toNat = 45) ∧ 2 ^ (64 - 1) < u then .range else .ok (if (c.toNat = 45) then -(u : Int) else u) := by
      unfold Lib.parseIntB
      simp only [if_neg n1]
      generalize Lib.parseUintB 64 (c :: r) = z
      cases z <;> rfl
    rw [show (2 : Nat) ^ (64 - 1) = 9223372036854775808 from rfl] at e
    rw [e, hu]
    refine ⟨fun h => ?_, fun h => ?_⟩
    · rw [if_pos (by omega)]
      simp only
      rw [if_neg (by rintro ⟨_, h2⟩; omega), if_neg (fun h2 => n2 h2.1), if_neg n2]
    · by_cases c1 : dv 0 (c :: r) ≤ 18446744073709551615
      · rw [if_pos c1]
        simp only
        rw [if_pos ⟨n2, by omega⟩]
      · rw [if_neg c1]
end Go.Proofs.YtigegicbfmjpbaaDoor.Num
