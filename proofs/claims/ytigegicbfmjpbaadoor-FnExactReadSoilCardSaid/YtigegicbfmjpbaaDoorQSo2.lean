/- FnExactReadSoil: the plain law. Conditions: none. -/
import Derived.Test.YtigegicbfmjpbaaDoorQSo1
import Derived.Test.YtigegicbfmjpbaaDoorNum
import Derived.Test.YtigegicbfmjpbaaDoorPieces
set_option linter.unusedVariables false
namespace Go.Proofs.YtigegicbfmjpbaaDoor.PSo
open Go.Proofs.YtigegicbfmjpbaaDoorW Go.RowKit Go.Proofs.YtigegicbfmjpbaaDoorW.PrintWords Go.Proofs.YtigegicbfmjpbaaDoorW.PrintLast Go.Proofs.YtigegicbfmjpbaaDoorW.PrintMore
open Num
theorem str_eq {a b : ByteArray} : a.toList = b.toList ↔ a = b := by
  rw [ByteArray.toList_eq, ByteArray.toList_eq]
  exact ⟨Go.WideShapes.bytes_inj, fun h => by rw [h]⟩
theorem bt_drop {s : ByteArray} {i : Nat} {c : UInt8} {r : List UInt8} (h : s.data.toList.drop i = c :: r) : i < s.size ∧ bt s i = (c.toNat : Int) ∧ s.data.toList.drop (i + 1) = r := by
  have hs := size_len s
  have hlt : i < s.data.toList.length := by
    rcases Nat.lt_or_ge i s.data.toList.length with h' | h'
    · exact h'
    · rw [List.drop_eq_nil_of_le h'] at h; cases h
  have h2 := List.drop_eq_getElem_cons hlt
  rw [h] at h2
  injection h2 with h3 h4
  refine ⟨by omega, ?_, h4.symm⟩
  unfold bt
  have hi : ((i : Nat) : Int).toNat < s.size := by rw [hs]; simpa using hlt
  rw [dif_pos hi]
  have : s[((i : Nat) : Int).toNat]'hi = c := by rw [h3]; rfl
  rw [this]
theorem ext_data (s : ByteArray) (a b : Nat) : (s.extract a b).data.toList = (s.data.toList.take b).drop a := by
  simp only [ByteArray.data_extract, Array.toList_extract, List.extract_eq_take_drop]
  rw [List.drop_take]
/-- The reference's pieces. -/
theorem pieces_loop (s : ByteArray) (hs : s.size ≤ 1000) : ∀ (d i from_ : Nat) (acc : List ByteArray) (k : Nat), s.size - i = d → i ≤ s.size → from_ ≤ i → acc.length ≤ i → free 32 ((s.data.toList.take i).drop from_) → d + 2 ≤ k →
    ∃ ps, spec_l4Pieces.l0 k s acc from_ i = some (acc ++ ps) ∧ ps ≠ [] ∧ (∀ p ∈ ps.map (·.data.toList), free 32 p) ∧ join 32 (ps.map (·.data.toList)) = s.data.toList.drop from_ := by
  intro d
  have hl := size_len s
  induction d with
  | zero =>
    intro i from_ acc k hd hi hf ha hfree hk
    obtain rfl : i = s.size := by omega
    obtain ⟨k, rfl⟩ : ∃ m, k = m + 2 := ⟨k - 2, by omega⟩
    refine ⟨[s.extract from_ s.size], ?_, by simp, fun p hp => ?_, ?_⟩
    · rw [spec_l4Pieces.l0, if_pos (by omega), if_pos rfl, if_pos (by omega), if_pos (by omega), if_pos (by omega), spec_l4Pieces.l0, if_neg (by rw [wrap_id (by omega) (by omega)]; omega)]
      rfl
    · simp only [List.map_cons, List.map_nil, List.mem_singleton] at hp
      rw [hp, ext_data]; exact hfree
    · show (s.extract from_ s.size).data.toList = _
      rw [ext_data, List.take_of_length_le (by omega)]
  | succ d ih =>
    intro i from_ acc k hd hi hf ha hfree hk
    obtain ⟨k, rfl⟩ : ∃ m, k = m + 1 := ⟨k - 1, by omega⟩
    have hlt : i < s.data.toList.length := by omega
    obtain ⟨c, hdrop, htake⟩ : ∃ c, s.data.toList.drop i = c :: s.data.toList.drop (i + 1) ∧ s.data.toList.take (i + 1) = s.data.toList.take i ++ [c] := ⟨_, List.drop_eq_getElem_cons hlt, List.take_succ_eq_append_getElem hlt⟩
    obtain ⟨_, h2, h3⟩ := bt_drop hdrop
    have p1 : (i : Int) ≤ (s.size : Int) := by omega
    have p2 : ¬ (i : Int) = (s.size : Int) := by omega
    have p3 : (0 : Int) ≤ (i : Int) := by omega
    have p4 : (i : Int) < (s.size : Int) := by omega
    have p5 : (0 : Int) ≤ (from_ : Int) := by omega
    have p6 : (from_ : Int) ≤ (i : Int) := by omega
    have p7 : acc.length < 8796093022208 := by omega
    have p8 : s.size - (i + 1) = d := by omega
    have p9 : i + 1 ≤ s.size := by omega
    have p10 : acc.length + 1 ≤ i + 1 := by omega
    have p11 : d + 2 ≤ k := by omega
    have p12 : from_ ≤ (s.data.toList.take i).length := by rw [List.length_take]; omega
    have ei : wrap64 ((i : Int) + 1) = ((i + 1 : Nat) : Int) := wrap_id (by omega) (by omega)
    rw [spec_l4Pieces.l0, if_pos p1, if_neg p2, if_pos p3, if_pos p4, h2]
    by_cases hc : c = 32
    · have hc32 : (c.toNat : Int) = 32 := by rw [hc]; rfl
      rw [if_pos hc32, if_pos p5, if_pos p6, if_pos p7, ei]
      have hfree2 : free 32 ((s.data.toList.take (i + 1)).drop (i + 1)) := by
        rw [List.drop_eq_nil_of_le (by rw [List.length_take]; exact Nat.min_le_left _ _)]; exact List.not_mem_nil
      obtain ⟨ps, q1, q2, q3, q4⟩ := ih (i + 1) (i + 1) (acc ++ [s.extract from_ i]) k p8 p9 (Nat.le_refl _) (by rw [List.length_append]; exact p10) hfree2 p11
      refine ⟨s.extract from_ i :: ps, ?_, by simp, fun p hp => ?_, ?_⟩
      · rw [Int.toNat_natCast, Int.toNat_natCast, q1, List.append_assoc]; rfl
      · rw [List.map_cons, List.mem_cons] at hp
        rcases hp with hp | hp
        · rw [hp, ext_data]; exact hfree
        · exact q3 p hp
      · rw [List.map_cons, join_cons _ _ (by simpa using q2), q4, ext_data]
        have : s.data.toList.drop from_ = (s.data.toList.take i).drop from_ ++ s.data.toList.drop i := by
          conv => lhs; rw [← List.take_append_drop i s.data.toList]
          rw [List.drop_append_of_le_length p12]
        rw [this, hdrop, hc]
    · have hc' : ¬ ((c.toNat : Int) = 32) := fun h => hc (UInt8.toNat_inj.1 (by have e32 : (32 : UInt8).toNat = 32 := rfl; clear ei; omega))
      rw [if_neg hc', ei]
      refine ih (i + 1) from_ acc k p8 p9 (by clear ei; omega) (by clear ei; omega) ?_ p11
      rw [htake, List.drop_append_of_le_length p12]
      intro hm
      rcases List.mem_append.1 hm with hm | hm
      · exact hfree hm
      · simp at hm; exact hc hm.symm
theorem pieces (s : ByteArray) (hs : s.size ≤ 1000) (k : Nat) (hk : s.size + 2 ≤ k) :
    ∃ ps, spec_l4Pieces.f k s = some ps ∧ ps ≠ [] ∧ (∀ p ∈ ps.map (·.data.toList), free 32 p) ∧ join 32 (ps.map (·.data.toList)) = s.data.toList := by
  obtain ⟨ps, a, b, c, d⟩ := pieces_loop s hs s.size 0 0 [] k (by omega) (by omega) (by omega) (by simp) (by simp [free]) (by omega)
  exact ⟨ps, by unfold spec_l4Pieces.f; simpa using a, b, c, by simpa using d⟩
theorem step_lt {n d i : Nat} (h : n < 10 ^ i) (hd : d ≤ 9) : n * 10 + d < 10 ^ (i + 1) := by rw [Nat.pow_succ]; omega
theorem number_loop (s : ByteArray) (hs : s.size ≤ 15) : ∀ (r : List UInt8) (i n k : Nat), s.data.toList.drop i = r → n < 10 ^ i → i ≤ 15 → r.length < k →
    spec_l2Number.l0 k s n i = some (if allD r = true then (dv n r : Int) else -1) := by
  intro r
  induction r with
  | nil =>
    intro i n k hd hn hi hk
    obtain ⟨k, rfl⟩ : ∃ m, k = m + 1 := ⟨k - 1, by omega⟩
    have hle := List.drop_eq_nil_iff.1 hd
    rw [spec_l2Number.l0, if_neg (by rw [size_len]; omega)]; rfl
  | cons c r ih =>
    intro i n k hd hn hi hk
    obtain ⟨k, rfl⟩ : ∃ m, k = m + 1 := ⟨k - 1, by omega⟩
    obtain ⟨h1, h2, h3⟩ := bt_drop hd
    have hi15 : i < 15 := by omega
    have hn15 : n < 1000000000000000 := Nat.lt_of_lt_of_le hn (Nat.pow_le_pow_right (by omega) hi)
    have hc255 := c.toNat_lt
    have hdig : spec_l1Digit.f (c.toNat : Int) = some (isD c) := by
      unfold spec_l1Digit.f isD
      by_cases d : (c.toNat : Int) ≥ 48
      · rw [if_pos d, decide_eq_true (show 48 ≤ c.toNat by omega), Bool.true_and]
        congr 1; exact decide_eq_decide.2 (by omega)
      · rw [if_neg d, decide_eq_false (show ¬ 48 ≤ c.toNat by omega), Bool.false_and]
    rw [spec_l2Number.l0, if_pos (by omega), if_pos (by omega), h2, hdig]
    simp only [Option.bind_some]
    by_cases cd : isD c = true
    · have hc := (isD_iff c).1 cd
      have q1 : n * 10 + (c.toNat - 48) < 10 ^ (i + 1) := step_lt hn (by omega)
      have q3 : r.length < k := by simp only [List.length_cons] at hk; omega
      have en : wrap64 (wrap64 ((n : Int) * 10) + (((c.toNat : Int) - 48) % 256)) = ((n * 10 + (c.toNat - 48) : Nat) : Int) := by
        rw [wrap_id (i := (n : Int) * 10) (by omega) (by omega), wrap_id (by omega) (by omega)]; omega
      have ei : wrap64 ((i : Int) + 1) = ((i + 1 : Nat) : Int) := wrap_id (by omega) (by omega)
      rw [if_pos cd, en, ei, ih (i + 1) (n * 10 + (c.toNat - 48)) k h3 q1 hi15 q3]
      congr 1
      rw [dv_cons]
      by_cases h : allD r = true
      · rw [if_pos h, if_pos (allD_cons.2 ⟨cd, h⟩)]
      · rw [if_neg h, if_neg (fun x => h (allD_cons.1 x).2)]
    · rw [if_neg cd, if_neg (fun x => cd (allD_cons.1 x).1)]
/-- A piece's number. -/
def numP (l : List UInt8) : Int := if l ≠ [] ∧ l.length ≤ 15 ∧ allD l = true then (dv 0 l : Int) else -1
theorem number (s : ByteArray) (k : Nat) (hk : 20 ≤ k) : spec_l2Number.f k s = some (numP s.data.toList) := by
  obtain ⟨k, rfl⟩ : ∃ m, k = m + 1 := ⟨k - 1, by omega⟩
  unfold spec_l2Number.f numP
  have hl := size_len s
  by_cases h0 : s.size = 0
  · have : s.data.toList = [] := List.eq_nil_of_length_eq_zero (by omega)
    rw [if_pos (by omega), spec_l2Number.j0, if_pos rfl, this, if_neg (by simp)]
  · have hne : s.data.toList ≠ [] := fun h => h0 (by rw [hl, h]; rfl)
    rw [if_neg (by omega), spec_l2Number.j0]
    by_cases h15 : s.size > 15
    · rw [if_pos (decide_eq_true (by omega)), if_neg (by omega)]
    · rw [if_neg (by rw [decide_eq_true_iff]; omega)]
      have := number_loop s (by omega) s.data.toList 0 0 k rfl (by omega) (by omega) (by omega)
      rw [show ((0 : Nat) : Int) = 0 from rfl] at this
      rw [this]
      congr 1
      by_cases h : allD s.data.toList = true
      · rw [if_pos h, if_pos ⟨hne, by omega, h⟩]
      · rw [if_neg h, if_neg (fun x => h x.2.2)]
def OkS (a b c d e : Int) : Prop := (0 ≤ a ∧ a ≤ 1000000000000) ∧ (0 ≤ b ∧ b ≤ 400) ∧ (0 ≤ c ∧ c ≤ 1500) ∧ (0 ≤ d ∧ d ≤ 1000000000000) ∧ (0 ≤ e ∧ e ≤ 1000000000000) ∧ e = a + b + c + d
instance (a b c d e : Int) : Decidable (OkS a b c d e) := by unfold OkS; infer_instance
theorem l2In_eq (a b c : Int) : spec_l2In.f a b c = some (decide (b ≤ a ∧ a ≤ c)) := by
  unfold spec_l2In.f
  by_cases h : a ≥ b
  · rw [if_pos h]; congr 1; exact decide_eq_decide.2 (by omega)
  · rw [if_neg h]; congr 1; symm; exact decide_eq_false (by omega)
theorem in_eq (a b c : Int) : impl_in.f a b c = some (decide (b ≤ a ∧ a ≤ c)) := by
  unfold impl_in.f
  by_cases h : a ≥ b
  · rw [if_pos h]; congr 1; exact decide_eq_decide.2 (by omega)
  · rw [if_neg h]; congr 1; symm; exact decide_eq_false (by omega)
theorem sok_step (k : Nat) (l : List Int) (i : Nat) (hi : i < 5) (hl : l.length = 5) (a b c d e : Int) :
    spec_l17SoilOk.l0 (k + 1) l 5 i a b c d e = if (0 ≤ rd l i ∧ rd l i ≤ 1000000000000) then spec_l17SoilOk.l0 k l 5 ((i + 1 : Nat) : Int) a b c d e else some false := by
  rw [spec_l17SoilOk.l0, if_pos (by omega), if_pos (by omega), if_pos (by rw [hl]; omega), l2In_eq]
  simp only [Option.bind_some, decide_eq_true_eq]
  rw [show wrap64 ((i : Int) + 1) = ((i + 1 : Nat) : Int) by rw [wrap_id (by omega) (by omega)]; omega]
theorem spec_ok (a b c d e : Int) (k : Nat) (hk : 10 ≤ k) : spec_l17SoilOk.f k a b c d e = some (decide (OkS a b c d e)) := by
  obtain ⟨k, rfl⟩ : ∃ m, k = m + 6 := ⟨k - 6, by omega⟩
  unfold spec_l17SoilOk.f
  simp only [Option.bind_some]
  have h5 : (([a, b, c, d, e] : List Int).length : Int) = 5 := rfl
  rw [h5]
  have s0 := sok_step (k + 5) [a, b, c, d, e] 0 (by omega) rfl a b c d e
  have s1 := sok_step (k + 4) [a, b, c, d, e] 1 (by omega) rfl a b c d e
  have s2 := sok_step (k + 3) [a, b, c, d, e] 2 (by omega) rfl a b c d e
  have s3 := sok_step (k + 2) [a, b, c, d, e] 3 (by omega) rfl a b c d e
  have s4 := sok_step (k + 1) [a, b, c, d, e] 4 (by omega) rfl a b c d e
  have e0 : rd [a, b, c, d, e] ((0 : Nat) : Int) = a := rfl
  have e1 : rd [a, b, c, d, e] ((1 : Nat) : Int) = b := rfl
  have e2 : rd [a, b, c, d, e] ((2 : Nat) : Int) = c := rfl
  have e3 : rd [a, b, c, d, e] ((3 : Nat) : Int) = d := rfl
  have e4 : rd [a, b, c, d, e] ((4 : Nat) : Int) = e := rfl
  rw [e0] at s0; rw [e1] at s1; rw [e2] at s2; rw [e3] at s3; rw [e4] at s4
  rw [show (0 : Int) = ((0 : Nat) : Int) from rfl, s0]
  by_cases h0 : 0 ≤ a ∧ a ≤ 1000000000000
  case neg => rw [if_neg h0]; congr 1; symm; exact decide_eq_false (fun h => h0 h.1)
  rw [if_pos h0, s1]
  by_cases h1 : 0 ≤ b ∧ b ≤ 1000000000000
  case neg => rw [if_neg h1]; congr 1; symm; exact decide_eq_false (fun h => h1 ⟨h.2.1.1, by have := h.2.1.2; omega⟩)
  rw [if_pos h1, s2]
  by_cases h2 : 0 ≤ c ∧ c ≤ 1000000000000
  case neg => rw [if_neg h2]; congr 1; symm; exact decide_eq_false (fun h => h2 ⟨h.2.2.1.1, by have := h.2.2.1.2; omega⟩)
  rw [if_pos h2, s3]
  by_cases h3 : 0 ≤ d ∧ d ≤ 1000000000000
  case neg => rw [if_neg h3]; congr 1; symm; exact decide_eq_false (fun h => h3 h.2.2.2.1)
  rw [if_pos h3, s4]
  by_cases h4 : 0 ≤ e ∧ e ≤ 1000000000000
  case neg => rw [if_neg h4]; congr 1; symm; exact decide_eq_false (fun h => h4 h.2.2.2.2.1)
  rw [if_pos h4, spec_l17SoilOk.l0, if_neg (by omega)]
  rw [wrap_id (i := a + b) (by omega) (by omega), wrap_id (i := a + b + c) (by omega) (by omega), wrap_id (i := a + b + c + d) (by omega) (by omega)]
  by_cases h5 : b ≤ 400
  case neg => rw [if_neg h5]; congr 1; symm; exact decide_eq_false (fun h => h5 h.2.1.2)
  rw [if_pos h5]
  by_cases h6 : c ≤ 1500
  case neg => rw [if_neg h6]; congr 1; symm; exact decide_eq_false (fun h => h6 h.2.2.1.2)
  rw [if_pos h6]
  congr 1
  rw [Bool.eq_iff_iff, beq_iff_eq, decide_eq_true_iff]
  exact ⟨fun h => ⟨h0, ⟨h1.1, h5⟩, ⟨h2.1, h6⟩, h3, h4, h⟩, fun h => h.2.2.2.2.2⟩
theorem impl_ok (a b c d e : Int) : impl_soilOk.f a b c d e = some (decide (OkS a b c d e)) := by
  unfold impl_soilOk.f
  simp only [in_eq, Option.bind_some, decide_eq_true_eq]
  by_cases h0 : 0 ≤ a ∧ a ≤ 1000000000000
  case neg => rw [if_neg h0]; congr 1; symm; exact decide_eq_false (fun h => h0 h.1)
  rw [if_pos h0]
  by_cases h1 : 0 ≤ b ∧ b ≤ 400
  case neg => rw [if_neg h1]; congr 1; symm; exact decide_eq_false (fun h => h1 h.2.1)
  rw [if_pos h1]
  by_cases h2 : 0 ≤ c ∧ c ≤ 1500
  case neg => rw [if_neg h2]; congr 1; symm; exact decide_eq_false (fun h => h2 h.2.2.1)
  rw [if_pos h2]
  by_cases h3 : 0 ≤ d ∧ d ≤ 1000000000000
  case neg => rw [if_neg h3]; congr 1; symm; exact decide_eq_false (fun h => h3 h.2.2.2.1)
  rw [if_pos h3]
  by_cases h4 : 0 ≤ e ∧ e ≤ 1000000000000
  case neg => rw [if_neg h4]; congr 1; symm; exact decide_eq_false (fun h => h4 h.2.2.2.2.1)
  rw [if_pos h4]
  rw [wrap_id (i := a + b) (by omega) (by omega), wrap_id (i := a + b + c) (by omega) (by omega), wrap_id (i := a + b + c + d) (by omega) (by omega)]
  congr 1
  rw [Bool.eq_iff_iff, beq_iff_eq, decide_eq_true_iff]
  exact ⟨fun h => ⟨h0, h1, h2, h3, h4, h⟩, fun h => h.2.2.2.2.2⟩
end Go.Proofs.YtigegicbfmjpbaaDoor.PSo
