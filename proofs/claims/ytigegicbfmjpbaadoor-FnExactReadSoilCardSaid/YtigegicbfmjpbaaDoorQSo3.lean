/- FnExactReadSoil: the plain law: the two take the same texts. Conditions: none. -/
import Derived.Test.YtigegicbfmjpbaaDoorQSo2
set_option linter.unusedVariables false
namespace Go.Proofs.YtigegicbfmjpbaaDoor.PSo
open Go.Proofs.YtigegicbfmjpbaaDoorW Go.RowKit Go.Proofs.YtigegicbfmjpbaaDoorW.PrintWords Go.Proofs.YtigegicbfmjpbaaDoorW.PrintLast Go.Proofs.YtigegicbfmjpbaaDoorW.PrintMore
open Num
def Canon (l : List UInt8) : Prop := allD l = true ∧ l ≠ [] ∧ l.length ≤ 18 ∧ ¬ (1 < l.length ∧ l.head? = some 48)
theorem canon_dec {l : List UInt8} (h : Canon l) : Lib.decDigits (dv 0 l) = l := by
  obtain ⟨h1, h2, h3, h4⟩ := h
  have hp : 1 ≤ l.length := List.length_pos_iff.2 h2
  have := pad_canon (l := l) (q := 1) (Nat.le_refl 1) hp h1 (by
    by_cases c : l.length = 1
    · exact .inl c
    · exact .inr (fun e => h4 ⟨by omega, e⟩))
  have hd := (dec_facts (dv 0 l)).2.2.2.2
  have hd1 : 1 ≤ (Lib.decDigits (dv 0 l)).length := List.length_pos_iff.2 hd
  rw [show 1 - (Lib.decDigits (dv 0 l)).length = 0 by omega, List.replicate_zero, List.nil_append] at this
  exact this
theorem dec_len {u : Nat} (h : u ≤ 1000000000000) : (Lib.decDigits u).length ≤ 13 := by
  rw [Lib.decDigits_length]; exact ndig_le 12 _ (by omega)
theorem dec_canon {u : Nat} (h : u ≤ 1000000000000) : Canon (Lib.decDigits u) := by
  obtain ⟨f1, f2, f3, f4, f5⟩ := dec_facts u
  have hl := dec_len h
  refine ⟨f1, f5, by omega, ?_⟩
  rintro ⟨a, b⟩
  refine f3 ?_ b
  by_cases c : u < 10
  · rw [Lib.decDigits_one c] at a; simp at a
  · omega
theorem canon_num {l : List UInt8} (h : Canon l) (hv : dv 0 l ≤ 1000000000000) : numP l = (dv 0 l : Int) := by
  unfold numP
  have := dec_len hv
  rw [canon_dec h] at this
  rw [if_pos ⟨h.2.1, by omega, h.1⟩]
theorem num_neg {l : List UInt8} (h : 0 ≤ numP l) : numP l = (dv 0 l : Int) := by
  unfold numP at h ⊢
  split at h
  · rename_i c; rw [if_pos c]
  · omega
theorem itoa_nat (u : Nat) : Lib.itoa (u : Int) = Lib.decDigits u := by
  unfold Lib.itoa; rw [if_neg (by omega), Int.toNat_natCast]
theorem sp_size : (⟨#[32]⟩ : ByteArray).size = 1 := rfl
/-- The text of a soil. -/
theorem soil_text (a b c d e : Nat) (h : OkS a b c d e) (k : Nat) (hk : 40 ≤ k) :
    ∃ t : ByteArray, spec_SoilText.f k a b c d e = some t ∧ t.data.toList = join 32 [Lib.decDigits a, Lib.decDigits b, Lib.decDigits c, Lib.decDigits d, Lib.decDigits e] := by
  obtain ⟨h1, h2, h3, h4, h5, h6⟩ := h
  have dd : ∀ u : Nat, u ≤ 1000000000000 → spec_l1Dec.f k (u : Int) = some (⟨(Lib.decDigits u).toArray⟩ : ByteArray) := fun u hu => by
    rw [d_dec (u : Int) (by omega) k (by omega), itoa_nat]
  have ds : ∀ u : Nat, u ≤ 1000000000000 → (⟨(Lib.decDigits u).toArray⟩ : ByteArray).size ≤ 13 := fun u hu => by
    rw [size_len]; exact dec_len hu
  have sa := ds a (by omega)
  have sb := ds b (by omega)
  have sc := ds c (by omega)
  have sd := ds d (by omega)
  have se := ds e (by omega)
  unfold spec_SoilText.f
  rw [spec_ok _ _ _ _ _ k (by omega), decide_eq_true (show OkS a b c d e from ⟨h1, h2, h3, h4, h5, h6⟩)]
  simp only [Option.bind_some, if_true]
  rw [dd a (by omega), dd b (by omega), dd c (by omega), dd d (by omega), dd e (by omega)]
  simp only [Option.bind_some]
  have la : (⟨(Lib.decDigits a).toArray⟩ : ByteArray).data.toList = Lib.decDigits a := rfl
  have lb : (⟨(Lib.decDigits b).toArray⟩ : ByteArray).data.toList = Lib.decDigits b := rfl
  have lc : (⟨(Lib.decDigits c).toArray⟩ : ByteArray).data.toList = Lib.decDigits c := rfl
  have ld : (⟨(Lib.decDigits d).toArray⟩ : ByteArray).data.toList = Lib.decDigits d := rfl
  have le : (⟨(Lib.decDigits e).toArray⟩ : ByteArray).data.toList = Lib.decDigits e := rfl
  generalize (⟨(Lib.decDigits a).toArray⟩ : ByteArray) = A at *
  generalize (⟨(Lib.decDigits b).toArray⟩ : ByteArray) = B at *
  generalize (⟨(Lib.decDigits c).toArray⟩ : ByteArray) = C at *
  generalize (⟨(Lib.decDigits d).toArray⟩ : ByteArray) = D at *
  generalize (⟨(Lib.decDigits e).toArray⟩ : ByteArray) = E at *
  clear dd ds
  simp only [ByteArray.size_append, sp_size]
  rw [if_pos (by omega), if_pos (by omega), if_pos (by omega), if_pos (by omega), if_pos (by omega), if_pos (by omega), if_pos (by omega), if_pos (by omega)]
  refine ⟨_, rfl, ?_⟩
  simp only [ByteArray.data_append, Array.toList_append, la, lb, lc, ld, le, join, List.append_assoc]
  rfl
/-- Five pieces: what the program takes is what the reference takes. -/
theorem five_accept {s : ByteArray} {a b c d e : List UInt8} (hj : join 32 [a, b, c, d, e] = s.data.toList) (ha : Canon a) (hb : Canon b) (hc : Canon c) (hd : Canon d) (he : Canon e)
    (ok : OkS (dv 0 a) (dv 0 b) (dv 0 c) (dv 0 d) (dv 0 e)) (k : Nat) (hk : 40 ≤ k) :
    s.size ≤ 100 ∧ numP a = dv 0 a ∧ numP b = dv 0 b ∧ numP c = dv 0 c ∧ numP d = dv 0 d ∧ numP e = dv 0 e ∧ spec_SoilText.f k (dv 0 a) (dv 0 b) (dv 0 c) (dv 0 d) (dv 0 e) = some s := by
  obtain ⟨t, t1, t2⟩ := soil_text _ _ _ _ _ ok k hk
  rw [canon_dec ha, canon_dec hb, canon_dec hc, canon_dec hd, canon_dec he, hj] at t2
  have ets : t = s := Go.WideShapes.bytes_inj t2
  obtain ⟨h1, h2, h3, h4, h5, h6⟩ := ok
  have la := dec_len (u := dv 0 a) (by omega)
  have lb := dec_len (u := dv 0 b) (by omega)
  have lc := dec_len (u := dv 0 c) (by omega)
  have ld := dec_len (u := dv 0 d) (by omega)
  have le := dec_len (u := dv 0 e) (by omega)
  rw [canon_dec ha] at la
  rw [canon_dec hb] at lb
  rw [canon_dec hc] at lc
  rw [canon_dec hd] at ld
  rw [canon_dec he] at le
  refine ⟨?_, canon_num ha (by omega), canon_num hb (by omega), canon_num hc (by omega), canon_num hd (by omega), canon_num he (by omega), by rw [t1, ets]⟩
  rw [size_len, ← hj]
  simp only [join, List.length_append, List.length_cons]
  omega
theorem free_dec (u : Nat) : free 32 (Lib.decDigits u) := by
  intro hm
  have := (isD_iff 32).1 (List.all_eq_true.1 (dec_facts u).1 32 hm)
  exact absurd this.1 (by decide)
theorem five_back {s : ByteArray} {a b c d e : List UInt8} (hj : join 32 [a, b, c, d, e] = s.data.toList) (hf : ∀ p ∈ [a, b, c, d, e], free 32 p)
    (ok : OkS (numP a) (numP b) (numP c) (numP d) (numP e)) (k : Nat) (hk : 40 ≤ k) (ht : spec_SoilText.f k (numP a) (numP b) (numP c) (numP d) (numP e) = some s) :
    Canon a ∧ Canon b ∧ Canon c ∧ Canon d ∧ Canon e ∧ OkS (dv 0 a) (dv 0 b) (dv 0 c) (dv 0 d) (dv 0 e) := by
  have ea := num_neg ok.1.1
  have eb := num_neg ok.2.1.1
  have ec := num_neg ok.2.2.1.1
  have ed := num_neg ok.2.2.2.1.1
  have ee := num_neg ok.2.2.2.2.1.1
  rw [ea, eb, ec, ed, ee] at ok ht
  obtain ⟨t, t1, t2⟩ := soil_text _ _ _ _ _ ok k hk
  rw [ht] at t1
  obtain rfl := Option.some.inj t1
  rw [← hj] at t2
  have := join_unique 32 (by simp) (by simp) hf (fun q hq => by
    simp only [List.mem_cons, List.not_mem_nil, or_false] at hq
    rcases hq with rfl | rfl | rfl | rfl | rfl <;> exact free_dec _) t2
  simp only [List.cons.injEq, and_true] at this
  obtain ⟨q1, q2, q3, q4, q5⟩ := this
  obtain ⟨h1, h2, h3, h4, h5, h6⟩ := ok
  refine ⟨?_, ?_, ?_, ?_, ?_, h1, h2, h3, h4, h5, h6⟩
  · rw [q1]; exact dec_canon (by omega)
  · rw [q2]; exact dec_canon (by omega)
  · rw [q3]; exact dec_canon (by omega)
  · rw [q4]; exact dec_canon (by omega)
  · rw [q5]; exact dec_canon (by omega)
theorem canon_small {l : List UInt8} (h : Canon l) : dv 0 l < 1000000000000000000 := by
  have h0 := Lib.lt_pow_nDigits (dv 0 l)
  rw [← Lib.decDigits_length, canon_dec h] at h0
  exact Nat.lt_of_lt_of_le h0 (Nat.le_trans (Nat.pow_le_pow_right (by decide) h.2.2.1) (by decide))
end Go.Proofs.YtigegicbfmjpbaaDoor.PSo
