/- The plain law, the numerals. Conditions: none. -/
import Derived.Test.YtigegicbfmjpbaaDoorPSox0
import Derived.Test.YtigegicbfmjpbaaDoorPSox1
import Derived.Test.YtigegicbfmjpbaaDoorPSox2
import Derived.Test.YtigegicbfmjpbaaDoorWF66
import Derived.Outline
import Derived.Lib.ItoaNum
import Derived.Lib.Repeat
set_option linter.unusedVariables false
namespace Go.Proofs.YtigegicbfmjpbaaDoor.PSo
open Go.Proofs.YtigegicbfmjpbaaDoorW Go.RowKit Go.Proofs.YtigegicbfmjpbaaDoorW.PrintWords Go.Proofs.YtigegicbfmjpbaaDoorW.PrintLast Go.Proofs.YtigegicbfmjpbaaDoorW.PrintMore
open F64
theorem wrap_id {i : Int} (h0 : -9000000000000000000 ≤ i) (h1 : i ≤ 9000000000000000000) : wrap64 i = i := by
  unfold wrap64; omega
def digs (u : Nat) : List UInt8 := if u = 0 then [] else Lib.decDigits u
theorem digs_step (u : Nat) (h : 0 < u) : digs u = digs (u / 10) ++ [UInt8.ofNat (48 + u % 10)] := by
  unfold digs
  rw [if_neg (by omega), Lib.decDigits]
  by_cases c : u < 10
  · rw [dif_pos c, if_pos (by omega), show u % 10 = u by omega]; rfl
  · rw [dif_neg c, if_neg (by omega)]
theorem wrap_u64 {i : Int} (h0 : 0 ≤ i) (h1 : i < 18446744073709551616) : IntKind.u64.wrap i = i := by
  unfold IntKind.wrap; simp [IntKind.bits, IntKind.signed]; omega
def signOf (x0 : Int) : ByteArray := if x0 < 0 then ⟨#[45]⟩ else ⟨#[]⟩
theorem d_loop (x0 : Int) : ∀ (n u : Nat) (l : List UInt8) (k : Nat), u < 10 ^ n → u < 9223372036854775808 → l.length + n ≤ 100 → n + 1 ≤ k →
    spec_l1Dec.l0 k x0 ⟨l.toArray⟩ (u : Int) = some (⟨((if x0 < 0 then [45] else []) ++ (digs u ++ l)).toArray⟩ : ByteArray) := by
  intro n
  induction n with
  | zero =>
    intro u l k h1 h2 h3 hk
    obtain ⟨k, rfl⟩ : ∃ m, k = m + 1 := ⟨k - 1, by omega⟩
    obtain rfl : u = 0 := by simpa using h1
    have hsz : (⟨l.toArray⟩ : ByteArray).size = l.length := by simp [ByteArray.size]
    rw [spec_l1Dec.l0, if_neg (by omega), hsz]
    by_cases c : x0 < 0
    · rw [if_pos c, if_pos (by omega), if_pos c]; simp [digs, ByteArray.mk_append_mk]
    · rw [if_neg c, if_neg c]; simp [digs]
  | succ n ih =>
    intro u l k h1 h2 h3 hk
    obtain ⟨k, rfl⟩ : ∃ m, k = m + 1 := ⟨k - 1, by omega⟩
    by_cases hu : u = 0
    · subst hu
      have hsz : (⟨l.toArray⟩ : ByteArray).size = l.length := by simp [ByteArray.size]
      rw [spec_l1Dec.l0, if_neg (by omega), hsz]
      by_cases c : x0 < 0
      · rw [if_pos c, if_pos (by omega), if_pos c]; simp [digs, ByteArray.mk_append_mk]
      · rw [if_neg c, if_neg c]; simp [digs]
    · rw [spec_l1Dec.l0, if_pos (by omega)]
      simp only [Option.bind_some]
      have hsz : (⟨l.toArray⟩ : ByteArray).size = l.length := by simp [ByteArray.size]
      rw [if_pos (by rw [strOfNums_size, hsz]; simp only [List.length_cons, List.length_nil]; omega)]
      have e1 : Int.tmod (u : Int) 10 = ((u % 10 : Nat) : Int) := by rw [Int.tmod_eq_emod_of_nonneg (by omega)]; rfl
      have e2 : Int.tdiv (u : Int) 10 = ((u / 10 : Nat) : Int) := by rw [Int.tdiv_eq_ediv_of_nonneg (by omega)]; rfl
      rw [e1, e2, wrap_u64 (by omega) (by omega), wrap_u64 (by omega) (by omega)]
      have e3 : strOfNums [(48 + ((u % 10 : Nat) : Int)) % 256] ++ (⟨l.toArray⟩ : ByteArray) = ⟨(UInt8.ofNat (48 + u % 10) :: l).toArray⟩ := by
        have : (48 + ((u % 10 : Nat) : Int)) % 256 = ((48 + u % 10 : Nat) : Int) := by omega
        rw [this]
        unfold strOfNums
        rw [ByteArray.mk_append_mk, List.map_cons, List.map_nil, Int.toNat_natCast]; rfl
      rw [e3, ih (u / 10) _ k (by rw [Nat.pow_succ] at h1; omega) (by omega) (by simp only [List.length_cons]; omega) (by omega), digs_step u (by omega)]
      simp
/-- A number in decimal. -/
theorem d_dec (n : Int) (h : n.natAbs ≤ 1000000000000000) (k : Nat) (hk : 30 ≤ k) : spec_l1Dec.f k n = some (⟨(Lib.itoa n).toArray⟩ : ByteArray) := by
  unfold spec_l1Dec.f Lib.itoa
  by_cases h0 : n = 0
  · subst h0; rw [if_pos rfl, if_neg (by decide)]
    rw [show Lib.decDigits (Int.toNat 0) = [48] by rw [Lib.decDigits]; rfl]
  · rw [if_neg h0]
    obtain ⟨k, rfl⟩ : ∃ m, k = m + 1 := ⟨k - 1, by omega⟩
    by_cases hn : n < 0
    · have e : IntKind.u64.wrap (-(IntKind.u64.wrap n)) = ((n.natAbs : Nat) : Int) := by
        unfold IntKind.wrap; simp [IntKind.bits, IntKind.signed]; omega
      rw [if_pos hn, if_pos hn, e, spec_l1Dec.j0]
      have := d_loop n 20 n.natAbs [] k (by omega) (by omega) (by simp) (by omega)
      rw [if_pos hn] at this
      rw [show ((⟨#[]⟩ : ByteArray)) = ⟨([] : List UInt8).toArray⟩ from rfl, this]
      unfold digs
      rw [if_neg (by omega)]; simp
    · have e : IntKind.u64.wrap n = ((n.toNat : Nat) : Int) := by rw [wrap_u64 (by omega) (by omega)]; omega
      rw [if_neg hn, if_neg hn, e, spec_l1Dec.j0]
      have := d_loop n 20 n.toNat [] k (by omega) (by omega) (by simp) (by omega)
      rw [if_neg hn] at this
      rw [show ((⟨#[]⟩ : ByteArray)) = ⟨([] : List UInt8).toArray⟩ from rfl, this]
      unfold digs
      rw [if_neg (by omega)]; simp
theorem ndig_le : ∀ (n u : Nat), u < 10 ^ (n + 1) → Lib.nDigits u ≤ n + 1 := by
  intro n
  induction n with
  | zero => intro u h; rw [Lib.nDigits, dif_pos (by omega)]; omega
  | succ n ih =>
    intro u h
    rw [Lib.nDigits]
    by_cases c : u < 10
    · rw [dif_pos c]; omega
    · rw [dif_neg c]
      have := ih (u / 10) (by rw [Nat.pow_succ] at h; omega)
      omega
def decS (n : Int) : ByteArray := ⟨(Lib.itoa n).toArray⟩
def padZ (c : Nat) : ByteArray := ⟨(Lib.repeatL (⟨#[48]⟩ : ByteArray).data.toList c).toArray⟩
theorem padZ_eq (c : Nat) : Lib.repeatL (⟨#[48]⟩ : ByteArray).data.toList c = List.replicate c 48 := by
  induction c with
  | zero => rfl
  | succ c ih => rw [List.replicate_succ, ← ih]; rfl
theorem padZ_size (c : Nat) : (padZ c).size = c := by
  show (Lib.repeatL (⟨#[48]⟩ : ByteArray).data.toList c).toArray.size = c
  rw [padZ_eq]; simp
def fillS (n d : Int) : ByteArray := padZ (d - (decS n).size).toNat ++ decS n
theorem fillS_size (n d : Int) (hd : 0 ≤ d) : d ≤ (fillS n d).size ∧ ((fillS n d).size : Int) ≤ d + (decS n).size := by
  have : (fillS n d).size = (d - (decS n).size).toNat + (decS n).size := by unfold fillS; rw [ByteArray.size_append, padZ_size]
  rw [this]; omega
def tellI (n p : Int) : ByteArray :=
  let sign : ByteArray := if n < 0 then ⟨#[45]⟩ else ⟨#[]⟩
  let m : Int := if n < 0 then -n else n
  if p = 0 then sign ++ decS m else
    let s := fillS m (p + 1)
    sign ++ s.extract 0 (s.size - p.toNat) ++ ⟨#[46]⟩ ++ s.extract (s.size - p.toNat) s.size
theorem decS_size {m : Int} (h0 : 0 ≤ m) (h : m ≤ 1000000000000000) : (decS m).size ≤ 16 := by
  have e : (decS m).size = (Lib.decDigits m.toNat).length := by
    unfold decS Lib.itoa
    rw [if_neg (by omega)]; simp [ByteArray.size]
  rw [e, Lib.decDigits_length]
  exact ndig_le 15 _ (by omega)
theorem fillS_list (m d : Int) (h0 : 0 ≤ m) : fillS m d = ⟨(List.replicate (d - (Lib.decDigits m.toNat).length).toNat 48 ++ Lib.decDigits m.toNat).toArray⟩ := by
  have e : decS m = ⟨(Lib.decDigits m.toNat).toArray⟩ := by unfold decS Lib.itoa; rw [if_neg (by omega)]
  have es : (decS m).size = (Lib.decDigits m.toNat).length := by rw [e]; simp [ByteArray.size]
  unfold fillS padZ
  rw [es, padZ_eq, e, ByteArray.mk_append_mk]
end Go.Proofs.YtigegicbfmjpbaaDoor.PSo
