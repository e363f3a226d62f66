/- FnExactTold: the plain law, the point; the two say the same. Conditions: none. -/
import Derived.Test.YtigegicbfmjpbaaDoorQTold2
import Derived.Test.YtigegicbfmjpbaaDoorToldW
set_option linter.unusedVariables false
namespace Go.Proofs.YtigegicbfmjpbaaDoor.PTo
open Go.Proofs.YtigegicbfmjpbaaDoorW Go.RowKit Go.Proofs.YtigegicbfmjpbaaDoorW.PrintWords Go.Proofs.YtigegicbfmjpbaaDoorW.PrintLast Go.Proofs.YtigegicbfmjpbaaDoorW.PrintMore
open F64
theorem decS_size {m : Int} (h0 : 0 ≤ m) (h : m ≤ 1000000000000000) : (decS m).size ≤ 16 := by
  have e : (decS m).size = (Lib.decDigits m.toNat).length := by
    unfold decS Lib.itoa
    rw [if_neg (by omega)]; simp [ByteArray.size]
  rw [e, Lib.decDigits_length]
  exact ndig_le 15 _ (by omega)
def fin_ (sg S : ByteArray) (p : Int) : ByteArray := sg ++ S.extract 0 (S.size - p.toNat) ++ ⟨#[46]⟩ ++ S.extract (S.size - p.toNat) S.size
theorem p_loop {p : Int} (hp : 0 < p) (hp6 : p ≤ 6) (sg : ByteArray) (hsg : sg.size ≤ 1) : ∀ (c : Nat) (l : List UInt8) (k : Nat), l.length ≤ 40 → (c = 0 ∧ p < l.length ∨ 0 < c ∧ (l.length : Int) + c = p + 1) → c + 1 ≤ k →
    spec_l1Point.l0 k p ⟨l.toArray⟩ sg = some (fin_ sg ⟨(List.replicate c 48 ++ l).toArray⟩ p) := by
  intro c
  induction c with
  | zero =>
    intro l k hl hc hk
    obtain ⟨k, rfl⟩ : ∃ m, k = m + 1 := ⟨k - 1, by omega⟩
    have hsz : (⟨l.toArray⟩ : ByteArray).size = l.length := by simp [ByteArray.size]
    have hpl : p < l.length := by omega
    have hdot : (⟨#[46]⟩ : ByteArray).size = 1 := rfl
    rw [spec_l1Point.l0, hsz, if_neg (by omega), wrap_id (by omega) (by omega), if_pos (by omega), if_pos (by omega)]
    have e : ((l.length : Int) - p).toNat = l.length - p.toNat := by omega
    rw [e]
    have z1 : ((⟨l.toArray⟩ : ByteArray).extract 0 (l.length - p.toNat)).size = l.length - p.toNat := by rw [ByteArray.size_extract, hsz]; omega
    have z2 : ((⟨l.toArray⟩ : ByteArray).extract (l.length - p.toNat) l.length).size = p.toNat := by rw [ByteArray.size_extract, hsz]; omega
    rw [if_pos (by rw [z1]; omega), if_pos (by rw [ByteArray.size_append, z1]; omega), if_pos (by rw [ByteArray.size_append, ByteArray.size_append, z1, z2, hdot]; omega)]
    unfold fin_
    rw [List.replicate_zero, List.nil_append, hsz]
  | succ c ih =>
    intro l k hl hc hk
    obtain ⟨k, rfl⟩ : ∃ m, k = m + 1 := ⟨k - 1, by omega⟩
    have hsz : (⟨l.toArray⟩ : ByteArray).size = l.length := by simp [ByteArray.size]
    rw [spec_l1Point.l0, hsz, if_pos (by omega), if_pos (by omega)]
    have e : (⟨#[48]⟩ : ByteArray) ++ ⟨l.toArray⟩ = ⟨(48 :: l).toArray⟩ := by rw [ByteArray.mk_append_mk]; first | rfl | simp
    rw [e, ih (48 :: l) k (by simp only [List.length_cons]; omega) (by simp only [List.length_cons]; omega) (by omega)]
    rw [show List.replicate (c + 1) (48 : UInt8) ++ l = List.replicate c 48 ++ 48 :: l by rw [List.replicate_succ', List.append_assoc]; rfl]
theorem fillS_list (m d : Int) (h0 : 0 ≤ m) : fillS m d = ⟨(List.replicate (d - (Lib.decDigits m.toNat).length).toNat 48 ++ Lib.decDigits m.toNat).toArray⟩ := by
  have e : decS m = ⟨(Lib.decDigits m.toNat).toArray⟩ := by unfold decS Lib.itoa; rw [if_neg (by omega)]
  have es : (decS m).size = (Lib.decDigits m.toNat).length := by rw [e]; simp [ByteArray.size]
  unfold fillS padZ
  rw [es, padZ_eq, e, ByteArray.mk_append_mk]
/-- A number with its point. -/
theorem p_point (n p : Int) (hp0 : 0 ≤ p) (hp6 : p ≤ 6) (hn : n.natAbs ≤ 1000000000000000) (k : Nat) (hk : 60 ≤ k) : spec_l1Point.f k n p = some (tellI n p) := by
  unfold spec_l1Point.f tellI
  rw [d_dec n hn k (by omega)]
  simp only [Option.bind_some]
  have nl : ∀ m : Int, 0 ≤ m → m ≤ 1000000000000000 → (Lib.decDigits m.toNat).length ≤ 16 := fun m a b => by
    rw [Lib.decDigits_length]; exact ndig_le 15 _ (by omega)
  by_cases c : n < 0
  · have ei : Lib.itoa n = 45 :: Lib.decDigits (-n).toNat := by unfold Lib.itoa; rw [if_pos c, show n.natAbs = (-n).toNat by omega]
    have ed : decS (-n) = ⟨(Lib.decDigits (-n).toNat).toArray⟩ := by unfold decS Lib.itoa; rw [if_neg (by omega)]
    have hl := nl (-n) (by omega) (by omega)
    simp only [if_pos c]
    by_cases hp : p = 0
    · rw [if_pos hp, if_pos hp, ei, ed, ByteArray.mk_append_mk]; simp
    · rw [if_neg hp, if_neg hp, ei]
      have hsz : (⟨(45 :: Lib.decDigits (-n).toNat).toArray⟩ : ByteArray).size = (Lib.decDigits (-n).toNat).length + 1 := by simp [ByteArray.size]
      rw [hsz, if_pos (by omega)]
      have ex : (⟨(45 :: Lib.decDigits (-n).toNat).toArray⟩ : ByteArray).extract 1 ((Lib.decDigits (-n).toNat).length + 1) = ⟨(Lib.decDigits (-n).toNat).toArray⟩ := by
        apply ByteArray.ext
        simp [ByteArray.data_extract]
      rw [ex]
      obtain ⟨k, rfl⟩ : ∃ m, k = m + 1 := ⟨k - 1, by omega⟩
      rw [spec_l1Point.j0, p_loop (by omega) hp6 _ (by decide) (p + 1 - (Lib.decDigits (-n).toNat).length).toNat _ k (by omega) (by omega) (by omega), ← fillS_list (-n) (p + 1) (by omega)]
      rfl
  · have ei : Lib.itoa n = Lib.decDigits n.toNat := by unfold Lib.itoa; rw [if_neg c]
    have ed : decS n = ⟨(Lib.decDigits n.toNat).toArray⟩ := by unfold decS; rw [ei]
    have hl := nl n (by omega) (by omega)
    simp only [if_neg c]
    by_cases hp : p = 0
    · rw [if_pos hp, if_pos hp, ei, ed, show (⟨#[]⟩ : ByteArray) = ⟨([] : List UInt8).toArray⟩ from rfl, ByteArray.mk_append_mk]; simp
    · rw [if_neg hp, if_neg hp, ei]
      obtain ⟨k, rfl⟩ : ∃ m, k = m + 1 := ⟨k - 1, by omega⟩
      rw [spec_l1Point.j0, p_loop (by omega) hp6 _ (by decide) (p + 1 - (Lib.decDigits n.toNat).length).toNat _ k (by omega) (by omega) (by omega), ← fillS_list n (p + 1) (by omega)]
      rfl
theorem t_ten (p : Int) (h0 : 0 ≤ p) (h6 : p ≤ 6) (k : Nat) (hk : 10 ≤ k) : ∃ t, spec_l1Ten.f k p = some t ∧ impl_ten.f k p = some (fofi t) ∧ F64.Fin (fofi t) := by
  have h : ∀ n : Nat, n ≤ 6 → spec_l1Ten.f 10 n = some (10 ^ n) ∧ impl_ten.f 10 n = some (fofi (10 ^ n)) ∧ F64.Fin (fofi (10 ^ n)) := by decide +kernel
  obtain ⟨n, rfl⟩ := Int.eq_ofNat_of_zero_le h0
  obtain ⟨a, b, c⟩ := h n (by omega)
  exact ⟨10 ^ n, at_rounds (fun k => spec_l1Ten.mono _ k) hk a, at_rounds (fun k => impl_ten.mono _ k) hk b, c⟩
/-- What both say. -/
theorem t_told (x : Nat) (p : Int) : ∃ r, spec_Told.f 100 x p = some r ∧ ∀ (w0 w1 : World), Tab10 w0 → Below w0.heap.size w0 w1 →
    Calls Tryd.prog 9 #[.float .f64 x, .int .i64 p] w1 fun e w' => e = .returned (.string r) ∧ Below w0.heap.size w0 w' := by
  unfold spec_Told.f
  by_cases hp : 0 ≤ p ∧ p ≤ 6
  case neg =>
    refine ⟨⟨#[]⟩, ?_, fun w0 w1 ht hb => impl_Told_out x p hp w0 w1 hb⟩
    by_cases h : p < 0
    · rw [if_pos h, spec_Told.j0, if_pos rfl]
    · rw [if_neg h, decide_eq_true (by omega), spec_Told.j0, if_pos rfl]
  rw [if_neg (by omega), decide_eq_false (by omega), spec_Told.j0, if_neg (by decide)]
  by_cases h1 : fne x x = true
  · rw [if_pos h1]
    exact ⟨_, rfl, fun w0 w1 ht hb => impl_Told_nan x p hp h1 w0 w1 hb⟩
  rw [if_neg h1]
  replace h1 := Bool.eq_false_iff.mpr h1
  have nx : ¬ IsNaN x := fun h => by rw [fne_nan (.inl h)] at h1; cases h1
  have nm : ¬ IsNaN 9218868437227405311 := by decide
  have km : key 9218868437227405311 = 9218868437227405311 := by decide
  have nz : ¬ IsNaN 0 := by decide
  have kz : key 0 = 0 := by decide
  unfold spec_Known.f
  simp only [Option.bind_some]
  by_cases hf : F64.Fin x
  · have e : ffin x = true := decide_eq_true hf
    have h2 : fgt x 9218868437227405311 = false := by
      rw [fgt_key nx nm, km, decide_eq_false_iff_not]
      unfold F64.Fin F64.INF at hf; unfold key; split <;> omega
    have h3 : fgt (fneg x) 9218868437227405311 = false := by
      rw [fgt_key (notNaN_fneg nx) nm, km, key_fneg, decide_eq_false_iff_not]
      unfold F64.Fin F64.INF at hf; unfold key; split <;> omega
    rw [e, if_pos rfl, spec_Told.j1, if_neg (by decide)]
    simp only [Option.bind_some, spec_Known.f, e, if_true]
    obtain ⟨t, t1, t2, t3⟩ := t_ten p hp.1 hp.2 98 (by omega)
    obtain ⟨m1, _⟩ := mul_ok hf t3
    obtain ⟨⟨n, ok⟩, s1, s2, s3⟩ := n_nearest (fop .mul x (fofi t))
    have hI : toldI 98 x p = some (if ok = true then some n else none) := by
      unfold toldI
      rw [t2]
      simp only [Option.bind_some]
      rw [if_pos m1, s2]
      simp only [Option.bind_some]
      cases ok <;> rfl
    rw [t1]
    simp only [Option.bind_some]
    rw [if_pos m1, s1]
    simp only [Option.bind_some]
    cases ok with
    | false => exact ⟨_, rfl, fun w0 w1 ht hb => impl_Told_far 98 x p hp h1 h2 h3 hI w0 w1 ht hb⟩
    | true =>
      have hn := s3 rfl
      simp only at hn
      rw [if_pos rfl, p_point n p hp.1 hp.2 hn 98 (by omega)]
      refine ⟨tellI n p, rfl, fun w0 w1 ht hb => ?_⟩
      by_cases hn0 : n < 0
      · have hs := decS_size (m := -n) (by omega) (by omega)
        by_cases hp0 : p = 0
        · exact impl_Told_neg0 98 x p n hp0 hp.2 h1 h2 h3 hI hn0 (by omega) (by omega) w0 w1 ht hb
        · exact impl_Told_negp 98 x p n (by omega) hp.2 h1 h2 h3 hI hn0 (by omega) (by omega) w0 w1 ht hb
      · have hs := decS_size (m := n) (by omega) (by omega)
        by_cases hp0 : p = 0
        · exact impl_Told_pos0 98 x p n hp0 hp.2 h1 h2 h3 hI (by omega) (by omega) (by omega) w0 w1 ht hb
        · exact impl_Told_posp 98 x p n (by omega) hp.2 h1 h2 h3 hI (by omega) (by omega) (by omega) w0 w1 ht hb
  · have e : ffin x = false := decide_eq_false hf
    have hinf : rung x = F64.INF := by
      rcases cases3 x with h | h | h
      · exact absurd h hf
      · exact h
      · exact absurd h nx
    rw [e, if_neg (by decide), spec_Told.j1]
    by_cases hs : sgn x = true
    · have hg : fgt x 0 = false := by rw [fgt_key nx nz, kz, decide_eq_false_iff_not]; unfold key; rw [if_pos hs]; omega
      have h2 : fgt x 9218868437227405311 = false := by rw [fgt_key nx nm, km, decide_eq_false_iff_not]; unfold key; rw [if_pos hs]; omega
      have h3 : fgt (fneg x) 9218868437227405311 = true := by
        rw [fgt_key (notNaN_fneg nx) nm, km, key_fneg]; unfold key; rw [if_pos hs, hinf]; decide
      rw [hg, if_neg (by decide)]
      simp only [Option.bind_some, spec_Known.f, e, Bool.false_eq_true, if_false]
      exact ⟨_, rfl, fun w0 w1 ht hb => impl_Told_low x p hp h1 h2 h3 w0 w1 hb⟩
    · have hg : fgt x 0 = true := by rw [fgt_key nx nz, kz]; unfold key; rw [if_neg hs, hinf]; decide
      have h2 : fgt x 9218868437227405311 = true := by rw [fgt_key nx nm, km]; unfold key; rw [if_neg hs, hinf]; decide
      rw [hg, if_pos rfl]
      exact ⟨_, rfl, fun w0 w1 ht hb => impl_Told_high x p hp h1 h2 w0 w1 hb⟩
/-- THE LAW. -/
theorem told_law (x : Nat) (p : Int) (w : World) (ht : Tab10 w) : Calls Tryd.prog 3 #[.float .f64 x, .int .i64 p] w fun e w' => e = .returned (.bool true) ∧ Below w.heap.size w w' := by
  obtain ⟨r, hs, hi⟩ := t_told x p
  exact told_walk 100 x p r w ht hs (fun w1 hb => hi w w1 ht hb)
end Go.Proofs.YtigegicbfmjpbaaDoor.PTo
