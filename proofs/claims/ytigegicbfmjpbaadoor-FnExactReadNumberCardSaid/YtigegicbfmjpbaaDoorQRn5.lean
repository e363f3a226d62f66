/- FnExactReadNumber: the law, joined. Conditions: none. -/
import Derived.Test.YtigegicbfmjpbaaDoorQRn3
import Derived.Test.YtigegicbfmjpbaaDoorRnW
import Derived.Lib.IndexLaws
import Derived.Lib.AtoiErrMem
set_option linter.unusedVariables false
namespace Go.Proofs.YtigegicbfmjpbaaDoor.PRn
open Go.Proofs.YtigegicbfmjpbaaDoorW Go.RowKit Go.Proofs.YtigegicbfmjpbaaDoorW.PrintWords Go.Proofs.YtigegicbfmjpbaaDoorW.PrintLast Go.Proofs.YtigegicbfmjpbaaDoorW.PrintMore
open F64 Num
/-- ErrRange holds an error, here and in every world that the call makes of this one. -/
def Err0 (w0 : World) : Prop := ∃ tp p, ∀ w1, Below w0.heap.size w0 w1 → w1.var? Tryd.prog "strconv.ErrRange" = some #[.iface tp p]
theorem digB_eq (x : ByteArray) : digB x = (allD x.data.toList && decide (0 < x.size)) := rfl
theorem digB_true {x : ByteArray} : digB x = true ↔ allD x.data.toList = true ∧ x.data.toList ≠ [] := by
  rw [digB_eq, Bool.and_eq_true, decide_eq_true_iff, sz]
  refine and_congr_right fun _ => ⟨fun h e => ?_, fun h => ?_⟩
  · rw [e] at h; exact absurd h (by decide)
  · exact List.length_pos_iff.2 h
def R0 (w0 : World) (s : ByteArray) (y : Nat) (b : Bool) : Prop := ∀ w1, Below w0.heap.size w0 w1 → Calls Tryd.prog 11 #[.string s] w1 fun e w' => e = .returned (.tuple #[.float .f64 y, .bool b]) ∧ Below w0.heap.size w0 w'
theorem byte0 {W : ByteArray} (h : 0 < W.size) (c : UInt8) : (∃ b : Bool, (∀ h : 0 < W.size, (((W[0]'h).toNat : Int) == 48) = b) ∧ (b = true ↔ W.data.toList.head? = some 48)) := by
  refine ⟨(((W[0]'h).toNat : Int) == 48), fun _ => rfl, ?_⟩
  have hl : 0 < W.data.toList.length := by rw [← sz]; exact h
  match hd : W.data.toList, hl with
  | x :: r, _ =>
    have e : W[0]'h = x := by
      have h1 : W.data.toList[0]'(by rw [hd]; simp) = x := by simp [hd]
      rw [← h1]; rfl
    rw [e, beq_iff_eq, List.head?_cons, Option.some.injEq]
    constructor
    · intro k; exact UInt8.toNat_inj.1 (by have : (48 : UInt8).toNat = 48 := rfl; omega)
    · intro k; rw [k]; rfl
/-- What the program answers, by the parts of the text. -/
theorem impl_parts (s t W P : ByteArray) (neg has : Bool) (hs : s.size ≤ 1048576) (hWs : W.size ≤ 1048576) (hPs : P.size ≤ 1048576)
    (c1 : (s.toList == [47]) = false) (c2 : (s.toList == [104, 105, 103, 104]) = false) (c3 : (s.toList == [108, 111, 119]) = false)
    (htrim : ∀ w, Calls Tryd.prog 39 #[.string s, .string ⟨#[45]⟩] w fun e w' => e = .returned (.string t) ∧ w' = w)
    (hcut : ∀ w, Calls Tryd.prog 40 #[.string t, .string ⟨#[46]⟩] w fun e w' => e = .returned (.tuple #[.string W, .string P, .bool has]) ∧ ∃ m, w' = w.drewN m)
    (hne : (t.toList == s.toList) = !neg) (hP0 : has = false → P.data.toList = []) (w0 : World) (he : Err0 w0) :
    (¬ Acc neg W.data.toList P.data.toList has → R0 w0 s 0 false) ∧
    (Acc neg W.data.toList P.data.toList has → ∀ T, impl_ten.f 98 (P.size : Int) = some T →
      fok .quo (fofi (if neg = true then -(dv 0 (W.data.toList ++ P.data.toList) : Int) else dv 0 (W.data.toList ++ P.data.toList))) T = true →
      R0 w0 s (fop .quo (fofi (if neg = true then -(dv 0 (W.data.toList ++ P.data.toList) : Int) else dv 0 (W.data.toList ++ P.data.toList))) T) true) := by
  by_cases dW : digB W = true
  case neg =>
    have dW0 := Bool.eq_false_iff.2 dW
    refine ⟨fun _ w1 hb => ?_, fun ha => absurd (digB_true.2 ⟨ha.1, ha.2.1⟩) dW⟩
    cases has with
    | true => exact rn_at s t W P hs hWs hPs c1 c2 c3 htrim hcut dW0 w0 w1 hb
    | false => exact rn_af s t W P hs hWs hPs c1 c2 c3 htrim hcut dW0 w0 w1 hb
  have dW' := digB_true.1 dW
  have hWpos : 0 < W.size := by rw [sz]; exact List.length_pos_iff.2 dW'.2
  obtain ⟨b48, hb48, hb48'⟩ := byte0 hWpos 48
  -- the part behind the point
  by_cases hp : has = true ∧ (digB P = false ∨ 6 < P.size)
  · obtain ⟨rfl, hp⟩ := hp
    refine ⟨fun _ w1 hb => ?_, fun ha => ?_⟩
    · cases hdP : digB P with
      | false => exact rn_b s t W P hs hWs hPs c1 c2 c3 htrim hcut dW hdP w0 w1 hb
      | true =>
        rcases hp with hp | hp
        · rw [hdP] at hp; cases hp
        · exact rn_c s t W P hs hWs hPs c1 c2 c3 htrim hcut dW hdP (decide_eq_true (by omega)) w0 w1 hb
    · exfalso
      obtain ⟨a, b, c⟩ := ha.2.2.1 rfl
      rcases hp with hp | hp
      · rw [digB_true.2 ⟨a, b⟩] at hp; cases hp
      · rw [sz] at hp; omega
  have hp' : has = true → digB P = true ∧ decide ((6 : Int) < (P.size : Int)) = false := by
    intro h
    cases hdP : digB P with
    | false => exact absurd ⟨h, .inl hdP⟩ hp
    | true => exact ⟨rfl, decide_eq_false (fun h6 => hp ⟨h, .inr (by omega)⟩)⟩
  have hPd : allD P.data.toList = true := by
    cases hh : has with
    | true => exact (digB_true.1 (hp' hh).1).1
    | false => rw [hP0 hh]; rfl
  have hPn : has = true → P.data.toList ≠ [] ∧ P.data.toList.length ≤ 6 := fun h => ⟨(digB_true.1 (hp' h).1).2, by have := of_decide_eq_false (hp' h).2; rw [← sz]; omega⟩
  clear hp
  by_cases hd : 1 < W.size ∧ b48 = true
  · obtain ⟨hd1, rfl⟩ := hd
    refine ⟨fun _ w1 hb => ?_, fun ha => absurd ⟨by rw [← sz]; exact hd1, hb48'.1 rfl⟩ ha.2.2.2.1⟩
    cases has with
    | true => exact rn_dt s t W P hs hWs hPs c1 c2 c3 htrim hcut dW (hp' rfl).1 (hp' rfl).2 (decide_eq_true (by omega)) hWpos hb48 w0 w1 hb
    | false => exact rn_df s t W P hs hWs hPs c1 c2 c3 htrim hcut dW (decide_eq_true (by omega)) hWpos hb48 w0 w1 hb
  by_cases h17 : 17 < W.size
  · have hb0 : b48 = false := by cases b48; rfl; exact absurd ⟨by omega, rfl⟩ hd
    subst hb0
    refine ⟨fun _ w1 hb => ?_, fun ha => absurd ha.2.2.2.2.1 (by rw [← sz]; omega)⟩
    cases has with
    | true => exact rn_et2 s t W P hs hWs hPs c1 c2 c3 htrim hcut dW (hp' rfl).1 (hp' rfl).2 (decide_eq_true (by omega)) hWpos hb48 (decide_eq_true (by omega)) w0 w1 hb
    | false => exact rn_ef2 s t W P hs hWs hPs c1 c2 c3 htrim hcut dW (decide_eq_true (by omega)) hWpos hb48 (decide_eq_true (by omega)) w0 w1 hb
  have e17 : decide ((17 : Int) < (W.size : Int)) = false := decide_eq_false (by omega)
  -- the number
  generalize hv : dv 0 (W.data.toList ++ P.data.toList) = v
  have hcat : (W ++ P).data.toList = W.data.toList ++ P.data.toList := by rw [ByteArray.data_append, Array.toList_append]
  have hcd : allD (W.data.toList ++ P.data.toList) = true := allD_append.2 ⟨dW'.1, hPd⟩
  have hcn : W.data.toList ++ P.data.toList ≠ [] := fun h => dW'.2 (List.append_eq_nil_iff.1 h).1
  obtain ⟨pok, prange⟩ := parse_digits hcn hcd
  rw [hv] at pok prange
  have hacc : Acc neg W.data.toList P.data.toList has ↔ v ≤ 1000000000000000 ∧ ¬ (v = 0 ∧ neg = true) := by
    rw [Acc, hv]
    constructor
    · exact fun h => ⟨h.2.2.2.2.2.1, h.2.2.2.2.2.2⟩
    · rintro ⟨x, y⟩
      refine ⟨dW'.1, dW'.2, fun h => ⟨hPd, hPn h⟩, ?_, by rw [← sz]; omega, x, y⟩
      rintro ⟨x, y⟩
      rw [← sz] at x
      exact hd ⟨x, hb48'.2 y⟩
  rw [hacc]
  have hcs : (W ++ P).size ≤ 2097152 := by rw [ByteArray.size_append]; omega
  by_cases hbig : v < 9223372036854775808
  case neg =>
    obtain ⟨tp, p, he⟩ := he
    have hpe := prange hbig
    refine ⟨fun _ w1 hb => ?_, fun ha => absurd ha.1 (by omega)⟩
    have hparse : ∀ w1, Below w0.heap.size w0 w1 → Calls Tryd.prog 42 #[.string (W ++ P), .int .i64 10, .int .i64 64] w1 fun e w' => ∃ N, e = .returned (.tuple #[.int .i64 (Lib.intSat 64 (W ++ P).data.toList), .iface 122 (.pointer (some ⟨N, 0, none⟩))]) ∧ Below w0.heap.size w0 w' := by
      intro w1 hb
      refine (Tryd.strconv_ParseInt_10_at64_range_var (W ++ P) (by omega) (by rw [hcat]; exact hpe) tp p w1 (he w1 hb)).mono ?_
      rintro e w' ⟨N, h1, _, _, h2⟩
      exact ⟨N, h1, below_step hb h2⟩
    by_cases h1 : 1 < W.size
    · have hb0 : b48 = false := by cases b48; rfl; exact absurd ⟨h1, rfl⟩ hd
      subst hb0
      cases has with
      | true => exact rn_ft2 w0 w1 hb s t W P hs hWs hPs c1 c2 c3 htrim hcut dW (hp' rfl).1 (hp' rfl).2 (decide_eq_true (by omega)) hWpos hb48 e17 _ hparse
      | false => exact rn_ff2 w0 w1 hb s t W P hs hWs hPs c1 c2 c3 htrim hcut dW (decide_eq_true (by omega)) hWpos hb48 e17 _ hparse
    · cases has with
      | true => exact rn_ft1 w0 w1 hb s t W P hs hWs hPs c1 c2 c3 htrim hcut dW (hp' rfl).1 (hp' rfl).2 (decide_eq_false (by omega)) e17 _ hparse
      | false => exact rn_ff1 w0 w1 hb s t W P hs hWs hPs c1 c2 c3 htrim hcut dW (decide_eq_false (by omega)) e17 _ hparse
  have hpo := pok hbig
  have hparse : ∀ w1, Below w0.heap.size w0 w1 → Calls Tryd.prog 42 #[.string (W ++ P), .int .i64 10, .int .i64 64] w1 fun e w' => ∃ N : Nat, e = .returned (.tuple #[.int .i64 (v : Int), .nilIface]) ∧ Below w0.heap.size w0 w' := by
    intro w1 hb
    refine (Tryd.strconv_ParseInt_10_at64_ok (W ++ P) (by omega) v (by rw [hcat]; exact hpo) w1).mono ?_
    rintro e w' ⟨h1, h2⟩
    refine ⟨0, h1, ?_⟩
    rcases h2 with rfl | ⟨t, rfl⟩
    · exact hb
    · exact below_step hb (Lib.bytesWorld_below _ _ _)
  by_cases hmax : v ≤ 1000000000000000
  case neg =>
    refine ⟨fun _ w1 hb => ?_, fun ha => absurd ha.1 hmax⟩
    by_cases h1 : 1 < W.size
    · have hb0 : b48 = false := by cases b48; rfl; exact absurd ⟨h1, rfl⟩ hd
      subst hb0
      cases has with
      | true => exact rn_gt2 w0 w1 hb s t W P hs hWs hPs c1 c2 c3 htrim hcut dW (hp' rfl).1 (hp' rfl).2 (decide_eq_true (by omega)) hWpos hb48 e17 _ hparse (decide_eq_true (by omega))
      | false => exact rn_gf2 w0 w1 hb s t W P hs hWs hPs c1 c2 c3 htrim hcut dW (decide_eq_true (by omega)) hWpos hb48 e17 _ hparse (decide_eq_true (by omega))
    · cases has with
      | true => exact rn_gt1 w0 w1 hb s t W P hs hWs hPs c1 c2 c3 htrim hcut dW (hp' rfl).1 (hp' rfl).2 (decide_eq_false (by omega)) e17 _ hparse (decide_eq_true (by omega))
      | false => exact rn_gf1 w0 w1 hb s t W P hs hWs hPs c1 c2 c3 htrim hcut dW (decide_eq_false (by omega)) e17 _ hparse (decide_eq_true (by omega))
  have z1 : decide ((1000000000000000 : Int) < (v : Int)) = false := decide_eq_false (by omega)
  by_cases hz : v = 0 ∧ neg = true
  · obtain ⟨hz, rfl⟩ := hz
    have hz' : ((v : Int) == 0) = true := by rw [hz]; rfl
    refine ⟨fun _ w1 hb => ?_, fun ha => absurd ⟨hz, rfl⟩ ha.2⟩
    by_cases h1 : 1 < W.size
    · have hb0 : b48 = false := by cases b48; rfl; exact absurd ⟨h1, rfl⟩ hd
      subst hb0
      cases has with
      | true => exact rn_ht2 w0 w1 hb s t W P hs hWs hPs c1 c2 c3 htrim hcut dW (hp' rfl).1 (hp' rfl).2 (decide_eq_true (by omega)) hWpos hb48 e17 _ hparse hz' z1 hne
      | false => exact rn_hf2 w0 w1 hb s t W P hs hWs hPs c1 c2 c3 htrim hcut dW (decide_eq_true (by omega)) hWpos hb48 e17 _ hparse hz' z1 hne
    · cases has with
      | true => exact rn_ht1 w0 w1 hb s t W P hs hWs hPs c1 c2 c3 htrim hcut dW (hp' rfl).1 (hp' rfl).2 (decide_eq_false (by omega)) e17 _ hparse hz' z1 hne
      | false => exact rn_hf1 w0 w1 hb s t W P hs hWs hPs c1 c2 c3 htrim hcut dW (decide_eq_false (by omega)) e17 _ hparse hz' z1 hne
  refine ⟨fun ha => absurd ⟨hmax, hz⟩ ha, fun _ T hT hq w1 hb => ?_⟩
  cases neg with
  | true =>
    have hz' : ((v : Int) == 0) = false := by rw [beq_eq_false_iff_ne]; intro h; exact hz ⟨by omega, rfl⟩
    rw [if_pos rfl] at hq ⊢
    by_cases h1 : 1 < W.size
    · have hb0 : b48 = false := by cases b48; rfl; exact absurd ⟨h1, rfl⟩ hd
      subst hb0
      cases has with
      | true => exact rn_it2n w0 w1 hb s t W P hs hWs hPs c1 c2 c3 htrim hcut dW (hp' rfl).1 (hp' rfl).2 (decide_eq_true (by omega)) hWpos hb48 e17 _ hparse (by omega) (by omega) z1 hz' hne T hT hq
      | false => exact rn_if2n w0 w1 hb s t W P hs hWs hPs c1 c2 c3 htrim hcut dW (decide_eq_true (by omega)) hWpos hb48 e17 _ hparse (by omega) (by omega) z1 hz' hne T hT hq
    · cases has with
      | true => exact rn_it1n w0 w1 hb s t W P hs hWs hPs c1 c2 c3 htrim hcut dW (hp' rfl).1 (hp' rfl).2 (decide_eq_false (by omega)) e17 _ hparse (by omega) (by omega) z1 hz' hne T hT hq
      | false => exact rn_if1n w0 w1 hb s t W P hs hWs hPs c1 c2 c3 htrim hcut dW (decide_eq_false (by omega)) e17 _ hparse (by omega) (by omega) z1 hz' hne T hT hq
  | false =>
    rw [if_neg (by decide)] at hq ⊢
    by_cases hv0 : v = 0
    · subst hv0
      by_cases h1 : 1 < W.size
      · have hb0 : b48 = false := by cases b48; rfl; exact absurd ⟨h1, rfl⟩ hd
        subst hb0
        cases has with
        | true => exact rn_it2z w0 w1 hb s t W P hs hWs hPs c1 c2 c3 htrim hcut dW (hp' rfl).1 (hp' rfl).2 (decide_eq_true (by omega)) hWpos hb48 e17 hparse hne T hT hq
        | false => exact rn_if2z w0 w1 hb s t W P hs hWs hPs c1 c2 c3 htrim hcut dW (decide_eq_true (by omega)) hWpos hb48 e17 hparse hne T hT hq
      · cases has with
        | true => exact rn_it1z w0 w1 hb s t W P hs hWs hPs c1 c2 c3 htrim hcut dW (hp' rfl).1 (hp' rfl).2 (decide_eq_false (by omega)) e17 hparse hne T hT hq
        | false => exact rn_if1z w0 w1 hb s t W P hs hWs hPs c1 c2 c3 htrim hcut dW (decide_eq_false (by omega)) e17 hparse hne T hT hq
    · have hz' : ((v : Int) == 0) = false := by rw [beq_eq_false_iff_ne]; intro h; exact hv0 (by omega)
      by_cases h1 : 1 < W.size
      · have hb0 : b48 = false := by cases b48; rfl; exact absurd ⟨h1, rfl⟩ hd
        subst hb0
        cases has with
        | true => exact rn_it2p w0 w1 hb s t W P hs hWs hPs c1 c2 c3 htrim hcut dW (hp' rfl).1 (hp' rfl).2 (decide_eq_true (by omega)) hWpos hb48 e17 _ hparse (by omega) (by omega) z1 hz' hne T hT hq
        | false => exact rn_if2p w0 w1 hb s t W P hs hWs hPs c1 c2 c3 htrim hcut dW (decide_eq_true (by omega)) hWpos hb48 e17 _ hparse (by omega) (by omega) z1 hz' hne T hT hq
      · cases has with
        | true => exact rn_it1p w0 w1 hb s t W P hs hWs hPs c1 c2 c3 htrim hcut dW (hp' rfl).1 (hp' rfl).2 (decide_eq_false (by omega)) e17 _ hparse (by omega) (by omega) z1 hz' hne T hT hq
        | false => exact rn_if1p w0 w1 hb s t W P hs hWs hPs c1 c2 c3 htrim hcut dW (decide_eq_false (by omega)) e17 _ hparse (by omega) (by omega) z1 hz' hne T hT hq
theorem indexByte_lt : ∀ (l : List UInt8) (c : UInt8) (n : Nat), Lib.indexByte l c = (n : Int) → n < l.length := by
  intro l
  induction l with
  | nil => intro c n h; simp [Lib.indexByte] at h
  | cons x l ih =>
    intro c n h
    simp only [Lib.indexByte] at h
    split at h
    · simp; omega
    · split at h
      · omega
      · have hge := Lib.indexByte_ge l c
        rename_i h2
        have h3 : Lib.indexByte l c ≠ -1 := fun e => h2 (by rw [e]; rfl)
        obtain ⟨m, hm⟩ := Int.eq_ofNat_of_zero_le (show 0 ≤ Lib.indexByte l c by omega)
        have := ih c m hm
        simp; omega
theorem same_self {x : Nat} (h : ¬ IsNaN x) : laws_sameFloat.f 5 x x = some true := by
  unfold laws_sameFloat.f
  have e : fne x x = false := by rw [fne_key h h, decide_eq_true rfl]; rfl
  rw [e, if_neg (by decide), laws_sameFloat.j0, if_neg (by decide), quo_one_ok h, if_pos rfl, if_pos rfl]
  have e2 : feq x x = true := by rw [feq_key h h]; exact decide_eq_true rfl
  rw [e2, beq_self_eq_true]
  split
  · rfl
  · rfl
theorem same_nan {x y : Nat} (hx : IsNaN x) (hy : IsNaN y) : laws_sameFloat.f 5 x y = some true := by
  unfold laws_sameFloat.f
  rw [fne_nan (.inl hx), if_pos rfl, laws_sameFloat.j0, if_pos rfl, fne_nan (.inl hx), if_pos rfl, fne_nan (.inl hy)]
/-- What both say of a text that is none of the three words. -/
theorem rn_both (s : ByteArray) (hs : s.size ≤ 1048576) (c1 : (s.toList == [47]) = false) (c2 : (s.toList == [104, 105, 103, 104]) = false) (c3 : (s.toList == [108, 111, 119]) = false) (w0 : World) (he : Err0 w0) :
    ∃ y b, spec_ReadNumber.f 200 s = some (y, b) ∧ R0 w0 s y b ∧ laws_sameFloat.f 5 y y = some true := by
  have hspec : spec_ReadNumber.f 200 s = if s.size ≤ 30 then spec_ReadNumber.l0 200 s 0 (-1) 0 else some (0, false) := by
    unfold spec_ReadNumber.f
    rw [if_neg (by simpa using c1), if_neg (by simpa using c2), if_neg (by simpa using c3)]
    by_cases h : s.size ≤ 30
    · rw [if_pos h, if_neg (by omega)]
    · rw [if_neg h, if_pos (by omega)]
  -- the parts
  have htl : Lib.trimPrefix s.data.toList [45] = if minus s = true then s.data.toList.tail else s.data.toList := by
    unfold Lib.trimPrefix Lib.hasPrefix minus
    match s.data.toList with
    | [] => rfl
    | x :: r =>
      by_cases hx : x = 45
      · subst hx; rfl
      · have e1 : List.isPrefixOf [45] (x :: r) = false := by
          simp [List.isPrefixOf]
          exact fun h => hx h.symm
        rw [e1]
        have e2 : ((x :: r).head? == some 45) = false := by simp [hx]
        rw [e2]; rfl
  generalize ht : (⟨(Lib.trimPrefix s.data.toList [45]).toArray⟩ : ByteArray) = t
  have htd : t.data.toList = if minus s = true then s.data.toList.tail else s.data.toList := by rw [← ht, ← htl]
  have htrim : ∀ w, Calls Tryd.prog 39 #[.string s, .string ⟨#[45]⟩] w fun e w' => e = .returned (.string t) ∧ w' = w := by
    intro w
    have := Tryd.strings_TrimPrefix s ⟨#[45]⟩ w
    rw [← ht]; exact this
  have hsd : s.data.toList = sgnL (minus s) ++ t.data.toList := by
    rw [htd]
    unfold sgnL
    cases hm : minus s with
    | false => rfl
    | true =>
      rw [if_pos rfl, if_pos rfl]
      unfold minus at hm
      match hd : s.data.toList with
      | [] => rw [hd] at hm; simp at hm
      | x :: r => rw [hd] at hm; simp at hm; rw [hm]; rfl
  have hts : t.size ≤ s.size := by rw [sz, sz, hsd, List.length_append]; omega
  have hne : (t.toList == s.toList) = !(minus s) := by
    rw [ByteArray.toList_eq, ByteArray.toList_eq, hsd]
    cases minus s with
    | false => simp [sgnL]
    | true =>
      simp only [sgnL, if_true, Bool.not_true, beq_eq_false_iff_ne]
      intro h
      have := congrArg List.length h
      simp at this
  have hminus : minus s = false → s.data.toList.head? ≠ some 45 := by intro h e; unfold minus at h; rw [e] at h; simp at h
  obtain ⟨W, P, has, hcut, hWs, hPs, hdec⟩ : ∃ (W P : ByteArray) (has : Bool), (∀ w, Calls Tryd.prog 40 #[.string t, .string ⟨#[46]⟩] w fun e w' => e = .returned (.tuple #[.string W, .string P, .bool has]) ∧ ∃ m, w' = w.drewN m) ∧ W.size ≤ 1048576 ∧ P.size ≤ 1048576 ∧ Dec s.data.toList (minus s) W.data.toList P.data.toList has := by
    have hge := Lib.indexByte_ge t.data.toList 46
    by_cases hi : Lib.indexByte t.data.toList 46 = -1
    · refine ⟨t, ⟨#[]⟩, false, fun w => cut_miss t hi w, by omega, by decide, ?_, ?_, hminus, fun _ => rfl⟩
      · simp [dotL]; exact hsd
      · intro hm
        obtain ⟨k, hk⟩ := List.getElem?_of_mem hm
        exact Lib.indexByte_none hi k hk
    · obtain ⟨n, hn⟩ := Int.eq_ofNat_of_zero_le (show 0 ≤ Lib.indexByte t.data.toList 46 by omega)
      have hlt := indexByte_lt _ _ _ hn
      obtain ⟨hn1, hn2⟩ := Lib.indexByte_some hn
      have x1 : (t.extract 0 n).data.toList = t.data.toList.take n := by simp [ByteArray.data_extract]
      have x2 : (t.extract (n + 1) t.size).data.toList = t.data.toList.drop (n + 1) := by
        simp only [ByteArray.data_extract, Array.toList_extract, List.extract_eq_take_drop]
        rw [List.take_of_length_le (by rw [List.length_drop, sz]; omega)]
      refine ⟨t.extract 0 n, t.extract (n + 1) t.size, true, fun w => cut_hit t n (by rw [sz]; exact hlt) (by omega) hn w, ?_, ?_, ?_, ?_, hminus, fun h => by cases h⟩
      · rw [ByteArray.size_extract]; omega
      · rw [ByteArray.size_extract]; omega
      · rw [x1, x2, hsd]
        congr 1
        show t.data.toList = t.data.toList.take n ++ 46 :: t.data.toList.drop (n + 1)
        have : t.data.toList.drop n = 46 :: t.data.toList.drop (n + 1) := by
          rw [List.drop_eq_getElem_cons hlt]
          rw [List.getElem?_eq_getElem hlt] at hn1
          rw [Option.some.inj hn1]
        rw [← this, List.take_append_drop]
      · rw [x1]
        intro hm
        obtain ⟨k, hk⟩ := List.getElem?_of_mem hm
        rw [List.getElem?_take] at hk
        split at hk
        · exact hn2 k (by omega) hk
        · cases hk
  obtain ⟨hrej, hacc⟩ := impl_parts s t W P (minus s) has hs hWs hPs c1 c2 c3 htrim hcut hne (fun h => hdec.2.2.2 h) w0 he
  by_cases ha : Acc (minus s) W.data.toList P.data.toList has
  · obtain ⟨h30, T, hT, hq, hsp⟩ := rn_accept hdec ha 200 (by omega)
    refine ⟨_, true, by rw [hspec, if_pos h30]; exact hsp, hacc ha T (by rw [sz]; exact hT) hq, ?_⟩
    refine same_self ?_
    have hv : dv 0 (W.data.toList ++ P.data.toList) ≤ 1000000000000000 := ha.2.2.2.2.2.1
    have hP6 : P.data.toList.length ≤ 6 := by
      cases hh : has with
      | true => exact (ha.2.2.1 hh).2.2
      | false => rw [hdec.2.2.2 hh]; simp
    obtain ⟨t', _, t1, t2, t3, t4⟩ := t_ten2 (P.data.toList.length : Int) (by omega) (by omega) 98 (by omega)
    rw [hT] at t1
    obtain rfl := Option.some.inj t1
    have hb := (quo_ge_one (n := if minus s = true then -(dv 0 (W.data.toList ++ P.data.toList) : Int) else dv 0 (W.data.toList ++ P.data.toList)) (b := 50) (by omega) (by split <;> omega) t3 t4).2
    unfold IsNaN INF
    omega
  · refine ⟨0, false, ?_, hrej ha, by decide +kernel⟩
    rw [hspec]
    by_cases h30 : s.size ≤ 30
    · rw [if_pos h30]; exact rn_reject hdec ha h30 200 (by omega)
    · rw [if_neg h30]
/-- THE LAW. -/
theorem rn_says (s : ByteArray) (w : World) (he : Err0 w) : Calls Tryd.prog 4 #[.string s] w fun e w' => e = .returned (.bool true) ∧ Below w.heap.size w w' := by
  by_cases hs : s.size ≤ 1048576
  case neg => exact rn_law_long s (decide_eq_true (by omega)) w
  have hs' : decide ((1048576 : Int) < (s.size : Int)) = false := decide_eq_false (by omega)
  cases c1 : (s.toList == [47]) with
  | true =>
    have : s = ⟨#[47]⟩ := str_eq.1 (by rw [beq_iff_eq.1 c1, ByteArray.toList_eq])
    subst this
    refine rn_law _ hs' (fun x => IsNaN x) _ true w (fun w1 hb => (rn_spec_slash w1).mono ?_) (fun w1 hb => rn_slash w w1 hb) (fun x hx => same_nan (by decide) hx)
    rintro e w' ⟨b, h1, h2, h3⟩
    exact ⟨b, h1, h2, below_step hb h3⟩
  | false =>
  cases c2 : (s.toList == [104, 105, 103, 104]) with
  | true =>
    have : s = ⟨#[104, 105, 103, 104]⟩ := str_eq.1 (by rw [beq_iff_eq.1 c2, ByteArray.toList_eq])
    subst this
    have hsp : spec_ReadNumber.f 5 ⟨#[104, 105, 103, 104]⟩ = some (9218868437227405312, true) := by decide +kernel
    refine rn_law _ hs' (fun x => x = 9218868437227405312) _ true w (fun w1 hb => (spec_ReadNumber.calls _ _ _ _ w1 hsp).mono ?_) (fun w1 hb => rn_high w w1 hb) (fun x hx => by subst hx; decide +kernel)
    rintro e w' ⟨h2, h3⟩
    exact ⟨_, rfl, h2, below_step hb h3⟩
  | false =>
  cases c3 : (s.toList == [108, 111, 119]) with
  | true =>
    have : s = ⟨#[108, 111, 119]⟩ := str_eq.1 (by rw [beq_iff_eq.1 c3, ByteArray.toList_eq])
    subst this
    have hsp : spec_ReadNumber.f 5 ⟨#[108, 111, 119]⟩ = some (18442240474082181120, true) := by decide +kernel
    refine rn_law _ hs' (fun x => x = 18442240474082181120) _ true w (fun w1 hb => (spec_ReadNumber.calls _ _ _ _ w1 hsp).mono ?_) (fun w1 hb => rn_low w w1 hb) (fun x hx => by subst hx; decide +kernel)
    rintro e w' ⟨h2, h3⟩
    exact ⟨_, rfl, h2, below_step hb h3⟩
  | false =>
    obtain ⟨y, b, hsp, hi, hsame⟩ := rn_both s hs c1 c2 c3 w he
    refine rn_law _ hs' (fun x => x = y) y b w (fun w1 hb => (spec_ReadNumber.calls _ _ _ _ w1 hsp).mono ?_) hi (fun x hx => by rw [hx]; exact hsame)
    rintro e w' ⟨h2, h3⟩
    exact ⟨_, rfl, h2, below_step hb h3⟩
end Go.Proofs.YtigegicbfmjpbaaDoor.PRn
