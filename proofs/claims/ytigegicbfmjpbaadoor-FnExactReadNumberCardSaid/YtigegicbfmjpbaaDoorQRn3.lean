/- FnExactReadNumber: the plain law: the two take the same texts. Conditions: none. -/
import Derived.Test.YtigegicbfmjpbaaDoorQRn2
set_option linter.unusedVariables false
namespace Go.Proofs.YtigegicbfmjpbaaDoor.PRn
open Go.Proofs.YtigegicbfmjpbaaDoorW Go.RowKit Go.Proofs.YtigegicbfmjpbaaDoorW.PrintWords Go.Proofs.YtigegicbfmjpbaaDoorW.PrintLast Go.Proofs.YtigegicbfmjpbaaDoorW.PrintMore
open F64 Num
def sgnL (b : Bool) : List UInt8 := if b = true then [45] else []
def dotL (b : Bool) (P : List UInt8) : List UInt8 := if b = true then 46 :: P else []
/-- A text in its parts. -/
def Dec (l : List UInt8) (neg : Bool) (W P : List UInt8) (has : Bool) : Prop :=
  l = sgnL neg ++ (W ++ dotL has P) ∧ (46 : UInt8) ∉ W ∧ (neg = false → l.head? ≠ some 45) ∧ (has = false → P = [])
def Acc (neg : Bool) (W P : List UInt8) (has : Bool) : Prop :=
  allD W = true ∧ W ≠ [] ∧ (has = true → allD P = true ∧ P ≠ [] ∧ P.length ≤ 6) ∧ ¬ (1 < W.length ∧ W.head? = some 48) ∧ W.length ≤ 17 ∧ dv 0 (W ++ P) ≤ 1000000000000000 ∧ ¬ (dv 0 (W ++ P) = 0 ∧ neg = true)
theorem split_unique {a b : Bool} : ∀ {W W' P P' : List UInt8}, W ++ dotL a P = W' ++ dotL b P' → (46 : UInt8) ∉ W → (46 : UInt8) ∉ W' → (a = false → P = []) → (b = false → P' = []) → W = W' ∧ a = b ∧ P = P' := by
  intro W
  induction W with
  | nil =>
    intro W' P P' h h1 h2 h3 h4
    match W', h, h2 with
    | [], h, _ =>
      cases a <;> cases b <;> simp [dotL] at h
      · exact ⟨rfl, rfl, by rw [h3 rfl, h4 rfl]⟩
      · exact ⟨rfl, rfl, h⟩
    | c :: W', h, h2 =>
      cases a <;> simp [dotL] at h
      exact absurd h.1 (fun e => h2 (by rw [← e]; simp))
  | cons c W ih =>
    intro W' P P' h h1 h2 h3 h4
    match W', h, h2 with
    | [], h, _ =>
      cases b <;> simp [dotL] at h
      exact absurd h.1 (fun e => h1 (by rw [e]; simp))
    | c' :: W', h, h2 =>
      simp only [List.cons_append, List.cons.injEq] at h
      obtain ⟨x, y, z⟩ := ih h.2 (fun m => h1 (by simp [m])) (fun m => h2 (by simp [m])) h3 h4
      exact ⟨by rw [h.1, x], y, z⟩
theorem dec_unique {l : List UInt8} {n n' a b : Bool} {W W' P P' : List UInt8} (h : Dec l n W P a) (h' : Dec l n' W' P' b) : n = n' ∧ W = W' ∧ a = b ∧ P = P' := by
  obtain ⟨e, u, v, x⟩ := h
  obtain ⟨e', u', v', x'⟩ := h'
  have hn : n = n' := by
    cases n <;> cases n' <;> first | rfl | (exfalso; revert v v')
    · intro v _; exact v rfl (by rw [e']; rfl)
    · intro _ v; exact v rfl (by rw [e]; rfl)
  subst hn
  rw [e] at e'
  obtain ⟨p, q, r⟩ := split_unique (List.append_cancel_left e') u u' x x'
  exact ⟨rfl, p, q, r⟩
theorem no46 {l : List UInt8} (h : allD l = true) : (46 : UInt8) ∉ l := by
  intro m
  have := (isD_iff 46).1 (List.all_eq_true.1 h 46 m)
  exact absurd this.1 (by decide)
theorem head_digit {l : List UInt8} (h : allD l = true) (hne : l ≠ []) (r : List UInt8) (c : UInt8) (hc : c.toNat < 48) : (l ++ r).head? ≠ some c := by
  match l, hne with
  | x :: l, _ =>
    intro e
    simp only [List.cons_append, List.head?_cons, Option.some.injEq] at e
    have := (isD_iff x).1 (allD_cons.1 h).1
    rw [e] at this; omega
/-- What the numeral with its point is, in bytes. -/
theorem tell_list (m : Int) (q : Nat) (L : List UInt8) (hq : q ≠ 0) (hL : List.replicate (q + 1 - (Lib.decDigits m.natAbs).length) 48 ++ Lib.decDigits m.natAbs = L) (hl : q + 1 ≤ L.length) :
    (tellI m q).data.toList = sgnL (decide (m < 0)) ++ (L.take (L.length - q) ++ 46 :: L.drop (L.length - q)) := by
  have e : (if m < 0 then -m else m).toNat = m.natAbs := by split <;> omega
  have hf : fillS (if m < 0 then -m else m) ((q : Int) + 1) = ⟨L.toArray⟩ := by
    rw [fillS_list _ _ (by split <;> omega), e, ← hL]
    congr 4
    omega
  have hsz : (⟨L.toArray⟩ : ByteArray).size = L.length := by rw [sz]
  unfold tellI
  simp only
  rw [if_neg (by omega), hf, hsz, Int.toNat_natCast]
  have t1 : ((⟨L.toArray⟩ : ByteArray).extract 0 (L.length - q)).data.toList = L.take (L.length - q) := by simp [ByteArray.data_extract]
  have t2 : ((⟨L.toArray⟩ : ByteArray).extract (L.length - q) L.length).data.toList = L.drop (L.length - q) := by
    simp only [ByteArray.data_extract, Array.toList_extract, List.extract_eq_take_drop]
    rw [List.take_of_length_le (by simp)]
  rw [ByteArray.data_append, ByteArray.data_append, ByteArray.data_append, Array.toList_append, Array.toList_append, Array.toList_append, t1, t2]
  unfold sgnL
  by_cases c : m < 0
  · rw [if_pos c, decide_eq_true c, if_pos rfl]; simp
  · rw [if_neg c, decide_eq_false c, if_neg (by decide)]; simp
theorem tell_zero (m : Int) : (tellI m 0).data.toList = sgnL (decide (m < 0)) ++ Lib.decDigits m.natAbs := by
  have e : (if m < 0 then -m else m).toNat = m.natAbs := by split <;> omega
  have hd : decS (if m < 0 then -m else m) = ⟨(Lib.decDigits m.natAbs).toArray⟩ := by unfold decS Lib.itoa; rw [if_neg (by split <;> omega), e]
  unfold tellI
  simp only
  rw [if_pos trivial, hd, ByteArray.data_append, Array.toList_append]
  unfold sgnL
  by_cases c : m < 0
  · rw [if_pos c, decide_eq_true c, if_pos rfl]
  · rw [if_neg c, decide_eq_false c, if_neg (by decide)]
/-- The numeral's parts are such as the program takes. -/
theorem tell_acc (m : Int) (q : Int) (hq0 : 0 ≤ q) (hq6 : q ≤ 6) (hm : m.natAbs ≤ 1000000000000000) :
    ∃ W P has, Dec (tellI m q).data.toList (decide (m < 0)) W P has ∧ Acc (decide (m < 0)) W P has := by
  obtain ⟨q, rfl⟩ := Int.eq_ofNat_of_zero_le hq0
  obtain ⟨f1, f2, f3, f4, f5⟩ := dec_facts m.natAbs
  have f6 : (Lib.decDigits m.natAbs).length ≤ 16 := by rw [Lib.decDigits_length]; exact ndig_le 15 _ (by omega)
  have f7 : 1 < (Lib.decDigits m.natAbs).length → (Lib.decDigits m.natAbs).head? ≠ some 48 := fun h => f3 (by
    by_cases c : m.natAbs < 10
    · rw [Lib.decDigits_one c] at h; simp at h
    · omega)
  have fz : ¬ (m.natAbs = 0 ∧ decide (m < 0) = true) := by rintro ⟨a, b⟩; have := of_decide_eq_true b; omega
  by_cases c0 : q = 0
  · subst c0
    refine ⟨Lib.decDigits m.natAbs, [], false, ⟨?_, no46 f1, ?_, fun _ => rfl⟩, f1, f5, (fun h => by cases h), (fun h => f7 h.1 h.2), by omega, ?_, ?_⟩
    · rw [show ((0 : Nat) : Int) = 0 from rfl, tell_zero]; simp [dotL]
    · intro h
      rw [show ((0 : Nat) : Int) = 0 from rfl, tell_zero, h]
      have := head_digit f1 f5 [] 45 (by decide)
      simpa [sgnL] using this
    · rw [List.append_nil, f2]; omega
    · rw [List.append_nil, f2]; exact fz
  · generalize hL : List.replicate (q + 1 - (Lib.decDigits m.natAbs).length) 48 ++ Lib.decDigits m.natAbs = L
    have hz : allD (List.replicate (q + 1 - (Lib.decDigits m.natAbs).length) 48) = true := by
      unfold allD; rw [List.all_eq_true]; intro x hx; rw [List.eq_of_mem_replicate hx]; decide
    have hd : allD L = true := by rw [← hL]; exact allD_append.2 ⟨hz, f1⟩
    have hv : dv 0 L = m.natAbs := by rw [← hL, dv_zeros, f2]
    have hl : q + 1 ≤ L.length := by rw [← hL, List.length_append, List.length_replicate]; omega
    have hl2 : L.length ≤ 16 ∨ L.length = q + 1 := by rw [← hL, List.length_append, List.length_replicate]; omega
    have hh : q + 1 < L.length → L.head? ≠ some 48 := by
      intro h
      have hlen : L.length = q + 1 - (Lib.decDigits m.natAbs).length + (Lib.decDigits m.natAbs).length := by rw [← hL, List.length_append, List.length_replicate]
      rw [← hL, show q + 1 - (Lib.decDigits m.natAbs).length = 0 by omega, List.replicate_zero, List.nil_append]
      exact f7 (by omega)
    have ht := tell_list m q L c0 hL hl
    have hcat : L.take (L.length - q) ++ L.drop (L.length - q) = L := List.take_append_drop _ _
    have hsp : allD (L.take (L.length - q)) = true ∧ allD (L.drop (L.length - q)) = true := allD_append.1 (by rw [hcat]; exact hd)
    have htl : (L.take (L.length - q)).length = L.length - q := by rw [List.length_take]; omega
    have hne : L.take (L.length - q) ≠ [] := by intro h; rw [h] at htl; simp at htl; omega
    refine ⟨L.take (L.length - q), L.drop (L.length - q), true, ⟨?_, no46 hsp.1, ?_, fun h => by cases h⟩, hsp.1, hne, fun _ => ⟨hsp.2, ?_, ?_⟩, ?_, by omega, ?_, ?_⟩
    · rw [ht]; simp [dotL]
    · intro h
      rw [ht, h]
      exact head_digit hsp.1 hne _ 45 (by decide)
    · intro h
      have := congrArg List.length h
      rw [List.length_drop] at this; simp at this; omega
    · rw [List.length_drop]; omega
    · rintro ⟨a, b⟩
      refine hh (by omega) ?_
      match hL0 : L, hne with
      | [], hne => simp at hne
      | x :: r, _ =>
        rw [List.head?_take] at b
        split at b
        · cases b
        · exact b
    · rw [hcat, hv]; omega
    · rw [hcat, hv]; exact fz
theorem sl_digits : ∀ (D r : List UInt8) (first : Bool) (n : Nat) (p : Int), allD D = true → (D ≠ [] ∨ first = false) → dv n D ≤ 1000000000000000 →
    sl (D ++ r) first n p = sl r false (dv n D) (if 0 ≤ p then p + D.length else p) := by
  intro D
  induction D with
  | nil =>
    intro r first n p _ h _
    have hf : first = false := by rcases h with h | h; exact absurd rfl h; exact h
    rw [hf, dv_nil]; simp
  | cons c D ih =>
    intro r first n p hd _ hv
    obtain ⟨h1, h2⟩ := allD_cons.1 hd
    have hc := (isD_iff c).1 h1
    rw [dv_cons] at hv
    have hg := dv_ge (n * 10 + (c.toNat - 48)) D
    rw [List.cons_append, sl, if_neg (by omega), if_pos h1, if_neg (by omega), ih r false _ _ h2 (.inr rfl) hv, dv_cons]
    congr 1
    simp only [List.length_cons]
    by_cases hp : 0 ≤ p
    · rw [if_pos hp, if_pos (by omega), if_pos hp]; omega
    · rw [if_neg hp, if_neg hp, if_neg hp]
/-- Where the program takes a text, the reference takes it and says the same. -/
theorem rn_accept {s : ByteArray} {neg has : Bool} {W P : List UInt8} (h : Dec s.data.toList neg W P has) (ha : Acc neg W P has) (k : Nat) (hk : 200 ≤ k) :
    s.size ≤ 30 ∧ ∃ t, impl_ten.f 98 (P.length : Int) = some t ∧ fok .quo (fofi (if neg = true then -(dv 0 (W ++ P) : Int) else dv 0 (W ++ P))) t = true ∧
      spec_ReadNumber.l0 k s 0 (-1) 0 = some (fop .quo (fofi (if neg = true then -(dv 0 (W ++ P) : Int) else dv 0 (W ++ P))) t, true) := by
  obtain ⟨h1, h2, h3, h4⟩ := h
  obtain ⟨a1, a2, a3, a4, a5, a6, a7⟩ := ha
  have hP : P.length ≤ 6 := by
    cases has with
    | true => exact (a3 rfl).2.2
    | false => rw [h4 rfl]; simp
  have hPd : allD P = true := by
    cases has with
    | true => exact (a3 rfl).1
    | false => rw [h4 rfl]; rfl
  have hsize : s.size ≤ 30 := by
    rw [sz, h1, List.length_append, List.length_append]
    have : (sgnL neg).length ≤ 1 := by unfold sgnL; split <;> simp
    have : (dotL has P).length ≤ 7 := by unfold dotL; split <;> simp; omega
    omega
  refine ⟨hsize, ?_⟩
  have hmin : minus s = neg := by
    unfold minus
    cases neg with
    | true => rw [h1]; rfl
    | false => rw [Bool.eq_false_iff]; intro e; exact h3 rfl (by simpa using e)
  have hL := loop_sl s hsize s.data.toList 0 0 (-1) k rfl (by omega) (by omega) (by omega) (by omega) (by rw [← sz]; omega)
  have hmono := dv_mono 0 W P
  have hrest : ∀ first, sl (W ++ dotL has P) first 0 (-1) = some (dv 0 (W ++ P), if has = true then (P.length : Int) else -1) := by
    intro first
    rw [sl_digits W (dotL has P) first 0 (-1) a1 (.inl a2) (by omega), if_neg (by omega)]
    cases has with
    | false => rw [h4 rfl, List.append_nil]; rfl
    | true =>
      show sl (46 :: P) false (dv 0 W) (-1) = _
      have e46 : (46 : UInt8).toNat = 46 := rfl
      rw [sl, if_pos ⟨e46, by omega⟩]
      have := sl_digits P [] false (dv 0 W) 0 hPd (.inr rfl) (by rw [← dv_append]; exact a6)
      rw [List.append_nil] at this
      rw [this, dv_append]
      simp [sl]
  have hsl : sl s.data.toList true 0 (-1) = some (dv 0 (W ++ P), if has = true then (P.length : Int) else -1) := by
    rw [h1]
    cases neg with
    | false => exact hrest true
    | true =>
      show sl (45 :: (W ++ dotL has P)) true 0 (-1) = _
      have e45 : (45 : UInt8).toNat = 45 := rfl
      rw [sl, if_neg (by rw [e45]; omega), if_neg (by decide), if_pos ⟨rfl, e45⟩]
      exact hrest false
  rw [show decide ((0 : Nat) = 0) = true from rfl, hsl] at hL
  have hL : Fins s (dv 0 (W ++ P)) (if has = true then (P.length : Int) else -1) (spec_ReadNumber.l0 k s 0 (-1) 0) := hL
  have hq : mx (if has = true then (P.length : Int) else -1) 0 = (P.length : Int) := by
    cases has with
    | false => rw [h4 rfl]; rfl
    | true => rw [if_pos rfl]; unfold mx; rw [if_neg (by omega)]
  have hno : ¬ ((if has = true then (P.length : Int) else -1) = 0 ∨ 6 < (if has = true then (P.length : Int) else -1) ∨ 1000000000000000 < dv 0 (W ++ P)) := by
    cases has with
    | false => simp; omega
    | true =>
      have := (a3 rfl).2.1
      have : P.length ≠ 0 := fun e => this (List.eq_nil_of_length_eq_zero e)
      rw [if_pos rfl]; omega
  have hnum : numOf s (dv 0 (W ++ P)) = if neg = true then -(dv 0 (W ++ P) : Int) else dv 0 (W ++ P) := by unfold numOf; rw [hmin]
  obtain ⟨_, hF⟩ := hL.2 hno
  rw [hq, hnum] at hF
  refine hF (Go.WideShapes.bytes_inj ?_)
  have habs : (if neg = true then -(dv 0 (W ++ P) : Int) else dv 0 (W ++ P)).natAbs = dv 0 (W ++ P) := by split <;> omega
  have hneg : decide ((if neg = true then -(dv 0 (W ++ P) : Int) else dv 0 (W ++ P)) < 0) = neg := by
    cases neg with
    | false => rw [if_neg (by decide)]; exact decide_eq_false (by omega)
    | true => rw [if_pos rfl]; exact decide_eq_true (by have : dv 0 (W ++ P) ≠ 0 := fun e => a7 ⟨e, rfl⟩; omega)
  have hD : allD (W ++ P) = true := allD_append.2 ⟨a1, hPd⟩
  have hWpos : 1 ≤ W.length := by rcases Nat.eq_zero_or_pos W.length with e | e; exact absurd (List.eq_nil_of_length_eq_zero e) a2; exact e
  have hcanon := pad_canon (l := W ++ P) (q := P.length + 1) (by omega) (by rw [List.length_append]; omega) hD (by
    by_cases c : W.length = 1
    · left; rw [List.length_append]; omega
    · right
      intro e
      refine a4 ⟨by omega, ?_⟩
      match W, a2 with
      | x :: W, _ => simpa using e)
  rw [h1]
  by_cases c : P.length = 0
  · have hP0 : P = [] := List.eq_nil_of_length_eq_zero c
    have hhas : has = false := by
      cases hh : has with
      | false => rfl
      | true => exact absurd hP0 (a3 hh).2.1
    rw [c, show ((0 : Nat) : Int) = 0 from rfl, tell_zero, habs, hneg]
    rw [c, show 0 + 1 - (Lib.decDigits (dv 0 (W ++ P))).length = 0 by have := Lib.nDigits_pos (dv 0 (W ++ P)); rw [Lib.decDigits_length]; omega, List.replicate_zero, List.nil_append] at hcanon
    rw [hcanon, hP0, hhas]; rfl
  · have hhas : has = true := by
      cases hh : has with
      | true => rfl
      | false => exact absurd (by rw [h4 hh]; rfl) c
    rw [tell_list _ P.length (W ++ P) c (by rw [habs]; exact hcanon) (by rw [List.length_append]; omega), hneg, List.length_append, show W.length + P.length - P.length = W.length by omega, List.take_left', List.drop_left', hhas]
    · rfl
    · rfl
    · rfl
/-- Where the program takes no text, nor does the reference. -/
theorem rn_reject {s : ByteArray} {neg has : Bool} {W P : List UInt8} (h : Dec s.data.toList neg W P has) (ha : ¬ Acc neg W P has) (hs : s.size ≤ 30) (k : Nat) (hk : 200 ≤ k) :
    spec_ReadNumber.l0 k s 0 (-1) 0 = some (0, false) := by
  have hL := loop_sl s hs s.data.toList 0 0 (-1) k rfl (by omega) (by omega) (by omega) (by omega) (by rw [← sz]; omega)
  rw [show decide ((0 : Nat) = 0) = true from rfl] at hL
  cases hc : sl s.data.toList true 0 (-1) with
  | none => rw [hc] at hL; exact hL
  | some r =>
    obtain ⟨n, p⟩ := r
    rw [hc] at hL
    have hL : Fins s n p (spec_ReadNumber.l0 k s 0 (-1) 0) := hL
    by_cases c : p = 0 ∨ 6 < p ∨ 1000000000000000 < n
    · exact hL.1 c
    · obtain ⟨f1, f2⟩ := hL.2 c
      by_cases e : tellI (numOf s n) (mx p 0) = s
      · exfalso
        have hn : (numOf s n).natAbs ≤ 1000000000000000 := by unfold numOf; split <;> omega
        obtain ⟨W', P', has', d', a'⟩ := tell_acc (numOf s n) (mx p 0) (by unfold mx; split <;> omega) (by unfold mx; split <;> omega) hn
        rw [e] at d'
        obtain ⟨u1, u2, u3, u4⟩ := dec_unique h d'
        subst u1 u2 u3 u4
        exact ha a'
      · exact f1 e
end Go.Proofs.YtigegicbfmjpbaaDoor.PRn
