/- FnExactReadSoil: the law, joined. Conditions: none. -/
import Derived.Test.YtigegicbfmjpbaaDoorQSo3
import Derived.Test.YtigegicbfmjpbaaDoorSoW
set_option linter.unusedVariables false
namespace Go.Proofs.YtigegicbfmjpbaaDoor.PSo
open Go.Proofs.YtigegicbfmjpbaaDoorW Go.RowKit Go.Proofs.YtigegicbfmjpbaaDoorW.PrintWords Go.Proofs.YtigegicbfmjpbaaDoorW.PrintLast Go.Proofs.YtigegicbfmjpbaaDoorW.PrintMore
open Num
/-- The library's MaxLen holds some number, here and in every world that the call makes of this one. -/
def MaxCell (w0 : World) : Prop := ∃ m, ∀ w1, Below w0.heap.size w0 w1 → w1.cell? ⟨1, 0, none⟩ = some (.int .i64 m)
theorem MaxCell.on {w0 w1 : World} (h : MaxCell w0) (hb : Below w0.heap.size w0 w1) : MaxCell w1 := by
  obtain ⟨m, h⟩ := h
  exact ⟨m, fun w2 h2 => h w2 (below_step hb h2)⟩
theorem digB_true {x : ByteArray} : digB x = true ↔ allD x.data.toList = true ∧ x.data.toList ≠ [] := by
  have e : digB x = (allD x.data.toList && decide (0 < x.size)) := rfl
  rw [e, Bool.and_eq_true, decide_eq_true_iff, size_len]
  refine and_congr_right fun _ => ⟨fun h e => ?_, fun h => ?_⟩
  · rw [e] at h; exact absurd h (by decide)
  · exact List.length_pos_iff.2 h
theorem byte0 {W : ByteArray} (h : 0 < W.size) : (∃ b : Bool, (∀ h : 0 < W.size, (((W[0]'h).toNat : Int) == 48) = b) ∧ (b = true ↔ W.data.toList.head? = some 48)) := by
  refine ⟨(((W[0]'h).toNat : Int) == 48), fun _ => rfl, ?_⟩
  have hl : 0 < W.data.toList.length := by rw [← size_len]; exact h
  match hd : W.data.toList, hl with
  | x :: r, _ =>
    have e : W[0]'h = x := by
      have h1 : W.data.toList[0]'(by rw [hd]; simp) = x := by simp [hd]
      rw [← h1]; rfl
    rw [e, beq_iff_eq, List.head?_cons, Option.some.injEq]
    constructor
    · intro k; exact UInt8.toNat_inj.1 (by have : (48 : UInt8).toNat = 48 := rfl; omega)
    · intro k; rw [k]; rfl
theorem dec_yes (x : ByteArray) (h : Canon x.data.toList) (w : World) : Calls Tryd.prog 58 #[.string x] w fun e w' => e = .returned (.tuple #[.int .i64 (dv 0 x.data.toList : Int), .bool true]) ∧ Below w.heap.size w w' := by
  have hs : x.size ≤ 18 := by rw [size_len]; exact h.2.2.1
  have hd : digB x = true := digB_true.2 ⟨h.1, h.2.1⟩
  have hpos : 0 < x.size := by rw [size_len]; exact List.length_pos_iff.2 h.2.1
  obtain ⟨b, hb1, hb2⟩ := byte0 hpos
  have hp := (parse_digits h.2.1 h.1).1 (by have := canon_small h; omega)
  have hw := fun w1 hb => whole_calls x hs _ hp w w1 hb
  by_cases h1 : 1 < x.size
  · have : b = false := by
      cases b
      · rfl
      · exact absurd ⟨by rw [← size_len]; exact h1, hb2.1 rfl⟩ h.2.2.2
    subst this
    exact dec_e x (by omega) hd (decide_eq_false (by omega)) (decide_eq_true (by omega)) hpos hb1 w w (Below.refl _ _) _ hw
  · exact dec_d x (by omega) hd (decide_eq_false (by omega)) (decide_eq_false (by omega)) w w (Below.refl _ _) _ hw
theorem dec_no (x : ByteArray) (hs : x.size ≤ 2000000) (h : ¬ Canon x.data.toList) (w : World) : Calls Tryd.prog 58 #[.string x] w fun e w' => e = .returned (.tuple #[.int .i64 0, .bool false]) ∧ Below w.heap.size w w' := by
  by_cases hd : digB x = true
  case neg => exact dec_a x hs (Bool.eq_false_iff.2 hd) w w (Below.refl _ _)
  have hd' := digB_true.1 hd
  by_cases h18 : 18 < x.size
  · exact dec_b x hs hd (decide_eq_true (by omega)) w w (Below.refl _ _)
  have hpos : 0 < x.size := by rw [size_len]; exact List.length_pos_iff.2 hd'.2
  obtain ⟨b, hb1, hb2⟩ := byte0 hpos
  have hc : 1 < x.size ∧ b = true := by
    by_cases c : 1 < x.size ∧ b = true
    · exact c
    · exfalso
      refine h ⟨hd'.1, hd'.2, by rw [← size_len]; omega, ?_⟩
      rintro ⟨a1, a2⟩
      exact c ⟨by rw [size_len]; exact a1, hb2.2 a2⟩
  obtain ⟨h1, rfl⟩ := hc
  exact dec_c x hs hd (decide_eq_false (by omega)) (decide_eq_true (by omega)) hpos hb1 w w (Below.refl _ _)
def RS (f : Nat) (w0 : World) (s : ByteArray) (a b c d e : Int) (r : Bool) : Prop := ∀ w1, Below w0.heap.size w0 w1 → Calls Tryd.prog f #[.string s] w1 fun e_ w' => e_ = .returned (.tuple #[.agg #[.int .i64 a, .int .i64 b, .int .i64 c, .int .i64 d, .int .i64 e], .bool r]) ∧ Below w1.heap.size w1 w'
theorem soil_calls (a b c d e : Int) (r : Bool) (h : decide (OkS a b c d e) = r) (w : World) : Calls Tryd.prog 59 #[.agg #[.int .i64 a, .int .i64 b, .int .i64 c, .int .i64 d, .int .i64 e]] w fun e_ w' => e_ = .returned (.bool r) ∧ Below w.heap.size w w' :=
  impl_soilOk.calls a b c d e r w (by rw [impl_ok, h])
theorem piece_size {s p : ByteArray} {ps : List ByteArray} (hj : join 32 (ps.map (·.data.toList)) = s.data.toList) (hp : p ∈ ps) : p.size ≤ s.size := by
  rw [size_len, size_len, ← hj]
  clear hj
  induction ps with
  | nil => cases hp
  | cons q ps ih =>
    rw [List.map_cons]
    by_cases hn : ps.map (·.data.toList) = []
    · rw [hn]
      have : ps = [] := List.map_eq_nil_iff.1 hn
      subst this
      simp only [List.mem_cons, List.not_mem_nil, or_false] at hp
      rw [hp]; exact Nat.le_refl _
    · rw [join_cons 32 _ hn, List.length_append, List.length_cons]
      rcases List.mem_cons.1 hp with rfl | hp
      · omega
      · have := ih hp; omega
/-- What the program answers. -/
theorem impl_so (s : ByteArray) (hs : s.size ≤ 1048576) (w0 : World) (hm : MaxCell w0) :
    (∀ a b c d e : ByteArray, Lib.splitB ⟨#[32]⟩ 0 (Lib.countB s ⟨#[32]⟩) s = [a, b, c, d, e] →
      ((Canon a.data.toList ∧ Canon b.data.toList ∧ Canon c.data.toList ∧ Canon d.data.toList ∧ Canon e.data.toList ∧ OkS (dv 0 a.data.toList) (dv 0 b.data.toList) (dv 0 c.data.toList) (dv 0 d.data.toList) (dv 0 e.data.toList)) →
        RS 17 w0 s (dv 0 a.data.toList) (dv 0 b.data.toList) (dv 0 c.data.toList) (dv 0 d.data.toList) (dv 0 e.data.toList) true) ∧
      (¬ (Canon a.data.toList ∧ Canon b.data.toList ∧ Canon c.data.toList ∧ Canon d.data.toList ∧ Canon e.data.toList ∧ OkS (dv 0 a.data.toList) (dv 0 b.data.toList) (dv 0 c.data.toList) (dv 0 d.data.toList) (dv 0 e.data.toList)) →
        RS 17 w0 s 0 0 0 0 0 false)) ∧
    ((Lib.splitB ⟨#[32]⟩ 0 (Lib.countB s ⟨#[32]⟩) s).length ≠ 5 → RS 17 w0 s 0 0 0 0 0 false) := by
  have hlen := Lib.splitB_all ⟨#[32]⟩ (by decide) 0 _ s rfl
  obtain ⟨_, _, hj⟩ := split_facts 32 _ s rfl
  have hsp : ∀ w1, Below w0.heap.size w0 w1 → ∀ w, Below w1.heap.size w1 w → Calls Tryd.prog 57 #[.string s, .string ⟨#[32]⟩] w fun e w' => e = .returned (.slice (some ⟨w.heap.size, 0, none⟩) (Lib.splitB ⟨#[32]⟩ 0 (Lib.countB s ⟨#[32]⟩) s).length (Lib.splitB ⟨#[32]⟩ 0 (Lib.countB s ⟨#[32]⟩) s).length) ∧ w' = w.alloc (.cells ((Lib.splitB ⟨#[32]⟩ 0 (Lib.countB s ⟨#[32]⟩) s).map Value.string).toArray 9) := by
    obtain ⟨m, hm⟩ := hm
    intro w1 hb1 w hb
    rw [hlen]
    exact Tryd.strings_Split s ⟨#[32]⟩ m w (by omega) (hm w (below_step hb1 hb)) (by decide)
  refine ⟨fun a b c d e hps => ?_, fun h5 w1 hb => ?_⟩
  · rw [hps] at hsp hj
    have sz : ∀ p ∈ [a, b, c, d, e], p.size ≤ 2000000 := fun p hp => by have := piece_size hj hp; omega
    have sa := sz a (by simp)
    have sb := sz b (by simp)
    have sc := sz c (by simp)
    have sd := sz d (by simp)
    have se := sz e (by simp)
    refine ⟨fun ⟨ha, hb, hc, hd, he, ok⟩ w1 hb1 => ?_, fun hno w1 hb1 => ?_⟩
    · exact ri_ok s a b c d e _ _ _ _ _ w1 (hsp w1 hb1) (dec_yes a ha) (dec_yes b hb) (dec_yes c hc) (dec_yes d hd) (dec_yes e he) (soil_calls _ _ _ _ _ true (decide_eq_true ok)) w1 (Below.refl _ _)
    · by_cases ha : Canon a.data.toList
      case neg => exact ri_x0 s a b c d e 0 0 0 0 0 w1 (hsp w1 hb1) (dec_no a sa ha) w1 (Below.refl _ _)
      by_cases hb : Canon b.data.toList
      case neg => exact ri_x1 s a b c d e _ 0 0 0 0 w1 (hsp w1 hb1) (dec_yes a ha) (dec_no b sb hb) w1 (Below.refl _ _)
      by_cases hc : Canon c.data.toList
      case neg => exact ri_x2 s a b c d e _ _ 0 0 0 w1 (hsp w1 hb1) (dec_yes a ha) (dec_yes b hb) (dec_no c sc hc) w1 (Below.refl _ _)
      by_cases hd : Canon d.data.toList
      case neg => exact ri_x3 s a b c d e _ _ _ 0 0 w1 (hsp w1 hb1) (dec_yes a ha) (dec_yes b hb) (dec_yes c hc) (dec_no d sd hd) w1 (Below.refl _ _)
      by_cases he : Canon e.data.toList
      case neg => exact ri_x4 s a b c d e _ _ _ _ 0 w1 (hsp w1 hb1) (dec_yes a ha) (dec_yes b hb) (dec_yes c hc) (dec_yes d hd) (dec_no e se he) w1 (Below.refl _ _)
      exact ri_bad s a b c d e _ _ _ _ _ w1 (hsp w1 hb1) (dec_yes a ha) (dec_yes b hb) (dec_yes c hc) (dec_yes d hd) (dec_yes e he) (soil_calls _ _ _ _ _ false (decide_eq_false (fun ok => hno ⟨ha, hb, hc, hd, he, ok⟩))) w1 (Below.refl _ _)
  · exact ri_count s w1 _ _ (by rw [bne_iff_ne]; omega) (hsp w1 hb) w1 (Below.refl _ _)
theorem map_inj {ps qs : List ByteArray} (h : ps.map (·.data.toList) = qs.map (·.data.toList)) : ps = qs := by
  induction ps generalizing qs with
  | nil =>
    match qs, h with
    | [], _ => rfl
  | cons p ps ih =>
    match qs, h with
    | q :: qs, h =>
      simp only [List.map_cons, List.cons.injEq] at h
      rw [Go.WideShapes.bytes_inj h.1, ih h.2]
/-- THE LAW. -/
theorem so_says (s : ByteArray) (w : World) (hm : MaxCell w) : Calls Tryd.prog 6 #[.string s] w fun e w' => e = .returned (.bool true) ∧ Below w.heap.size w w' := by
  by_cases hs : s.size ≤ 1048576
  case neg => exact so_law_long s (decide_eq_true (by omega)) w
  have hs' : decide ((1048576 : Int) < (s.size : Int)) = false := decide_eq_false (by omega)
  obtain ⟨i1, i2⟩ := impl_so s hs w hm
  obtain ⟨f1, f2, f3⟩ := split_facts 32 _ s rfl
  have hlong : ¬ s.size ≤ 100 → RS 17 w s 0 0 0 0 0 false := by
    intro h100
    by_cases h5 : (Lib.splitB ⟨#[32]⟩ 0 (Lib.countB s ⟨#[32]⟩) s).length = 5
    case neg => exact i2 h5
    match hps : Lib.splitB ⟨#[32]⟩ 0 (Lib.countB s ⟨#[32]⟩) s, h5 with
    | [a, b, c, d, e], _ =>
      refine (i1 a b c d e hps).2 (fun ⟨ha, hb, hc, hd, he, ok⟩ => h100 ?_)
      rw [hps] at f3
      exact (five_accept f3 ha hb hc hd he ok 40 (by omega)).1
  by_cases h100 : s.size ≤ 100
  case neg =>
    exact so_law s hs' 0 0 0 0 0 false w (fun w1 hb => rs_long s (decide_eq_true (by omega)) w w1 hb) (hlong h100)
  have h100' : decide ((100 : Int) < (s.size : Int)) = false := decide_eq_false (by omega)
  obtain ⟨ps, p1, p2, p3, p4⟩ := pieces s (by omega) 200 (by omega)
  have hps : ps = Lib.splitB ⟨#[32]⟩ 0 (Lib.countB s ⟨#[32]⟩) s := map_inj (join_unique 32 (by simpa using p2) (by simpa using f1) p3 f2 (by rw [p4, f3]))
  have hpc := fun w1 => spieces s 200 ps p1 p2 w1
  by_cases h5 : ps.length = 5
  case neg =>
    refine so_law s hs' 0 0 0 0 0 false w (fun w1 hb => rs_count s h100' ps.length (by rw [bne_iff_ne]; omega) (fun w2 => (hpc w2).mono ?_) w w1 hb) (i2 (by rw [← hps]; exact h5))
    rintro e w' ⟨g, c, h1, _, _, h2⟩
    exact ⟨g, c, h1, h2⟩
  match ps, h5 with
  | [a, b, c, d, e], _ =>
    have hp5 : ∀ w1, Calls Tryd.prog 53 #[.string s] w1 fun e_ w' => ∃ (g cc : Nat), e_ = .returned (.slice (some ⟨g, 0, none⟩) 5 cc) ∧ w'.cell? ⟨g, 0, none⟩ = some (.string a) ∧ w'.cell? ⟨g, 1, none⟩ = some (.string b) ∧ w'.cell? ⟨g, 2, none⟩ = some (.string c) ∧ w'.cell? ⟨g, 3, none⟩ = some (.string d) ∧ w'.cell? ⟨g, 4, none⟩ = some (.string e) ∧ g < w'.heap.size ∧ Below w1.heap.size w1 w' := by
      intro w1
      refine (hpc w1).mono ?_
      rintro e_ w' ⟨g, cc, h1, h2, h3, h4⟩
      exact ⟨g, cc, h1, h2 0 (by simp), h2 1 (by simp), h2 2 (by simp), h2 3 (by simp), h2 4 (by simp), h3, h4⟩
    have na := number a 40 (by omega)
    have nb := number b 40 (by omega)
    have nc := number c 40 (by omega)
    have nd := number d 40 (by omega)
    have ne := number e 40 (by omega)
    obtain ⟨j1, j2⟩ := i1 a b c d e hps.symm
    have hj : join 32 [a.data.toList, b.data.toList, c.data.toList, d.data.toList, e.data.toList] = s.data.toList := p4
    by_cases hacc : Canon a.data.toList ∧ Canon b.data.toList ∧ Canon c.data.toList ∧ Canon d.data.toList ∧ Canon e.data.toList ∧ OkS (dv 0 a.data.toList) (dv 0 b.data.toList) (dv 0 c.data.toList) (dv 0 d.data.toList) (dv 0 e.data.toList)
    · obtain ⟨ha, hb, hc, hd, he, ok⟩ := hacc
      obtain ⟨_, e1, e2, e3, e4, e5, ht⟩ := five_accept hj ha hb hc hd he ok 40 (by omega)
      rw [e1] at na; rw [e2] at nb; rw [e3] at nc; rw [e4] at nd; rw [e5] at ne
      refine so_law s hs' _ _ _ _ _ true w (fun w1 hb1 => rs_ok s h100' a b c d e _ _ _ _ _ hp5 na nb nc nd ne (by rw [spec_ok _ _ _ _ _ 40 (by omega), decide_eq_true ok]) s ht (by rw [beq_iff_eq]) w w1 hb1) (j1 ⟨ha, hb, hc, hd, he, ok⟩)
    · refine so_law s hs' 0 0 0 0 0 false w (fun w1 hb1 => ?_) (j2 hacc)
      by_cases ok : OkS (numP a.data.toList) (numP b.data.toList) (numP c.data.toList) (numP d.data.toList) (numP e.data.toList)
      case neg => exact rs_bad s h100' a b c d e _ _ _ _ _ hp5 na nb nc nd ne (by rw [spec_ok _ _ _ _ _ 40 (by omega), decide_eq_false ok]) w w1 hb1
      have sok : spec_l17SoilOk.f 40 (numP a.data.toList) (numP b.data.toList) (numP c.data.toList) (numP d.data.toList) (numP e.data.toList) = some true := by rw [spec_ok _ _ _ _ _ 40 (by omega), decide_eq_true ok]
      obtain ⟨t, ht⟩ : ∃ t, spec_SoilText.f 40 (numP a.data.toList) (numP b.data.toList) (numP c.data.toList) (numP d.data.toList) (numP e.data.toList) = some t := by
        have ea := num_neg ok.1.1
        have eb := num_neg ok.2.1.1
        have ec := num_neg ok.2.2.1.1
        have ed := num_neg ok.2.2.2.1.1
        have ee := num_neg ok.2.2.2.2.1.1
        rw [ea, eb, ec, ed, ee] at ok ⊢
        obtain ⟨t, ht, _⟩ := soil_text _ _ _ _ _ ok 40 (by omega)
        exact ⟨t, ht⟩
      by_cases hts : t = s
      · exact absurd (five_back hj p3 ok 40 (by omega) (by rw [ht, hts])) hacc
      · exact rs_text s h100' a b c d e _ _ _ _ _ hp5 na nb nc nd ne sok t ht (by rw [beq_eq_false_iff_ne]; exact fun h => hts (str_eq.1 h)) w w1 hb1
end Go.Proofs.YtigegicbfmjpbaaDoor.PSo
