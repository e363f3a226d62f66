/- Texts in pieces parted by a byte: plain facts. Conditions: none. -/
import Derived.Lib.Split
import Derived.Lib.SplitLaws
import Derived.Lib.CountLaws
import Derived.Lib.CutLaws
import Derived.Lib.IndexBytes
import Derived.Lib.IndexLaws
set_option linter.unusedVariables false
namespace Go.Proofs.YtigegicbfmjpbaaDoor.Num
open Go
/-- Pieces with a byte between. -/
def join (c : UInt8) : List (List UInt8) → List UInt8
  | [] => []
  | [p] => p
  | p :: q :: r => p ++ c :: join c (q :: r)
theorem join_cons (c : UInt8) (p : List UInt8) {r : List (List UInt8)} (h : r ≠ []) : join c (p :: r) = p ++ c :: join c r := by
  match r, h with
  | q :: r, _ => rfl
def free (c : UInt8) (l : List UInt8) : Prop := c ∉ l
theorem cut_unique (c : UInt8) : ∀ {p q x y : List UInt8}, free c p → free c q → p ++ c :: x = q ++ c :: y → p = q ∧ x = y := by
  intro p
  induction p with
  | nil =>
    intro q x y hp hq h
    match q, hq, h with
    | [], _, h => simp at h; exact ⟨rfl, h⟩
    | b :: q, hq, h =>
      simp at h
      exact absurd (List.mem_cons.2 (.inl h.1)) hq
  | cons a p ih =>
    intro q x y hp hq h
    match q, hq, h with
    | [], _, h =>
      simp at h
      exact absurd (List.mem_cons.2 (.inl h.1.symm)) hp
    | b :: q, hq, h =>
      simp only [List.cons_append, List.cons.injEq] at h
      obtain ⟨e1, e2⟩ := ih (fun m => hp (List.mem_cons_of_mem _ m)) (fun m => hq (List.mem_cons_of_mem _ m)) h.2
      exact ⟨by rw [h.1, e1], e2⟩
theorem join_unique (c : UInt8) : ∀ {ps qs : List (List UInt8)}, ps ≠ [] → qs ≠ [] → (∀ p ∈ ps, free c p) → (∀ q ∈ qs, free c q) → join c ps = join c qs → ps = qs := by
  intro ps
  induction ps with
  | nil => intro qs h; exact absurd rfl h
  | cons p ps ih =>
    intro qs _ hq f g h
    match qs, hq with
    | q :: qs, _ =>
      by_cases h1 : ps = []
      · subst h1
        by_cases h2 : qs = []
        · subst h2; rw [show p = q from h]
        · rw [join_cons c q h2] at h
          have : c ∈ p := by rw [show p = q ++ c :: join c qs from h]; simp
          exact absurd this (f p (by simp))
      · by_cases h2 : qs = []
        · subst h2
          rw [join_cons c p h1] at h
          have : c ∈ q := by rw [show q = p ++ c :: join c ps from h.symm]; simp
          exact absurd this (g q (by simp))
        · rw [join_cons c p h1, join_cons c q h2] at h
          obtain ⟨e1, e2⟩ := cut_unique c (f p (by simp)) (g q (by simp)) h
          rw [e1, ih h1 h2 (fun x hx => f x (List.mem_cons_of_mem _ hx)) (fun x hx => g x (List.mem_cons_of_mem _ hx)) e2]
theorem size_len (s : ByteArray) : s.size = s.data.toList.length := by rw [Array.length_toList]; rfl
theorem indexByte_lt' : ∀ (l : List UInt8) (c : UInt8) (n : Nat), Lib.indexByte l c = (n : Int) → n < l.length := by
  intro l
  induction l with
  | nil => intro c n h; simp [Lib.indexByte] at h
  | cons x l ih =>
    intro c n h
    simp only [Lib.indexByte] at h
    split at h
    · simp; omega
    · split at h
      · omega
      · have hge := Lib.indexByte_ge l c
        rename_i h2
        have h3 : Lib.indexByte l c ≠ -1 := fun e => h2 (by rw [e]; rfl)
        obtain ⟨m, hm⟩ := Int.eq_ofNat_of_zero_le (show 0 ≤ Lib.indexByte l c by omega)
        have := ih c m hm
        simp; omega
/-- strings.Split's pieces: none bears the byte, and joined they are the text. -/
theorem split_facts (c : UInt8) : ∀ (k : Nat) (s : ByteArray), Lib.countB s ⟨#[c]⟩ = k →
    Lib.splitB ⟨#[c]⟩ 0 k s ≠ [] ∧ (∀ p ∈ (Lib.splitB ⟨#[c]⟩ 0 k s).map (·.data.toList), free c p) ∧ join c ((Lib.splitB ⟨#[c]⟩ 0 k s).map (·.data.toList)) = s.data.toList := by
  intro k
  have hx : ∀ s : ByteArray, Lib.indexB s ⟨#[c]⟩ = Lib.indexByte s.data.toList c := fun s => Lib.index_one s.data.toList c
  have hsz : (⟨#[c]⟩ : ByteArray).size = 1 := rfl
  induction k with
  | zero =>
    intro s hk
    rw [Lib.splitB_zero]
    refine ⟨by simp, fun p hp => ?_, rfl⟩
    simp at hp
    subst hp
    intro hm
    obtain ⟨j, hj⟩ := List.getElem?_of_mem hm
    rcases Lib.indexB_cases s ⟨#[c]⟩ with h | ⟨i, h, _⟩
    · exact Lib.indexByte_none (by rw [← hx]; exact h) j hj
    · rw [Lib.countB_hit s _ i (by rw [hsz]; exact Nat.le_refl 1) h] at hk; omega
  | succ k ih =>
    intro s hk
    rcases Lib.indexB_cases s ⟨#[c]⟩ with h | ⟨i, h, _⟩
    · rw [Lib.countB_miss s _ h] at hk; omega
    · rw [Lib.countB_hit s _ i (by rw [hsz]; exact Nat.le_refl 1) h, hsz] at hk
      obtain ⟨a, b, d⟩ := ih (s.extract (i + 1) s.size) (by omega)
      rw [Lib.splitB_hit _ _ _ _ _ h, hsz]
      rw [hx] at h
      have hlt := indexByte_lt' _ _ _ h
      obtain ⟨h1, h2⟩ := Lib.indexByte_some h
      have x1 : (s.extract 0 (i + 0)).data.toList = s.data.toList.take i := by simp [ByteArray.data_extract]
      have x2 : (s.extract (i + 1) s.size).data.toList = s.data.toList.drop (i + 1) := by
        simp only [ByteArray.data_extract, Array.toList_extract, List.extract_eq_take_drop]
        rw [List.take_of_length_le (by rw [List.length_drop, size_len]; exact Nat.le_refl _)]
      rw [x2] at d
      refine ⟨by simp, fun p hp => ?_, ?_⟩
      · rw [List.map_cons, List.mem_cons] at hp
        rcases hp with hp | hp
        · rw [hp, x1]
          intro hm
          obtain ⟨j, hj⟩ := List.getElem?_of_mem hm
          rw [List.getElem?_take] at hj
          split at hj
          · exact h2 j (by omega) hj
          · cases hj
        · exact b p hp
      · rw [List.map_cons, join_cons c _ (by simpa using a), d, x1]
        have e : s.data.toList.drop i = c :: s.data.toList.drop (i + 1) := by
          rw [List.drop_eq_getElem_cons hlt]
          rw [List.getElem?_eq_getElem hlt] at h1
          rw [Option.some.inj h1]
        rw [← e, List.take_append_drop]
end Go.Proofs.YtigegicbfmjpbaaDoor.Num
