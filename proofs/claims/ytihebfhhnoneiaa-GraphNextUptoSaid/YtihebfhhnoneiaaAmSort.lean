/- Rising lists of whole numbers. -/
import Derived.Test.YtihebfhhnoneiaaAmMore
namespace Go.Proofs.Ytihebfhhnoneiaa.Am
set_option linter.unusedVariables false
set_option linter.unusedSimpArgs false

def dd : List Int → List Int
  | [] => []
  | x :: xs => if x ∈ xs then dd xs else x :: dd xs
theorem dd_mem (x : Int) : ∀ l, x ∈ dd l ↔ x ∈ l
  | [] => Iff.rfl
  | y :: l => by
    unfold dd
    split
    · rename_i h
      rw [dd_mem x l, List.mem_cons]
      constructor
      · exact .inr
      · rintro (rfl | h')
        · exact h
        · exact h'
    · rw [List.mem_cons, dd_mem x l, List.mem_cons]
theorem dd_nodup : ∀ l, (dd l).Nodup
  | [] => List.nodup_nil
  | y :: l => by
    unfold dd
    split
    · exact dd_nodup l
    · rename_i h
      rw [List.nodup_cons, dd_mem]
      exact ⟨h, dd_nodup l⟩
theorem dd_length : ∀ l, (dd l).length ≤ l.length
  | [] => Nat.le_refl _
  | y :: l => by
    have := dd_length l
    unfold dd
    split <;> simp <;> omega
/-- Rising, each once. -/
def srt (l : List Int) : List Int := (dd l).mergeSort fun x y => decide (x ≤ y)
theorem srt_mem (l : List Int) (x : Int) : x ∈ srt l ↔ x ∈ l := by
  unfold srt
  rw [(List.mergeSort_perm _ _).mem_iff, dd_mem]
theorem srt_length (l : List Int) : (srt l).length ≤ l.length := by
  unfold srt
  rw [List.length_mergeSort]
  exact dd_length l
theorem asc_of {l : List Int} (h1 : l.Pairwise (fun x y => x ≤ y)) (h2 : l.Nodup) : l.Pairwise (fun x y => x < y) := by
  induction l with
  | nil => exact .nil
  | cons x l ih =>
    rw [List.pairwise_cons] at h1 ⊢
    rw [List.nodup_cons] at h2
    refine ⟨fun y hy => ?_, ih h1.2 h2.2⟩
    have h3 := h1.1 y hy
    have h4 : x ≠ y := fun e => h2.1 (e ▸ hy)
    omega
theorem srt_asc (l : List Int) : (srt l).Pairwise (fun x y => x < y) := by
  refine asc_of ?_ ?_
  · have h := List.pairwise_mergeSort (le := fun x y : Int => decide (x ≤ y)) (fun a b c h1 h2 => by simp at *; omega) (fun a b => by simp; omega) (dd l)
    exact h.imp fun h => by simpa using h
  · exact (List.mergeSort_perm (dd l) fun x y : Int => decide (x ≤ y)).nodup_iff.2 (dd_nodup l)
theorem asc_unique : ∀ {a b : List Int}, a.Pairwise (fun x y => x < y) → b.Pairwise (fun x y => x < y) → (∀ x, x ∈ a ↔ x ∈ b) → a = b
  | [], [], _, _, _ => rfl
  | [], y :: b, _, _, h => by have := (h y).2 (by simp); simp at this
  | x :: a, [], _, _, h => by have := (h x).1 (by simp); simp at this
  | x :: a, y :: b, h1, h2, h => by
    rw [List.pairwise_cons] at h1 h2
    have hxy : x = y := by
      rcases List.mem_cons.1 ((h x).1 (by simp)) with e | hx
      · exact e
      · rcases List.mem_cons.1 ((h y).2 (by simp)) with e | hy
        · exact e.symm
        · have := h1.1 y hy; have := h2.1 x hx; omega
    subst hxy
    rw [asc_unique h1.2 h2.2 fun z => ?_]
    constructor
    · intro hz
      rcases List.mem_cons.1 ((h z).1 (by simp [hz])) with e | h'
      · have := h1.1 z hz; omega
      · exact h'
    · intro hz
      rcases List.mem_cons.1 ((h z).2 (by simp [hz])) with e | h'
      · have := h2.1 z hz; omega
      · exact h'
theorem srt_unique {a l : List Int} (h1 : a.Pairwise (fun x y => x < y)) (h2 : ∀ x, x ∈ a ↔ x ∈ l) : a = srt l := asc_unique h1 (srt_asc l) fun x => by rw [h2, srt_mem]
theorem srt_congr {a b : List Int} (h : ∀ x, x ∈ a ↔ x ∈ b) : srt a = srt b := srt_unique (srt_asc a) fun x => by rw [srt_mem, h]

/-- May x come behind the first k of s? -/
def cand (s : List Int) (k : Nat) (x : Int) : Prop := k = 0 ∨ nthD s (k - 1) < x
theorem asc_lt {s : List Int} (hs : s.Pairwise (fun x y => x < y)) {i j : Nat} (hij : i < j) (hj : j < s.length) : nthD s i < nthD s j := by
  rw [nthD_get (by omega), nthD_get hj]
  exact List.pairwise_iff_getElem.1 hs i j (by omega) hj hij
theorem cand_idx {s : List Int} (hs : s.Pairwise (fun x y => x < y)) {k i : Nat} (hi : i < s.length) (hk : k ≤ s.length) : cand s k (nthD s i) ↔ k ≤ i := by
  unfold cand
  constructor
  · rintro (h | h)
    · omega
    · rcases Nat.lt_or_ge i k with h1 | h1
      · rcases Nat.eq_or_lt_of_le (show i ≤ k - 1 by omega) with h2 | h2
        · subst h2; omega
        · have := asc_lt hs h2 (by omega); omega
      · exact h1
  · intro h
    rcases Nat.eq_zero_or_pos k with h0 | h0
    · exact .inl h0
    · exact .inr (asc_lt hs (by omega) hi)
/-- The least that may come is the next. -/
theorem cand_next {l : List Int} {k : Nat} (hk : k ≤ (srt l).length) {x : Int} (hx : x ∈ l) (hc : cand (srt l) k x) (hl : ∀ y ∈ l, cand (srt l) k y → x ≤ y) : k < (srt l).length ∧ x = nthD (srt l) k := by
  obtain ⟨i, hi, e⟩ := List.getElem_of_mem ((srt_mem l x).2 hx)
  have e' : nthD (srt l) i = x := by rw [nthD_get hi, e]
  rw [← e', cand_idx (srt_asc l) hi hk] at hc
  refine ⟨by omega, ?_⟩
  have hkm : nthD (srt l) k ∈ l := by rw [nthD_get (by omega)]; exact (srt_mem l _).1 (List.getElem_mem _)
  have h1 := hl _ hkm ((cand_idx (srt_asc l) (by omega) hk).2 (Nat.le_refl _))
  rcases Nat.eq_or_lt_of_le hc with h2 | h2
  · rw [h2, e']
  · have := asc_lt (srt_asc l) h2 hi; omega
/-- Where none may come, all are there. -/
theorem cand_none {l : List Int} {k : Nat} (hk : k ≤ (srt l).length) (hn : ∀ y ∈ l, ¬ cand (srt l) k y) : (srt l).length ≤ k := by
  rcases Nat.lt_or_ge k (srt l).length with h | h
  · exact absurd ((cand_idx (srt_asc l) h hk).2 (Nat.le_refl _)) (hn _ (by rw [nthD_get h]; exact (srt_mem l _).1 (List.getElem_mem _)))
  · exact h
end Go.Proofs.Ytihebfhhnoneiaa.Am
