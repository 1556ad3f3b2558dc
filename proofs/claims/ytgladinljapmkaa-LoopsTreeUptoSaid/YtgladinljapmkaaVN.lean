/- Where a block leads, by the document's answer; counts. -/
import Derived.Test.YtgladinljapmkaaVK
import Derived.Test.YtgladinljapmkaaVI
/- Small functions that the laws of layer 13 lean on. -/
namespace Go.Proofs.Ytgladinljapmkaa.Am
open Go Go.Proofs
set_option maxRecDepth 10000
set_option maxHeartbeats 2000000
set_option linter.unusedVariables false
set_option linter.unusedSimpArgs false
theorem below75 (a m : Int) : PCalls Try.prog 44 [.int .i64 a, .int .i64 m] (fun r => r = .bool (bel a m)) := by
  refine PCalls.of_body ttOk Try.func44 rfl ?_
  repeat' ((conv => whnf); first | (with_reducible first | refine onBool_intro (fun _ => ?_) (fun _ => ?_) | refine And.intro (Ob.mk (Nat.le_of_ble_eq_true rfl)) ?_ | refine And.intro (Ob.mk rfl) ?_ | exact ⟨rfl, rfl⟩ | refine And.intro (Ob.mk (fun h => h)) ?_) | (with_reducible refine Or.inl (And.intro (Ob.mk (Flat.map ?_)) ?_); exact fun _ => rfl) | (refine Or.inl (And.intro (Ob.mk (flat_of rfl)) ?_)) | (refine Or.inl (And.intro (Ob.mk ⟨rfl, rfl, rfl, rfl⟩) ?_)) | (refine Or.inl (And.intro (Ob.mk ⟨rfl, rfl, rfl⟩) ?_)) | (refine And.intro (Ob.mk ⟨rfl, rfl⟩) ?_) | (with_reducible refine Or.inr ?_) | (refine And.intro (Ob.mk (flat_of rfl)) ?_) | (with_reducible refine And.intro (Ob.mk (Flat.map ?_)) ?_; exact fun _ => rfl) | (with_reducible first | exact Ob.mk (Flat.map fun _ => rfl) | refine And.intro ?_ ?_ | apply exG.mk | apply exGS.mk | exact Dd.nil) | (refine Dd.same _ ?_) | (refine Dd.dead _ ?_) | (with_reducible first | apply exQ.mk | apply exP.mk) | (refine EqP.mk rfl rfl) | (with_reducible apply exW.mk) | (refine EqW.mk rfl) | (with_reducible first | intro _ | refine Dn.mk ?_) | (refine exS.full (by first | rfl | (simp; done) | (simp; omega)) ?_) | (refine And.intro (Ob.mk ⟨rfl, rfl, by first | rfl | (simp; done) | (simp; omega)⟩) ?_) | (with_reducible refine exE.mapD ?_) | (refine exL.int ?_) | (with_reducible first | refine Up0.mk rfl ?_ | refine Up0i.mk rfl ?_ | refine Up1.mk rfl ?_ | refine Up1i.mk rfl ?_ | refine Up2.mk rfl ?_ | refine Up2i.mk rfl ?_) | (refine Col.mk rfl rfl rfl ?_) | (refine Coli.mk rfl rfl rfl rfl ?_))
  all_goals exact congrArg T.bool (bel_eq _ _)
theorem below34 (a m : Int) : PCalls Try.prog 42 [.int .i64 a, .int .i64 m] (fun r => r = .bool (bel a m)) := by
  refine PCalls.of_body ttOk Try.func42 rfl ?_
  repeat' ((conv => whnf); first | (with_reducible first | refine onBool_intro (fun _ => ?_) (fun _ => ?_) | refine And.intro (Ob.mk (Nat.le_of_ble_eq_true rfl)) ?_ | refine And.intro (Ob.mk rfl) ?_ | exact ⟨rfl, rfl⟩ | refine And.intro (Ob.mk (fun h => h)) ?_) | (with_reducible refine Or.inl (And.intro (Ob.mk (Flat.map ?_)) ?_); exact fun _ => rfl) | (refine Or.inl (And.intro (Ob.mk (flat_of rfl)) ?_)) | (refine Or.inl (And.intro (Ob.mk ⟨rfl, rfl, rfl, rfl⟩) ?_)) | (refine Or.inl (And.intro (Ob.mk ⟨rfl, rfl, rfl⟩) ?_)) | (refine And.intro (Ob.mk ⟨rfl, rfl⟩) ?_) | (with_reducible refine Or.inr ?_) | (refine And.intro (Ob.mk (flat_of rfl)) ?_) | (with_reducible refine And.intro (Ob.mk (Flat.map ?_)) ?_; exact fun _ => rfl) | (with_reducible first | exact Ob.mk (Flat.map fun _ => rfl) | refine And.intro ?_ ?_ | apply exG.mk | apply exGS.mk | exact Dd.nil) | (refine Dd.same _ ?_) | (refine Dd.dead _ ?_) | (with_reducible first | apply exQ.mk | apply exP.mk) | (refine EqP.mk rfl rfl) | (with_reducible apply exW.mk) | (refine EqW.mk rfl) | (with_reducible first | intro _ | refine Dn.mk ?_) | (refine exS.full (by first | rfl | (simp; done) | (simp; omega)) ?_) | (refine And.intro (Ob.mk ⟨rfl, rfl, by first | rfl | (simp; done) | (simp; omega)⟩) ?_) | (with_reducible refine exE.mapD ?_) | (refine exL.int ?_) | (with_reducible first | refine Up0.mk rfl ?_ | refine Up0i.mk rfl ?_ | refine Up1.mk rfl ?_ | refine Up1i.mk rfl ?_ | refine Up2.mk rfl ?_ | refine Up2i.mk rfl ?_) | (refine Col.mk rfl rfl rfl ?_) | (refine Coli.mk rfl rfl rfl rfl ?_))
  all_goals exact congrArg T.bool (bel_eq _ _)
def kindN (op : Int) : Int := if op = 1 then 1 else if 2 ≤ op ∧ op ≤ 5 then 2 else if 6 ≤ op ∧ op ≤ 24 then 3 else if 25 ≤ op ∧ op ≤ 29 then op - 21 else if op = 30 then 9 else if op = 31 ∨ op = 32 then 10 else 0
def setsN (x : Ins) : Int := if kindN x.op = 0 ∨ kindN x.op = 5 ∨ kindN x.op = 7 ∨ kindN x.op = 10 then -1 else x.d
def usesN (x : Ins) : List Int :=
  if kindN x.op = 2 ∨ kindN x.op = 5 ∨ kindN x.op = 6 ∨ kindN x.op = 10 then [x.a] else if kindN x.op = 3 ∨ kindN x.op = 7 then [x.a, x.b] else if kindN x.op = 8 then x.args else []
def eUsesN (x : End) : List Int := if x.kind = 2 then [x.a, x.b] else if x.kind = 3 ∨ x.kind = 4 then [x.a] else if x.kind = 5 ∧ x.a ≠ -1 then [x.a] else []
end Go.Proofs.Ytgladinljapmkaa.Am

/- Rising lists of whole numbers. -/
namespace Go.Proofs.Ytgladinljapmkaa.Am
set_option linter.unusedVariables false
set_option linter.unusedSimpArgs false
def dd : List Int → List Int
  | [] => []
  | x :: xs => if x ∈ xs then dd xs else x :: dd xs
theorem dd_mem (x : Int) : ∀ l, x ∈ dd l ↔ x ∈ l
  | [] => Iff.rfl
  | y :: l => by
    unfold dd
    split
    · rename_i h
      rw [dd_mem x l, List.mem_cons]
      constructor
      · exact .inr
      · rintro (rfl | h')
        · exact h
        · exact h'
    · rw [List.mem_cons, dd_mem x l, List.mem_cons]
theorem dd_nodup : ∀ l, (dd l).Nodup
  | [] => List.nodup_nil
  | y :: l => by
    unfold dd
    split
    · exact dd_nodup l
    · rename_i h
      rw [List.nodup_cons, dd_mem]
      exact ⟨h, dd_nodup l⟩
theorem dd_length : ∀ l, (dd l).length ≤ l.length
  | [] => Nat.le_refl _
  | y :: l => by
    have := dd_length l
    unfold dd
    split <;> simp <;> omega
def srt (l : List Int) : List Int := (dd l).mergeSort fun x y => decide (x ≤ y)
theorem srt_mem (l : List Int) (x : Int) : x ∈ srt l ↔ x ∈ l := by
  unfold srt
  rw [(List.mergeSort_perm _ _).mem_iff, dd_mem]
theorem srt_length (l : List Int) : (srt l).length ≤ l.length := by
  unfold srt
  rw [List.length_mergeSort]
  exact dd_length l
theorem asc_of {l : List Int} (h1 : l.Pairwise (fun x y => x ≤ y)) (h2 : l.Nodup) : l.Pairwise (fun x y => x < y) := by
  induction l with
  | nil => exact .nil
  | cons x l ih =>
    rw [List.pairwise_cons] at h1 ⊢
    rw [List.nodup_cons] at h2
    refine ⟨fun y hy => ?_, ih h1.2 h2.2⟩
    have h3 := h1.1 y hy
    have h4 : x ≠ y := fun e => h2.1 (e ▸ hy)
    omega
theorem srt_asc (l : List Int) : (srt l).Pairwise (fun x y => x < y) := by
  refine asc_of ?_ ?_
  · have h := List.pairwise_mergeSort (le := fun x y : Int => decide (x ≤ y)) (fun a b c h1 h2 => by simp at *; omega) (fun a b => by simp; omega) (dd l)
    exact h.imp fun h => by simpa using h
  · exact (List.mergeSort_perm (dd l) fun x y : Int => decide (x ≤ y)).nodup_iff.2 (dd_nodup l)
theorem asc_unique : ∀ {a b : List Int}, a.Pairwise (fun x y => x < y) → b.Pairwise (fun x y => x < y) → (∀ x, x ∈ a ↔ x ∈ b) → a = b
  | [], [], _, _, _ => rfl
  | [], y :: b, _, _, h => by have := (h y).2 (by simp); simp at this
  | x :: a, [], _, _, h => by have := (h x).1 (by simp); simp at this
  | x :: a, y :: b, h1, h2, h => by
    rw [List.pairwise_cons] at h1 h2
    have hxy : x = y := by
      rcases List.mem_cons.1 ((h x).1 (by simp)) with e | hx
      · exact e
      · rcases List.mem_cons.1 ((h y).2 (by simp)) with e | hy
        · exact e.symm
        · have := h1.1 y hy; have := h2.1 x hx; omega
    subst hxy
    rw [asc_unique h1.2 h2.2 fun z => ?_]
    constructor
    · intro hz
      rcases List.mem_cons.1 ((h z).1 (by simp [hz])) with e | h'
      · have := h1.1 z hz; omega
      · exact h'
    · intro hz
      rcases List.mem_cons.1 ((h z).2 (by simp [hz])) with e | h'
      · have := h2.1 z hz; omega
      · exact h'
theorem srt_unique {a l : List Int} (h1 : a.Pairwise (fun x y => x < y)) (h2 : ∀ x, x ∈ a ↔ x ∈ l) : a = srt l := asc_unique h1 (srt_asc l) fun x => by rw [h2, srt_mem]
theorem srt_congr {a b : List Int} (h : ∀ x, x ∈ a ↔ x ∈ b) : srt a = srt b := srt_unique (srt_asc a) fun x => by rw [srt_mem, h]
def cand (s : List Int) (k : Nat) (x : Int) : Prop := k = 0 ∨ nthD s (k - 1) < x
theorem asc_lt {s : List Int} (hs : s.Pairwise (fun x y => x < y)) {i j : Nat} (hij : i < j) (hj : j < s.length) : nthD s i < nthD s j := by
  rw [nthD_get (by omega), nthD_get hj]
  exact List.pairwise_iff_getElem.1 hs i j (by omega) hj hij
theorem cand_idx {s : List Int} (hs : s.Pairwise (fun x y => x < y)) {k i : Nat} (hi : i < s.length) (hk : k ≤ s.length) : cand s k (nthD s i) ↔ k ≤ i := by
  unfold cand
  constructor
  · rintro (h | h)
    · omega
    · rcases Nat.lt_or_ge i k with h1 | h1
      · rcases Nat.eq_or_lt_of_le (show i ≤ k - 1 by omega) with h2 | h2
        · subst h2; omega
        · have := asc_lt hs h2 (by omega); omega
      · exact h1
  · intro h
    rcases Nat.eq_zero_or_pos k with h0 | h0
    · exact .inl h0
    · exact .inr (asc_lt hs (by omega) hi)
theorem cand_next {l : List Int} {k : Nat} (hk : k ≤ (srt l).length) {x : Int} (hx : x ∈ l) (hc : cand (srt l) k x) (hl : ∀ y ∈ l, cand (srt l) k y → x ≤ y) : k < (srt l).length ∧ x = nthD (srt l) k := by
  obtain ⟨i, hi, e⟩ := List.getElem_of_mem ((srt_mem l x).2 hx)
  have e' : nthD (srt l) i = x := by rw [nthD_get hi, e]
  rw [← e', cand_idx (srt_asc l) hi hk] at hc
  refine ⟨by omega, ?_⟩
  have hkm : nthD (srt l) k ∈ l := by rw [nthD_get (by omega)]; exact (srt_mem l _).1 (List.getElem_mem _)
  have h1 := hl _ hkm ((cand_idx (srt_asc l) (by omega) hk).2 (Nat.le_refl _))
  rcases Nat.eq_or_lt_of_le hc with h2 | h2
  · rw [h2, e']
  · have := asc_lt (srt_asc l) h2 hi; omega
theorem cand_none {l : List Int} {k : Nat} (hk : k ≤ (srt l).length) (hn : ∀ y ∈ l, ¬ cand (srt l) k y) : (srt l).length ≤ k := by
  rcases Nat.lt_or_ge k (srt l).length with h | h
  · exact absurd ((cand_idx (srt_asc l) h hk).2 (Nat.le_refl _)) (hn _ (by rw [nthD_get h]; exact (srt_mem l _).1 (List.getElem_mem _)))
  · exact h
end Go.Proofs.Ytgladinljapmkaa.Am

/- Where a block leads, by the document's answer; counts. -/
namespace Go.Proofs.Ytgladinljapmkaa.Am
open Go Go.Proofs
set_option maxRecDepth 10000
set_option maxHeartbeats 2000000
set_option linter.unusedVariables false
set_option linter.unusedSimpArgs false
def leastInv (s : List Int) (k : Nat) (l : List Int) (i : Nat) (f : Bool) (x : Int) : Prop :=
  (f = false → ∀ j, j < i → ¬ cand s k (nthD l j)) ∧ (f = true → x ∈ l ∧ cand s k x ∧ ∀ j, j < i → cand s k (nthD l j) → x ≤ nthD l j)
theorem least_last {s : List Int} {k n : Nat} (hk : k ≤ s.length) (hs : s.length ≤ n) (hn : n ≤ 2 ^ 21) (h1 : 1 ≤ k) : nthD (s.take k) (0 + (subI .i64 (k : Int) 1).toNat) = nthD s (k - 1) := by
  rw [subI_i64 (by omega) (by omega)]
  have e : 0 + ((k : Int) - 1).toNat = k - 1 := by omega
  rw [e]
  rw [nthD_get (by simp; omega), nthD_get (by omega), List.getElem_take]
theorem least_cond {l : List Int} {k i : Nat} {f : Bool} {x : Int} (hk : k ≤ (srt l).length) (hs : (srt l).length ≤ l.length) (hn : l.length ≤ 2 ^ 21)
    (h : (bif bif eqI k 0 then true else ltI (nthD ((srt l).take k) (0 + (subI .i64 (k : Int) 1).toNat)) (nthD l (i : Int).toNat) then bif !f then true else ltI (nthD l (i : Int).toNat) x else false) = true) :
    cand (srt l) k (nthD l i) ∧ (f = true → nthD l i < x) := by
  rw [Int.toNat_natCast] at h
  by_cases hk0 : k = 0
  · subst hk0
    refine ⟨.inl rfl, fun hf => ?_⟩
    subst hf
    simpa [eqI, ltI] using h
  · rw [least_last hk hs hn (by omega)] at h
    have he : eqI (k : Int) 0 = false := by rw [eqI_not]; omega
    rw [he] at h
    simp only [cond_false, bif_and, bif_or, Bool.and_eq_true, Bool.or_eq_true, ltI_iff, Bool.not_eq_true'] at h
    refine ⟨.inr h.1, fun hf => ?_⟩
    rcases h.2 with h2 | h2
    · rw [hf] at h2; cases h2
    · exact h2
theorem least_not {l : List Int} {k i : Nat} {f : Bool} {x : Int} (hk : k ≤ (srt l).length) (hs : (srt l).length ≤ l.length) (hn : l.length ≤ 2 ^ 21)
    (h : (bif bif eqI k 0 then true else ltI (nthD ((srt l).take k) (0 + (subI .i64 (k : Int) 1).toNat)) (nthD l (i : Int).toNat) then bif !f then true else ltI (nthD l (i : Int).toNat) x else false) = false) :
    cand (srt l) k (nthD l i) → f = true ∧ x ≤ nthD l i := by
  rw [Int.toNat_natCast] at h
  intro hc
  by_cases hk0 : k = 0
  · subst hk0
    cases f with
    | false => simp [eqI] at h
    | true => simpa [eqI, ltI] using h
  · rw [least_last hk hs hn (by omega)] at h
    have he : eqI (k : Int) 0 = false := by rw [eqI_not]; omega
    rw [he] at h
    have hlt : ltI (nthD (srt l) (k - 1)) (nthD l i) = true := by rw [ltI_iff]; exact hc.resolve_left hk0
    rw [hlt] at h
    cases f with
    | false => simp at h
    | true => simpa [ltI] using h
theorem least_take {s l : List Int} {k i : Nat} {f : Bool} {x : Int} (hi : i < l.length) (hinv : leastInv s k l i f x) (h1 : cand s k (nthD l i)) (h2 : f = true → nthD l i < x) : leastInv s k l (i + 1) true (nthD l i) := by
  refine ⟨(fun h => by cases h), fun _ => ⟨nthD_mem hi, h1, fun j hj hc => ?_⟩⟩
  rcases Nat.lt_or_ge j i with h | h
  · cases f with
    | false => exact absurd hc (hinv.1 rfl j h)
    | true => have := (hinv.2 rfl).2.2 j h hc; have := h2 rfl; omega
  · rw [show j = i by omega]; exact Int.le_refl _
theorem least_skip {s l : List Int} {k i : Nat} {f : Bool} {x : Int} (hi : i < l.length) (hinv : leastInv s k l i f x) (h : cand s k (nthD l i) → f = true ∧ x ≤ nthD l i) : leastInv s k l (i + 1) f x := by
  refine ⟨fun hf j hj hc => ?_, fun hf => ⟨(hinv.2 hf).1, (hinv.2 hf).2.1, fun j hj hc => ?_⟩⟩
  · rcases Nat.lt_or_ge j i with h' | h'
    · exact hinv.1 hf j h' hc
    · rw [show j = i by omega] at hc
      rw [(h hc).1] at hf
      cases hf
  · rcases Nat.lt_or_ge j i with h' | h'
    · exact (hinv.2 hf).2.2 j h' hc
    · rw [show j = i by omega] at hc ⊢
      exact (h hc).2
theorem sorted35 (l : List Int) (h : l.length ≤ 2 ^ 21) : PCalls Try.prog 43 [ilist l] (fun r => r = ilist (srt l)) := by
  have hsl := srt_length l
  refine PCalls.of_body ttOk Try.func43 rfl ?_
  repeat' ((conv => whnf); first | (with_reducible first | refine onBool_intro (fun _ => ?_) (fun _ => ?_) | refine And.intro (Ob.mk (Nat.le_of_ble_eq_true rfl)) ?_ | refine And.intro (Ob.mk rfl) ?_ | exact ⟨rfl, rfl⟩ | refine And.intro (Ob.mk (fun h => h)) ?_) | (with_reducible refine Or.inl (And.intro (Ob.mk (Flat.map ?_)) ?_); exact fun _ => rfl) | (refine Or.inl (And.intro (Ob.mk (flat_of rfl)) ?_)) | (refine Or.inl (And.intro (Ob.mk ⟨rfl, rfl, rfl, rfl⟩) ?_)) | (refine Or.inl (And.intro (Ob.mk ⟨rfl, rfl, rfl⟩) ?_)) | (refine And.intro (Ob.mk ⟨rfl, rfl⟩) ?_) | (with_reducible refine Or.inr ?_) | (refine And.intro (Ob.mk (flat_of rfl)) ?_) | (with_reducible refine And.intro (Ob.mk (Flat.map ?_)) ?_; exact fun _ => rfl) | (with_reducible first | exact Ob.mk (Flat.map fun _ => rfl) | refine And.intro ?_ ?_ | apply exG.mk | apply exGS.mk | exact Dd.nil) | (refine Dd.same _ ?_) | (refine Dd.dead _ ?_) | (with_reducible first | apply exQ.mk | apply exP.mk) | (refine EqP.mk rfl rfl) | (with_reducible apply exW.mk) | (refine EqW.mk rfl) | (with_reducible first | intro _ | refine Dn.mk ?_) | (refine exS.full (by first | rfl | (simp; done) | (simp; omega)) ?_) | (refine And.intro (Ob.mk ⟨rfl, rfl, by first | rfl | (simp; done) | (simp; omega)⟩) ?_) | (with_reducible refine exE.mapD ?_) | (refine exL.int ?_) | (with_reducible first | refine Up0.mk rfl ?_ | refine Up0i.mk rfl ?_ | refine Up1.mk rfl ?_ | refine Up1i.mk rfl ?_ | refine Up2.mk rfl ?_ | refine Up2i.mk rfl ?_) | (refine Col.mk rfl rfl rfl ?_) | (refine Coli.mk rfl rfl rfl rfl ?_))
  all_goals (try (refine Ob.mk ?_; first | assumption | exact ⟨rfl, rfl⟩ | exact ⟨rfl, rfl, rfl⟩ | (refine ⟨rfl, rfl, ?_⟩; simp only [List.length_map, List.length_take, List.length_append, els_len, List.length_replicate]; omega) | (intro h; exact h) | (intro h; rw [h]; rfl) | (intro h; simp_all; done) | (refine bytes_le (n := 1048577) ?_ rfl; simp only [ltI_iff, ltI_not, leI_iff, leI_not, eqI_iff, eqI_not, List.length_map, bif_and, bif_or, Bool.and_eq_true, Bool.and_eq_false_iff, Bool.or_eq_true, Bool.or_eq_false_iff, Bool.not_eq_true', Bool.not_eq_false', Int.toNat_natCast, beq_iff_eq, beq_eq_false_iff_ne, decide_eq_true_eq, decide_eq_false_iff_not, bel_iff, bel_not, wthn_iff, wthn_not, els_len, mixL_len, Nat.zero_add, List.length_set, List.length_take] at *; omega) | (simp only [ltI_iff, ltI_not, leI_iff, leI_not, eqI_iff, eqI_not, List.length_map, bif_and, bif_or, Bool.and_eq_true, Bool.and_eq_false_iff, Bool.or_eq_true, Bool.or_eq_false_iff, Bool.not_eq_true', Bool.not_eq_false', Int.toNat_natCast, beq_iff_eq, beq_eq_false_iff_ne, decide_eq_true_eq, decide_eq_false_iff_not, bel_iff, bel_not, wthn_iff, wthn_not, els_len, mixL_len, Nat.zero_add, List.length_set, List.length_take, Int.ofNat_eq_natCast] at *; omega)))
  conv => whnf
  refine LoopVC.mk [3] [(3, 3, 1)] (fun m vals σ => ∃ k : Nat, vals = [.osl 0 0 k] ∧ σ = [.row 3 1 (((srt l).take k).map fun n => .int .i64 n)] ∧ k ≤ (srt l).length ∧ m = (srt l).length - k) ?_ ?_
  · repeat' ((conv => whnf); first | (with_reducible first | refine onBool_intro (fun _ => ?_) (fun _ => ?_) | refine And.intro (Ob.mk (Nat.le_of_ble_eq_true rfl)) ?_ | refine And.intro (Ob.mk rfl) ?_ | exact ⟨rfl, rfl⟩ | refine And.intro (Ob.mk (fun h => h)) ?_) | (with_reducible refine Or.inl (And.intro (Ob.mk (Flat.map ?_)) ?_); exact fun _ => rfl) | (refine Or.inl (And.intro (Ob.mk (flat_of rfl)) ?_)) | (refine Or.inl (And.intro (Ob.mk ⟨rfl, rfl, rfl, rfl⟩) ?_)) | (refine Or.inl (And.intro (Ob.mk ⟨rfl, rfl, rfl⟩) ?_)) | (refine And.intro (Ob.mk ⟨rfl, rfl⟩) ?_) | (with_reducible refine Or.inr ?_) | (refine And.intro (Ob.mk (flat_of rfl)) ?_) | (with_reducible refine And.intro (Ob.mk (Flat.map ?_)) ?_; exact fun _ => rfl) | (with_reducible first | exact Ob.mk (Flat.map fun _ => rfl) | refine And.intro ?_ ?_ | apply exG.mk | apply exGS.mk | exact Dd.nil) | (refine Dd.same _ ?_) | (refine Dd.dead _ ?_) | (with_reducible first | apply exQ.mk | apply exP.mk) | (refine EqP.mk rfl rfl) | (with_reducible apply exW.mk) | (refine EqW.mk rfl) | (with_reducible first | intro _ | refine Dn.mk ?_) | (refine exS.full (by first | rfl | (simp; done) | (simp; omega)) ?_) | (refine And.intro (Ob.mk ⟨rfl, rfl, by first | rfl | (simp; done) | (simp; omega)⟩) ?_) | (with_reducible refine exE.mapD ?_) | (refine exL.int ?_) | (with_reducible first | refine Up0.mk rfl ?_ | refine Up0i.mk rfl ?_ | refine Up1.mk rfl ?_ | refine Up1i.mk rfl ?_ | refine Up2.mk rfl ?_ | refine Up2i.mk rfl ?_) | (refine Col.mk rfl rfl rfl ?_) | (refine Coli.mk rfl rfl rfl rfl ?_))
    exact ⟨(srt l).length, 0, rfl, rfl, Nat.zero_le _, rfl⟩
  · rintro m vals σ ⟨k, rfl, rfl, hk, rfl⟩
    repeat' ((conv => whnf); first | (with_reducible first | refine onBool_intro (fun _ => ?_) (fun _ => ?_) | refine And.intro (Ob.mk (Nat.le_of_ble_eq_true rfl)) ?_ | refine And.intro (Ob.mk rfl) ?_ | exact ⟨rfl, rfl⟩ | refine And.intro (Ob.mk (fun h => h)) ?_) | (with_reducible refine Or.inl (And.intro (Ob.mk (Flat.map ?_)) ?_); exact fun _ => rfl) | (refine Or.inl (And.intro (Ob.mk (flat_of rfl)) ?_)) | (refine Or.inl (And.intro (Ob.mk ⟨rfl, rfl, rfl, rfl⟩) ?_)) | (refine Or.inl (And.intro (Ob.mk ⟨rfl, rfl, rfl⟩) ?_)) | (refine And.intro (Ob.mk ⟨rfl, rfl⟩) ?_) | (with_reducible refine Or.inr ?_) | (refine And.intro (Ob.mk (flat_of rfl)) ?_) | (with_reducible refine And.intro (Ob.mk (Flat.map ?_)) ?_; exact fun _ => rfl) | (with_reducible first | exact Ob.mk (Flat.map fun _ => rfl) | refine And.intro ?_ ?_ | apply exG.mk | apply exGS.mk | exact Dd.nil) | (refine Dd.same _ ?_) | (refine Dd.dead _ ?_) | (with_reducible first | apply exQ.mk | apply exP.mk) | (refine EqP.mk rfl rfl) | (with_reducible apply exW.mk) | (refine EqW.mk rfl) | (with_reducible first | intro _ | refine Dn.mk ?_) | (refine exS.full (by first | rfl | (simp; done) | (simp; omega)) ?_) | (refine And.intro (Ob.mk ⟨rfl, rfl, by first | rfl | (simp; done) | (simp; omega)⟩) ?_) | (with_reducible refine exE.mapD ?_) | (refine exL.int ?_) | (with_reducible first | refine Up0.mk rfl ?_ | refine Up0i.mk rfl ?_ | refine Up1.mk rfl ?_ | refine Up1i.mk rfl ?_ | refine Up2.mk rfl ?_ | refine Up2i.mk rfl ?_) | (refine Col.mk rfl rfl rfl ?_) | (refine Coli.mk rfl rfl rfl rfl ?_))
    all_goals (try (refine Ob.mk ?_; first | assumption | exact ⟨rfl, rfl⟩ | exact ⟨rfl, rfl, rfl⟩ | (refine ⟨rfl, rfl, ?_⟩; simp only [List.length_map, List.length_take, List.length_append, els_len, List.length_replicate]; omega) | (intro h; exact h) | (intro h; rw [h]; rfl) | (intro h; simp_all; done) | (refine bytes_le (n := 1048577) ?_ rfl; simp only [ltI_iff, ltI_not, leI_iff, leI_not, eqI_iff, eqI_not, List.length_map, bif_and, bif_or, Bool.and_eq_true, Bool.and_eq_false_iff, Bool.or_eq_true, Bool.or_eq_false_iff, Bool.not_eq_true', Bool.not_eq_false', Int.toNat_natCast, beq_iff_eq, beq_eq_false_iff_ne, decide_eq_true_eq, decide_eq_false_iff_not, bel_iff, bel_not, wthn_iff, wthn_not, els_len, mixL_len, Nat.zero_add, List.length_set, List.length_take] at *; omega) | (simp only [ltI_iff, ltI_not, leI_iff, leI_not, eqI_iff, eqI_not, List.length_map, bif_and, bif_or, Bool.and_eq_true, Bool.and_eq_false_iff, Bool.or_eq_true, Bool.or_eq_false_iff, Bool.not_eq_true', Bool.not_eq_false', Int.toNat_natCast, beq_iff_eq, beq_eq_false_iff_ne, decide_eq_true_eq, decide_eq_false_iff_not, bel_iff, bel_not, wthn_iff, wthn_not, els_len, mixL_len, Nat.zero_add, List.length_set, List.length_take, Int.ofNat_eq_natCast] at *; omega)))
    · conv => whnf
      refine LoopVC.mk [6, 4, 5] [] (fun m vals σ => ∃ (i : Nat) (f : Bool) (x : Int), vals = [.t (.int .i64 i), .t (.bool f), .t (.int .i64 x)] ∧ σ = [.row 3 1 (((srt l).take k).map fun n => .int .i64 n)] ∧ i ≤ l.length ∧ m = l.length - i ∧ leastInv (srt l) k l i f x) ?_ ?_
      · repeat' ((conv => whnf); first | (with_reducible first | refine onBool_intro (fun _ => ?_) (fun _ => ?_) | refine And.intro (Ob.mk (Nat.le_of_ble_eq_true rfl)) ?_ | refine And.intro (Ob.mk rfl) ?_ | exact ⟨rfl, rfl⟩ | refine And.intro (Ob.mk (fun h => h)) ?_) | (with_reducible refine Or.inl (And.intro (Ob.mk (Flat.map ?_)) ?_); exact fun _ => rfl) | (refine Or.inl (And.intro (Ob.mk (flat_of rfl)) ?_)) | (refine Or.inl (And.intro (Ob.mk ⟨rfl, rfl, rfl, rfl⟩) ?_)) | (refine Or.inl (And.intro (Ob.mk ⟨rfl, rfl, rfl⟩) ?_)) | (refine And.intro (Ob.mk ⟨rfl, rfl⟩) ?_) | (with_reducible refine Or.inr ?_) | (refine And.intro (Ob.mk (flat_of rfl)) ?_) | (with_reducible refine And.intro (Ob.mk (Flat.map ?_)) ?_; exact fun _ => rfl) | (with_reducible first | exact Ob.mk (Flat.map fun _ => rfl) | refine And.intro ?_ ?_ | apply exG.mk | apply exGS.mk | exact Dd.nil) | (refine Dd.same _ ?_) | (refine Dd.dead _ ?_) | (with_reducible first | apply exQ.mk | apply exP.mk) | (refine EqP.mk rfl rfl) | (with_reducible apply exW.mk) | (refine EqW.mk rfl) | (with_reducible first | intro _ | refine Dn.mk ?_) | (refine exS.full (by first | rfl | (simp; done) | (simp; omega)) ?_) | (refine And.intro (Ob.mk ⟨rfl, rfl, by first | rfl | (simp; done) | (simp; omega)⟩) ?_) | (with_reducible refine exE.mapD ?_) | (refine exL.int ?_) | (with_reducible first | refine Up0.mk rfl ?_ | refine Up0i.mk rfl ?_ | refine Up1.mk rfl ?_ | refine Up1i.mk rfl ?_ | refine Up2.mk rfl ?_ | refine Up2i.mk rfl ?_) | (refine Col.mk rfl rfl rfl ?_) | (refine Coli.mk rfl rfl rfl rfl ?_))
        exact ⟨l.length, 0, false, 0, rfl, rfl, Nat.zero_le _, rfl, fun _ j hj => absurd hj (by omega), fun h => nomatch h⟩
      · rintro m vals σ ⟨i, f, x, rfl, rfl, hi, rfl, hinv⟩
        repeat' ((conv => whnf); first | (with_reducible first | refine onBool_intro (fun _ => ?_) (fun _ => ?_) | refine And.intro (Ob.mk (Nat.le_of_ble_eq_true rfl)) ?_ | refine And.intro (Ob.mk rfl) ?_ | exact ⟨rfl, rfl⟩ | refine And.intro (Ob.mk (fun h => h)) ?_) | (with_reducible refine Or.inl (And.intro (Ob.mk (Flat.map ?_)) ?_); exact fun _ => rfl) | (refine Or.inl (And.intro (Ob.mk (flat_of rfl)) ?_)) | (refine Or.inl (And.intro (Ob.mk ⟨rfl, rfl, rfl, rfl⟩) ?_)) | (refine Or.inl (And.intro (Ob.mk ⟨rfl, rfl, rfl⟩) ?_)) | (refine And.intro (Ob.mk ⟨rfl, rfl⟩) ?_) | (with_reducible refine Or.inr ?_) | (refine And.intro (Ob.mk (flat_of rfl)) ?_) | (with_reducible refine And.intro (Ob.mk (Flat.map ?_)) ?_; exact fun _ => rfl) | (with_reducible first | exact Ob.mk (Flat.map fun _ => rfl) | refine And.intro ?_ ?_ | apply exG.mk | apply exGS.mk | exact Dd.nil) | (refine Dd.same _ ?_) | (refine Dd.dead _ ?_) | (with_reducible first | apply exQ.mk | apply exP.mk) | (refine EqP.mk rfl rfl) | (with_reducible apply exW.mk) | (refine EqW.mk rfl) | (with_reducible first | intro _ | refine Dn.mk ?_) | (refine exS.full (by first | rfl | (simp; done) | (simp; omega)) ?_) | (refine And.intro (Ob.mk ⟨rfl, rfl, by first | rfl | (simp; done) | (simp; omega)⟩) ?_) | (with_reducible refine exE.mapD ?_) | (refine exL.int ?_) | (with_reducible first | refine Up0.mk rfl ?_ | refine Up0i.mk rfl ?_ | refine Up1.mk rfl ?_ | refine Up1i.mk rfl ?_ | refine Up2.mk rfl ?_ | refine Up2i.mk rfl ?_) | (refine Col.mk rfl rfl rfl ?_) | (refine Coli.mk rfl rfl rfl rfl ?_) | (refine drawVC.all _ _ (by kernel_rfl) ?_))
        all_goals (try (refine Ob.mk ?_; first | assumption | exact ⟨rfl, rfl⟩ | exact ⟨rfl, rfl, rfl⟩ | (refine ⟨rfl, rfl, ?_⟩; simp only [List.length_map, List.length_take, List.length_append, els_len, List.length_replicate]; omega) | (intro h; exact h) | (intro h; rw [h]; rfl) | (intro h; simp_all; done) | (refine bytes_le (n := 1048577) ?_ rfl; simp only [ltI_iff, ltI_not, leI_iff, leI_not, eqI_iff, eqI_not, List.length_map, bif_and, bif_or, Bool.and_eq_true, Bool.and_eq_false_iff, Bool.or_eq_true, Bool.or_eq_false_iff, Bool.not_eq_true', Bool.not_eq_false', Int.toNat_natCast, beq_iff_eq, beq_eq_false_iff_ne, decide_eq_true_eq, decide_eq_false_iff_not, bel_iff, bel_not, wthn_iff, wthn_not, els_len, mixL_len, Nat.zero_add, List.length_set, List.length_take] at *; omega) | (simp only [ltI_iff, ltI_not, leI_iff, leI_not, eqI_iff, eqI_not, List.length_map, bif_and, bif_or, Bool.and_eq_true, Bool.and_eq_false_iff, Bool.or_eq_true, Bool.or_eq_false_iff, Bool.not_eq_true', Bool.not_eq_false', Int.toNat_natCast, beq_iff_eq, beq_eq_false_iff_ne, decide_eq_true_eq, decide_eq_false_iff_not, bel_iff, bel_not, wthn_iff, wthn_not, els_len, mixL_len, Nat.zero_add, List.length_set, List.length_take, Int.ofNat_eq_natCast] at *; omega)))
        · refine Ob.mk ?_
          have hk1 : 1 ≤ k := by rename_i h1; simp only [ltI_iff, ltI_not, leI_iff, leI_not, eqI_iff, eqI_not, List.length_map, bif_and, bif_or, Bool.and_eq_true, Bool.and_eq_false_iff, Bool.or_eq_true, Bool.or_eq_false_iff, Bool.not_eq_true', Bool.not_eq_false', Int.toNat_natCast, beq_iff_eq, beq_eq_false_iff_ne, decide_eq_true_eq, decide_eq_false_iff_not] at *; omega
          rw [subI_i64 (by omega) (by omega)]; omega
        · refine Ob.mk ?_
          have hk1 : 1 ≤ k := by rename_i h1; simp only [ltI_iff, ltI_not, leI_iff, leI_not, eqI_iff, eqI_not, List.length_map, bif_and, bif_or, Bool.and_eq_true, Bool.and_eq_false_iff, Bool.or_eq_true, Bool.or_eq_false_iff, Bool.not_eq_true', Bool.not_eq_false', Int.toNat_natCast, beq_iff_eq, beq_eq_false_iff_ne, decide_eq_true_eq, decide_eq_false_iff_not] at *; omega
          rw [subI_i64 (by omega) (by omega)]; omega
        · refine Ob.mk ?_
          have hk1 : 1 ≤ k := by rename_i h1; simp only [ltI_iff, ltI_not, leI_iff, leI_not, eqI_iff, eqI_not, List.length_map, bif_and, bif_or, Bool.and_eq_true, Bool.and_eq_false_iff, Bool.or_eq_true, Bool.or_eq_false_iff, Bool.not_eq_true', Bool.not_eq_false', Int.toNat_natCast, beq_iff_eq, beq_eq_false_iff_ne, decide_eq_true_eq, decide_eq_false_iff_not] at *; omega
          rw [subI_i64 (by omega) (by omega)]; simp; omega
        · rename_i h1 h2
          have hlt : i < l.length := by simp only [ltI_iff, ltI_not, leI_iff, leI_not, eqI_iff, eqI_not, List.length_map, bif_and, bif_or, Bool.and_eq_true, Bool.and_eq_false_iff, Bool.or_eq_true, Bool.or_eq_false_iff, Bool.not_eq_true', Bool.not_eq_false', Int.toNat_natCast, beq_iff_eq, beq_eq_false_iff_ne, decide_eq_true_eq, decide_eq_false_iff_not] at *; omega
          conv => whnf
          refine ⟨l.length - (i + 1), by omega, i + 1, true, nthD l i, ?_, rfl, hlt, rfl, ?_⟩
          · rw [addI_i64 (by omega) (by omega)]; rfl
          · obtain ⟨h3, h4⟩ := least_cond hk hsl h h2
            exact least_take hlt hinv h3 h4
        · rename_i h1 h2
          have hlt : i < l.length := by simp only [ltI_iff, ltI_not, leI_iff, leI_not, eqI_iff, eqI_not, List.length_map, bif_and, bif_or, Bool.and_eq_true, Bool.and_eq_false_iff, Bool.or_eq_true, Bool.or_eq_false_iff, Bool.not_eq_true', Bool.not_eq_false', Int.toNat_natCast, beq_iff_eq, beq_eq_false_iff_ne, decide_eq_true_eq, decide_eq_false_iff_not] at *; omega
          conv => whnf
          refine ⟨l.length - (i + 1), by omega, i + 1, f, x, ?_, rfl, hlt, rfl, ?_⟩
          · rw [addI_i64 (by omega) (by omega)]; rfl
          · exact least_skip hlt hinv (least_not hk hsl h h2)
        · rename_i h1 h2
          have hge : l.length ≤ i := by simp only [ltI_iff, ltI_not, leI_iff, leI_not, eqI_iff, eqI_not, List.length_map, bif_and, bif_or, Bool.and_eq_true, Bool.and_eq_false_iff, Bool.or_eq_true, Bool.or_eq_false_iff, Bool.not_eq_true', Bool.not_eq_false', Int.toNat_natCast, beq_iff_eq, beq_eq_false_iff_ne, decide_eq_true_eq, decide_eq_false_iff_not] at *; omega
          have hf : f = false := by simpa using h2
          have hn := cand_none hk fun y hy => by
            obtain ⟨j, hj, e⟩ := List.getElem_of_mem hy
            have := hinv.1 hf j (by omega)
            rwa [nthD_get hj, e] at this
          show T.sl 1 _ = T.sl 1 _
          rw [List.take_of_length_le hn]
        · exact Ob.mk (bytes_le (n := 2097153) (by simp; omega) rfl)
        · rename_i h1 h2
          have hge : l.length ≤ i := by simp only [ltI_iff, ltI_not, leI_iff, leI_not, eqI_iff, eqI_not, List.length_map, bif_and, bif_or, Bool.and_eq_true, Bool.and_eq_false_iff, Bool.or_eq_true, Bool.or_eq_false_iff, Bool.not_eq_true', Bool.not_eq_false', Int.toNat_natCast, beq_iff_eq, beq_eq_false_iff_ne, decide_eq_true_eq, decide_eq_false_iff_not] at *; omega
          have hf : f = true := by simpa using h2
          obtain ⟨h3, h4, h5⟩ := hinv.2 hf
          obtain ⟨h6, h7⟩ := cand_next hk h3 h4 fun y hy hc => by
            obtain ⟨j, hj, e⟩ := List.getElem_of_mem hy
            have := h5 j (by omega)
            rw [nthD_get hj, e] at this
            exact this hc
          conv => whnf
          refine ⟨(srt l).length - (k + 1), by omega, k + 1, rfl, ?_, h6, rfl⟩
          rw [take_succ_nthD h6, List.map_append, h7]
          rfl
    · exfalso
      simp only [ltI_iff, ltI_not, leI_iff, leI_not, eqI_iff, eqI_not, List.length_map, bif_and, bif_or, Bool.and_eq_true, Bool.and_eq_false_iff, Bool.or_eq_true, Bool.or_eq_false_iff, Bool.not_eq_true', Bool.not_eq_false', Int.toNat_natCast, beq_iff_eq, beq_eq_false_iff_ne, decide_eq_true_eq, decide_eq_false_iff_not] at *
      omega
theorem sorted35k (l : List Int) (h : Ob (l.length ≤ 2 ^ 21)) {q : T → Prop} (hq : q (ilist (srt l))) : PCalls Try.prog 43 [.sl 1 (l.map fun n => .int .i64 n)] q := PCalls.mono (sorted35 l h.out) fun _ h => h ▸ hq
def allN (e : End) : List Int := if e.kind = 1 then [e.to] else if e.kind = 2 then [e.to, e.els] else if e.kind = 3 then e.to :: e.cases.map (·.to) else if e.kind = 4 then e.to :: e.targets else []
def nextN (g : Graph) (b : Int) : List Int := if bel b g.blocks.length = true then srt (allN (nthD g.blocks b.toNat).fin) else []
theorem sorted35t (l : List Int) {xs : List T} (hx : Ob (xs = l.map fun n => .int .i64 n)) (h : Ob (l.length ≤ 2 ^ 21)) {q : T → Prop} (hq : q (ilist (srt l))) : PCalls Try.prog 43 [.sl 1 xs] q := by rw [hx.out]; exact sorted35k l h hq
theorem srt_nil : srt [] = [] := List.eq_nil_of_length_eq_zero (Nat.le_zero.1 (srt_length []))
theorem sorted35n {q : T → Prop} (hq : q (ilist [])) : PCalls Try.prog 43 [.nsl] q := by
  refine PCalls.argsL (.cons (.nsl 1) .nil) (PCalls.mono (sorted35 [] (Nat.zero_le _)) ?_)
  rintro _ rfl
  rw [srt_nil]
  exact hq
theorem nthD_cases {α : Type} [Inhabited α] (l : List α) (i : Nat) : nthD l i ∈ l ∨ nthD l i = default := by
  rcases Nat.lt_or_ge i l.length with h | h
  · exact .inl (nthD_mem h)
  · refine .inr ?_
    unfold nthD
    rw [List.getElem?_eq_none h]
    rfl
theorem block_tiny (g : Graph) (hg : g.tiny) (i : Nat) : (nthD g.blocks i).tiny := by
  rcases nthD_cases g.blocks i with h | h
  · exact hg.all _ h
  · rw [h]
    exact ⟨Nat.zero_le _, (fun x hx => nomatch hx), (fun x hx => nomatch hx), Nat.zero_le _, Nat.zero_le _⟩
theorem all_len {b : Block} (h : b.tiny) : (allN b.fin).length ≤ 2 ^ 21 := by
  have h1 := h.cases
  have h2 := h.targets
  unfold allN
  repeat' split
  all_goals simp
  all_goals omega
theorem allN_1 {e : End} (h : eqI e.kind 1 = true) : allN e = [e.to] := by rw [eqI_iff] at h; simp [allN, h]
theorem allN_2 {e : End} (h : eqI e.kind 2 = true) : allN e = [e.to, e.els] := by rw [eqI_iff] at h; simp [allN, h]
theorem allN_3 {e : End} (h : eqI e.kind 3 = true) : allN e = e.to :: e.cases.map (·.to) := by rw [eqI_iff] at h; simp [allN, h]
theorem allN_4 {e : End} (h : eqI e.kind 4 = true) : allN e = e.to :: e.targets := by rw [eqI_iff] at h; simp [allN, h]
theorem allN_5 {e : End} (h1 : eqI e.kind 1 = false) (h2 : eqI e.kind 2 = false) (h3 : eqI e.kind 3 = false) (h4 : eqI e.kind 4 = false) : allN e = [] := by
  rw [eqI_not] at h1 h2 h3 h4
  simp [allN, *]
theorem nextN_in {g : Graph} {b : Int} (h : (!bel b ((g.blocks.map Block.t).length : Nat)) = false) : nextN g b = srt (allN (nthD g.blocks b.toNat).fin) := by
  unfold nextN
  rw [List.length_map] at h
  rw [if_pos (by simpa using h)]
theorem nextN_out {g : Graph} {b : Int} (h : (!bel b ((g.blocks.map Block.t).length : Nat)) = true) : nextN g b = [] := by
  unfold nextN
  rw [List.length_map] at h
  rw [if_neg (by simpa using h)]
abbrev evar (e : End) : SObj := .var 47 [.t (.int .i64 e.kind), .t (.int .i64 e.op), .t (.int .i64 e.a), .t (.int .i64 e.b), .t (.int .u32 e.n), .t (.int .i64 e.to), .t (.int .i64 e.els), .t (.sl 2 (e.cases.map Case.t)), .t (ilist e.targets)]
theorem next15 (g : Graph) (b : Int) (hg : g.tiny) : PCalls Try.prog 33 [g.t, .int .i64 b] (fun r => r = ilist (nextN g b)) := by
  refine PCalls.coarse ?_
  refine PCalls.of_body ttOk Try.func33 rfl ?_
  have hbt := block_tiny g hg b.toNat
  have hlen := all_len hbt
  have hcs := hbt.cases
  have hts := hbt.targets
  repeat' ((conv => whnf); first | (with_reducible first | refine onBool_intro (fun _ => ?_) (fun _ => ?_) | refine And.intro (Ob.mk (Nat.le_of_ble_eq_true rfl)) ?_ | refine And.intro (Ob.mk rfl) ?_ | exact ⟨rfl, rfl⟩ | refine And.intro (Ob.mk (fun h => h)) ?_) | (with_reducible refine Or.inl (And.intro (Ob.mk (Flat.map ?_)) ?_); exact fun _ => rfl) | (refine Or.inl (And.intro (Ob.mk (flat_of rfl)) ?_)) | (refine Or.inl (And.intro (Ob.mk ⟨rfl, rfl, rfl, rfl⟩) ?_)) | (refine Or.inl (And.intro (Ob.mk ⟨rfl, rfl, rfl⟩) ?_)) | (refine And.intro (Ob.mk ⟨rfl, rfl⟩) ?_) | (with_reducible refine Or.inr ?_) | (refine And.intro (Ob.mk (flat_of rfl)) ?_) | (with_reducible refine And.intro (Ob.mk (Flat.map ?_)) ?_; exact fun _ => rfl) | (with_reducible first | exact Ob.mk (Flat.map fun _ => rfl) | refine And.intro ?_ ?_ | apply exG.mk | apply exGS.mk | exact Dd.nil) | (refine Dd.same _ ?_) | (refine Dd.dead _ ?_) | (with_reducible first | apply exQ.mk | apply exP.mk) | (refine EqP.mk rfl rfl) | (with_reducible apply exW.mk) | (refine EqW.mk rfl) | (with_reducible first | intro _ | refine Dn.mk ?_) | (refine exS.full (by first | rfl | (simp; done) | (simp; omega)) ?_) | (refine And.intro (Ob.mk ⟨rfl, rfl, by first | rfl | (simp; done) | (simp; omega)⟩) ?_) | (with_reducible refine exE.mapD ?_) | (refine exL.int ?_) | (with_reducible first | refine Up0.mk rfl ?_ | refine Up0i.mk rfl ?_ | refine Up1.mk rfl ?_ | refine Up1i.mk rfl ?_ | refine Up2.mk rfl ?_ | refine Up2i.mk rfl ?_) | (refine Col.mk rfl rfl rfl ?_) | (refine Coli.mk rfl rfl rfl rfl ?_) | (refine PCalls.mono (below34 _ _) ?_; rintro _ rfl) | (refine sorted35t (allN (nthD g.blocks b.toNat).fin) ?_ ?_ ?_))
  all_goals (try (refine Ob.mk ?_; first | assumption | exact ⟨rfl, rfl⟩ | exact ⟨rfl, rfl, rfl⟩ | (refine ⟨rfl, rfl, ?_⟩; simp only [List.length_map, List.length_take, List.length_append, els_len, List.length_replicate]; omega) | (intro h; exact h) | (intro h; rw [h]; rfl) | (intro h; simp_all; done) | (refine bytes_le (n := 1048577) ?_ rfl; simp only [ltI_iff, ltI_not, leI_iff, leI_not, eqI_iff, eqI_not, List.length_map, bif_and, bif_or, Bool.and_eq_true, Bool.and_eq_false_iff, Bool.or_eq_true, Bool.or_eq_false_iff, Bool.not_eq_true', Bool.not_eq_false', Int.toNat_natCast, beq_iff_eq, beq_eq_false_iff_ne, decide_eq_true_eq, decide_eq_false_iff_not, bel_iff, bel_not, wthn_iff, wthn_not, els_len, mixL_len, Nat.zero_add, List.length_set, List.length_take] at *; omega) | (simp only [ltI_iff, ltI_not, leI_iff, leI_not, eqI_iff, eqI_not, List.length_map, bif_and, bif_or, Bool.and_eq_true, Bool.and_eq_false_iff, Bool.or_eq_true, Bool.or_eq_false_iff, Bool.not_eq_true', Bool.not_eq_false', Int.toNat_natCast, beq_iff_eq, beq_eq_false_iff_ne, decide_eq_true_eq, decide_eq_false_iff_not, bel_iff, bel_not, wthn_iff, wthn_not, els_len, mixL_len, Nat.zero_add, List.length_set, List.length_take, Int.ofNat_eq_natCast] at *; omega)))
  all_goals (try exact Ob.mk ⟨rfl, rfl, rfl, rfl⟩)
  all_goals (try exact Ob.mk ⟨rfl, rfl⟩)
  all_goals (try exact Ob.mk hlen)
  all_goals (try (show Le (.sl 1 _) _; rw [nextN_in (by assumption)]; exact Le.refl _))
  · rename_i h1
    show Le .nsl _
    rw [nextN_out h1]
    exact Le.nsl _
  · rename_i h1
    exact Ob.mk (by rw [allN_1 h1]; rfl)
  · rename_i h1
    exact Ob.mk (by rw [allN_2 h1]; rfl)
  · rename_i h0 _ _ h1
    conv => whnf
    refine LoopVC.mk [7, 6] [] (fun m vals σ => ∃ (i : Nat), vals = [.t (.int .i64 i), .osl 4 0 (i + 1)] ∧ σ = [gvar g, evar (nthD g.blocks b.toNat).fin, .row 3 1 [.int .i64 (nthD g.blocks b.toNat).fin.to], .dead, .row 3 1 (((nthD g.blocks b.toNat).fin.to :: ((nthD g.blocks b.toNat).fin.cases.take i).map (·.to)).map fun n => .int .i64 n)] ∧ i ≤ (nthD g.blocks b.toNat).fin.cases.length ∧ m = (nthD g.blocks b.toNat).fin.cases.length - i) ?_ ?_
    · conv => whnf
      exact ⟨(nthD g.blocks b.toNat).fin.cases.length, 0, rfl, rfl, Nat.zero_le _, rfl⟩
    · rintro m vals σ ⟨i, rfl, rfl, hi, rfl⟩
      repeat' ((conv => whnf); first | (with_reducible first | refine onBool_intro (fun _ => ?_) (fun _ => ?_) | refine And.intro (Ob.mk (Nat.le_of_ble_eq_true rfl)) ?_ | refine And.intro (Ob.mk rfl) ?_ | exact ⟨rfl, rfl⟩ | refine And.intro (Ob.mk (fun h => h)) ?_) | (with_reducible refine Or.inl (And.intro (Ob.mk (Flat.map ?_)) ?_); exact fun _ => rfl) | (refine Or.inl (And.intro (Ob.mk (flat_of rfl)) ?_)) | (refine Or.inl (And.intro (Ob.mk ⟨rfl, rfl, rfl, rfl⟩) ?_)) | (refine Or.inl (And.intro (Ob.mk ⟨rfl, rfl, rfl⟩) ?_)) | (refine And.intro (Ob.mk ⟨rfl, rfl⟩) ?_) | (with_reducible refine Or.inr ?_) | (refine And.intro (Ob.mk (flat_of rfl)) ?_) | (with_reducible refine And.intro (Ob.mk (Flat.map ?_)) ?_; exact fun _ => rfl) | (with_reducible first | exact Ob.mk (Flat.map fun _ => rfl) | refine And.intro ?_ ?_ | apply exG.mk | apply exGS.mk | exact Dd.nil) | (refine Dd.same _ ?_) | (refine Dd.dead _ ?_) | (with_reducible first | apply exQ.mk | apply exP.mk) | (refine EqP.mk rfl rfl) | (with_reducible apply exW.mk) | (refine EqW.mk rfl) | (with_reducible first | intro _ | refine Dn.mk ?_) | (refine exS.full (by first | rfl | (simp; done) | (simp; omega)) ?_) | (refine And.intro (Ob.mk ⟨rfl, rfl, by first | rfl | (simp; done) | (simp; omega)⟩) ?_) | (with_reducible refine exE.mapD ?_) | (refine exL.int ?_) | (with_reducible first | refine Up0.mk rfl ?_ | refine Up0i.mk rfl ?_ | refine Up1.mk rfl ?_ | refine Up1i.mk rfl ?_ | refine Up2.mk rfl ?_ | refine Up2i.mk rfl ?_) | (refine Col.mk rfl rfl rfl ?_) | (refine Coli.mk rfl rfl rfl rfl ?_) | (refine sorted35t (allN (nthD g.blocks b.toNat).fin) ?_ ?_ ?_))
      all_goals (try (refine Ob.mk ?_; first | assumption | exact ⟨rfl, rfl⟩ | exact ⟨rfl, rfl, rfl⟩ | (refine ⟨rfl, rfl, ?_⟩; simp only [List.length_map, List.length_take, List.length_append, els_len, List.length_replicate]; omega) | (intro h; exact h) | (intro h; rw [h]; rfl) | (intro h; simp_all; done) | (refine bytes_le (n := 1048577) ?_ rfl; simp only [ltI_iff, ltI_not, leI_iff, leI_not, eqI_iff, eqI_not, List.length_map, bif_and, bif_or, Bool.and_eq_true, Bool.and_eq_false_iff, Bool.or_eq_true, Bool.or_eq_false_iff, Bool.not_eq_true', Bool.not_eq_false', Int.toNat_natCast, beq_iff_eq, beq_eq_false_iff_ne, decide_eq_true_eq, decide_eq_false_iff_not, bel_iff, bel_not, wthn_iff, wthn_not, els_len, mixL_len, Nat.zero_add, List.length_set, List.length_take] at *; omega) | (simp only [ltI_iff, ltI_not, leI_iff, leI_not, eqI_iff, eqI_not, List.length_map, bif_and, bif_or, Bool.and_eq_true, Bool.and_eq_false_iff, Bool.or_eq_true, Bool.or_eq_false_iff, Bool.not_eq_true', Bool.not_eq_false', Int.toNat_natCast, beq_iff_eq, beq_eq_false_iff_ne, decide_eq_true_eq, decide_eq_false_iff_not, bel_iff, bel_not, wthn_iff, wthn_not, els_len, mixL_len, Nat.zero_add, List.length_set, List.length_take, Int.ofNat_eq_natCast] at *; omega)))
      · rename_i h2 h3
        have hlt : i < (nthD g.blocks b.toNat).fin.cases.length := by simp only [ltI_iff, ltI_not, leI_iff, leI_not, eqI_iff, eqI_not, List.length_map, bif_and, bif_or, Bool.and_eq_true, Bool.and_eq_false_iff, Bool.or_eq_true, Bool.or_eq_false_iff, Bool.not_eq_true', Bool.not_eq_false', Int.toNat_natCast, beq_iff_eq, beq_eq_false_iff_ne, decide_eq_true_eq, decide_eq_false_iff_not] at *; omega
        conv => whnf
        refine ⟨(nthD g.blocks b.toNat).fin.cases.length - (i + 1), by omega, i + 1, ?_, ?_, hlt, rfl⟩
        · rw [addI_i64 (by omega) (by omega)]; rfl
        · rw [take_succ_nthD hlt]
          simp only [List.map_append, List.map_cons, List.map_nil]
          rfl
      · rename_i h2 h3
        have hge : (nthD g.blocks b.toNat).fin.cases.length ≤ i := by simp only [ltI_iff, ltI_not, leI_iff, leI_not, eqI_iff, eqI_not, List.length_map, bif_and, bif_or, Bool.and_eq_true, Bool.and_eq_false_iff, Bool.or_eq_true, Bool.or_eq_false_iff, Bool.not_eq_true', Bool.not_eq_false', Int.toNat_natCast, beq_iff_eq, beq_eq_false_iff_ne, decide_eq_true_eq, decide_eq_false_iff_not] at *; omega
        refine Ob.mk ?_
        rw [allN_3 h1, List.take_of_length_le (l := (nthD g.blocks b.toNat).fin.cases) hge]
      · show Le (.sl 1 _) _; rw [nextN_in h0]; exact Le.refl _
  · rename_i h1
    refine Ob.mk ?_
    rw [allN_4 h1]
    rfl
  · rename_i h0 h1 h2 h3 h4
    repeat' ((conv => whnf); first | (with_reducible first | refine onBool_intro (fun _ => ?_) (fun _ => ?_) | refine And.intro (Ob.mk (Nat.le_of_ble_eq_true rfl)) ?_ | refine And.intro (Ob.mk rfl) ?_ | exact ⟨rfl, rfl⟩ | refine And.intro (Ob.mk (fun h => h)) ?_) | (with_reducible refine Or.inl (And.intro (Ob.mk (Flat.map ?_)) ?_); exact fun _ => rfl) | (refine Or.inl (And.intro (Ob.mk (flat_of rfl)) ?_)) | (refine Or.inl (And.intro (Ob.mk ⟨rfl, rfl, rfl, rfl⟩) ?_)) | (refine Or.inl (And.intro (Ob.mk ⟨rfl, rfl, rfl⟩) ?_)) | (refine And.intro (Ob.mk ⟨rfl, rfl⟩) ?_) | (with_reducible refine Or.inr ?_) | (refine And.intro (Ob.mk (flat_of rfl)) ?_) | (with_reducible refine And.intro (Ob.mk (Flat.map ?_)) ?_; exact fun _ => rfl) | (with_reducible first | exact Ob.mk (Flat.map fun _ => rfl) | refine And.intro ?_ ?_ | apply exG.mk | apply exGS.mk | exact Dd.nil) | (refine Dd.same _ ?_) | (refine Dd.dead _ ?_) | (with_reducible first | apply exQ.mk | apply exP.mk) | (refine EqP.mk rfl rfl) | (with_reducible apply exW.mk) | (refine EqW.mk rfl) | (with_reducible first | intro _ | refine Dn.mk ?_) | (refine exS.full (by first | rfl | (simp; done) | (simp; omega)) ?_) | (refine And.intro (Ob.mk ⟨rfl, rfl, by first | rfl | (simp; done) | (simp; omega)⟩) ?_) | (with_reducible refine exE.mapD ?_) | (refine exL.int ?_) | (with_reducible first | refine Up0.mk rfl ?_ | refine Up0i.mk rfl ?_ | refine Up1.mk rfl ?_ | refine Up1i.mk rfl ?_ | refine Up2.mk rfl ?_ | refine Up2i.mk rfl ?_) | (refine Col.mk rfl rfl rfl ?_) | (refine Coli.mk rfl rfl rfl rfl ?_) | (refine sorted35n ?_))
    show Le (.sl 1 _) _
    rw [nextN_in h0, allN_5 h1 h2 h3 h4, srt_nil]; exact Le.refl _
end Go.Proofs.Ytgladinljapmkaa.Am
