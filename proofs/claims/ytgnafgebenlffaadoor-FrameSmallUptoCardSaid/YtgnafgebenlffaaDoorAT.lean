/- FrameSmall: the law. -/
import Derived.Test.YtgnafgebenlffaaDoorAS
import Derived.Test.YtgnafgebenlffaaDoorAL
/- Frames: how they are laid, by the program. -/
namespace Go.Proofs.YtgnafgebenlffaaDoor.Am
open Go Go.Proofs
set_option maxRecDepth 10000
set_option maxHeartbeats 2000000
set_option linter.unusedVariables false
set_option linter.unusedSimpArgs false

/-- The least answer of a graph. -/
noncomputable def theA (g : Graph) : Nat → Nat → Bool := Classical.epsilon fun a => Least g 8000 a ∧ Inside g a
theorem theA_spec {g : Graph} {a : Nat → Nat → Bool} (h : Least g 8000 a) (hi : Inside g a) : Least g 8000 (theA g) ∧ Inside g (theA g) := Classical.epsilon_spec (p := fun a => Least g 8000 a ∧ Inside g a) ⟨a, h, hi⟩
theorem theA_eq {g : Graph} {a : Nat → Nat → Bool} (h : Least g 8000 a) (hi : Inside g a) {b t : Nat} (hb : b < g.blocks.length) (ht : t < 8000) : a b t = theA g b t := Least.one h (theA_spec h hi).1 hb ht
structure Graph.okF (g : Graph) : Prop extends g.mayF where
  arrs : arrsF g.arrays = true
def argsF (g : Graph) : Int := g.params.length + 2 * parsF g.arrays
def slotsF (g : Graph) : Int := if 9 < g.temps then g.temps - 9 else 0
noncomputable def savedF (g : Graph) : List Int := liveN 9 fun t => tr (keptF g (wordsF g.arrays) (theA g 0) t)
noncomputable def wdF (g : Graph) : Int := argsF g + (savedF g).length + slotsF g + wordsF g.arrays
noncomputable abbrev layO (g : Graph) : T := .agg [.int .i64 (argsF g), .nst 3 1 ((savedF g).map fun n => .int .i64 n), .int .i64 (slotsF g), .int .i64 (wordsF g.arrays), .int .i64 (wdF g)]
abbrev layZ : T := .agg [.int .i64 0, .nsl, .int .i64 0, .int .i64 0, .int .i64 0]
theorem arrsF_of {l : List Arr} (h : arrsF l = true) : l.length ≤ 500 ∧ l.all arrF = true ∧ wordsF l ≤ 1000 ∧ parsF l ≤ 8 := by
  unfold arrsF at h
  simp only [Bool.and_eq_true, decide_eq_true_eq] at h
  exact ⟨h.1.1.1, h.1.1.2, h.1.2, h.2⟩
theorem parsF_nn {l : List Arr} : 0 ≤ parsF l := by unfold parsF; omega
theorem wordsF_nn {l : List Arr} (h : l.all arrF = true) : 0 ≤ wordsF l := by
  induction l with
  | nil => exact Int.le_refl _
  | cons a l ih =>
    rw [List.all_cons, Bool.and_eq_true] at h
    have := ih h.2
    unfold wordsF at this ⊢
    by_cases hk : a.kind = 2
    · have h1 := h.1
      simp [arrF, hk, wthn_iff] at h1
      simp [hk]
      omega
    · simp [hk]
      exact this
theorem kept20k (g : Graph) (hg : g.tiny) (hw : ∀ b ∈ g.blocks, ∀ x ∈ allN b.fin, I64 x) (hf : g.fits) {q : T → Prop} (h : ∀ f, Marks f (keptF g (wordsF g.arrays) (theA g 0)) → q (.arr (intsF 9 f))) : PCalls Tryd.prog 20 [g.t, .int .i64 (wordsF g.arrays)] q :=
  PCalls.mono (kept20 g hg hw hf (wordsF g.arrays)) fun r hr => by
    obtain ⟨a, f, ha, hi, hm, rfl⟩ := hr.out
    refine h f (hm.to fun j hj => ?_)
    unfold keptF
    rw [theA_eq ha hi (by have := hf.one; omega) (by omega)]
theorem liveN_congr {n : Nat} {f f' : Nat → Bool} (h : ∀ t, t < n → f t = f' t) : liveN n f = liveN n f' := by
  unfold liveN
  refine congrArg _ (List.filter_congr fun t ht => h t (List.mem_range.1 ht))
theorem mul4 {x : Int} (h0 : 0 ≤ x) (h1 : x ≤ 10000) : mulI .i64 4 x = 4 * x := by
  unfold mulI; simp only [IntKind.wrap, IntKind.bits, IntKind.signed]; simp; omega
theorem lay8 (g : Graph) (hg : g.tiny) (hw : ∀ b ∈ g.blocks, ∀ x ∈ allN b.fin, I64 x) : PCalls Tryd.prog 8 [g.t] (fun r => Ob ((¬ g.okF ∧ r = .own (.tup [layZ, .int .i64 1])) ∨ (g.okF ∧ r = .own (.tup [layO g, .int .i64 0])))) := by
  refine PCalls.of_bodyO ttOk Tryd.func8 rfl ?_
  repeat' ((conv => whnf); first
    | (with_reducible refine onBool_intro (fun _ => ?_) (fun _ => ?_))
    | (with_reducible refine And.intro (Ob.mk (Nat.le_of_ble_eq_true rfl)) ?_)
    | (with_reducible refine And.intro (Ob.mk rfl) ?_)
    | (with_reducible exact ⟨rfl, rfl⟩)
    | (with_reducible refine And.intro (Ob.mk (fun h => h)) ?_)
    | (with_reducible refine Or.inl (And.intro (Ob.mk (Flat.map ?_)) ?_); exact fun _ => rfl)
    | (refine Or.inl (And.intro (Ob.mk (flat_of rfl)) ?_))
    | (refine Or.inl (And.intro (Ob.mk ⟨rfl, rfl, rfl, rfl⟩) ?_))
    | (refine Or.inl (And.intro (Ob.mk ⟨rfl, rfl, rfl⟩) ?_))
    | (refine And.intro (Ob.mk ⟨rfl, rfl⟩) ?_)
    | (with_reducible refine Or.inr ?_)
    | (refine And.intro (Ob.mk (flat_of rfl)) ?_)
    | (with_reducible refine And.intro (Ob.mk (Flat.map ?_)) ?_; exact fun _ => rfl)
    | (with_reducible exact Ob.mk (Flat.map fun _ => rfl))
    | (with_reducible refine And.intro ?_ ?_)
    | (with_reducible apply exG.mk) | (with_reducible apply exGS.mk) | (with_reducible exact Dd.nil) | (refine Dd.same _ ?_) | (refine Dd.dead _ ?_) | (with_reducible apply exQ.mk) | (with_reducible apply exP.mk) | (refine EqP.mk rfl rfl) | (with_reducible apply exW.mk) | (refine EqW.mk rfl)
    | (with_reducible intro _) | (with_reducible refine Dn.mk ?_)
    | (refine exS.full (by first | rfl | (simp; done) | (simp; omega)) ?_)
    | (refine And.intro (Ob.mk ⟨rfl, rfl, by first | rfl | (simp; done) | (simp; omega)⟩) ?_)
    | (with_reducible refine exE.mapD ?_) | (refine exL.int ?_)
    | (with_reducible refine Up0.mk rfl ?_) | (with_reducible refine Up0i.mk rfl ?_) | (with_reducible refine Up1.mk rfl ?_) | (with_reducible refine Up1i.mk rfl ?_) | (with_reducible refine Up2.mk rfl ?_) | (with_reducible refine Up2i.mk rfl ?_)
    | (refine Col.mk rfl rfl rfl ?_) | (refine Coli.mk rfl rfl rfl rfl ?_)
    | (refine words18k _ ?_ (fun ha => ?_) (fun ha w p => ?_))
    | (refine PCalls.mono (may19 g hg hw) ?_; rintro _ rfl)
    | (refine kept20k g hg hw ?_ fun f hf => ?_))
  all_goals (try (refine Ob.mk ?_; first | assumption | exact ⟨rfl, rfl⟩ | exact ⟨rfl, rfl, rfl⟩ | (refine ⟨rfl, rfl, ?_⟩; simp only [List.length_map, List.length_take, List.length_append, els_len, List.length_replicate]; omega) | (intro h; exact h) | (intro h; rw [h]; rfl) | (intro h; simp_all; done) | (refine bytes_le (n := 1048577) ?_ rfl; simp only [ltI_iff, ltI_not, leI_iff, leI_not, eqI_iff, eqI_not, List.length_map, bif_and, bif_or, Bool.and_eq_true, Bool.and_eq_false_iff, Bool.or_eq_true, Bool.or_eq_false_iff, Bool.not_eq_true', Bool.not_eq_false', Int.toNat_natCast, beq_iff_eq, beq_eq_false_iff_ne, decide_eq_true_eq, decide_eq_false_iff_not, bel_iff, bel_not, wthn_iff, wthn_not, els_len, mixL_len, Nat.zero_add, List.length_set, List.length_take] at *; omega) | (simp only [ltI_iff, ltI_not, leI_iff, leI_not, eqI_iff, eqI_not, List.length_map, bif_and, bif_or, Bool.and_eq_true, Bool.and_eq_false_iff, Bool.or_eq_true, Bool.or_eq_false_iff, Bool.not_eq_true', Bool.not_eq_false', Int.toNat_natCast, beq_iff_eq, beq_eq_false_iff_ne, decide_eq_true_eq, decide_eq_false_iff_not, bel_iff, bel_not, wthn_iff, wthn_not, els_len, mixL_len, Nat.zero_add, List.length_set, List.length_take, Int.ofNat_eq_natCast] at *; omega)))
  · exact Ob.mk hg.arrays
  · rename_i h1
    refine Ob.mk (.inl ⟨fun h => ?_, rfl⟩)
    rw [tr_t h.tomayF] at h1
    cases h1
  · rename_i h1 _
    by_cases hm : g.mayF
    · exact hm.fits
    · rw [tr_f hm] at h1
      cases h1
  · rename_i h1 _
    have hm : g.mayF := by
      by_cases hm : g.mayF
      · exact hm
      · rw [tr_f hm] at h1
        cases h1
    have hT := hm.fits.temps
    have h8 := hm.few
    obtain ⟨_, ha2, hw0, hp8⟩ := arrsF_of ha
    have hp0 := parsF_nn (l := g.arrays)
    have hw1 := wordsF_nn ha2
    have ea : addI .i64 ((g.params.map fun n => T.int .i64 n).length : Int) (mulI .i64 2 (parsF g.arrays)) = argsF g := by
      have : mulI .i64 2 (parsF g.arrays) = 2 * parsF g.arrays := by
        unfold mulI; simp only [IntKind.wrap, IntKind.bits, IntKind.signed]; simp; omega
      rw [this, List.length_map, addI_i64 (by omega) (by omega)]; rfl
    have es : maxI (subI .i64 g.temps 9) 0 = slotsF g := by
      rw [subI_i64 (by omega) (by omega)]
      unfold maxI slotsF
      split <;> split <;> omega
    conv => whnf
    rw [ea, es]
    refine LoopVC.mkA [40] [] [(2, 1, 3, 1)] [] (fun m vals σ => ∃ i : Nat, vals = [.t (.int .i64 i)] ∧ σ = [gvar g, .var 29 [.t (.int .i64 0), .t .nsl, .t (.int .i64 0), .t (.int .i64 0), .t (.int .i64 0)], .var 29 [.t (.int .i64 (argsF g)), .osl 3 0 (liveN i fun t => decide (f t ≠ 0)).length, .t (.int .i64 (slotsF g)), .t (.int .i64 (wordsF g.arrays)), .t (.int .i64 0)], .row 3 1 ((liveN i fun t => decide (f t ≠ 0)).map fun n => .int .i64 n)] ∧ i ≤ 9 ∧ m = 9 - i) ?_ ?_
    · repeat' ((conv => whnf); first
    | (with_reducible refine onBool_intro (fun _ => ?_) (fun _ => ?_))
    | (with_reducible refine And.intro (Ob.mk (Nat.le_of_ble_eq_true rfl)) ?_)
    | (with_reducible refine And.intro (Ob.mk rfl) ?_)
    | (with_reducible exact ⟨rfl, rfl⟩)
    | (with_reducible refine And.intro (Ob.mk (fun h => h)) ?_)
    | (with_reducible refine Or.inl (And.intro (Ob.mk (Flat.map ?_)) ?_); exact fun _ => rfl)
    | (refine Or.inl (And.intro (Ob.mk (flat_of rfl)) ?_))
    | (refine Or.inl (And.intro (Ob.mk ⟨rfl, rfl, rfl, rfl⟩) ?_))
    | (refine Or.inl (And.intro (Ob.mk ⟨rfl, rfl, rfl⟩) ?_))
    | (refine And.intro (Ob.mk ⟨rfl, rfl⟩) ?_)
    | (with_reducible refine Or.inr ?_)
    | (refine And.intro (Ob.mk (flat_of rfl)) ?_)
    | (with_reducible refine And.intro (Ob.mk (Flat.map ?_)) ?_; exact fun _ => rfl)
    | (with_reducible exact Ob.mk (Flat.map fun _ => rfl))
    | (with_reducible refine And.intro ?_ ?_)
    | (with_reducible apply exG.mk) | (with_reducible apply exGS.mk) | (with_reducible exact Dd.nil) | (refine Dd.same _ ?_) | (refine Dd.dead _ ?_) | (with_reducible apply exQ.mk) | (with_reducible apply exP.mk) | (refine EqP.mk rfl rfl) | (with_reducible apply exW.mk) | (refine EqW.mk rfl)
    | (with_reducible intro _) | (with_reducible refine Dn.mk ?_)
    | (refine exS.full (by first | rfl | (simp; done) | (simp; omega)) ?_)
    | (refine And.intro (Ob.mk ⟨rfl, rfl, by first | rfl | (simp; done) | (simp; omega)⟩) ?_)
    | (with_reducible refine exE.mapD ?_) | (refine exL.int ?_)
    | (with_reducible refine Up0.mk rfl ?_) | (with_reducible refine Up0i.mk rfl ?_) | (with_reducible refine Up1.mk rfl ?_) | (with_reducible refine Up1i.mk rfl ?_) | (with_reducible refine Up2.mk rfl ?_) | (with_reducible refine Up2i.mk rfl ?_)
    | (refine Col.mk rfl rfl rfl ?_) | (refine Coli.mk rfl rfl rfl rfl ?_))
      exact ⟨_, 0, rfl, rfl, by omega, rfl⟩
    · rintro m vals σ ⟨i, rfl, rfl, hi, rfl⟩
      have hl := liveN_len (n := i) (f := fun t => decide (f t ≠ 0))
      repeat' ((conv => whnf); first
    | (with_reducible refine onBool_intro (fun _ => ?_) (fun _ => ?_))
    | (with_reducible refine And.intro (Ob.mk (Nat.le_of_ble_eq_true rfl)) ?_)
    | (with_reducible refine And.intro (Ob.mk rfl) ?_)
    | (with_reducible exact ⟨rfl, rfl⟩)
    | (with_reducible refine And.intro (Ob.mk (fun h => h)) ?_)
    | (with_reducible refine Or.inl (And.intro (Ob.mk (Flat.map ?_)) ?_); exact fun _ => rfl)
    | (refine Or.inl (And.intro (Ob.mk (flat_of rfl)) ?_))
    | (refine Or.inl (And.intro (Ob.mk ⟨rfl, rfl, rfl, rfl⟩) ?_))
    | (refine Or.inl (And.intro (Ob.mk ⟨rfl, rfl, rfl⟩) ?_))
    | (refine And.intro (Ob.mk ⟨rfl, rfl⟩) ?_)
    | (with_reducible refine Or.inr ?_)
    | (refine And.intro (Ob.mk (flat_of rfl)) ?_)
    | (with_reducible refine And.intro (Ob.mk (Flat.map ?_)) ?_; exact fun _ => rfl)
    | (with_reducible exact Ob.mk (Flat.map fun _ => rfl))
    | (with_reducible refine And.intro ?_ ?_)
    | (with_reducible apply exG.mk) | (with_reducible apply exGS.mk) | (with_reducible exact Dd.nil) | (refine Dd.same _ ?_) | (refine Dd.dead _ ?_) | (with_reducible apply exQ.mk) | (with_reducible apply exP.mk) | (refine EqP.mk rfl rfl) | (with_reducible apply exW.mk) | (refine EqW.mk rfl)
    | (with_reducible intro _) | (with_reducible refine Dn.mk ?_)
    | (refine exS.full (by first | rfl | (simp; done) | (simp; omega)) ?_)
    | (refine And.intro (Ob.mk ⟨rfl, rfl, by first | rfl | (simp; done) | (simp; omega)⟩) ?_)
    | (with_reducible refine exE.mapD ?_) | (refine exL.int ?_)
    | (with_reducible refine Up0.mk rfl ?_) | (with_reducible refine Up0i.mk rfl ?_) | (with_reducible refine Up1.mk rfl ?_) | (with_reducible refine Up1i.mk rfl ?_) | (with_reducible refine Up2.mk rfl ?_) | (with_reducible refine Up2i.mk rfl ?_)
    | (refine Col.mk rfl rfl rfl ?_) | (refine Coli.mk rfl rfl rfl rfl ?_))
      all_goals (try (refine Ob.mk ?_; first | assumption | exact ⟨rfl, rfl⟩ | exact ⟨rfl, rfl, rfl⟩ | (refine ⟨rfl, rfl, ?_⟩; simp only [List.length_map, List.length_take, List.length_append, els_len, List.length_replicate]; omega) | (intro h; exact h) | (intro h; rw [h]; rfl) | (intro h; simp_all; done) | (refine bytes_le (n := 1048577) ?_ rfl; simp only [ltI_iff, ltI_not, leI_iff, leI_not, eqI_iff, eqI_not, List.length_map, bif_and, bif_or, Bool.and_eq_true, Bool.and_eq_false_iff, Bool.or_eq_true, Bool.or_eq_false_iff, Bool.not_eq_true', Bool.not_eq_false', Int.toNat_natCast, beq_iff_eq, beq_eq_false_iff_ne, decide_eq_true_eq, decide_eq_false_iff_not, bel_iff, bel_not, wthn_iff, wthn_not, els_len, mixL_len, Nat.zero_add, List.length_set, List.length_take] at *; omega) | (simp only [ltI_iff, ltI_not, leI_iff, leI_not, eqI_iff, eqI_not, List.length_map, bif_and, bif_or, Bool.and_eq_true, Bool.and_eq_false_iff, Bool.or_eq_true, Bool.or_eq_false_iff, Bool.not_eq_true', Bool.not_eq_false', Int.toNat_natCast, beq_iff_eq, beq_eq_false_iff_ne, decide_eq_true_eq, decide_eq_false_iff_not, bel_iff, bel_not, wthn_iff, wthn_not, els_len, mixL_len, Nat.zero_add, List.length_set, List.length_take, Int.ofNat_eq_natCast] at *; omega)))
      · rename_i h2 h3
        have h2 : i < 9 := by have := ltI_iff.1 h2; omega
        rw [Int.toNat_natCast, nthD_range h2, Bool.not_eq_true', eqI_not] at h3
        conv => whnf
        refine ⟨9 - (i + 1), by omega, i + 1, ?_, ?_, h2, rfl⟩
        · rw [addI_i64 (by omega) (by omega)]; rfl
        · rw [liveN_succ, if_pos (by simp [h3]), List.map_append, List.length_append]
          rfl
      · rename_i h2 h3
        have h2 : i < 9 := by have := ltI_iff.1 h2; omega
        rw [Int.toNat_natCast, nthD_range h2, Bool.not_eq_false', eqI_iff] at h3
        conv => whnf
        refine ⟨9 - (i + 1), by omega, i + 1, ?_, ?_, h2, rfl⟩
        · rw [addI_i64 (by omega) (by omega)]; rfl
        · rw [liveN_succ, if_neg (by simp [h3]), List.append_nil]; rfl
      · exact Ob.mk ⟨rfl, rfl, by simp⟩
      · exact Ob.mk clean_ints
      · rename_i h2 _
        have h2 : i = 9 := by have := ltI_not.1 h2; omega
        subst h2
        have hs : (liveN 9 fun t => decide (f t ≠ 0)) = savedF g := by
          unfold savedF
          refine liveN_congr fun t ht => ?_
          rw [Bool.eq_iff_iff, decide_eq_true_eq, tr_iff, hf.iff t ht]
        have hsl : slotsF g ≤ 8000 ∧ 0 ≤ slotsF g := by unfold slotsF; split <;> omega
        have hal : argsF g ≤ 24 ∧ 0 ≤ argsF g := by unfold argsF; omega
        refine Ob.mk (.inr ⟨⟨hm, ha⟩, ?_⟩)
        rw [hs] at hl ⊢
        rw [addI_i64 (x := argsF g) (by omega) (by omega), addI_i64 (x := argsF g + _) (by omega) (by omega), addI_i64 (x := argsF g + _ + _) (by omega) (by omega)]
        rfl
  · refine Ob.mk (.inl ⟨fun h => absurd (ha.symm.trans h.arrs) Bool.false_ne_true, rfl⟩)
/-- The bytes that a call takes. -/
noncomputable def wgtF (g : Graph) : Int := 4 * wdF g
theorem okF_rng {g : Graph} (h : g.okF) : 0 ≤ wdF g ∧ wdF g ≤ 10000 := by
  have h8 := h.few
  have hT := h.fits.temps
  obtain ⟨_, ha2, hw0, hp8⟩ := arrsF_of h.arrs
  have hp0 := parsF_nn (l := g.arrays)
  have hw1 := wordsF_nn ha2
  have hsl : slotsF g ≤ 8000 ∧ 0 ≤ slotsF g := by unfold slotsF; split <;> omega
  have hal : argsF g ≤ 24 ∧ 0 ≤ argsF g := by unfold argsF; omega
  have hl : (savedF g).length ≤ 9 := liveN_len
  unfold wdF
  omega
theorem lay8k (g : Graph) (hg : g.tiny) (hw : ∀ b ∈ g.blocks, ∀ x ∈ allN b.fin, I64 x) {q : T → Prop} (h1 : ¬ g.okF → ∀ e, e = 1 → q (.own (.tup [layZ, .int .i64 e]))) (h2 : g.okF → ∀ e, e = 0 → q (.own (.tup [layO g, .int .i64 e]))) : PCalls Tryd.prog 8 [g.t] q :=
  PCalls.mono (lay8 g hg hw) fun r h => by
    rcases h.out with ⟨h3, rfl⟩ | ⟨h3, rfl⟩
    · exact h1 h3 1 rfl
    · exact h2 h3 0 rfl
theorem weight10 (g : Graph) (hg : g.tiny) (hw : ∀ b ∈ g.blocks, ∀ x ∈ allN b.fin, I64 x) : PCalls Tryd.prog 10 [g.t] (fun r => Ob ((¬ g.okF ∧ r = .tup [.int .i64 0, .int .i64 1]) ∨ (g.okF ∧ r = .tup [.int .i64 (wgtF g), .int .i64 0]))) := by
  refine PCalls.of_body ttOk Tryd.func10 rfl ?_
  repeat' ((conv => whnf); first
    | (with_reducible refine onBool_intro (fun _ => ?_) (fun _ => ?_))
    | (with_reducible refine And.intro (Ob.mk (Nat.le_of_ble_eq_true rfl)) ?_)
    | (with_reducible refine And.intro (Ob.mk rfl) ?_)
    | (with_reducible exact ⟨rfl, rfl⟩)
    | (with_reducible refine And.intro (Ob.mk (fun h => h)) ?_)
    | (with_reducible refine Or.inl (And.intro (Ob.mk (Flat.map ?_)) ?_); exact fun _ => rfl)
    | (refine Or.inl (And.intro (Ob.mk (flat_of rfl)) ?_))
    | (refine Or.inl (And.intro (Ob.mk ⟨rfl, rfl, rfl, rfl⟩) ?_))
    | (refine Or.inl (And.intro (Ob.mk ⟨rfl, rfl, rfl⟩) ?_))
    | (refine And.intro (Ob.mk ⟨rfl, rfl⟩) ?_)
    | (with_reducible refine Or.inr ?_)
    | (refine And.intro (Ob.mk (flat_of rfl)) ?_)
    | (with_reducible refine And.intro (Ob.mk (Flat.map ?_)) ?_; exact fun _ => rfl)
    | (with_reducible exact Ob.mk (Flat.map fun _ => rfl))
    | (with_reducible refine And.intro ?_ ?_)
    | (with_reducible apply exG.mk) | (with_reducible apply exGS.mk) | (with_reducible exact Dd.nil) | (refine Dd.same _ ?_) | (refine Dd.dead _ ?_) | (with_reducible apply exQ.mk) | (with_reducible apply exP.mk) | (refine EqP.mk rfl rfl) | (with_reducible apply exW.mk) | (refine EqW.mk rfl)
    | (with_reducible intro _) | (with_reducible refine Dn.mk ?_)
    | (refine exS.full (by first | rfl | (simp; done) | (simp; omega)) ?_)
    | (refine And.intro (Ob.mk ⟨rfl, rfl, by first | rfl | (simp; done) | (simp; omega)⟩) ?_)
    | (with_reducible refine exE.mapD ?_) | (refine exL.int ?_)
    | (with_reducible refine Up0.mk rfl ?_) | (with_reducible refine Up0i.mk rfl ?_) | (with_reducible refine Up1.mk rfl ?_) | (with_reducible refine Up1i.mk rfl ?_) | (with_reducible refine Up2.mk rfl ?_) | (with_reducible refine Up2i.mk rfl ?_)
    | (refine Col.mk rfl rfl rfl ?_) | (refine Coli.mk rfl rfl rfl rfl ?_)
    | (refine lay8k g hg hw (fun h e he => ?_) (fun h e he => ?_)))
  all_goals (try (refine Ob.mk ?_; first | assumption | exact ⟨rfl, rfl⟩ | exact ⟨rfl, rfl, rfl⟩ | (refine ⟨rfl, rfl, ?_⟩; simp only [List.length_map, List.length_take, List.length_append, els_len, List.length_replicate]; omega) | (intro h; exact h) | (intro h; rw [h]; rfl) | (intro h; simp_all; done) | (refine bytes_le (n := 1048577) ?_ rfl; simp only [ltI_iff, ltI_not, leI_iff, leI_not, eqI_iff, eqI_not, List.length_map, bif_and, bif_or, Bool.and_eq_true, Bool.and_eq_false_iff, Bool.or_eq_true, Bool.or_eq_false_iff, Bool.not_eq_true', Bool.not_eq_false', Int.toNat_natCast, beq_iff_eq, beq_eq_false_iff_ne, decide_eq_true_eq, decide_eq_false_iff_not, bel_iff, bel_not, wthn_iff, wthn_not, els_len, mixL_len, Nat.zero_add, List.length_set, List.length_take] at *; omega) | (simp only [ltI_iff, ltI_not, leI_iff, leI_not, eqI_iff, eqI_not, List.length_map, bif_and, bif_or, Bool.and_eq_true, Bool.and_eq_false_iff, Bool.or_eq_true, Bool.or_eq_false_iff, Bool.not_eq_true', Bool.not_eq_false', Int.toNat_natCast, beq_iff_eq, beq_eq_false_iff_ne, decide_eq_true_eq, decide_eq_false_iff_not, bel_iff, bel_not, wthn_iff, wthn_not, els_len, mixL_len, Nat.zero_add, List.length_set, List.length_take, Int.ofNat_eq_natCast] at *; omega)))
  · subst he
    rw [mul4 (by omega) (by omega)]
    exact Ob.mk (.inl ⟨h, rfl⟩)
  · subst he
    have := okF_rng h
    rw [mul4 this.1 this.2]
    exact Ob.mk (.inr ⟨h, rfl⟩)
end Go.Proofs.YtgnafgebenlffaaDoor.Am

/- Frames: how they are laid, by the document's answer. -/
namespace Go.Proofs.YtgnafgebenlffaaDoor.Am
open Go Go.Proofs
set_option maxRecDepth 10000
set_option maxHeartbeats 2000000
set_option linter.unusedVariables false
set_option linter.unusedSimpArgs false

theorem stepC_out {n : Nat} {t : Nat} (ht : n ≤ t) {f : Nat → Bool} (hf : f t = false) : ∀ {l : List Ins}, (∀ x ∈ l, ∀ u ∈ usesN x, u < (n : Int)) → stepC l f t = false
  | [], _ => hf
  | x :: l, h => by
    rw [stepC_cons]
    unfold backF
    rw [stepC_out ht hf fun y hy => h y (by simp [hy])]
    have : (usesN x).contains (t : Int) = false := by
      rw [Bool.eq_false_iff]
      intro hc
      have := h x (by simp) _ (List.contains_iff_mem.1 hc)
      omega
    rw [this]
    simp
/-- The least answer, told of more temps than there are. -/
theorem Least.ext {g : Graph} (hg : g.tiny) (hf : g.fits) {a : Nat → Nat → Bool} (h : Least g g.temps.toNat a) : Least g 8000 (fun b t => decide (t < g.temps.toNat) && a b t) ∧ Inside g (fun b t => decide (t < g.temps.toNat) && a b t) := by
  have hF := fits_fit hg hf
  have hT := hf.temps
  have l1 : LeB g.blocks.length g.temps.toNat a (fun b t => decide (t < g.temps.toNat) && a b t) := fun b hb t ht h => by simp [ht, h]
  have l2 : LeB g.blocks.length g.temps.toNat (fun b t => decide (t < g.temps.toNat) && a b t) a := fun b hb t ht h => by simpa [ht] using h
  have hout : ∀ b, b < g.blocks.length → ∀ t, g.temps.toNat ≤ t → stepF g (fun b t => decide (t < g.temps.toNat) && a b t) b t = false := by
    intro b hb t ht
    unfold stepF
    refine stepC_out (n := g.temps.toNat) ht ?_ fun x hx u hu => ?_
    · unfold endF
      have h1 : (eUsesN (nthD g.blocks b).fin).contains (t : Int) = false := by
        rw [Bool.eq_false_iff]
        intro hc
        have := hF.ends _ (nthD_mem hb) _ (List.contains_iff_mem.1 hc)
        omega
      have h2 : ((nextN g b).any fun s => decide (t < g.temps.toNat) && a s.toNat t) = false := by
        rw [List.any_eq_false]
        intro s hs
        simp
        omega
      rw [h1, h2]; rfl
    · have := hF.uses _ (nthD_mem hb) _ hx _ hu
      omega
  refine ⟨⟨⟨fun b hb t ht h1 => ?_, fun p hp b hb t ht h1 => ?_⟩, fun b hb t ht h1 => ?_⟩, fun b hb t ht h1 => ?_⟩
  · have h2 : t < g.temps.toNat := by simp at h1; omega
    exact stepF_mono hF.next l1 hb h2 (h.up b hb t h2 (l2 b hb t h2 h1))
  · have h2 : t < g.temps.toNat := by simp at h1; omega
    exact h.least p (fun b hb t ht h => hp b hb t (by omega) h) b hb t h2 (l2 b hb t h2 h1)
  · rcases Nat.lt_or_ge t g.temps.toNat with h2 | h2
    · exact l1 b hb t h2 (h.down b hb t h2 (stepF_mono hF.next l2 hb h2 h1))
    · rw [hout b hb t h2] at h1
      cases h1
  · simp at h1
    omega
def MarksB (p : Nat → Bool) (K : Nat → Prop) : Prop := ∀ j, j < 9 → (p j = true ↔ K j)
theorem MarksB.set {p : Nat → Bool} {K : Nat → Prop} (h : MarksB p K) (t : Nat) : MarksB (fun j => if j = t then true else p j) fun j => K j ∨ j = t := fun j hj => by
  by_cases e : j = t
  · simp [e]
  · simp [e, h j hj]
theorem MarksB.to {p : Nat → Bool} {K K' : Nat → Prop} (h : MarksB p K) (e : ∀ j, j < 9 → (K j ↔ K' j)) : MarksB p K' := fun j hj => (h j hj).trans (e j hj)
end Go.Proofs.YtgnafgebenlffaaDoor.Am

/- Are two graphs the same? (By the functions of the laws of layer 10.) -/
namespace Go.Proofs.YtgnafgebenlffaaDoor.Am
open Go Go.Proofs
set_option maxRecDepth 10000
set_option maxHeartbeats 2000000
set_option linter.unusedVariables false
set_option linter.unusedSimpArgs false

theorem take_succ_eq {α : Type} [Inhabited α] {a b : List α} {i : Nat} (ha : i < a.length) (hb : i < b.length) (h : a.take i = b.take i) (h1 : nthD a i = nthD b i) : a.take (i + 1) = b.take (i + 1) := by
  rw [take_succ_nthD ha, take_succ_nthD hb, h, h1]
theorem eq_of_take {α : Type} {a b : List α} {i : Nat} (ha : a.length ≤ i) (hl : a.length = b.length) (h : a.take i = b.take i) : a = b := by
  rwa [List.take_of_length_le ha, List.take_of_length_le (by omega)] at h
theorem sameInts (a b : List Int) : PCalls Tryd.prog 25 [ilist a, ilist b] (fun r => r = .bool (a == b)) := by
  refine PCalls.of_body ttOk Tryd.func25 rfl ?_
  repeat' ((conv => whnf); first
    | (with_reducible refine onBool_intro (fun _ => ?_) (fun _ => ?_))
    | (with_reducible refine And.intro (Ob.mk (Nat.le_of_ble_eq_true rfl)) ?_)
    | (with_reducible refine And.intro (Ob.mk rfl) ?_)
    | (with_reducible exact ⟨rfl, rfl⟩)
    | (with_reducible refine And.intro (Ob.mk (fun h => h)) ?_)
    | (with_reducible refine Or.inl (And.intro (Ob.mk (Flat.map ?_)) ?_); exact fun _ => rfl)
    | (refine Or.inl (And.intro (Ob.mk (flat_of rfl)) ?_))
    | (refine Or.inl (And.intro (Ob.mk ⟨rfl, rfl, rfl, rfl⟩) ?_))
    | (refine Or.inl (And.intro (Ob.mk ⟨rfl, rfl, rfl⟩) ?_))
    | (refine And.intro (Ob.mk ⟨rfl, rfl⟩) ?_)
    | (with_reducible refine Or.inr ?_)
    | (refine And.intro (Ob.mk (flat_of rfl)) ?_)
    | (with_reducible refine And.intro (Ob.mk (Flat.map ?_)) ?_; exact fun _ => rfl)
    | (with_reducible exact Ob.mk (Flat.map fun _ => rfl))
    | (with_reducible refine And.intro ?_ ?_)
    | (with_reducible apply exG.mk) | (with_reducible apply exGS.mk) | (with_reducible exact Dd.nil) | (refine Dd.same _ ?_) | (refine Dd.dead _ ?_) | (with_reducible apply exQ.mk) | (with_reducible apply exP.mk) | (refine EqP.mk rfl rfl) | (with_reducible apply exW.mk) | (refine EqW.mk rfl)
    | (with_reducible intro _) | (with_reducible refine Dn.mk ?_)
    | (refine exS.full (by first | rfl | (simp; done) | (simp; omega)) ?_)
    | (refine And.intro (Ob.mk ⟨rfl, rfl, by first | rfl | (simp; done) | (simp; omega)⟩) ?_)
    | (with_reducible refine exE.mapD ?_) | (refine exL.int ?_)
    | (with_reducible refine Up0.mk rfl ?_) | (with_reducible refine Up0i.mk rfl ?_) | (with_reducible refine Up1.mk rfl ?_) | (with_reducible refine Up1i.mk rfl ?_) | (with_reducible refine Up2.mk rfl ?_) | (with_reducible refine Up2i.mk rfl ?_)
    | (refine Col.mk rfl rfl rfl ?_) | (refine Coli.mk rfl rfl rfl rfl ?_))
  · rename_i h
    simp only [ltI_iff, ltI_not, leI_iff, leI_not, eqI_iff, eqI_not, List.length_map, bif_and, bif_or, Bool.and_eq_true, Bool.and_eq_false_iff, Bool.or_eq_true, Bool.or_eq_false_iff, Bool.not_eq_true', Bool.not_eq_false', Int.toNat_natCast, beq_iff_eq, beq_eq_false_iff_ne, decide_eq_true_eq, decide_eq_false_iff_not] at *
    show T.bool false = T.bool (a == b)
    rw [Eq.comm (a := T.bool false), T.bool.injEq, beq_eq_false_iff_ne]
    rintro rfl
    exact h rfl
  · conv => whnf
    rename_i h
    simp only [ltI_iff, ltI_not, leI_iff, leI_not, eqI_iff, eqI_not, List.length_map, bif_and, bif_or, Bool.and_eq_true, Bool.and_eq_false_iff, Bool.or_eq_true, Bool.or_eq_false_iff, Bool.not_eq_true', Bool.not_eq_false', Int.toNat_natCast, beq_iff_eq, beq_eq_false_iff_ne, decide_eq_true_eq, decide_eq_false_iff_not] at *
    have hl : a.length = b.length := by omega
    refine LoopVC.up0 5 a.length (fun i => a.take i = b.take i) ?_ ?_
    · repeat' ((conv => whnf); first
    | (with_reducible refine onBool_intro (fun _ => ?_) (fun _ => ?_))
    | (with_reducible refine And.intro (Ob.mk (Nat.le_of_ble_eq_true rfl)) ?_)
    | (with_reducible refine And.intro (Ob.mk rfl) ?_)
    | (with_reducible exact ⟨rfl, rfl⟩)
    | (with_reducible refine And.intro (Ob.mk (fun h => h)) ?_)
    | (with_reducible refine Or.inl (And.intro (Ob.mk (Flat.map ?_)) ?_); exact fun _ => rfl)
    | (refine Or.inl (And.intro (Ob.mk (flat_of rfl)) ?_))
    | (refine Or.inl (And.intro (Ob.mk ⟨rfl, rfl, rfl, rfl⟩) ?_))
    | (refine Or.inl (And.intro (Ob.mk ⟨rfl, rfl, rfl⟩) ?_))
    | (refine And.intro (Ob.mk ⟨rfl, rfl⟩) ?_)
    | (with_reducible refine Or.inr ?_)
    | (refine And.intro (Ob.mk (flat_of rfl)) ?_)
    | (with_reducible refine And.intro (Ob.mk (Flat.map ?_)) ?_; exact fun _ => rfl)
    | (with_reducible exact Ob.mk (Flat.map fun _ => rfl))
    | (with_reducible refine And.intro ?_ ?_)
    | (with_reducible apply exG.mk) | (with_reducible apply exGS.mk) | (with_reducible exact Dd.nil) | (refine Dd.same _ ?_) | (refine Dd.dead _ ?_) | (with_reducible apply exQ.mk) | (with_reducible apply exP.mk) | (refine EqP.mk rfl rfl) | (with_reducible apply exW.mk) | (refine EqW.mk rfl)
    | (with_reducible intro _) | (with_reducible refine Dn.mk ?_)
    | (refine exS.full (by first | rfl | (simp; done) | (simp; omega)) ?_)
    | (refine And.intro (Ob.mk ⟨rfl, rfl, by first | rfl | (simp; done) | (simp; omega)⟩) ?_)
    | (with_reducible refine exE.mapD ?_) | (refine exL.int ?_)
    | (with_reducible refine Up0.mk rfl ?_) | (with_reducible refine Up0i.mk rfl ?_) | (with_reducible refine Up1.mk rfl ?_) | (with_reducible refine Up1i.mk rfl ?_) | (with_reducible refine Up2.mk rfl ?_) | (with_reducible refine Up2i.mk rfl ?_)
    | (refine Col.mk rfl rfl rfl ?_) | (refine Coli.mk rfl rfl rfl rfl ?_))
      exact Ob.mk rfl
    · intro i hi he
      repeat' ((conv => whnf); first
    | (with_reducible refine onBool_intro (fun _ => ?_) (fun _ => ?_))
    | (with_reducible refine And.intro (Ob.mk (Nat.le_of_ble_eq_true rfl)) ?_)
    | (with_reducible refine And.intro (Ob.mk rfl) ?_)
    | (with_reducible exact ⟨rfl, rfl⟩)
    | (with_reducible refine And.intro (Ob.mk (fun h => h)) ?_)
    | (with_reducible refine Or.inl (And.intro (Ob.mk (Flat.map ?_)) ?_); exact fun _ => rfl)
    | (refine Or.inl (And.intro (Ob.mk (flat_of rfl)) ?_))
    | (refine Or.inl (And.intro (Ob.mk ⟨rfl, rfl, rfl, rfl⟩) ?_))
    | (refine Or.inl (And.intro (Ob.mk ⟨rfl, rfl, rfl⟩) ?_))
    | (refine And.intro (Ob.mk ⟨rfl, rfl⟩) ?_)
    | (with_reducible refine Or.inr ?_)
    | (refine And.intro (Ob.mk (flat_of rfl)) ?_)
    | (with_reducible refine And.intro (Ob.mk (Flat.map ?_)) ?_; exact fun _ => rfl)
    | (with_reducible exact Ob.mk (Flat.map fun _ => rfl))
    | (with_reducible refine And.intro ?_ ?_)
    | (with_reducible apply exG.mk) | (with_reducible apply exGS.mk) | (with_reducible exact Dd.nil) | (refine Dd.same _ ?_) | (refine Dd.dead _ ?_) | (with_reducible apply exQ.mk) | (with_reducible apply exP.mk) | (refine EqP.mk rfl rfl) | (with_reducible apply exW.mk) | (refine EqW.mk rfl)
    | (with_reducible intro _) | (with_reducible refine Dn.mk ?_)
    | (refine exS.full (by first | rfl | (simp; done) | (simp; omega)) ?_)
    | (refine And.intro (Ob.mk ⟨rfl, rfl, by first | rfl | (simp; done) | (simp; omega)⟩) ?_)
    | (with_reducible refine exE.mapD ?_) | (refine exL.int ?_)
    | (with_reducible refine Up0.mk rfl ?_) | (with_reducible refine Up0i.mk rfl ?_) | (with_reducible refine Up1.mk rfl ?_) | (with_reducible refine Up1i.mk rfl ?_) | (with_reducible refine Up2.mk rfl ?_) | (with_reducible refine Up2i.mk rfl ?_)
    | (refine Col.mk rfl rfl rfl ?_) | (refine Coli.mk rfl rfl rfl rfl ?_)
    | (refine drawVC.all _ _ (by kernel_rfl) ?_))
      all_goals (try (refine Ob.mk ?_; first | assumption | exact ⟨rfl, rfl⟩ | exact ⟨rfl, rfl, rfl⟩ | (refine ⟨rfl, rfl, ?_⟩; simp only [List.length_map, List.length_take, List.length_append, els_len, List.length_replicate]; omega) | (intro h; exact h) | (intro h; rw [h]; rfl) | (intro h; simp_all; done) | (refine bytes_le (n := 1048577) ?_ rfl; simp only [ltI_iff, ltI_not, leI_iff, leI_not, eqI_iff, eqI_not, List.length_map, bif_and, bif_or, Bool.and_eq_true, Bool.and_eq_false_iff, Bool.or_eq_true, Bool.or_eq_false_iff, Bool.not_eq_true', Bool.not_eq_false', Int.toNat_natCast, beq_iff_eq, beq_eq_false_iff_ne, decide_eq_true_eq, decide_eq_false_iff_not, bel_iff, bel_not, wthn_iff, wthn_not, els_len, mixL_len, Nat.zero_add, List.length_set, List.length_take] at *; omega) | (simp only [ltI_iff, ltI_not, leI_iff, leI_not, eqI_iff, eqI_not, List.length_map, bif_and, bif_or, Bool.and_eq_true, Bool.and_eq_false_iff, Bool.or_eq_true, Bool.or_eq_false_iff, Bool.not_eq_true', Bool.not_eq_false', Int.toNat_natCast, beq_iff_eq, beq_eq_false_iff_ne, decide_eq_true_eq, decide_eq_false_iff_not, bel_iff, bel_not, wthn_iff, wthn_not, els_len, mixL_len, Nat.zero_add, List.length_set, List.length_take, Int.ofNat_eq_natCast] at *; omega)))
      · rename_i h1 h2
        simp only [ltI_iff, ltI_not, leI_iff, leI_not, eqI_iff, eqI_not, List.length_map, bif_and, bif_or, Bool.and_eq_true, Bool.and_eq_false_iff, Bool.or_eq_true, Bool.or_eq_false_iff, Bool.not_eq_true', Bool.not_eq_false', Int.toNat_natCast, beq_iff_eq, beq_eq_false_iff_ne, decide_eq_true_eq, decide_eq_false_iff_not] at *
        show T.bool false = T.bool (a == b)
        rw [Eq.comm (a := T.bool false), T.bool.injEq, beq_eq_false_iff_ne]
        rintro rfl
        exact h2 rfl
      · rename_i h1 h2
        simp only [ltI_iff, ltI_not, leI_iff, leI_not, eqI_iff, eqI_not, List.length_map, bif_and, bif_or, Bool.and_eq_true, Bool.and_eq_false_iff, Bool.or_eq_true, Bool.or_eq_false_iff, Bool.not_eq_true', Bool.not_eq_false', Int.toNat_natCast, beq_iff_eq, beq_eq_false_iff_ne, decide_eq_true_eq, decide_eq_false_iff_not] at *
        exact Ob.mk ⟨by omega, addI_i64 (by omega) (by omega), take_succ_eq (by omega) (by omega) he h2⟩
      · rename_i h1
        simp only [ltI_iff, ltI_not, leI_iff, leI_not, eqI_iff, eqI_not, List.length_map, bif_and, bif_or, Bool.and_eq_true, Bool.and_eq_false_iff, Bool.or_eq_true, Bool.or_eq_false_iff, Bool.not_eq_true', Bool.not_eq_false', Int.toNat_natCast, beq_iff_eq, beq_eq_false_iff_ne, decide_eq_true_eq, decide_eq_false_iff_not] at *
        show T.bool true = T.bool (a == b)
        rw [Eq.comm (a := T.bool true), T.bool.injEq, beq_iff_eq]
        exact eq_of_take (by omega) hl he
end Go.Proofs.YtgnafgebenlffaaDoor.Am

/- Frames: the laws' own functions. -/
namespace Go.Proofs.YtgnafgebenlffaaDoor.Am
open Go Go.Proofs
set_option maxRecDepth 10000
set_option maxHeartbeats 2000000
set_option linter.unusedVariables false
set_option linter.unusedSimpArgs false

structure Lay where
  args : Int
  saved : List Int
  slots : Int
  arrays : Int
  words : Int
  deriving DecidableEq
def Lay.t (l : Lay) : T := .agg [.int .i64 l.args, ilist l.saved, .int .i64 l.slots, .int .i64 l.arrays, .int .i64 l.words]
noncomputable def layN (g : Graph) : Lay := ⟨argsF g, savedF g, slotsF g, wordsF g.arrays, wdF g⟩
theorem same13 (a b : Lay) : PCalls Tryd.prog 13 [a.t, b.t] (fun r => r = .bool (decide (a = b))) := by
  refine PCalls.of_body ttOk Tryd.func13 rfl ?_
  repeat' ((conv => whnf); first
    | (with_reducible refine onBool_intro (fun _ => ?_) (fun _ => ?_))
    | (with_reducible refine And.intro (Ob.mk (Nat.le_of_ble_eq_true rfl)) ?_)
    | (with_reducible refine And.intro (Ob.mk rfl) ?_)
    | (with_reducible exact ⟨rfl, rfl⟩)
    | (with_reducible refine And.intro (Ob.mk (fun h => h)) ?_)
    | (with_reducible refine Or.inl (And.intro (Ob.mk (Flat.map ?_)) ?_); exact fun _ => rfl)
    | (refine Or.inl (And.intro (Ob.mk (flat_of rfl)) ?_))
    | (refine Or.inl (And.intro (Ob.mk ⟨rfl, rfl, rfl, rfl⟩) ?_))
    | (refine Or.inl (And.intro (Ob.mk ⟨rfl, rfl, rfl⟩) ?_))
    | (refine And.intro (Ob.mk ⟨rfl, rfl⟩) ?_)
    | (with_reducible refine Or.inr ?_)
    | (refine And.intro (Ob.mk (flat_of rfl)) ?_)
    | (with_reducible refine And.intro (Ob.mk (Flat.map ?_)) ?_; exact fun _ => rfl)
    | (with_reducible exact Ob.mk (Flat.map fun _ => rfl))
    | (with_reducible refine And.intro ?_ ?_)
    | (with_reducible apply exG.mk) | (with_reducible apply exGS.mk) | (with_reducible exact Dd.nil) | (refine Dd.same _ ?_) | (refine Dd.dead _ ?_) | (with_reducible apply exQ.mk) | (with_reducible apply exP.mk) | (refine EqP.mk rfl rfl) | (with_reducible apply exW.mk) | (refine EqW.mk rfl)
    | (with_reducible intro _) | (with_reducible refine Dn.mk ?_)
    | (refine exS.full (by first | rfl | (simp; done) | (simp; omega)) ?_)
    | (refine And.intro (Ob.mk ⟨rfl, rfl, by first | rfl | (simp; done) | (simp; omega)⟩) ?_)
    | (with_reducible refine exE.mapD ?_) | (refine exL.int ?_)
    | (with_reducible refine Up0.mk rfl ?_) | (with_reducible refine Up0i.mk rfl ?_) | (with_reducible refine Up1.mk rfl ?_) | (with_reducible refine Up1i.mk rfl ?_) | (with_reducible refine Up2.mk rfl ?_) | (with_reducible refine Up2i.mk rfl ?_)
    | (refine Col.mk rfl rfl rfl ?_) | (refine Coli.mk rfl rfl rfl rfl ?_)
    | (refine PCalls.mono (sameInts _ _) ?_; rintro _ rfl))
  all_goals (try (refine Ob.mk ?_; first | assumption | exact ⟨rfl, rfl⟩ | exact ⟨rfl, rfl, rfl⟩ | (refine ⟨rfl, rfl, ?_⟩; simp only [List.length_map, List.length_take, List.length_append, els_len, List.length_replicate]; omega) | (intro h; exact h) | (intro h; rw [h]; rfl) | (intro h; simp_all; done) | (refine bytes_le (n := 1048577) ?_ rfl; simp only [ltI_iff, ltI_not, leI_iff, leI_not, eqI_iff, eqI_not, List.length_map, bif_and, bif_or, Bool.and_eq_true, Bool.and_eq_false_iff, Bool.or_eq_true, Bool.or_eq_false_iff, Bool.not_eq_true', Bool.not_eq_false', Int.toNat_natCast, beq_iff_eq, beq_eq_false_iff_ne, decide_eq_true_eq, decide_eq_false_iff_not, bel_iff, bel_not, wthn_iff, wthn_not, els_len, mixL_len, Nat.zero_add, List.length_set, List.length_take] at *; omega) | (simp only [ltI_iff, ltI_not, leI_iff, leI_not, eqI_iff, eqI_not, List.length_map, bif_and, bif_or, Bool.and_eq_true, Bool.and_eq_false_iff, Bool.or_eq_true, Bool.or_eq_false_iff, Bool.not_eq_true', Bool.not_eq_false', Int.toNat_natCast, beq_iff_eq, beq_eq_false_iff_ne, decide_eq_true_eq, decide_eq_false_iff_not, bel_iff, bel_not, wthn_iff, wthn_not, els_len, mixL_len, Nat.zero_add, List.length_set, List.length_take, Int.ofNat_eq_natCast] at *; omega)))
  all_goals
    refine congrArg T.bool (?_ : _ = decide (a = b))
    rw [Bool.eq_iff_iff]
    cases a
    cases b
    simp only [bif_and, Bool.and_eq_true, eqI_iff, decide_eq_true_eq, beq_iff_eq, Lay.mk.injEq]
    grind
theorem same13j (a b : Lay) {x y : T} (hx : Ob (Le x a.t)) (hy : Ob (Le y b.t)) {q : T → Prop} (hq : q (.bool (decide (a = b)))) : PCalls Tryd.prog 13 [x, y] q :=
  PCalls.argsL (.cons hx.out (.cons hy.out .nil)) (PCalls.mono (same13 a b) fun _ h => h ▸ hq)
def frG : Graph := ⟨[2, 0], 12, [⟨3, 0⟩, ⟨2, 5⟩], [⟨[⟨1, 1, 0, 0, 0, 0, [], []⟩, ⟨2, 11, 4, 0, 0, 0, [], []⟩], ⟨5, 0, -1, 0, 0, 0, 0, [], []⟩⟩]⟩
abbrev frB : Block := ⟨[⟨1, 1, 0, 0, 0, 0, [], []⟩, ⟨2, 11, 4, 0, 0, 0, [], []⟩], ⟨5, 0, -1, 0, 0, 0, 0, [], []⟩⟩
theorem fr_one {b : Block} (h : b ∈ frG.blocks) : b = frB := by simpa [frG] using h
theorem fr_tiny : frG.tiny := by
  refine ⟨by simp [frG], by simp [frG], by simp [frG], fun b hb => ?_⟩
  rw [fr_one hb]
  exact ⟨by simp, by simp, by simp, Nat.zero_le _, Nat.zero_le _⟩
theorem fr_next {b : Int} : nextN frG b = [] := by
  unfold nextN
  split
  · have : (nthD frG.blocks b.toNat).fin = frB.fin ∨ (nthD frG.blocks b.toNat).fin = default := by
      rcases nthD_cases frG.blocks b.toNat with h | h
      · left; rw [fr_one h]
      · right; rw [h]; rfl
    rcases this with h | h
    · rw [h]; exact srt_nil
    · rw [h]; exact srt_nil
  · rfl
theorem fr_wide : ∀ b ∈ frG.blocks, ∀ x ∈ allN b.fin, I64 x := by
  intro b hb x hx
  rw [fr_one hb] at hx
  exact nomatch hx
theorem fr_fits : frG.fits := by
  refine ⟨⟨by simp [frG], by simp [frG], fun b hb s hs => ?_⟩, ⟨by decide, by decide⟩, fun b hb x hx => ?_, fun b hb => ?_⟩
  · rw [fr_next] at hs; exact nomatch hs
  · rw [fr_one hb] at hx
    simp only [List.mem_cons, List.not_mem_nil, or_false] at hx
    rcases hx with rfl | rfl <;> simp [insOk, usesN, kindN, frG, bel_iff]
  · rw [fr_one hb]
    simp [endOk, eUsesN]
theorem fr_okF : frG.okF := by
  refine ⟨⟨fr_fits, by simp [frG], fun t ht => ?_, by simp [frG]⟩, ?_⟩
  · simp [frG] at ht ⊢
    omega
  · simp [arrsF, frG, arrF, wordsF, parsF, wthn]
theorem fr_step {a : Nat → Nat → Bool} {t : Nat} : stepF frG a 0 t = (t == 4) := by
  have eb : nthD frG.blocks 0 = frB := nthD_get (l := frG.blocks) (i := 0) (by simp [frG])
  have es : stepF frG a 0 t = backF ⟨1, 1, 0, 0, 0, 0, [], []⟩ (backF ⟨2, 11, 4, 0, 0, 0, [], []⟩ (endF frG a 0)) t := by
    unfold stepF
    rw [eb]
    rfl
  rw [es]
  unfold backF endF
  rw [fr_next, eb]
  have e1 : usesN ⟨1, 1, 0, 0, 0, 0, [], []⟩ = [] := by simp [usesN, kindN]
  have e2 : setsN ⟨1, 1, 0, 0, 0, 0, [], []⟩ = 1 := by simp [setsN, kindN]
  have e3 : usesN ⟨2, 11, 4, 0, 0, 0, [], []⟩ = [4] := by simp [usesN, kindN]
  have e4 : setsN ⟨2, 11, 4, 0, 0, 0, [], []⟩ = 11 := by simp [setsN, kindN]
  have e5 : eUsesN frB.fin = [] := by simp [eUsesN]
  rw [e1, e2, e3, e4, e5, Bool.eq_iff_iff]
  simp
  omega
theorem fr_least : Least frG 8000 (fun _ t => t == 4) ∧ Inside frG fun _ t => t == 4 := by
  have hl : frG.blocks.length = 1 := rfl
  refine ⟨⟨⟨fun b hb t ht h => ?_, fun p hp b hb t ht h => ?_⟩, fun b hb t ht h => ?_⟩, fun b hb t ht h => ?_⟩
  · obtain rfl : b = 0 := by omega
    rw [fr_step]; exact h
  · obtain rfl : b = 0 := by omega
    exact hp 0 hb t ht (by rw [fr_step]; exact h)
  · obtain rfl : b = 0 := by omega
    rw [fr_step] at h; exact h
  · have : t = 4 := by simpa using h
    subst this
    decide
theorem fr_lay : layN frG = ⟨4, [0, 1, 2, 4], 3, 5, 16⟩ := by
  have hs : savedF frG = [0, 1, 2, 4] := by
    have : savedF frG = liveN 9 fun t => t == 0 || t == 1 || t == 2 || t == 4 := by
      unfold savedF
      refine liveN_congr fun t ht => ?_
      rw [Bool.eq_iff_iff, tr_iff]
      unfold keptF
      rw [← theA_eq fr_least.1 fr_least.2 (by decide) (by omega)]
      have e1 : setsB frG.blocks frG.blocks.length t ↔ t = 1 ∨ t = 11 := by
        unfold setsB
        rw [List.take_length]
        constructor
        · rintro ⟨b, hb, y, hy, e⟩
          rw [fr_one hb] at hy
          simp only [List.mem_cons, List.not_mem_nil, or_false] at hy
          rcases hy with rfl | rfl
          · simp [setsN, kindN] at e; omega
          · simp [setsN, kindN] at e; omega
        · rintro (rfl | rfl)
          · exact ⟨frB, by simp [frG], ⟨1, 1, 0, 0, 0, 0, [], []⟩, by simp, by simp [setsN, kindN]⟩
          · exact ⟨frB, by simp [frG], ⟨2, 11, 4, 0, 0, 0, [], []⟩, by simp, by simp [setsN, kindN]⟩
      have e2 : (t : Int) ∈ frG.params ↔ t = 2 ∨ t = 0 := by simp [frG]; omega
      have e3 : wordsF frG.arrays = 5 := by simp [wordsF, frG]
      rw [e1, e2, e3]
      simp
      omega
    rw [this]
    decide
  unfold layN wdF argsF slotsF
  rw [hs]
  simp [frG, parsF, wordsF]
abbrev frGT : T := .agg [.sl 1 [.int .i64 2, .int .i64 0], .int .i64 12, .sl 2 [.agg [.int .i64 3, .int .i64 0], .agg [.int .i64 2, .int .i64 5]], .sl 10 [.agg [.nst 57 8 [.agg [.int .i64 1, .int .i64 1, .int .i64 0, .int .i64 0, .int .i64 0, .int .u32 0, .nsl, .nsl], .agg [.int .i64 2, .int .i64 11, .int .i64 4, .int .i64 0, .int .i64 0, .int .u32 0, .nsl, .nsl]], .int .i64 5, .int .i64 0, .int .i64 (-1), .int .i64 0, .int .u32 0, .int .i64 0, .int .i64 0, .nsl, .nsl]]]
theorem frLe : LeL [frGT] [frG.t] := by
  refine .cons (Le.aggL (.cons (.refl _) (.cons (.refl _) (.cons (.refl _) (.cons ?_ .nil))))) .nil
  refine Le.slmap (l := [()]) (f := fun _ => T.agg [.nst 57 8 [.agg [.int .i64 1, .int .i64 1, .int .i64 0, .int .i64 0, .int .i64 0, .int .u32 0, .nsl, .nsl], .agg [.int .i64 2, .int .i64 11, .int .i64 4, .int .i64 0, .int .i64 0, .int .u32 0, .nsl, .nsl]], .int .i64 5, .int .i64 0, .int .i64 (-1), .int .i64 0, .int .u32 0, .int .i64 0, .int .i64 0, .nsl, .nsl]) (g := fun _ => frB.t) (fun _ => ?_) (fun _ => rfl)
  refine .cons (.nst _ _ _ _ ?_) (.cons (.refl _) (.cons (.refl _) (.cons (.refl _) (.cons (.refl _) (.cons (.refl _) (.cons (.refl _) (.cons (.refl _) (.cons (.nsl 2) (.cons (.nsl 1) .nil)))))))))
  exact Le.slmap (l := [(⟨1, 1, 0, 0, 0, 0, [], []⟩ : Ins), ⟨2, 11, 4, 0, 0, 0, [], []⟩]) (f := fun x : Ins => T.agg [.int .i64 x.op, .int .i64 x.d, .int .i64 x.a, .int .i64 x.b, .int .i64 x.f, .int .u32 x.n, .nsl, .nsl]) (g := fun x : Ins => T.agg [.int .i64 x.op, .int .i64 x.d, .int .i64 x.a, .int .i64 x.b, .int .i64 x.f, .int .u32 x.n, .sl 1 [], .sl 1 []]) (fun _ => .cons (.refl _) (.cons (.refl _) (.cons (.refl _) (.cons (.refl _) (.cons (.refl _) (.cons (.refl _) (.cons (.nsl 1) (.cons (.nsl 1) .nil)))))))) (fun _ => rfl)
theorem frK {q : T → Prop} (h : ∀ e, e = 0 → q (.own (.tup [layO frG, .int .i64 e]))) : PCalls Tryd.prog 8 [frGT] q :=
  PCalls.argsL frLe (lay8k frG fr_tiny fr_wide (fun h1 => absurd fr_okF h1) fun _ => h)
theorem weight10k (g : Graph) (hg : g.tiny) (hw : ∀ b ∈ g.blocks, ∀ x ∈ allN b.fin, I64 x) {q : T → Prop} (h1 : ¬ g.okF → ∀ e, e = 1 → q (.tup [.int .i64 0, .int .i64 e])) (h2 : g.okF → ∀ e, e = 0 → q (.tup [.int .i64 (wgtF g), .int .i64 e])) : PCalls Tryd.prog 10 [g.t] q :=
  PCalls.mono (weight10 g hg hw) fun r h => by
    rcases h.out with ⟨h3, rfl⟩ | ⟨h3, rfl⟩
    · exact h1 h3 1 rfl
    · exact h2 h3 0 rfl
theorem frWK {q : T → Prop} (h : ∀ e, e = 0 → q (.tup [.int .i64 (wgtF frG), .int .i64 e])) : PCalls Tryd.prog 10 [frGT] q :=
  PCalls.argsL frLe (weight10k frG fr_tiny fr_wide (fun h1 => absurd fr_okF h1) fun _ => h)
theorem fr_wgt : wgtF frG = 64 := by
  have : wdF frG = 16 := congrArg Lay.words fr_lay
  unfold wgtF
  rw [this]
  rfl
theorem live12 : PCalls Tryd.prog 12 [] (fun r => r = .bool true) := by
  refine PCalls.of_body ttOk Tryd.func12 rfl ?_
  repeat' ((conv => whnf); first
    | (with_reducible refine onBool_intro (fun _ => ?_) (fun _ => ?_))
    | (with_reducible refine And.intro (Ob.mk (Nat.le_of_ble_eq_true rfl)) ?_)
    | (with_reducible refine And.intro (Ob.mk rfl) ?_)
    | (with_reducible exact ⟨rfl, rfl⟩)
    | (with_reducible refine And.intro (Ob.mk (fun h => h)) ?_)
    | (with_reducible refine Or.inl (And.intro (Ob.mk (Flat.map ?_)) ?_); exact fun _ => rfl)
    | (refine Or.inl (And.intro (Ob.mk (flat_of rfl)) ?_))
    | (refine Or.inl (And.intro (Ob.mk ⟨rfl, rfl, rfl, rfl⟩) ?_))
    | (refine Or.inl (And.intro (Ob.mk ⟨rfl, rfl, rfl⟩) ?_))
    | (refine And.intro (Ob.mk ⟨rfl, rfl⟩) ?_)
    | (with_reducible refine Or.inr ?_)
    | (refine And.intro (Ob.mk (flat_of rfl)) ?_)
    | (with_reducible refine And.intro (Ob.mk (Flat.map ?_)) ?_; exact fun _ => rfl)
    | (with_reducible exact Ob.mk (Flat.map fun _ => rfl))
    | (with_reducible refine And.intro ?_ ?_)
    | (with_reducible apply exG.mk) | (with_reducible apply exGS.mk) | (with_reducible exact Dd.nil) | (refine Dd.same _ ?_) | (refine Dd.dead _ ?_) | (with_reducible apply exQ.mk) | (with_reducible apply exP.mk) | (refine EqP.mk rfl rfl) | (with_reducible apply exW.mk) | (refine EqW.mk rfl)
    | (with_reducible intro _) | (with_reducible refine Dn.mk ?_)
    | (refine exS.full (by first | rfl | (simp; done) | (simp; omega)) ?_)
    | (refine And.intro (Ob.mk ⟨rfl, rfl, by first | rfl | (simp; done) | (simp; omega)⟩) ?_)
    | (with_reducible refine exE.mapD ?_) | (refine exL.int ?_)
    | (with_reducible refine Up0.mk rfl ?_) | (with_reducible refine Up0i.mk rfl ?_) | (with_reducible refine Up1.mk rfl ?_) | (with_reducible refine Up1i.mk rfl ?_) | (with_reducible refine Up2.mk rfl ?_) | (with_reducible refine Up2i.mk rfl ?_)
    | (refine Col.mk rfl rfl rfl ?_) | (refine Coli.mk rfl rfl rfl rfl ?_)
    | (refine frK fun e he => ?_)
    | (refine frWK fun e he => ?_)
    | (refine same13j (layN frG) ⟨4, [0, 1, 2, 4], 3, 5, 16⟩ ?_ ?_ ?_))
  all_goals (try exact Ob.mk ⟨rfl, rfl, rfl⟩)
  all_goals (try exact Ob.mk (Le.refl _))
  · exfalso
    rename_i e1 h1 h3
    subst h1 he
    rw [fr_wgt] at h3
    simp [eqI_beq] at h3
  · rename_i e1 h1
    subst h1 he
    rw [fr_wgt, fr_lay]
    simp [eqI_beq]
end Go.Proofs.YtgnafgebenlffaaDoor.Am

/- FrameSmall: the law. -/
namespace Go.Proofs.YtgnafgebenlffaaDoor.Am
open Go Go.Proofs
set_option maxRecDepth 10000
set_option maxHeartbeats 2000000
set_option linter.unusedVariables false
set_option linter.unusedSimpArgs false

theorem arrI_of {l : List Arr} (h : l.all arrF = true) : ∀ i, i ≤ l.length → ArrI l i (wordsF (l.take i)) (parsF (l.take i))
  | 0, _ => .zero
  | i + 1, hi => by
    have ih := arrI_of h i (by omega)
    have ha := List.all_eq_true.1 h (nthD l i) (nthD_mem (by omega))
    have hk : (nthD l i).kind = 1 ∨ (nthD l i).kind = 3 ∨ ((nthD l i).kind = 2 ∧ 1 ≤ (nthD l i).n ∧ (nthD l i).n ≤ 1000) := by
      simpa [arrF, wthn_iff, or_assoc] using ha
    rw [wordsF_succ (by omega), parsF_succ (by omega)]
    rcases hk with hk | hk | ⟨hk, h1, h2⟩
    · rw [if_neg (by omega), if_neg (by omega), Int.add_zero, Int.add_zero]
      exact ih.one (by omega) hk
    · rw [if_neg (by omega), if_pos hk, Int.add_zero]
      exact ih.par (by omega) hk
    · rw [if_pos hk, if_neg (by omega), Int.add_zero]
      exact ih.loc (by omega) hk h1 h2
noncomputable abbrev smV (g : Graph) : Sto := [gvar g, .dead, .var 29 [.t (.int .i64 (argsF g)), .osl 3 0 ((savedF g).map fun n => T.int .i64 n).length, .t (.int .i64 (slotsF g)), .t (.int .i64 (wordsF g.arrays)), .t (.int .i64 (wdF g))], .row 3 1 ((savedF g).map fun n => .int .i64 n)]
theorem vals3 {a a' b b' c c' : Int} (h1 : a = a') (h2 : b = b') (h3 : c = c') : [SV.t (.int .i64 a), SV.t (.int .i64 b), SV.t (.int .i64 c)] = [SV.t (.int .i64 a'), SV.t (.int .i64 b'), SV.t (.int .i64 c')] := by rw [h1, h2, h3]
theorem law4f (g : Graph) (hg : g.tiny) (hw : ∀ b ∈ g.blocks, ∀ x ∈ allN b.fin, I64 x) : PCalls Tryd.prog 4 [g.t] (fun r => r = .bool true) := by
  refine PCalls.of_body ttOk Tryd.func4 rfl ?_
  repeat' ((conv => whnf); first
    | (with_reducible refine onBool_intro (fun _ => ?_) (fun _ => ?_))
    | (with_reducible refine And.intro (Ob.mk (Nat.le_of_ble_eq_true rfl)) ?_)
    | (with_reducible refine And.intro (Ob.mk rfl) ?_)
    | (with_reducible exact ⟨rfl, rfl⟩)
    | (with_reducible refine And.intro (Ob.mk (fun h => h)) ?_)
    | (with_reducible refine Or.inl (And.intro (Ob.mk (Flat.map ?_)) ?_); exact fun _ => rfl)
    | (refine Or.inl (And.intro (Ob.mk (flat_of rfl)) ?_))
    | (refine Or.inl (And.intro (Ob.mk ⟨rfl, rfl, rfl, rfl⟩) ?_))
    | (refine Or.inl (And.intro (Ob.mk ⟨rfl, rfl, rfl⟩) ?_))
    | (refine And.intro (Ob.mk ⟨rfl, rfl⟩) ?_)
    | (with_reducible refine Or.inr ?_)
    | (refine And.intro (Ob.mk (flat_of rfl)) ?_)
    | (with_reducible refine And.intro (Ob.mk (Flat.map ?_)) ?_; exact fun _ => rfl)
    | (with_reducible exact Ob.mk (Flat.map fun _ => rfl))
    | (with_reducible refine And.intro ?_ ?_)
    | (with_reducible apply exG.mk) | (with_reducible apply exGS.mk) | (with_reducible exact Dd.nil) | (refine Dd.same _ ?_) | (refine Dd.dead _ ?_) | (with_reducible apply exQ.mk) | (with_reducible apply exP.mk) | (refine EqP.mk rfl rfl) | (with_reducible apply exW.mk) | (refine EqW.mk rfl)
    | (with_reducible intro _) | (with_reducible refine Dn.mk ?_)
    | (refine exS.full (by first | rfl | (simp; done) | (simp; omega)) ?_)
    | (refine And.intro (Ob.mk ⟨rfl, rfl, by first | rfl | (simp; done) | (simp; omega)⟩) ?_)
    | (with_reducible refine exE.mapD ?_) | (refine exL.int ?_)
    | (with_reducible refine Up0.mk rfl ?_) | (with_reducible refine Up0i.mk rfl ?_) | (with_reducible refine Up1.mk rfl ?_) | (with_reducible refine Up1i.mk rfl ?_) | (with_reducible refine Up2.mk rfl ?_) | (with_reducible refine Up2i.mk rfl ?_)
    | (refine Col.mk rfl rfl rfl ?_) | (refine Coli.mk rfl rfl rfl rfl ?_)
    | (refine lay8k g hg hw (fun h e he => ?_) (fun h e he => ?_))
    | (refine weight10k g hg hw (fun h2 e2 he2 => ?_) (fun h2 e2 he2 => ?_))
    | (refine PCalls.mono live12 ?_; rintro _ rfl))
  all_goals (try (refine Ob.mk ?_; first | assumption | exact ⟨rfl, rfl⟩ | exact ⟨rfl, rfl, rfl⟩ | (refine ⟨rfl, rfl, ?_⟩; simp only [List.length_map, List.length_take, List.length_append, els_len, List.length_replicate]; omega) | (intro h; exact h) | (intro h; rw [h]; rfl) | (intro h; simp_all; done) | (refine bytes_le (n := 1048577) ?_ rfl; simp only [ltI_iff, ltI_not, leI_iff, leI_not, eqI_iff, eqI_not, List.length_map, bif_and, bif_or, Bool.and_eq_true, Bool.and_eq_false_iff, Bool.or_eq_true, Bool.or_eq_false_iff, Bool.not_eq_true', Bool.not_eq_false', Int.toNat_natCast, beq_iff_eq, beq_eq_false_iff_ne, decide_eq_true_eq, decide_eq_false_iff_not, bel_iff, bel_not, wthn_iff, wthn_not, els_len, mixL_len, Nat.zero_add, List.length_set, List.length_take] at *; omega) | (simp only [ltI_iff, ltI_not, leI_iff, leI_not, eqI_iff, eqI_not, List.length_map, bif_and, bif_or, Bool.and_eq_true, Bool.and_eq_false_iff, Bool.or_eq_true, Bool.or_eq_false_iff, Bool.not_eq_true', Bool.not_eq_false', Int.toNat_natCast, beq_iff_eq, beq_eq_false_iff_ne, decide_eq_true_eq, decide_eq_false_iff_not, bel_iff, bel_not, wthn_iff, wthn_not, els_len, mixL_len, Nat.zero_add, List.length_set, List.length_take, Int.ofNat_eq_natCast] at *; omega)))
  all_goals (try (exfalso; exact h h2))
  all_goals (try (exfalso; exact h2 h))
  all_goals (try (exfalso; subst he; simp [eqI] at *; done))
  · subst he he2
    show T.bool _ = T.bool true
    simp [eqI_beq]
  · rename_i h1 _
    have h8 := h.few
    have hT := h.fits.temps
    obtain ⟨h500, ha2, hw0, hp8⟩ := arrsF_of h.arrs
    conv => whnf
    refine LoopVC.mk [9, 7, 8] [] (fun m vals σ => ∃ i : Nat, vals = [.t (.int .i64 i), .t (.int .i64 (g.params.length + 2 * parsF (g.arrays.take i))), .t (.int .i64 (wordsF (g.arrays.take i)))] ∧ σ = smV g ∧ i ≤ g.arrays.length ∧ m = g.arrays.length - i) ?_ ?_
    · conv => whnf
      refine ⟨_, 0, vals3 rfl ?_ rfl, rfl, Nat.zero_le _, rfl⟩
      rw [List.length_map]
      simp [parsF]
    · rintro m vals σ ⟨i, rfl, rfl, hi, rfl⟩
      have hA := arrI_of ha2 i hi
      have b1 := hA.w0; have b2 := hA.w1; have b3 := hA.p0; have b4 := hA.p1
      repeat' ((conv => whnf); first
    | (with_reducible refine onBool_intro (fun _ => ?_) (fun _ => ?_))
    | (with_reducible refine And.intro (Ob.mk (Nat.le_of_ble_eq_true rfl)) ?_)
    | (with_reducible refine And.intro (Ob.mk rfl) ?_)
    | (with_reducible exact ⟨rfl, rfl⟩)
    | (with_reducible refine And.intro (Ob.mk (fun h => h)) ?_)
    | (with_reducible refine Or.inl (And.intro (Ob.mk (Flat.map ?_)) ?_); exact fun _ => rfl)
    | (refine Or.inl (And.intro (Ob.mk (flat_of rfl)) ?_))
    | (refine Or.inl (And.intro (Ob.mk ⟨rfl, rfl, rfl, rfl⟩) ?_))
    | (refine Or.inl (And.intro (Ob.mk ⟨rfl, rfl, rfl⟩) ?_))
    | (refine And.intro (Ob.mk ⟨rfl, rfl⟩) ?_)
    | (with_reducible refine Or.inr ?_)
    | (refine And.intro (Ob.mk (flat_of rfl)) ?_)
    | (with_reducible refine And.intro (Ob.mk (Flat.map ?_)) ?_; exact fun _ => rfl)
    | (with_reducible exact Ob.mk (Flat.map fun _ => rfl))
    | (with_reducible refine And.intro ?_ ?_)
    | (with_reducible apply exG.mk) | (with_reducible apply exGS.mk) | (with_reducible exact Dd.nil) | (refine Dd.same _ ?_) | (refine Dd.dead _ ?_) | (with_reducible apply exQ.mk) | (with_reducible apply exP.mk) | (refine EqP.mk rfl rfl) | (with_reducible apply exW.mk) | (refine EqW.mk rfl)
    | (with_reducible intro _) | (with_reducible refine Dn.mk ?_)
    | (refine exS.full (by first | rfl | (simp; done) | (simp; omega)) ?_)
    | (refine And.intro (Ob.mk ⟨rfl, rfl, by first | rfl | (simp; done) | (simp; omega)⟩) ?_)
    | (with_reducible refine exE.mapD ?_) | (refine exL.int ?_)
    | (with_reducible refine Up0.mk rfl ?_) | (with_reducible refine Up0i.mk rfl ?_) | (with_reducible refine Up1.mk rfl ?_) | (with_reducible refine Up1i.mk rfl ?_) | (with_reducible refine Up2.mk rfl ?_) | (with_reducible refine Up2i.mk rfl ?_)
    | (refine Col.mk rfl rfl rfl ?_) | (refine Coli.mk rfl rfl rfl rfl ?_)
    | (refine PCalls.mono live12 ?_; rintro _ rfl))
      all_goals (try (refine Ob.mk ?_; first | assumption | exact ⟨rfl, rfl⟩ | exact ⟨rfl, rfl, rfl⟩ | (refine ⟨rfl, rfl, ?_⟩; simp only [List.length_map, List.length_take, List.length_append, els_len, List.length_replicate]; omega) | (intro h; exact h) | (intro h; rw [h]; rfl) | (intro h; simp_all; done) | (refine bytes_le (n := 1048577) ?_ rfl; simp only [ltI_iff, ltI_not, leI_iff, leI_not, eqI_iff, eqI_not, List.length_map, bif_and, bif_or, Bool.and_eq_true, Bool.and_eq_false_iff, Bool.or_eq_true, Bool.or_eq_false_iff, Bool.not_eq_true', Bool.not_eq_false', Int.toNat_natCast, beq_iff_eq, beq_eq_false_iff_ne, decide_eq_true_eq, decide_eq_false_iff_not, bel_iff, bel_not, wthn_iff, wthn_not, els_len, mixL_len, Nat.zero_add, List.length_set, List.length_take] at *; omega) | (simp only [ltI_iff, ltI_not, leI_iff, leI_not, eqI_iff, eqI_not, List.length_map, bif_and, bif_or, Bool.and_eq_true, Bool.and_eq_false_iff, Bool.or_eq_true, Bool.or_eq_false_iff, Bool.not_eq_true', Bool.not_eq_false', Int.toNat_natCast, beq_iff_eq, beq_eq_false_iff_ne, decide_eq_true_eq, decide_eq_false_iff_not, bel_iff, bel_not, wthn_iff, wthn_not, els_len, mixL_len, Nat.zero_add, List.length_set, List.length_take, Int.ofNat_eq_natCast] at *; omega)))
      · rename_i h3 h4
        rw [ltI_iff, List.length_map] at h3
        rw [Int.toNat_natCast, eqI_iff] at h4
        conv => whnf
        refine ⟨g.arrays.length - (i + 1), by omega, i + 1, ?_, rfl, by omega, rfl⟩
        refine vals3 (addI_i64 (by omega) (by omega)) ?_ ?_
        · rw [parsF_succ (by omega), if_pos h4, addI_i64 (by omega) (by omega)]; omega
        · rw [wordsF_succ (by omega), if_neg (by omega)]; omega
      · rename_i h3 h4 h5
        rw [ltI_iff, List.length_map] at h3
        rw [Int.toNat_natCast, eqI_iff] at h5
        have hB := (arrI_of ha2 (i + 1) (by omega))
        have b5 := hB.w0; have b6 := hB.w1
        rw [wordsF_succ (by omega), if_pos h5] at b5 b6
        push_cast at b6
        conv => whnf
        refine ⟨g.arrays.length - (i + 1), by omega, i + 1, ?_, rfl, by omega, rfl⟩
        refine vals3 (addI_i64 (by omega) (by omega)) ?_ ?_
        · rw [parsF_succ (by omega), if_neg (by omega)]; omega
        · rw [wordsF_succ (by omega), if_pos h5, Int.toNat_natCast, addI_i64 (by omega) (by omega)]
      · rename_i h3 h4 h5
        rw [ltI_iff, List.length_map] at h3
        rw [Int.toNat_natCast, eqI_not] at h5 h4
        conv => whnf
        refine ⟨g.arrays.length - (i + 1), by omega, i + 1, ?_, rfl, by omega, rfl⟩
        refine vals3 (addI_i64 (by omega) (by omega)) ?_ ?_
        · rw [parsF_succ (by omega), if_neg h4]; omega
        · rw [wordsF_succ (by omega), if_neg h5]; omega
      · rename_i h3
        have h3 : i = g.arrays.length := by rw [ltI_not, List.length_map] at h3; omega
        subst h3
        rw [List.take_length] at b1 b2 b3 b4 ⊢
        have hr := okF_rng h
        have hl : (savedF g).length ≤ 9 := liveN_len
        have hsl : slotsF g ≤ g.temps ∧ 0 ≤ slotsF g := by unfold slotsF; split <;> omega
        have e1 : argsF g = g.params.length + 2 * parsF g.arrays := rfl
        have e2 : wdF g = argsF g + (savedF g).length + slotsF g + wordsF g.arrays := rfl
        have e3 : wgtF g = 4 * wdF g := rfl
        subst he2
        show T.bool _ = T.bool true
        have hal : argsF g ≤ 24 ∧ 0 ≤ argsF g := by omega
        rw [← e1, addI_i64 (x := argsF g) (y := wordsF g.arrays) (by omega) (by omega), addI_i64 (x := argsF g + _) (y := g.temps) (by omega) (by omega), addI_i64 (y := 14) (by omega) (by omega), mul4 (x := wdF g) (by omega) (by omega), mul4 (x := argsF g + wordsF g.arrays) (by omega) (by omega), mul4 (by omega) (by omega)]
        refine congrArg T.bool ?_
        simp only [bif_and, Bool.and_eq_true, eqI_iff, leI_iff]
        refine ⟨⟨⟨⟨⟨⟨by trivial, by first | rfl | trivial⟩, by first | rfl | trivial⟩, by first | rfl | trivial⟩, ?_⟩, ?_⟩, ?_⟩
        all_goals omega
end Go.Proofs.YtgnafgebenlffaaDoor.Am
