/- Frames: how they are laid, by the program. -/
import Derived.Test.YtgnafgebenlffaaDoorBU
/- Frames: whether a graph may have one, by both texts. -/
namespace Go.Proofs.YtgnafgebenlffaaDoor.Am
open Go Go.Proofs
set_option maxRecDepth 10000
set_option maxHeartbeats 2000000
set_option linter.unusedVariables false
set_option linter.unusedSimpArgs false
theorem arrays22k (g : Graph) {q : T → Prop} (h1 : arrsF g.arrays = true → q (.tup [.int .i64 (wordsF g.arrays), .int .i64 (parsF g.arrays), .bool true])) (h2 : arrsF g.arrays = false → ∀ w p, q (.tup [.int .i64 w, .int .i64 p, .bool false])) : PCalls Tryd.prog 22 [g.t] q :=
  PCalls.mono (arrays22 g) fun r h => by
    rcases h.out with ⟨h3, rfl⟩ | ⟨h3, w, p, rfl⟩
    · exact h1 h3
    · exact h2 h3 w p
theorem words18k (l : List Arr) (hl : Ob (l.length ≤ 2 ^ 20)) {q : T → Prop} (h1 : arrsF l = true → q (.tup [.int .i64 (wordsF l), .int .i64 (parsF l), .bool true])) (h2 : arrsF l = false → ∀ w p, q (.tup [.int .i64 w, .int .i64 p, .bool false])) : PCalls Tryd.prog 18 [.sl 2 (l.map Arr.t)] q :=
  PCalls.mono (words18 l hl.out) fun r h => by
    rcases h.out with ⟨h3, rfl⟩ | ⟨h3, w, p, rfl⟩
    · exact h1 h3
    · exact h2 h3 w p
theorem nodup_take_succ {α β : Type} [Inhabited α] (f : α → β) {l : List α} {i : Nat} (h : i < l.length) (h1 : ((l.take i).map f).Nodup) (h2 : ∀ j, j < i → f (nthD l j) ≠ f (nthD l i)) : ((l.take (i + 1)).map f).Nodup := by
  rw [take_succ_nthD h, List.map_append, List.nodup_append]
  refine ⟨h1, by simp, ?_⟩
  intro a ha b hb
  simp only [List.map_cons, List.map_nil, List.mem_singleton] at hb
  subst hb
  obtain ⟨x, hx, rfl⟩ := List.mem_map.1 ha
  obtain ⟨j, hj, rfl⟩ := List.mem_iff_getElem.1 hx
  have hj2 : j < i := by simp at hj; omega
  have hj3 : j < l.length := by omega
  rw [List.getElem_take, ← nthD_get hj3]
  exact h2 j hj2
theorem not_nodup_at {α β : Type} [Inhabited α] (f : α → β) {l : List α} {i j : Nat} (hi : i < l.length) (hj : j < i) (e : f (nthD l j) = f (nthD l i)) : ¬ (l.map f).Nodup := by
  intro h
  rw [List.nodup_iff_pairwise_ne, List.pairwise_map, List.pairwise_iff_getElem] at h
  have := h j i (by omega) hi hj
  rw [← nthD_get, ← nthD_get] at this
  exact this e
structure Graph.mayF (g : Graph) : Prop where
  fits : g.fits
  few : g.params.length ≤ 8
  rng : ∀ t ∈ g.params, 0 ≤ t ∧ t < g.temps
  nodup : g.params.Nodup
theorem mayF_no_rng {g : Graph} {i : Nat} (hi : i < g.params.length) (h : (bif ltI (nthD g.params i) 0 then true else leI g.temps (nthD g.params i)) = true) : ¬ g.mayF := by
  intro hm
  have := hm.rng _ (nthD_mem hi)
  simp only [bif_or, Bool.or_eq_true, ltI_iff, leI_iff] at h
  omega
theorem mayF_no_dup {g : Graph} {i j : Nat} (hi : i < g.params.length) (hj : j < i) (h : nthD g.params j = nthD g.params i) : ¬ g.mayF := by
  intro hm
  have := not_nodup_at (fun n : Int => n) hi hj h
  rw [List.map_id'] at this
  exact this hm.nodup
def ParI (g : Graph) (i : Nat) : Prop := (∀ j, j < i → 0 ≤ nthD g.params j ∧ nthD g.params j < g.temps) ∧ (g.params.take i).Nodup
theorem ParI.zero {g : Graph} : ParI g 0 := ⟨fun j h => absurd h (Nat.not_lt_zero _), by simp⟩
theorem ParI.succ {g : Graph} {i : Nat} (h : ParI g i) (hi : i < g.params.length) (h1 : (bif ltI (nthD g.params i) 0 then true else leI g.temps (nthD g.params i)) = false) (h2 : ∀ j, j < i → nthD g.params j ≠ nthD g.params i) : ParI g (i + 1) := by
  simp only [bif_or, Bool.or_eq_false_iff, ltI_not, leI_not] at h1
  refine ⟨fun j hj => ?_, ?_⟩
  · rcases Nat.lt_or_ge j i with h3 | h3
    · exact h.1 j h3
    · rw [show j = i by omega]; exact h1
  · have := nodup_take_succ (fun n : Int => n) hi (by rw [List.map_id']; exact h.2) h2
    rwa [List.map_id'] at this
theorem ParI.done {g : Graph} {i : Nat} (h : ParI g i) (hi : g.params.length ≤ i) (hf : g.fits) (h8 : g.params.length ≤ 8) : g.mayF := by
  refine ⟨hf, h8, fun t ht => ?_, ?_⟩
  · obtain ⟨j, hj, rfl⟩ := List.mem_iff_getElem.1 ht
    rw [← nthD_get hj]
    exact h.1 j (by omega)
  · have := h.2
    rwa [List.take_of_length_le hi] at this
theorem may21 (g : Graph) (hg : g.tiny) : PCalls Tryd.prog 21 [g.t] (fun r => r = .bool (tr (g.mayF ∧ arrsF g.arrays = true))) := by
  refine PCalls.of_body ttOk Tryd.func21 rfl ?_
  repeat' ((conv => whnf); first | (with_reducible first | refine onBool_intro (fun _ => ?_) (fun _ => ?_) | refine And.intro (Ob.mk (Nat.le_of_ble_eq_true rfl)) ?_ | refine And.intro (Ob.mk rfl) ?_ | exact ⟨rfl, rfl⟩ | refine And.intro (Ob.mk (fun h => h)) ?_) | (with_reducible refine Or.inl (And.intro (Ob.mk (Flat.map ?_)) ?_); exact fun _ => rfl) | (refine Or.inl (And.intro (Ob.mk (flat_of rfl)) ?_)) | (refine Or.inl (And.intro (Ob.mk ⟨rfl, rfl, rfl, rfl⟩) ?_)) | (refine Or.inl (And.intro (Ob.mk ⟨rfl, rfl, rfl⟩) ?_)) | (refine And.intro (Ob.mk ⟨rfl, rfl⟩) ?_) | (with_reducible refine Or.inr ?_) | (refine And.intro (Ob.mk (flat_of rfl)) ?_) | (with_reducible refine And.intro (Ob.mk (Flat.map ?_)) ?_; exact fun _ => rfl) | (with_reducible first | exact Ob.mk (Flat.map fun _ => rfl) | refine And.intro ?_ ?_ | apply exG.mk | apply exGS.mk | exact Dd.nil) | (refine Dd.same _ ?_) | (refine Dd.dead _ ?_) | (with_reducible first | apply exQ.mk | apply exP.mk) | (refine EqP.mk rfl rfl) | (with_reducible apply exW.mk) | (refine EqW.mk rfl) | (with_reducible first | intro _ | refine Dn.mk ?_) | (refine exS.full (by first | rfl | (simp; done) | (simp; omega)) ?_) | (refine And.intro (Ob.mk ⟨rfl, rfl, by first | rfl | (simp; done) | (simp; omega)⟩) ?_) | (with_reducible refine exE.mapD ?_) | (refine exL.int ?_) | (with_reducible first | refine Up0.mk rfl ?_ | refine Up0i.mk rfl ?_ | refine Up1.mk rfl ?_ | refine Up1i.mk rfl ?_ | refine Up2.mk rfl ?_ | refine Up2i.mk rfl ?_) | (refine Col.mk rfl rfl rfl ?_) | (refine Coli.mk rfl rfl rfl rfl ?_) | (refine fits17k g hg (fun hf => ?_) (fun hf => ?_)) | (refine arrays22k g (fun ha => ?_) (fun ha w p => ?_)))
  all_goals (try (refine Ob.mk ?_; first | assumption | exact ⟨rfl, rfl⟩ | exact ⟨rfl, rfl, rfl⟩ | (refine ⟨rfl, rfl, ?_⟩; simp only [List.length_map, List.length_take, List.length_append, els_len, List.length_replicate]; omega) | (intro h; exact h) | (intro h; rw [h]; rfl) | (intro h; simp_all; done) | (refine bytes_le (n := 1048577) ?_ rfl; simp only [ltI_iff, ltI_not, leI_iff, leI_not, eqI_iff, eqI_not, List.length_map, bif_and, bif_or, Bool.and_eq_true, Bool.and_eq_false_iff, Bool.or_eq_true, Bool.or_eq_false_iff, Bool.not_eq_true', Bool.not_eq_false', Int.toNat_natCast, beq_iff_eq, beq_eq_false_iff_ne, decide_eq_true_eq, decide_eq_false_iff_not, bel_iff, bel_not, wthn_iff, wthn_not, els_len, mixL_len, Nat.zero_add, List.length_set, List.length_take] at *; omega) | (simp only [ltI_iff, ltI_not, leI_iff, leI_not, eqI_iff, eqI_not, List.length_map, bif_and, bif_or, Bool.and_eq_true, Bool.and_eq_false_iff, Bool.or_eq_true, Bool.or_eq_false_iff, Bool.not_eq_true', Bool.not_eq_false', Int.toNat_natCast, beq_iff_eq, beq_eq_false_iff_ne, decide_eq_true_eq, decide_eq_false_iff_not, bel_iff, bel_not, wthn_iff, wthn_not, els_len, mixL_len, Nat.zero_add, List.length_set, List.length_take, Int.ofNat_eq_natCast] at *; omega)))
  all_goals (try (show T.bool false = T.bool (tr _); rw [tr_f (fun h => hf h.1.fits)]; done))
  all_goals (try (show T.bool false = T.bool (tr _); rw [tr_f (fun h => absurd (ha.symm.trans h.2) Bool.false_ne_true)]; done))
  · rename_i h1
    show T.bool false = T.bool (tr _)
    rw [tr_f]
    intro h
    have := h.1.few
    simp only [Bool.not_true, bif_or, Bool.false_or, ltI_iff, List.length_map] at h1
    omega
  · rename_i h1
    have h8 : g.params.length ≤ 8 := by
      simp only [Bool.not_true, bif_or, Bool.false_or, ltI_not, List.length_map] at h1
      omega
    conv => whnf
    refine LoopVC.up0 7 g.params.length (ParI g) ?_ ?_
    · repeat' ((conv => whnf); first | (with_reducible first | refine onBool_intro (fun _ => ?_) (fun _ => ?_) | refine And.intro (Ob.mk (Nat.le_of_ble_eq_true rfl)) ?_ | refine And.intro (Ob.mk rfl) ?_ | exact ⟨rfl, rfl⟩ | refine And.intro (Ob.mk (fun h => h)) ?_) | (with_reducible refine Or.inl (And.intro (Ob.mk (Flat.map ?_)) ?_); exact fun _ => rfl) | (refine Or.inl (And.intro (Ob.mk (flat_of rfl)) ?_)) | (refine Or.inl (And.intro (Ob.mk ⟨rfl, rfl, rfl, rfl⟩) ?_)) | (refine Or.inl (And.intro (Ob.mk ⟨rfl, rfl, rfl⟩) ?_)) | (refine And.intro (Ob.mk ⟨rfl, rfl⟩) ?_) | (with_reducible refine Or.inr ?_) | (refine And.intro (Ob.mk (flat_of rfl)) ?_) | (with_reducible refine And.intro (Ob.mk (Flat.map ?_)) ?_; exact fun _ => rfl) | (with_reducible first | exact Ob.mk (Flat.map fun _ => rfl) | refine And.intro ?_ ?_ | apply exG.mk | apply exGS.mk | exact Dd.nil) | (refine Dd.same _ ?_) | (refine Dd.dead _ ?_) | (with_reducible first | apply exQ.mk | apply exP.mk) | (refine EqP.mk rfl rfl) | (with_reducible apply exW.mk) | (refine EqW.mk rfl) | (with_reducible first | intro _ | refine Dn.mk ?_) | (refine exS.full (by first | rfl | (simp; done) | (simp; omega)) ?_) | (refine And.intro (Ob.mk ⟨rfl, rfl, by first | rfl | (simp; done) | (simp; omega)⟩) ?_) | (with_reducible refine exE.mapD ?_) | (refine exL.int ?_) | (with_reducible first | refine Up0.mk rfl ?_ | refine Up0i.mk rfl ?_ | refine Up1.mk rfl ?_ | refine Up1i.mk rfl ?_ | refine Up2.mk rfl ?_ | refine Up2i.mk rfl ?_) | (refine Col.mk rfl rfl rfl ?_) | (refine Coli.mk rfl rfl rfl rfl ?_))
      exact Ob.mk .zero
    · intro i hi he
      repeat' ((conv => whnf); first | (with_reducible first | refine onBool_intro (fun _ => ?_) (fun _ => ?_) | refine And.intro (Ob.mk (Nat.le_of_ble_eq_true rfl)) ?_ | refine And.intro (Ob.mk rfl) ?_ | exact ⟨rfl, rfl⟩ | refine And.intro (Ob.mk (fun h => h)) ?_) | (with_reducible refine Or.inl (And.intro (Ob.mk (Flat.map ?_)) ?_); exact fun _ => rfl) | (refine Or.inl (And.intro (Ob.mk (flat_of rfl)) ?_)) | (refine Or.inl (And.intro (Ob.mk ⟨rfl, rfl, rfl, rfl⟩) ?_)) | (refine Or.inl (And.intro (Ob.mk ⟨rfl, rfl, rfl⟩) ?_)) | (refine And.intro (Ob.mk ⟨rfl, rfl⟩) ?_) | (with_reducible refine Or.inr ?_) | (refine And.intro (Ob.mk (flat_of rfl)) ?_) | (with_reducible refine And.intro (Ob.mk (Flat.map ?_)) ?_; exact fun _ => rfl) | (with_reducible first | exact Ob.mk (Flat.map fun _ => rfl) | refine And.intro ?_ ?_ | apply exG.mk | apply exGS.mk | exact Dd.nil) | (refine Dd.same _ ?_) | (refine Dd.dead _ ?_) | (with_reducible first | apply exQ.mk | apply exP.mk) | (refine EqP.mk rfl rfl) | (with_reducible apply exW.mk) | (refine EqW.mk rfl) | (with_reducible first | intro _ | refine Dn.mk ?_) | (refine exS.full (by first | rfl | (simp; done) | (simp; omega)) ?_) | (refine And.intro (Ob.mk ⟨rfl, rfl, by first | rfl | (simp; done) | (simp; omega)⟩) ?_) | (with_reducible refine exE.mapD ?_) | (refine exL.int ?_) | (with_reducible first | refine Up0.mk rfl ?_ | refine Up0i.mk rfl ?_ | refine Up1.mk rfl ?_ | refine Up1i.mk rfl ?_ | refine Up2.mk rfl ?_ | refine Up2i.mk rfl ?_) | (refine Col.mk rfl rfl rfl ?_) | (refine Coli.mk rfl rfl rfl rfl ?_) | (refine drawVC.all _ _ (by kernel_rfl) ?_))
      all_goals (try (refine Ob.mk ?_; first | assumption | exact ⟨rfl, rfl⟩ | exact ⟨rfl, rfl, rfl⟩ | (refine ⟨rfl, rfl, ?_⟩; simp only [List.length_map, List.length_take, List.length_append, els_len, List.length_replicate]; omega) | (intro h; exact h) | (intro h; rw [h]; rfl) | (intro h; simp_all; done) | (refine bytes_le (n := 1048577) ?_ rfl; simp only [ltI_iff, ltI_not, leI_iff, leI_not, eqI_iff, eqI_not, List.length_map, bif_and, bif_or, Bool.and_eq_true, Bool.and_eq_false_iff, Bool.or_eq_true, Bool.or_eq_false_iff, Bool.not_eq_true', Bool.not_eq_false', Int.toNat_natCast, beq_iff_eq, beq_eq_false_iff_ne, decide_eq_true_eq, decide_eq_false_iff_not, bel_iff, bel_not, wthn_iff, wthn_not, els_len, mixL_len, Nat.zero_add, List.length_set, List.length_take] at *; omega) | (simp only [ltI_iff, ltI_not, leI_iff, leI_not, eqI_iff, eqI_not, List.length_map, bif_and, bif_or, Bool.and_eq_true, Bool.and_eq_false_iff, Bool.or_eq_true, Bool.or_eq_false_iff, Bool.not_eq_true', Bool.not_eq_false', Int.toNat_natCast, beq_iff_eq, beq_eq_false_iff_ne, decide_eq_true_eq, decide_eq_false_iff_not, bel_iff, bel_not, wthn_iff, wthn_not, els_len, mixL_len, Nat.zero_add, List.length_set, List.length_take, Int.ofNat_eq_natCast] at *; omega)))
      · rename_i h2 h3
        rw [Int.toNat_natCast] at h3
        show T.bool false = T.bool (tr _)
        rw [tr_f fun h => mayF_no_rng (by simp only [ltI_iff, ltI_not, leI_iff, leI_not, eqI_iff, eqI_not, List.length_map, bif_and, bif_or, Bool.and_eq_true, Bool.and_eq_false_iff, Bool.or_eq_true, Bool.or_eq_false_iff, Bool.not_eq_true', Bool.not_eq_false', Int.toNat_natCast, beq_iff_eq, beq_eq_false_iff_ne, decide_eq_true_eq, decide_eq_false_iff_not] at *; omega) h3 h.1]
      · rename_i h2 h3
        rw [Int.toNat_natCast] at h3
        have hi2 : i < g.params.length := by simp only [ltI_iff, ltI_not, leI_iff, leI_not, eqI_iff, eqI_not, List.length_map, bif_and, bif_or, Bool.and_eq_true, Bool.and_eq_false_iff, Bool.or_eq_true, Bool.or_eq_false_iff, Bool.not_eq_true', Bool.not_eq_false', Int.toNat_natCast, beq_iff_eq, beq_eq_false_iff_ne, decide_eq_true_eq, decide_eq_false_iff_not] at *; omega
        conv => whnf
        refine LoopVC.up0 8 i (fun k => ∀ j, j < k → nthD g.params j ≠ nthD g.params i) ?_ ?_
        · repeat' ((conv => whnf); first | (with_reducible first | refine onBool_intro (fun _ => ?_) (fun _ => ?_) | refine And.intro (Ob.mk (Nat.le_of_ble_eq_true rfl)) ?_ | refine And.intro (Ob.mk rfl) ?_ | exact ⟨rfl, rfl⟩ | refine And.intro (Ob.mk (fun h => h)) ?_) | (with_reducible refine Or.inl (And.intro (Ob.mk (Flat.map ?_)) ?_); exact fun _ => rfl) | (refine Or.inl (And.intro (Ob.mk (flat_of rfl)) ?_)) | (refine Or.inl (And.intro (Ob.mk ⟨rfl, rfl, rfl, rfl⟩) ?_)) | (refine Or.inl (And.intro (Ob.mk ⟨rfl, rfl, rfl⟩) ?_)) | (refine And.intro (Ob.mk ⟨rfl, rfl⟩) ?_) | (with_reducible refine Or.inr ?_) | (refine And.intro (Ob.mk (flat_of rfl)) ?_) | (with_reducible refine And.intro (Ob.mk (Flat.map ?_)) ?_; exact fun _ => rfl) | (with_reducible first | exact Ob.mk (Flat.map fun _ => rfl) | refine And.intro ?_ ?_ | apply exG.mk | apply exGS.mk | exact Dd.nil) | (refine Dd.same _ ?_) | (refine Dd.dead _ ?_) | (with_reducible first | apply exQ.mk | apply exP.mk) | (refine EqP.mk rfl rfl) | (with_reducible apply exW.mk) | (refine EqW.mk rfl) | (with_reducible first | intro _ | refine Dn.mk ?_) | (refine exS.full (by first | rfl | (simp; done) | (simp; omega)) ?_) | (refine And.intro (Ob.mk ⟨rfl, rfl, by first | rfl | (simp; done) | (simp; omega)⟩) ?_) | (with_reducible refine exE.mapD ?_) | (refine exL.int ?_) | (with_reducible first | refine Up0.mk rfl ?_ | refine Up0i.mk rfl ?_ | refine Up1.mk rfl ?_ | refine Up1i.mk rfl ?_ | refine Up2.mk rfl ?_ | refine Up2i.mk rfl ?_) | (refine Col.mk rfl rfl rfl ?_) | (refine Coli.mk rfl rfl rfl rfl ?_))
          exact Ob.mk fun j hj => absurd hj (Nat.not_lt_zero _)
        · intro k hk hek
          repeat' ((conv => whnf); first | (with_reducible first | refine onBool_intro (fun _ => ?_) (fun _ => ?_) | refine And.intro (Ob.mk (Nat.le_of_ble_eq_true rfl)) ?_ | refine And.intro (Ob.mk rfl) ?_ | exact ⟨rfl, rfl⟩ | refine And.intro (Ob.mk (fun h => h)) ?_) | (with_reducible refine Or.inl (And.intro (Ob.mk (Flat.map ?_)) ?_); exact fun _ => rfl) | (refine Or.inl (And.intro (Ob.mk (flat_of rfl)) ?_)) | (refine Or.inl (And.intro (Ob.mk ⟨rfl, rfl, rfl, rfl⟩) ?_)) | (refine Or.inl (And.intro (Ob.mk ⟨rfl, rfl, rfl⟩) ?_)) | (refine And.intro (Ob.mk ⟨rfl, rfl⟩) ?_) | (with_reducible refine Or.inr ?_) | (refine And.intro (Ob.mk (flat_of rfl)) ?_) | (with_reducible refine And.intro (Ob.mk (Flat.map ?_)) ?_; exact fun _ => rfl) | (with_reducible first | exact Ob.mk (Flat.map fun _ => rfl) | refine And.intro ?_ ?_ | apply exG.mk | apply exGS.mk | exact Dd.nil) | (refine Dd.same _ ?_) | (refine Dd.dead _ ?_) | (with_reducible first | apply exQ.mk | apply exP.mk) | (refine EqP.mk rfl rfl) | (with_reducible apply exW.mk) | (refine EqW.mk rfl) | (with_reducible first | intro _ | refine Dn.mk ?_) | (refine exS.full (by first | rfl | (simp; done) | (simp; omega)) ?_) | (refine And.intro (Ob.mk ⟨rfl, rfl, by first | rfl | (simp; done) | (simp; omega)⟩) ?_) | (with_reducible refine exE.mapD ?_) | (refine exL.int ?_) | (with_reducible first | refine Up0.mk rfl ?_ | refine Up0i.mk rfl ?_ | refine Up1.mk rfl ?_ | refine Up1i.mk rfl ?_ | refine Up2.mk rfl ?_ | refine Up2i.mk rfl ?_) | (refine Col.mk rfl rfl rfl ?_) | (refine Coli.mk rfl rfl rfl rfl ?_) | (refine drawVC.all _ _ (by kernel_rfl) ?_))
          all_goals (try (refine Ob.mk ?_; first | assumption | exact ⟨rfl, rfl⟩ | exact ⟨rfl, rfl, rfl⟩ | (refine ⟨rfl, rfl, ?_⟩; simp only [List.length_map, List.length_take, List.length_append, els_len, List.length_replicate]; omega) | (intro h; exact h) | (intro h; rw [h]; rfl) | (intro h; simp_all; done) | (refine bytes_le (n := 1048577) ?_ rfl; simp only [ltI_iff, ltI_not, leI_iff, leI_not, eqI_iff, eqI_not, List.length_map, bif_and, bif_or, Bool.and_eq_true, Bool.and_eq_false_iff, Bool.or_eq_true, Bool.or_eq_false_iff, Bool.not_eq_true', Bool.not_eq_false', Int.toNat_natCast, beq_iff_eq, beq_eq_false_iff_ne, decide_eq_true_eq, decide_eq_false_iff_not, bel_iff, bel_not, wthn_iff, wthn_not, els_len, mixL_len, Nat.zero_add, List.length_set, List.length_take] at *; omega) | (simp only [ltI_iff, ltI_not, leI_iff, leI_not, eqI_iff, eqI_not, List.length_map, bif_and, bif_or, Bool.and_eq_true, Bool.and_eq_false_iff, Bool.or_eq_true, Bool.or_eq_false_iff, Bool.not_eq_true', Bool.not_eq_false', Int.toNat_natCast, beq_iff_eq, beq_eq_false_iff_ne, decide_eq_true_eq, decide_eq_false_iff_not, bel_iff, bel_not, wthn_iff, wthn_not, els_len, mixL_len, Nat.zero_add, List.length_set, List.length_take, Int.ofNat_eq_natCast] at *; omega)))
          · rename_i h4 h5
            simp only [ltI_iff, ltI_not, leI_iff, leI_not, eqI_iff, eqI_not, List.length_map, bif_and, bif_or, Bool.and_eq_true, Bool.and_eq_false_iff, Bool.or_eq_true, Bool.or_eq_false_iff, Bool.not_eq_true', Bool.not_eq_false', Int.toNat_natCast, beq_iff_eq, beq_eq_false_iff_ne, decide_eq_true_eq, decide_eq_false_iff_not] at *
            show T.bool false = T.bool (tr _)
            rw [tr_f fun h => mayF_no_dup hi2 (by omega) h5 h.1]
          · rename_i h4 h5
            simp only [ltI_iff, ltI_not, leI_iff, leI_not, eqI_iff, eqI_not, List.length_map, bif_and, bif_or, Bool.and_eq_true, Bool.and_eq_false_iff, Bool.or_eq_true, Bool.or_eq_false_iff, Bool.not_eq_true', Bool.not_eq_false', Int.toNat_natCast, beq_iff_eq, beq_eq_false_iff_ne, decide_eq_true_eq, decide_eq_false_iff_not] at *
            refine Ob.mk ⟨by omega, addI_i64 (by omega) (by omega), fun j hj => ?_⟩
            rcases Nat.lt_or_ge j k with h6 | h6
            · exact hek j h6
            · rw [show j = k by omega]; exact h5
          · rename_i h4
            have h4 : i ≤ k := by have := ltI_not.1 h4; omega
            exact Ob.mk ⟨hi2, addI_i64 (by omega) (by omega), he.succ hi2 h3 fun j hj => hek j (by omega)⟩
      · rename_i h2
        have hi2 : g.params.length ≤ i := by simp only [ltI_iff, ltI_not, leI_iff, leI_not, eqI_iff, eqI_not, List.length_map, bif_and, bif_or, Bool.and_eq_true, Bool.and_eq_false_iff, Bool.or_eq_true, Bool.or_eq_false_iff, Bool.not_eq_true', Bool.not_eq_false', Int.toNat_natCast, beq_iff_eq, beq_eq_false_iff_ne, decide_eq_true_eq, decide_eq_false_iff_not] at *; omega
        show T.bool true = T.bool (tr _)
        rw [tr_t ⟨he.done hi2 hf h8, ha⟩]
theorem index62 (l : List Int) (v : Int) : PCalls Tryd.prog 62 [ilist l, .int .i64 v] (fun r => r = .int .i64 (idxN (eqI v) l)) := by
  refine PCalls.of_body ttOk Tryd.func62 rfl ?_
  repeat' ((conv => whnf); first | (with_reducible first | refine onBool_intro (fun _ => ?_) (fun _ => ?_) | refine And.intro (Ob.mk (Nat.le_of_ble_eq_true rfl)) ?_ | refine And.intro (Ob.mk rfl) ?_ | exact ⟨rfl, rfl⟩ | refine And.intro (Ob.mk (fun h => h)) ?_) | (with_reducible refine Or.inl (And.intro (Ob.mk (Flat.map ?_)) ?_); exact fun _ => rfl) | (refine Or.inl (And.intro (Ob.mk (flat_of rfl)) ?_)) | (refine Or.inl (And.intro (Ob.mk ⟨rfl, rfl, rfl, rfl⟩) ?_)) | (refine Or.inl (And.intro (Ob.mk ⟨rfl, rfl, rfl⟩) ?_)) | (refine And.intro (Ob.mk ⟨rfl, rfl⟩) ?_) | (with_reducible refine Or.inr ?_) | (refine And.intro (Ob.mk (flat_of rfl)) ?_) | (with_reducible refine And.intro (Ob.mk (Flat.map ?_)) ?_; exact fun _ => rfl) | (with_reducible first | exact Ob.mk (Flat.map fun _ => rfl) | refine And.intro ?_ ?_ | apply exG.mk | apply exGS.mk | exact Dd.nil) | (refine Dd.same _ ?_) | (refine Dd.dead _ ?_) | (with_reducible first | apply exQ.mk | apply exP.mk) | (refine EqP.mk rfl rfl) | (with_reducible apply exW.mk) | (refine EqW.mk rfl) | (with_reducible first | intro _ | refine Dn.mk ?_) | (refine exS.full (by first | rfl | (simp; done) | (simp; omega)) ?_) | (refine And.intro (Ob.mk ⟨rfl, rfl, by first | rfl | (simp; done) | (simp; omega)⟩) ?_) | (with_reducible refine exE.mapD ?_) | (refine exL.int ?_) | (with_reducible first | refine Up0.mk rfl ?_ | refine Up0i.mk rfl ?_ | refine Up1.mk rfl ?_ | refine Up1i.mk rfl ?_ | refine Up2.mk rfl ?_ | refine Up2i.mk rfl ?_) | (refine Col.mk rfl rfl rfl ?_) | (refine Coli.mk rfl rfl rfl rfl ?_))
  conv => whnf
  refine LoopVC.up0 8 l.length (fun i => ∀ j, j < i → eqI v (nthD l j) = false) ?_ ?_
  · repeat' ((conv => whnf); first | (with_reducible first | refine onBool_intro (fun _ => ?_) (fun _ => ?_) | refine And.intro (Ob.mk (Nat.le_of_ble_eq_true rfl)) ?_ | refine And.intro (Ob.mk rfl) ?_ | exact ⟨rfl, rfl⟩ | refine And.intro (Ob.mk (fun h => h)) ?_) | (with_reducible refine Or.inl (And.intro (Ob.mk (Flat.map ?_)) ?_); exact fun _ => rfl) | (refine Or.inl (And.intro (Ob.mk (flat_of rfl)) ?_)) | (refine Or.inl (And.intro (Ob.mk ⟨rfl, rfl, rfl, rfl⟩) ?_)) | (refine Or.inl (And.intro (Ob.mk ⟨rfl, rfl, rfl⟩) ?_)) | (refine And.intro (Ob.mk ⟨rfl, rfl⟩) ?_) | (with_reducible refine Or.inr ?_) | (refine And.intro (Ob.mk (flat_of rfl)) ?_) | (with_reducible refine And.intro (Ob.mk (Flat.map ?_)) ?_; exact fun _ => rfl) | (with_reducible first | exact Ob.mk (Flat.map fun _ => rfl) | refine And.intro ?_ ?_ | apply exG.mk | apply exGS.mk | exact Dd.nil) | (refine Dd.same _ ?_) | (refine Dd.dead _ ?_) | (with_reducible first | apply exQ.mk | apply exP.mk) | (refine EqP.mk rfl rfl) | (with_reducible apply exW.mk) | (refine EqW.mk rfl) | (with_reducible first | intro _ | refine Dn.mk ?_) | (refine exS.full (by first | rfl | (simp; done) | (simp; omega)) ?_) | (refine And.intro (Ob.mk ⟨rfl, rfl, by first | rfl | (simp; done) | (simp; omega)⟩) ?_) | (with_reducible refine exE.mapD ?_) | (refine exL.int ?_) | (with_reducible first | refine Up0.mk rfl ?_ | refine Up0i.mk rfl ?_ | refine Up1.mk rfl ?_ | refine Up1i.mk rfl ?_ | refine Up2.mk rfl ?_ | refine Up2i.mk rfl ?_) | (refine Col.mk rfl rfl rfl ?_) | (refine Coli.mk rfl rfl rfl rfl ?_))
    exact Ob.mk (fun j hj => absurd hj (Nat.not_lt_zero _))
  · intro i hi he
    repeat' ((conv => whnf); first | (with_reducible first | refine onBool_intro (fun _ => ?_) (fun _ => ?_) | refine And.intro (Ob.mk (Nat.le_of_ble_eq_true rfl)) ?_ | refine And.intro (Ob.mk rfl) ?_ | exact ⟨rfl, rfl⟩ | refine And.intro (Ob.mk (fun h => h)) ?_) | (with_reducible refine Or.inl (And.intro (Ob.mk (Flat.map ?_)) ?_); exact fun _ => rfl) | (refine Or.inl (And.intro (Ob.mk (flat_of rfl)) ?_)) | (refine Or.inl (And.intro (Ob.mk ⟨rfl, rfl, rfl, rfl⟩) ?_)) | (refine Or.inl (And.intro (Ob.mk ⟨rfl, rfl, rfl⟩) ?_)) | (refine And.intro (Ob.mk ⟨rfl, rfl⟩) ?_) | (with_reducible refine Or.inr ?_) | (refine And.intro (Ob.mk (flat_of rfl)) ?_) | (with_reducible refine And.intro (Ob.mk (Flat.map ?_)) ?_; exact fun _ => rfl) | (with_reducible first | exact Ob.mk (Flat.map fun _ => rfl) | refine And.intro ?_ ?_ | apply exG.mk | apply exGS.mk | exact Dd.nil) | (refine Dd.same _ ?_) | (refine Dd.dead _ ?_) | (with_reducible first | apply exQ.mk | apply exP.mk) | (refine EqP.mk rfl rfl) | (with_reducible apply exW.mk) | (refine EqW.mk rfl) | (with_reducible first | intro _ | refine Dn.mk ?_) | (refine exS.full (by first | rfl | (simp; done) | (simp; omega)) ?_) | (refine And.intro (Ob.mk ⟨rfl, rfl, by first | rfl | (simp; done) | (simp; omega)⟩) ?_) | (with_reducible refine exE.mapD ?_) | (refine exL.int ?_) | (with_reducible first | refine Up0.mk rfl ?_ | refine Up0i.mk rfl ?_ | refine Up1.mk rfl ?_ | refine Up1i.mk rfl ?_ | refine Up2.mk rfl ?_ | refine Up2i.mk rfl ?_) | (refine Col.mk rfl rfl rfl ?_) | (refine Coli.mk rfl rfl rfl rfl ?_))
    all_goals (try (refine Ob.mk ?_; first | assumption | exact ⟨rfl, rfl⟩ | exact ⟨rfl, rfl, rfl⟩ | (refine ⟨rfl, rfl, ?_⟩; simp only [List.length_map, List.length_take, List.length_append, els_len, List.length_replicate]; omega) | (intro h; exact h) | (intro h; rw [h]; rfl) | (intro h; simp_all; done) | (refine bytes_le (n := 1048577) ?_ rfl; simp only [ltI_iff, ltI_not, leI_iff, leI_not, eqI_iff, eqI_not, List.length_map, bif_and, bif_or, Bool.and_eq_true, Bool.and_eq_false_iff, Bool.or_eq_true, Bool.or_eq_false_iff, Bool.not_eq_true', Bool.not_eq_false', Int.toNat_natCast, beq_iff_eq, beq_eq_false_iff_ne, decide_eq_true_eq, decide_eq_false_iff_not, bel_iff, bel_not, wthn_iff, wthn_not, els_len, mixL_len, Nat.zero_add, List.length_set, List.length_take] at *; omega) | (simp only [ltI_iff, ltI_not, leI_iff, leI_not, eqI_iff, eqI_not, List.length_map, bif_and, bif_or, Bool.and_eq_true, Bool.and_eq_false_iff, Bool.or_eq_true, Bool.or_eq_false_iff, Bool.not_eq_true', Bool.not_eq_false', Int.toNat_natCast, beq_iff_eq, beq_eq_false_iff_ne, decide_eq_true_eq, decide_eq_false_iff_not, bel_iff, bel_not, wthn_iff, wthn_not, els_len, mixL_len, Nat.zero_add, List.length_set, List.length_take, Int.ofNat_eq_natCast] at *; omega)))
    · rename_i h1 h2
      have hlt : i < l.length := by simp only [ltI_iff, ltI_not, leI_iff, leI_not, eqI_iff, eqI_not, List.length_map, bif_and, bif_or, Bool.and_eq_true, Bool.and_eq_false_iff, Bool.or_eq_true, Bool.or_eq_false_iff, Bool.not_eq_true', Bool.not_eq_false', Int.toNat_natCast, beq_iff_eq, beq_eq_false_iff_ne, decide_eq_true_eq, decide_eq_false_iff_not] at *; omega
      exact congrArg (T.int .i64) (idxN_hit hlt he h2).symm
    · rename_i h1 h2
      have hlt : i < l.length := by simp only [ltI_iff, ltI_not, leI_iff, leI_not, eqI_iff, eqI_not, List.length_map, bif_and, bif_or, Bool.and_eq_true, Bool.and_eq_false_iff, Bool.or_eq_true, Bool.or_eq_false_iff, Bool.not_eq_true', Bool.not_eq_false', Int.toNat_natCast, beq_iff_eq, beq_eq_false_iff_ne, decide_eq_true_eq, decide_eq_false_iff_not] at *; omega
      refine Ob.mk ⟨hlt, addI_i64 (by simp only [ltI_iff, ltI_not, leI_iff, leI_not, eqI_iff, eqI_not, List.length_map, bif_and, bif_or, Bool.and_eq_true, Bool.and_eq_false_iff, Bool.or_eq_true, Bool.or_eq_false_iff, Bool.not_eq_true', Bool.not_eq_false', Int.toNat_natCast, beq_iff_eq, beq_eq_false_iff_ne, decide_eq_true_eq, decide_eq_false_iff_not] at *; omega) (by simp only [ltI_iff, ltI_not, leI_iff, leI_not, eqI_iff, eqI_not, List.length_map, bif_and, bif_or, Bool.and_eq_true, Bool.and_eq_false_iff, Bool.or_eq_true, Bool.or_eq_false_iff, Bool.not_eq_true', Bool.not_eq_false', Int.toNat_natCast, beq_iff_eq, beq_eq_false_iff_ne, decide_eq_true_eq, decide_eq_false_iff_not] at *; omega), ?_⟩
      intro j hj
      rcases Nat.lt_or_ge j i with h | h
      · exact he j h
      · rw [show j = i by omega]; exact h2
    · rename_i h1
      have hge : l.length ≤ i := by simp only [ltI_iff, ltI_not, leI_iff, leI_not, eqI_iff, eqI_not, List.length_map, bif_and, bif_or, Bool.and_eq_true, Bool.and_eq_false_iff, Bool.or_eq_true, Bool.or_eq_false_iff, Bool.not_eq_true', Bool.not_eq_false', Int.toNat_natCast, beq_iff_eq, beq_eq_false_iff_ne, decide_eq_true_eq, decide_eq_false_iff_not] at *; omega
      exact congrArg (T.int .i64) (idxN_miss fun j hj => he j (by omega)).symm
theorem contains36 (l : List Int) (v : Int) : PCalls Tryd.prog 36 [ilist l, .int .i64 v] (fun r => r = .bool (l.any (eqI v))) := by
  refine PCalls.of_body ttOk Tryd.func36 rfl ?_
  repeat' ((conv => whnf); first | (with_reducible first | refine onBool_intro (fun _ => ?_) (fun _ => ?_) | refine And.intro (Ob.mk (Nat.le_of_ble_eq_true rfl)) ?_ | refine And.intro (Ob.mk rfl) ?_ | exact ⟨rfl, rfl⟩ | refine And.intro (Ob.mk (fun h => h)) ?_) | (with_reducible refine Or.inl (And.intro (Ob.mk (Flat.map ?_)) ?_); exact fun _ => rfl) | (refine Or.inl (And.intro (Ob.mk (flat_of rfl)) ?_)) | (refine Or.inl (And.intro (Ob.mk ⟨rfl, rfl, rfl, rfl⟩) ?_)) | (refine Or.inl (And.intro (Ob.mk ⟨rfl, rfl, rfl⟩) ?_)) | (refine And.intro (Ob.mk ⟨rfl, rfl⟩) ?_) | (with_reducible refine Or.inr ?_) | (refine And.intro (Ob.mk (flat_of rfl)) ?_) | (with_reducible refine And.intro (Ob.mk (Flat.map ?_)) ?_; exact fun _ => rfl) | (with_reducible first | exact Ob.mk (Flat.map fun _ => rfl) | refine And.intro ?_ ?_ | apply exG.mk | apply exGS.mk | exact Dd.nil) | (refine Dd.same _ ?_) | (refine Dd.dead _ ?_) | (with_reducible first | apply exQ.mk | apply exP.mk) | (refine EqP.mk rfl rfl) | (with_reducible apply exW.mk) | (refine EqW.mk rfl) | (with_reducible first | intro _ | refine Dn.mk ?_) | (refine exS.full (by first | rfl | (simp; done) | (simp; omega)) ?_) | (refine And.intro (Ob.mk ⟨rfl, rfl, by first | rfl | (simp; done) | (simp; omega)⟩) ?_) | (with_reducible refine exE.mapD ?_) | (refine exL.int ?_) | (with_reducible first | refine Up0.mk rfl ?_ | refine Up0i.mk rfl ?_ | refine Up1.mk rfl ?_ | refine Up1i.mk rfl ?_ | refine Up2.mk rfl ?_ | refine Up2i.mk rfl ?_) | (refine Col.mk rfl rfl rfl ?_) | (refine Coli.mk rfl rfl rfl rfl ?_) | (refine PCalls.mono (index62 _ _) ?_; rintro _ rfl))
  exact congrArg T.bool idxN_any
theorem contains36k (l : List Int) (k : Nat) (v : Int) {q : T → Prop} (hq : q (.bool ((l.take k).any (eqI v)))) : PCalls Tryd.prog 36 [.sl 1 (((l.map fun n => T.int .i64 n).drop 0).take k), .int .i64 v] q := by
  rw [List.drop_zero, ← List.map_take]
  exact PCalls.mono (contains36 _ v) fun r h => h ▸ hq
theorem may19 (g : Graph) (hg : g.tiny) (hw : ∀ b ∈ g.blocks, ∀ x ∈ allN b.fin, I64 x) : PCalls Tryd.prog 19 [g.t] (fun r => r = .bool (tr g.mayF)) := by
  refine PCalls.of_body ttOk Tryd.func19 rfl ?_
  repeat' ((conv => whnf); first | (with_reducible first | refine onBool_intro (fun _ => ?_) (fun _ => ?_) | refine And.intro (Ob.mk (Nat.le_of_ble_eq_true rfl)) ?_ | refine And.intro (Ob.mk rfl) ?_ | exact ⟨rfl, rfl⟩ | refine And.intro (Ob.mk (fun h => h)) ?_) | (with_reducible refine Or.inl (And.intro (Ob.mk (Flat.map ?_)) ?_); exact fun _ => rfl) | (refine Or.inl (And.intro (Ob.mk (flat_of rfl)) ?_)) | (refine Or.inl (And.intro (Ob.mk ⟨rfl, rfl, rfl, rfl⟩) ?_)) | (refine Or.inl (And.intro (Ob.mk ⟨rfl, rfl, rfl⟩) ?_)) | (refine And.intro (Ob.mk ⟨rfl, rfl⟩) ?_) | (with_reducible refine Or.inr ?_) | (refine And.intro (Ob.mk (flat_of rfl)) ?_) | (with_reducible refine And.intro (Ob.mk (Flat.map ?_)) ?_; exact fun _ => rfl) | (with_reducible first | exact Ob.mk (Flat.map fun _ => rfl) | refine And.intro ?_ ?_ | apply exG.mk | apply exGS.mk | exact Dd.nil) | (refine Dd.same _ ?_) | (refine Dd.dead _ ?_) | (with_reducible first | apply exQ.mk | apply exP.mk) | (refine EqP.mk rfl rfl) | (with_reducible apply exW.mk) | (refine EqW.mk rfl) | (with_reducible first | intro _ | refine Dn.mk ?_) | (refine exS.full (by first | rfl | (simp; done) | (simp; omega)) ?_) | (refine And.intro (Ob.mk ⟨rfl, rfl, by first | rfl | (simp; done) | (simp; omega)⟩) ?_) | (with_reducible refine exE.mapD ?_) | (refine exL.int ?_) | (with_reducible first | refine Up0.mk rfl ?_ | refine Up0i.mk rfl ?_ | refine Up1.mk rfl ?_ | refine Up1i.mk rfl ?_ | refine Up2.mk rfl ?_ | refine Up2i.mk rfl ?_) | (refine Col.mk rfl rfl rfl ?_) | (refine Coli.mk rfl rfl rfl rfl ?_) | (refine fits28k g hg hw (fun hf => ?_) (fun hf => ?_)))
  all_goals (try (refine Ob.mk ?_; first | assumption | exact ⟨rfl, rfl⟩ | exact ⟨rfl, rfl, rfl⟩ | (refine ⟨rfl, rfl, ?_⟩; simp only [List.length_map, List.length_take, List.length_append, els_len, List.length_replicate]; omega) | (intro h; exact h) | (intro h; rw [h]; rfl) | (intro h; simp_all; done) | (refine bytes_le (n := 1048577) ?_ rfl; simp only [ltI_iff, ltI_not, leI_iff, leI_not, eqI_iff, eqI_not, List.length_map, bif_and, bif_or, Bool.and_eq_true, Bool.and_eq_false_iff, Bool.or_eq_true, Bool.or_eq_false_iff, Bool.not_eq_true', Bool.not_eq_false', Int.toNat_natCast, beq_iff_eq, beq_eq_false_iff_ne, decide_eq_true_eq, decide_eq_false_iff_not, bel_iff, bel_not, wthn_iff, wthn_not, els_len, mixL_len, Nat.zero_add, List.length_set, List.length_take] at *; omega) | (simp only [ltI_iff, ltI_not, leI_iff, leI_not, eqI_iff, eqI_not, List.length_map, bif_and, bif_or, Bool.and_eq_true, Bool.and_eq_false_iff, Bool.or_eq_true, Bool.or_eq_false_iff, Bool.not_eq_true', Bool.not_eq_false', Int.toNat_natCast, beq_iff_eq, beq_eq_false_iff_ne, decide_eq_true_eq, decide_eq_false_iff_not, bel_iff, bel_not, wthn_iff, wthn_not, els_len, mixL_len, Nat.zero_add, List.length_set, List.length_take, Int.ofNat_eq_natCast] at *; omega)))
  all_goals (try (show T.bool false = T.bool (tr _); rw [tr_f (fun h => hf h.fits)]; done))
  · rename_i h1
    show T.bool false = T.bool (tr _)
    rw [tr_f]
    intro h
    have := h.few
    simp only [Bool.not_true, bif_or, Bool.false_or, ltI_iff, List.length_map] at h1
    omega
  · rename_i h1 _
    have h8 : g.params.length ≤ 8 := by
      simp only [Bool.not_true, bif_or, Bool.false_or, ltI_not, List.length_map] at h1
      omega
    conv => whnf
    refine LoopVC.up0 17 g.params.length (ParI g) ?_ ?_
    · repeat' ((conv => whnf); first | (with_reducible first | refine onBool_intro (fun _ => ?_) (fun _ => ?_) | refine And.intro (Ob.mk (Nat.le_of_ble_eq_true rfl)) ?_ | refine And.intro (Ob.mk rfl) ?_ | exact ⟨rfl, rfl⟩ | refine And.intro (Ob.mk (fun h => h)) ?_) | (with_reducible refine Or.inl (And.intro (Ob.mk (Flat.map ?_)) ?_); exact fun _ => rfl) | (refine Or.inl (And.intro (Ob.mk (flat_of rfl)) ?_)) | (refine Or.inl (And.intro (Ob.mk ⟨rfl, rfl, rfl, rfl⟩) ?_)) | (refine Or.inl (And.intro (Ob.mk ⟨rfl, rfl, rfl⟩) ?_)) | (refine And.intro (Ob.mk ⟨rfl, rfl⟩) ?_) | (with_reducible refine Or.inr ?_) | (refine And.intro (Ob.mk (flat_of rfl)) ?_) | (with_reducible refine And.intro (Ob.mk (Flat.map ?_)) ?_; exact fun _ => rfl) | (with_reducible first | exact Ob.mk (Flat.map fun _ => rfl) | refine And.intro ?_ ?_ | apply exG.mk | apply exGS.mk | exact Dd.nil) | (refine Dd.same _ ?_) | (refine Dd.dead _ ?_) | (with_reducible first | apply exQ.mk | apply exP.mk) | (refine EqP.mk rfl rfl) | (with_reducible apply exW.mk) | (refine EqW.mk rfl) | (with_reducible first | intro _ | refine Dn.mk ?_) | (refine exS.full (by first | rfl | (simp; done) | (simp; omega)) ?_) | (refine And.intro (Ob.mk ⟨rfl, rfl, by first | rfl | (simp; done) | (simp; omega)⟩) ?_) | (with_reducible refine exE.mapD ?_) | (refine exL.int ?_) | (with_reducible first | refine Up0.mk rfl ?_ | refine Up0i.mk rfl ?_ | refine Up1.mk rfl ?_ | refine Up1i.mk rfl ?_ | refine Up2.mk rfl ?_ | refine Up2i.mk rfl ?_) | (refine Col.mk rfl rfl rfl ?_) | (refine Coli.mk rfl rfl rfl rfl ?_))
      exact Ob.mk .zero
    · intro i hi he
      repeat' ((conv => whnf); first | (with_reducible first | refine onBool_intro (fun _ => ?_) (fun _ => ?_) | refine And.intro (Ob.mk (Nat.le_of_ble_eq_true rfl)) ?_ | refine And.intro (Ob.mk rfl) ?_ | exact ⟨rfl, rfl⟩ | refine And.intro (Ob.mk (fun h => h)) ?_) | (with_reducible refine Or.inl (And.intro (Ob.mk (Flat.map ?_)) ?_); exact fun _ => rfl) | (refine Or.inl (And.intro (Ob.mk (flat_of rfl)) ?_)) | (refine Or.inl (And.intro (Ob.mk ⟨rfl, rfl, rfl, rfl⟩) ?_)) | (refine Or.inl (And.intro (Ob.mk ⟨rfl, rfl, rfl⟩) ?_)) | (refine And.intro (Ob.mk ⟨rfl, rfl⟩) ?_) | (with_reducible refine Or.inr ?_) | (refine And.intro (Ob.mk (flat_of rfl)) ?_) | (with_reducible refine And.intro (Ob.mk (Flat.map ?_)) ?_; exact fun _ => rfl) | (with_reducible first | exact Ob.mk (Flat.map fun _ => rfl) | refine And.intro ?_ ?_ | apply exG.mk | apply exGS.mk | exact Dd.nil) | (refine Dd.same _ ?_) | (refine Dd.dead _ ?_) | (with_reducible first | apply exQ.mk | apply exP.mk) | (refine EqP.mk rfl rfl) | (with_reducible apply exW.mk) | (refine EqW.mk rfl) | (with_reducible first | intro _ | refine Dn.mk ?_) | (refine exS.full (by first | rfl | (simp; done) | (simp; omega)) ?_) | (refine And.intro (Ob.mk ⟨rfl, rfl, by first | rfl | (simp; done) | (simp; omega)⟩) ?_) | (with_reducible refine exE.mapD ?_) | (refine exL.int ?_) | (with_reducible first | refine Up0.mk rfl ?_ | refine Up0i.mk rfl ?_ | refine Up1.mk rfl ?_ | refine Up1i.mk rfl ?_ | refine Up2.mk rfl ?_ | refine Up2i.mk rfl ?_) | (refine Col.mk rfl rfl rfl ?_) | (refine Coli.mk rfl rfl rfl rfl ?_) | (refine contains36k _ _ _ ?_) | (refine exS.part ?_))
      all_goals (try (refine Ob.mk ?_; first | assumption | exact ⟨rfl, rfl⟩ | exact ⟨rfl, rfl, rfl⟩ | (refine ⟨rfl, rfl, ?_⟩; simp only [List.length_map, List.length_take, List.length_append, els_len, List.length_replicate]; omega) | (intro h; exact h) | (intro h; rw [h]; rfl) | (intro h; simp_all; done) | (refine bytes_le (n := 1048577) ?_ rfl; simp only [ltI_iff, ltI_not, leI_iff, leI_not, eqI_iff, eqI_not, List.length_map, bif_and, bif_or, Bool.and_eq_true, Bool.and_eq_false_iff, Bool.or_eq_true, Bool.or_eq_false_iff, Bool.not_eq_true', Bool.not_eq_false', Int.toNat_natCast, beq_iff_eq, beq_eq_false_iff_ne, decide_eq_true_eq, decide_eq_false_iff_not, bel_iff, bel_not, wthn_iff, wthn_not, els_len, mixL_len, Nat.zero_add, List.length_set, List.length_take] at *; omega) | (simp only [ltI_iff, ltI_not, leI_iff, leI_not, eqI_iff, eqI_not, List.length_map, bif_and, bif_or, Bool.and_eq_true, Bool.and_eq_false_iff, Bool.or_eq_true, Bool.or_eq_false_iff, Bool.not_eq_true', Bool.not_eq_false', Int.toNat_natCast, beq_iff_eq, beq_eq_false_iff_ne, decide_eq_true_eq, decide_eq_false_iff_not, bel_iff, bel_not, wthn_iff, wthn_not, els_len, mixL_len, Nat.zero_add, List.length_set, List.length_take, Int.ofNat_eq_natCast] at *; omega)))
      · rename_i h2 h3
        have hi2 : i < g.params.length := by simp only [ltI_iff, ltI_not, leI_iff, leI_not, eqI_iff, eqI_not, List.length_map, bif_and, bif_or, Bool.and_eq_true, Bool.and_eq_false_iff, Bool.or_eq_true, Bool.or_eq_false_iff, Bool.not_eq_true', Bool.not_eq_false', Int.toNat_natCast, beq_iff_eq, beq_eq_false_iff_ne, decide_eq_true_eq, decide_eq_false_iff_not] at *; omega
        rw [Int.sub_zero, Int.toNat_natCast] at h3
        show T.bool false = T.bool (tr _)
        rw [tr_f]
        intro hm
        cases h4 : (bif ltI (nthD g.params i) 0 then true else leI g.temps (nthD g.params i)) with
        | true => exact mayF_no_rng hi2 h4 hm
        | false =>
          rw [h4, cond_false, List.any_eq_true] at h3
          obtain ⟨t, ht, h5⟩ := h3
          obtain ⟨j, hj, rfl⟩ := List.mem_iff_getElem.1 ht
          have hj2 : j < i := by rw [List.length_take] at hj; omega
          rw [eqI_iff, List.getElem_take, ← nthD_get (by omega)] at h5
          exact mayF_no_dup hi2 hj2 h5.symm hm
      · rename_i h2 h3
        have hi2 : i < g.params.length := by simp only [ltI_iff, ltI_not, leI_iff, leI_not, eqI_iff, eqI_not, List.length_map, bif_and, bif_or, Bool.and_eq_true, Bool.and_eq_false_iff, Bool.or_eq_true, Bool.or_eq_false_iff, Bool.not_eq_true', Bool.not_eq_false', Int.toNat_natCast, beq_iff_eq, beq_eq_false_iff_ne, decide_eq_true_eq, decide_eq_false_iff_not] at *; omega
        rw [Int.sub_zero, Int.toNat_natCast, bif_or, Bool.or_eq_false_iff] at h3
        refine Ob.mk ⟨hi2, addI_i64 (by omega) (by omega), he.succ hi2 h3.1 fun j hj e => ?_⟩
        have h4 := List.any_eq_false.1 h3.2 (nthD g.params j) (by
          have : j < (g.params.take i).length := by rw [List.length_take]; omega
          have h5 := List.getElem_mem this
          rwa [List.getElem_take, ← nthD_get (by omega)] at h5)
        exact h4 (eqI_iff.2 e.symm)
      · rename_i h2
        have hi2 : g.params.length ≤ i := by simp only [ltI_iff, ltI_not, leI_iff, leI_not, eqI_iff, eqI_not, List.length_map, bif_and, bif_or, Bool.and_eq_true, Bool.and_eq_false_iff, Bool.or_eq_true, Bool.or_eq_false_iff, Bool.not_eq_true', Bool.not_eq_false', Int.toNat_natCast, beq_iff_eq, beq_eq_false_iff_ne, decide_eq_true_eq, decide_eq_false_iff_not] at *; omega
        show T.bool true = T.bool (tr _)
        rw [tr_t (he.done hi2 hf h8)]
end Go.Proofs.YtgnafgebenlffaaDoor.Am

/- Rows of numbers, told by place. -/
namespace Go.Proofs.YtgnafgebenlffaaDoor.Am
open Go Go.Proofs
set_option maxRecDepth 10000
set_option maxHeartbeats 2000000
set_option linter.unusedVariables false
set_option linter.unusedSimpArgs false
abbrev intsF (n : Nat) (f : Nat → Int) : List T := (List.range n).map fun j => .int .i64 (f j)
theorem intsF_set {n i : Nat} {f : Nat → Int} {z : Int} : (intsF n f).set i (.int .i64 z) = intsF n (fun j => if j = i then z else f j) := by
  apply List.ext_getElem
  · simp
  · intro j h1 h2
    rw [List.getElem_set]
    simp only [List.getElem_map, List.getElem_range]
    by_cases h : i = j
    · subst h; simp
    · rw [if_neg h, if_neg (fun e => h e.symm)]
theorem intsF_congr {n : Nat} {f g : Nat → Int} (h : ∀ j, j < n → f j = g j) : intsF n f = intsF n g := by
  apply List.map_congr_left
  intro j hj
  rw [h j (by simpa using hj)]
theorem intsF_len {n : Nat} {f : Nat → Int} : (intsF n f).length = n := by simp
theorem exE.mixO {α : Type} [Inhabited α] {f g : α → T} {l : List α} {j i : Nat} {K : T → Prop} (h : Ob (i = j ∧ j < l.length)) (hk : K (g (nthD l j))) : exE (mixL f g l j) i K := exE.mix h.out.1 h.out.2 hk
end Go.Proofs.YtgnafgebenlffaaDoor.Am

/- Frames: what registers are kept, by the program. -/
namespace Go.Proofs.YtgnafgebenlffaaDoor.Am
open Go Go.Proofs
set_option maxRecDepth 10000
set_option maxHeartbeats 2000000
set_option linter.unusedVariables false
set_option linter.unusedSimpArgs false
def keepF (f : Nat → Int) (t w : Int) : Nat → Int := fun j => if (j : Int) = t then orI .i64 (f j) w else f j
theorem keep37 (f : Nat → Int) (t w : Int) : ICalls Tryd.prog 37 [.t (.int .i64 t), .t (.int .i64 w), .pl 0 0 [] 0 0] [.row 62 1 (intsF 9 f)] (fun v σ => Ob (v = .tup [] ∧ σ = [.row 62 1 (intsF 9 (keepF f t w))])) := by
  refine ICalls.inline (I := fun _ => false) ttOk Tryd.func37 rfl ?_
  repeat' ((conv => whnf); first | (with_reducible first | refine onBool_intro (fun _ => ?_) (fun _ => ?_) | refine And.intro (Ob.mk (Nat.le_of_ble_eq_true rfl)) ?_ | refine And.intro (Ob.mk rfl) ?_ | exact ⟨rfl, rfl⟩ | refine And.intro (Ob.mk (fun h => h)) ?_) | (with_reducible refine Or.inl (And.intro (Ob.mk (Flat.map ?_)) ?_); exact fun _ => rfl) | (refine Or.inl (And.intro (Ob.mk (flat_of rfl)) ?_)) | (refine Or.inl (And.intro (Ob.mk ⟨rfl, rfl, rfl, rfl⟩) ?_)) | (refine Or.inl (And.intro (Ob.mk ⟨rfl, rfl, rfl⟩) ?_)) | (refine And.intro (Ob.mk ⟨rfl, rfl⟩) ?_) | (with_reducible refine Or.inr ?_) | (refine And.intro (Ob.mk (flat_of rfl)) ?_) | (with_reducible refine And.intro (Ob.mk (Flat.map ?_)) ?_; exact fun _ => rfl) | (with_reducible first | exact Ob.mk (Flat.map fun _ => rfl) | refine And.intro ?_ ?_ | apply exG.mk | apply exGS.mk | exact Dd.nil) | (refine Dd.same _ ?_) | (refine Dd.dead _ ?_) | (with_reducible first | apply exQ.mk | apply exP.mk) | (refine EqP.mk rfl rfl) | (with_reducible apply exW.mk) | (refine EqW.mk rfl) | (with_reducible first | intro _ | refine Dn.mk ?_) | (refine exS.full (by first | rfl | (simp; done) | (simp; omega)) ?_) | (refine And.intro (Ob.mk ⟨rfl, rfl, by first | rfl | (simp; done) | (simp; omega)⟩) ?_) | (with_reducible refine exE.mapD ?_) | (refine exL.int ?_) | (with_reducible first | refine Up0.mk rfl ?_ | refine Up0i.mk rfl ?_ | refine Up1.mk rfl ?_ | refine Up1i.mk rfl ?_ | refine Up2.mk rfl ?_ | refine Up2i.mk rfl ?_) | (refine Col.mk rfl rfl rfl ?_) | (refine Coli.mk rfl rfl rfl rfl ?_))
  all_goals (try (refine Ob.mk ?_; first | assumption | exact ⟨rfl, rfl⟩ | exact ⟨rfl, rfl, rfl⟩ | (refine ⟨rfl, rfl, ?_⟩; simp only [List.length_map, List.length_take, List.length_append, els_len, List.length_replicate]; omega) | (intro h; exact h) | (intro h; rw [h]; rfl) | (intro h; simp_all; done) | (refine bytes_le (n := 1048577) ?_ rfl; simp only [ltI_iff, ltI_not, leI_iff, leI_not, eqI_iff, eqI_not, List.length_map, bif_and, bif_or, Bool.and_eq_true, Bool.and_eq_false_iff, Bool.or_eq_true, Bool.or_eq_false_iff, Bool.not_eq_true', Bool.not_eq_false', Int.toNat_natCast, beq_iff_eq, beq_eq_false_iff_ne, decide_eq_true_eq, decide_eq_false_iff_not, bel_iff, bel_not, wthn_iff, wthn_not, els_len, mixL_len, Nat.zero_add, List.length_set, List.length_take] at *; omega) | (simp only [ltI_iff, ltI_not, leI_iff, leI_not, eqI_iff, eqI_not, List.length_map, bif_and, bif_or, Bool.and_eq_true, Bool.and_eq_false_iff, Bool.or_eq_true, Bool.or_eq_false_iff, Bool.not_eq_true', Bool.not_eq_false', Int.toNat_natCast, beq_iff_eq, beq_eq_false_iff_ne, decide_eq_true_eq, decide_eq_false_iff_not, bel_iff, bel_not, wthn_iff, wthn_not, els_len, mixL_len, Nat.zero_add, List.length_set, List.length_take, Int.ofNat_eq_natCast] at *; omega)))
  all_goals (try (rename_i h1; simp only [bif_and, Bool.and_eq_true, leI_iff, ltI_iff] at h1))
  · refine Ob.mk ?_
    rw [intsF_len]; omega
  · refine Ob.mk ?_
    rw [intsF_len]; omega
  · conv => whnf
    refine Ob.mk ⟨rfl, ?_⟩
    rw [nthD_range (by omega)]
    refine congrArg (fun z => [SObj.row 62 1 z]) (intsF_set.trans (intsF_congr fun j hj => ?_))
    unfold keepF
    by_cases e : (j : Int) = t
    · rw [if_pos e, if_pos (by omega)]
      rw [show 0 + t.toNat = j by omega]
    · rw [if_neg e, if_neg (by omega)]
  · conv => whnf
    refine Ob.mk ⟨rfl, ?_⟩
    refine congrArg (fun z => [SObj.row 62 1 z]) (intsF_congr fun j hj => ?_)
    unfold keepF
    simp only [bif_and, Bool.and_eq_false_iff, leI_not, ltI_not] at h1
    rw [if_neg (by omega)]
theorem keep37k (f : Nat → Int) (t w : Int) {K : SV → Sto → Prop} (h : K (.tup []) [.row 62 1 (intsF 9 (keepF f t w))]) : ICalls Tryd.prog 37 [.t (.int .i64 t), .t (.int .i64 w), .pl 0 0 [] 0 0] [.row 62 1 (intsF 9 f)] K :=
  ICalls.mono (keep37 f t w) fun v s hs => by obtain ⟨rfl, rfl⟩ := hs.out; exact h
theorem or16 {x w : Int} (h0 : 0 ≤ x) (h1 : x < 16) (hw : w = 1 ∨ w = 2 ∨ w = 4 ∨ w = 8) : 0 < orI .i64 x w ∧ orI .i64 x w < 16 := by
  obtain ⟨n, rfl⟩ := Int.eq_ofNat_of_zero_le h0
  have hn : n < 16 := by omega
  have : ∀ n : Fin 16, ∀ w : Fin 4, let c : Int := [1, 2, 4, 8][w]; 0 < IntKind.i64.wrap ((BitVec.ofInt 64 (n : Nat)) ||| (BitVec.ofInt 64 c)).toNat ∧ IntKind.i64.wrap ((BitVec.ofInt 64 (n : Nat)) ||| (BitVec.ofInt 64 c)).toNat < 16 := by decide +kernel
  unfold orI
  rcases hw with rfl | rfl | rfl | rfl
  · exact this ⟨n, hn⟩ 0
  · exact this ⟨n, hn⟩ 1
  · exact this ⟨n, hn⟩ 2
  · exact this ⟨n, hn⟩ 3
structure Marks (f : Nat → Int) (K : Nat → Prop) : Prop where
  low : ∀ j, j < 9 → 0 ≤ f j ∧ f j < 16
  iff : ∀ j, j < 9 → (f j ≠ 0 ↔ K j)
theorem Marks.keep {f : Nat → Int} {K : Nat → Prop} (h : Marks f K) (t w : Int) (hw : w = 1 ∨ w = 2 ∨ w = 4 ∨ w = 8) : Marks (keepF f t w) fun j => K j ∨ (j : Int) = t := by
  refine ⟨fun j hj => ?_, fun j hj => ?_⟩
  · have h1 := h.low j hj
    have h2 := or16 h1.1 h1.2 hw
    unfold keepF
    split <;> omega
  · have h1 := h.low j hj
    have h2 := or16 h1.1 h1.2 hw
    unfold keepF
    split
    · rename_i e
      exact ⟨fun _ => .inr e, fun _ => by omega⟩
    · rename_i e
      rw [h.iff j hj]
      exact ⟨.inl, fun h => h.resolve_right e⟩
theorem Marks.to {f : Nat → Int} {K K' : Nat → Prop} (h : Marks f K) (e : ∀ j, j < 9 → (K j ↔ K' j)) : Marks f K' := ⟨h.low, fun j hj => (h.iff j hj).trans (e j hj)⟩
def setsTo (l : List Ins) (i : Nat) (t : Nat) : Prop := ∃ x ∈ l.take i, setsN x = t
def setsB (l : List Block) (b : Nat) (t : Nat) : Prop := ∃ x ∈ l.take b, ∃ y ∈ x.code, setsN y = t
def keptF (g : Graph) (words : Int) (a : Nat → Bool) (t : Nat) : Prop := a t = true ∨ (t : Int) ∈ g.params ∨ setsB g.blocks g.blocks.length t ∨ (0 < words ∧ t = 0)
abbrev bvarF (b : Block) : SObj := .var 55 [.t (.sl 8 (b.code.map Ins.t)), .t (.int .i64 b.fin.kind), .t (.int .i64 b.fin.op), .t (.int .i64 b.fin.a), .t (.int .i64 b.fin.b), .t (.int .u32 b.fin.n), .t (.int .i64 b.fin.to), .t (.int .i64 b.fin.els), .t (.sl 2 (b.fin.cases.map Case.t)), .t (ilist b.fin.targets)]
abbrev keptV (g : Graph) (f : Nat → Int) : Sto := [gvar g, .row 62 1 (intsF 9 fun _ => 0), .row 62 1 (intsF 9 f)]
theorem fits_op {g : Graph} (hf : g.fits) {b : Block} (hb : b ∈ g.blocks) {x : Ins} (hx : x ∈ b.code) : 1 ≤ x.op ∧ x.op ≤ 32 := by
  have := hf.ins b hb x hx
  unfold insOk at this
  rw [Bool.and_eq_true, Bool.and_eq_true, decide_eq_true_eq] at this
  exact this.1.1
theorem flatA_intsF {n : Nat} {f : Nat → Int} : FlatA (intsF n f) := by
  intro x hx
  obtain ⟨j, _, rfl⟩ := List.mem_map.1 hx
  rfl
theorem liveN_mem0 {n : Nat} {f : Nat → Bool} {t : Nat} (h : t < n) : (t : Int) ∈ liveN n f ↔ f t = true := by
  rw [← List.contains_iff_mem, liveN_has h]
theorem kept20 (g : Graph) (hg : g.tiny) (hw : ∀ b ∈ g.blocks, ∀ x ∈ allN b.fin, I64 x) (hf : g.fits) (words : Int) : PCalls Tryd.prog 20 [g.t, .int .i64 words] (fun r => Ob (∃ (a : Nat → Nat → Bool) (f : Nat → Int), Least g 8000 a ∧ Inside g a ∧ Marks f (keptF g words (a 0)) ∧ r = .arr (intsF 9 f))) := by
  refine PCalls.of_bodyI (fun f => Nat.beq f 37) ttOk Tryd.func20 rfl ?_
  repeat' ((conv => whnf); first | (with_reducible first | refine onBool_intro (fun _ => ?_) (fun _ => ?_) | refine And.intro (Ob.mk (Nat.le_of_ble_eq_true rfl)) ?_ | refine And.intro (Ob.mk rfl) ?_ | exact ⟨rfl, rfl⟩ | refine And.intro (Ob.mk (fun h => h)) ?_) | (with_reducible refine Or.inl (And.intro (Ob.mk (Flat.map ?_)) ?_); exact fun _ => rfl) | (refine Or.inl (And.intro (Ob.mk (flat_of rfl)) ?_)) | (refine Or.inl (And.intro (Ob.mk ⟨rfl, rfl, rfl, rfl⟩) ?_)) | (refine Or.inl (And.intro (Ob.mk ⟨rfl, rfl, rfl⟩) ?_)) | (refine And.intro (Ob.mk ⟨rfl, rfl⟩) ?_) | (with_reducible refine Or.inr ?_) | (refine And.intro (Ob.mk (flat_of rfl)) ?_) | (with_reducible refine And.intro (Ob.mk (Flat.map ?_)) ?_; exact fun _ => rfl) | (with_reducible first | exact Ob.mk (Flat.map fun _ => rfl) | refine And.intro ?_ ?_ | apply exG.mk | apply exGS.mk | exact Dd.nil) | (refine Dd.same _ ?_) | (refine Dd.dead _ ?_) | (with_reducible first | apply exQ.mk | apply exP.mk) | (refine EqP.mk rfl rfl) | (with_reducible apply exW.mk) | (refine EqW.mk rfl) | (with_reducible first | intro _ | refine Dn.mk ?_) | (refine exS.full (by first | rfl | (simp; done) | (simp; omega)) ?_) | (refine And.intro (Ob.mk ⟨rfl, rfl, by first | rfl | (simp; done) | (simp; omega)⟩) ?_) | (with_reducible refine exE.mapD ?_) | (refine exL.int ?_) | (with_reducible first | refine Up0.mk rfl ?_ | refine Up0i.mk rfl ?_ | refine Up1.mk rfl ?_ | refine Up1i.mk rfl ?_ | refine Up2.mk rfl ?_ | refine Up2i.mk rfl ?_) | (refine Col.mk rfl rfl rfl ?_) | (refine Coli.mk rfl rfl rfl rfl ?_) | (refine live10f g hg hw (fun h e he => absurd hf h) (fun a hf ha hin e he => ?_)))
  all_goals (try (refine Ob.mk ?_; first | assumption | exact ⟨rfl, rfl⟩ | exact ⟨rfl, rfl, rfl⟩ | (refine ⟨rfl, rfl, ?_⟩; simp only [List.length_map, List.length_take, List.length_append, els_len, List.length_replicate]; omega) | (intro h; exact h) | (intro h; rw [h]; rfl) | (intro h; simp_all; done) | (refine bytes_le (n := 1048577) ?_ rfl; simp only [ltI_iff, ltI_not, leI_iff, leI_not, eqI_iff, eqI_not, List.length_map, bif_and, bif_or, Bool.and_eq_true, Bool.and_eq_false_iff, Bool.or_eq_true, Bool.or_eq_false_iff, Bool.not_eq_true', Bool.not_eq_false', Int.toNat_natCast, beq_iff_eq, beq_eq_false_iff_ne, decide_eq_true_eq, decide_eq_false_iff_not, bel_iff, bel_not, wthn_iff, wthn_not, els_len, mixL_len, Nat.zero_add, List.length_set, List.length_take] at *; omega) | (simp only [ltI_iff, ltI_not, leI_iff, leI_not, eqI_iff, eqI_not, List.length_map, bif_and, bif_or, Bool.and_eq_true, Bool.and_eq_false_iff, Bool.or_eq_true, Bool.or_eq_false_iff, Bool.not_eq_true', Bool.not_eq_false', Int.toNat_natCast, beq_iff_eq, beq_eq_false_iff_ne, decide_eq_true_eq, decide_eq_false_iff_not, bel_iff, bel_not, wthn_iff, wthn_not, els_len, mixL_len, Nat.zero_add, List.length_set, List.length_take, Int.ofNat_eq_natCast] at *; omega)))
  · exact Ob.mk (Int.le_refl _)
  · refine Ob.mk ?_
    rw [List.length_map, tells_len]
    have := hf.one
    omega
  · have hl := liveN_len (n := 8000) (f := a 0)
    have hL : nthD (tells g.blocks.length a) (Int.toNat 0) = liveN 8000 (a 0) := tells_at (by have := hf.one; omega)
    rw [← hL] at hl
    generalize hLe : nthD (tells g.blocks.length a) (Int.toNat 0) = L at *
    conv => whnf
    refine LoopVC.mk [27] [] (fun m vals σ => ∃ (i : Nat) (f : Nat → Int), vals = [.t (.int .i64 i)] ∧ σ = keptV g f ∧ i ≤ L.length ∧ m = L.length - i ∧ Marks f fun t => (t : Int) ∈ L.take i) ?_ ?_
    · conv => whnf
      exact ⟨_, 0, fun _ => 0, rfl, rfl, Nat.zero_le _, rfl, ⟨fun j _ => ⟨Int.le_refl _, by omega⟩, fun j _ => ⟨fun h => absurd rfl h, fun h => by simp at h⟩⟩⟩
    · rintro m vals σ ⟨i, f, rfl, rfl, hi, rfl, hk⟩
      repeat' ((conv => whnf); first | (with_reducible first | refine onBool_intro (fun _ => ?_) (fun _ => ?_) | refine And.intro (Ob.mk (Nat.le_of_ble_eq_true rfl)) ?_ | refine And.intro (Ob.mk rfl) ?_ | exact ⟨rfl, rfl⟩ | refine And.intro (Ob.mk (fun h => h)) ?_) | (with_reducible refine Or.inl (And.intro (Ob.mk (Flat.map ?_)) ?_); exact fun _ => rfl) | (refine Or.inl (And.intro (Ob.mk (flat_of rfl)) ?_)) | (refine Or.inl (And.intro (Ob.mk ⟨rfl, rfl, rfl, rfl⟩) ?_)) | (refine Or.inl (And.intro (Ob.mk ⟨rfl, rfl, rfl⟩) ?_)) | (refine And.intro (Ob.mk ⟨rfl, rfl⟩) ?_) | (with_reducible refine Or.inr ?_) | (refine And.intro (Ob.mk (flat_of rfl)) ?_) | (with_reducible refine And.intro (Ob.mk (Flat.map ?_)) ?_; exact fun _ => rfl) | (with_reducible first | exact Ob.mk (Flat.map fun _ => rfl) | refine And.intro ?_ ?_ | apply exG.mk | apply exGS.mk | exact Dd.nil) | (refine Dd.same _ ?_) | (refine Dd.dead _ ?_) | (with_reducible first | apply exQ.mk | apply exP.mk) | (refine EqP.mk rfl rfl) | (with_reducible apply exW.mk) | (refine EqW.mk rfl) | (with_reducible first | intro _ | refine Dn.mk ?_) | (refine exS.full (by first | rfl | (simp; done) | (simp; omega)) ?_) | (refine And.intro (Ob.mk ⟨rfl, rfl, by first | rfl | (simp; done) | (simp; omega)⟩) ?_) | (with_reducible refine exE.mapD ?_) | (refine exL.int ?_) | (with_reducible first | refine Up0.mk rfl ?_ | refine Up0i.mk rfl ?_ | refine Up1.mk rfl ?_ | refine Up1i.mk rfl ?_ | refine Up2.mk rfl ?_ | refine Up2i.mk rfl ?_) | (refine Col.mk rfl rfl rfl ?_) | (refine Coli.mk rfl rfl rfl rfl ?_) | (refine ICalls.frame [2] rfl (keep37k _ _ _ fun _ => ?_)))
      all_goals (try (refine Ob.mk ?_; first | assumption | exact ⟨rfl, rfl⟩ | exact ⟨rfl, rfl, rfl⟩ | (refine ⟨rfl, rfl, ?_⟩; simp only [List.length_map, List.length_take, List.length_append, els_len, List.length_replicate]; omega) | (intro h; exact h) | (intro h; rw [h]; rfl) | (intro h; simp_all; done) | (refine bytes_le (n := 1048577) ?_ rfl; simp only [ltI_iff, ltI_not, leI_iff, leI_not, eqI_iff, eqI_not, List.length_map, bif_and, bif_or, Bool.and_eq_true, Bool.and_eq_false_iff, Bool.or_eq_true, Bool.or_eq_false_iff, Bool.not_eq_true', Bool.not_eq_false', Int.toNat_natCast, beq_iff_eq, beq_eq_false_iff_ne, decide_eq_true_eq, decide_eq_false_iff_not, bel_iff, bel_not, wthn_iff, wthn_not, els_len, mixL_len, Nat.zero_add, List.length_set, List.length_take] at *; omega) | (simp only [ltI_iff, ltI_not, leI_iff, leI_not, eqI_iff, eqI_not, List.length_map, bif_and, bif_or, Bool.and_eq_true, Bool.and_eq_false_iff, Bool.or_eq_true, Bool.or_eq_false_iff, Bool.not_eq_true', Bool.not_eq_false', Int.toNat_natCast, beq_iff_eq, beq_eq_false_iff_ne, decide_eq_true_eq, decide_eq_false_iff_not, bel_iff, bel_not, wthn_iff, wthn_not, els_len, mixL_len, Nat.zero_add, List.length_set, List.length_take, Int.ofNat_eq_natCast] at *; omega)))
      · rename_i h1 _
        have h1 : i < L.length := by rw [ltI_iff, List.length_map] at h1; omega
        conv => whnf
        refine ⟨L.length - (i + 1), by omega, i + 1, _, ?_, rfl, by omega, rfl, (hk.keep _ 2 (by omega)).to fun j hj => ?_⟩
        · rw [addI_i64 (by omega) (by omega)]; rfl
        · rw [take_succ_nthD h1, List.mem_append, List.mem_singleton, Int.toNat_natCast]
      · rename_i h1 _
        have h1 : L.length ≤ i := by rw [ltI_not, List.length_map] at h1; omega
        rw [List.take_of_length_le h1] at hk
        repeat' ((conv => whnf); first | (with_reducible first | refine onBool_intro (fun _ => ?_) (fun _ => ?_) | refine And.intro (Ob.mk (Nat.le_of_ble_eq_true rfl)) ?_ | refine And.intro (Ob.mk rfl) ?_ | exact ⟨rfl, rfl⟩ | refine And.intro (Ob.mk (fun h => h)) ?_) | (with_reducible refine Or.inl (And.intro (Ob.mk (Flat.map ?_)) ?_); exact fun _ => rfl) | (refine Or.inl (And.intro (Ob.mk (flat_of rfl)) ?_)) | (refine Or.inl (And.intro (Ob.mk ⟨rfl, rfl, rfl, rfl⟩) ?_)) | (refine Or.inl (And.intro (Ob.mk ⟨rfl, rfl, rfl⟩) ?_)) | (refine And.intro (Ob.mk ⟨rfl, rfl⟩) ?_) | (with_reducible refine Or.inr ?_) | (refine And.intro (Ob.mk (flat_of rfl)) ?_) | (with_reducible refine And.intro (Ob.mk (Flat.map ?_)) ?_; exact fun _ => rfl) | (with_reducible first | exact Ob.mk (Flat.map fun _ => rfl) | refine And.intro ?_ ?_ | apply exG.mk | apply exGS.mk | exact Dd.nil) | (refine Dd.same _ ?_) | (refine Dd.dead _ ?_) | (with_reducible first | apply exQ.mk | apply exP.mk) | (refine EqP.mk rfl rfl) | (with_reducible apply exW.mk) | (refine EqW.mk rfl) | (with_reducible first | intro _ | refine Dn.mk ?_) | (refine exS.full (by first | rfl | (simp; done) | (simp; omega)) ?_) | (refine And.intro (Ob.mk ⟨rfl, rfl, by first | rfl | (simp; done) | (simp; omega)⟩) ?_) | (with_reducible refine exE.mapD ?_) | (refine exL.int ?_) | (with_reducible first | refine Up0.mk rfl ?_ | refine Up0i.mk rfl ?_ | refine Up1.mk rfl ?_ | refine Up1i.mk rfl ?_ | refine Up2.mk rfl ?_ | refine Up2i.mk rfl ?_) | (refine Col.mk rfl rfl rfl ?_) | (refine Coli.mk rfl rfl rfl rfl ?_))
        conv => whnf
        refine LoopVC.mk [38] [] (fun m vals σ => ∃ (i : Nat) (f : Nat → Int), vals = [.t (.int .i64 i)] ∧ σ = keptV g f ∧ i ≤ g.params.length ∧ m = g.params.length - i ∧ Marks f fun t => (t : Int) ∈ L ∨ (t : Int) ∈ g.params.take i) ?_ ?_
        · conv => whnf
          exact ⟨_, 0, f, rfl, rfl, Nat.zero_le _, rfl, hk.to fun j hj => by simp⟩
        · clear hk hi
          rintro m vals σ ⟨i, f, rfl, rfl, hi, rfl, hk⟩
          repeat' ((conv => whnf); first | (with_reducible first | refine onBool_intro (fun _ => ?_) (fun _ => ?_) | refine And.intro (Ob.mk (Nat.le_of_ble_eq_true rfl)) ?_ | refine And.intro (Ob.mk rfl) ?_ | exact ⟨rfl, rfl⟩ | refine And.intro (Ob.mk (fun h => h)) ?_) | (with_reducible refine Or.inl (And.intro (Ob.mk (Flat.map ?_)) ?_); exact fun _ => rfl) | (refine Or.inl (And.intro (Ob.mk (flat_of rfl)) ?_)) | (refine Or.inl (And.intro (Ob.mk ⟨rfl, rfl, rfl, rfl⟩) ?_)) | (refine Or.inl (And.intro (Ob.mk ⟨rfl, rfl, rfl⟩) ?_)) | (refine And.intro (Ob.mk ⟨rfl, rfl⟩) ?_) | (with_reducible refine Or.inr ?_) | (refine And.intro (Ob.mk (flat_of rfl)) ?_) | (with_reducible refine And.intro (Ob.mk (Flat.map ?_)) ?_; exact fun _ => rfl) | (with_reducible first | exact Ob.mk (Flat.map fun _ => rfl) | refine And.intro ?_ ?_ | apply exG.mk | apply exGS.mk | exact Dd.nil) | (refine Dd.same _ ?_) | (refine Dd.dead _ ?_) | (with_reducible first | apply exQ.mk | apply exP.mk) | (refine EqP.mk rfl rfl) | (with_reducible apply exW.mk) | (refine EqW.mk rfl) | (with_reducible first | intro _ | refine Dn.mk ?_) | (refine exS.full (by first | rfl | (simp; done) | (simp; omega)) ?_) | (refine And.intro (Ob.mk ⟨rfl, rfl, by first | rfl | (simp; done) | (simp; omega)⟩) ?_) | (with_reducible refine exE.mapD ?_) | (refine exL.int ?_) | (with_reducible first | refine Up0.mk rfl ?_ | refine Up0i.mk rfl ?_ | refine Up1.mk rfl ?_ | refine Up1i.mk rfl ?_ | refine Up2.mk rfl ?_ | refine Up2i.mk rfl ?_) | (refine Col.mk rfl rfl rfl ?_) | (refine Coli.mk rfl rfl rfl rfl ?_) | (refine ICalls.frame [2] rfl (keep37k _ _ _ fun _ => ?_)))
          all_goals (try (refine Ob.mk ?_; first | assumption | exact ⟨rfl, rfl⟩ | exact ⟨rfl, rfl, rfl⟩ | (refine ⟨rfl, rfl, ?_⟩; simp only [List.length_map, List.length_take, List.length_append, els_len, List.length_replicate]; omega) | (intro h; exact h) | (intro h; rw [h]; rfl) | (intro h; simp_all; done) | (refine bytes_le (n := 1048577) ?_ rfl; simp only [ltI_iff, ltI_not, leI_iff, leI_not, eqI_iff, eqI_not, List.length_map, bif_and, bif_or, Bool.and_eq_true, Bool.and_eq_false_iff, Bool.or_eq_true, Bool.or_eq_false_iff, Bool.not_eq_true', Bool.not_eq_false', Int.toNat_natCast, beq_iff_eq, beq_eq_false_iff_ne, decide_eq_true_eq, decide_eq_false_iff_not, bel_iff, bel_not, wthn_iff, wthn_not, els_len, mixL_len, Nat.zero_add, List.length_set, List.length_take] at *; omega) | (simp only [ltI_iff, ltI_not, leI_iff, leI_not, eqI_iff, eqI_not, List.length_map, bif_and, bif_or, Bool.and_eq_true, Bool.and_eq_false_iff, Bool.or_eq_true, Bool.or_eq_false_iff, Bool.not_eq_true', Bool.not_eq_false', Int.toNat_natCast, beq_iff_eq, beq_eq_false_iff_ne, decide_eq_true_eq, decide_eq_false_iff_not, bel_iff, bel_not, wthn_iff, wthn_not, els_len, mixL_len, Nat.zero_add, List.length_set, List.length_take, Int.ofNat_eq_natCast] at *; omega)))
          · rename_i h1 _
            have h1 : i < g.params.length := by rw [ltI_iff, List.length_map] at h1; omega
            have := hg.params
            conv => whnf
            refine ⟨g.params.length - (i + 1), by omega, i + 1, _, ?_, rfl, by omega, rfl, (hk.keep _ 1 (by omega)).to fun j hj => ?_⟩
            · rw [addI_i64 (by omega) (by omega)]; rfl
            · rw [take_succ_nthD h1, List.mem_append, List.mem_singleton, Int.toNat_natCast, or_assoc]
          · rename_i h1 _
            have h1 : g.params.length ≤ i := by rw [ltI_not, List.length_map] at h1; omega
            rw [List.take_of_length_le h1] at hk
            repeat' ((conv => whnf); first | (with_reducible first | refine onBool_intro (fun _ => ?_) (fun _ => ?_) | refine And.intro (Ob.mk (Nat.le_of_ble_eq_true rfl)) ?_ | refine And.intro (Ob.mk rfl) ?_ | exact ⟨rfl, rfl⟩ | refine And.intro (Ob.mk (fun h => h)) ?_) | (with_reducible refine Or.inl (And.intro (Ob.mk (Flat.map ?_)) ?_); exact fun _ => rfl) | (refine Or.inl (And.intro (Ob.mk (flat_of rfl)) ?_)) | (refine Or.inl (And.intro (Ob.mk ⟨rfl, rfl, rfl, rfl⟩) ?_)) | (refine Or.inl (And.intro (Ob.mk ⟨rfl, rfl, rfl⟩) ?_)) | (refine And.intro (Ob.mk ⟨rfl, rfl⟩) ?_) | (with_reducible refine Or.inr ?_) | (refine And.intro (Ob.mk (flat_of rfl)) ?_) | (with_reducible refine And.intro (Ob.mk (Flat.map ?_)) ?_; exact fun _ => rfl) | (with_reducible first | exact Ob.mk (Flat.map fun _ => rfl) | refine And.intro ?_ ?_ | apply exG.mk | apply exGS.mk | exact Dd.nil) | (refine Dd.same _ ?_) | (refine Dd.dead _ ?_) | (with_reducible first | apply exQ.mk | apply exP.mk) | (refine EqP.mk rfl rfl) | (with_reducible apply exW.mk) | (refine EqW.mk rfl) | (with_reducible first | intro _ | refine Dn.mk ?_) | (refine exS.full (by first | rfl | (simp; done) | (simp; omega)) ?_) | (refine And.intro (Ob.mk ⟨rfl, rfl, by first | rfl | (simp; done) | (simp; omega)⟩) ?_) | (with_reducible refine exE.mapD ?_) | (refine exL.int ?_) | (with_reducible first | refine Up0.mk rfl ?_ | refine Up0i.mk rfl ?_ | refine Up1.mk rfl ?_ | refine Up1i.mk rfl ?_ | refine Up2.mk rfl ?_ | refine Up2i.mk rfl ?_) | (refine Col.mk rfl rfl rfl ?_) | (refine Coli.mk rfl rfl rfl rfl ?_))
            conv => whnf
            refine LoopVC.mk [49] [] (fun m vals σ => ∃ (i : Nat) (f : Nat → Int), vals = [.t (.int .i64 i)] ∧ σ = keptV g f ∧ i ≤ g.blocks.length ∧ m = g.blocks.length - i ∧ Marks f fun t => (t : Int) ∈ L ∨ (t : Int) ∈ g.params ∨ setsB g.blocks i t) ?_ ?_
            · conv => whnf
              exact ⟨_, 0, f, rfl, rfl, Nat.zero_le _, rfl, hk.to fun j hj => by simp [setsB]⟩
            · clear hk hi
              rintro m vals σ ⟨b, f, rfl, rfl, hb, rfl, hk⟩
              repeat' ((conv => whnf); first | (with_reducible first | refine onBool_intro (fun _ => ?_) (fun _ => ?_) | refine And.intro (Ob.mk (Nat.le_of_ble_eq_true rfl)) ?_ | refine And.intro (Ob.mk rfl) ?_ | exact ⟨rfl, rfl⟩ | refine And.intro (Ob.mk (fun h => h)) ?_) | (with_reducible refine Or.inl (And.intro (Ob.mk (Flat.map ?_)) ?_); exact fun _ => rfl) | (refine Or.inl (And.intro (Ob.mk (flat_of rfl)) ?_)) | (refine Or.inl (And.intro (Ob.mk ⟨rfl, rfl, rfl, rfl⟩) ?_)) | (refine Or.inl (And.intro (Ob.mk ⟨rfl, rfl, rfl⟩) ?_)) | (refine And.intro (Ob.mk ⟨rfl, rfl⟩) ?_) | (with_reducible refine Or.inr ?_) | (refine And.intro (Ob.mk (flat_of rfl)) ?_) | (with_reducible refine And.intro (Ob.mk (Flat.map ?_)) ?_; exact fun _ => rfl) | (with_reducible first | exact Ob.mk (Flat.map fun _ => rfl) | refine And.intro ?_ ?_ | apply exG.mk | apply exGS.mk | exact Dd.nil) | (refine Dd.same _ ?_) | (refine Dd.dead _ ?_) | (with_reducible first | apply exQ.mk | apply exP.mk) | (refine EqP.mk rfl rfl) | (with_reducible apply exW.mk) | (refine EqW.mk rfl) | (with_reducible first | intro _ | refine Dn.mk ?_) | (refine exS.full (by first | rfl | (simp; done) | (simp; omega)) ?_) | (refine And.intro (Ob.mk ⟨rfl, rfl, by first | rfl | (simp; done) | (simp; omega)⟩) ?_) | (with_reducible refine exE.mapD ?_) | (refine exL.int ?_) | (with_reducible first | refine Up0.mk rfl ?_ | refine Up0i.mk rfl ?_ | refine Up1.mk rfl ?_ | refine Up1i.mk rfl ?_ | refine Up2.mk rfl ?_ | refine Up2i.mk rfl ?_) | (refine Col.mk rfl rfl rfl ?_) | (refine Coli.mk rfl rfl rfl rfl ?_))
              all_goals (try (refine Ob.mk ?_; first | assumption | exact ⟨rfl, rfl⟩ | exact ⟨rfl, rfl, rfl⟩ | (refine ⟨rfl, rfl, ?_⟩; simp only [List.length_map, List.length_take, List.length_append, els_len, List.length_replicate]; omega) | (intro h; exact h) | (intro h; rw [h]; rfl) | (intro h; simp_all; done) | (refine bytes_le (n := 1048577) ?_ rfl; simp only [ltI_iff, ltI_not, leI_iff, leI_not, eqI_iff, eqI_not, List.length_map, bif_and, bif_or, Bool.and_eq_true, Bool.and_eq_false_iff, Bool.or_eq_true, Bool.or_eq_false_iff, Bool.not_eq_true', Bool.not_eq_false', Int.toNat_natCast, beq_iff_eq, beq_eq_false_iff_ne, decide_eq_true_eq, decide_eq_false_iff_not, bel_iff, bel_not, wthn_iff, wthn_not, els_len, mixL_len, Nat.zero_add, List.length_set, List.length_take] at *; omega) | (simp only [ltI_iff, ltI_not, leI_iff, leI_not, eqI_iff, eqI_not, List.length_map, bif_and, bif_or, Bool.and_eq_true, Bool.and_eq_false_iff, Bool.or_eq_true, Bool.or_eq_false_iff, Bool.not_eq_true', Bool.not_eq_false', Int.toNat_natCast, beq_iff_eq, beq_eq_false_iff_ne, decide_eq_true_eq, decide_eq_false_iff_not, bel_iff, bel_not, wthn_iff, wthn_not, els_len, mixL_len, Nat.zero_add, List.length_set, List.length_take, Int.ofNat_eq_natCast] at *; omega)))
              all_goals (try exact Ob.mk flatA_intsF)
              · rename_i h1 _
                have h1 : b < g.blocks.length := by rw [ltI_iff, List.length_map] at h1; omega
                have hbt := (hg.all _ (nthD_mem h1)).code
                conv => whnf
                refine LoopVC.mk [56] [] (fun m vals σ => ∃ (i : Nat) (f : Nat → Int), vals = [.t (.int .i64 i)] ∧ σ = keptV g f ++ [bvarF (nthD g.blocks b)] ∧ i ≤ (nthD g.blocks b).code.length ∧ m = (nthD g.blocks b).code.length - i ∧ Marks f fun t => (t : Int) ∈ L ∨ (t : Int) ∈ g.params ∨ setsB g.blocks b t ∨ setsTo (nthD g.blocks b).code i t) ?_ ?_
                · conv => whnf
                  exact ⟨_, 0, f, rfl, rfl, Nat.zero_le _, rfl, hk.to fun j hj => by simp [setsTo]⟩
                · clear hk
                  rintro m vals σ ⟨i, f, rfl, rfl, hi, rfl, hk⟩
                  repeat' ((conv => whnf); first | (with_reducible first | refine onBool_intro (fun _ => ?_) (fun _ => ?_) | refine And.intro (Ob.mk (Nat.le_of_ble_eq_true rfl)) ?_ | refine And.intro (Ob.mk rfl) ?_ | exact ⟨rfl, rfl⟩ | refine And.intro (Ob.mk (fun h => h)) ?_) | (with_reducible refine Or.inl (And.intro (Ob.mk (Flat.map ?_)) ?_); exact fun _ => rfl) | (refine Or.inl (And.intro (Ob.mk (flat_of rfl)) ?_)) | (refine Or.inl (And.intro (Ob.mk ⟨rfl, rfl, rfl, rfl⟩) ?_)) | (refine Or.inl (And.intro (Ob.mk ⟨rfl, rfl, rfl⟩) ?_)) | (refine And.intro (Ob.mk ⟨rfl, rfl⟩) ?_) | (with_reducible refine Or.inr ?_) | (refine And.intro (Ob.mk (flat_of rfl)) ?_) | (with_reducible refine And.intro (Ob.mk (Flat.map ?_)) ?_; exact fun _ => rfl) | (with_reducible first | exact Ob.mk (Flat.map fun _ => rfl) | refine And.intro ?_ ?_ | apply exG.mk | apply exGS.mk | exact Dd.nil) | (refine Dd.same _ ?_) | (refine Dd.dead _ ?_) | (with_reducible first | apply exQ.mk | apply exP.mk) | (refine EqP.mk rfl rfl) | (with_reducible apply exW.mk) | (refine EqW.mk rfl) | (with_reducible first | intro _ | refine Dn.mk ?_) | (refine exS.full (by first | rfl | (simp; done) | (simp; omega)) ?_) | (refine And.intro (Ob.mk ⟨rfl, rfl, by first | rfl | (simp; done) | (simp; omega)⟩) ?_) | (with_reducible refine exE.mapD ?_) | (refine exL.int ?_) | (with_reducible first | refine Up0.mk rfl ?_ | refine Up0i.mk rfl ?_ | refine Up1.mk rfl ?_ | refine Up1i.mk rfl ?_ | refine Up2.mk rfl ?_ | refine Up2i.mk rfl ?_) | (refine Col.mk rfl rfl rfl ?_) | (refine Coli.mk rfl rfl rfl rfl ?_) | (refine ICalls.frame [2] rfl (keep37k _ _ _ fun _ => ?_)) | (refine PCalls.mono (lsets81 _) ?_; rintro _ rfl))
                  all_goals (try (refine Ob.mk ?_; first | assumption | exact ⟨rfl, rfl⟩ | exact ⟨rfl, rfl, rfl⟩ | (refine ⟨rfl, rfl, ?_⟩; simp only [List.length_map, List.length_take, List.length_append, els_len, List.length_replicate]; omega) | (intro h; exact h) | (intro h; rw [h]; rfl) | (intro h; simp_all; done) | (refine bytes_le (n := 1048577) ?_ rfl; simp only [ltI_iff, ltI_not, leI_iff, leI_not, eqI_iff, eqI_not, List.length_map, bif_and, bif_or, Bool.and_eq_true, Bool.and_eq_false_iff, Bool.or_eq_true, Bool.or_eq_false_iff, Bool.not_eq_true', Bool.not_eq_false', Int.toNat_natCast, beq_iff_eq, beq_eq_false_iff_ne, decide_eq_true_eq, decide_eq_false_iff_not, bel_iff, bel_not, wthn_iff, wthn_not, els_len, mixL_len, Nat.zero_add, List.length_set, List.length_take] at *; omega) | (simp only [ltI_iff, ltI_not, leI_iff, leI_not, eqI_iff, eqI_not, List.length_map, bif_and, bif_or, Bool.and_eq_true, Bool.and_eq_false_iff, Bool.or_eq_true, Bool.or_eq_false_iff, Bool.not_eq_true', Bool.not_eq_false', Int.toNat_natCast, beq_iff_eq, beq_eq_false_iff_ne, decide_eq_true_eq, decide_eq_false_iff_not, bel_iff, bel_not, wthn_iff, wthn_not, els_len, mixL_len, Nat.zero_add, List.length_set, List.length_take, Int.ofNat_eq_natCast] at *; omega)))
                  · rename_i h2 _
                    have h2 : i < (nthD g.blocks b).code.length := by rw [ltI_iff, List.length_map, Int.toNat_natCast] at h2; omega
                    have ho := fits_op hf (nthD_mem h1) (nthD_mem h2)
                    conv => whnf
                    refine ⟨(nthD g.blocks b).code.length - (i + 1), by omega, i + 1, _, ?_, rfl, by omega, rfl, (hk.keep _ 4 (by omega)).to fun j hj => ?_⟩
                    · rw [addI_i64 (by omega) (by omega)]; rfl
                    · rw [Int.toNat_natCast, Int.toNat_natCast, show lsetsN (nthD (nthD g.blocks b).code i) = setsN (nthD (nthD g.blocks b).code i) from (setsN_eq ho).symm, or_assoc, or_assoc, or_assoc]
                      refine or_congr Iff.rfl (or_congr Iff.rfl (or_congr Iff.rfl ?_))
                      unfold setsTo
                      rw [take_succ_nthD h2]
                      constructor
                      · rintro (⟨x, hx, e⟩ | e)
                        · exact ⟨x, List.mem_append_left _ hx, e⟩
                        · exact ⟨_, List.mem_append_right _ (by simp), e.symm⟩
                      · rintro ⟨x, hx, e⟩
                        rcases List.mem_append.1 hx with hx | hx
                        · exact .inl ⟨x, hx, e⟩
                        · rw [List.mem_singleton] at hx
                          subst hx
                          exact .inr e.symm
                  · rename_i h2
                    have h2 : (nthD g.blocks b).code.length ≤ i := by rw [ltI_not, List.length_map, Int.toNat_natCast] at h2; omega
                    have := hg.blocks
                    conv => whnf
                    refine ⟨g.blocks.length - (b + 1), by omega, b + 1, f, ?_, rfl, by omega, rfl, hk.to fun j hj => ?_⟩
                    · rw [addI_i64 (by omega) (by omega)]; rfl
                    · refine or_congr Iff.rfl (or_congr Iff.rfl ?_)
                      unfold setsB setsTo
                      rw [take_succ_nthD h1, List.take_of_length_le h2]
                      constructor
                      · rintro (⟨x, hx, y, hy, e⟩ | ⟨y, hy, e⟩)
                        · exact ⟨x, List.mem_append_left _ hx, y, hy, e⟩
                        · exact ⟨_, List.mem_append_right _ (by simp), y, hy, e⟩
                      · rintro ⟨x, hx, y, hy, e⟩
                        rcases List.mem_append.1 hx with hx | hx
                        · exact .inl ⟨x, hx, y, hy, e⟩
                        · rw [List.mem_singleton] at hx
                          subst hx
                          exact .inr ⟨y, hy, e⟩
              · rename_i h1 h2
                have h1 : g.blocks.length ≤ b := by rw [ltI_not, List.length_map] at h1; omega
                have hbe : b = g.blocks.length := by omega
                subst hbe
                repeat' ((conv => whnf); first | (with_reducible first | refine onBool_intro (fun _ => ?_) (fun _ => ?_) | refine And.intro (Ob.mk (Nat.le_of_ble_eq_true rfl)) ?_ | refine And.intro (Ob.mk rfl) ?_ | exact ⟨rfl, rfl⟩ | refine And.intro (Ob.mk (fun h => h)) ?_) | (with_reducible refine Or.inl (And.intro (Ob.mk (Flat.map ?_)) ?_); exact fun _ => rfl) | (refine Or.inl (And.intro (Ob.mk (flat_of rfl)) ?_)) | (refine Or.inl (And.intro (Ob.mk ⟨rfl, rfl, rfl, rfl⟩) ?_)) | (refine Or.inl (And.intro (Ob.mk ⟨rfl, rfl, rfl⟩) ?_)) | (refine And.intro (Ob.mk ⟨rfl, rfl⟩) ?_) | (with_reducible refine Or.inr ?_) | (refine And.intro (Ob.mk (flat_of rfl)) ?_) | (with_reducible refine And.intro (Ob.mk (Flat.map ?_)) ?_; exact fun _ => rfl) | (with_reducible first | exact Ob.mk (Flat.map fun _ => rfl) | refine And.intro ?_ ?_ | apply exG.mk | apply exGS.mk | exact Dd.nil) | (refine Dd.same _ ?_) | (refine Dd.dead _ ?_) | (with_reducible first | apply exQ.mk | apply exP.mk) | (refine EqP.mk rfl rfl) | (with_reducible apply exW.mk) | (refine EqW.mk rfl) | (with_reducible first | intro _ | refine Dn.mk ?_) | (refine exS.full (by first | rfl | (simp; done) | (simp; omega)) ?_) | (refine And.intro (Ob.mk ⟨rfl, rfl, by first | rfl | (simp; done) | (simp; omega)⟩) ?_) | (with_reducible refine exE.mapD ?_) | (refine exL.int ?_) | (with_reducible first | refine Up0.mk rfl ?_ | refine Up0i.mk rfl ?_ | refine Up1.mk rfl ?_ | refine Up1i.mk rfl ?_ | refine Up2.mk rfl ?_ | refine Up2i.mk rfl ?_) | (refine Col.mk rfl rfl rfl ?_) | (refine Coli.mk rfl rfl rfl rfl ?_) | (refine ICalls.frame [2] rfl (keep37k _ _ _ fun _ => ?_)))
                all_goals (try exact Ob.mk flatA_intsF)
                refine Ob.mk ⟨a, _, ha, hin, (hk.keep 0 8 (by omega)).to fun j hj => ?_, rfl⟩
                unfold keptF
                rw [hL, liveN_mem0 (by omega), or_assoc, or_assoc]
                refine or_congr Iff.rfl (or_congr Iff.rfl (or_congr Iff.rfl ?_))
                have := ltI_iff.1 h2
                omega
              · rename_i h1 h2
                have h1 : g.blocks.length ≤ b := by rw [ltI_not, List.length_map] at h1; omega
                have hbe : b = g.blocks.length := by omega
                subst hbe
                refine Ob.mk ⟨a, _, ha, hin, hk.to fun j hj => ?_, rfl⟩
                unfold keptF
                rw [hL, liveN_mem0 (by omega)]
                refine or_congr Iff.rfl (or_congr Iff.rfl ⟨.inl, fun h => h.elim id fun h => ?_⟩)
                have := ltI_not.1 h2
                omega
end Go.Proofs.YtgnafgebenlffaaDoor.Am

/- Frames: how they are laid, by the program. -/
namespace Go.Proofs.YtgnafgebenlffaaDoor.Am
open Go Go.Proofs
set_option maxRecDepth 10000
set_option maxHeartbeats 2000000
set_option linter.unusedVariables false
set_option linter.unusedSimpArgs false
noncomputable def theA (g : Graph) : Nat → Nat → Bool := Classical.epsilon fun a => Least g 8000 a ∧ Inside g a
theorem theA_spec {g : Graph} {a : Nat → Nat → Bool} (h : Least g 8000 a) (hi : Inside g a) : Least g 8000 (theA g) ∧ Inside g (theA g) := Classical.epsilon_spec (p := fun a => Least g 8000 a ∧ Inside g a) ⟨a, h, hi⟩
theorem theA_eq {g : Graph} {a : Nat → Nat → Bool} (h : Least g 8000 a) (hi : Inside g a) {b t : Nat} (hb : b < g.blocks.length) (ht : t < 8000) : a b t = theA g b t := Least.one h (theA_spec h hi).1 hb ht
structure Graph.okF (g : Graph) : Prop extends g.mayF where
  arrs : arrsF g.arrays = true
def argsF (g : Graph) : Int := g.params.length + 2 * parsF g.arrays
def slotsF (g : Graph) : Int := if 9 < g.temps then g.temps - 9 else 0
noncomputable def savedF (g : Graph) : List Int := liveN 9 fun t => tr (keptF g (wordsF g.arrays) (theA g 0) t)
noncomputable def wdF (g : Graph) : Int := argsF g + (savedF g).length + slotsF g + wordsF g.arrays
noncomputable abbrev layO (g : Graph) : T := .agg [.int .i64 (argsF g), .nst 3 1 ((savedF g).map fun n => .int .i64 n), .int .i64 (slotsF g), .int .i64 (wordsF g.arrays), .int .i64 (wdF g)]
abbrev layZ : T := .agg [.int .i64 0, .nsl, .int .i64 0, .int .i64 0, .int .i64 0]
theorem arrsF_of {l : List Arr} (h : arrsF l = true) : l.length ≤ 500 ∧ l.all arrF = true ∧ wordsF l ≤ 1000 ∧ parsF l ≤ 8 := by
  unfold arrsF at h
  simp only [Bool.and_eq_true, decide_eq_true_eq] at h
  exact ⟨h.1.1.1, h.1.1.2, h.1.2, h.2⟩
theorem parsF_nn {l : List Arr} : 0 ≤ parsF l := by unfold parsF; omega
theorem wordsF_nn {l : List Arr} (h : l.all arrF = true) : 0 ≤ wordsF l := by
  induction l with
  | nil => exact Int.le_refl _
  | cons a l ih =>
    rw [List.all_cons, Bool.and_eq_true] at h
    have := ih h.2
    unfold wordsF at this ⊢
    by_cases hk : a.kind = 2
    · have h1 := h.1
      simp [arrF, hk, wthn_iff] at h1
      simp [hk]
      omega
    · simp [hk]
      exact this
theorem kept20k (g : Graph) (hg : g.tiny) (hw : ∀ b ∈ g.blocks, ∀ x ∈ allN b.fin, I64 x) (hf : g.fits) {q : T → Prop} (h : ∀ f, Marks f (keptF g (wordsF g.arrays) (theA g 0)) → q (.arr (intsF 9 f))) : PCalls Tryd.prog 20 [g.t, .int .i64 (wordsF g.arrays)] q :=
  PCalls.mono (kept20 g hg hw hf (wordsF g.arrays)) fun r hr => by
    obtain ⟨a, f, ha, hi, hm, rfl⟩ := hr.out
    refine h f (hm.to fun j hj => ?_)
    unfold keptF
    rw [theA_eq ha hi (by have := hf.one; omega) (by omega)]
theorem liveN_congr {n : Nat} {f f' : Nat → Bool} (h : ∀ t, t < n → f t = f' t) : liveN n f = liveN n f' := by
  unfold liveN
  refine congrArg _ (List.filter_congr fun t ht => h t (List.mem_range.1 ht))
theorem mul4 {x : Int} (h0 : 0 ≤ x) (h1 : x ≤ 10000) : mulI .i64 4 x = 4 * x := by
  unfold mulI; simp only [IntKind.wrap, IntKind.bits, IntKind.signed]; simp; omega
theorem lay8 (g : Graph) (hg : g.tiny) (hw : ∀ b ∈ g.blocks, ∀ x ∈ allN b.fin, I64 x) : PCalls Tryd.prog 8 [g.t] (fun r => Ob ((¬ g.okF ∧ r = .own (.tup [layZ, .int .i64 1])) ∨ (g.okF ∧ r = .own (.tup [layO g, .int .i64 0])))) := by
  refine PCalls.of_bodyO ttOk Tryd.func8 rfl ?_
  repeat' ((conv => whnf); first | (with_reducible first | refine onBool_intro (fun _ => ?_) (fun _ => ?_) | refine And.intro (Ob.mk (Nat.le_of_ble_eq_true rfl)) ?_ | refine And.intro (Ob.mk rfl) ?_ | exact ⟨rfl, rfl⟩ | refine And.intro (Ob.mk (fun h => h)) ?_) | (with_reducible refine Or.inl (And.intro (Ob.mk (Flat.map ?_)) ?_); exact fun _ => rfl) | (refine Or.inl (And.intro (Ob.mk (flat_of rfl)) ?_)) | (refine Or.inl (And.intro (Ob.mk ⟨rfl, rfl, rfl, rfl⟩) ?_)) | (refine Or.inl (And.intro (Ob.mk ⟨rfl, rfl, rfl⟩) ?_)) | (refine And.intro (Ob.mk ⟨rfl, rfl⟩) ?_) | (with_reducible refine Or.inr ?_) | (refine And.intro (Ob.mk (flat_of rfl)) ?_) | (with_reducible refine And.intro (Ob.mk (Flat.map ?_)) ?_; exact fun _ => rfl) | (with_reducible first | exact Ob.mk (Flat.map fun _ => rfl) | refine And.intro ?_ ?_ | apply exG.mk | apply exGS.mk | exact Dd.nil) | (refine Dd.same _ ?_) | (refine Dd.dead _ ?_) | (with_reducible first | apply exQ.mk | apply exP.mk) | (refine EqP.mk rfl rfl) | (with_reducible apply exW.mk) | (refine EqW.mk rfl) | (with_reducible first | intro _ | refine Dn.mk ?_) | (refine exS.full (by first | rfl | (simp; done) | (simp; omega)) ?_) | (refine And.intro (Ob.mk ⟨rfl, rfl, by first | rfl | (simp; done) | (simp; omega)⟩) ?_) | (with_reducible refine exE.mapD ?_) | (refine exL.int ?_) | (with_reducible first | refine Up0.mk rfl ?_ | refine Up0i.mk rfl ?_ | refine Up1.mk rfl ?_ | refine Up1i.mk rfl ?_ | refine Up2.mk rfl ?_ | refine Up2i.mk rfl ?_) | (refine Col.mk rfl rfl rfl ?_) | (refine Coli.mk rfl rfl rfl rfl ?_) | (refine words18k _ ?_ (fun ha => ?_) (fun ha w p => ?_)) | (refine PCalls.mono (may19 g hg hw) ?_; rintro _ rfl) | (refine kept20k g hg hw ?_ fun f hf => ?_))
  all_goals (try (refine Ob.mk ?_; first | assumption | exact ⟨rfl, rfl⟩ | exact ⟨rfl, rfl, rfl⟩ | (refine ⟨rfl, rfl, ?_⟩; simp only [List.length_map, List.length_take, List.length_append, els_len, List.length_replicate]; omega) | (intro h; exact h) | (intro h; rw [h]; rfl) | (intro h; simp_all; done) | (refine bytes_le (n := 1048577) ?_ rfl; simp only [ltI_iff, ltI_not, leI_iff, leI_not, eqI_iff, eqI_not, List.length_map, bif_and, bif_or, Bool.and_eq_true, Bool.and_eq_false_iff, Bool.or_eq_true, Bool.or_eq_false_iff, Bool.not_eq_true', Bool.not_eq_false', Int.toNat_natCast, beq_iff_eq, beq_eq_false_iff_ne, decide_eq_true_eq, decide_eq_false_iff_not, bel_iff, bel_not, wthn_iff, wthn_not, els_len, mixL_len, Nat.zero_add, List.length_set, List.length_take] at *; omega) | (simp only [ltI_iff, ltI_not, leI_iff, leI_not, eqI_iff, eqI_not, List.length_map, bif_and, bif_or, Bool.and_eq_true, Bool.and_eq_false_iff, Bool.or_eq_true, Bool.or_eq_false_iff, Bool.not_eq_true', Bool.not_eq_false', Int.toNat_natCast, beq_iff_eq, beq_eq_false_iff_ne, decide_eq_true_eq, decide_eq_false_iff_not, bel_iff, bel_not, wthn_iff, wthn_not, els_len, mixL_len, Nat.zero_add, List.length_set, List.length_take, Int.ofNat_eq_natCast] at *; omega)))
  · exact Ob.mk hg.arrays
  · rename_i h1
    refine Ob.mk (.inl ⟨fun h => ?_, rfl⟩)
    rw [tr_t h.tomayF] at h1
    cases h1
  · rename_i h1 _
    by_cases hm : g.mayF
    · exact hm.fits
    · rw [tr_f hm] at h1
      cases h1
  · rename_i h1 _
    have hm : g.mayF := by
      by_cases hm : g.mayF
      · exact hm
      · rw [tr_f hm] at h1
        cases h1
    have hT := hm.fits.temps
    have h8 := hm.few
    obtain ⟨_, ha2, hw0, hp8⟩ := arrsF_of ha
    have hp0 := parsF_nn (l := g.arrays)
    have hw1 := wordsF_nn ha2
    have ea : addI .i64 ((g.params.map fun n => T.int .i64 n).length : Int) (mulI .i64 2 (parsF g.arrays)) = argsF g := by
      have : mulI .i64 2 (parsF g.arrays) = 2 * parsF g.arrays := by
        unfold mulI; simp only [IntKind.wrap, IntKind.bits, IntKind.signed]; simp; omega
      rw [this, List.length_map, addI_i64 (by omega) (by omega)]; rfl
    have es : maxI (subI .i64 g.temps 9) 0 = slotsF g := by
      rw [subI_i64 (by omega) (by omega)]
      unfold maxI slotsF
      split <;> split <;> omega
    conv => whnf
    rw [ea, es]
    refine LoopVC.mkA [40] [] [(2, 1, 3, 1)] [] (fun m vals σ => ∃ i : Nat, vals = [.t (.int .i64 i)] ∧ σ = [gvar g, .var 29 [.t (.int .i64 0), .t .nsl, .t (.int .i64 0), .t (.int .i64 0), .t (.int .i64 0)], .var 29 [.t (.int .i64 (argsF g)), .osl 3 0 (liveN i fun t => decide (f t ≠ 0)).length, .t (.int .i64 (slotsF g)), .t (.int .i64 (wordsF g.arrays)), .t (.int .i64 0)], .row 3 1 ((liveN i fun t => decide (f t ≠ 0)).map fun n => .int .i64 n)] ∧ i ≤ 9 ∧ m = 9 - i) ?_ ?_
    · repeat' ((conv => whnf); first | (with_reducible first | refine onBool_intro (fun _ => ?_) (fun _ => ?_) | refine And.intro (Ob.mk (Nat.le_of_ble_eq_true rfl)) ?_ | refine And.intro (Ob.mk rfl) ?_ | exact ⟨rfl, rfl⟩ | refine And.intro (Ob.mk (fun h => h)) ?_) | (with_reducible refine Or.inl (And.intro (Ob.mk (Flat.map ?_)) ?_); exact fun _ => rfl) | (refine Or.inl (And.intro (Ob.mk (flat_of rfl)) ?_)) | (refine Or.inl (And.intro (Ob.mk ⟨rfl, rfl, rfl, rfl⟩) ?_)) | (refine Or.inl (And.intro (Ob.mk ⟨rfl, rfl, rfl⟩) ?_)) | (refine And.intro (Ob.mk ⟨rfl, rfl⟩) ?_) | (with_reducible refine Or.inr ?_) | (refine And.intro (Ob.mk (flat_of rfl)) ?_) | (with_reducible refine And.intro (Ob.mk (Flat.map ?_)) ?_; exact fun _ => rfl) | (with_reducible first | exact Ob.mk (Flat.map fun _ => rfl) | refine And.intro ?_ ?_ | apply exG.mk | apply exGS.mk | exact Dd.nil) | (refine Dd.same _ ?_) | (refine Dd.dead _ ?_) | (with_reducible first | apply exQ.mk | apply exP.mk) | (refine EqP.mk rfl rfl) | (with_reducible apply exW.mk) | (refine EqW.mk rfl) | (with_reducible first | intro _ | refine Dn.mk ?_) | (refine exS.full (by first | rfl | (simp; done) | (simp; omega)) ?_) | (refine And.intro (Ob.mk ⟨rfl, rfl, by first | rfl | (simp; done) | (simp; omega)⟩) ?_) | (with_reducible refine exE.mapD ?_) | (refine exL.int ?_) | (with_reducible first | refine Up0.mk rfl ?_ | refine Up0i.mk rfl ?_ | refine Up1.mk rfl ?_ | refine Up1i.mk rfl ?_ | refine Up2.mk rfl ?_ | refine Up2i.mk rfl ?_) | (refine Col.mk rfl rfl rfl ?_) | (refine Coli.mk rfl rfl rfl rfl ?_))
      exact ⟨_, 0, rfl, rfl, by omega, rfl⟩
    · rintro m vals σ ⟨i, rfl, rfl, hi, rfl⟩
      have hl := liveN_len (n := i) (f := fun t => decide (f t ≠ 0))
      repeat' ((conv => whnf); first | (with_reducible first | refine onBool_intro (fun _ => ?_) (fun _ => ?_) | refine And.intro (Ob.mk (Nat.le_of_ble_eq_true rfl)) ?_ | refine And.intro (Ob.mk rfl) ?_ | exact ⟨rfl, rfl⟩ | refine And.intro (Ob.mk (fun h => h)) ?_) | (with_reducible refine Or.inl (And.intro (Ob.mk (Flat.map ?_)) ?_); exact fun _ => rfl) | (refine Or.inl (And.intro (Ob.mk (flat_of rfl)) ?_)) | (refine Or.inl (And.intro (Ob.mk ⟨rfl, rfl, rfl, rfl⟩) ?_)) | (refine Or.inl (And.intro (Ob.mk ⟨rfl, rfl, rfl⟩) ?_)) | (refine And.intro (Ob.mk ⟨rfl, rfl⟩) ?_) | (with_reducible refine Or.inr ?_) | (refine And.intro (Ob.mk (flat_of rfl)) ?_) | (with_reducible refine And.intro (Ob.mk (Flat.map ?_)) ?_; exact fun _ => rfl) | (with_reducible first | exact Ob.mk (Flat.map fun _ => rfl) | refine And.intro ?_ ?_ | apply exG.mk | apply exGS.mk | exact Dd.nil) | (refine Dd.same _ ?_) | (refine Dd.dead _ ?_) | (with_reducible first | apply exQ.mk | apply exP.mk) | (refine EqP.mk rfl rfl) | (with_reducible apply exW.mk) | (refine EqW.mk rfl) | (with_reducible first | intro _ | refine Dn.mk ?_) | (refine exS.full (by first | rfl | (simp; done) | (simp; omega)) ?_) | (refine And.intro (Ob.mk ⟨rfl, rfl, by first | rfl | (simp; done) | (simp; omega)⟩) ?_) | (with_reducible refine exE.mapD ?_) | (refine exL.int ?_) | (with_reducible first | refine Up0.mk rfl ?_ | refine Up0i.mk rfl ?_ | refine Up1.mk rfl ?_ | refine Up1i.mk rfl ?_ | refine Up2.mk rfl ?_ | refine Up2i.mk rfl ?_) | (refine Col.mk rfl rfl rfl ?_) | (refine Coli.mk rfl rfl rfl rfl ?_))
      all_goals (try (refine Ob.mk ?_; first | assumption | exact ⟨rfl, rfl⟩ | exact ⟨rfl, rfl, rfl⟩ | (refine ⟨rfl, rfl, ?_⟩; simp only [List.length_map, List.length_take, List.length_append, els_len, List.length_replicate]; omega) | (intro h; exact h) | (intro h; rw [h]; rfl) | (intro h; simp_all; done) | (refine bytes_le (n := 1048577) ?_ rfl; simp only [ltI_iff, ltI_not, leI_iff, leI_not, eqI_iff, eqI_not, List.length_map, bif_and, bif_or, Bool.and_eq_true, Bool.and_eq_false_iff, Bool.or_eq_true, Bool.or_eq_false_iff, Bool.not_eq_true', Bool.not_eq_false', Int.toNat_natCast, beq_iff_eq, beq_eq_false_iff_ne, decide_eq_true_eq, decide_eq_false_iff_not, bel_iff, bel_not, wthn_iff, wthn_not, els_len, mixL_len, Nat.zero_add, List.length_set, List.length_take] at *; omega) | (simp only [ltI_iff, ltI_not, leI_iff, leI_not, eqI_iff, eqI_not, List.length_map, bif_and, bif_or, Bool.and_eq_true, Bool.and_eq_false_iff, Bool.or_eq_true, Bool.or_eq_false_iff, Bool.not_eq_true', Bool.not_eq_false', Int.toNat_natCast, beq_iff_eq, beq_eq_false_iff_ne, decide_eq_true_eq, decide_eq_false_iff_not, bel_iff, bel_not, wthn_iff, wthn_not, els_len, mixL_len, Nat.zero_add, List.length_set, List.length_take, Int.ofNat_eq_natCast] at *; omega)))
      · rename_i h2 h3
        have h2 : i < 9 := by have := ltI_iff.1 h2; omega
        rw [Int.toNat_natCast, nthD_range h2, Bool.not_eq_true', eqI_not] at h3
        conv => whnf
        refine ⟨9 - (i + 1), by omega, i + 1, ?_, ?_, h2, rfl⟩
        · rw [addI_i64 (by omega) (by omega)]; rfl
        · rw [liveN_succ, if_pos (by simp [h3]), List.map_append, List.length_append]
          rfl
      · rename_i h2 h3
        have h2 : i < 9 := by have := ltI_iff.1 h2; omega
        rw [Int.toNat_natCast, nthD_range h2, Bool.not_eq_false', eqI_iff] at h3
        conv => whnf
        refine ⟨9 - (i + 1), by omega, i + 1, ?_, ?_, h2, rfl⟩
        · rw [addI_i64 (by omega) (by omega)]; rfl
        · rw [liveN_succ, if_neg (by simp [h3]), List.append_nil]; rfl
      · exact Ob.mk ⟨rfl, rfl, by simp⟩
      · exact Ob.mk clean_ints
      · rename_i h2 _
        have h2 : i = 9 := by have := ltI_not.1 h2; omega
        subst h2
        have hs : (liveN 9 fun t => decide (f t ≠ 0)) = savedF g := by
          unfold savedF
          refine liveN_congr fun t ht => ?_
          rw [Bool.eq_iff_iff, decide_eq_true_eq, tr_iff, hf.iff t ht]
        have hsl : slotsF g ≤ 8000 ∧ 0 ≤ slotsF g := by unfold slotsF; split <;> omega
        have hal : argsF g ≤ 24 ∧ 0 ≤ argsF g := by unfold argsF; omega
        refine Ob.mk (.inr ⟨⟨hm, ha⟩, ?_⟩)
        rw [hs] at hl ⊢
        rw [addI_i64 (x := argsF g) (by omega) (by omega), addI_i64 (x := argsF g + _) (by omega) (by omega), addI_i64 (x := argsF g + _ + _) (by omega) (by omega)]
        rfl
  · refine Ob.mk (.inl ⟨fun h => absurd (ha.symm.trans h.arrs) Bool.false_ne_true, rfl⟩)
noncomputable def wgtF (g : Graph) : Int := 4 * wdF g
theorem okF_rng {g : Graph} (h : g.okF) : 0 ≤ wdF g ∧ wdF g ≤ 10000 := by
  have h8 := h.few
  have hT := h.fits.temps
  obtain ⟨_, ha2, hw0, hp8⟩ := arrsF_of h.arrs
  have hp0 := parsF_nn (l := g.arrays)
  have hw1 := wordsF_nn ha2
  have hsl : slotsF g ≤ 8000 ∧ 0 ≤ slotsF g := by unfold slotsF; split <;> omega
  have hal : argsF g ≤ 24 ∧ 0 ≤ argsF g := by unfold argsF; omega
  have hl : (savedF g).length ≤ 9 := liveN_len
  unfold wdF
  omega
theorem lay8k (g : Graph) (hg : g.tiny) (hw : ∀ b ∈ g.blocks, ∀ x ∈ allN b.fin, I64 x) {q : T → Prop} (h1 : ¬ g.okF → ∀ e, e = 1 → q (.own (.tup [layZ, .int .i64 e]))) (h2 : g.okF → ∀ e, e = 0 → q (.own (.tup [layO g, .int .i64 e]))) : PCalls Tryd.prog 8 [g.t] q :=
  PCalls.mono (lay8 g hg hw) fun r h => by
    rcases h.out with ⟨h3, rfl⟩ | ⟨h3, rfl⟩
    · exact h1 h3 1 rfl
    · exact h2 h3 0 rfl
theorem weight10 (g : Graph) (hg : g.tiny) (hw : ∀ b ∈ g.blocks, ∀ x ∈ allN b.fin, I64 x) : PCalls Tryd.prog 10 [g.t] (fun r => Ob ((¬ g.okF ∧ r = .tup [.int .i64 0, .int .i64 1]) ∨ (g.okF ∧ r = .tup [.int .i64 (wgtF g), .int .i64 0]))) := by
  refine PCalls.of_body ttOk Tryd.func10 rfl ?_
  repeat' ((conv => whnf); first | (with_reducible first | refine onBool_intro (fun _ => ?_) (fun _ => ?_) | refine And.intro (Ob.mk (Nat.le_of_ble_eq_true rfl)) ?_ | refine And.intro (Ob.mk rfl) ?_ | exact ⟨rfl, rfl⟩ | refine And.intro (Ob.mk (fun h => h)) ?_) | (with_reducible refine Or.inl (And.intro (Ob.mk (Flat.map ?_)) ?_); exact fun _ => rfl) | (refine Or.inl (And.intro (Ob.mk (flat_of rfl)) ?_)) | (refine Or.inl (And.intro (Ob.mk ⟨rfl, rfl, rfl, rfl⟩) ?_)) | (refine Or.inl (And.intro (Ob.mk ⟨rfl, rfl, rfl⟩) ?_)) | (refine And.intro (Ob.mk ⟨rfl, rfl⟩) ?_) | (with_reducible refine Or.inr ?_) | (refine And.intro (Ob.mk (flat_of rfl)) ?_) | (with_reducible refine And.intro (Ob.mk (Flat.map ?_)) ?_; exact fun _ => rfl) | (with_reducible first | exact Ob.mk (Flat.map fun _ => rfl) | refine And.intro ?_ ?_ | apply exG.mk | apply exGS.mk | exact Dd.nil) | (refine Dd.same _ ?_) | (refine Dd.dead _ ?_) | (with_reducible first | apply exQ.mk | apply exP.mk) | (refine EqP.mk rfl rfl) | (with_reducible apply exW.mk) | (refine EqW.mk rfl) | (with_reducible first | intro _ | refine Dn.mk ?_) | (refine exS.full (by first | rfl | (simp; done) | (simp; omega)) ?_) | (refine And.intro (Ob.mk ⟨rfl, rfl, by first | rfl | (simp; done) | (simp; omega)⟩) ?_) | (with_reducible refine exE.mapD ?_) | (refine exL.int ?_) | (with_reducible first | refine Up0.mk rfl ?_ | refine Up0i.mk rfl ?_ | refine Up1.mk rfl ?_ | refine Up1i.mk rfl ?_ | refine Up2.mk rfl ?_ | refine Up2i.mk rfl ?_) | (refine Col.mk rfl rfl rfl ?_) | (refine Coli.mk rfl rfl rfl rfl ?_) | (refine lay8k g hg hw (fun h e he => ?_) (fun h e he => ?_)))
  all_goals (try (refine Ob.mk ?_; first | assumption | exact ⟨rfl, rfl⟩ | exact ⟨rfl, rfl, rfl⟩ | (refine ⟨rfl, rfl, ?_⟩; simp only [List.length_map, List.length_take, List.length_append, els_len, List.length_replicate]; omega) | (intro h; exact h) | (intro h; rw [h]; rfl) | (intro h; simp_all; done) | (refine bytes_le (n := 1048577) ?_ rfl; simp only [ltI_iff, ltI_not, leI_iff, leI_not, eqI_iff, eqI_not, List.length_map, bif_and, bif_or, Bool.and_eq_true, Bool.and_eq_false_iff, Bool.or_eq_true, Bool.or_eq_false_iff, Bool.not_eq_true', Bool.not_eq_false', Int.toNat_natCast, beq_iff_eq, beq_eq_false_iff_ne, decide_eq_true_eq, decide_eq_false_iff_not, bel_iff, bel_not, wthn_iff, wthn_not, els_len, mixL_len, Nat.zero_add, List.length_set, List.length_take] at *; omega) | (simp only [ltI_iff, ltI_not, leI_iff, leI_not, eqI_iff, eqI_not, List.length_map, bif_and, bif_or, Bool.and_eq_true, Bool.and_eq_false_iff, Bool.or_eq_true, Bool.or_eq_false_iff, Bool.not_eq_true', Bool.not_eq_false', Int.toNat_natCast, beq_iff_eq, beq_eq_false_iff_ne, decide_eq_true_eq, decide_eq_false_iff_not, bel_iff, bel_not, wthn_iff, wthn_not, els_len, mixL_len, Nat.zero_add, List.length_set, List.length_take, Int.ofNat_eq_natCast] at *; omega)))
  · subst he
    rw [mul4 (by omega) (by omega)]
    exact Ob.mk (.inl ⟨h, rfl⟩)
  · subst he
    have := okF_rng h
    rw [mul4 this.1 this.2]
    exact Ob.mk (.inr ⟨h, rfl⟩)
end Go.Proofs.YtgnafgebenlffaaDoor.Am
