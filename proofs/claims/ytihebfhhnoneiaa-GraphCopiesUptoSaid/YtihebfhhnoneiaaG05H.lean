/- The program's graph: what is unlike, temps, arrays, blocks, modules. -/
import Derived.Test.YtihebfhhnoneiaaG05G
namespace Go.Proofs.Ytihebfhhnoneiaa.Am
open Go Go.Proofs
set_option maxRecDepth 10000
set_option maxHeartbeats 2000000
set_option linter.unusedVariables false
set_option linter.unusedSimpArgs false

theorem nodup_snoc {l : List Int} {x : Int} : (l ++ [x]).Nodup ↔ l.Nodup ∧ x ∉ l := by
  rw [List.nodup_append]
  constructor
  · rintro ⟨h1, _, h3⟩
    exact ⟨h1, fun h => h3 x h x (by simp) rfl⟩
  · rintro ⟨h1, h2⟩
    refine ⟨h1, by simp, ?_⟩
    intro a ha b hb e
    simp at hb
    subst hb e
    exact h2 ha

theorem unlike46 (l : List Int) : PCalls Try.prog 46 [ilist l] (fun r => r = .bool (decide l.Nodup)) := by
  refine PCalls.of_body ttOk Try.func46 rfl ?_
  repeat' ((conv => whnf); first
    | (with_reducible refine onBool_intro (fun _ => ?_) (fun _ => ?_))
    | (with_reducible refine And.intro (Ob.mk (Nat.le_of_ble_eq_true rfl)) ?_)
    | (with_reducible refine And.intro (Ob.mk rfl) ?_)
    | (with_reducible exact ⟨rfl, rfl⟩)
    | (with_reducible refine And.intro (Ob.mk (fun h => h)) ?_)
    | (with_reducible refine Or.inl (And.intro (Ob.mk (Flat.map ?_)) ?_); exact fun _ => rfl)
    | (refine Or.inl (And.intro (Ob.mk (flat_of rfl)) ?_))
    | (refine Or.inl (And.intro (Ob.mk ⟨rfl, rfl, rfl, rfl⟩) ?_))
    | (refine Or.inl (And.intro (Ob.mk ⟨rfl, rfl, rfl⟩) ?_))
    | (refine And.intro (Ob.mk ⟨rfl, rfl⟩) ?_)
    | (with_reducible refine Or.inr ?_)
    | (refine And.intro (Ob.mk (flat_of rfl)) ?_)
    | (with_reducible refine And.intro (Ob.mk (Flat.map ?_)) ?_; exact fun _ => rfl)
    | (with_reducible exact Ob.mk (Flat.map fun _ => rfl))
    | (with_reducible refine And.intro ?_ ?_)
    | (with_reducible apply exG.mk) | (with_reducible apply exGS.mk) | (with_reducible exact Dd.nil) | (refine Dd.same _ ?_) | (refine Dd.dead _ ?_) | (with_reducible apply exQ.mk) | (with_reducible apply exP.mk) | (refine EqP.mk rfl rfl) | (with_reducible apply exW.mk) | (refine EqW.mk rfl)
    | (with_reducible intro _) | (with_reducible refine Dn.mk ?_)
    | (refine exS.full (by first | rfl | (simp; done) | (simp; omega)) ?_)
    | (refine And.intro (Ob.mk ⟨rfl, rfl, by first | rfl | (simp; done) | (simp; omega)⟩) ?_)
    | (with_reducible refine exE.mapD ?_) | (refine exL.int ?_)
    | (with_reducible refine Up0.mk rfl ?_) | (with_reducible refine Up0i.mk rfl ?_) | (with_reducible refine Up1.mk rfl ?_) | (with_reducible refine Up1i.mk rfl ?_) | (with_reducible refine Up2.mk rfl ?_) | (with_reducible refine Up2i.mk rfl ?_)
    | (refine Col.mk rfl rfl rfl ?_) | (refine Coli.mk rfl rfl rfl rfl ?_))
  conv => whnf
  refine LoopVC.mk [9] [] (fun m vals σ => ∃ (i : Nat) (kc : List (Int × Int)), vals = [.t (.int .i64 i)] ∧ σ = [.map .i64 (kc.map fun p => (p.1, T.int .i64 p.2))] ∧ i ≤ l.length ∧ m = l.length - i ∧
    (∀ k, k ∈ kc.map (·.1) ↔ k ∈ l.take i) ∧ kc.length ≤ i ∧ (kc.length = i ↔ (l.take i).Nodup)) ?_ ?_
  · conv => whnf
    exact ⟨_, 0, [], rfl, rfl, Nat.zero_le _, rfl, by simp, by simp, by simp⟩
  · rintro m vals σ ⟨i, kc, rfl, rfl, hi, rfl, hk, hl, hn⟩
    repeat' ((conv => whnf); first
    | (with_reducible refine onBool_intro (fun _ => ?_) (fun _ => ?_))
    | (with_reducible refine And.intro (Ob.mk (Nat.le_of_ble_eq_true rfl)) ?_)
    | (with_reducible refine And.intro (Ob.mk rfl) ?_)
    | (with_reducible exact ⟨rfl, rfl⟩)
    | (with_reducible refine And.intro (Ob.mk (fun h => h)) ?_)
    | (with_reducible refine Or.inl (And.intro (Ob.mk (Flat.map ?_)) ?_); exact fun _ => rfl)
    | (refine Or.inl (And.intro (Ob.mk (flat_of rfl)) ?_))
    | (refine Or.inl (And.intro (Ob.mk ⟨rfl, rfl, rfl, rfl⟩) ?_))
    | (refine Or.inl (And.intro (Ob.mk ⟨rfl, rfl, rfl⟩) ?_))
    | (refine And.intro (Ob.mk ⟨rfl, rfl⟩) ?_)
    | (with_reducible refine Or.inr ?_)
    | (refine And.intro (Ob.mk (flat_of rfl)) ?_)
    | (with_reducible refine And.intro (Ob.mk (Flat.map ?_)) ?_; exact fun _ => rfl)
    | (with_reducible exact Ob.mk (Flat.map fun _ => rfl))
    | (with_reducible refine And.intro ?_ ?_)
    | (with_reducible apply exG.mk) | (with_reducible apply exGS.mk) | (with_reducible exact Dd.nil) | (refine Dd.same _ ?_) | (refine Dd.dead _ ?_) | (with_reducible apply exQ.mk) | (with_reducible apply exP.mk) | (refine EqP.mk rfl rfl) | (with_reducible apply exW.mk) | (refine EqW.mk rfl)
    | (with_reducible intro _) | (with_reducible refine Dn.mk ?_)
    | (refine exS.full (by first | rfl | (simp; done) | (simp; omega)) ?_)
    | (refine And.intro (Ob.mk ⟨rfl, rfl, by first | rfl | (simp; done) | (simp; omega)⟩) ?_)
    | (with_reducible refine exE.mapD ?_) | (refine exL.int ?_)
    | (with_reducible refine Up0.mk rfl ?_) | (with_reducible refine Up0i.mk rfl ?_) | (with_reducible refine Up1.mk rfl ?_) | (with_reducible refine Up1i.mk rfl ?_) | (with_reducible refine Up2.mk rfl ?_) | (with_reducible refine Up2i.mk rfl ?_)
    | (refine Col.mk rfl rfl rfl ?_) | (refine Coli.mk rfl rfl rfl rfl ?_))
    all_goals (try (refine Ob.mk ?_; first | assumption | exact ⟨rfl, rfl⟩ | exact ⟨rfl, rfl, rfl⟩ | (refine ⟨rfl, rfl, ?_⟩; simp only [List.length_map, List.length_take, List.length_append, els_len, List.length_replicate]; omega) | (intro h; exact h) | (intro h; rw [h]; rfl) | (intro h; simp_all; done) | (refine bytes_le (n := 1048577) ?_ rfl; simp only [ltI_iff, ltI_not, leI_iff, leI_not, eqI_iff, eqI_not, List.length_map, bif_and, bif_or, Bool.and_eq_true, Bool.and_eq_false_iff, Bool.or_eq_true, Bool.or_eq_false_iff, Bool.not_eq_true', Bool.not_eq_false', Int.toNat_natCast, beq_iff_eq, beq_eq_false_iff_ne, decide_eq_true_eq, decide_eq_false_iff_not, bel_iff, bel_not, wthn_iff, wthn_not, els_len, mixL_len, Nat.zero_add, List.length_set, List.length_take] at *; omega) | (simp only [ltI_iff, ltI_not, leI_iff, leI_not, eqI_iff, eqI_not, List.length_map, bif_and, bif_or, Bool.and_eq_true, Bool.and_eq_false_iff, Bool.or_eq_true, Bool.or_eq_false_iff, Bool.not_eq_true', Bool.not_eq_false', Int.toNat_natCast, beq_iff_eq, beq_eq_false_iff_ne, decide_eq_true_eq, decide_eq_false_iff_not, bel_iff, bel_not, wthn_iff, wthn_not, els_len, mixL_len, Nat.zero_add, List.length_set, List.length_take, Int.ofNat_eq_natCast] at *; omega)))
    · conv => whnf
      rename_i h1
      have hlt : i < l.length := by simp only [ltI_iff, ltI_not, leI_iff, leI_not, eqI_iff, eqI_not, List.length_map, bif_and, bif_or, Bool.and_eq_true, Bool.and_eq_false_iff, Bool.or_eq_true, Bool.or_eq_false_iff, Bool.not_eq_true', Bool.not_eq_false', Int.toNat_natCast, beq_iff_eq, beq_eq_false_iff_ne, decide_eq_true_eq, decide_eq_false_iff_not] at *; omega
      obtain ⟨kc', g1, g2, g3, g4⟩ := putE_int (k := .i64) (n := nthD l i) (c := addI .i64 (lookC (nthD l i) kc) 1) (kc := kc)
      refine ⟨_, ?_, i + 1, kc', ?_, ?_, ?_, rfl, ?_, ?_, ?_⟩
      · omega
      · rw [addI_i64 (by omega) (by simp only [ltI_iff, ltI_not, leI_iff, leI_not, eqI_iff, eqI_not, List.length_map, bif_and, bif_or, Bool.and_eq_true, Bool.and_eq_false_iff, Bool.or_eq_true, Bool.or_eq_false_iff, Bool.not_eq_true', Bool.not_eq_false', Int.toNat_natCast, beq_iff_eq, beq_eq_false_iff_ne, decide_eq_true_eq, decide_eq_false_iff_not] at *; omega)]; rfl
      · rw [← g1]; rfl
      · omega
      · intro k
        rw [g2, hk, take_succ_nthD hlt]
        simp [or_comm]
      · by_cases hm : nthD l i ∈ kc.map (·.1)
        · rw [g3 hm]; omega
        · rw [g4 hm]; omega
      · rw [take_succ_nthD hlt, nodup_snoc, ← hk]
        by_cases hm : nthD l i ∈ kc.map (·.1)
        · rw [g3 hm]
          constructor
          · intro h; omega
          · rintro ⟨_, h⟩; exact absurd hm h
        · rw [g4 hm, ← hn]
          constructor
          · intro h; exact ⟨by omega, hm⟩
          · rintro ⟨h, _⟩; omega
    · rename_i h1
      have hge : i = l.length := by simp only [ltI_iff, ltI_not, leI_iff, leI_not, eqI_iff, eqI_not, List.length_map, bif_and, bif_or, Bool.and_eq_true, Bool.and_eq_false_iff, Bool.or_eq_true, Bool.or_eq_false_iff, Bool.not_eq_true', Bool.not_eq_false', Int.toNat_natCast, beq_iff_eq, beq_eq_false_iff_ne, decide_eq_true_eq, decide_eq_false_iff_not] at *; omega
      rw [List.take_of_length_le (by omega)] at hn
      refine congrArg T.bool (?_ : _ = decide l.Nodup)
      rw [Bool.eq_iff_iff, decide_eq_true_eq, ← hn, eqI_iff]
      simp only [List.length_map]
      omega

theorem temps21 (g : Graph) : PCalls Try.prog 21 [g.t] (fun r => r = .bool (ownG g)) := by
  refine PCalls.of_body ttOk Try.func21 rfl ?_
  repeat' ((conv => whnf); first
    | (with_reducible refine onBool_intro (fun _ => ?_) (fun _ => ?_))
    | (with_reducible refine And.intro (Ob.mk (Nat.le_of_ble_eq_true rfl)) ?_)
    | (with_reducible refine And.intro (Ob.mk rfl) ?_)
    | (with_reducible exact ⟨rfl, rfl⟩)
    | (with_reducible refine And.intro (Ob.mk (fun h => h)) ?_)
    | (with_reducible refine Or.inl (And.intro (Ob.mk (Flat.map ?_)) ?_); exact fun _ => rfl)
    | (refine Or.inl (And.intro (Ob.mk (flat_of rfl)) ?_))
    | (refine Or.inl (And.intro (Ob.mk ⟨rfl, rfl, rfl, rfl⟩) ?_))
    | (refine Or.inl (And.intro (Ob.mk ⟨rfl, rfl, rfl⟩) ?_))
    | (refine And.intro (Ob.mk ⟨rfl, rfl⟩) ?_)
    | (with_reducible refine Or.inr ?_)
    | (refine And.intro (Ob.mk (flat_of rfl)) ?_)
    | (with_reducible refine And.intro (Ob.mk (Flat.map ?_)) ?_; exact fun _ => rfl)
    | (with_reducible exact Ob.mk (Flat.map fun _ => rfl))
    | (with_reducible refine And.intro ?_ ?_)
    | (with_reducible apply exG.mk) | (with_reducible apply exGS.mk) | (with_reducible exact Dd.nil) | (refine Dd.same _ ?_) | (refine Dd.dead _ ?_) | (with_reducible apply exQ.mk) | (with_reducible apply exP.mk) | (refine EqP.mk rfl rfl) | (with_reducible apply exW.mk) | (refine EqW.mk rfl)
    | (with_reducible intro _) | (with_reducible refine Dn.mk ?_)
    | (refine exS.full (by first | rfl | (simp; done) | (simp; omega)) ?_)
    | (refine And.intro (Ob.mk ⟨rfl, rfl, by first | rfl | (simp; done) | (simp; omega)⟩) ?_)
    | (with_reducible refine exE.mapD ?_) | (refine exL.int ?_)
    | (with_reducible refine Up0.mk rfl ?_) | (with_reducible refine Up0i.mk rfl ?_) | (with_reducible refine Up1.mk rfl ?_) | (with_reducible refine Up1i.mk rfl ?_) | (with_reducible refine Up2.mk rfl ?_) | (with_reducible refine Up2i.mk rfl ?_)
    | (refine Col.mk rfl rfl rfl ?_) | (refine Coli.mk rfl rfl rfl rfl ?_)
    | (refine drawVC.all _ _ (by kernel_rfl) ?_)
    | (refine PCalls.mono (within43 _ _ _) ?_; rintro _ rfl)
    | (refine PCalls.mono (allBelow45 _ _) ?_; rintro _ rfl)
    | (refine PCalls.mono (unlike46 _) ?_; rintro _ rfl))
  all_goals (try (refine Ob.mk ?_; first | assumption | exact ⟨rfl, rfl⟩ | exact ⟨rfl, rfl, rfl⟩ | (refine ⟨rfl, rfl, ?_⟩; simp only [List.length_map, List.length_take, List.length_append, els_len, List.length_replicate]; omega) | (intro h; exact h) | (intro h; rw [h]; rfl) | (intro h; simp_all; done) | (refine bytes_le (n := 1048577) ?_ rfl; simp only [ltI_iff, ltI_not, leI_iff, leI_not, eqI_iff, eqI_not, List.length_map, bif_and, bif_or, Bool.and_eq_true, Bool.and_eq_false_iff, Bool.or_eq_true, Bool.or_eq_false_iff, Bool.not_eq_true', Bool.not_eq_false', Int.toNat_natCast, beq_iff_eq, beq_eq_false_iff_ne, decide_eq_true_eq, decide_eq_false_iff_not, bel_iff, bel_not, wthn_iff, wthn_not, els_len, mixL_len, Nat.zero_add, List.length_set, List.length_take] at *; omega) | (simp only [ltI_iff, ltI_not, leI_iff, leI_not, eqI_iff, eqI_not, List.length_map, bif_and, bif_or, Bool.and_eq_true, Bool.and_eq_false_iff, Bool.or_eq_true, Bool.or_eq_false_iff, Bool.not_eq_true', Bool.not_eq_false', Int.toNat_natCast, beq_iff_eq, beq_eq_false_iff_ne, decide_eq_true_eq, decide_eq_false_iff_not, bel_iff, bel_not, wthn_iff, wthn_not, els_len, mixL_len, Nat.zero_add, List.length_set, List.length_take, Int.ofNat_eq_natCast] at *; omega)))
  refine congrArg T.bool (?_ : _ = ownG g)
  rw [Bool.eq_iff_iff]
  simp only [ownG, bif_and, Bool.and_eq_true, leI_iff, wthn_iff, decide_eq_true_eq, List.length_map]
  constructor
  · rintro ⟨⟨⟨h1, h2⟩, h3⟩, h4⟩; exact ⟨⟨⟨h1, by omega⟩, h4⟩, h3⟩
  · rintro ⟨⟨⟨h1, h2⟩, h3⟩, h4⟩; exact ⟨⟨⟨h1, by omega⟩, h4⟩, h3⟩

theorem codeSum_take (l : List Block) (i : Nat) : codeSum (l.take i) ≤ codeSum l := by
  have : codeSum l = codeSum (l.take i) + codeSum (l.drop i) := by
    unfold codeSum
    rw [← List.sum_append, ← List.map_append, List.take_append_drop]
  omega

theorem blocks23 (g : Graph) (hs : codeSum g.blocks ≤ 2 ^ 50) : PCalls Try.prog 23 [g.t] (fun r => r = .bool (blocksN g)) := by
  refine PCalls.of_body ttOk Try.func23 rfl ?_
  repeat' ((conv => whnf); first
    | (with_reducible refine onBool_intro (fun _ => ?_) (fun _ => ?_))
    | (with_reducible refine And.intro (Ob.mk (Nat.le_of_ble_eq_true rfl)) ?_)
    | (with_reducible refine And.intro (Ob.mk rfl) ?_)
    | (with_reducible exact ⟨rfl, rfl⟩)
    | (with_reducible refine And.intro (Ob.mk (fun h => h)) ?_)
    | (with_reducible refine Or.inl (And.intro (Ob.mk (Flat.map ?_)) ?_); exact fun _ => rfl)
    | (refine Or.inl (And.intro (Ob.mk (flat_of rfl)) ?_))
    | (refine Or.inl (And.intro (Ob.mk ⟨rfl, rfl, rfl, rfl⟩) ?_))
    | (refine Or.inl (And.intro (Ob.mk ⟨rfl, rfl, rfl⟩) ?_))
    | (refine And.intro (Ob.mk ⟨rfl, rfl⟩) ?_)
    | (with_reducible refine Or.inr ?_)
    | (refine And.intro (Ob.mk (flat_of rfl)) ?_)
    | (with_reducible refine And.intro (Ob.mk (Flat.map ?_)) ?_; exact fun _ => rfl)
    | (with_reducible exact Ob.mk (Flat.map fun _ => rfl))
    | (with_reducible refine And.intro ?_ ?_)
    | (with_reducible apply exG.mk) | (with_reducible apply exGS.mk) | (with_reducible exact Dd.nil) | (refine Dd.same _ ?_) | (refine Dd.dead _ ?_) | (with_reducible apply exQ.mk) | (with_reducible apply exP.mk) | (refine EqP.mk rfl rfl) | (with_reducible apply exW.mk) | (refine EqW.mk rfl)
    | (with_reducible intro _) | (with_reducible refine Dn.mk ?_)
    | (refine exS.full (by first | rfl | (simp; done) | (simp; omega)) ?_)
    | (refine And.intro (Ob.mk ⟨rfl, rfl, by first | rfl | (simp; done) | (simp; omega)⟩) ?_)
    | (with_reducible refine exE.mapD ?_) | (refine exL.int ?_)
    | (with_reducible refine Up0.mk rfl ?_) | (with_reducible refine Up0i.mk rfl ?_) | (with_reducible refine Up1.mk rfl ?_) | (with_reducible refine Up1i.mk rfl ?_) | (with_reducible refine Up2.mk rfl ?_) | (with_reducible refine Up2i.mk rfl ?_)
    | (refine Col.mk rfl rfl rfl ?_) | (refine Coli.mk rfl rfl rfl rfl ?_))
  all_goals (try (refine Ob.mk ?_; first | assumption | exact ⟨rfl, rfl⟩ | exact ⟨rfl, rfl, rfl⟩ | (refine ⟨rfl, rfl, ?_⟩; simp only [List.length_map, List.length_take, List.length_append, els_len, List.length_replicate]; omega) | (intro h; exact h) | (intro h; rw [h]; rfl) | (intro h; simp_all; done) | (refine bytes_le (n := 1048577) ?_ rfl; simp only [ltI_iff, ltI_not, leI_iff, leI_not, eqI_iff, eqI_not, List.length_map, bif_and, bif_or, Bool.and_eq_true, Bool.and_eq_false_iff, Bool.or_eq_true, Bool.or_eq_false_iff, Bool.not_eq_true', Bool.not_eq_false', Int.toNat_natCast, beq_iff_eq, beq_eq_false_iff_ne, decide_eq_true_eq, decide_eq_false_iff_not, bel_iff, bel_not, wthn_iff, wthn_not, els_len, mixL_len, Nat.zero_add, List.length_set, List.length_take] at *; omega) | (simp only [ltI_iff, ltI_not, leI_iff, leI_not, eqI_iff, eqI_not, List.length_map, bif_and, bif_or, Bool.and_eq_true, Bool.and_eq_false_iff, Bool.or_eq_true, Bool.or_eq_false_iff, Bool.not_eq_true', Bool.not_eq_false', Int.toNat_natCast, beq_iff_eq, beq_eq_false_iff_ne, decide_eq_true_eq, decide_eq_false_iff_not, bel_iff, bel_not, wthn_iff, wthn_not, els_len, mixL_len, Nat.zero_add, List.length_set, List.length_take, Int.ofNat_eq_natCast] at *; omega)))
  conv => whnf
  refine LoopVC.up1 9 3 g.blocks.length (fun i n => n = (codeSum (g.blocks.take i) : Nat)) ?_ ?_
  · repeat' ((conv => whnf); first
    | (with_reducible refine onBool_intro (fun _ => ?_) (fun _ => ?_))
    | (with_reducible refine And.intro (Ob.mk (Nat.le_of_ble_eq_true rfl)) ?_)
    | (with_reducible refine And.intro (Ob.mk rfl) ?_)
    | (with_reducible exact ⟨rfl, rfl⟩)
    | (with_reducible refine And.intro (Ob.mk (fun h => h)) ?_)
    | (with_reducible refine Or.inl (And.intro (Ob.mk (Flat.map ?_)) ?_); exact fun _ => rfl)
    | (refine Or.inl (And.intro (Ob.mk (flat_of rfl)) ?_))
    | (refine Or.inl (And.intro (Ob.mk ⟨rfl, rfl, rfl, rfl⟩) ?_))
    | (refine Or.inl (And.intro (Ob.mk ⟨rfl, rfl, rfl⟩) ?_))
    | (refine And.intro (Ob.mk ⟨rfl, rfl⟩) ?_)
    | (with_reducible refine Or.inr ?_)
    | (refine And.intro (Ob.mk (flat_of rfl)) ?_)
    | (with_reducible refine And.intro (Ob.mk (Flat.map ?_)) ?_; exact fun _ => rfl)
    | (with_reducible exact Ob.mk (Flat.map fun _ => rfl))
    | (with_reducible refine And.intro ?_ ?_)
    | (with_reducible apply exG.mk) | (with_reducible apply exGS.mk) | (with_reducible exact Dd.nil) | (refine Dd.same _ ?_) | (refine Dd.dead _ ?_) | (with_reducible apply exQ.mk) | (with_reducible apply exP.mk) | (refine EqP.mk rfl rfl) | (with_reducible apply exW.mk) | (refine EqW.mk rfl)
    | (with_reducible intro _) | (with_reducible refine Dn.mk ?_)
    | (refine exS.full (by first | rfl | (simp; done) | (simp; omega)) ?_)
    | (refine And.intro (Ob.mk ⟨rfl, rfl, by first | rfl | (simp; done) | (simp; omega)⟩) ?_)
    | (with_reducible refine exE.mapD ?_) | (refine exL.int ?_)
    | (with_reducible refine Up0.mk rfl ?_) | (with_reducible refine Up0i.mk rfl ?_) | (with_reducible refine Up1.mk rfl ?_) | (with_reducible refine Up1i.mk rfl ?_) | (with_reducible refine Up2.mk rfl ?_) | (with_reducible refine Up2i.mk rfl ?_)
    | (refine Col.mk rfl rfl rfl ?_) | (refine Coli.mk rfl rfl rfl rfl ?_))
    exact Ob.mk rfl
  · rintro i n hi he
    repeat' ((conv => whnf); first
    | (with_reducible refine onBool_intro (fun _ => ?_) (fun _ => ?_))
    | (with_reducible refine And.intro (Ob.mk (Nat.le_of_ble_eq_true rfl)) ?_)
    | (with_reducible refine And.intro (Ob.mk rfl) ?_)
    | (with_reducible exact ⟨rfl, rfl⟩)
    | (with_reducible refine And.intro (Ob.mk (fun h => h)) ?_)
    | (with_reducible refine Or.inl (And.intro (Ob.mk (Flat.map ?_)) ?_); exact fun _ => rfl)
    | (refine Or.inl (And.intro (Ob.mk (flat_of rfl)) ?_))
    | (refine Or.inl (And.intro (Ob.mk ⟨rfl, rfl, rfl, rfl⟩) ?_))
    | (refine Or.inl (And.intro (Ob.mk ⟨rfl, rfl, rfl⟩) ?_))
    | (refine And.intro (Ob.mk ⟨rfl, rfl⟩) ?_)
    | (with_reducible refine Or.inr ?_)
    | (refine And.intro (Ob.mk (flat_of rfl)) ?_)
    | (with_reducible refine And.intro (Ob.mk (Flat.map ?_)) ?_; exact fun _ => rfl)
    | (with_reducible exact Ob.mk (Flat.map fun _ => rfl))
    | (with_reducible refine And.intro ?_ ?_)
    | (with_reducible apply exG.mk) | (with_reducible apply exGS.mk) | (with_reducible exact Dd.nil) | (refine Dd.same _ ?_) | (refine Dd.dead _ ?_) | (with_reducible apply exQ.mk) | (with_reducible apply exP.mk) | (refine EqP.mk rfl rfl) | (with_reducible apply exW.mk) | (refine EqW.mk rfl)
    | (with_reducible intro _) | (with_reducible refine Dn.mk ?_)
    | (refine exS.full (by first | rfl | (simp; done) | (simp; omega)) ?_)
    | (refine And.intro (Ob.mk ⟨rfl, rfl, by first | rfl | (simp; done) | (simp; omega)⟩) ?_)
    | (with_reducible refine exE.mapD ?_) | (refine exL.int ?_)
    | (with_reducible refine Up0.mk rfl ?_) | (with_reducible refine Up0i.mk rfl ?_) | (with_reducible refine Up1.mk rfl ?_) | (with_reducible refine Up1i.mk rfl ?_) | (with_reducible refine Up2.mk rfl ?_) | (with_reducible refine Up2i.mk rfl ?_)
    | (refine Col.mk rfl rfl rfl ?_) | (refine Coli.mk rfl rfl rfl rfl ?_)
    | (refine drawVC.all _ _ (by kernel_rfl) ?_)
    | (refine PCalls.mono (within43 _ _ _) ?_; rintro _ rfl))
    all_goals (try (refine Ob.mk ?_; first | assumption | exact ⟨rfl, rfl⟩ | exact ⟨rfl, rfl, rfl⟩ | (refine ⟨rfl, rfl, ?_⟩; simp only [List.length_map, List.length_take, List.length_append, els_len, List.length_replicate]; omega) | (intro h; exact h) | (intro h; rw [h]; rfl) | (intro h; simp_all; done) | (refine bytes_le (n := 1048577) ?_ rfl; simp only [ltI_iff, ltI_not, leI_iff, leI_not, eqI_iff, eqI_not, List.length_map, bif_and, bif_or, Bool.and_eq_true, Bool.and_eq_false_iff, Bool.or_eq_true, Bool.or_eq_false_iff, Bool.not_eq_true', Bool.not_eq_false', Int.toNat_natCast, beq_iff_eq, beq_eq_false_iff_ne, decide_eq_true_eq, decide_eq_false_iff_not, bel_iff, bel_not, wthn_iff, wthn_not, els_len, mixL_len, Nat.zero_add, List.length_set, List.length_take] at *; omega) | (simp only [ltI_iff, ltI_not, leI_iff, leI_not, eqI_iff, eqI_not, List.length_map, bif_and, bif_or, Bool.and_eq_true, Bool.and_eq_false_iff, Bool.or_eq_true, Bool.or_eq_false_iff, Bool.not_eq_true', Bool.not_eq_false', Int.toNat_natCast, beq_iff_eq, beq_eq_false_iff_ne, decide_eq_true_eq, decide_eq_false_iff_not, bel_iff, bel_not, wthn_iff, wthn_not, els_len, mixL_len, Nat.zero_add, List.length_set, List.length_take, Int.ofNat_eq_natCast] at *; omega)))
    · rename_i h1 h2
      simp only [ltI_iff, ltI_not, leI_iff, leI_not, eqI_iff, eqI_not, List.length_map, bif_and, bif_or, Bool.and_eq_true, Bool.and_eq_false_iff, Bool.or_eq_true, Bool.or_eq_false_iff, Bool.not_eq_true', Bool.not_eq_false', Int.toNat_natCast, beq_iff_eq, beq_eq_false_iff_ne, decide_eq_true_eq, decide_eq_false_iff_not] at *
      have hc := codeSum_succ (show i < g.blocks.length by omega)
      have := codeSum_take g.blocks (i + 1)
      refine Ob.mk ⟨by omega, addI_i64 (by omega) (by omega), ?_⟩
      rw [addI_i64 (by omega) (by omega), hc, he]
      simp
    · rename_i h1
      have hge : g.blocks.length ≤ i := by simp only [ltI_iff, ltI_not, leI_iff, leI_not, eqI_iff, eqI_not, List.length_map, bif_and, bif_or, Bool.and_eq_true, Bool.and_eq_false_iff, Bool.or_eq_true, Bool.or_eq_false_iff, Bool.not_eq_true', Bool.not_eq_false', Int.toNat_natCast, beq_iff_eq, beq_eq_false_iff_ne, decide_eq_true_eq, decide_eq_false_iff_not] at *; omega
      rw [List.take_of_length_le hge] at he
      refine congrArg T.bool (?_ : _ = blocksN g)
      rw [Bool.eq_iff_iff]
      simp only [blocksN, bif_and, Bool.and_eq_true, leI_iff, wthn_iff, decide_eq_true_eq, List.length_map, he]
      omega

theorem whole20 (m : Module) : PCalls Try.prog 20 [m.t] (fun r => r = .bool (wholeN m)) := by
  refine PCalls.of_body ttOk Try.func20 rfl ?_
  repeat' ((conv => whnf); first
    | (with_reducible refine onBool_intro (fun _ => ?_) (fun _ => ?_))
    | (with_reducible refine And.intro (Ob.mk (Nat.le_of_ble_eq_true rfl)) ?_)
    | (with_reducible refine And.intro (Ob.mk rfl) ?_)
    | (with_reducible exact ⟨rfl, rfl⟩)
    | (with_reducible refine And.intro (Ob.mk (fun h => h)) ?_)
    | (with_reducible refine Or.inl (And.intro (Ob.mk (Flat.map ?_)) ?_); exact fun _ => rfl)
    | (refine Or.inl (And.intro (Ob.mk (flat_of rfl)) ?_))
    | (refine Or.inl (And.intro (Ob.mk ⟨rfl, rfl, rfl, rfl⟩) ?_))
    | (refine Or.inl (And.intro (Ob.mk ⟨rfl, rfl, rfl⟩) ?_))
    | (refine And.intro (Ob.mk ⟨rfl, rfl⟩) ?_)
    | (with_reducible refine Or.inr ?_)
    | (refine And.intro (Ob.mk (flat_of rfl)) ?_)
    | (with_reducible refine And.intro (Ob.mk (Flat.map ?_)) ?_; exact fun _ => rfl)
    | (with_reducible exact Ob.mk (Flat.map fun _ => rfl))
    | (with_reducible refine And.intro ?_ ?_)
    | (with_reducible apply exG.mk) | (with_reducible apply exGS.mk) | (with_reducible exact Dd.nil) | (refine Dd.same _ ?_) | (refine Dd.dead _ ?_) | (with_reducible apply exQ.mk) | (with_reducible apply exP.mk) | (refine EqP.mk rfl rfl) | (with_reducible apply exW.mk) | (refine EqW.mk rfl)
    | (with_reducible intro _) | (with_reducible refine Dn.mk ?_)
    | (refine exS.full (by first | rfl | (simp; done) | (simp; omega)) ?_)
    | (refine And.intro (Ob.mk ⟨rfl, rfl, by first | rfl | (simp; done) | (simp; omega)⟩) ?_)
    | (with_reducible refine exE.mapD ?_) | (refine exL.int ?_)
    | (with_reducible refine Up0.mk rfl ?_) | (with_reducible refine Up0i.mk rfl ?_) | (with_reducible refine Up1.mk rfl ?_) | (with_reducible refine Up1i.mk rfl ?_) | (with_reducible refine Up2.mk rfl ?_) | (with_reducible refine Up2i.mk rfl ?_)
    | (refine Col.mk rfl rfl rfl ?_) | (refine Coli.mk rfl rfl rfl rfl ?_)
    | (refine drawVC.all _ _ (by kernel_rfl) ?_)
    | (refine PCalls.mono (within43 _ _ _) ?_; rintro _ rfl)
    | (refine PCalls.mono (below38 _ _) ?_; rintro _ rfl)
    | (refine PCalls.mono (passed44 _) ?_; rintro _ rfl))
  all_goals (try (refine Ob.mk ?_; first | assumption | exact ⟨rfl, rfl⟩ | exact ⟨rfl, rfl, rfl⟩ | (refine ⟨rfl, rfl, ?_⟩; simp only [List.length_map, List.length_take, List.length_append, els_len, List.length_replicate]; omega) | (intro h; exact h) | (intro h; rw [h]; rfl) | (intro h; simp_all; done) | (refine bytes_le (n := 1048577) ?_ rfl; simp only [ltI_iff, ltI_not, leI_iff, leI_not, eqI_iff, eqI_not, List.length_map, bif_and, bif_or, Bool.and_eq_true, Bool.and_eq_false_iff, Bool.or_eq_true, Bool.or_eq_false_iff, Bool.not_eq_true', Bool.not_eq_false', Int.toNat_natCast, beq_iff_eq, beq_eq_false_iff_ne, decide_eq_true_eq, decide_eq_false_iff_not, bel_iff, bel_not, wthn_iff, wthn_not, els_len, mixL_len, Nat.zero_add, List.length_set, List.length_take] at *; omega) | (simp only [ltI_iff, ltI_not, leI_iff, leI_not, eqI_iff, eqI_not, List.length_map, bif_and, bif_or, Bool.and_eq_true, Bool.and_eq_false_iff, Bool.or_eq_true, Bool.or_eq_false_iff, Bool.not_eq_true', Bool.not_eq_false', Int.toNat_natCast, beq_iff_eq, beq_eq_false_iff_ne, decide_eq_true_eq, decide_eq_false_iff_not, bel_iff, bel_not, wthn_iff, wthn_not, els_len, mixL_len, Nat.zero_add, List.length_set, List.length_take, Int.ofNat_eq_natCast] at *; omega)))
  · rename_i h
    simp only [ltI_iff, ltI_not, leI_iff, leI_not, eqI_iff, eqI_not, List.length_map, bif_and, bif_or, Bool.and_eq_true, Bool.and_eq_false_iff, Bool.or_eq_true, Bool.or_eq_false_iff, Bool.not_eq_true', Bool.not_eq_false', Int.toNat_natCast, beq_iff_eq, beq_eq_false_iff_ne, decide_eq_true_eq, decide_eq_false_iff_not] at *
    simp only [bel_iff, bel_not, wthn_iff, wthn_not] at *
    refine congrArg T.bool (?_ : _ = wholeN m)
    rw [Eq.comm, Bool.eq_false_iff]
    simp only [wholeN, ne_eq, Bool.and_eq_true, decide_eq_true_eq, bel_iff]
    omega
  · conv => whnf
    rename_i h _
    simp only [ltI_iff, ltI_not, leI_iff, leI_not, eqI_iff, eqI_not, List.length_map, bif_and, bif_or, Bool.and_eq_true, Bool.and_eq_false_iff, Bool.or_eq_true, Bool.or_eq_false_iff, Bool.not_eq_true', Bool.not_eq_false', Int.toNat_natCast, beq_iff_eq, beq_eq_false_iff_ne, decide_eq_true_eq, decide_eq_false_iff_not] at *
    simp only [bel_iff, bel_not, wthn_iff, wthn_not] at h
    have hmain : m.main.toNat < m.funcs.length := by omega
    refine LoopVC.up1 36 3 m.arrays.length (fun i n => n = (m.arrays.take i).sum ∧ 0 ≤ n ∧ n ≤ 1000 * i ∧ (m.arrays.take i).all (wthn · 1 1000) = true) ?_ ?_
    · repeat' ((conv => whnf); first
    | (with_reducible refine onBool_intro (fun _ => ?_) (fun _ => ?_))
    | (with_reducible refine And.intro (Ob.mk (Nat.le_of_ble_eq_true rfl)) ?_)
    | (with_reducible refine And.intro (Ob.mk rfl) ?_)
    | (with_reducible exact ⟨rfl, rfl⟩)
    | (with_reducible refine And.intro (Ob.mk (fun h => h)) ?_)
    | (with_reducible refine Or.inl (And.intro (Ob.mk (Flat.map ?_)) ?_); exact fun _ => rfl)
    | (refine Or.inl (And.intro (Ob.mk (flat_of rfl)) ?_))
    | (refine Or.inl (And.intro (Ob.mk ⟨rfl, rfl, rfl, rfl⟩) ?_))
    | (refine Or.inl (And.intro (Ob.mk ⟨rfl, rfl, rfl⟩) ?_))
    | (refine And.intro (Ob.mk ⟨rfl, rfl⟩) ?_)
    | (with_reducible refine Or.inr ?_)
    | (refine And.intro (Ob.mk (flat_of rfl)) ?_)
    | (with_reducible refine And.intro (Ob.mk (Flat.map ?_)) ?_; exact fun _ => rfl)
    | (with_reducible exact Ob.mk (Flat.map fun _ => rfl))
    | (with_reducible refine And.intro ?_ ?_)
    | (with_reducible apply exG.mk) | (with_reducible apply exGS.mk) | (with_reducible exact Dd.nil) | (refine Dd.same _ ?_) | (refine Dd.dead _ ?_) | (with_reducible apply exQ.mk) | (with_reducible apply exP.mk) | (refine EqP.mk rfl rfl) | (with_reducible apply exW.mk) | (refine EqW.mk rfl)
    | (with_reducible intro _) | (with_reducible refine Dn.mk ?_)
    | (refine exS.full (by first | rfl | (simp; done) | (simp; omega)) ?_)
    | (refine And.intro (Ob.mk ⟨rfl, rfl, by first | rfl | (simp; done) | (simp; omega)⟩) ?_)
    | (with_reducible refine exE.mapD ?_) | (refine exL.int ?_)
    | (with_reducible refine Up0.mk rfl ?_) | (with_reducible refine Up0i.mk rfl ?_) | (with_reducible refine Up1.mk rfl ?_) | (with_reducible refine Up1i.mk rfl ?_) | (with_reducible refine Up2.mk rfl ?_) | (with_reducible refine Up2i.mk rfl ?_)
    | (refine Col.mk rfl rfl rfl ?_) | (refine Coli.mk rfl rfl rfl rfl ?_))
      exact Ob.mk ⟨rfl, by omega, by omega, rfl⟩
    · rintro i n hi ⟨he, h0, hn, ha⟩
      repeat' ((conv => whnf); first
    | (with_reducible refine onBool_intro (fun _ => ?_) (fun _ => ?_))
    | (with_reducible refine And.intro (Ob.mk (Nat.le_of_ble_eq_true rfl)) ?_)
    | (with_reducible refine And.intro (Ob.mk rfl) ?_)
    | (with_reducible exact ⟨rfl, rfl⟩)
    | (with_reducible refine And.intro (Ob.mk (fun h => h)) ?_)
    | (with_reducible refine Or.inl (And.intro (Ob.mk (Flat.map ?_)) ?_); exact fun _ => rfl)
    | (refine Or.inl (And.intro (Ob.mk (flat_of rfl)) ?_))
    | (refine Or.inl (And.intro (Ob.mk ⟨rfl, rfl, rfl, rfl⟩) ?_))
    | (refine Or.inl (And.intro (Ob.mk ⟨rfl, rfl, rfl⟩) ?_))
    | (refine And.intro (Ob.mk ⟨rfl, rfl⟩) ?_)
    | (with_reducible refine Or.inr ?_)
    | (refine And.intro (Ob.mk (flat_of rfl)) ?_)
    | (with_reducible refine And.intro (Ob.mk (Flat.map ?_)) ?_; exact fun _ => rfl)
    | (with_reducible exact Ob.mk (Flat.map fun _ => rfl))
    | (with_reducible refine And.intro ?_ ?_)
    | (with_reducible apply exG.mk) | (with_reducible apply exGS.mk) | (with_reducible exact Dd.nil) | (refine Dd.same _ ?_) | (refine Dd.dead _ ?_) | (with_reducible apply exQ.mk) | (with_reducible apply exP.mk) | (refine EqP.mk rfl rfl) | (with_reducible apply exW.mk) | (refine EqW.mk rfl)
    | (with_reducible intro _) | (with_reducible refine Dn.mk ?_)
    | (refine exS.full (by first | rfl | (simp; done) | (simp; omega)) ?_)
    | (refine And.intro (Ob.mk ⟨rfl, rfl, by first | rfl | (simp; done) | (simp; omega)⟩) ?_)
    | (with_reducible refine exE.mapD ?_) | (refine exL.int ?_)
    | (with_reducible refine Up0.mk rfl ?_) | (with_reducible refine Up0i.mk rfl ?_) | (with_reducible refine Up1.mk rfl ?_) | (with_reducible refine Up1i.mk rfl ?_) | (with_reducible refine Up2.mk rfl ?_) | (with_reducible refine Up2i.mk rfl ?_)
    | (refine Col.mk rfl rfl rfl ?_) | (refine Coli.mk rfl rfl rfl rfl ?_)
    | (refine drawVC.all _ _ (by kernel_rfl) ?_)
    | (refine PCalls.mono (within43 _ _ _) ?_; rintro _ rfl)
    | (refine PCalls.mono (below38 _ _) ?_; rintro _ rfl)
    | (refine PCalls.mono (passed44 _) ?_; rintro _ rfl))
      all_goals (try (refine Ob.mk ?_; first | assumption | exact ⟨rfl, rfl⟩ | exact ⟨rfl, rfl, rfl⟩ | (refine ⟨rfl, rfl, ?_⟩; simp only [List.length_map, List.length_take, List.length_append, els_len, List.length_replicate]; omega) | (intro h; exact h) | (intro h; rw [h]; rfl) | (intro h; simp_all; done) | (refine bytes_le (n := 1048577) ?_ rfl; simp only [ltI_iff, ltI_not, leI_iff, leI_not, eqI_iff, eqI_not, List.length_map, bif_and, bif_or, Bool.and_eq_true, Bool.and_eq_false_iff, Bool.or_eq_true, Bool.or_eq_false_iff, Bool.not_eq_true', Bool.not_eq_false', Int.toNat_natCast, beq_iff_eq, beq_eq_false_iff_ne, decide_eq_true_eq, decide_eq_false_iff_not, bel_iff, bel_not, wthn_iff, wthn_not, els_len, mixL_len, Nat.zero_add, List.length_set, List.length_take] at *; omega) | (simp only [ltI_iff, ltI_not, leI_iff, leI_not, eqI_iff, eqI_not, List.length_map, bif_and, bif_or, Bool.and_eq_true, Bool.and_eq_false_iff, Bool.or_eq_true, Bool.or_eq_false_iff, Bool.not_eq_true', Bool.not_eq_false', Int.toNat_natCast, beq_iff_eq, beq_eq_false_iff_ne, decide_eq_true_eq, decide_eq_false_iff_not, bel_iff, bel_not, wthn_iff, wthn_not, els_len, mixL_len, Nat.zero_add, List.length_set, List.length_take, Int.ofNat_eq_natCast] at *; omega)))
      · rename_i h1 h2
        simp only [ltI_iff, ltI_not, leI_iff, leI_not, eqI_iff, eqI_not, List.length_map, bif_and, bif_or, Bool.and_eq_true, Bool.and_eq_false_iff, Bool.or_eq_true, Bool.or_eq_false_iff, Bool.not_eq_true', Bool.not_eq_false', Int.toNat_natCast, beq_iff_eq, beq_eq_false_iff_ne, decide_eq_true_eq, decide_eq_false_iff_not] at *
        exact congrArg T.bool (by simp [wholeN, all_false_at (wthn · 1 1000) (show i < m.arrays.length by omega) h2])
      · rename_i h1 h2
        simp only [ltI_iff, ltI_not, leI_iff, leI_not, eqI_iff, eqI_not, List.length_map, bif_and, bif_or, Bool.and_eq_true, Bool.and_eq_false_iff, Bool.or_eq_true, Bool.or_eq_false_iff, Bool.not_eq_true', Bool.not_eq_false', Int.toNat_natCast, beq_iff_eq, beq_eq_false_iff_ne, decide_eq_true_eq, decide_eq_false_iff_not] at *
        have hb := wthn_iff.1 h2
        refine Ob.mk ⟨by omega, addI_i64 (by omega) (by omega), ?_⟩
        rw [addI_i64 (by omega) (by omega), sum_succ (by omega), he]
        exact ⟨rfl, by omega, by push_cast; omega, by rw [all_take_succ _ (by omega), ha, h2]; rfl⟩
      · rename_i h1
        rw [List.take_of_length_le (by simp only [ltI_iff, ltI_not, leI_iff, leI_not, eqI_iff, eqI_not, List.length_map, bif_and, bif_or, Bool.and_eq_true, Bool.and_eq_false_iff, Bool.or_eq_true, Bool.or_eq_false_iff, Bool.not_eq_true', Bool.not_eq_false', Int.toNat_natCast, beq_iff_eq, beq_eq_false_iff_ne, decide_eq_true_eq, decide_eq_false_iff_not] at *; omega)] at he ha
        show T.bool _ = T.bool _
        obtain ⟨⟨⟨⟨h2, h3⟩, h4, h4'⟩, h5⟩, h6⟩ := h
        rw [T.bool.injEq, Bool.eq_iff_iff]
        have hm : bel m.main m.funcs.length = true := bel_iff.2 ⟨h4, h4'⟩
        simp only [wholeN, bif_and, Bool.and_eq_true, leI_iff, eqI_iff, decide_eq_true_eq, List.length_map, ha, hm, true_and, and_true]
        omega

theorem isTest52 (op : Int) : PCalls Try.prog 52 [.int .i64 op] (fun r => r = .bool (((((eqI op 19 || eqI op 20) || eqI op 21) || eqI op 22) || eqI op 23) || eqI op 24)) := by
  refine PCalls.of_body ttOk Try.func52 rfl ?_
  repeat' ((conv => whnf); first
    | (with_reducible refine onBool_intro (fun _ => ?_) (fun _ => ?_))
    | (with_reducible refine And.intro (Ob.mk (Nat.le_of_ble_eq_true rfl)) ?_)
    | (with_reducible refine And.intro (Ob.mk rfl) ?_)
    | (with_reducible exact ⟨rfl, rfl⟩)
    | (with_reducible refine And.intro (Ob.mk (fun h => h)) ?_)
    | (with_reducible refine Or.inl (And.intro (Ob.mk (Flat.map ?_)) ?_); exact fun _ => rfl)
    | (refine Or.inl (And.intro (Ob.mk (flat_of rfl)) ?_))
    | (refine Or.inl (And.intro (Ob.mk ⟨rfl, rfl, rfl, rfl⟩) ?_))
    | (refine Or.inl (And.intro (Ob.mk ⟨rfl, rfl, rfl⟩) ?_))
    | (refine And.intro (Ob.mk ⟨rfl, rfl⟩) ?_)
    | (with_reducible refine Or.inr ?_)
    | (refine And.intro (Ob.mk (flat_of rfl)) ?_)
    | (with_reducible refine And.intro (Ob.mk (Flat.map ?_)) ?_; exact fun _ => rfl)
    | (with_reducible exact Ob.mk (Flat.map fun _ => rfl))
    | (with_reducible refine And.intro ?_ ?_)
    | (with_reducible apply exG.mk) | (with_reducible apply exGS.mk) | (with_reducible exact Dd.nil) | (refine Dd.same _ ?_) | (refine Dd.dead _ ?_) | (with_reducible apply exQ.mk) | (with_reducible apply exP.mk) | (refine EqP.mk rfl rfl) | (with_reducible apply exW.mk) | (refine EqW.mk rfl)
    | (with_reducible intro _) | (with_reducible refine Dn.mk ?_)
    | (refine exS.full (by first | rfl | (simp; done) | (simp; omega)) ?_)
    | (refine And.intro (Ob.mk ⟨rfl, rfl, by first | rfl | (simp; done) | (simp; omega)⟩) ?_)
    | (with_reducible refine exE.mapD ?_) | (refine exL.int ?_)
    | (with_reducible refine Up0.mk rfl ?_) | (with_reducible refine Up0i.mk rfl ?_) | (with_reducible refine Up1.mk rfl ?_) | (with_reducible refine Up1i.mk rfl ?_) | (with_reducible refine Up2.mk rfl ?_) | (with_reducible refine Up2i.mk rfl ?_)
    | (refine Col.mk rfl rfl rfl ?_) | (refine Coli.mk rfl rfl rfl rfl ?_)
    | (refine drawVC.all _ _ (by kernel_rfl) ?_)
    | (refine PCalls.mono (contains72 [_, _, _, _, _, _] _) ?_; rintro _ rfl))
  all_goals (try (refine Ob.mk ?_; first | assumption | exact ⟨rfl, rfl⟩ | exact ⟨rfl, rfl, rfl⟩ | (refine ⟨rfl, rfl, ?_⟩; simp only [List.length_map, List.length_take, List.length_append, els_len, List.length_replicate]; omega) | (intro h; exact h) | (intro h; rw [h]; rfl) | (intro h; simp_all; done) | (refine bytes_le (n := 1048577) ?_ rfl; simp only [ltI_iff, ltI_not, leI_iff, leI_not, eqI_iff, eqI_not, List.length_map, bif_and, bif_or, Bool.and_eq_true, Bool.and_eq_false_iff, Bool.or_eq_true, Bool.or_eq_false_iff, Bool.not_eq_true', Bool.not_eq_false', Int.toNat_natCast, beq_iff_eq, beq_eq_false_iff_ne, decide_eq_true_eq, decide_eq_false_iff_not, bel_iff, bel_not, wthn_iff, wthn_not, els_len, mixL_len, Nat.zero_add, List.length_set, List.length_take] at *; omega) | (simp only [ltI_iff, ltI_not, leI_iff, leI_not, eqI_iff, eqI_not, List.length_map, bif_and, bif_or, Bool.and_eq_true, Bool.and_eq_false_iff, Bool.or_eq_true, Bool.or_eq_false_iff, Bool.not_eq_true', Bool.not_eq_false', Int.toNat_natCast, beq_iff_eq, beq_eq_false_iff_ne, decide_eq_true_eq, decide_eq_false_iff_not, bel_iff, bel_not, wthn_iff, wthn_not, els_len, mixL_len, Nat.zero_add, List.length_set, List.length_take, Int.ofNat_eq_natCast] at *; omega)))
  all_goals
    refine congrArg T.bool ?_
    simp [Bool.or_assoc]

theorem arrays22 (m : Module) (g : Graph) : PCalls Try.prog 22 [m.t, g.t] (fun r => r = .bool (arraysN m g)) := by
  refine PCalls.of_body ttOk Try.func22 rfl ?_
  repeat' ((conv => whnf); first
    | (with_reducible refine onBool_intro (fun _ => ?_) (fun _ => ?_))
    | (with_reducible refine And.intro (Ob.mk (Nat.le_of_ble_eq_true rfl)) ?_)
    | (with_reducible refine And.intro (Ob.mk rfl) ?_)
    | (with_reducible exact ⟨rfl, rfl⟩)
    | (with_reducible refine And.intro (Ob.mk (fun h => h)) ?_)
    | (with_reducible refine Or.inl (And.intro (Ob.mk (Flat.map ?_)) ?_); exact fun _ => rfl)
    | (refine Or.inl (And.intro (Ob.mk (flat_of rfl)) ?_))
    | (refine Or.inl (And.intro (Ob.mk ⟨rfl, rfl, rfl, rfl⟩) ?_))
    | (refine Or.inl (And.intro (Ob.mk ⟨rfl, rfl, rfl⟩) ?_))
    | (refine And.intro (Ob.mk ⟨rfl, rfl⟩) ?_)
    | (with_reducible refine Or.inr ?_)
    | (refine And.intro (Ob.mk (flat_of rfl)) ?_)
    | (with_reducible refine And.intro (Ob.mk (Flat.map ?_)) ?_; exact fun _ => rfl)
    | (with_reducible exact Ob.mk (Flat.map fun _ => rfl))
    | (with_reducible refine And.intro ?_ ?_)
    | (with_reducible apply exG.mk) | (with_reducible apply exGS.mk) | (with_reducible exact Dd.nil) | (refine Dd.same _ ?_) | (refine Dd.dead _ ?_) | (with_reducible apply exQ.mk) | (with_reducible apply exP.mk) | (refine EqP.mk rfl rfl) | (with_reducible apply exW.mk) | (refine EqW.mk rfl)
    | (with_reducible intro _) | (with_reducible refine Dn.mk ?_)
    | (refine exS.full (by first | rfl | (simp; done) | (simp; omega)) ?_)
    | (refine And.intro (Ob.mk ⟨rfl, rfl, by first | rfl | (simp; done) | (simp; omega)⟩) ?_)
    | (with_reducible refine exE.mapD ?_) | (refine exL.int ?_)
    | (with_reducible refine Up0.mk rfl ?_) | (with_reducible refine Up0i.mk rfl ?_) | (with_reducible refine Up1.mk rfl ?_) | (with_reducible refine Up1i.mk rfl ?_) | (with_reducible refine Up2.mk rfl ?_) | (with_reducible refine Up2i.mk rfl ?_)
    | (refine Col.mk rfl rfl rfl ?_) | (refine Coli.mk rfl rfl rfl rfl ?_)
    | (refine PCalls.mono (passed44 _) ?_; rintro _ rfl))
  all_goals (try (refine Ob.mk ?_; first | assumption | exact ⟨rfl, rfl⟩ | exact ⟨rfl, rfl, rfl⟩ | (refine ⟨rfl, rfl, ?_⟩; simp only [List.length_map, List.length_take, List.length_append, els_len, List.length_replicate]; omega) | (intro h; exact h) | (intro h; rw [h]; rfl) | (intro h; simp_all; done) | (refine bytes_le (n := 1048577) ?_ rfl; simp only [ltI_iff, ltI_not, leI_iff, leI_not, eqI_iff, eqI_not, List.length_map, bif_and, bif_or, Bool.and_eq_true, Bool.and_eq_false_iff, Bool.or_eq_true, Bool.or_eq_false_iff, Bool.not_eq_true', Bool.not_eq_false', Int.toNat_natCast, beq_iff_eq, beq_eq_false_iff_ne, decide_eq_true_eq, decide_eq_false_iff_not, bel_iff, bel_not, wthn_iff, wthn_not, els_len, mixL_len, Nat.zero_add, List.length_set, List.length_take] at *; omega) | (simp only [ltI_iff, ltI_not, leI_iff, leI_not, eqI_iff, eqI_not, List.length_map, bif_and, bif_or, Bool.and_eq_true, Bool.and_eq_false_iff, Bool.or_eq_true, Bool.or_eq_false_iff, Bool.not_eq_true', Bool.not_eq_false', Int.toNat_natCast, beq_iff_eq, beq_eq_false_iff_ne, decide_eq_true_eq, decide_eq_false_iff_not, bel_iff, bel_not, wthn_iff, wthn_not, els_len, mixL_len, Nat.zero_add, List.length_set, List.length_take, Int.ofNat_eq_natCast] at *; omega)))
  · rename_i h
    simp only [ltI_iff, ltI_not, leI_iff, leI_not, eqI_iff, eqI_not, List.length_map, bif_and, bif_or, Bool.and_eq_true, Bool.and_eq_false_iff, Bool.or_eq_true, Bool.or_eq_false_iff, Bool.not_eq_true', Bool.not_eq_false', Int.toNat_natCast, beq_iff_eq, beq_eq_false_iff_ne, decide_eq_true_eq, decide_eq_false_iff_not] at *
    refine congrArg T.bool (?_ : _ = arraysN m g)
    rw [Eq.comm, Bool.eq_false_iff]
    simp only [arraysN, ne_eq, Bool.and_eq_true, decide_eq_true_eq]
    omega
  · conv => whnf
    rename_i h _
    simp only [ltI_iff, ltI_not, leI_iff, leI_not, eqI_iff, eqI_not, List.length_map, bif_and, bif_or, Bool.and_eq_true, Bool.and_eq_false_iff, Bool.or_eq_true, Bool.or_eq_false_iff, Bool.not_eq_true', Bool.not_eq_false', Int.toNat_natCast, beq_iff_eq, beq_eq_false_iff_ne, decide_eq_true_eq, decide_eq_false_iff_not] at *
    refine LoopVC.up1 21 5 g.arrays.length (fun i n => n = locals (g.arrays.take i) ∧ 0 ≤ n ∧ n ≤ 1000 * i ∧ (g.arrays.take i).all (arrOk m) = true) ?_ ?_
    · repeat' ((conv => whnf); first
    | (with_reducible refine onBool_intro (fun _ => ?_) (fun _ => ?_))
    | (with_reducible refine And.intro (Ob.mk (Nat.le_of_ble_eq_true rfl)) ?_)
    | (with_reducible refine And.intro (Ob.mk rfl) ?_)
    | (with_reducible exact ⟨rfl, rfl⟩)
    | (with_reducible refine And.intro (Ob.mk (fun h => h)) ?_)
    | (with_reducible refine Or.inl (And.intro (Ob.mk (Flat.map ?_)) ?_); exact fun _ => rfl)
    | (refine Or.inl (And.intro (Ob.mk (flat_of rfl)) ?_))
    | (refine Or.inl (And.intro (Ob.mk ⟨rfl, rfl, rfl, rfl⟩) ?_))
    | (refine Or.inl (And.intro (Ob.mk ⟨rfl, rfl, rfl⟩) ?_))
    | (refine And.intro (Ob.mk ⟨rfl, rfl⟩) ?_)
    | (with_reducible refine Or.inr ?_)
    | (refine And.intro (Ob.mk (flat_of rfl)) ?_)
    | (with_reducible refine And.intro (Ob.mk (Flat.map ?_)) ?_; exact fun _ => rfl)
    | (with_reducible exact Ob.mk (Flat.map fun _ => rfl))
    | (with_reducible refine And.intro ?_ ?_)
    | (with_reducible apply exG.mk) | (with_reducible apply exGS.mk) | (with_reducible exact Dd.nil) | (refine Dd.same _ ?_) | (refine Dd.dead _ ?_) | (with_reducible apply exQ.mk) | (with_reducible apply exP.mk) | (refine EqP.mk rfl rfl) | (with_reducible apply exW.mk) | (refine EqW.mk rfl)
    | (with_reducible intro _) | (with_reducible refine Dn.mk ?_)
    | (refine exS.full (by first | rfl | (simp; done) | (simp; omega)) ?_)
    | (refine And.intro (Ob.mk ⟨rfl, rfl, by first | rfl | (simp; done) | (simp; omega)⟩) ?_)
    | (with_reducible refine exE.mapD ?_) | (refine exL.int ?_)
    | (with_reducible refine Up0.mk rfl ?_) | (with_reducible refine Up0i.mk rfl ?_) | (with_reducible refine Up1.mk rfl ?_) | (with_reducible refine Up1i.mk rfl ?_) | (with_reducible refine Up2.mk rfl ?_) | (with_reducible refine Up2i.mk rfl ?_)
    | (refine Col.mk rfl rfl rfl ?_) | (refine Coli.mk rfl rfl rfl rfl ?_))
      exact Ob.mk ⟨rfl, by omega, by omega, rfl⟩
    · rintro i n hi ⟨he, h0, hn, ha⟩
      repeat' ((conv => whnf); first
    | (with_reducible refine onBool_intro (fun _ => ?_) (fun _ => ?_))
    | (with_reducible refine And.intro (Ob.mk (Nat.le_of_ble_eq_true rfl)) ?_)
    | (with_reducible refine And.intro (Ob.mk rfl) ?_)
    | (with_reducible exact ⟨rfl, rfl⟩)
    | (with_reducible refine And.intro (Ob.mk (fun h => h)) ?_)
    | (with_reducible refine Or.inl (And.intro (Ob.mk (Flat.map ?_)) ?_); exact fun _ => rfl)
    | (refine Or.inl (And.intro (Ob.mk (flat_of rfl)) ?_))
    | (refine Or.inl (And.intro (Ob.mk ⟨rfl, rfl, rfl, rfl⟩) ?_))
    | (refine Or.inl (And.intro (Ob.mk ⟨rfl, rfl, rfl⟩) ?_))
    | (refine And.intro (Ob.mk ⟨rfl, rfl⟩) ?_)
    | (with_reducible refine Or.inr ?_)
    | (refine And.intro (Ob.mk (flat_of rfl)) ?_)
    | (with_reducible refine And.intro (Ob.mk (Flat.map ?_)) ?_; exact fun _ => rfl)
    | (with_reducible exact Ob.mk (Flat.map fun _ => rfl))
    | (with_reducible refine And.intro ?_ ?_)
    | (with_reducible apply exG.mk) | (with_reducible apply exGS.mk) | (with_reducible exact Dd.nil) | (refine Dd.same _ ?_) | (refine Dd.dead _ ?_) | (with_reducible apply exQ.mk) | (with_reducible apply exP.mk) | (refine EqP.mk rfl rfl) | (with_reducible apply exW.mk) | (refine EqW.mk rfl)
    | (with_reducible intro _) | (with_reducible refine Dn.mk ?_)
    | (refine exS.full (by first | rfl | (simp; done) | (simp; omega)) ?_)
    | (refine And.intro (Ob.mk ⟨rfl, rfl, by first | rfl | (simp; done) | (simp; omega)⟩) ?_)
    | (with_reducible refine exE.mapD ?_) | (refine exL.int ?_)
    | (with_reducible refine Up0.mk rfl ?_) | (with_reducible refine Up0i.mk rfl ?_) | (with_reducible refine Up1.mk rfl ?_) | (with_reducible refine Up1i.mk rfl ?_) | (with_reducible refine Up2.mk rfl ?_) | (with_reducible refine Up2i.mk rfl ?_)
    | (refine Col.mk rfl rfl rfl ?_) | (refine Coli.mk rfl rfl rfl rfl ?_)
    | (refine drawVC.all _ _ (by kernel_rfl) ?_)
    | (refine PCalls.mono (within43 _ _ _) ?_; rintro _ rfl)
    | (refine PCalls.mono (below38 _ _) ?_; rintro _ rfl)
    | (refine PCalls.mono (passed44 _) ?_; rintro _ rfl))
      all_goals (try (refine Ob.mk ?_; first | assumption | exact ⟨rfl, rfl⟩ | exact ⟨rfl, rfl, rfl⟩ | (refine ⟨rfl, rfl, ?_⟩; simp only [List.length_map, List.length_take, List.length_append, els_len, List.length_replicate]; omega) | (intro h; exact h) | (intro h; rw [h]; rfl) | (intro h; simp_all; done) | (refine bytes_le (n := 1048577) ?_ rfl; simp only [ltI_iff, ltI_not, leI_iff, leI_not, eqI_iff, eqI_not, List.length_map, bif_and, bif_or, Bool.and_eq_true, Bool.and_eq_false_iff, Bool.or_eq_true, Bool.or_eq_false_iff, Bool.not_eq_true', Bool.not_eq_false', Int.toNat_natCast, beq_iff_eq, beq_eq_false_iff_ne, decide_eq_true_eq, decide_eq_false_iff_not, bel_iff, bel_not, wthn_iff, wthn_not, els_len, mixL_len, Nat.zero_add, List.length_set, List.length_take] at *; omega) | (simp only [ltI_iff, ltI_not, leI_iff, leI_not, eqI_iff, eqI_not, List.length_map, bif_and, bif_or, Bool.and_eq_true, Bool.and_eq_false_iff, Bool.or_eq_true, Bool.or_eq_false_iff, Bool.not_eq_true', Bool.not_eq_false', Int.toNat_natCast, beq_iff_eq, beq_eq_false_iff_ne, decide_eq_true_eq, decide_eq_false_iff_not, bel_iff, bel_not, wthn_iff, wthn_not, els_len, mixL_len, Nat.zero_add, List.length_set, List.length_take, Int.ofNat_eq_natCast] at *; omega)))
      all_goals
        simp only [ltI_iff, ltI_not, leI_iff, leI_not, eqI_iff, eqI_not, List.length_map, bif_and, bif_or, Bool.and_eq_true, Bool.and_eq_false_iff, Bool.or_eq_true, Bool.or_eq_false_iff, Bool.not_eq_true', Bool.not_eq_false', Int.toNat_natCast, beq_iff_eq, beq_eq_false_iff_ne, decide_eq_true_eq, decide_eq_false_iff_not] at *
        (try simp only [bel_iff, bel_not, wthn_iff, wthn_not] at *)
      all_goals
        first
        | (exfalso; omega)
        | (have hge : g.arrays.length ≤ i := by omega
           rw [List.take_of_length_le hge] at he ha
           refine congrArg T.bool (?_ : _ = arraysN m g)
           rw [Bool.eq_iff_iff, he]
           simp only [arraysN, ha, leI_iff, Bool.and_eq_true, decide_eq_true_eq, true_and, and_true]
           omega)
        | (have hb : arrOk m (nthD g.arrays i) = false := by
             rw [Bool.eq_false_iff]
             simp only [arrOk, ne_eq, Bool.or_eq_true, Bool.and_eq_true, decide_eq_true_eq, bel_iff, wthn_iff]
             omega
           exact congrArg T.bool (by simp [arraysN, all_false_at (arrOk m) (show i < g.arrays.length by omega) hb]))
        | (have hb : arrOk m (nthD g.arrays i) = true := by
             simp only [arrOk, Bool.or_eq_true, Bool.and_eq_true, decide_eq_true_eq, bel_iff, wthn_iff]
             omega
           have hl := locals_succ (show i < g.arrays.length by omega)
           first
           | (rw [if_pos (by omega)] at hl
              refine Ob.mk ⟨by omega, addI_i64 (by omega) (by omega), ?_⟩
              rw [addI_i64 (by omega) (by omega)]
              exact ⟨by rw [hl, he], by omega, by push_cast; omega, by rw [all_take_succ _ (by omega), ha, hb]; rfl⟩)
           | (rw [if_neg (by omega)] at hl
              exact Ob.mk ⟨by omega, addI_i64 (by omega) (by omega), by rw [hl, he]; omega, by omega, by push_cast; omega, by rw [all_take_succ _ (by omega), ha, hb]; rfl⟩))
end Go.Proofs.Ytihebfhhnoneiaa.Am
