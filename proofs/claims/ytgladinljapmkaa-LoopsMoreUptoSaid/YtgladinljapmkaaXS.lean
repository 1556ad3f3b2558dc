/- Loops: the law's own answers; LoopsTells. -/
import Derived.Test.YtgladinljapmkaaXQ
import Derived.Test.YtgladinljapmkaaXR
import Derived.Test.YtgladinljapmkaaXP
/- Loops: the law's small functions. -/
namespace Go.Proofs.Ytgladinljapmkaa.Am
open Go Go.Proofs
set_option maxRecDepth 10000
set_option maxHeartbeats 2000000
set_option linter.unusedVariables false
set_option linter.unusedSimpArgs false
theorem take_succD {α : Type} [Inhabited α] {l : List α} {i : Nat} (h : i < l.length) : l.take (i + 1) = l.take i ++ [nthD l i] := by
  rw [List.take_add_one, List.getElem?_eq_getElem h, nthD_get h]; rfl
theorem same15 (a b : List Int) : PCalls Try.prog 15 [ilist a, ilist b] (fun r => r = .bool (a == b)) := by
  refine PCalls.of_body ttOk Try.func15 rfl ?_
  repeat' ((conv => whnf); first | (with_reducible first | refine onBool_intro (fun _ => ?_) (fun _ => ?_) | refine And.intro (Ob.mk (Nat.le_of_ble_eq_true rfl)) ?_ | refine And.intro (Ob.mk rfl) ?_ | exact ⟨rfl, rfl⟩ | refine And.intro (Ob.mk (fun h => h)) ?_) | (with_reducible refine Or.inl (And.intro (Ob.mk (Flat.map ?_)) ?_); exact fun _ => rfl) | (refine Or.inl (And.intro (Ob.mk (flat_of rfl)) ?_)) | (refine Or.inl (And.intro (Ob.mk ⟨rfl, rfl, rfl, rfl⟩) ?_)) | (refine Or.inl (And.intro (Ob.mk ⟨rfl, rfl, rfl⟩) ?_)) | (refine And.intro (Ob.mk ⟨rfl, rfl⟩) ?_) | (with_reducible refine Or.inr ?_) | (refine And.intro (Ob.mk (flat_of rfl)) ?_) | (with_reducible refine And.intro (Ob.mk (Flat.map ?_)) ?_; exact fun _ => rfl) | (with_reducible first | exact Ob.mk (Flat.map fun _ => rfl) | refine And.intro ?_ ?_ | apply exG.mk | apply exGS.mk | exact Dd.nil) | (refine Dd.same _ ?_) | (refine Dd.dead _ ?_) | (with_reducible first | apply exQ.mk | apply exP.mk) | (refine EqP.mk rfl rfl) | (with_reducible apply exW.mk) | (refine EqW.mk rfl) | (with_reducible first | intro _ | refine Dn.mk ?_) | (refine exS.full (by first | rfl | (simp; done) | (simp; omega)) ?_) | (refine And.intro (Ob.mk ⟨rfl, rfl, by first | rfl | (simp; done) | (simp; omega)⟩) ?_) | (with_reducible refine exE.mapD ?_) | (refine exL.int ?_) | (with_reducible first | refine Up0.mk rfl ?_ | refine Up0i.mk rfl ?_ | refine Up1.mk rfl ?_ | refine Up1i.mk rfl ?_ | refine Up2.mk rfl ?_ | refine Up2i.mk rfl ?_) | (refine Col.mk rfl rfl rfl ?_) | (refine Coli.mk rfl rfl rfl rfl ?_))
  all_goals (try (refine Ob.mk ?_; first | assumption | exact ⟨rfl, rfl⟩ | exact ⟨rfl, rfl, rfl⟩ | (refine ⟨rfl, rfl, ?_⟩; simp only [List.length_map, List.length_take, List.length_append, els_len, List.length_replicate]; omega) | (intro h; exact h) | (intro h; rw [h]; rfl) | (intro h; simp_all; done) | (refine bytes_le (n := 1048577) ?_ rfl; simp only [ltI_iff, ltI_not, leI_iff, leI_not, eqI_iff, eqI_not, List.length_map, bif_and, bif_or, Bool.and_eq_true, Bool.and_eq_false_iff, Bool.or_eq_true, Bool.or_eq_false_iff, Bool.not_eq_true', Bool.not_eq_false', Int.toNat_natCast, beq_iff_eq, beq_eq_false_iff_ne, decide_eq_true_eq, decide_eq_false_iff_not, bel_iff, bel_not, wthn_iff, wthn_not, els_len, mixL_len, Nat.zero_add, List.length_set, List.length_take] at *; omega) | (simp only [ltI_iff, ltI_not, leI_iff, leI_not, eqI_iff, eqI_not, List.length_map, bif_and, bif_or, Bool.and_eq_true, Bool.and_eq_false_iff, Bool.or_eq_true, Bool.or_eq_false_iff, Bool.not_eq_true', Bool.not_eq_false', Int.toNat_natCast, beq_iff_eq, beq_eq_false_iff_ne, decide_eq_true_eq, decide_eq_false_iff_not, bel_iff, bel_not, wthn_iff, wthn_not, els_len, mixL_len, Nat.zero_add, List.length_set, List.length_take, Int.ofNat_eq_natCast] at *; omega)))
  · rename_i h
    show T.bool false = T.bool (a == b)
    congr 1
    symm
    rw [beq_eq_false_iff_ne]
    rintro rfl
    rw [eqI_beq] at h
    simp at h
  · rename_i h
    have hl : a.length = b.length := by
      rw [eqI_beq] at h
      simp at h
      omega
    conv => whnf
    refine LoopVC.up0 5 a.length (fun i => a.take i = b.take i) ?_ ?_
    · repeat' ((conv => whnf); first | (with_reducible first | refine onBool_intro (fun _ => ?_) (fun _ => ?_) | refine And.intro (Ob.mk (Nat.le_of_ble_eq_true rfl)) ?_ | refine And.intro (Ob.mk rfl) ?_ | exact ⟨rfl, rfl⟩ | refine And.intro (Ob.mk (fun h => h)) ?_) | (with_reducible refine Or.inl (And.intro (Ob.mk (Flat.map ?_)) ?_); exact fun _ => rfl) | (refine Or.inl (And.intro (Ob.mk (flat_of rfl)) ?_)) | (refine Or.inl (And.intro (Ob.mk ⟨rfl, rfl, rfl, rfl⟩) ?_)) | (refine Or.inl (And.intro (Ob.mk ⟨rfl, rfl, rfl⟩) ?_)) | (refine And.intro (Ob.mk ⟨rfl, rfl⟩) ?_) | (with_reducible refine Or.inr ?_) | (refine And.intro (Ob.mk (flat_of rfl)) ?_) | (with_reducible refine And.intro (Ob.mk (Flat.map ?_)) ?_; exact fun _ => rfl) | (with_reducible first | exact Ob.mk (Flat.map fun _ => rfl) | refine And.intro ?_ ?_ | apply exG.mk | apply exGS.mk | exact Dd.nil) | (refine Dd.same _ ?_) | (refine Dd.dead _ ?_) | (with_reducible first | apply exQ.mk | apply exP.mk) | (refine EqP.mk rfl rfl) | (with_reducible apply exW.mk) | (refine EqW.mk rfl) | (with_reducible first | intro _ | refine Dn.mk ?_) | (refine exS.full (by first | rfl | (simp; done) | (simp; omega)) ?_) | (refine And.intro (Ob.mk ⟨rfl, rfl, by first | rfl | (simp; done) | (simp; omega)⟩) ?_) | (with_reducible refine exE.mapD ?_) | (refine exL.int ?_) | (with_reducible first | refine Up0.mk rfl ?_ | refine Up0i.mk rfl ?_ | refine Up1.mk rfl ?_ | refine Up1i.mk rfl ?_ | refine Up2.mk rfl ?_ | refine Up2i.mk rfl ?_) | (refine Col.mk rfl rfl rfl ?_) | (refine Coli.mk rfl rfl rfl rfl ?_))
      exact Ob.mk rfl
    · intro i hi he
      repeat' ((conv => whnf); first | (with_reducible first | refine onBool_intro (fun _ => ?_) (fun _ => ?_) | refine And.intro (Ob.mk (Nat.le_of_ble_eq_true rfl)) ?_ | refine And.intro (Ob.mk rfl) ?_ | exact ⟨rfl, rfl⟩ | refine And.intro (Ob.mk (fun h => h)) ?_) | (with_reducible refine Or.inl (And.intro (Ob.mk (Flat.map ?_)) ?_); exact fun _ => rfl) | (refine Or.inl (And.intro (Ob.mk (flat_of rfl)) ?_)) | (refine Or.inl (And.intro (Ob.mk ⟨rfl, rfl, rfl, rfl⟩) ?_)) | (refine Or.inl (And.intro (Ob.mk ⟨rfl, rfl, rfl⟩) ?_)) | (refine And.intro (Ob.mk ⟨rfl, rfl⟩) ?_) | (with_reducible refine Or.inr ?_) | (refine And.intro (Ob.mk (flat_of rfl)) ?_) | (with_reducible refine And.intro (Ob.mk (Flat.map ?_)) ?_; exact fun _ => rfl) | (with_reducible first | exact Ob.mk (Flat.map fun _ => rfl) | refine And.intro ?_ ?_ | apply exG.mk | apply exGS.mk | exact Dd.nil) | (refine Dd.same _ ?_) | (refine Dd.dead _ ?_) | (with_reducible first | apply exQ.mk | apply exP.mk) | (refine EqP.mk rfl rfl) | (with_reducible apply exW.mk) | (refine EqW.mk rfl) | (with_reducible first | intro _ | refine Dn.mk ?_) | (refine exS.full (by first | rfl | (simp; done) | (simp; omega)) ?_) | (refine And.intro (Ob.mk ⟨rfl, rfl, by first | rfl | (simp; done) | (simp; omega)⟩) ?_) | (with_reducible refine exE.mapD ?_) | (refine exL.int ?_) | (with_reducible first | refine Up0.mk rfl ?_ | refine Up0i.mk rfl ?_ | refine Up1.mk rfl ?_ | refine Up1i.mk rfl ?_ | refine Up2.mk rfl ?_ | refine Up2i.mk rfl ?_) | (refine Col.mk rfl rfl rfl ?_) | (refine Coli.mk rfl rfl rfl rfl ?_) | (refine drawVC.mkM _ _ 9 9 [] [[], [], [0, 1], [0, 1, 2], [], [], [4, 5], [4, 5, 6], [0, 1, 2, 3, 4, 5, 6, 7]] rfl (by kernel_rfl) ?_))
      all_goals (try (refine Ob.mk ?_; first | assumption | exact ⟨rfl, rfl⟩ | exact ⟨rfl, rfl, rfl⟩ | (refine ⟨rfl, rfl, ?_⟩; simp only [List.length_map, List.length_take, List.length_append, els_len, List.length_replicate]; omega) | (intro h; exact h) | (intro h; rw [h]; rfl) | (intro h; simp_all; done) | (refine bytes_le (n := 1048577) ?_ rfl; simp only [ltI_iff, ltI_not, leI_iff, leI_not, eqI_iff, eqI_not, List.length_map, bif_and, bif_or, Bool.and_eq_true, Bool.and_eq_false_iff, Bool.or_eq_true, Bool.or_eq_false_iff, Bool.not_eq_true', Bool.not_eq_false', Int.toNat_natCast, beq_iff_eq, beq_eq_false_iff_ne, decide_eq_true_eq, decide_eq_false_iff_not, bel_iff, bel_not, wthn_iff, wthn_not, els_len, mixL_len, Nat.zero_add, List.length_set, List.length_take] at *; omega) | (simp only [ltI_iff, ltI_not, leI_iff, leI_not, eqI_iff, eqI_not, List.length_map, bif_and, bif_or, Bool.and_eq_true, Bool.and_eq_false_iff, Bool.or_eq_true, Bool.or_eq_false_iff, Bool.not_eq_true', Bool.not_eq_false', Int.toNat_natCast, beq_iff_eq, beq_eq_false_iff_ne, decide_eq_true_eq, decide_eq_false_iff_not, bel_iff, bel_not, wthn_iff, wthn_not, els_len, mixL_len, Nat.zero_add, List.length_set, List.length_take, Int.ofNat_eq_natCast] at *; omega)))
      · rename_i h1 h2
        show T.bool false = T.bool (a == b)
        congr 1
        symm
        rw [beq_eq_false_iff_ne]
        rintro rfl
        rw [eqI_beq] at h2
        simp at h2
      · rename_i h1 h2
        rw [ltI_iff] at h1
        simp only [List.length_map] at *
        have hlt : i < a.length := by omega
        refine Ob.mk ⟨hlt, addI_i64 (by omega) (by omega), ?_⟩
        rw [take_succD hlt, take_succD (by omega), he]
        have h3 : nthD a i = nthD b i := by
          rw [eqI_beq] at h2
          simpa using h2
        rw [h3]
      · rename_i h1
        rw [ltI_not, List.length_map] at h1
        show T.bool true = T.bool (a == b)
        congr 1
        symm
        rw [beq_iff_eq]
        rw [List.take_of_length_le (by omega), List.take_of_length_le (by omega)] at he
        exact he
theorem pairT_inj {p q : Int × Int} (h : pairT p = pairT q) : p = q := by
  injection h with h
  injection h with h1 h2
  injection h2 with h2 _
  injection h1 with _ h1
  injection h2 with _ h2
  exact Prod.ext h1 h2
theorem intA_pair {p : Int × Int} : IntA .i64 [.int .i64 p.1, .int .i64 p.2] := fun x hx => by
  simp at hx
  rcases hx with rfl | rfl
  · exact ⟨_, rfl⟩
  · exact ⟨_, rfl⟩
theorem sameEdges16 (a b : List (Int × Int)) : PCalls Try.prog 16 [.sl 2 (pairsR a), .sl 2 (pairsR b)] (fun r => r = .bool (a == b)) := by
  refine PCalls.of_body ttOk Try.func16 rfl ?_
  repeat' ((conv => whnf); first | (with_reducible first | refine onBool_intro (fun _ => ?_) (fun _ => ?_) | refine And.intro (Ob.mk (Nat.le_of_ble_eq_true rfl)) ?_ | refine And.intro (Ob.mk rfl) ?_ | exact ⟨rfl, rfl⟩ | refine And.intro (Ob.mk (fun h => h)) ?_) | (with_reducible refine Or.inl (And.intro (Ob.mk (Flat.map ?_)) ?_); exact fun _ => rfl) | (refine Or.inl (And.intro (Ob.mk (flat_of rfl)) ?_)) | (refine Or.inl (And.intro (Ob.mk ⟨rfl, rfl, rfl, rfl⟩) ?_)) | (refine Or.inl (And.intro (Ob.mk ⟨rfl, rfl, rfl⟩) ?_)) | (refine And.intro (Ob.mk ⟨rfl, rfl⟩) ?_) | (with_reducible refine Or.inr ?_) | (refine And.intro (Ob.mk (flat_of rfl)) ?_) | (with_reducible refine And.intro (Ob.mk (Flat.map ?_)) ?_; exact fun _ => rfl) | (with_reducible first | exact Ob.mk (Flat.map fun _ => rfl) | refine And.intro ?_ ?_ | apply exG.mk | apply exGS.mk | exact Dd.nil) | (refine Dd.same _ ?_) | (refine Dd.dead _ ?_) | (with_reducible first | apply exQ.mk | apply exP.mk) | (refine EqP.mk rfl rfl) | (with_reducible apply exW.mk) | (refine EqW.mk rfl) | (with_reducible first | intro _ | refine Dn.mk ?_) | (refine exS.full (by first | rfl | (simp; done) | (simp; omega)) ?_) | (refine And.intro (Ob.mk ⟨rfl, rfl, by first | rfl | (simp; done) | (simp; omega)⟩) ?_) | (with_reducible refine exE.mapD ?_) | (refine exL.int ?_) | (with_reducible first | refine Up0.mk rfl ?_ | refine Up0i.mk rfl ?_ | refine Up1.mk rfl ?_ | refine Up1i.mk rfl ?_ | refine Up2.mk rfl ?_ | refine Up2i.mk rfl ?_) | (refine Col.mk rfl rfl rfl ?_) | (refine Coli.mk rfl rfl rfl rfl ?_))
  all_goals (try (refine Ob.mk ?_; first | assumption | exact ⟨rfl, rfl⟩ | exact ⟨rfl, rfl, rfl⟩ | (refine ⟨rfl, rfl, ?_⟩; simp only [List.length_map, List.length_take, List.length_append, els_len, List.length_replicate]; omega) | (intro h; exact h) | (intro h; rw [h]; rfl) | (intro h; simp_all; done) | (refine bytes_le (n := 1048577) ?_ rfl; simp only [ltI_iff, ltI_not, leI_iff, leI_not, eqI_iff, eqI_not, List.length_map, bif_and, bif_or, Bool.and_eq_true, Bool.and_eq_false_iff, Bool.or_eq_true, Bool.or_eq_false_iff, Bool.not_eq_true', Bool.not_eq_false', Int.toNat_natCast, beq_iff_eq, beq_eq_false_iff_ne, decide_eq_true_eq, decide_eq_false_iff_not, bel_iff, bel_not, wthn_iff, wthn_not, els_len, mixL_len, Nat.zero_add, List.length_set, List.length_take] at *; omega) | (simp only [ltI_iff, ltI_not, leI_iff, leI_not, eqI_iff, eqI_not, List.length_map, bif_and, bif_or, Bool.and_eq_true, Bool.and_eq_false_iff, Bool.or_eq_true, Bool.or_eq_false_iff, Bool.not_eq_true', Bool.not_eq_false', Int.toNat_natCast, beq_iff_eq, beq_eq_false_iff_ne, decide_eq_true_eq, decide_eq_false_iff_not, bel_iff, bel_not, wthn_iff, wthn_not, els_len, mixL_len, Nat.zero_add, List.length_set, List.length_take, Int.ofNat_eq_natCast] at *; omega)))
  · rename_i h
    show T.bool false = T.bool (a == b)
    congr 1
    symm
    rw [beq_eq_false_iff_ne]
    rintro rfl
    rw [eqI_beq] at h
    simp at h
  · rename_i h
    have hl : a.length = b.length := by
      rw [eqI_beq] at h
      simp at h
      omega
    conv => whnf
    refine LoopVC.up0 5 a.length (fun i => a.take i = b.take i) ?_ ?_
    · repeat' ((conv => whnf); first | (with_reducible first | refine onBool_intro (fun _ => ?_) (fun _ => ?_) | refine And.intro (Ob.mk (Nat.le_of_ble_eq_true rfl)) ?_ | refine And.intro (Ob.mk rfl) ?_ | exact ⟨rfl, rfl⟩ | refine And.intro (Ob.mk (fun h => h)) ?_) | (with_reducible refine Or.inl (And.intro (Ob.mk (Flat.map ?_)) ?_); exact fun _ => rfl) | (refine Or.inl (And.intro (Ob.mk (flat_of rfl)) ?_)) | (refine Or.inl (And.intro (Ob.mk ⟨rfl, rfl, rfl, rfl⟩) ?_)) | (refine Or.inl (And.intro (Ob.mk ⟨rfl, rfl, rfl⟩) ?_)) | (refine And.intro (Ob.mk ⟨rfl, rfl⟩) ?_) | (with_reducible refine Or.inr ?_) | (refine And.intro (Ob.mk (flat_of rfl)) ?_) | (with_reducible refine And.intro (Ob.mk (Flat.map ?_)) ?_; exact fun _ => rfl) | (with_reducible first | exact Ob.mk (Flat.map fun _ => rfl) | refine And.intro ?_ ?_ | apply exG.mk | apply exGS.mk | exact Dd.nil) | (refine Dd.same _ ?_) | (refine Dd.dead _ ?_) | (with_reducible first | apply exQ.mk | apply exP.mk) | (refine EqP.mk rfl rfl) | (with_reducible apply exW.mk) | (refine EqW.mk rfl) | (with_reducible first | intro _ | refine Dn.mk ?_) | (refine exS.full (by first | rfl | (simp; done) | (simp; omega)) ?_) | (refine And.intro (Ob.mk ⟨rfl, rfl, by first | rfl | (simp; done) | (simp; omega)⟩) ?_) | (with_reducible refine exE.mapD ?_) | (refine exL.int ?_) | (with_reducible first | refine Up0.mk rfl ?_ | refine Up0i.mk rfl ?_ | refine Up1.mk rfl ?_ | refine Up1i.mk rfl ?_ | refine Up2.mk rfl ?_ | refine Up2i.mk rfl ?_) | (refine Col.mk rfl rfl rfl ?_) | (refine Coli.mk rfl rfl rfl rfl ?_))
      exact Ob.mk rfl
    · intro i hi he
      repeat' ((conv => whnf); first | (with_reducible first | refine onBool_intro (fun _ => ?_) (fun _ => ?_) | refine And.intro (Ob.mk (Nat.le_of_ble_eq_true rfl)) ?_ | refine And.intro (Ob.mk rfl) ?_ | exact ⟨rfl, rfl⟩ | refine And.intro (Ob.mk (fun h => h)) ?_) | (with_reducible refine Or.inl (And.intro (Ob.mk (Flat.map ?_)) ?_); exact fun _ => rfl) | (refine Or.inl (And.intro (Ob.mk (flat_of rfl)) ?_)) | (refine Or.inl (And.intro (Ob.mk ⟨rfl, rfl, rfl, rfl⟩) ?_)) | (refine Or.inl (And.intro (Ob.mk ⟨rfl, rfl, rfl⟩) ?_)) | (refine And.intro (Ob.mk ⟨rfl, rfl⟩) ?_) | (with_reducible refine Or.inr ?_) | (refine And.intro (Ob.mk (flat_of rfl)) ?_) | (with_reducible refine And.intro (Ob.mk (Flat.map ?_)) ?_; exact fun _ => rfl) | (with_reducible first | exact Ob.mk (Flat.map fun _ => rfl) | refine And.intro ?_ ?_ | apply exG.mk | apply exGS.mk | exact Dd.nil) | (refine Dd.same _ ?_) | (refine Dd.dead _ ?_) | (with_reducible first | apply exQ.mk | apply exP.mk) | (refine EqP.mk rfl rfl) | (with_reducible apply exW.mk) | (refine EqW.mk rfl) | (with_reducible first | intro _ | refine Dn.mk ?_) | (refine exS.full (by first | rfl | (simp; done) | (simp; omega)) ?_) | (refine And.intro (Ob.mk ⟨rfl, rfl, by first | rfl | (simp; done) | (simp; omega)⟩) ?_) | (with_reducible refine exE.mapD ?_) | (refine exL.int ?_) | (with_reducible first | refine Up0.mk rfl ?_ | refine Up0i.mk rfl ?_ | refine Up1.mk rfl ?_ | refine Up1i.mk rfl ?_ | refine Up2.mk rfl ?_ | refine Up2i.mk rfl ?_) | (refine Col.mk rfl rfl rfl ?_) | (refine Coli.mk rfl rfl rfl rfl ?_) | (refine drawVC.mkM _ _ 9 9 [] [[], [], [0, 1], [0, 1, 2], [], [], [4, 5], [4, 5, 6], [0, 1, 2, 3, 4, 5, 6, 7]] rfl (by kernel_rfl) ?_))
      all_goals (try (refine Ob.mk ?_; first | assumption | exact ⟨rfl, rfl⟩ | exact ⟨rfl, rfl, rfl⟩ | (refine ⟨rfl, rfl, ?_⟩; simp only [List.length_map, List.length_take, List.length_append, els_len, List.length_replicate]; omega) | (intro h; exact h) | (intro h; rw [h]; rfl) | (intro h; simp_all; done) | (refine bytes_le (n := 1048577) ?_ rfl; simp only [ltI_iff, ltI_not, leI_iff, leI_not, eqI_iff, eqI_not, List.length_map, bif_and, bif_or, Bool.and_eq_true, Bool.and_eq_false_iff, Bool.or_eq_true, Bool.or_eq_false_iff, Bool.not_eq_true', Bool.not_eq_false', Int.toNat_natCast, beq_iff_eq, beq_eq_false_iff_ne, decide_eq_true_eq, decide_eq_false_iff_not, bel_iff, bel_not, wthn_iff, wthn_not, els_len, mixL_len, Nat.zero_add, List.length_set, List.length_take] at *; omega) | (simp only [ltI_iff, ltI_not, leI_iff, leI_not, eqI_iff, eqI_not, List.length_map, bif_and, bif_or, Bool.and_eq_true, Bool.and_eq_false_iff, Bool.or_eq_true, Bool.or_eq_false_iff, Bool.not_eq_true', Bool.not_eq_false', Int.toNat_natCast, beq_iff_eq, beq_eq_false_iff_ne, decide_eq_true_eq, decide_eq_false_iff_not, bel_iff, bel_not, wthn_iff, wthn_not, els_len, mixL_len, Nat.zero_add, List.length_set, List.length_take, Int.ofNat_eq_natCast] at *; omega)))
      · exact Ob.mk intA_pair
      · exact Ob.mk intA_pair
      · rename_i h1 h2
        show T.bool false = T.bool (a == b)
        congr 1
        symm
        rw [beq_eq_false_iff_ne]
        rintro rfl
        rw [eqA_iff.2 rfl] at h2
        cases h2
      · rename_i h1 h2
        rw [ltI_iff] at h1
        simp only [List.length_map] at *
        have hlt : i < a.length := by omega
        refine Ob.mk ⟨hlt, addI_i64 (by omega) (by omega), ?_⟩
        rw [take_succD hlt, take_succD (by omega), he]
        have h3 : nthD a i = nthD b i := by
          rw [Int.toNat_natCast] at h2
          have h2 : eqA [T.int .i64 (nthD a i).1, T.int .i64 (nthD a i).2] [T.int .i64 (nthD b i).1, T.int .i64 (nthD b i).2] = true := by simpa using h2
          exact pairT_inj (congrArg T.arr (eqA_iff.1 h2))
        rw [h3]
      · rename_i h1
        rw [ltI_not, List.length_map] at h1
        show T.bool true = T.bool (a == b)
        congr 1
        symm
        rw [beq_iff_eq]
        rw [List.take_of_length_le (by omega), List.take_of_length_le (by omega)] at he
        exact he
theorem copy26k (g : Graph) (hg : g.tiny) {q : T → Prop} (hq : q (.own (Module.o ⟨[], [], [g], 0⟩))) : PCalls Try.prog 26 [.agg [.nsl, .nsl, .sl 4 [g.t], .int .i64 0]] q := by
  refine PCalls.argsL (ts' := [(Module.mk [] [] [g] 0).t]) (.cons (Le.aggL (.cons (.nsl 1) (.cons (.nsl 1) (.cons (.refl _) (.cons (.refl _) .nil))))) .nil) (PCalls.mono (copy22o ⟨[], [], [g], 0⟩ ⟨Nat.zero_le _, Nat.zero_le _, by simp, fun g' hg' => ?_⟩) fun _ h => h ▸ hq)
  rw [List.mem_singleton] at hg'
  rw [hg']; exact hg
end Go.Proofs.Ytgladinljapmkaa.Am

/- Loops: graphs made of lists. -/
namespace Go.Proofs.Ytgladinljapmkaa.Am
open Go Go.Proofs
set_option maxRecDepth 10000
set_option maxHeartbeats 2000000
set_option linter.unusedVariables false
set_option linter.unusedSimpArgs false
def leadE (l : List Int) : End := match l with
  | [] => ⟨5, 0, -1, 0, 0, 0, 0, [], []⟩
  | [x] => ⟨1, 0, 0, 0, 0, x, 0, [], []⟩
  | [x, y] => ⟨2, 19, 0, 0, 0, x, y, [], []⟩
  | x :: l => ⟨4, 0, 0, 0, 0, x, 0, [], l⟩
def leadG (to : List (List Int)) : Graph := ⟨[], 1, [], to.map fun l => ⟨[], leadE l⟩⟩
def leadB (l : List Int) : T := match l with
  | [] => .agg [.nsl, .int .i64 5, .int .i64 0, .int .i64 (-1), .int .i64 0, .int .u32 0, .int .i64 0, .int .i64 0, .nsl, .nsl]
  | [x] => .agg [.nsl, .int .i64 1, .int .i64 0, .int .i64 0, .int .i64 0, .int .u32 0, .int .i64 x, .int .i64 0, .nsl, .nsl]
  | [x, y] => .agg [.nsl, .int .i64 2, .int .i64 19, .int .i64 0, .int .i64 0, .int .u32 0, .int .i64 x, .int .i64 y, .nsl, .nsl]
  | x :: l => .agg [.nsl, .int .i64 4, .int .i64 0, .int .i64 0, .int .i64 0, .int .u32 0, .int .i64 x, .int .i64 0, .nsl, .nst 3 1 (l.map fun n => .int .i64 n)]
theorem leadB_le (l : List Int) : LeL (leadB l).cells (Block.mk [] (leadE l)).t.cells := by
  rcases l with _ | ⟨x, _ | ⟨y, _ | ⟨z, l⟩⟩⟩
  all_goals exact .cons (.nsl _) (.cons (.refl _) (.cons (.refl _) (.cons (.refl _) (.cons (.refl _) (.cons (.refl _) (.cons (.refl _) (.cons (.refl _) (.cons (.nsl _) (.cons (by first | exact .nsl _ | exact nst_le _ _ _) .nil)))))))))
theorem exS.tl {l : List Int} {f : Int → T} {n : Nat} {K : List T → Prop} (h : Ob (n + 1 = l.length)) (hk : K (l.tail.map f)) : exS (l.map f) (Int.toNat 1) n K := exS.part (by
  have h := h.out
  have : ((l.map f).drop (Int.toNat 1)).take n = l.tail.map f := by
    cases l with
    | nil => simp at h
    | cons x l =>
      have : n = l.length := by simpa using h
      subst this
      show ((l.map f).take l.length) = l.map f
      rw [List.take_of_length_le (by simp)]
  rw [this]; exact hk)
abbrev leadS (to : List (List Int)) (b : Nat) : Sto := [gzero, .var 26 [.t .nsl, .t (.int .i64 1), .t .nsl, .osl 2 0 b], .row 51 10 ((to.take b).map leadB)]
theorem lead_key {to : List (List Int)} {b : Nat} {X : T} (hb : b < to.length) (h : leadB (nthD to b) = X) : (to.take b).map leadB ++ [X] = (to.take (b + 1)).map leadB := by
  rw [take_succD hb, List.map_append, ← h]; rfl
theorem lead31 (to : List (List Int)) (hl : to.length ≤ 20000) (hr : ∀ l ∈ to, l.length ≤ 2 ^ 20) : PCalls Try.prog 31 [listsL to] (fun r => r = (leadG to).t) := by
  refine PCalls.coarse ?_
  refine PCalls.of_body ttOk Try.func31 rfl ?_
  repeat' ((conv => whnf); first | (with_reducible first | refine onBool_intro (fun _ => ?_) (fun _ => ?_) | refine And.intro (Ob.mk (Nat.le_of_ble_eq_true rfl)) ?_ | refine And.intro (Ob.mk rfl) ?_ | exact ⟨rfl, rfl⟩ | refine And.intro (Ob.mk (fun h => h)) ?_) | (with_reducible refine Or.inl (And.intro (Ob.mk (Flat.map ?_)) ?_); exact fun _ => rfl) | (refine Or.inl (And.intro (Ob.mk (flat_of rfl)) ?_)) | (refine Or.inl (And.intro (Ob.mk ⟨rfl, rfl, rfl, rfl⟩) ?_)) | (refine Or.inl (And.intro (Ob.mk ⟨rfl, rfl, rfl⟩) ?_)) | (refine And.intro (Ob.mk ⟨rfl, rfl⟩) ?_) | (with_reducible refine Or.inr ?_) | (refine And.intro (Ob.mk (flat_of rfl)) ?_) | (with_reducible refine And.intro (Ob.mk (Flat.map ?_)) ?_; exact fun _ => rfl) | (with_reducible first | exact Ob.mk (Flat.map fun _ => rfl) | refine And.intro ?_ ?_ | apply exG.mk | apply exGS.mk | exact Dd.nil) | (refine Dd.same _ ?_) | (refine Dd.dead _ ?_) | (with_reducible first | apply exQ.mk | apply exP.mk) | (refine EqP.mk rfl rfl) | (with_reducible apply exW.mk) | (refine EqW.mk rfl) | (with_reducible first | intro _ | refine Dn.mk ?_) | (refine exS.full (by first | rfl | (simp; done) | (simp; omega)) ?_) | (refine And.intro (Ob.mk ⟨rfl, rfl, by first | rfl | (simp; done) | (simp; omega)⟩) ?_) | (with_reducible refine exE.mapD ?_) | (refine exL.int ?_) | (with_reducible first | refine Up0.mk rfl ?_ | refine Up0i.mk rfl ?_ | refine Up1.mk rfl ?_ | refine Up1i.mk rfl ?_ | refine Up2.mk rfl ?_ | refine Up2i.mk rfl ?_) | (refine Col.mk rfl rfl rfl ?_) | (refine Coli.mk rfl rfl rfl rfl ?_))
  all_goals (try (refine Ob.mk ?_; first | assumption | exact ⟨rfl, rfl⟩ | exact ⟨rfl, rfl, rfl⟩ | (refine ⟨rfl, rfl, ?_⟩; simp only [List.length_map, List.length_take, List.length_append, els_len, List.length_replicate]; omega) | (intro h; exact h) | (intro h; rw [h]; rfl) | (intro h; simp_all; done) | (refine bytes_le (n := 1048577) ?_ rfl; simp only [ltI_iff, ltI_not, leI_iff, leI_not, eqI_iff, eqI_not, List.length_map, bif_and, bif_or, Bool.and_eq_true, Bool.and_eq_false_iff, Bool.or_eq_true, Bool.or_eq_false_iff, Bool.not_eq_true', Bool.not_eq_false', Int.toNat_natCast, beq_iff_eq, beq_eq_false_iff_ne, decide_eq_true_eq, decide_eq_false_iff_not, bel_iff, bel_not, wthn_iff, wthn_not, els_len, mixL_len, Nat.zero_add, List.length_set, List.length_take] at *; omega) | (simp only [ltI_iff, ltI_not, leI_iff, leI_not, eqI_iff, eqI_not, List.length_map, bif_and, bif_or, Bool.and_eq_true, Bool.and_eq_false_iff, Bool.or_eq_true, Bool.or_eq_false_iff, Bool.not_eq_true', Bool.not_eq_false', Int.toNat_natCast, beq_iff_eq, beq_eq_false_iff_ne, decide_eq_true_eq, decide_eq_false_iff_not, bel_iff, bel_not, wthn_iff, wthn_not, els_len, mixL_len, Nat.zero_add, List.length_set, List.length_take, Int.ofNat_eq_natCast] at *; omega)))
  conv => whnf
  refine LoopVC.mkA [4] [] [(1, 3, 51, 10)] [] (fun m vals σ => ∃ b : Nat, vals = [.t (.int .i64 b)] ∧ σ = leadS to b ∧ b ≤ to.length ∧ m = to.length - b) ?_ ?_
  · conv => whnf
    exact ⟨_, 0, rfl, rfl, Nat.zero_le _, rfl⟩
  · rintro m vals σ ⟨b, rfl, rfl, hb, rfl⟩
    have hlt : ltI (b : Int) (((to.map ilist).length : Nat) : Int) = true → b < to.length := fun h => by
      rw [ltI_iff, List.length_map] at h; omega
    have ebl : nthD to ((b : Int)).toNat = nthD to b := by rw [Int.toNat_natCast]
    repeat' ((conv => whnf); first | (with_reducible first | refine onBool_intro (fun _ => ?_) (fun _ => ?_) | refine And.intro (Ob.mk (Nat.le_of_ble_eq_true rfl)) ?_ | refine And.intro (Ob.mk rfl) ?_ | exact ⟨rfl, rfl⟩ | refine And.intro (Ob.mk (fun h => h)) ?_) | (with_reducible refine Or.inl (And.intro (Ob.mk (Flat.map ?_)) ?_); exact fun _ => rfl) | (refine Or.inl (And.intro (Ob.mk (flat_of rfl)) ?_)) | (refine Or.inl (And.intro (Ob.mk ⟨rfl, rfl, rfl, rfl⟩) ?_)) | (refine Or.inl (And.intro (Ob.mk ⟨rfl, rfl, rfl⟩) ?_)) | (refine And.intro (Ob.mk ⟨rfl, rfl⟩) ?_) | (with_reducible refine Or.inr ?_) | (refine And.intro (Ob.mk (flat_of rfl)) ?_) | (with_reducible refine And.intro (Ob.mk (Flat.map ?_)) ?_; exact fun _ => rfl) | (with_reducible first | exact Ob.mk (Flat.map fun _ => rfl) | refine And.intro ?_ ?_ | apply exG.mk | apply exGS.mk | exact Dd.nil) | (refine Dd.same _ ?_) | (refine Dd.dead _ ?_) | (with_reducible first | apply exQ.mk | apply exP.mk) | (refine EqP.mk rfl rfl) | (with_reducible apply exW.mk) | (refine EqW.mk rfl) | (with_reducible first | intro _ | refine Dn.mk ?_) | (refine exS.full (by first | rfl | (simp; done) | (simp; omega)) ?_) | (refine And.intro (Ob.mk ⟨rfl, rfl, by first | rfl | (simp; done) | (simp; omega)⟩) ?_) | (with_reducible refine exE.mapD ?_) | (refine exL.int ?_) | (with_reducible first | refine Up0.mk rfl ?_ | refine Up0i.mk rfl ?_ | refine Up1.mk rfl ?_ | refine Up1i.mk rfl ?_ | refine Up2.mk rfl ?_ | refine Up2i.mk rfl ?_) | (refine Col.mk rfl rfl rfl ?_) | (refine Coli.mk rfl rfl rfl rfl ?_) | (refine exS.tl ?_ ?_) | (refine drawVC.mkM _ _ 14 14 [(13, [])] [[], [], [0, 1], [0, 1, 2], [0, 1, 2, 3], [0, 1, 2, 3, 4], [], [], [6, 7], [6, 7, 8], [6, 7, 8, 9], [6, 7, 8, 9, 10], [0, 1, 2, 3, 4, 5, 6, 7, 8, 9, 10, 11], [0, 1, 2, 3, 4, 5, 6, 7, 8, 9, 10, 11, 12]] rfl (by kernel_rfl) ?_) | (refine drawVC.mkM _ _ 10 10 [(7, [8]), (9, [])] [[], [0], [], [], [2, 3], [2, 3, 4], [2, 3, 4, 5], [0, 1, 2, 3, 4, 5, 6], [0, 1, 2, 3, 4, 5, 6, 7], [0, 1, 2, 3, 4, 5, 6, 7, 8]] rfl (by kernel_rfl) ?_) | (with_reducible apply exV.mk) | (refine EqV.mk rfl rfl))
    all_goals (try (refine Ob.mk ?_; first | assumption | exact ⟨rfl, rfl⟩ | exact ⟨rfl, rfl, rfl⟩ | (refine ⟨rfl, rfl, ?_⟩; simp only [List.length_map, List.length_take, List.length_append, els_len, List.length_replicate]; omega) | (intro h; exact h) | (intro h; rw [h]; rfl) | (intro h; simp_all; done) | (refine bytes_le (n := 1048577) ?_ rfl; simp only [ltI_iff, ltI_not, leI_iff, leI_not, eqI_iff, eqI_not, List.length_map, bif_and, bif_or, Bool.and_eq_true, Bool.and_eq_false_iff, Bool.or_eq_true, Bool.or_eq_false_iff, Bool.not_eq_true', Bool.not_eq_false', Int.toNat_natCast, beq_iff_eq, beq_eq_false_iff_ne, decide_eq_true_eq, decide_eq_false_iff_not, bel_iff, bel_not, wthn_iff, wthn_not, els_len, mixL_len, Nat.zero_add, List.length_set, List.length_take] at *; omega) | (simp only [ltI_iff, ltI_not, leI_iff, leI_not, eqI_iff, eqI_not, List.length_map, bif_and, bif_or, Bool.and_eq_true, Bool.and_eq_false_iff, Bool.or_eq_true, Bool.or_eq_false_iff, Bool.not_eq_true', Bool.not_eq_false', Int.toNat_natCast, beq_iff_eq, beq_eq_false_iff_ne, decide_eq_true_eq, decide_eq_false_iff_not, bel_iff, bel_not, wthn_iff, wthn_not, els_len, mixL_len, Nat.zero_add, List.length_set, List.length_take, Int.ofNat_eq_natCast] at *; omega)))
    all_goals (try have hb2 := hlt (by assumption))
    · have h1 : (nthD to b).length = 1 := by
        have h3 : eqI ((((nthD to ((b : Int)).toNat).map fun n => T.int .i64 n).length : Nat) : Int) 1 = true := by assumption
        rw [eqI_iff, List.length_map, Int.toNat_natCast] at h3; omega
      conv => whnf
      refine ⟨to.length - (b + 1), by omega, b + 1, ?_, ?_, hb2, rfl⟩
      · rw [addI_i64 (by omega) (by omega)]; rfl
      · refine congrArg (fun z => [gzero, .var 26 [.t .nsl, .t (.int .i64 1), .t .nsl, .osl 2 0 (b + 1)], SObj.row 51 10 z]) (lead_key hb2 ?_)
        rw [ebl]
        obtain ⟨x, hx⟩ := List.length_eq_one_iff.1 h1
        rw [hx]
        have e0 : nthD [x] (Int.toNat 0) = x := nthD_eq rfl
        rw [e0]; rfl
    · have h1 : (nthD to b).length = 2 := by
        have h3 : eqI ((((nthD to ((b : Int)).toNat).map fun n => T.int .i64 n).length : Nat) : Int) 2 = true := by assumption
        rw [eqI_iff, List.length_map, Int.toNat_natCast] at h3; omega
      conv => whnf
      refine ⟨to.length - (b + 1), by omega, b + 1, ?_, ?_, hb2, rfl⟩
      · rw [addI_i64 (by omega) (by omega)]; rfl
      · refine congrArg (fun z => [gzero, .var 26 [.t .nsl, .t (.int .i64 1), .t .nsl, .osl 2 0 (b + 1)], SObj.row 51 10 z]) (lead_key hb2 ?_)
        rw [ebl]
        obtain ⟨x, y, hx⟩ : ∃ x y, nthD to b = [x, y] := by
          rcases h2 : nthD to b with _ | ⟨x, _ | ⟨y, _ | ⟨z, l⟩⟩⟩ <;> rw [h2] at h1 <;> first | (simp at h1; done) | exact ⟨_, _, rfl⟩
        rw [hx]
        have e0 : nthD [x, y] (Int.toNat 0) = x := nthD_eq rfl
        have e1 : nthD [x, y] (Int.toNat 1) = y := nthD_eq rfl
        rw [e0, e1]; rfl
    · refine Ob.mk ?_
      have hrl := hr _ (nthD_mem hb2)
      show _ * 8 ≤ 2 ^ 47
      rw [List.length_map, List.length_tail, ebl]; omega
    · refine Ob.mk ?_
      have hrl := hr _ (nthD_mem hb2)
      rw [List.length_map, List.length_tail, ebl]; omega
    · have h1 : 2 < (nthD to b).length := by
        have h3 : ltI 2 ((((nthD to ((b : Int)).toNat).map fun n => T.int .i64 n).length : Nat) : Int) = true := by assumption
        rw [ltI_iff, List.length_map, Int.toNat_natCast] at h3; omega
      conv => whnf
      refine ⟨to.length - (b + 1), by omega, b + 1, ?_, ?_, hb2, rfl⟩
      · rw [addI_i64 (by omega) (by omega)]; rfl
      · refine congrArg (fun z => [gzero, .var 26 [.t .nsl, .t (.int .i64 1), .t .nsl, .osl 2 0 (b + 1)], SObj.row 51 10 z]) (lead_key hb2 ?_)
        rw [ebl]
        obtain ⟨x, y, z, l, hx⟩ : ∃ x y z l, nthD to b = x :: y :: z :: l := by
          rcases h2 : nthD to b with _ | ⟨x, _ | ⟨y, _ | ⟨z, l⟩⟩⟩ <;> rw [h2] at h1 <;> first | (simp at h1; done) | exact ⟨_, _, _, _, rfl⟩
        rw [hx]
        have e0 : nthD (x :: y :: z :: l) (Int.toNat 0) = x := nthD_eq rfl
        rw [e0]; rfl
    · have h1 : (nthD to b).length = 0 := by
        have h3 : eqI ((((nthD to ((b : Int)).toNat).map fun n => T.int .i64 n).length : Nat) : Int) 1 = false := by assumption
        have h4 : eqI ((((nthD to ((b : Int)).toNat).map fun n => T.int .i64 n).length : Nat) : Int) 2 = false := by assumption
        have h5 : ltI 2 ((((nthD to ((b : Int)).toNat).map fun n => T.int .i64 n).length : Nat) : Int) = false := by assumption
        rw [eqI_not, List.length_map, Int.toNat_natCast] at h3 h4
        rw [ltI_not, List.length_map, Int.toNat_natCast] at h5
        omega
      conv => whnf
      refine ⟨to.length - (b + 1), by omega, b + 1, ?_, ?_, hb2, rfl⟩
      · rw [addI_i64 (by omega) (by omega)]; rfl
      · refine congrArg (fun z => [gzero, .var 26 [.t .nsl, .t (.int .i64 1), .t .nsl, .osl 2 0 (b + 1)], SObj.row 51 10 z]) (lead_key hb2 ?_)
        rw [List.length_eq_zero_iff.1 h1]; rfl
    · have hb2 : b = to.length := by
        have h3 : ltI (b : Int) (((to.map ilist).length : Nat) : Int) = false := by assumption
        rw [ltI_not, List.length_map] at h3; omega
      subst hb2
      rw [List.take_length]
      refine Le.aggL (.cons (.nsl 1) (.cons (.refl _) (.cons (.nsl 2) (.cons ?_ .nil))))
      show Le _ (.sl 10 ((to.map fun l => Block.mk [] (leadE l)).map Block.t))
      rw [List.map_map]
      exact Le.slmap (f := leadB) (g := Block.t ∘ fun l => Block.mk [] (leadE l)) leadB_le fun _ => rfl
end Go.Proofs.Ytgladinljapmkaa.Am

/- Loops: blocks taken one by one, each behind all that lead forth to it (no program here). -/
namespace Go.Proofs.Ytgladinljapmkaa.Am
open Go Go.Proofs
set_option linter.unusedVariables false
noncomputable def fR (to : List (List Int)) (a : Nat) (l : List Int) : List Nat := (l.filter fun c => !domB to c.toNat a).map Int.toNat
noncomputable def fAll (to : List (List Int)) (L : List Nat) : List Nat := L.flatMap fun a => fR to a (nthD to a)
variable {to : List (List Int)} {a b c k : Nat} {o P l L : List Nat}
theorem fR_nil : fR to a [] = [] := rfl
theorem fR_cons {c : Int} {l : List Int} : fR to a (c :: l) = (if domB to c.toNat a then [] else [c.toNat]) ++ fR to a l := by
  unfold fR
  rw [List.filter_cons]
  cases domB to c.toNat a <;> rfl
theorem fR_append {l m : List Int} : fR to a (l ++ m) = fR to a l ++ fR to a m := by
  unfold fR
  rw [List.filter_append, List.map_append]
theorem fAll_append {L M : List Nat} : fAll to (L ++ M) = fAll to L ++ fAll to M := by
  unfold fAll
  rw [List.flatMap_append]
theorem fAll_one : fAll to [a] = fR to a (nthD to a) := by
  unfold fAll
  simp
theorem fR_len {l : List Int} : (fR to a l).length ≤ l.length := by
  unfold fR
  rw [List.length_map]
  exact List.length_filter_le ..
theorem fAll_len {m : Nat} (hr : ∀ a ∈ L, (nthD to a).length ≤ m) : (fAll to L).length ≤ L.length * m := by
  induction L with
  | nil => simp [fAll]
  | cons a L ih =>
    have h1 := ih fun b hb => hr b (List.mem_cons_of_mem _ hb)
    have h2 := fR_len (to := to) (a := a) (l := nthD to a)
    have h3 := hr a List.mem_cons_self
    rw [show a :: L = [a] ++ L from rfl, fAll_append, fAll_one, List.length_append, List.length_append, Nat.add_mul, List.length_singleton]
    omega
theorem fR_mem (hw : WalkL to) (ha : Rch (EdgeL to) a) : b ∈ fR to a (nthD to a) ↔ Forth (EdgeL to) a b := by
  unfold fR
  rw [List.mem_map]
  have hal := hw.rch ha
  constructor
  · rintro ⟨c, hc, rfl⟩
    rw [List.mem_filter] at hc
    have h0 := hw.rng a hal c hc.1
    refine ⟨ha, ⟨hal, ?_⟩, fun hd => ?_⟩
    · rw [Int.toNat_of_nonneg h0.1]; exact hc.1
    · have := hc.2
      rw [domB_iff.2 hd] at this; cases this
  · rintro ⟨_, he, hd⟩
    refine ⟨(b : Nat), List.mem_filter.2 ⟨he.2, ?_⟩, Int.toNat_natCast b⟩
    rw [Int.toNat_natCast]
    cases h : domB to b a with
    | true => exact absurd (domB_iff.1 h) hd
    | false => rfl
theorem fAll_mem (hw : WalkL to) (hL : ∀ a ∈ L, Rch (EdgeL to) a) : b ∈ fAll to L ↔ ∃ a ∈ L, Forth (EdgeL to) a b := by
  unfold fAll
  rw [List.mem_flatMap]
  constructor
  · rintro ⟨a, ha, hb⟩
    exact ⟨a, ha, (fR_mem hw (hL a ha)).1 hb⟩
  · rintro ⟨a, ha, hb⟩
    exact ⟨a, ha, (fR_mem hw (hL a ha)).2 hb⟩
theorem fAll_pop (hn : o.Nodup) (ha : a ∈ o) (hP : a ∉ P) (b : Nat) :
    (fAll to (o.filter fun x => !P.contains x)).count b = (fAll to (o.filter fun x => !(P ++ [a]).contains x)).count b + (fR to a (nthD to a)).count b := by
  induction o with
  | nil => cases ha
  | cons x o ih =>
    rw [List.nodup_cons] at hn
    have key : ∀ (Q : List Nat), (fAll to ((x :: o).filter fun y => !Q.contains y)).count b = (if Q.contains x then 0 else (fR to x (nthD to x)).count b) + (fAll to (o.filter fun y => !Q.contains y)).count b := by
      intro Q
      rw [List.filter_cons]
      cases Q.contains x with
      | true => simp
      | false =>
        show (fAll to (x :: _)).count b = _
        rw [show x :: List.filter (fun y => !Q.contains y) o = [x] ++ List.filter (fun y => !Q.contains y) o from rfl, fAll_append, fAll_one, List.count_append]
        simp
    rw [key P, key (P ++ [a])]
    by_cases e : x = a
    · subst e
      have h1 : P.contains x = false := by simpa using hP
      have h2 : (P ++ [x]).contains x = true := by simp
      have h3 : o.filter (fun y => !P.contains y) = o.filter (fun y => !(P ++ [x]).contains y) := by
        apply List.filter_congr
        intro y hy
        have : y ≠ x := fun e => hn.1 (e ▸ hy)
        simp [this]
      rw [h1, h2, h3]
      simp; omega
    · have ha2 : a ∈ o := (List.mem_cons.1 ha).resolve_left fun h => e h.symm
      have h1 : (P ++ [a]).contains x = P.contains x := by simp [e]
      rw [h1, ih hn.2 ha2]
      omega
structure Kn (to : List (List Int)) (o P l : List Nat) (u : Nat → Int) (r : List Int) (x : Nat) : Prop where
  nodup : (P ++ l).Nodup
  sub : ∀ b ∈ P ++ l, b ∈ o
  cnt : ∀ b, u b = (((fAll to (o.filter fun y => !P.contains y)).count b + (fR to x r).count b : Nat) : Int)
  zer : ∀ b ∈ o, b ∈ P ++ l ↔ u b = 0
  ord : ∀ (i : Nat) (b a : Nat), P[i]? = some b → Forth (EdgeL to) a b → a ∈ P.take i
variable {u : Nat → Int} {r : List Int} {x : Nat}
theorem Kn.init (hw : WalkL to) (hL : Left to o) (hu : ∀ b, u b = ((fAll to o).count b : Nat)) : Kn to o [] [0] u [] x where
  nodup := by simp
  sub := fun b hb => by
    have : b = 0 := by simpa using hb
    subst this
    exact List.mem_of_getLast? hL.last
  cnt := fun b => by
    rw [hu b]
    have : o.filter (fun y => !([] : List Nat).contains y) = o := by simp
    rw [this]
    simp [fR]
  zer := fun b hb => by
    have hr := (hL.mem b).1 hb
    have hmem := fAll_mem (b := b) hw (L := o) fun a ha => (hL.mem a).1 ha
    rw [hu b]
    constructor
    · intro h
      have h : b = 0 := by simpa using h
      subst h
      have : (fAll to o).count 0 = 0 := List.count_eq_zero.2 fun h => by
        obtain ⟨a, _, h2⟩ := hmem.1 h
        exact Forth.zero h2
      omega
    · intro h
      refine Classical.byContradiction fun hn => ?_
      have h0 : b ≠ 0 := fun e => hn (by simp [e])
      obtain ⟨a, ha⟩ := Forth.ex hr h0
      have : 0 < (fAll to o).count b := List.count_pos_iff.2 (hmem.2 ⟨a, (hL.mem a).2 ha.1, ha⟩)
      omega
  ord := fun i b a h => by simp at h
theorem Kn.pop (hw : WalkL to) (hL : Left to o) (h : Kn to o P (l ++ [a]) u [] x) : Kn to o (P ++ [a]) l u (nthD to a) a := by
  have hn := h.nodup
  have hao : a ∈ o := h.sub a (by simp)
  have haP : a ∉ P := fun h1 => by
    rw [List.nodup_append] at hn
    exact hn.2.2 a h1 a (by simp) rfl
  have hperm : ∀ b, b ∈ P ++ (l ++ [a]) ↔ b ∈ (P ++ [a]) ++ l := fun b => by
    simp only [List.mem_append, List.mem_singleton]
    constructor
    · rintro (h | h | h)
      · exact .inl (.inl h)
      · exact .inr h
      · exact .inl (.inr h)
    · rintro ((h | h) | h)
      · exact .inl h
      · exact .inr (.inr h)
      · exact .inr (.inl h)
  have hcnt : ∀ b, u b = (((fAll to (o.filter fun y => !P.contains y)).count b : Nat) : Int) := fun b => by
    have := h.cnt b
    rw [fR_nil, List.count_nil, Nat.add_zero] at this
    exact this
  refine ⟨?_, fun b hb => h.sub b ((hperm b).2 hb), fun b => ?_, fun b hb => (hperm b).symm.trans (h.zer b hb), fun i b c hi hf => ?_⟩
  · have hp : List.Perm (P ++ (l ++ [a])) ((P ++ [a]) ++ l) := by
      rw [List.append_assoc]
      exact List.Perm.append_left P List.perm_append_comm
    exact hp.nodup_iff.1 hn
  · rw [hcnt b, fAll_pop hL.nodup hao haP b]
  · rcases Nat.lt_or_ge i P.length with h1 | h1
    · rw [List.getElem?_append_left h1] at hi
      rw [List.take_append_of_le_length (by omega)]
      exact h.ord i b c hi hf
    · have h2 : i = P.length := by
        have := (List.getElem?_eq_some_iff.1 hi).1
        rw [List.length_append, List.length_singleton] at this
        omega
      subst h2
      rw [List.getElem?_append_right (Nat.le_refl _), Nat.sub_self] at hi
      have hba : b = a := by simpa using hi.symm
      subst hba
      rw [List.take_append_of_le_length (Nat.le_refl _), List.take_length]
      refine Classical.byContradiction fun hc => ?_
      have h0 := (h.zer b hao).1 (by simp)
      rw [hcnt b] at h0
      have : 0 < (fAll to (o.filter fun y => !P.contains y)).count b := List.count_pos_iff.2 ((fAll_mem hw fun y hy => (hL.mem y).1 (List.mem_filter.1 hy).1).2 ⟨c, List.mem_filter.2 ⟨(hL.mem c).2 hf.1, by simpa using hc⟩, hf⟩)
      omega
theorem Kn.next (h : Kn to o P l u [] x) (y : Nat) : Kn to o P l u [] y := ⟨h.nodup, h.sub, fun b => by rw [h.cnt b, fR_nil, fR_nil], h.zer, h.ord⟩
theorem Kn.skip {c : Int} (h : Kn to o P l u (c :: r) x) (hc : domB to c.toNat x = true) : Kn to o P l u r x :=
  ⟨h.nodup, h.sub, fun b => by rw [h.cnt b, fR_cons, hc]; rfl, h.zer, h.ord⟩
theorem Kn.turn {c : Int} (h : Kn to o P l u (c :: r) x) (hc : domB to c.toNat x = false) (b : Nat) :
    (if b = c.toNat then u b - 1 else u b) = (((fAll to (o.filter fun y => !P.contains y)).count b + (fR to x r).count b : Nat) : Int) := by
  have := h.cnt b
  rw [fR_cons, hc, List.count_append] at this
  by_cases e : b = c.toNat
  · rw [if_pos e, this, e]
    simp; omega
  · rw [if_neg e, this]
    have : ¬ c.toNat = b := fun h => e h.symm
    simp [List.count_cons, this]
theorem Kn.pos {c : Int} (h : Kn to o P l u (c :: r) x) (hc : domB to c.toNat x = false) : 1 ≤ u c.toNat := by
  have := h.cnt c.toNat
  rw [fR_cons, hc, List.count_append] at this
  simp at this
  omega
theorem Kn.less {c : Int} (h : Kn to o P l u (c :: r) x) (hc : domB to c.toNat x = false) (h0 : u c.toNat - 1 ≠ 0) : Kn to o P l (fun b => if b = c.toNat then u b - 1 else u b) r x := by
  refine ⟨h.nodup, h.sub, h.turn hc, fun b hb => ?_, h.ord⟩
  rw [h.zer b hb]
  by_cases e : b = c.toNat
  · rw [if_pos e, e]
    have := h.pos hc
    omega
  · rw [if_neg e]
theorem Kn.push {c : Int} (h : Kn to o P l u (c :: r) x) (hc : domB to c.toNat x = false) (hco : c.toNat ∈ o) (h0 : u c.toNat - 1 = 0) : Kn to o P (l ++ [c.toNat]) (fun b => if b = c.toNat then u b - 1 else u b) r x := by
  have hp := h.pos hc
  have hnot : c.toNat ∉ P ++ l := fun hm => by
    have := (h.zer _ hco).1 hm
    omega
  refine ⟨?_, fun b hb => ?_, h.turn hc, fun b hb => ?_, h.ord⟩
  · rw [← List.append_assoc, List.nodup_append]
    refine ⟨h.nodup, by simp, fun y hy z hz e => ?_⟩
    rw [List.mem_singleton] at hz
    subst hz
    exact hnot (e ▸ hy)
  · rw [← List.append_assoc] at hb
    rcases List.mem_append.1 hb with hb | hb
    · exact h.sub b hb
    · rw [List.mem_singleton] at hb
      exact hb ▸ hco
  · rw [← List.append_assoc, List.mem_append, List.mem_singleton, h.zer b hb]
    by_cases e : b = c.toNat
    · rw [if_pos e, e]
      simp [h0]
    · rw [if_neg e]
      simp [e]
theorem nodup_len_le {A B : List Nat} (h : A.Nodup) (hs : ∀ x ∈ A, x ∈ B) : A.length ≤ B.length := by
  induction A generalizing B with
  | nil => simp
  | cons x A ih =>
    rw [List.nodup_cons] at h
    have hx := hs x (by simp)
    have := ih (B := B.erase x) h.2 fun y hy => by
      have hne : y ≠ x := by rintro rfl; exact h.1 hy
      exact (List.mem_erase_of_ne hne).2 (hs y (by simp [hy]))
    rw [List.length_erase_of_mem hx] at this
    have := List.length_pos_of_mem hx
    simp; omega
theorem Kn.len (h : Kn to o P l u r x) : P.length + l.length ≤ o.length := by
  have := nodup_len_le h.nodup h.sub
  rwa [List.length_append] at this
theorem Kn.last (hw : WalkL to) (hL : Left to o) (h : Kn to o P [] u [] x) : P.length = o.length ↔ Acyc (Forth (EdgeL to)) := by
  have hn : P.Nodup := by have := h.nodup; rwa [List.append_nil] at this
  have hsub : ∀ b ∈ P, b ∈ o := fun b hb => h.sub b (by rwa [List.append_nil])
  constructor
  · intro hlen
    have hall : ∀ b ∈ o, b ∈ P := fun b hb => Classical.byContradiction fun hnb => by
      have := nodup_len_le (A := b :: P) (B := o) (List.nodup_cons.2 ⟨hnb, hn⟩) fun y hy => by
        rcases List.mem_cons.1 hy with rfl | hy
        · exact hb
        · exact hsub y hy
      simp at this; omega
    refine .rank (fun b => P.idxOf b) fun a b hf => ?_
    have hb : b ∈ P := hall b ((hL.mem b).2 hf.rch)
    have hi := List.idxOf_lt_length_iff.2 hb
    have h1 := h.ord (P.idxOf b) b a (by rw [List.getElem?_eq_getElem hi, List.getElem_idxOf]) hf
    obtain ⟨j, hj, e⟩ := List.mem_iff_getElem.1 h1
    rw [List.length_take] at hj
    rw [List.getElem_take] at e
    have hjl : j < P.length := by omega
    have : P.idxOf a ≤ j := by
      rw [← e]
      have := hn
      refine Nat.le_of_eq ?_
      exact List.Nodup.idxOf_getElem hn j hjl
    omega
  · intro hac
    have hno := hac.first (n := to.length) (fun b => b ∈ o ∧ b ∉ P) (fun b hb => hw.rch ((hL.mem b).1 hb.1)) fun b hb => by
      have h0 : u b ≠ 0 := fun h0 => hb.2 (by have := (h.zer b hb.1).2 h0; rwa [List.append_nil] at this)
      have h1 := h.cnt b
      rw [fR_nil, List.count_nil, Nat.add_zero] at h1
      have h2 : 0 < (fAll to (o.filter fun y => !P.contains y)).count b := by omega
      obtain ⟨a, ha, hf⟩ := (fAll_mem hw fun y hy => (hL.mem y).1 (List.mem_filter.1 hy).1).1 (List.count_pos_iff.1 h2)
      rw [List.mem_filter] at ha
      exact ⟨a, ⟨ha.1, by simpa using ha.2⟩, hf⟩
    have h1 := nodup_len_le hn hsub
    have h2 := nodup_len_le hL.nodup fun b hb => Classical.byContradiction fun hnb => hno b ⟨hb, hnb⟩
    omega
end Go.Proofs.Ytgladinljapmkaa.Am

/- Loops: what is met on ways, by the document's answer. -/
namespace Go.Proofs.Ytgladinljapmkaa.Am
open Go Go.Proofs
set_option maxRecDepth 10000
set_option maxHeartbeats 2000000
set_option linter.unusedVariables false
set_option linter.unusedSimpArgs false
inductive RF (e : Nat → Nat → Prop) (p : Nat → Prop) (s : Nat) : Nat → Prop
  | base : p s → RF e p s s
  | step {a b : Nat} : RF e p s a → e a b → p b → RF e p s b
theorem RF.ra {e : Nat → Nat → Prop} {p : Nat → Prop} {b : Nat} : RF e p 0 b ↔ RA e p b := by
  constructor
  · intro h
    induction h with
    | base h => exact .base h
    | step _ h1 h2 ih => exact .step ih h1 h2
  · intro h
    induction h with
    | base h => exact .base h
    | step _ h1 h2 ih => exact .step ih h1 h2
theorem RF.mono {e e' : Nat → Nat → Prop} {p q : Nat → Prop} {s b : Nat} (h1 : ∀ a b, e a b → e' a b) (h2 : ∀ a, p a → q a) (h : RF e p s b) : RF e' q s b := by
  induction h with
  | base h => exact .base (h2 _ h)
  | step _ h3 h4 ih => exact .step ih (h1 _ _ h3) (h2 _ h4)
noncomputable def wayF (to : List (List Int)) (s : Nat) (w : Int) (b : Nat) : Bool := @decide (RF (EdgeL to) (fun x => (x : Int) ≠ w) s b) (Classical.propDecidable _)
theorem wayF_iff {to : List (List Int)} {s : Nat} {w : Int} {b : Nat} : wayF to s w b = true ↔ RF (EdgeL to) (fun x => (x : Int) ≠ w) s b := by
  unfold wayF; exact dec_iff
def RngL (to : List (List Int)) : Prop := ∀ a, a < to.length → ∀ s ∈ nthD to a, 0 ≤ s ∧ s < to.length
structure Wk (to : List (List Int)) (w : Int) (s : Nat) (l : List Nat) (f : Nat → Bool) (x : Option (Nat × Nat)) : Prop where
  lt : ∀ b ∈ l, b < to.length ∧ f b = true
  fst : f s = true
  snd : ∀ b, f b = true → RF (EdgeL to) (fun x => (x : Int) ≠ w) s b
  done : ∀ b, f b = true → b ∉ l → (∀ p, x = some p → b ≠ p.1) → ∀ c, EdgeL to b c → (c : Int) ≠ w → f c = true
  at' : ∀ p, x = some p → p.1 < to.length ∧ f p.1 = true ∧ p.2 ≤ (nthD to p.1).length ∧ ∀ j, j < p.2 → nthD (nthD to p.1) j ≠ w → f (nthD (nthD to p.1) j).toNat = true
variable {to : List (List Int)} {w : Int} {s : Nat} {l : List Nat} {f : Nat → Bool} {b k : Nat}
theorem Wk.init (hs : s < to.length) (hsw : (s : Int) ≠ w) (hf : ∀ b, f b = true ↔ b = s) : Wk to w s [s] f none where
  lt := fun b hb => by
    rw [List.mem_singleton] at hb; subst hb
    exact ⟨hs, (hf b).2 rfl⟩
  fst := (hf s).2 rfl
  snd := fun b hb => by
    have := (hf b).1 hb; subst this
    exact .base hsw
  done := fun b hb hn => absurd (List.mem_singleton.2 ((hf b).1 hb)) hn
  at' := fun p hp => nomatch hp
theorem Wk.pop (h : Wk to w s (l ++ [b]) f none) : Wk to w s l f (some (b, 0)) where
  lt := fun x hx => h.lt x (List.mem_append_left _ hx)
  fst := h.fst
  snd := h.snd
  done := fun x hx hn hp c hc hcw => h.done x hx (fun hm => by
    rcases List.mem_append.1 hm with hm | hm
    · exact hn hm
    · exact hp _ rfl (List.mem_singleton.1 hm)) (fun _ h => nomatch h) c hc hcw
  at' := fun p hp => by
    injection hp with hp; subst hp
    have := h.lt b (by simp)
    exact ⟨this.1, this.2, Nat.zero_le _, fun j hj => absurd hj (Nat.not_lt_zero _)⟩
theorem Wk.skip (h : Wk to w s l f (some (b, k))) (hk : k < (nthD to b).length) (hc : nthD (nthD to b) k ≠ w → f (nthD (nthD to b) k).toNat = true) : Wk to w s l f (some (b, k + 1)) where
  lt := h.lt
  fst := h.fst
  snd := h.snd
  done := fun x hx hn hp => h.done x hx hn fun p hp2 => by
    injection hp2 with hp2; subst hp2
    exact hp (b, k + 1) rfl
  at' := fun p hp => by
    injection hp with hp; subst hp
    have := h.at' _ rfl
    refine ⟨this.1, this.2.1, hk, fun j hj hjw => ?_⟩
    rcases Nat.lt_or_ge j k with h1 | h1
    · exact this.2.2.2 j h1 hjw
    · have e : j = k := by have : j < k + 1 := hj; omega
      subst e
      exact hc hjw
theorem Wk.push (hw : RngL to) (h : Wk to w s l f (some (b, k))) (hk : k < (nthD to b).length) (hc : nthD (nthD to b) k ≠ w) : Wk to w s (l ++ [(nthD (nthD to b) k).toNat]) (fun x => if x = (nthD (nthD to b) k).toNat then true else f x) (some (b, k + 1)) := by
  have hb := h.at' _ rfl
  have hr := hw b hb.1 _ (nthD_mem hk)
  have he : EdgeL to b (nthD (nthD to b) k).toNat := ⟨hb.1, by rw [Int.toNat_of_nonneg hr.1]; exact nthD_mem hk⟩
  have hm : ∀ x, f x = true → (if x = (nthD (nthD to b) k).toNat then true else f x) = true := fun x hx => by split; rfl; exact hx
  refine ⟨fun x hx => ?_, hm _ h.fst, fun x hx => ?_, fun x hx hn hp c hc' hcw => ?_, fun p hp => ?_⟩
  · rcases List.mem_append.1 hx with hx | hx
    · exact ⟨(h.lt x hx).1, hm _ (h.lt x hx).2⟩
    · rw [List.mem_singleton] at hx
      subst hx
      exact ⟨by omega, if_pos rfl⟩
  · by_cases e : x = (nthD (nthD to b) k).toNat
    · subst e
      exact .step (h.snd b hb.2.1) he (by rw [Int.toNat_of_nonneg hr.1]; exact hc)
    · rw [if_neg e] at hx
      exact h.snd x hx
  · by_cases e : x = (nthD (nthD to b) k).toNat
    · exact absurd (List.mem_append_right l (List.mem_singleton.2 e)) hn
    · rw [if_neg e] at hx
      exact hm _ (h.done x hx (fun h1 => hn (List.mem_append_left _ h1)) (fun p hp2 => by
        injection hp2 with hp2; subst hp2
        exact hp (b, k + 1) rfl) c hc' hcw)
  · injection hp with hp; subst hp
    refine ⟨hb.1, hm _ hb.2.1, hk, fun j hj hjw => ?_⟩
    rcases Nat.lt_or_ge j k with h1 | h1
    · exact hm _ (hb.2.2.2 j h1 hjw)
    · have e : j = k := by have : j < k + 1 := hj; omega
      subst e
      exact if_pos rfl
theorem Wk.next (h : Wk to w s l f (some (b, (nthD to b).length))) : Wk to w s l f none where
  lt := h.lt
  fst := h.fst
  snd := h.snd
  done := fun x hx hn _ c hc hcw => by
    by_cases e : x = b
    · subst e
      obtain ⟨j, hj, e2⟩ := List.mem_iff_getElem.1 hc.2
      have h3 : nthD (nthD to x) j = (c : Int) := by rw [nthD_get hj, e2]
      have := (h.at' _ rfl).2.2.2 j hj (by show nthD (nthD to x) j ≠ w; rw [h3]; exact hcw)
      have h4 : f (nthD (nthD to x) j).toNat = true := this
      rw [h3, Int.toNat_natCast] at h4
      exact h4
    · exact h.done x hx hn (fun p hp => by injection hp with hp; subst hp; exact e) c hc hcw
  at' := fun p hp => nomatch hp
theorem Wk.last (h : Wk to w s [] f none) (b : Nat) : f b = wayF to s w b := by
  rw [Bool.eq_iff_iff, wayF_iff]
  refine ⟨h.snd b, fun hb => ?_⟩
  induction hb with
  | base _ => exact h.fst
  | step _ he hp ih => exact h.done _ ih List.not_mem_nil (fun _ h => nomatch h) _ he hp
theorem exS.nums {l : List Nat} {junk : List T} {K : List T → Prop} (hk : K (numsR l)) : exS (numsR l ++ junk) 0 l.length K := exS.part (by
  rw [List.drop_zero, List.take_append_of_le_length (by simp), List.take_of_length_le (by simp)]
  exact hk)
theorem exE.top {L : List Nat} {b i : Nat} {junk : List T} {K : T → Prop} (h : Ob (i = L.length)) (hk : K (.int .i64 (b : Nat))) : exE (numsR (L ++ [b]) ++ junk) i K := by
  refine exE.at (x := .int .i64 (b : Nat)) ?_ hk
  rw [nth_eq, h.out, numsR, List.map_append, List.append_assoc, List.getElem?_append_right (by simp)]
  simp
end Go.Proofs.Ytgladinljapmkaa.Am

/- Loops: is a graph reducible? by the program. -/
namespace Go.Proofs.Ytgladinljapmkaa.Am
open Go Go.Proofs
set_option maxRecDepth 10000
set_option maxHeartbeats 2000000
set_option linter.unusedVariables false
set_option linter.unusedSimpArgs false
def MapC (es : List (Int × T)) (f : Int → Int) : Prop := ∀ n, (look n es).getD (.int .i64 0) = .int .i64 (f n)
theorem MapC.nil : MapC [] fun _ => 0 := fun n => rfl
theorem MapC.ent {es : List (Int × T)} {f : Int → Int} {n : Int} (h : MapC es f) : MapC (entE n (.int .i64 0) es) f := fun m => by
  unfold entE
  rw [look_ent]; exact h m
theorem MapC.put {es : List (Int × T)} {f : Int → Int} {n v : Int} (h : MapC es f) : MapC (putE n (.int .i64 v) es) fun m => if n = m then v else f m := fun m => by
  rw [look_putE]
  by_cases e : n = m
  · rw [if_pos e]
    show _ = T.int .i64 (if n = m then v else f m)
    rw [if_pos e]; rfl
  · rw [if_neg e]
    show _ = T.int .i64 (if n = m then v else f m)
    rw [if_neg e]; exact h m
theorem exL.mapC {es : List (Int × T)} (f : Int → Int) {n : Int} {K : T → Prop} (h : Ob (MapC es f)) (hk : K (.int .i64 (f n))) : exL es n (.int .i64 0) K := ⟨by rw [h.out n]; exact hk⟩
noncomputable def cntF (l : List (Int × Int)) (n : Int) : Int := ((l.countP fun p => decide (codeL [p.1, p.2] = n) : Nat) : Int)
theorem cntF_succ {l : List (Int × Int)} {i : Nat} (hi : i < l.length) : (fun m => if codeL [(nthD l i).1, (nthD l i).2] = m then cntF (l.take i) (codeL [(nthD l i).1, (nthD l i).2]) + 1 else cntF (l.take i) m) = cntF (l.take (i + 1)) := by
  funext m
  have e : l.take (i + 1) = l.take i ++ [nthD l i] := by rw [List.take_add_one, List.getElem?_eq_getElem hi, nthD_get hi]; rfl
  unfold cntF
  rw [e, List.countP_append, List.countP_cons, List.countP_nil]
  by_cases h : codeL [(nthD l i).1, (nthD l i).2] = m
  · rw [if_pos h, h]
    simp
  · rw [if_neg h]
    simp [h]
theorem cntF_le {l : List (Int × Int)} {n : Int} : 0 ≤ cntF l n ∧ cntF l n ≤ l.length := by
  unfold cntF
  have := List.countP_le_length (l := l) (p := fun p => decide (codeL [p.1, p.2] = n))
  omega
theorem backL_mem {to : List (List Int)} {a : Nat} {b : Int} (ha : a < to.length) (hb : b ∈ nthD to a) : ((a : Int), b) ∈ backL to ↔ domB to b.toNat a = true := by
  unfold backL backP backE
  rw [List.mem_flatMap]
  constructor
  · rintro ⟨x, hx, h⟩
    obtain ⟨y, hy, e⟩ := List.mem_map.1 h
    rw [List.mem_filter] at hy
    injection e with e1 e2
    have : x = a := by omega
    subst this e2
    exact hy.2
  · intro h
    refine ⟨a, List.mem_range.2 ha, List.mem_map.2 ⟨b, List.mem_filter.2 ⟨?_, h⟩, rfl⟩⟩
    rw [List.take_length]; exact hb
theorem cnt_back {to : List (List Int)} {a : Nat} {b : Int} (ha : a < to.length) (hb : b ∈ nthD to a) : 0 < cntF (backL to) (codeL [(a : Int), b]) ↔ domB to b.toNat a = true := by
  rw [← backL_mem ha hb]
  unfold cntF
  constructor
  · intro h
    have h : 0 < (backL to).countP fun p => decide (codeL [p.1, p.2] = codeL [(a : Int), b]) := by omega
    obtain ⟨p, hp, he⟩ := List.countP_pos_iff.1 h
    have := codeL_inj (of_decide_eq_true he)
    injection this with e1 e2
    injection e2 with e2 _
    rw [← e1, ← e2]; exact hp
  · intro h
    have : 0 < (backL to).countP fun p => decide (codeL [p.1, p.2] = codeL [(a : Int), b]) := List.countP_pos_iff.2 ⟨_, h, by simp⟩
    omega
theorem flatP {p : Int × Int} : FlatA (pairT p).cells := fun z hz => by
  have hz : z ∈ [T.int .i64 p.1, T.int .i64 p.2] := hz
  simp at hz
  rcases hz with rfl | rfl <;> rfl
theorem fR_take {to : List (List Int)} {a k : Nat} {l : List Int} (hk : k < l.length) : fR to a (l.take (k + 1)) = fR to a (l.take k) ++ (if domB to (nthD l k).toNat a then [] else [(nthD l k).toNat]) := by
  rw [take_succN hk, fR_append]
  congr 1
  rw [fR_cons, fR_nil, List.append_nil]
theorem fAll_take {to : List (List Int)} {o : List Nat} {i : Nat} (hi : i < o.length) : fAll to (o.take (i + 1)) = fAll to (o.take i) ++ fR to (nthD o i) (nthD to (nthD o i)) := by
  have e : o.take (i + 1) = o.take i ++ [nthD o i] := by rw [List.take_add_one, List.getElem?_eq_getElem hi, nthD_get hi]; rfl
  rw [e, fAll_append, fAll_one]
abbrev clO (es : List (Int × T)) : SObj := .nd e0 (.map (.arr .i64 2) es)
theorem congr_rows3 {g : Graph} {es : List (Int × T)} {pr A A' B B' : List T} {t t1 t2 n n1 n2 : Nat} (h1 : A = A') (h2 : B = B') :
    [gvar g, clO es, .row t n pr, SObj.row t1 n1 A, .dead, .dead, .row t2 n2 B] = [gvar g, clO es, .row t n pr, SObj.row t1 n1 A', .dead, .dead, .row t2 n2 B'] := by rw [h1, h2]
theorem reducible17 (g : Graph) (hg : g.tiny) (hw : ∀ b ∈ g.blocks, ∀ x ∈ allN b.fin, I64 x) : PCalls Try.prog 17 [g.t] (fun r => Ob ((g.leads ∧ r = .bool (redB (toL g))) ∨ (¬ g.leads ∧ r = .bool false))) := by
  by_cases hl : g.leads
  · have hlen : (toL g).length ≤ 20000 := by rw [toL_len]; exact hl.most
    have hW := hl.walk
    have hr := hl.small
    have hr2 := hl.short
    have h1 := hW.one
    refine PCalls.of_body ttOk Try.func17 rfl ?_
    repeat' ((conv => whnf); first | (with_reducible first | refine onBool_intro (fun _ => ?_) (fun _ => ?_) | refine And.intro (Ob.mk (Nat.le_of_ble_eq_true rfl)) ?_ | refine And.intro (Ob.mk rfl) ?_ | exact ⟨rfl, rfl⟩ | refine And.intro (Ob.mk (fun h => h)) ?_) | (with_reducible refine Or.inl (And.intro (Ob.mk (Flat.map ?_)) ?_); exact fun _ => rfl) | (refine Or.inl (And.intro (Ob.mk (flat_of rfl)) ?_)) | (refine Or.inl (And.intro (Ob.mk ⟨rfl, rfl, rfl, rfl⟩) ?_)) | (refine Or.inl (And.intro (Ob.mk ⟨rfl, rfl, rfl⟩) ?_)) | (refine And.intro (Ob.mk ⟨rfl, rfl⟩) ?_) | (with_reducible refine Or.inr ?_) | (refine And.intro (Ob.mk (flat_of rfl)) ?_) | (with_reducible refine And.intro (Ob.mk (Flat.map ?_)) ?_; exact fun _ => rfl) | (with_reducible first | exact Ob.mk (Flat.map fun _ => rfl) | refine And.intro ?_ ?_ | apply exG.mk | apply exGS.mk | exact Dd.nil) | (refine Dd.same _ ?_) | (refine Dd.dead _ ?_) | (with_reducible first | apply exQ.mk | apply exP.mk) | (refine EqP.mk rfl rfl) | (with_reducible apply exW.mk) | (refine EqW.mk rfl) | (with_reducible first | intro _ | refine Dn.mk ?_) | (refine exS.full (by first | rfl | (simp; done) | (simp; omega)) ?_) | (refine And.intro (Ob.mk ⟨rfl, rfl, by first | rfl | (simp; done) | (simp; omega)⟩) ?_) | (with_reducible refine exE.mapD ?_) | (refine exL.int ?_) | (with_reducible first | refine Up0.mk rfl ?_ | refine Up0i.mk rfl ?_ | refine Up1.mk rfl ?_ | refine Up1i.mk rfl ?_ | refine Up2.mk rfl ?_ | refine Up2i.mk rfl ?_) | (refine Col.mk rfl rfl rfl ?_) | (refine Coli.mk rfl rfl rfl rfl ?_) | (refine edges27k g hg hw hl ?_) | (refine back29k (toL g) hW hlen hr2 ?_))
    all_goals (try (refine Ob.mk ?_; first | assumption | exact ⟨rfl, rfl⟩ | exact ⟨rfl, rfl, rfl⟩ | (refine ⟨rfl, rfl, ?_⟩; simp only [List.length_map, List.length_take, List.length_append, els_len, List.length_replicate]; omega) | (intro h; exact h) | (intro h; rw [h]; rfl) | (intro h; simp_all; done) | (refine bytes_le (n := 1048577) ?_ rfl; simp only [ltI_iff, ltI_not, leI_iff, leI_not, eqI_iff, eqI_not, List.length_map, bif_and, bif_or, Bool.and_eq_true, Bool.and_eq_false_iff, Bool.or_eq_true, Bool.or_eq_false_iff, Bool.not_eq_true', Bool.not_eq_false', Int.toNat_natCast, beq_iff_eq, beq_eq_false_iff_ne, decide_eq_true_eq, decide_eq_false_iff_not, bel_iff, bel_not, wthn_iff, wthn_not, els_len, mixL_len, Nat.zero_add, List.length_set, List.length_take] at *; omega) | (simp only [ltI_iff, ltI_not, leI_iff, leI_not, eqI_iff, eqI_not, List.length_map, bif_and, bif_or, Bool.and_eq_true, Bool.and_eq_false_iff, Bool.or_eq_true, Bool.or_eq_false_iff, Bool.not_eq_true', Bool.not_eq_false', Int.toNat_natCast, beq_iff_eq, beq_eq_false_iff_ne, decide_eq_true_eq, decide_eq_false_iff_not, bel_iff, bel_not, wthn_iff, wthn_not, els_len, mixL_len, Nat.zero_add, List.length_set, List.length_take, Int.ofNat_eq_natCast] at *; omega)))
    all_goals (try (exfalso; rename_i h3 h4; rw [h3 (toL_ne hl)] at h4; cases h4; done))
    generalize toL g = to at *
    have hbl : (backL to).length ≤ 20000 * 2 ^ 20 := Nat.le_trans (backP_len hr2 (Nat.le_refl _)) (Nat.mul_le_mul_right _ hlen)
    conv => whnf
    refine LoopVC.mk [26] [] (fun m vals σ => ∃ (i : Nat) (es : List (Int × T)), vals = [.t (.int .i64 i)] ∧ σ = [gvar g, clO es, .row 35 2 (pairsR (backL to))] ∧ i ≤ (backL to).length ∧ MapC es (cntF ((backL to).take i)) ∧ m = (backL to).length - i) ?_ ?_
    · conv => whnf
      exact ⟨_, 0, [], rfl, rfl, Nat.zero_le _, .nil, rfl⟩
    · rintro m vals σ ⟨i, es, rfl, rfl, hi, hM, rfl⟩
      repeat' ((conv => whnf); first | (with_reducible first | refine onBool_intro (fun _ => ?_) (fun _ => ?_) | refine And.intro (Ob.mk (Nat.le_of_ble_eq_true rfl)) ?_ | refine And.intro (Ob.mk rfl) ?_ | exact ⟨rfl, rfl⟩ | refine And.intro (Ob.mk (fun h => h)) ?_) | (with_reducible refine Or.inl (And.intro (Ob.mk (Flat.map ?_)) ?_); exact fun _ => rfl) | (refine Or.inl (And.intro (Ob.mk (flat_of rfl)) ?_)) | (refine Or.inl (And.intro (Ob.mk ⟨rfl, rfl, rfl, rfl⟩) ?_)) | (refine Or.inl (And.intro (Ob.mk ⟨rfl, rfl, rfl⟩) ?_)) | (refine And.intro (Ob.mk ⟨rfl, rfl⟩) ?_) | (with_reducible refine Or.inr ?_) | (refine And.intro (Ob.mk (flat_of rfl)) ?_) | (with_reducible refine And.intro (Ob.mk (Flat.map ?_)) ?_; exact fun _ => rfl) | (with_reducible first | exact Ob.mk (Flat.map fun _ => rfl) | refine And.intro ?_ ?_ | apply exG.mk | apply exGS.mk | exact Dd.nil) | (refine Dd.same _ ?_) | (refine Dd.dead _ ?_) | (with_reducible first | apply exQ.mk | apply exP.mk) | (refine EqP.mk rfl rfl) | (with_reducible apply exW.mk) | (refine EqW.mk rfl) | (with_reducible first | intro _ | refine Dn.mk ?_) | (refine exS.full (by first | rfl | (simp; done) | (simp; omega)) ?_) | (refine And.intro (Ob.mk ⟨rfl, rfl, by first | rfl | (simp; done) | (simp; omega)⟩) ?_) | (with_reducible refine exE.mapD ?_) | (refine exL.int ?_) | (with_reducible first | refine Up0.mk rfl ?_ | refine Up0i.mk rfl ?_ | refine Up1.mk rfl ?_ | refine Up1i.mk rfl ?_ | refine Up2.mk rfl ?_ | refine Up2i.mk rfl ?_) | (refine Col.mk rfl rfl rfl ?_) | (refine Coli.mk rfl rfl rfl rfl ?_) | (refine drawVC.mkM _ _ 7 7 [(4, [2, 3]), (5, [2, 3]), (6, [])] [[], [], [0, 1], [0, 1, 2], [0, 1], [0, 1, 4], [0, 1, 2, 3, 4, 5]] rfl (by kernel_rfl) ?_) | (refine exL.mapC (cntF ((backL to).take i)) ?_ ?_) | (refine exSt.put ?_) | (with_reducible apply exV.mk) | (refine EqV.mk rfl rfl))
      all_goals (try (refine Ob.mk ?_; first | assumption | exact ⟨rfl, rfl⟩ | exact ⟨rfl, rfl, rfl⟩ | (refine ⟨rfl, rfl, ?_⟩; simp only [List.length_map, List.length_take, List.length_append, els_len, List.length_replicate]; omega) | (intro h; exact h) | (intro h; rw [h]; rfl) | (intro h; simp_all; done) | (refine bytes_le (n := 1048577) ?_ rfl; simp only [ltI_iff, ltI_not, leI_iff, leI_not, eqI_iff, eqI_not, List.length_map, bif_and, bif_or, Bool.and_eq_true, Bool.and_eq_false_iff, Bool.or_eq_true, Bool.or_eq_false_iff, Bool.not_eq_true', Bool.not_eq_false', Int.toNat_natCast, beq_iff_eq, beq_eq_false_iff_ne, decide_eq_true_eq, decide_eq_false_iff_not, bel_iff, bel_not, wthn_iff, wthn_not, els_len, mixL_len, Nat.zero_add, List.length_set, List.length_take] at *; omega) | (simp only [ltI_iff, ltI_not, leI_iff, leI_not, eqI_iff, eqI_not, List.length_map, bif_and, bif_or, Bool.and_eq_true, Bool.and_eq_false_iff, Bool.or_eq_true, Bool.or_eq_false_iff, Bool.not_eq_true', Bool.not_eq_false', Int.toNat_natCast, beq_iff_eq, beq_eq_false_iff_ne, decide_eq_true_eq, decide_eq_false_iff_not, bel_iff, bel_not, wthn_iff, wthn_not, els_len, mixL_len, Nat.zero_add, List.length_set, List.length_take, Int.ofNat_eq_natCast] at *; omega)))
      all_goals (try exact Ob.mk flatP)
      all_goals (try exact Ob.mk hM.ent)
      · conv => whnf
        have hi2 : i < (backL to).length := by
          have h3 : ltI (i : Int) (((pairsR (backL to)).length : Nat) : Int) = true := by assumption
          rw [ltI_iff, List.length_map] at h3; omega
        have ei : 0 + ((i : Int)).toNat = i := by simp
        have hc := cntF_le (l := (backL to).take i) (n := codeL [(nthD (backL to) i).1, (nthD (backL to) i).2])
        have hcl : ((backL to).take i).length ≤ (backL to).length := by rw [List.length_take]; omega
        refine ⟨(backL to).length - (i + 1), by omega, i + 1, _, ?_, rfl, hi2, ?_, rfl⟩
        · rw [addI_i64 (by omega) (by omega)]; rfl
        · rw [ei, addI_i64 (by omega) (by omega), ← cntF_succ hi2]
          exact hM.put
      · refine Ob.mk ?_
        show (_ : Int) * ((8 : Nat) : Int) ≤ _
        rw [List.length_map]; omega
      · rename_i h3 _
        have hi3 : i = (backL to).length := by
          rw [ltI_not, List.length_map] at h3; omega
        subst hi3
        rw [List.take_length] at hM
        repeat' ((conv => whnf); first | (with_reducible first | refine onBool_intro (fun _ => ?_) (fun _ => ?_) | refine And.intro (Ob.mk (Nat.le_of_ble_eq_true rfl)) ?_ | refine And.intro (Ob.mk rfl) ?_ | exact ⟨rfl, rfl⟩ | refine And.intro (Ob.mk (fun h => h)) ?_) | (with_reducible refine Or.inl (And.intro (Ob.mk (Flat.map ?_)) ?_); exact fun _ => rfl) | (refine Or.inl (And.intro (Ob.mk (flat_of rfl)) ?_)) | (refine Or.inl (And.intro (Ob.mk ⟨rfl, rfl, rfl, rfl⟩) ?_)) | (refine Or.inl (And.intro (Ob.mk ⟨rfl, rfl, rfl⟩) ?_)) | (refine And.intro (Ob.mk ⟨rfl, rfl⟩) ?_) | (with_reducible refine Or.inr ?_) | (refine And.intro (Ob.mk (flat_of rfl)) ?_) | (with_reducible refine And.intro (Ob.mk (Flat.map ?_)) ?_; exact fun _ => rfl) | (with_reducible first | exact Ob.mk (Flat.map fun _ => rfl) | refine And.intro ?_ ?_ | apply exG.mk | apply exGS.mk | exact Dd.nil) | (refine Dd.same _ ?_) | (refine Dd.dead _ ?_) | (with_reducible first | apply exQ.mk | apply exP.mk) | (refine EqP.mk rfl rfl) | (with_reducible apply exW.mk) | (refine EqW.mk rfl) | (with_reducible first | intro _ | refine Dn.mk ?_) | (refine exS.full (by first | rfl | (simp; done) | (simp; omega)) ?_) | (refine And.intro (Ob.mk ⟨rfl, rfl, by first | rfl | (simp; done) | (simp; omega)⟩) ?_) | (with_reducible refine exE.mapD ?_) | (refine exL.int ?_) | (with_reducible first | refine Up0.mk rfl ?_ | refine Up0i.mk rfl ?_ | refine Up1.mk rfl ?_ | refine Up1i.mk rfl ?_ | refine Up2.mk rfl ?_ | refine Up2i.mk rfl ?_) | (refine Col.mk rfl rfl rfl ?_) | (refine Coli.mk rfl rfl rfl rfl ?_) | (refine behind40k to hW hlen hr2 ?_))
        rename_i o hL _
        have hol := nodup_lt_len hL.nodup fun x hx => hW.rch ((hL.mem x).1 hx)
        have hfl : ∀ L : List Nat, L.length ≤ 20000 → (∀ a ∈ L, a < to.length) → (fAll to L).length ≤ 20000 * 20000 := fun L hLl hLm =>
          Nat.le_trans (fAll_len (m := 20000) fun a ha => hr _ (nthD_mem (hLm a ha))) (Nat.mul_le_mul_right _ hLl)
        have hom : ∀ a ∈ o, a < to.length := fun a ha => hW.rch ((hL.mem a).1 ha)
        conv => whnf
        refine LoopVC.mk [44] [] (fun m vals σ => ∃ i : Nat, vals = [.t (.int .i64 i)] ∧ σ = [gvar g, clO es, .row 35 2 (pairsR (backL to)), .row 3 1 (tellR to.length fun b => ((fAll to (o.take i)).count b : Nat))] ∧ i ≤ o.length ∧ m = o.length - i) ?_ ?_
        · conv => whnf
          refine ⟨_, 0, rfl, ?_, Nat.zero_le _, rfl⟩
          rw [List.length_map, Int.toNat_natCast]
          exact congrArg (fun z => [gvar g, clO es, .row 35 2 (pairsR (backL to)), SObj.row 3 1 z]) tellR_zero
        · rintro m vals σ ⟨i, rfl, rfl, hi, rfl⟩
          have hit : i < o.length → nthD o i < to.length := fun h => hom _ (nthD_mem h)
          repeat' ((conv => whnf); first | (with_reducible first | refine onBool_intro (fun _ => ?_) (fun _ => ?_) | refine And.intro (Ob.mk (Nat.le_of_ble_eq_true rfl)) ?_ | refine And.intro (Ob.mk rfl) ?_ | exact ⟨rfl, rfl⟩ | refine And.intro (Ob.mk (fun h => h)) ?_) | (with_reducible refine Or.inl (And.intro (Ob.mk (Flat.map ?_)) ?_); exact fun _ => rfl) | (refine Or.inl (And.intro (Ob.mk (flat_of rfl)) ?_)) | (refine Or.inl (And.intro (Ob.mk ⟨rfl, rfl, rfl, rfl⟩) ?_)) | (refine Or.inl (And.intro (Ob.mk ⟨rfl, rfl, rfl⟩) ?_)) | (refine And.intro (Ob.mk ⟨rfl, rfl⟩) ?_) | (with_reducible refine Or.inr ?_) | (refine And.intro (Ob.mk (flat_of rfl)) ?_) | (with_reducible refine And.intro (Ob.mk (Flat.map ?_)) ?_; exact fun _ => rfl) | (with_reducible first | exact Ob.mk (Flat.map fun _ => rfl) | refine And.intro ?_ ?_ | apply exG.mk | apply exGS.mk | exact Dd.nil) | (refine Dd.same _ ?_) | (refine Dd.dead _ ?_) | (with_reducible first | apply exQ.mk | apply exP.mk) | (refine EqP.mk rfl rfl) | (with_reducible apply exW.mk) | (refine EqW.mk rfl) | (with_reducible first | intro _ | refine Dn.mk ?_) | (refine exS.full (by first | rfl | (simp; done) | (simp; omega)) ?_) | (refine And.intro (Ob.mk ⟨rfl, rfl, by first | rfl | (simp; done) | (simp; omega)⟩) ?_) | (with_reducible refine exE.mapD ?_) | (refine exL.int ?_) | (with_reducible first | refine Up0.mk rfl ?_ | refine Up0i.mk rfl ?_ | refine Up1.mk rfl ?_ | refine Up1i.mk rfl ?_ | refine Up2.mk rfl ?_ | refine Up2i.mk rfl ?_) | (refine Col.mk rfl rfl rfl ?_) | (refine Coli.mk rfl rfl rfl rfl ?_))
          all_goals (try (refine Ob.mk ?_; first | assumption | exact ⟨rfl, rfl⟩ | exact ⟨rfl, rfl, rfl⟩ | (refine ⟨rfl, rfl, ?_⟩; simp only [List.length_map, List.length_take, List.length_append, els_len, List.length_replicate]; omega) | (intro h; exact h) | (intro h; rw [h]; rfl) | (intro h; simp_all; done) | (refine bytes_le (n := 1048577) ?_ rfl; simp only [ltI_iff, ltI_not, leI_iff, leI_not, eqI_iff, eqI_not, List.length_map, bif_and, bif_or, Bool.and_eq_true, Bool.and_eq_false_iff, Bool.or_eq_true, Bool.or_eq_false_iff, Bool.not_eq_true', Bool.not_eq_false', Int.toNat_natCast, beq_iff_eq, beq_eq_false_iff_ne, decide_eq_true_eq, decide_eq_false_iff_not, bel_iff, bel_not, wthn_iff, wthn_not, els_len, mixL_len, Nat.zero_add, List.length_set, List.length_take] at *; omega) | (simp only [ltI_iff, ltI_not, leI_iff, leI_not, eqI_iff, eqI_not, List.length_map, bif_and, bif_or, Bool.and_eq_true, Bool.and_eq_false_iff, Bool.or_eq_true, Bool.or_eq_false_iff, Bool.not_eq_true', Bool.not_eq_false', Int.toNat_natCast, beq_iff_eq, beq_eq_false_iff_ne, decide_eq_true_eq, decide_eq_false_iff_not, bel_iff, bel_not, wthn_iff, wthn_not, els_len, mixL_len, Nat.zero_add, List.length_set, List.length_take, Int.ofNat_eq_natCast] at *; omega)))
          · have hi2 : i < o.length := by
              have h3 : ltI (i : Int) (((numsR o).length : Nat) : Int) = true := by assumption
              rw [ltI_iff, List.length_map] at h3; omega
            have hal := hit hi2
            have har : Rch (EdgeL to) (nthD o i) := (hL.mem _).1 (nthD_mem hi2)
            have hrl := hr _ (nthD_mem hal)
            have hb1 := hfl (o.take i) (by rw [List.length_take]; omega) fun a ha => hom a (List.mem_of_mem_take ha)
            conv => whnf
            refine LoopVC.mk [53] [] (fun m vals σ => ∃ k : Nat, vals = [.t (.int .i64 k)] ∧ σ = [gvar g, clO es, .row 35 2 (pairsR (backL to)), .row 3 1 (tellR to.length fun b => ((fAll to (o.take i) ++ fR to (nthD o i) ((nthD to (nthD o i)).take k)).count b : Nat))] ∧ k ≤ (nthD to (nthD o i)).length ∧ m = (nthD to (nthD o i)).length - k) ?_ ?_
            · conv => whnf
              refine ⟨_, 0, rfl, ?_, Nat.zero_le _, rfl⟩
              rw [List.take_zero, fR_nil, List.append_nil]
            · rintro m2 vals σ ⟨k, rfl, rfl, hk, rfl⟩
              have hb2 := fR_len (to := to) (a := nthD o i) (l := (nthD to (nthD o i)).take k)
              have hkk : ltI (k : Int) ((((nthD to (((nthD o ((i : Int)).toNat : Nat) : Int)).toNat).map fun n => T.int .i64 n).length : Nat) : Int) = true → k < (nthD to (nthD o i)).length := fun h => by
                rw [ltI_iff, List.length_map, Int.toNat_natCast, Int.toNat_natCast] at h; omega
              have hrg : k < (nthD to (nthD o i)).length → 0 ≤ nthD (nthD to (nthD o i)) k ∧ nthD (nthD to (nthD o i)) k < to.length := fun h => hW.rng _ hal _ (nthD_mem h)
              have ebk : nthD (nthD to (((nthD o ((i : Int)).toNat : Nat) : Int)).toNat) ((k : Int)).toNat = nthD (nthD to (nthD o i)) k := by rw [Int.toNat_natCast, Int.toNat_natCast, Int.toNat_natCast]
              have eoi : nthD o ((i : Int)).toNat = nthD o i := by rw [Int.toNat_natCast]
              repeat' ((conv => whnf); first | (with_reducible first | refine onBool_intro (fun _ => ?_) (fun _ => ?_) | refine And.intro (Ob.mk (Nat.le_of_ble_eq_true rfl)) ?_ | refine And.intro (Ob.mk rfl) ?_ | exact ⟨rfl, rfl⟩ | refine And.intro (Ob.mk (fun h => h)) ?_) | (with_reducible refine Or.inl (And.intro (Ob.mk (Flat.map ?_)) ?_); exact fun _ => rfl) | (refine Or.inl (And.intro (Ob.mk (flat_of rfl)) ?_)) | (refine Or.inl (And.intro (Ob.mk ⟨rfl, rfl, rfl, rfl⟩) ?_)) | (refine Or.inl (And.intro (Ob.mk ⟨rfl, rfl, rfl⟩) ?_)) | (refine And.intro (Ob.mk ⟨rfl, rfl⟩) ?_) | (with_reducible refine Or.inr ?_) | (refine And.intro (Ob.mk (flat_of rfl)) ?_) | (with_reducible refine And.intro (Ob.mk (Flat.map ?_)) ?_; exact fun _ => rfl) | (with_reducible first | exact Ob.mk (Flat.map fun _ => rfl) | refine And.intro ?_ ?_ | apply exG.mk | apply exGS.mk | exact Dd.nil) | (refine Dd.same _ ?_) | (refine Dd.dead _ ?_) | (with_reducible first | apply exQ.mk | apply exP.mk) | (refine EqP.mk rfl rfl) | (with_reducible apply exW.mk) | (refine EqW.mk rfl) | (with_reducible first | intro _ | refine Dn.mk ?_) | (refine exS.full (by first | rfl | (simp; done) | (simp; omega)) ?_) | (refine And.intro (Ob.mk ⟨rfl, rfl, by first | rfl | (simp; done) | (simp; omega)⟩) ?_) | (with_reducible refine exE.mapD ?_) | (refine exL.int ?_) | (with_reducible first | refine Up0.mk rfl ?_ | refine Up0i.mk rfl ?_ | refine Up1.mk rfl ?_ | refine Up1i.mk rfl ?_ | refine Up2.mk rfl ?_ | refine Up2i.mk rfl ?_) | (refine Col.mk rfl rfl rfl ?_) | (refine Coli.mk rfl rfl rfl rfl ?_) | (refine exL.mapC (cntF (backL to)) ?_ ?_))
              all_goals (try (refine Ob.mk ?_; first | assumption | exact ⟨rfl, rfl⟩ | exact ⟨rfl, rfl, rfl⟩ | (refine ⟨rfl, rfl, ?_⟩; simp only [List.length_map, List.length_take, List.length_append, els_len, List.length_replicate]; omega) | (intro h; exact h) | (intro h; rw [h]; rfl) | (intro h; simp_all; done) | (refine bytes_le (n := 1048577) ?_ rfl; simp only [ltI_iff, ltI_not, leI_iff, leI_not, eqI_iff, eqI_not, List.length_map, bif_and, bif_or, Bool.and_eq_true, Bool.and_eq_false_iff, Bool.or_eq_true, Bool.or_eq_false_iff, Bool.not_eq_true', Bool.not_eq_false', Int.toNat_natCast, beq_iff_eq, beq_eq_false_iff_ne, decide_eq_true_eq, decide_eq_false_iff_not, bel_iff, bel_not, wthn_iff, wthn_not, els_len, mixL_len, Nat.zero_add, List.length_set, List.length_take] at *; omega) | (simp only [ltI_iff, ltI_not, leI_iff, leI_not, eqI_iff, eqI_not, List.length_map, bif_and, bif_or, Bool.and_eq_true, Bool.and_eq_false_iff, Bool.or_eq_true, Bool.or_eq_false_iff, Bool.not_eq_true', Bool.not_eq_false', Int.toNat_natCast, beq_iff_eq, beq_eq_false_iff_ne, decide_eq_true_eq, decide_eq_false_iff_not, bel_iff, bel_not, wthn_iff, wthn_not, els_len, mixL_len, Nat.zero_add, List.length_set, List.length_take, Int.ofNat_eq_natCast] at *; omega)))
              all_goals (try exact Ob.mk hM)
              all_goals (try have hk3 := hkk (by assumption))
              all_goals (try (refine Ob.mk ?_; rw [ebk]; have := hrg hk3; simp; omega))
              all_goals (try (refine Ob.mk ?_; rw [ebk]; have := hrg hk3; omega))
              · conv => whnf
                have hd : domB to (nthD (nthD to (nthD o i)) k).toNat (nthD o i) = false := by
                  have h4 : eqI (cntF (backL to) (codeL [((nthD o ((i : Int)).toNat : Nat) : Int), nthD (nthD to (((nthD o ((i : Int)).toNat : Nat) : Int)).toNat) ((k : Int)).toNat])) 0 = true := by assumption
                  rw [ebk, eoi, eqI_iff] at h4
                  rw [Bool.eq_false_iff]
                  intro h5
                  have := (cnt_back hal (nthD_mem hk3)).2 h5
                  omega
                have hr3 := hrg hk3
                refine ⟨(nthD to (nthD o i)).length - (k + 1), by omega, k + 1, ?_, ?_, by omega, rfl⟩
                · rw [addI_i64 (by omega) (by omega)]; rfl
                · refine congrArg (fun z => [gvar g, clO es, .row 35 2 (pairsR (backL to)), SObj.row 3 1 z]) ?_
                  refine (tellR_set rfl).trans (tellR_congr fun j hj => ?_)
                  have et := fR_take (to := to) (a := nthD o i) hk3
                  rw [hd] at et
                  have et : fR to (nthD o i) ((nthD to (nthD o i)).take (k + 1)) = fR to (nthD o i) ((nthD to (nthD o i)).take k) ++ [(nthD (nthD to (nthD o i)) k).toNat] := et
                  have hlt : ((nthD to (nthD o i)).take k).length ≤ 20000 := by rw [List.length_take]; omega
                  have hXl : (fAll to (o.take i) ++ fR to (nthD o i) ((nthD to (nthD o i)).take k)).length ≤ 400020000 := by rw [List.length_append]; omega
                  rw [ebk, Nat.zero_add, nthD_range (by omega), et, ← List.append_assoc]
                  generalize fAll to (o.take i) ++ fR to (nthD o i) ((nthD to (nthD o i)).take k) = X at *
                  have hcl := List.count_le_length (a := (nthD (nthD to (nthD o i)) k).toNat) (l := X)
                  rw [List.count_append]
                  dsimp only
                  by_cases e : j = (nthD (nthD to (nthD o i)) k).toNat
                  · rw [if_pos e, e, addI_i64 (by omega) (by omega)]
                    simp
                  · rw [if_neg e]
                    have : ¬ (nthD (nthD to (nthD o i)) k).toNat = j := fun h => e h.symm
                    simp [List.count_cons, this]
              · conv => whnf
                have hd : domB to (nthD (nthD to (nthD o i)) k).toNat (nthD o i) = true := by
                  have h4 : eqI (cntF (backL to) (codeL [((nthD o ((i : Int)).toNat : Nat) : Int), nthD (nthD to (((nthD o ((i : Int)).toNat : Nat) : Int)).toNat) ((k : Int)).toNat])) 0 = false := by assumption
                  rw [ebk, eoi, eqI_not] at h4
                  have := cntF_le (l := backL to) (n := codeL [((nthD o i : Nat) : Int), nthD (nthD to (nthD o i)) k])
                  exact (cnt_back hal (nthD_mem hk3)).1 (by omega)
                refine ⟨(nthD to (nthD o i)).length - (k + 1), by omega, k + 1, ?_, ?_, by omega, rfl⟩
                · rw [addI_i64 (by omega) (by omega)]; rfl
                · rw [fR_take hk3, if_pos hd, List.append_nil]
              · conv => whnf
                have hk4 : k = (nthD to (nthD o i)).length := by
                  have h3 : ltI (k : Int) ((((nthD to (((nthD o ((i : Int)).toNat : Nat) : Int)).toNat).map fun n => T.int .i64 n).length : Nat) : Int) = false := by assumption
                  rw [ltI_not, List.length_map, Int.toNat_natCast, Int.toNat_natCast] at h3
                  omega
                refine ⟨o.length - (i + 1), by omega, i + 1, ?_, ?_, hi2, rfl⟩
                · rw [addI_i64 (by omega) (by omega)]; rfl
                · rw [fAll_take hi2, hk4, List.take_length]
          · exact Ob.mk (by simp; omega)
          · exfalso
            rename_i h3 h4
            have hi4 : i = o.length := by
              rw [ltI_not, List.length_map] at h3; omega
            subst hi4
            rw [ltI_iff] at h4
            have h4 : (0 : Int) < ((fAll to (o.take o.length)).count (nthD (List.range to.length) (0 + Int.toNat 0)) : Nat) := h4
            rw [List.take_length, show 0 + Int.toNat 0 = 0 from rfl, nthD_range (by omega)] at h4
            have h5 : 0 < (fAll to o).count 0 := by omega
            obtain ⟨a, _, h6⟩ := (fAll_mem hW fun a ha => (hL.mem a).1 ha).1 (List.count_pos_iff.1 h5)
            exact Forth.zero h6
          · rename_i h3 _
            have hi4 : i = o.length := by
              rw [ltI_not, List.length_map] at h3; omega
            subst hi4
            rw [List.take_length]
            conv => whnf
            refine LoopVC.mk [13, 14] [] (fun m vals σ => ∃ (P l : List Nat) (u : Nat → Int) (junk : List T), vals = [.t (.int .i64 (P.length : Nat)), .osl 5 0 l.length] ∧ σ = [gvar g, clO es, .row 35 2 (pairsR (backL to)), .row 3 1 (tellR to.length u), .dead, .row 3 1 (numsR l ++ junk)] ∧ Kn to o P l u [] 0 ∧ m = o.length - P.length) ?_ ?_
            · conv => whnf
              exact ⟨_, [], [0], _, [], rfl, rfl, .init hW hL fun b => rfl, rfl⟩
            · rintro m vals σ ⟨P, l, u, junk, rfl, rfl, hK, rfl⟩
              have hPl := hK.len
              rcases List.eq_nil_or_concat l with rfl | ⟨L, a, e0⟩
              · repeat' ((conv => whnf); first | (with_reducible first | refine onBool_intro (fun _ => ?_) (fun _ => ?_) | refine And.intro (Ob.mk (Nat.le_of_ble_eq_true rfl)) ?_ | refine And.intro (Ob.mk rfl) ?_ | exact ⟨rfl, rfl⟩ | refine And.intro (Ob.mk (fun h => h)) ?_) | (with_reducible refine Or.inl (And.intro (Ob.mk (Flat.map ?_)) ?_); exact fun _ => rfl) | (refine Or.inl (And.intro (Ob.mk (flat_of rfl)) ?_)) | (refine Or.inl (And.intro (Ob.mk ⟨rfl, rfl, rfl, rfl⟩) ?_)) | (refine Or.inl (And.intro (Ob.mk ⟨rfl, rfl, rfl⟩) ?_)) | (refine And.intro (Ob.mk ⟨rfl, rfl⟩) ?_) | (with_reducible refine Or.inr ?_) | (refine And.intro (Ob.mk (flat_of rfl)) ?_) | (with_reducible refine And.intro (Ob.mk (Flat.map ?_)) ?_; exact fun _ => rfl) | (with_reducible first | exact Ob.mk (Flat.map fun _ => rfl) | refine And.intro ?_ ?_ | apply exG.mk | apply exGS.mk | exact Dd.nil) | (refine Dd.same _ ?_) | (refine Dd.dead _ ?_) | (with_reducible first | apply exQ.mk | apply exP.mk) | (refine EqP.mk rfl rfl) | (with_reducible apply exW.mk) | (refine EqW.mk rfl) | (with_reducible first | intro _ | refine Dn.mk ?_) | (refine exS.full (by first | rfl | (simp; done) | (simp; omega)) ?_) | (refine And.intro (Ob.mk ⟨rfl, rfl, by first | rfl | (simp; done) | (simp; omega)⟩) ?_) | (with_reducible refine exE.mapD ?_) | (refine exL.int ?_) | (with_reducible first | refine Up0.mk rfl ?_ | refine Up0i.mk rfl ?_ | refine Up1.mk rfl ?_ | refine Up1i.mk rfl ?_ | refine Up2.mk rfl ?_ | refine Up2i.mk rfl ?_) | (refine Col.mk rfl rfl rfl ?_) | (refine Coli.mk rfl rfl rfl rfl ?_))
                all_goals (try (refine Ob.mk ?_; first | assumption | exact ⟨rfl, rfl⟩ | exact ⟨rfl, rfl, rfl⟩ | (refine ⟨rfl, rfl, ?_⟩; simp only [List.length_map, List.length_take, List.length_append, els_len, List.length_replicate]; omega) | (intro h; exact h) | (intro h; rw [h]; rfl) | (intro h; simp_all; done) | (refine bytes_le (n := 1048577) ?_ rfl; simp only [ltI_iff, ltI_not, leI_iff, leI_not, eqI_iff, eqI_not, List.length_map, bif_and, bif_or, Bool.and_eq_true, Bool.and_eq_false_iff, Bool.or_eq_true, Bool.or_eq_false_iff, Bool.not_eq_true', Bool.not_eq_false', Int.toNat_natCast, beq_iff_eq, beq_eq_false_iff_ne, decide_eq_true_eq, decide_eq_false_iff_not, bel_iff, bel_not, wthn_iff, wthn_not, els_len, mixL_len, Nat.zero_add, List.length_set, List.length_take] at *; omega) | (simp only [ltI_iff, ltI_not, leI_iff, leI_not, eqI_iff, eqI_not, List.length_map, bif_and, bif_or, Bool.and_eq_true, Bool.and_eq_false_iff, Bool.or_eq_true, Bool.or_eq_false_iff, Bool.not_eq_true', Bool.not_eq_false', Int.toNat_natCast, beq_iff_eq, beq_eq_false_iff_ne, decide_eq_true_eq, decide_eq_false_iff_not, bel_iff, bel_not, wthn_iff, wthn_not, els_len, mixL_len, Nat.zero_add, List.length_set, List.length_take, Int.ofNat_eq_natCast] at *; omega)))
                all_goals (try (exfalso; have h3 : ltI 0 _ = true := (by assumption); have := ltI_iff.1 h3; simp at this; done))
                refine Ob.mk (.inl ⟨hl, ?_⟩)
                congr 1
                rw [Bool.eq_iff_iff, redB_iff, eqI_iff, ← hK.last hW hL, List.length_map]
                omega
              · rw [List.concat_eq_append] at e0
                subst e0
                have hL1 : (L ++ [a]).length = L.length + 1 := by simp
                have hao : a ∈ o := hK.sub a (by simp)
                have har := (hL.mem a).1 hao
                have hal := hom a hao
                have hrl := hr _ (nthD_mem hal)
                have esub : subI .i64 (((L ++ [a]).length : Nat) : Int) 1 = (L.length : Int) := by
                  rw [hL1, subI_i64 (by omega) (by omega)]; omega
                have hKp := hK.pop hW hL
                repeat' ((conv => whnf); first | (with_reducible first | refine onBool_intro (fun _ => ?_) (fun _ => ?_) | refine And.intro (Ob.mk (Nat.le_of_ble_eq_true rfl)) ?_ | refine And.intro (Ob.mk rfl) ?_ | exact ⟨rfl, rfl⟩ | refine And.intro (Ob.mk (fun h => h)) ?_) | (with_reducible refine Or.inl (And.intro (Ob.mk (Flat.map ?_)) ?_); exact fun _ => rfl) | (refine Or.inl (And.intro (Ob.mk (flat_of rfl)) ?_)) | (refine Or.inl (And.intro (Ob.mk ⟨rfl, rfl, rfl, rfl⟩) ?_)) | (refine Or.inl (And.intro (Ob.mk ⟨rfl, rfl, rfl⟩) ?_)) | (refine And.intro (Ob.mk ⟨rfl, rfl⟩) ?_) | (with_reducible refine Or.inr ?_) | (refine And.intro (Ob.mk (flat_of rfl)) ?_) | (with_reducible refine And.intro (Ob.mk (Flat.map ?_)) ?_; exact fun _ => rfl) | (with_reducible first | exact Ob.mk (Flat.map fun _ => rfl) | refine And.intro ?_ ?_ | apply exG.mk | apply exGS.mk | exact Dd.nil) | (refine Dd.same _ ?_) | (refine Dd.dead _ ?_) | (with_reducible first | apply exQ.mk | apply exP.mk) | (refine EqP.mk rfl rfl) | (with_reducible apply exW.mk) | (refine EqW.mk rfl) | (with_reducible first | intro _ | refine Dn.mk ?_) | (refine exS.full (by first | rfl | (simp; done) | (simp; omega)) ?_) | (refine And.intro (Ob.mk ⟨rfl, rfl, by first | rfl | (simp; done) | (simp; omega)⟩) ?_) | (with_reducible refine exE.mapD ?_) | (refine exL.int ?_) | (with_reducible first | refine Up0.mk rfl ?_ | refine Up0i.mk rfl ?_ | refine Up1.mk rfl ?_ | refine Up1i.mk rfl ?_ | refine Up2.mk rfl ?_ | refine Up2i.mk rfl ?_) | (refine Col.mk rfl rfl rfl ?_) | (refine Coli.mk rfl rfl rfl rfl ?_) | (refine exE.top ?_ ?_))
                all_goals (try (refine Ob.mk ?_; first | assumption | exact ⟨rfl, rfl⟩ | exact ⟨rfl, rfl, rfl⟩ | (refine ⟨rfl, rfl, ?_⟩; simp only [List.length_map, List.length_take, List.length_append, els_len, List.length_replicate]; omega) | (intro h; exact h) | (intro h; rw [h]; rfl) | (intro h; simp_all; done) | (refine bytes_le (n := 1048577) ?_ rfl; simp only [ltI_iff, ltI_not, leI_iff, leI_not, eqI_iff, eqI_not, List.length_map, bif_and, bif_or, Bool.and_eq_true, Bool.and_eq_false_iff, Bool.or_eq_true, Bool.or_eq_false_iff, Bool.not_eq_true', Bool.not_eq_false', Int.toNat_natCast, beq_iff_eq, beq_eq_false_iff_ne, decide_eq_true_eq, decide_eq_false_iff_not, bel_iff, bel_not, wthn_iff, wthn_not, els_len, mixL_len, Nat.zero_add, List.length_set, List.length_take] at *; omega) | (simp only [ltI_iff, ltI_not, leI_iff, leI_not, eqI_iff, eqI_not, List.length_map, bif_and, bif_or, Bool.and_eq_true, Bool.and_eq_false_iff, Bool.or_eq_true, Bool.or_eq_false_iff, Bool.not_eq_true', Bool.not_eq_false', Int.toNat_natCast, beq_iff_eq, beq_eq_false_iff_ne, decide_eq_true_eq, decide_eq_false_iff_not, bel_iff, bel_not, wthn_iff, wthn_not, els_len, mixL_len, Nat.zero_add, List.length_set, List.length_take, Int.ofNat_eq_natCast] at *; omega)))
                all_goals (try rw [esub])
                all_goals (try (refine Ob.mk ?_; simp; omega))
                all_goals (try (exfalso; have h3 : ltI 0 _ = false := (by assumption); have := ltI_not.1 h3; simp at this; omega))
                · refine Ob.mk ?_
                  rw [Int.toNat_natCast, List.length_append, List.length_map, hL1]; omega
                conv => whnf
                refine LoopVC.mk [97, 14] [] (fun m vals σ => ∃ (k : Nat) (l : List Nat) (u : Nat → Int) (junk : List T), vals = [.t (.int .i64 k), .osl 6 0 l.length] ∧ σ = [gvar g, clO es, .row 35 2 (pairsR (backL to)), .row 3 1 (tellR to.length u), .dead, .dead, .row 3 1 (numsR l ++ junk)] ∧ Kn to o (P ++ [a]) l u ((nthD to a).drop k) a ∧ k ≤ (nthD to a).length ∧ m = (nthD to a).length - k) ?_ ?_
                · conv => whnf
                  refine ⟨_, 0, L, u, .int .i64 (a : Nat) :: junk, ?_, ?_, hKp, Nat.zero_le _, rfl⟩
                  · simp
                  · refine congrArg (fun z => [gvar g, clO es, .row 35 2 (pairsR (backL to)), .row 3 1 (tellR to.length u), .dead, .dead, SObj.row 3 1 z]) ?_
                    simp
                · rintro m2 vals σ ⟨k, l, u2, junk2, rfl, rfl, hK2, hk, rfl⟩
                  have hll := hK2.len
                  have hub : ∀ b, u2 b ≤ 400020000 := fun b => by
                    have h5 := hK2.cnt b
                    have h6 := List.count_le_length (a := b) (l := fAll to (o.filter fun y => !(P ++ [a]).contains y))
                    have h7 := List.count_le_length (a := b) (l := fR to a ((nthD to a).drop k))
                    have h8 := fR_len (to := to) (a := a) (l := (nthD to a).drop k)
                    have h9 : ((nthD to a).drop k).length ≤ 20000 := by rw [List.length_drop]; omega
                    have h10 := hfl (o.filter fun y => !(P ++ [a]).contains y) (Nat.le_trans (List.length_filter_le ..) (by omega)) fun x hx => hom x (List.mem_filter.1 hx).1
                    omega
                  have hkk : ltI (k : Int) ((((nthD to ((a : Int)).toNat).map fun n => T.int .i64 n).length : Nat) : Int) = true → k < (nthD to a).length := fun h => by
                    rw [ltI_iff, List.length_map, Int.toNat_natCast] at h; omega
                  have hrg : k < (nthD to a).length → 0 ≤ nthD (nthD to a) k ∧ nthD (nthD to a) k < to.length := fun h => hW.rng _ hal _ (nthD_mem h)
                  have ebk : nthD (nthD to ((a : Int)).toNat) ((k : Int)).toNat = nthD (nthD to a) k := by rw [Int.toNat_natCast, Int.toNat_natCast]
                  have hK3 : k < (nthD to a).length → Kn to o (P ++ [a]) l u2 (nthD (nthD to a) k :: (nthD to a).drop (k + 1)) a := fun h => by
                    have := List.drop_eq_getElem_cons h
                    rw [← nthD_get h] at this
                    rw [← this]; exact hK2
                  have hdf : k < (nthD to a).length → ltI 0 (cntF (backL to) (codeL [(a : Int), nthD (nthD to ((a : Int)).toNat) ((k : Int)).toNat])) = false → domB to (nthD (nthD to a) k).toNat a = false := fun h h4 => by
                    rw [ebk, ltI_not] at h4
                    rw [Bool.eq_false_iff]
                    intro h5
                    have := (cnt_back hal (nthD_mem h)).2 h5
                    omega
                  have hset : k < (nthD to a).length → domB to (nthD (nthD to a) k).toNat a = false → (tellR to.length u2).set (0 + (nthD (nthD to ((a : Int)).toNat) ((k : Int)).toNat).toNat) (setT 1 (T.int .i64 (u2 (nthD (List.range to.length) (0 + (nthD (nthD to ((a : Int)).toNat) ((k : Int)).toNat).toNat)))) 0 [T.int .i64 (subI .i64 (u2 (nthD (List.range to.length) (0 + (nthD (nthD to ((a : Int)).toNat) ((k : Int)).toNat).toNat))) 1)]) = tellR to.length fun b => if b = (nthD (nthD to a) k).toNat then u2 b - 1 else u2 b := fun h hd => by
                    have hr3 := hrg h
                    have hp := (hK3 h).pos hd
                    have hu := hub (nthD (nthD to a) k).toNat
                    rw [ebk, Nat.zero_add, nthD_range (by omega), subI_i64 (by omega) (by omega)]
                    refine (tellR_set rfl).trans (tellR_congr fun j _ => ?_)
                    by_cases e : j = (nthD (nthD to a) k).toNat
                    · rw [if_pos e, if_pos e, e]
                    · rw [if_neg e, if_neg e]
                  repeat' ((conv => whnf); first | (with_reducible first | refine onBool_intro (fun _ => ?_) (fun _ => ?_) | refine And.intro (Ob.mk (Nat.le_of_ble_eq_true rfl)) ?_ | refine And.intro (Ob.mk rfl) ?_ | exact ⟨rfl, rfl⟩ | refine And.intro (Ob.mk (fun h => h)) ?_) | (with_reducible refine Or.inl (And.intro (Ob.mk (Flat.map ?_)) ?_); exact fun _ => rfl) | (refine Or.inl (And.intro (Ob.mk (flat_of rfl)) ?_)) | (refine Or.inl (And.intro (Ob.mk ⟨rfl, rfl, rfl, rfl⟩) ?_)) | (refine Or.inl (And.intro (Ob.mk ⟨rfl, rfl, rfl⟩) ?_)) | (refine And.intro (Ob.mk ⟨rfl, rfl⟩) ?_) | (with_reducible refine Or.inr ?_) | (refine And.intro (Ob.mk (flat_of rfl)) ?_) | (with_reducible refine And.intro (Ob.mk (Flat.map ?_)) ?_; exact fun _ => rfl) | (with_reducible first | exact Ob.mk (Flat.map fun _ => rfl) | refine And.intro ?_ ?_ | apply exG.mk | apply exGS.mk | exact Dd.nil) | (refine Dd.same _ ?_) | (refine Dd.dead _ ?_) | (with_reducible first | apply exQ.mk | apply exP.mk) | (refine EqP.mk rfl rfl) | (with_reducible apply exW.mk) | (refine EqW.mk rfl) | (with_reducible first | intro _ | refine Dn.mk ?_) | (refine exS.full (by first | rfl | (simp; done) | (simp; omega)) ?_) | (refine And.intro (Ob.mk ⟨rfl, rfl, by first | rfl | (simp; done) | (simp; omega)⟩) ?_) | (with_reducible refine exE.mapD ?_) | (refine exL.int ?_) | (with_reducible first | refine Up0.mk rfl ?_ | refine Up0i.mk rfl ?_ | refine Up1.mk rfl ?_ | refine Up1i.mk rfl ?_ | refine Up2.mk rfl ?_ | refine Up2i.mk rfl ?_) | (refine Col.mk rfl rfl rfl ?_) | (refine Coli.mk rfl rfl rfl rfl ?_) | (refine exL.mapC (cntF (backL to)) ?_ ?_) | (refine exS.nums ?_) | (refine exE.setSameO ?_ ?_))
                  all_goals (try (refine Ob.mk ?_; first | assumption | exact ⟨rfl, rfl⟩ | exact ⟨rfl, rfl, rfl⟩ | (refine ⟨rfl, rfl, ?_⟩; simp only [List.length_map, List.length_take, List.length_append, els_len, List.length_replicate]; omega) | (intro h; exact h) | (intro h; rw [h]; rfl) | (intro h; simp_all; done) | (refine bytes_le (n := 1048577) ?_ rfl; simp only [ltI_iff, ltI_not, leI_iff, leI_not, eqI_iff, eqI_not, List.length_map, bif_and, bif_or, Bool.and_eq_true, Bool.and_eq_false_iff, Bool.or_eq_true, Bool.or_eq_false_iff, Bool.not_eq_true', Bool.not_eq_false', Int.toNat_natCast, beq_iff_eq, beq_eq_false_iff_ne, decide_eq_true_eq, decide_eq_false_iff_not, bel_iff, bel_not, wthn_iff, wthn_not, els_len, mixL_len, Nat.zero_add, List.length_set, List.length_take] at *; omega) | (simp only [ltI_iff, ltI_not, leI_iff, leI_not, eqI_iff, eqI_not, List.length_map, bif_and, bif_or, Bool.and_eq_true, Bool.and_eq_false_iff, Bool.or_eq_true, Bool.or_eq_false_iff, Bool.not_eq_true', Bool.not_eq_false', Int.toNat_natCast, beq_iff_eq, beq_eq_false_iff_ne, decide_eq_true_eq, decide_eq_false_iff_not, bel_iff, bel_not, wthn_iff, wthn_not, els_len, mixL_len, Nat.zero_add, List.length_set, List.length_take, Int.ofNat_eq_natCast] at *; omega)))
                  all_goals (try exact Ob.mk hM)
                  all_goals (try have hk3 := hkk (by assumption))
                  all_goals (try (refine Ob.mk ?_; rw [ebk]; have := hrg hk3; simp; omega))
                  all_goals (try (refine Ob.mk ?_; rw [ebk]; have := hrg hk3; omega))
                  all_goals (try (refine Ob.mk ?_; simp; omega))
                  · conv => whnf
                    have hd : domB to (nthD (nthD to a) k).toNat a = true := by
                      have h4 : ltI 0 (cntF (backL to) (codeL [(a : Int), nthD (nthD to ((a : Int)).toNat) ((k : Int)).toNat])) = true := by assumption
                      rw [ebk, ltI_iff] at h4
                      exact (cnt_back hal (nthD_mem hk3)).1 h4
                    refine ⟨(nthD to a).length - (k + 1), by omega, k + 1, l, u2, junk2, ?_, rfl, (hK3 hk3).skip hd, by omega, rfl⟩
                    rw [addI_i64 (by omega) (by omega)]; rfl
                  · have hd := hdf hk3 (by assumption)
                    have hr3 := hrg hk3
                    have hp := (hK3 hk3).pos hd
                    have hu := hub (nthD (nthD to a) k).toNat
                    have h0 : u2 (nthD (nthD to a) k).toNat - 1 = 0 := by
                      have h4 : eqI (subI .i64 (u2 (nthD (List.range to.length) (0 + (nthD (nthD to ((a : Int)).toNat) ((k : Int)).toNat).toNat))) 1) 0 = true := by assumption
                      rw [ebk, Nat.zero_add, nthD_range (by omega), subI_i64 (by omega) (by omega), eqI_iff] at h4
                      exact h4
                    conv => whnf
                    refine ⟨(nthD to a).length - (k + 1), by omega, k + 1, l ++ [(nthD (nthD to a) k).toNat], _, [], ?_, ?_, (hK3 hk3).push hd ((hL.mem _).2 (Forth.rch ((fR_mem hW har).1 ?_))) h0, by omega, rfl⟩
                    · have eL : (l ++ [(nthD (nthD to a) k).toNat]).length = l.length + 1 := by rw [List.length_append]; rfl
                      rw [addI_i64 (by omega) (by omega), eL]; rfl
                    · refine congr_rows3 (hset hk3 hd) ?_
                      have ec : (((nthD (nthD to a) k).toNat : Nat) : Int) = nthD (nthD to a) k := Int.toNat_of_nonneg hr3.1
                      unfold numsR
                      rw [List.map_append, List.append_nil, List.map_cons, ec, ← ebk]; rfl
                    · unfold fR
                      refine List.mem_map.2 ⟨nthD (nthD to a) k, List.mem_filter.2 ⟨nthD_mem hk3, ?_⟩, rfl⟩
                      rw [hd]; rfl
                  · have hd := hdf hk3 (by assumption)
                    have hr3 := hrg hk3
                    have hp := (hK3 hk3).pos hd
                    have hu := hub (nthD (nthD to a) k).toNat
                    have h0 : u2 (nthD (nthD to a) k).toNat - 1 ≠ 0 := by
                      have h4 : eqI (subI .i64 (u2 (nthD (List.range to.length) (0 + (nthD (nthD to ((a : Int)).toNat) ((k : Int)).toNat).toNat))) 1) 0 = false := by assumption
                      rw [ebk, Nat.zero_add, nthD_range (by omega), subI_i64 (by omega) (by omega), eqI_not] at h4
                      exact h4
                    conv => whnf
                    refine ⟨(nthD to a).length - (k + 1), by omega, k + 1, l, _, junk2, ?_, ?_, (hK3 hk3).less hd h0, by omega, rfl⟩
                    · rw [addI_i64 (by omega) (by omega)]; rfl
                    · exact congr_rows3 (hset hk3 hd) rfl
                  · conv => whnf
                    have hk4 : k = (nthD to a).length := by
                      have h3 : ltI (k : Int) ((((nthD to ((a : Int)).toNat).map fun n => T.int .i64 n).length : Nat) : Int) = false := by assumption
                      rw [ltI_not, List.length_map, Int.toNat_natCast] at h3
                      omega
                    subst hk4
                    rw [List.drop_length] at hK2
                    have hPa : (P ++ [a]).length = P.length + 1 := by rw [List.length_append]; rfl
                    have hlen2 := hK2.len
                    rw [hPa] at hlen2
                    refine ⟨o.length - (P ++ [a]).length, by rw [hPa]; omega, P ++ [a], l, u2, junk2, ?_, rfl, hK2.next 0, rfl⟩
                    rw [addI_i64 (by omega) (by omega), hPa]; rfl
  · refine PCalls.of_body ttOk Try.func17 rfl ?_
    repeat' ((conv => whnf); first | (with_reducible first | refine onBool_intro (fun _ => ?_) (fun _ => ?_) | refine And.intro (Ob.mk (Nat.le_of_ble_eq_true rfl)) ?_ | refine And.intro (Ob.mk rfl) ?_ | exact ⟨rfl, rfl⟩ | refine And.intro (Ob.mk (fun h => h)) ?_) | (with_reducible refine Or.inl (And.intro (Ob.mk (Flat.map ?_)) ?_); exact fun _ => rfl) | (refine Or.inl (And.intro (Ob.mk (flat_of rfl)) ?_)) | (refine Or.inl (And.intro (Ob.mk ⟨rfl, rfl, rfl, rfl⟩) ?_)) | (refine Or.inl (And.intro (Ob.mk ⟨rfl, rfl, rfl⟩) ?_)) | (refine And.intro (Ob.mk ⟨rfl, rfl⟩) ?_) | (with_reducible refine Or.inr ?_) | (refine And.intro (Ob.mk (flat_of rfl)) ?_) | (with_reducible refine And.intro (Ob.mk (Flat.map ?_)) ?_; exact fun _ => rfl) | (with_reducible first | exact Ob.mk (Flat.map fun _ => rfl) | refine And.intro ?_ ?_ | apply exG.mk | apply exGS.mk | exact Dd.nil) | (refine Dd.same _ ?_) | (refine Dd.dead _ ?_) | (with_reducible first | apply exQ.mk | apply exP.mk) | (refine EqP.mk rfl rfl) | (with_reducible apply exW.mk) | (refine EqW.mk rfl) | (with_reducible first | intro _ | refine Dn.mk ?_) | (refine exS.full (by first | rfl | (simp; done) | (simp; omega)) ?_) | (refine And.intro (Ob.mk ⟨rfl, rfl, by first | rfl | (simp; done) | (simp; omega)⟩) ?_) | (with_reducible refine exE.mapD ?_) | (refine exL.int ?_) | (with_reducible first | refine Up0.mk rfl ?_ | refine Up0i.mk rfl ?_ | refine Up1.mk rfl ?_ | refine Up1i.mk rfl ?_ | refine Up2.mk rfl ?_ | refine Up2i.mk rfl ?_) | (refine Col.mk rfl rfl rfl ?_) | (refine Coli.mk rfl rfl rfl rfl ?_) | (refine edges27n g hg hw hl ?_))
    exact Ob.mk (.inr ⟨hl, rfl⟩)
end Go.Proofs.Ytgladinljapmkaa.Am

/- Loops: answers that the document gives. -/
namespace Go.Proofs.Ytgladinljapmkaa.Am
open Go Go.Proofs
set_option maxRecDepth 10000
set_option maxHeartbeats 2000000
set_option linter.unusedVariables false
set_option linter.unusedSimpArgs false
theorem allN_lead (l : List Int) : allN (leadE l) = l := by
  rcases l with _ | ⟨x, _ | ⟨y, _ | ⟨z, l⟩⟩⟩ <;> simp [leadE, allN]
theorem lead_fin {to : List (List Int)} {b : Nat} (h : b < to.length) : (nthD (leadG to).blocks b).fin = leadE (nthD to b) := by
  show (nthD (to.map fun l => Block.mk [] (leadE l)) b).fin = _
  rw [nthD_get (by rw [List.length_map]; exact h), List.getElem_map, nthD_get h]
theorem lead_len {to : List (List Int)} : (leadG to).blocks.length = to.length := by
  show (to.map _).length = _
  rw [List.length_map]
theorem lead_next {to : List (List Int)} {b : Nat} (h : b < to.length) : nextN (leadG to) b = srt (nthD to b) := by
  unfold nextN
  rw [if_pos (by rw [lead_len, bel_iff]; omega), Int.toNat_natCast, lead_fin h, allN_lead]
theorem toL_lead {to : List (List Int)} : toL (leadG to) = to.map srt := by
  unfold toL
  rw [lead_len]
  apply List.ext_getElem
  · simp
  · intro i h1 h2
    have h : i < to.length := by simpa using h1
    rw [List.getElem_map, List.getElem_map, List.getElem_range, lead_next h, nthD_get h]
theorem srt_id {l : List Int} (h : l.Pairwise fun x y => x < y) : srt l = l := (srt_unique h fun _ => Iff.rfl).symm
theorem lead_tiny {to : List (List Int)} (hl : to.length ≤ 2 ^ 20) (hr : ∀ l ∈ to, l.length ≤ 2 ^ 20) : (leadG to).tiny := by
  refine ⟨Nat.zero_le _, Nat.zero_le _, by rw [lead_len]; exact hl, fun b hb => ?_⟩
  obtain ⟨l, hm, rfl⟩ := List.mem_map.1 hb
  refine ⟨Nat.zero_le _, (fun x hx => nomatch hx), (fun x hx => nomatch hx), ?_, ?_⟩
  · rcases l with _ | ⟨x, _ | ⟨y, _ | ⟨z, l⟩⟩⟩ <;> exact Nat.zero_le _
  · have := hr l hm
    rcases l with _ | ⟨x, _ | ⟨y, _ | ⟨z, l⟩⟩⟩ <;> simp [leadE] at this ⊢
    omega
theorem lead_wide {to : List (List Int)} (hw : ∀ l ∈ to, ∀ x ∈ l, I64 x) : ∀ b ∈ (leadG to).blocks, ∀ x ∈ allN b.fin, I64 x := by
  intro b hb x hx
  obtain ⟨l, hm, rfl⟩ := List.mem_map.1 hb
  rw [show allN (Block.mk [] (leadE l)).fin = l from allN_lead l] at hx
  exact hw l hm x hx
theorem lead_leads {to : List (List Int)} (h1 : 1 ≤ to.length) (hl : to.length ≤ 20000) (hw : ∀ l ∈ to, ∀ x ∈ l, 0 ≤ x ∧ x < to.length) : (leadG to).leads := by
  refine ⟨by rw [lead_len]; exact h1, by rw [lead_len]; exact hl, fun b hb s hs => ?_⟩
  rw [lead_len] at hb ⊢
  rw [lead_next hb, srt_mem] at hs
  rw [bel_iff]
  exact hw _ (nthD_mem hb) s hs
abbrev gA : List (List Int) := [[1], [2, 3], [1], []]
abbrev gB : List (List Int) := [[1, 2], [2], [1]]
theorem gA_L : toL (leadG gA) = gA := by
  rw [toL_lead]
  show [srt [1], srt [2, 3], srt [1], srt []] = _
  rw [srt_id (l := [1]) (by simp), srt_id (l := [2, 3]) (by simp), srt_nil]
theorem gB_L : toL (leadG gB) = gB := by
  rw [toL_lead]
  show [srt [1, 2], srt [2], srt [1]] = _
  rw [srt_id (l := [1, 2]) (by simp), srt_id (l := [2]) (by simp), srt_id (l := [1]) (by simp)]
theorem gA0 : nthD gA 0 = [1] := nthD_eq rfl
theorem gA1 : nthD gA 1 = [2, 3] := nthD_eq rfl
theorem gA2 : nthD gA 2 = [1] := nthD_eq rfl
theorem gA3 : nthD gA 3 = [] := nthD_eq rfl
theorem gA_edge {a b : Nat} : EdgeL gA a b ↔ (a = 0 ∧ b = 1) ∨ (a = 1 ∧ (b = 2 ∨ b = 3)) ∨ (a = 2 ∧ b = 1) := by
  unfold EdgeL
  have h : a = 0 ∨ a = 1 ∨ a = 2 ∨ a = 3 ∨ 4 ≤ a := by omega
  rcases h with rfl | rfl | rfl | rfl | h
  · rw [gA0]; simp; omega
  · rw [gA1]; simp; omega
  · rw [gA2]; simp; omega
  · rw [gA3]; simp
  · simp; omega
theorem gA_r1 : Rch (EdgeL gA) 1 := .step (.base trivial) (gA_edge.2 (.inl ⟨rfl, rfl⟩)) trivial
theorem gA_r2 : Rch (EdgeL gA) 2 := .step gA_r1 (gA_edge.2 (.inr (.inl ⟨rfl, .inl rfl⟩))) trivial
theorem gA_r3 : Rch (EdgeL gA) 3 := .step gA_r1 (gA_edge.2 (.inr (.inl ⟨rfl, .inr rfl⟩))) trivial
theorem gA_d {b : Nat} (hb : b = 2 ∨ b = 3) : Dom (EdgeL gA) 1 b := by
  refine ⟨by rcases hb with rfl | rfl; exact gA_r2; exact gA_r3, fun r => ?_⟩
  cases r with
  | base _ => omega
  | step r he _ =>
    rcases gA_edge.1 he with h | h | h
    · omega
    · exact r.ok h.1
    · omega
theorem gA_f0 : domF gA 0 = -1 := domF_not fun h => h.2 rfl
theorem gA_f1 : domF gA 1 = (0 : Nat) := domF_eq ⟨.zero gA_r1, by omega, fun a ha hab => ha.pred hab (.base trivial) (gA_edge.2 (.inl ⟨rfl, rfl⟩))⟩
theorem gA_f2 : domF gA 2 = (1 : Nat) := domF_eq ⟨gA_d (.inl rfl), by omega, fun a ha hab => ha.pred hab gA_r1 (gA_edge.2 (.inr (.inl ⟨rfl, .inl rfl⟩)))⟩
theorem gA_f3 : domF gA 3 = (1 : Nat) := domF_eq ⟨gA_d (.inr rfl), by omega, fun a ha hab => ha.pred hab gA_r1 (gA_edge.2 (.inr (.inl ⟨rfl, .inr rfl⟩)))⟩
theorem gA_doms : domsR gA = [.int .i64 (-1), .int .i64 0, .int .i64 1, .int .i64 1] := by
  show [T.int .i64 (domF gA 0), T.int .i64 (domF gA 1), T.int .i64 (domF gA 2), T.int .i64 (domF gA 3)] = _
  rw [gA_f0, gA_f1, gA_f2, gA_f3]; rfl
theorem gA_not {b : Nat} (hb : b = 2 ∨ b = 3) : domB gA b 1 = false := by
  rw [Bool.eq_false_iff]
  intro h
  refine (domB_iff.1 h).2 (.step (.base fun e => by omega) (gA_edge.2 (.inl ⟨rfl, rfl⟩)) fun e => by omega)
theorem gA_back : backL gA = [(2, 1)] := by
  show ([0, 1, 2, 3] : List Nat).flatMap (fun a => backE gA a (nthD gA a).length) = _
  simp only [List.flatMap_cons, List.flatMap_nil]
  unfold backE
  rw [gA0, gA1, gA2, gA3]
  have d0 : domB gA 1 0 = false := by
    rw [Bool.eq_false_iff]
    intro h
    have := (domB_iff.1 h).one
    omega
  have d2 : domB gA 2 1 = false := gA_not (.inl rfl)
  have d3 : domB gA 3 1 = false := gA_not (.inr rfl)
  have d1 : domB gA 1 2 = true := domB_iff.2 (gA_d (.inl rfl))
  simp [d0, d1, d2, d3]
theorem gA_red : redB gA = true := by
  rw [redB_iff]
  refine .rank id fun a b h => ?_
  rcases gA_edge.1 h.2.1 with h1 | h1 | h1
  · show a < b; omega
  · show a < b; omega
  · exfalso
    refine h.2.2 ?_
    rw [h1.1, h1.2]; exact gA_d (.inl rfl)
theorem gB0 : nthD gB 0 = [1, 2] := nthD_eq rfl
theorem gB1 : nthD gB 1 = [2] := nthD_eq rfl
theorem gB2 : nthD gB 2 = [1] := nthD_eq rfl
theorem gB_e {a b : Nat} (ha : a < 3) (h : (b : Int) ∈ nthD gB a) : EdgeL gB a b := ⟨ha, h⟩
theorem gB_red : redB gB = false := by
  rw [Bool.eq_false_iff]
  intro h
  rw [redB_iff] at h
  have e01 : EdgeL gB 0 1 := gB_e (by omega) (by rw [gB0]; simp)
  have e02 : EdgeL gB 0 2 := gB_e (by omega) (by rw [gB0]; simp)
  have e12 : EdgeL gB 1 2 := gB_e (by omega) (by rw [gB1]; simp)
  have e21 : EdgeL gB 2 1 := gB_e (by omega) (by rw [gB2]; simp)
  have f12 : Forth (EdgeL gB) 1 2 := ⟨.step (.base trivial) e01 trivial, e12, fun hd => hd.2 (.step (.base (by omega)) e01 (by omega))⟩
  have f21 : Forth (EdgeL gB) 2 1 := ⟨.step (.base trivial) e02 trivial, e21, fun hd => hd.2 (.step (.base (by omega)) e02 (by omega))⟩
  exact h 1 (.step (.one f12) f21)
theorem gA_len : ∀ l ∈ gA, l.length ≤ 2 ^ 20 := by intro l hl; simp at hl; rcases hl with rfl | rfl | rfl | rfl <;> simp
theorem gB_len : ∀ l ∈ gB, l.length ≤ 2 ^ 20 := by intro l hl; simp at hl; rcases hl with rfl | rfl | rfl <;> simp
theorem gA_rng : ∀ l ∈ gA, ∀ x ∈ l, 0 ≤ x ∧ x < gA.length := by intro l hl x hx; simp at hl; rcases hl with rfl | rfl | rfl | rfl <;> simp at hx ⊢ <;> omega
theorem gB_rng : ∀ l ∈ gB, ∀ x ∈ l, 0 ≤ x ∧ x < gB.length := by intro l hl x hx; simp at hl; rcases hl with rfl | rfl | rfl <;> simp at hx ⊢ <;> omega
theorem i64_small {x : Int} (h0 : 0 ≤ x) (h : x < 2 ^ 40) : I64 x := by
  unfold I64 Lit.wf
  simp [IntKind.min, IntKind.max, IntKind.signed, IntKind.bits]
  omega
end Go.Proofs.Ytgladinljapmkaa.Am

/- Loops: who is around whom, by the document's answer. -/
namespace Go.Proofs.Ytgladinljapmkaa.Am
open Go Go.Proofs
set_option maxRecDepth 10000
set_option maxHeartbeats 2000000
set_option linter.unusedVariables false
set_option linter.unusedSimpArgs false
end Go.Proofs.Ytgladinljapmkaa.Am

/- Loops: dominators and back edges, by the document's answer. -/
namespace Go.Proofs.Ytgladinljapmkaa.Am
open Go Go.Proofs
set_option maxRecDepth 10000
set_option maxHeartbeats 2000000
set_option linter.unusedVariables false
set_option linter.unusedSimpArgs false
def BestI (to : List (List Int)) (b i : Nat) (best most : Int) : Prop :=
  (best = -1 ∧ most = 0 ∧ ∀ a, a < i → a ≠ b → ¬ Dom (EdgeL to) a b) ∨
  ∃ m : Nat, best = m ∧ m < i ∧ m ≠ b ∧ Dom (EdgeL to) m b ∧ most = (domN (EdgeL to) to.length m : Nat) ∧ ∀ a, a < i → a ≠ b → Dom (EdgeL to) a b → domN (EdgeL to) to.length a ≤ domN (EdgeL to) to.length m
variable {to : List (List Int)} {b i : Nat} {best most : Int}
theorem BestI.zero : BestI to b 0 (-1) 0 := .inl ⟨rfl, rfl, fun a ha => absurd ha (Nat.not_lt_zero _)⟩
theorem BestI.skip (h : BestI to b i best most) (hs : i = b ∨ ¬ Dom (EdgeL to) i b) : BestI to b (i + 1) best most := by
  have lt : ∀ a, a < i + 1 → a ≠ b → Dom (EdgeL to) a b → a < i := fun a ha hab hd => by
    rcases Nat.lt_or_ge a i with h1 | h1
    · exact h1
    · have : a = i := by omega
      subst this
      exact (hs.elim (fun e => absurd e hab) fun h => absurd hd h)
  rcases h with ⟨h1, h2, h3⟩ | ⟨m, h1, h2, h3, h4, h5, h6⟩
  · exact .inl ⟨h1, h2, fun a ha hab hd => h3 a (lt a ha hab hd) hab hd⟩
  · exact .inr ⟨m, h1, by omega, h3, h4, h5, fun a ha hab hd => h6 a (lt a ha hab hd) hab hd⟩
theorem BestI.take (h : BestI to b i best most) (hb : i ≠ b) (hd : Dom (EdgeL to) i b) (hlt : most < (domN (EdgeL to) to.length i : Nat)) : BestI to b (i + 1) (i : Nat) (domN (EdgeL to) to.length i : Nat) := by
  refine .inr ⟨i, rfl, Nat.lt_succ_self _, hb, hd, rfl, fun a ha hab hda => ?_⟩
  rcases Nat.lt_or_ge a i with h1 | h1
  · rcases h with ⟨h2, h3, h4⟩ | ⟨m, h2, h3, h4, h5, h6, h7⟩
    · exact absurd hda (h4 a h1 hab)
    · have := h7 a h1 hab hda; omega
  · rw [show a = i by omega]; exact Nat.le_refl _
theorem BestI.keep (hw : WalkL to) (h : BestI to b i best most) (hb : i ≠ b) (hd : Dom (EdgeL to) i b) (hlt : (domN (EdgeL to) to.length i : Nat) ≤ most) : BestI to b (i + 1) best most := by
  rcases h with ⟨h2, h3, h4⟩ | ⟨m, h2, h3, h4, h5, h6, h7⟩
  · have := domN_pos hd.left (hw.rch hd.left)
    omega
  · refine .inr ⟨m, h2, by omega, h4, h5, h6, fun a ha hab hda => ?_⟩
    rcases Nat.lt_or_ge a i with h1 | h1
    · exact h7 a h1 hab hda
    · rw [show a = i by omega]; omega
theorem BestI.last (hw : WalkL to) (h : BestI to b to.length best most) : best = domF to b := by
  rcases h with ⟨h2, h3, h4⟩ | ⟨m, h2, h3, h4, h5, h6, h7⟩
  · rw [h2, domF_not]
    rintro ⟨h5, h6⟩
    exact h4 0 hw.one (fun e => h6 e.symm) (.zero h5)
  · rw [h2]
    exact (domF_eq (.most h5 h4 (fun a ha => hw.rch ha) fun a ha hab => h7 a (hw.rch ha.left) hab ha)).symm
end Go.Proofs.Ytgladinljapmkaa.Am

/- Loops: back edges, by the document's answer. -/
namespace Go.Proofs.Ytgladinljapmkaa.Am
open Go Go.Proofs
set_option maxRecDepth 10000
set_option maxHeartbeats 2000000
set_option linter.unusedVariables false
set_option linter.unusedSimpArgs false
theorem flatA2 {x y : Int} : FlatA [.int .i64 x, .int .i64 y] := fun z hz => by
  simp at hz
  rcases hz with rfl | rfl <;> rfl
end Go.Proofs.Ytgladinljapmkaa.Am

/- Loops: is a graph reducible? by the document's answer. -/
namespace Go.Proofs.Ytgladinljapmkaa.Am
open Go Go.Proofs
set_option maxRecDepth 10000
set_option maxHeartbeats 2000000
set_option linter.unusedVariables false
set_option linter.unusedSimpArgs false
noncomputable def fL (to : List (List Int)) (a : Nat) : List Int := (nthD to a).filter fun c => !domB to c.toNat a
noncomputable def fLL (to : List (List Int)) : List (List Int) := (List.range to.length).map (fL to)
variable {to : List (List Int)}
theorem fLL_len : (fLL to).length = to.length := by unfold fLL; simp
theorem fLL_at {a : Nat} (h : a < to.length) : nthD (fLL to) a = fL to a := by
  rw [nthD_get (by rw [fLL_len]; exact h)]
  unfold fLL
  simp
theorem fL_mem (hw : WalkL to) {a : Nat} (ha : Rch (EdgeL to) a) {b : Nat} : (b : Int) ∈ fL to a ↔ Forth (EdgeL to) a b := by
  unfold fL
  rw [List.mem_filter, Int.toNat_natCast]
  constructor
  · rintro ⟨h1, h2⟩
    refine ⟨ha, ⟨hw.rch ha, h1⟩, fun hd => ?_⟩
    rw [domB_iff.2 hd] at h2; cases h2
  · rintro ⟨_, h1, h2⟩
    refine ⟨h1.2, ?_⟩
    cases h : domB to b a with
    | true => exact absurd (domB_iff.1 h) h2
    | false => rfl
theorem fLL_edge (hw : WalkL to) {a b : Nat} (ha : Rch (EdgeL to) a) : EdgeL (fLL to) a b ↔ Forth (EdgeL to) a b := by
  unfold EdgeL
  rw [fLL_len]
  have h := hw.rch ha
  rw [fLL_at h, fL_mem hw ha]
  exact ⟨fun h => h.2, fun h2 => ⟨h, h2⟩⟩
theorem TC.head {f : Nat → Nat → Prop} {a b : Nat} (h : TC f a b) : ∃ c, f a c ∧ (c = b ∨ TC f c b) := by
  induction h with
  | one h => exact ⟨_, h, .inl rfl⟩
  | step _ h ih =>
    obtain ⟨c, h1, h2⟩ := ih
    rcases h2 with rfl | h2
    · exact ⟨c, h1, .inr (.one h)⟩
    · exact ⟨c, h1, .inr (.step h2 h)⟩
theorem ring_iff (hw : WalkL to) {a c : Nat} (hf : Forth (EdgeL to) a c) : wayF (fLL to) c (-1) a = true ↔ (c = a ∨ TC (Forth (EdgeL to)) c a) := by
  rw [wayF_iff]
  constructor
  · intro h
    have : ∀ {b}, RF (EdgeL (fLL to)) (fun x => (x : Int) ≠ -1) c b → Rch (EdgeL to) b ∧ (c = b ∨ TC (Forth (EdgeL to)) c b) := by
      intro b h
      induction h with
      | base _ => exact ⟨hf.rch, .inl rfl⟩
      | step _ he _ ih =>
        have h1 := (fLL_edge hw ih.1).1 he
        refine ⟨h1.rch, .inr ?_⟩
        rcases ih.2 with rfl | h2
        · exact .one h1
        · exact .step h2 h1
    exact (this h).2
  · rintro (rfl | h)
    · exact .base (by omega)
    · have : ∀ {b}, TC (Forth (EdgeL to)) c b → RF (EdgeL (fLL to)) (fun x => (x : Int) ≠ -1) c b := by
        intro b h
        induction h with
        | one h1 => exact .step (.base (by omega)) ((fLL_edge hw h1.1).2 h1) (by omega)
        | step _ h1 ih => exact .step ih ((fLL_edge hw h1.1).2 h1) (by omega)
      exact this h
def NoR (to : List (List Int)) (i k : Nat) : Prop := (∀ a, a < i → Rch (EdgeL to) a → ∀ c ∈ fL to a, wayF (fLL to) c.toNat (-1) a = false) ∧ (Rch (EdgeL to) i → ∀ c ∈ (fL to i).take k, wayF (fLL to) c.toNat (-1) i = false)
theorem NoR.last (hw : WalkL to) (h : NoR to to.length 0) : redB to = true := by
  rw [redB_iff]
  intro a ha
  obtain ⟨c, h1, h2⟩ := ha.head
  have h3 := h.1 a (hw.rch h1.1) h1.1 (c : Nat) ((fL_mem hw h1.1).2 h1)
  rw [Int.toNat_natCast, (ring_iff hw h1).2 h2] at h3
  cases h3
theorem NoR.not (hw : WalkL to) {a : Nat} (ha : Rch (EdgeL to) a) {c : Int} (hc : c ∈ fL to a) (h : wayF (fLL to) c.toNat (-1) a = true) : redB to = false := by
  rw [Bool.eq_false_iff]
  intro hr
  have hal := hw.rch ha
  have hcr := hw.rng a hal c (List.mem_filter.1 hc).1
  have ec : ((c.toNat : Nat) : Int) = c := Int.toNat_of_nonneg hcr.1
  have hf : Forth (EdgeL to) a c.toNat := (fL_mem hw ha).1 (by rw [ec]; exact hc)
  rw [redB_iff] at hr
  rcases (ring_iff hw hf).1 h with e | h1
  · rw [e] at hf
    exact hr a (.one hf)
  · exact hr a ((TC.one hf).trans h1)
end Go.Proofs.Ytgladinljapmkaa.Am

/- Loops: the law's own answers; LoopsTells. -/
namespace Go.Proofs.Ytgladinljapmkaa.Am
open Go Go.Proofs
set_option maxRecDepth 10000
set_option maxHeartbeats 2000000
set_option linter.unusedVariables false
set_option linter.unusedSimpArgs false
def cellE (l : List Int) : T := match l with
  | [] => .esl
  | x :: l => .nst 3 1 ((x :: l).map fun n => .int .i64 n)
theorem cellE_le {l : List Int} : LeL (cellE l).cells (ilist l).cells := by
  cases l with
  | nil => exact .cons (.esl 1) .nil
  | cons x l => exact .cons (nst_le _ _ _) .nil
theorem cellE_all {to : List (List Int)} : Le (.sl 1 (to.map cellE)) (listsL to) := Le.slmap (f := cellE) (g := ilist) (fun l => cellE_le) fun _ => rfl
theorem leadA {q : T → Prop} (hq : q (leadG gA).t) : PCalls Try.prog 31 [.sl 1 [.nst 3 1 [.int .i64 1], .nst 3 1 [.int .i64 2, .int .i64 3], .nst 3 1 [.int .i64 1], .esl]] q :=
  PCalls.argsL (.cons (cellE_all (to := gA)) .nil) (PCalls.mono (lead31 gA (by simp) gA_len) fun _ h => h ▸ hq)
theorem leadB' {q : T → Prop} (hq : q (leadG gB).t) : PCalls Try.prog 31 [.sl 1 [.nst 3 1 [.int .i64 1, .int .i64 2], .nst 3 1 [.int .i64 2], .nst 3 1 [.int .i64 1]]] q :=
  PCalls.argsL (.cons (cellE_all (to := gB)) .nil) (PCalls.mono (lead31 gB (by simp) gB_len) fun _ h => h ▸ hq)
theorem gA_ok : (leadG gA).tiny ∧ (∀ b ∈ (leadG gA).blocks, ∀ x ∈ allN b.fin, I64 x) ∧ (leadG gA).leads :=
  ⟨lead_tiny (by simp) gA_len, lead_wide fun l hl x hx => i64_small (gA_rng l hl x hx).1 (by have := (gA_rng l hl x hx).2; simp at this; omega), lead_leads (by simp) (by simp) gA_rng⟩
theorem gB_ok : (leadG gB).tiny ∧ (∀ b ∈ (leadG gB).blocks, ∀ x ∈ allN b.fin, I64 x) ∧ (leadG gB).leads :=
  ⟨lead_tiny (by simp) gB_len, lead_wide fun l hl x hx => i64_small (gB_rng l hl x hx).1 (by have := (gB_rng l hl x hx).2; simp at this; omega), lead_leads (by simp) (by simp) gB_rng⟩
theorem domA {q : T → Prop} (hq : q (.own (.nst 3 1 [.int .i64 (-1), .int .i64 0, .int .i64 1, .int .i64 1]))) : PCalls Try.prog 10 [(leadG gA).t] q :=
  PCalls.mono (dominators10 _ gA_ok.1 gA_ok.2.1) fun r h => by
    rcases h.out with ⟨_, rfl⟩ | ⟨h, _⟩
    · rw [gA_L, gA_doms]; exact hq
    · exact absurd gA_ok.2.2 h
theorem backA {q : T → Prop} (hq : q (.own (.nst 35 2 [.arr [.int .i64 2, .int .i64 1]]))) : PCalls Try.prog 11 [(leadG gA).t] q :=
  PCalls.mono (back11 _ gA_ok.1 gA_ok.2.1) fun r h => by
    rcases h.out with ⟨_, rfl⟩ | ⟨h, _⟩
    · rw [gA_L, gA_back]; exact hq
    · exact absurd gA_ok.2.2 h
theorem redA {q : T → Prop} (hq : q (.bool true)) : PCalls Try.prog 17 [(leadG gA).t] q :=
  PCalls.mono (reducible17 _ gA_ok.1 gA_ok.2.1) fun r h => by
    rcases h.out with ⟨_, rfl⟩ | ⟨h, _⟩
    · rw [gA_L, gA_red]; exact hq
    · exact absurd gA_ok.2.2 h
theorem redB' {q : T → Prop} (hq : q (.bool false)) : PCalls Try.prog 17 [(leadG gB).t] q :=
  PCalls.mono (reducible17 _ gB_ok.1 gB_ok.2.1) fun r h => by
    rcases h.out with ⟨_, rfl⟩ | ⟨h, _⟩
    · rw [gB_L, gB_red]; exact hq
    · exact absurd gB_ok.2.2 h
theorem sameA {q : T → Prop} (hq : q (.bool true)) : PCalls Try.prog 15 [.sl 1 [.int .i64 (-1), .int .i64 0, .int .i64 1, .int .i64 1], .sl 1 [.int .i64 (-1), .int .i64 0, .int .i64 1, .int .i64 1]] q :=
  PCalls.mono (same15 [-1, 0, 1, 1] [-1, 0, 1, 1]) fun _ h => h ▸ hq
theorem sameEA {q : T → Prop} (hq : q (.bool true)) : PCalls Try.prog 16 [.sl 2 [.arr [.int .i64 2, .int .i64 1]], .sl 2 [.arr [.int .i64 2, .int .i64 1]]] q :=
  PCalls.mono (sameEdges16 [(2, 1)] [(2, 1)]) fun _ h => h ▸ hq
theorem live14 : PCalls Try.prog 14 [] (fun r => r = .bool true) := by
  refine PCalls.of_body ttOk Try.func14 rfl ?_
  repeat' ((conv => whnf); first | (with_reducible first | refine onBool_intro (fun _ => ?_) (fun _ => ?_) | refine And.intro (Ob.mk (Nat.le_of_ble_eq_true rfl)) ?_ | refine And.intro (Ob.mk rfl) ?_ | exact ⟨rfl, rfl⟩ | refine And.intro (Ob.mk (fun h => h)) ?_) | (with_reducible refine Or.inl (And.intro (Ob.mk (Flat.map ?_)) ?_); exact fun _ => rfl) | (refine Or.inl (And.intro (Ob.mk (flat_of rfl)) ?_)) | (refine Or.inl (And.intro (Ob.mk ⟨rfl, rfl, rfl, rfl⟩) ?_)) | (refine Or.inl (And.intro (Ob.mk ⟨rfl, rfl, rfl⟩) ?_)) | (refine And.intro (Ob.mk ⟨rfl, rfl⟩) ?_) | (with_reducible refine Or.inr ?_) | (refine And.intro (Ob.mk (flat_of rfl)) ?_) | (with_reducible refine And.intro (Ob.mk (Flat.map ?_)) ?_; exact fun _ => rfl) | (with_reducible first | exact Ob.mk (Flat.map fun _ => rfl) | refine And.intro ?_ ?_ | apply exG.mk | apply exGS.mk | exact Dd.nil) | (refine Dd.same _ ?_) | (refine Dd.dead _ ?_) | (with_reducible first | apply exQ.mk | apply exP.mk) | (refine EqP.mk rfl rfl) | (with_reducible apply exW.mk) | (refine EqW.mk rfl) | (with_reducible first | intro _ | refine Dn.mk ?_) | (refine exS.full (by first | rfl | (simp; done) | (simp; omega)) ?_) | (refine And.intro (Ob.mk ⟨rfl, rfl, by first | rfl | (simp; done) | (simp; omega)⟩) ?_) | (with_reducible refine exE.mapD ?_) | (refine exL.int ?_) | (with_reducible first | refine Up0.mk rfl ?_ | refine Up0i.mk rfl ?_ | refine Up1.mk rfl ?_ | refine Up1i.mk rfl ?_ | refine Up2.mk rfl ?_ | refine Up2i.mk rfl ?_) | (refine Col.mk rfl rfl rfl ?_) | (refine Coli.mk rfl rfl rfl rfl ?_) | (refine leadA ?_) | (refine leadB' ?_) | (refine domA ?_) | (refine sameA ?_) | (refine backA ?_) | (refine sameEA ?_) | (refine redA ?_) | (refine redB' ?_))
  all_goals (try (refine Ob.mk ?_; first | assumption | exact ⟨rfl, rfl⟩ | exact ⟨rfl, rfl, rfl⟩ | (refine ⟨rfl, rfl, ?_⟩; simp only [List.length_map, List.length_take, List.length_append, els_len, List.length_replicate]; omega) | (intro h; exact h) | (intro h; rw [h]; rfl) | (intro h; simp_all; done) | (refine bytes_le (n := 1048577) ?_ rfl; simp only [ltI_iff, ltI_not, leI_iff, leI_not, eqI_iff, eqI_not, List.length_map, bif_and, bif_or, Bool.and_eq_true, Bool.and_eq_false_iff, Bool.or_eq_true, Bool.or_eq_false_iff, Bool.not_eq_true', Bool.not_eq_false', Int.toNat_natCast, beq_iff_eq, beq_eq_false_iff_ne, decide_eq_true_eq, decide_eq_false_iff_not, bel_iff, bel_not, wthn_iff, wthn_not, els_len, mixL_len, Nat.zero_add, List.length_set, List.length_take] at *; omega) | (simp only [ltI_iff, ltI_not, leI_iff, leI_not, eqI_iff, eqI_not, List.length_map, bif_and, bif_or, Bool.and_eq_true, Bool.and_eq_false_iff, Bool.or_eq_true, Bool.or_eq_false_iff, Bool.not_eq_true', Bool.not_eq_false', Int.toNat_natCast, beq_iff_eq, beq_eq_false_iff_ne, decide_eq_true_eq, decide_eq_false_iff_not, bel_iff, bel_not, wthn_iff, wthn_not, els_len, mixL_len, Nat.zero_add, List.length_set, List.length_take, Int.ofNat_eq_natCast] at *; omega)))
  all_goals (try (exfalso; rename_i h; simp at h; done))
  · exact Ob.mk flatA2
  · rfl
/-! LoopsTells -/
theorem dominators10k (g : Graph) (hg : g.tiny) (hw : ∀ b ∈ g.blocks, ∀ x ∈ allN b.fin, I64 x) (hl : g.leads) {q : T → Prop} (hq : q (.own (.nst 3 1 (domsR (toL g))))) : PCalls Try.prog 10 [g.t] q :=
  PCalls.mono (dominators10 g hg hw) fun r h => by
    rcases h.out with ⟨_, rfl⟩ | ⟨h, _⟩
    · exact hq
    · exact absurd hl h
theorem back11k (g : Graph) (hg : g.tiny) (hw : ∀ b ∈ g.blocks, ∀ x ∈ allN b.fin, I64 x) (hl : g.leads) {q : T → Prop} (hq : q (.own (.nst 35 2 (pairsR (backL (toL g)))))) : PCalls Try.prog 11 [g.t] q :=
  PCalls.mono (back11 g hg hw) fun r h => by
    rcases h.out with ⟨_, rfl⟩ | ⟨h, _⟩
    · exact hq
    · exact absurd hl h
theorem reducible17k (g : Graph) (hg : g.tiny) (hw : ∀ b ∈ g.blocks, ∀ x ∈ allN b.fin, I64 x) (hl : g.leads) {q : T → Prop} (hq : q (.bool (redB (toL g)))) : PCalls Try.prog 17 [g.t] q :=
  PCalls.mono (reducible17 g hg hw) fun r h => by
    rcases h.out with ⟨_, rfl⟩ | ⟨h, _⟩
    · exact hq
    · exact absurd hl h
theorem sameS {n : Nat} {f : Nat → Int} {q : T → Prop} (hq : q (.bool true)) : PCalls Try.prog 15 [.sl 1 (tellR n f), .sl 1 (tellR n f)] q := by
  have h := same15 ((List.range n).map f) ((List.range n).map f)
  have e : ilist ((List.range n).map f) = .sl 1 (tellR n f) := by
    show T.sl 1 (List.map _ (List.map _ _)) = _
    rw [List.map_map]; rfl
  rw [e] at h
  refine PCalls.mono h fun r hr => ?_
  rw [hr, beq_self_eq_true]; exact hq
theorem sameES {l : List (Int × Int)} {q : T → Prop} (hq : q (.bool true)) : PCalls Try.prog 16 [.sl 2 (pairsR l), .sl 2 (pairsR l)] q :=
  PCalls.mono (sameEdges16 l l) fun r hr => by
    rw [hr, beq_self_eq_true]; exact hq
end Go.Proofs.Ytgladinljapmkaa.Am
