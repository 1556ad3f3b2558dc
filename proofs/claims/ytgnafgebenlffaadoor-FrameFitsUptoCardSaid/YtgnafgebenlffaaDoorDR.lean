/- All that is needed, by the program. -/
import Derived.Test.YtgnafgebenlffaaDoorDQ
/- Whether a graph fits, by the program. -/
namespace Go.Proofs.YtgnafgebenlffaaDoor.Am
open Go Go.Proofs
set_option maxRecDepth 10000
set_option maxHeartbeats 2000000
set_option linter.unusedVariables false
set_option linter.unusedSimpArgs false
theorem luses57k (x : Ins) (hx : Ob (x.args.length ≤ 2 ^ 20)) {q : T → Prop} (hq : q (ilist (usesN x))) : PCalls Tryd.prog 60 [x.t] q := PCalls.mono (luses57 x hx.out) fun _ h => h ▸ hq
theorem contains53 (g : Graph) (l : List Int) {q : T → Prop} (hq : q (.bool (l.any fun n => !bel n g.temps))) : PCalls Tryd.prog 57 [ilist l, .fn 56 [.ptr (gcells g)]] q :=
  PCalls.mono (containsFunc54 l 56 (gcells g) (fun n => !bel n g.temps) (outside53 g)) fun _ h => h ▸ hq
theorem contains56 (g : Graph) (l : List Int) {q : T → Prop} (hq : q (.bool (l.any fun n => !bel n g.blocks.length))) : PCalls Tryd.prog 57 [ilist l, .fn 59 [.ptr (gcells g)]] q :=
  PCalls.mono (containsFunc54 l 59 (gcells g) (fun n => !bel n g.blocks.length) (outside56 g)) fun _ h => h ▸ hq
theorem any_all {l : List Int} {n : Int} : (l.any fun t => !bel t n) = !(l.all fun t => bel t n) := by
  induction l with
  | nil => rfl
  | cons x l ih => rw [List.any_cons, List.all_cons, ih]; cases bel x n <;> rfl
theorem linsBad {x : Ins} {n : Int} (h : (bif bif ltI x.op 1 then true else ltI 32 x.op then true else (usesN x).any fun t => !bel t n) = true) : insOk n x = false := by
  rw [any_all] at h
  cases h1 : (bif ltI x.op 1 then true else ltI 32 x.op) with
  | true => exact insBad h1
  | false =>
    rw [h1] at h
    unfold insOk
    have : (usesN x).all (fun t => bel t n) = false := by simpa using h
    rw [this]; simp
noncomputable abbrev setsC (x : Ins) : Bool := bif bif bif bif !eqI x.op 26 then !eqI x.op 28 else false then !eqI x.op 31 else false then !eqI x.op 32 else false then bif !eqI x.op 29 then true else !eqI x.d (-1) else false
theorem linsGood {x : Ins} {n : Int} {b : Bool} (h : (bif bif ltI x.op 1 then true else ltI 32 x.op then true else (usesN x).any fun t => !bel t n) = false) (h2 : (bif setsC x then !bel x.d n else false) = b) : insOk n x = !b := by
  rw [any_all] at h
  simp only [bif_or, Bool.or_eq_false_iff, ltI_not, Bool.not_eq_false'] at h
  obtain ⟨⟨h3, h4⟩, h5⟩ := h
  unfold insOk
  have e1 : decide (1 ≤ x.op ∧ x.op ≤ 32) = true := by rw [decide_eq_true_eq]; omega
  rw [e1, h5]
  have e2 : setsC x = !decide (x.op = 26 ∨ x.op = 28 ∨ x.op = 31 ∨ x.op = 32 ∨ (x.op = 29 ∧ x.d = -1)) := by
    rw [Bool.eq_iff_iff]
    simp only [setsC, bif_and, bif_or, Bool.and_eq_true, Bool.or_eq_true, Bool.not_eq_true', eqI_not, decide_eq_false_iff_not]
    omega
  rw [e2] at h2
  rw [← h2]
  cases decide (x.op = 26 ∨ x.op = 28 ∨ x.op = 31 ∨ x.op = 32 ∨ (x.op = 29 ∧ x.d = -1)) <;> cases bel x.d n <;> rfl
theorem lendGood {e : End} {n : Int} {b : Bool} (h : (bif bif ltI e.kind 1 then true else ltI 5 e.kind then true else (eUsesN e).any fun t => !bel t n) = b) : endOk n e = !b := by
  rw [any_all] at h
  exact endGood h
theorem fits28 (g : Graph) (hg : g.tiny) (hw : ∀ b ∈ g.blocks, ∀ x ∈ allN b.fin, I64 x) : PCalls Tryd.prog 35 [g.t] (fun r => r = .bool (tr g.fits)) := by
  refine PCalls.of_body ttOk Tryd.func35 rfl ?_
  repeat' ((conv => whnf); first | (with_reducible first | refine onBool_intro (fun _ => ?_) (fun _ => ?_) | refine And.intro (Ob.mk (Nat.le_of_ble_eq_true rfl)) ?_ | refine And.intro (Ob.mk rfl) ?_ | exact ⟨rfl, rfl⟩ | refine And.intro (Ob.mk (fun h => h)) ?_) | (with_reducible refine Or.inl (And.intro (Ob.mk (Flat.map ?_)) ?_); exact fun _ => rfl) | (refine Or.inl (And.intro (Ob.mk (flat_of rfl)) ?_)) | (refine Or.inl (And.intro (Ob.mk ⟨rfl, rfl, rfl, rfl⟩) ?_)) | (refine Or.inl (And.intro (Ob.mk ⟨rfl, rfl, rfl⟩) ?_)) | (refine And.intro (Ob.mk ⟨rfl, rfl⟩) ?_) | (with_reducible refine Or.inr ?_) | (refine And.intro (Ob.mk (flat_of rfl)) ?_) | (with_reducible refine And.intro (Ob.mk (Flat.map ?_)) ?_; exact fun _ => rfl) | (with_reducible first | exact Ob.mk (Flat.map fun _ => rfl) | refine And.intro ?_ ?_ | apply exG.mk | apply exGS.mk | exact Dd.nil) | (refine Dd.same _ ?_) | (refine Dd.dead _ ?_) | (with_reducible first | apply exQ.mk | apply exP.mk) | (refine EqP.mk rfl rfl) | (with_reducible apply exW.mk) | (refine EqW.mk rfl) | (with_reducible first | intro _ | refine Dn.mk ?_) | (refine exS.full (by first | rfl | (simp; done) | (simp; omega)) ?_) | (refine And.intro (Ob.mk ⟨rfl, rfl, by first | rfl | (simp; done) | (simp; omega)⟩) ?_) | (with_reducible refine exE.mapD ?_) | (refine exL.int ?_) | (with_reducible first | refine Up0.mk rfl ?_ | refine Up0i.mk rfl ?_ | refine Up1.mk rfl ?_ | refine Up1i.mk rfl ?_ | refine Up2.mk rfl ?_ | refine Up2i.mk rfl ?_) | (refine Col.mk rfl rfl rfl ?_) | (refine Coli.mk rfl rfl rfl rfl ?_))
  all_goals (try (refine Ob.mk ?_; first | assumption | exact ⟨rfl, rfl⟩ | exact ⟨rfl, rfl, rfl⟩ | (refine ⟨rfl, rfl, ?_⟩; simp only [List.length_map, List.length_take, List.length_append, els_len, List.length_replicate]; omega) | (intro h; exact h) | (intro h; rw [h]; rfl) | (intro h; simp_all; done) | (refine bytes_le (n := 1048577) ?_ rfl; simp only [ltI_iff, ltI_not, leI_iff, leI_not, eqI_iff, eqI_not, List.length_map, bif_and, bif_or, Bool.and_eq_true, Bool.and_eq_false_iff, Bool.or_eq_true, Bool.or_eq_false_iff, Bool.not_eq_true', Bool.not_eq_false', Int.toNat_natCast, beq_iff_eq, beq_eq_false_iff_ne, decide_eq_true_eq, decide_eq_false_iff_not, bel_iff, bel_not, wthn_iff, wthn_not, els_len, mixL_len, Nat.zero_add, List.length_set, List.length_take] at *; omega) | (simp only [ltI_iff, ltI_not, leI_iff, leI_not, eqI_iff, eqI_not, List.length_map, bif_and, bif_or, Bool.and_eq_true, Bool.and_eq_false_iff, Bool.or_eq_true, Bool.or_eq_false_iff, Bool.not_eq_true', Bool.not_eq_false', Int.toNat_natCast, beq_iff_eq, beq_eq_false_iff_ne, decide_eq_true_eq, decide_eq_false_iff_not, bel_iff, bel_not, wthn_iff, wthn_not, els_len, mixL_len, Nat.zero_add, List.length_set, List.length_take, Int.ofNat_eq_natCast] at *; omega)))
  all_goals (try exact Ob.mk fun h => by rw [h]; rfl)
  · rename_i h1
    show T.bool _ = T.bool _
    rw [tr_f]
    intro h
    have := h.temps
    have := h.one
    have := h.most
    simp only [bif_or, Bool.or_eq_true, ltI_iff, List.length_map] at h1
    omega
  · rename_i h1 _
    simp only [bif_or, Bool.or_eq_false_iff, ltI_not, List.length_map] at h1
    have hbm : ∀ i, i < g.blocks.length → (nthD g.blocks i).tiny := fun i hi => hg.all _ (nthD_mem hi)
    conv => whnf
    refine LoopVC.up0 33 g.blocks.length (fun i => ∀ b : Nat, b < i → (∀ s ∈ nextN g b, bel s g.blocks.length = true) ∧ (∀ x ∈ (nthD g.blocks b).code, insOk g.temps x = true) ∧ endOk g.temps (nthD g.blocks b).fin = true) ?_ ?_
    · repeat' ((conv => whnf); first | (with_reducible first | refine onBool_intro (fun _ => ?_) (fun _ => ?_) | refine And.intro (Ob.mk (Nat.le_of_ble_eq_true rfl)) ?_ | refine And.intro (Ob.mk rfl) ?_ | exact ⟨rfl, rfl⟩ | refine And.intro (Ob.mk (fun h => h)) ?_) | (with_reducible refine Or.inl (And.intro (Ob.mk (Flat.map ?_)) ?_); exact fun _ => rfl) | (refine Or.inl (And.intro (Ob.mk (flat_of rfl)) ?_)) | (refine Or.inl (And.intro (Ob.mk ⟨rfl, rfl, rfl, rfl⟩) ?_)) | (refine Or.inl (And.intro (Ob.mk ⟨rfl, rfl, rfl⟩) ?_)) | (refine And.intro (Ob.mk ⟨rfl, rfl⟩) ?_) | (with_reducible refine Or.inr ?_) | (refine And.intro (Ob.mk (flat_of rfl)) ?_) | (with_reducible refine And.intro (Ob.mk (Flat.map ?_)) ?_; exact fun _ => rfl) | (with_reducible first | exact Ob.mk (Flat.map fun _ => rfl) | refine And.intro ?_ ?_ | apply exG.mk | apply exGS.mk | exact Dd.nil) | (refine Dd.same _ ?_) | (refine Dd.dead _ ?_) | (with_reducible first | apply exQ.mk | apply exP.mk) | (refine EqP.mk rfl rfl) | (with_reducible apply exW.mk) | (refine EqW.mk rfl) | (with_reducible first | intro _ | refine Dn.mk ?_) | (refine exS.full (by first | rfl | (simp; done) | (simp; omega)) ?_) | (refine And.intro (Ob.mk ⟨rfl, rfl, by first | rfl | (simp; done) | (simp; omega)⟩) ?_) | (with_reducible refine exE.mapD ?_) | (refine exL.int ?_) | (with_reducible first | refine Up0.mk rfl ?_ | refine Up0i.mk rfl ?_ | refine Up1.mk rfl ?_ | refine Up1i.mk rfl ?_ | refine Up2.mk rfl ?_ | refine Up2i.mk rfl ?_) | (refine Col.mk rfl rfl rfl ?_) | (refine Coli.mk rfl rfl rfl rfl ?_))
      exact Ob.mk (fun b hb => absurd hb (Nat.not_lt_zero _))
    · intro i hi he
      repeat' ((conv => whnf); first | (with_reducible first | refine onBool_intro (fun _ => ?_) (fun _ => ?_) | refine And.intro (Ob.mk (Nat.le_of_ble_eq_true rfl)) ?_ | refine And.intro (Ob.mk rfl) ?_ | exact ⟨rfl, rfl⟩ | refine And.intro (Ob.mk (fun h => h)) ?_) | (with_reducible refine Or.inl (And.intro (Ob.mk (Flat.map ?_)) ?_); exact fun _ => rfl) | (refine Or.inl (And.intro (Ob.mk (flat_of rfl)) ?_)) | (refine Or.inl (And.intro (Ob.mk ⟨rfl, rfl, rfl, rfl⟩) ?_)) | (refine Or.inl (And.intro (Ob.mk ⟨rfl, rfl, rfl⟩) ?_)) | (refine And.intro (Ob.mk ⟨rfl, rfl⟩) ?_) | (with_reducible refine Or.inr ?_) | (refine And.intro (Ob.mk (flat_of rfl)) ?_) | (with_reducible refine And.intro (Ob.mk (Flat.map ?_)) ?_; exact fun _ => rfl) | (with_reducible first | exact Ob.mk (Flat.map fun _ => rfl) | refine And.intro ?_ ?_ | apply exG.mk | apply exGS.mk | exact Dd.nil) | (refine Dd.same _ ?_) | (refine Dd.dead _ ?_) | (with_reducible first | apply exQ.mk | apply exP.mk) | (refine EqP.mk rfl rfl) | (with_reducible apply exW.mk) | (refine EqW.mk rfl) | (with_reducible first | intro _ | refine Dn.mk ?_) | (refine exS.full (by first | rfl | (simp; done) | (simp; omega)) ?_) | (refine And.intro (Ob.mk ⟨rfl, rfl, by first | rfl | (simp; done) | (simp; omega)⟩) ?_) | (with_reducible refine exE.mapD ?_) | (refine exL.int ?_) | (with_reducible first | refine Up0.mk rfl ?_ | refine Up0i.mk rfl ?_ | refine Up1.mk rfl ?_ | refine Up1i.mk rfl ?_ | refine Up2.mk rfl ?_ | refine Up2i.mk rfl ?_) | (refine Col.mk rfl rfl rfl ?_) | (refine Coli.mk rfl rfl rfl rfl ?_) | (refine next55k _ _ hg hw ?_ ?_) | (refine contains56 _ _ ?_) | (refine contains53 _ _ ?_))
      all_goals (try (refine Ob.mk ?_; first | assumption | exact ⟨rfl, rfl⟩ | exact ⟨rfl, rfl, rfl⟩ | (refine ⟨rfl, rfl, ?_⟩; simp only [List.length_map, List.length_take, List.length_append, els_len, List.length_replicate]; omega) | (intro h; exact h) | (intro h; rw [h]; rfl) | (intro h; simp_all; done) | (refine bytes_le (n := 1048577) ?_ rfl; simp only [ltI_iff, ltI_not, leI_iff, leI_not, eqI_iff, eqI_not, List.length_map, bif_and, bif_or, Bool.and_eq_true, Bool.and_eq_false_iff, Bool.or_eq_true, Bool.or_eq_false_iff, Bool.not_eq_true', Bool.not_eq_false', Int.toNat_natCast, beq_iff_eq, beq_eq_false_iff_ne, decide_eq_true_eq, decide_eq_false_iff_not, bel_iff, bel_not, wthn_iff, wthn_not, els_len, mixL_len, Nat.zero_add, List.length_set, List.length_take] at *; omega) | (simp only [ltI_iff, ltI_not, leI_iff, leI_not, eqI_iff, eqI_not, List.length_map, bif_and, bif_or, Bool.and_eq_true, Bool.and_eq_false_iff, Bool.or_eq_true, Bool.or_eq_false_iff, Bool.not_eq_true', Bool.not_eq_false', Int.toNat_natCast, beq_iff_eq, beq_eq_false_iff_ne, decide_eq_true_eq, decide_eq_false_iff_not, bel_iff, bel_not, wthn_iff, wthn_not, els_len, mixL_len, Nat.zero_add, List.length_set, List.length_take, Int.ofNat_eq_natCast] at *; omega)))
      · rename_i h2 h3
        have hlt : i < g.blocks.length := by simp only [ltI_iff, ltI_not, leI_iff, leI_not, eqI_iff, eqI_not, List.length_map, bif_and, bif_or, Bool.and_eq_true, Bool.and_eq_false_iff, Bool.or_eq_true, Bool.or_eq_false_iff, Bool.not_eq_true', Bool.not_eq_false', Int.toNat_natCast, beq_iff_eq, beq_eq_false_iff_ne, decide_eq_true_eq, decide_eq_false_iff_not] at *; omega
        show T.bool _ = T.bool _
        rw [tr_f]
        intro h
        rw [List.any_eq_true] at h3
        obtain ⟨s, hs, h4⟩ := h3
        rw [h.next i hlt s hs] at h4
        cases h4
      · rename_i h2 h3 _
        have hlt : i < g.blocks.length := by simp only [ltI_iff, ltI_not, leI_iff, leI_not, eqI_iff, eqI_not, List.length_map, bif_and, bif_or, Bool.and_eq_true, Bool.and_eq_false_iff, Bool.or_eq_true, Bool.or_eq_false_iff, Bool.not_eq_true', Bool.not_eq_false', Int.toNat_natCast, beq_iff_eq, beq_eq_false_iff_ne, decide_eq_true_eq, decide_eq_false_iff_not] at *; omega
        have hti := hbm i hlt
        conv => whnf
        refine LoopVC.up0 46 (nthD g.blocks i).code.length (fun j => ∀ k, k < j → insOk g.temps (nthD (nthD g.blocks i).code k) = true) ?_ ?_
        · repeat' ((conv => whnf); first | (with_reducible first | refine onBool_intro (fun _ => ?_) (fun _ => ?_) | refine And.intro (Ob.mk (Nat.le_of_ble_eq_true rfl)) ?_ | refine And.intro (Ob.mk rfl) ?_ | exact ⟨rfl, rfl⟩ | refine And.intro (Ob.mk (fun h => h)) ?_) | (with_reducible refine Or.inl (And.intro (Ob.mk (Flat.map ?_)) ?_); exact fun _ => rfl) | (refine Or.inl (And.intro (Ob.mk (flat_of rfl)) ?_)) | (refine Or.inl (And.intro (Ob.mk ⟨rfl, rfl, rfl, rfl⟩) ?_)) | (refine Or.inl (And.intro (Ob.mk ⟨rfl, rfl, rfl⟩) ?_)) | (refine And.intro (Ob.mk ⟨rfl, rfl⟩) ?_) | (with_reducible refine Or.inr ?_) | (refine And.intro (Ob.mk (flat_of rfl)) ?_) | (with_reducible refine And.intro (Ob.mk (Flat.map ?_)) ?_; exact fun _ => rfl) | (with_reducible first | exact Ob.mk (Flat.map fun _ => rfl) | refine And.intro ?_ ?_ | apply exG.mk | apply exGS.mk | exact Dd.nil) | (refine Dd.same _ ?_) | (refine Dd.dead _ ?_) | (with_reducible first | apply exQ.mk | apply exP.mk) | (refine EqP.mk rfl rfl) | (with_reducible apply exW.mk) | (refine EqW.mk rfl) | (with_reducible first | intro _ | refine Dn.mk ?_) | (refine exS.full (by first | rfl | (simp; done) | (simp; omega)) ?_) | (refine And.intro (Ob.mk ⟨rfl, rfl, by first | rfl | (simp; done) | (simp; omega)⟩) ?_) | (with_reducible refine exE.mapD ?_) | (refine exL.int ?_) | (with_reducible first | refine Up0.mk rfl ?_ | refine Up0i.mk rfl ?_ | refine Up1.mk rfl ?_ | refine Up1i.mk rfl ?_ | refine Up2.mk rfl ?_ | refine Up2i.mk rfl ?_) | (refine Col.mk rfl rfl rfl ?_) | (refine Coli.mk rfl rfl rfl rfl ?_))
          exact Ob.mk (fun b hb => absurd hb (Nat.not_lt_zero _))
        · intro j hj hej
          have hcl := hti.code
          have hui : j < (nthD g.blocks i).code.length → (nthD (nthD g.blocks i).code j).args.length ≤ 2 ^ 20 := fun h => hti.args _ (nthD_mem h)
          repeat' ((conv => whnf); first | (with_reducible first | refine onBool_intro (fun _ => ?_) (fun _ => ?_) | refine And.intro (Ob.mk (Nat.le_of_ble_eq_true rfl)) ?_ | refine And.intro (Ob.mk rfl) ?_ | exact ⟨rfl, rfl⟩ | refine And.intro (Ob.mk (fun h => h)) ?_) | (with_reducible refine Or.inl (And.intro (Ob.mk (Flat.map ?_)) ?_); exact fun _ => rfl) | (refine Or.inl (And.intro (Ob.mk (flat_of rfl)) ?_)) | (refine Or.inl (And.intro (Ob.mk ⟨rfl, rfl, rfl, rfl⟩) ?_)) | (refine Or.inl (And.intro (Ob.mk ⟨rfl, rfl, rfl⟩) ?_)) | (refine And.intro (Ob.mk ⟨rfl, rfl⟩) ?_) | (with_reducible refine Or.inr ?_) | (refine And.intro (Ob.mk (flat_of rfl)) ?_) | (with_reducible refine And.intro (Ob.mk (Flat.map ?_)) ?_; exact fun _ => rfl) | (with_reducible first | exact Ob.mk (Flat.map fun _ => rfl) | refine And.intro ?_ ?_ | apply exG.mk | apply exGS.mk | exact Dd.nil) | (refine Dd.same _ ?_) | (refine Dd.dead _ ?_) | (with_reducible first | apply exQ.mk | apply exP.mk) | (refine EqP.mk rfl rfl) | (with_reducible apply exW.mk) | (refine EqW.mk rfl) | (with_reducible first | intro _ | refine Dn.mk ?_) | (refine exS.full (by first | rfl | (simp; done) | (simp; omega)) ?_) | (refine And.intro (Ob.mk ⟨rfl, rfl, by first | rfl | (simp; done) | (simp; omega)⟩) ?_) | (with_reducible refine exE.mapD ?_) | (refine exL.int ?_) | (with_reducible first | refine Up0.mk rfl ?_ | refine Up0i.mk rfl ?_ | refine Up1.mk rfl ?_ | refine Up1i.mk rfl ?_ | refine Up2.mk rfl ?_ | refine Up2i.mk rfl ?_) | (refine Col.mk rfl rfl rfl ?_) | (refine Coli.mk rfl rfl rfl rfl ?_) | (refine luses57k _ ?_ ?_) | (refine contains53 _ _ ?_) | (refine PCalls.mono (outside53 _ _) ?_; rintro _ rfl) | (refine PCalls.mono (lendUses58 _) ?_; rintro _ rfl))
          all_goals (try (refine Ob.mk ?_; first | assumption | exact ⟨rfl, rfl⟩ | exact ⟨rfl, rfl, rfl⟩ | (refine ⟨rfl, rfl, ?_⟩; simp only [List.length_map, List.length_take, List.length_append, els_len, List.length_replicate]; omega) | (intro h; exact h) | (intro h; rw [h]; rfl) | (intro h; simp_all; done) | (refine bytes_le (n := 1048577) ?_ rfl; simp only [ltI_iff, ltI_not, leI_iff, leI_not, eqI_iff, eqI_not, List.length_map, bif_and, bif_or, Bool.and_eq_true, Bool.and_eq_false_iff, Bool.or_eq_true, Bool.or_eq_false_iff, Bool.not_eq_true', Bool.not_eq_false', Int.toNat_natCast, beq_iff_eq, beq_eq_false_iff_ne, decide_eq_true_eq, decide_eq_false_iff_not, bel_iff, bel_not, wthn_iff, wthn_not, els_len, mixL_len, Nat.zero_add, List.length_set, List.length_take] at *; omega) | (simp only [ltI_iff, ltI_not, leI_iff, leI_not, eqI_iff, eqI_not, List.length_map, bif_and, bif_or, Bool.and_eq_true, Bool.and_eq_false_iff, Bool.or_eq_true, Bool.or_eq_false_iff, Bool.not_eq_true', Bool.not_eq_false', Int.toNat_natCast, beq_iff_eq, beq_eq_false_iff_ne, decide_eq_true_eq, decide_eq_false_iff_not, bel_iff, bel_not, wthn_iff, wthn_not, els_len, mixL_len, Nat.zero_add, List.length_set, List.length_take, Int.ofNat_eq_natCast] at *; omega)))
          all_goals (try exact Ob.mk fun h => by rw [h]; rfl)
          · rename_i h4 h5
            exact not_ins hlt (by simp only [ltI_iff, ltI_not, leI_iff, leI_not, eqI_iff, eqI_not, List.length_map, bif_and, bif_or, Bool.and_eq_true, Bool.and_eq_false_iff, Bool.or_eq_true, Bool.or_eq_false_iff, Bool.not_eq_true', Bool.not_eq_false', Int.toNat_natCast, beq_iff_eq, beq_eq_false_iff_ne, decide_eq_true_eq, decide_eq_false_iff_not] at *; omega) (linsBad h5)
          · rename_i h4 h5 h6
            exact not_ins hlt (by simp only [ltI_iff, ltI_not, leI_iff, leI_not, eqI_iff, eqI_not, List.length_map, bif_and, bif_or, Bool.and_eq_true, Bool.and_eq_false_iff, Bool.or_eq_true, Bool.or_eq_false_iff, Bool.not_eq_true', Bool.not_eq_false', Int.toNat_natCast, beq_iff_eq, beq_eq_false_iff_ne, decide_eq_true_eq, decide_eq_false_iff_not] at *; omega) (linsGood h5 h6)
          · rename_i h4 h5 h6
            have hltj : j < (nthD g.blocks i).code.length := by simp only [ltI_iff, ltI_not, leI_iff, leI_not, eqI_iff, eqI_not, List.length_map, bif_and, bif_or, Bool.and_eq_true, Bool.and_eq_false_iff, Bool.or_eq_true, Bool.or_eq_false_iff, Bool.not_eq_true', Bool.not_eq_false', Int.toNat_natCast, beq_iff_eq, beq_eq_false_iff_ne, decide_eq_true_eq, decide_eq_false_iff_not] at *; omega
            refine Ob.mk ⟨hltj, addI_i64 (by omega) (by omega), fun k hk => ?_⟩
            rcases Nat.lt_or_ge k j with h | h
            · exact hej k h
            · rw [show k = j by omega]; exact linsGood h5 h6
          · rename_i h4 h5
            exact not_end hlt (lendGood h5)
          · rename_i h4 h5
            have hgej : (nthD g.blocks i).code.length ≤ j := by simp only [ltI_iff, ltI_not, leI_iff, leI_not, eqI_iff, eqI_not, List.length_map, bif_and, bif_or, Bool.and_eq_true, Bool.and_eq_false_iff, Bool.or_eq_true, Bool.or_eq_false_iff, Bool.not_eq_true', Bool.not_eq_false', Int.toNat_natCast, beq_iff_eq, beq_eq_false_iff_ne, decide_eq_true_eq, decide_eq_false_iff_not] at *; omega
            refine Ob.mk ⟨hlt, addI_i64 (by omega) (by omega), fun b hb => ?_⟩
            rcases Nat.lt_or_ge b i with h | h
            · exact he b h
            · rw [show b = i by omega]
              refine ⟨fun s hs => ?_, fun x hx => ?_, lendGood h5⟩
              · rw [List.any_eq_false] at h3
                have := h3 s hs
                simpa using this
              · obtain ⟨k, hk, rfl⟩ := List.mem_iff_getElem.1 hx
                rw [← nthD_get hk]
                exact hej k (by omega)
      · rename_i h2
        have hge : g.blocks.length ≤ i := by simp only [ltI_iff, ltI_not, leI_iff, leI_not, eqI_iff, eqI_not, List.length_map, bif_and, bif_or, Bool.and_eq_true, Bool.and_eq_false_iff, Bool.or_eq_true, Bool.or_eq_false_iff, Bool.not_eq_true', Bool.not_eq_false', Int.toNat_natCast, beq_iff_eq, beq_eq_false_iff_ne, decide_eq_true_eq, decide_eq_false_iff_not] at *; omega
        show T.bool true = T.bool _
        rw [tr_t]
        have hB : ∀ b ∈ g.blocks, (∀ x ∈ b.code, insOk g.temps x = true) ∧ endOk g.temps b.fin = true := by
          intro b hb
          obtain ⟨k, hk, rfl⟩ := List.mem_iff_getElem.1 hb
          rw [← nthD_get hk]
          exact (he k (by omega)).2
        exact ⟨⟨by omega, by omega, fun b hb => (he b (by omega)).1⟩, by omega, fun b hb => (hB b hb).1, fun b hb => (hB b hb).2⟩
end Go.Proofs.YtgnafgebenlffaaDoor.Am

/- All that is needed, by the program. -/
namespace Go.Proofs.YtgnafgebenlffaaDoor.Am
open Go Go.Proofs
set_option maxRecDepth 10000
set_option maxHeartbeats 2000000
set_option linter.unusedVariables false
set_option linter.unusedSimpArgs false
theorem backward59 (xs : List T) : PCalls Tryd.prog 72 [.sl 10 xs] (fun r => r = .fn 80 [.ptr [.sl 10 xs]]) := by
  refine PCalls.of_body ttOk Tryd.func72 rfl ?_
  repeat' ((conv => whnf); first | (with_reducible first | refine onBool_intro (fun _ => ?_) (fun _ => ?_) | refine And.intro (Ob.mk (Nat.le_of_ble_eq_true rfl)) ?_ | refine And.intro (Ob.mk rfl) ?_ | exact ⟨rfl, rfl⟩ | refine And.intro (Ob.mk (fun h => h)) ?_) | (with_reducible refine Or.inl (And.intro (Ob.mk (Flat.map ?_)) ?_); exact fun _ => rfl) | (refine Or.inl (And.intro (Ob.mk (flat_of rfl)) ?_)) | (refine Or.inl (And.intro (Ob.mk ⟨rfl, rfl, rfl, rfl⟩) ?_)) | (refine Or.inl (And.intro (Ob.mk ⟨rfl, rfl, rfl⟩) ?_)) | (refine And.intro (Ob.mk ⟨rfl, rfl⟩) ?_) | (with_reducible refine Or.inr ?_) | (refine And.intro (Ob.mk (flat_of rfl)) ?_) | (with_reducible refine And.intro (Ob.mk (Flat.map ?_)) ?_; exact fun _ => rfl) | (with_reducible first | exact Ob.mk (Flat.map fun _ => rfl) | refine And.intro ?_ ?_ | apply exG.mk | apply exGS.mk | exact Dd.nil) | (refine Dd.same _ ?_) | (refine Dd.dead _ ?_) | (with_reducible first | apply exQ.mk | apply exP.mk) | (refine EqP.mk rfl rfl) | (with_reducible apply exW.mk) | (refine EqW.mk rfl) | (with_reducible first | intro _ | refine Dn.mk ?_) | (refine exS.full (by first | rfl | (simp; done) | (simp; omega)) ?_) | (refine And.intro (Ob.mk ⟨rfl, rfl, by first | rfl | (simp; done) | (simp; omega)⟩) ?_) | (with_reducible refine exE.mapD ?_) | (refine exL.int ?_) | (with_reducible first | refine Up0.mk rfl ?_ | refine Up0i.mk rfl ?_ | refine Up1.mk rfl ?_ | refine Up1i.mk rfl ?_ | refine Up2.mk rfl ?_ | refine Up2i.mk rfl ?_) | (refine Col.mk rfl rfl rfl ?_) | (refine Coli.mk rfl rfl rfl rfl ?_))
  exact rfl
theorem backward61 (xs : List T) : PCalls Tryd.prog 74 [.sl 8 xs] (fun r => r = .fn 82 [.ptr [.sl 8 xs]]) := by
  refine PCalls.of_body ttOk Tryd.func74 rfl ?_
  repeat' ((conv => whnf); first | (with_reducible first | refine onBool_intro (fun _ => ?_) (fun _ => ?_) | refine And.intro (Ob.mk (Nat.le_of_ble_eq_true rfl)) ?_ | refine And.intro (Ob.mk rfl) ?_ | exact ⟨rfl, rfl⟩ | refine And.intro (Ob.mk (fun h => h)) ?_) | (with_reducible refine Or.inl (And.intro (Ob.mk (Flat.map ?_)) ?_); exact fun _ => rfl) | (refine Or.inl (And.intro (Ob.mk (flat_of rfl)) ?_)) | (refine Or.inl (And.intro (Ob.mk ⟨rfl, rfl, rfl, rfl⟩) ?_)) | (refine Or.inl (And.intro (Ob.mk ⟨rfl, rfl, rfl⟩) ?_)) | (refine And.intro (Ob.mk ⟨rfl, rfl⟩) ?_) | (with_reducible refine Or.inr ?_) | (refine And.intro (Ob.mk (flat_of rfl)) ?_) | (with_reducible refine And.intro (Ob.mk (Flat.map ?_)) ?_; exact fun _ => rfl) | (with_reducible first | exact Ob.mk (Flat.map fun _ => rfl) | refine And.intro ?_ ?_ | apply exG.mk | apply exGS.mk | exact Dd.nil) | (refine Dd.same _ ?_) | (refine Dd.dead _ ?_) | (with_reducible first | apply exQ.mk | apply exP.mk) | (refine EqP.mk rfl rfl) | (with_reducible apply exW.mk) | (refine EqW.mk rfl) | (with_reducible first | intro _ | refine Dn.mk ?_) | (refine exS.full (by first | rfl | (simp; done) | (simp; omega)) ?_) | (refine And.intro (Ob.mk ⟨rfl, rfl, by first | rfl | (simp; done) | (simp; omega)⟩) ?_) | (with_reducible refine exE.mapD ?_) | (refine exL.int ?_) | (with_reducible first | refine Up0.mk rfl ?_ | refine Up0i.mk rfl ?_ | refine Up1.mk rfl ?_ | refine Up1i.mk rfl ?_ | refine Up2.mk rfl ?_ | refine Up2i.mk rfl ?_) | (refine Col.mk rfl rfl rfl ?_) | (refine Coli.mk rfl rfl rfl rfl ?_))
  exact rfl
def Inside (g : Graph) (a : Nat → Nat → Bool) : Prop := ∀ s, s < g.blocks.length → ∀ t, t < 8000 → a s t = true → t < g.temps.toNat
theorem flatA_words {f : Nat → Bool} : FlatA (wordsT f) := fun x hx => by obtain ⟨i, _, rfl⟩ := List.mem_map.1 hx; rfl
theorem intA_words {f : Nat → Bool} : IntA .u64 (wordsT f) := fun x hx => by obtain ⟨i, _, rfl⟩ := List.mem_map.1 hx; exact ⟨_, rfl⟩
theorem setsR_set {m b : Nat} {a : Nat → Nat → Bool} {f : Nat → Bool} : (setsR m a).set b (.arr (wordsT f)) = setsR m (setRow a b f) := by
  apply List.ext_getElem
  · simp
  · intro j h1 h2
    rw [List.getElem_set]
    simp only [List.getElem_map, List.getElem_range]
    unfold setRow
    by_cases h : b = j
    · subst h; simp
    · rw [if_neg h, if_neg (fun e => h e.symm)]
theorem stepC_inside {g : Graph} {l : List Ins} (hl : ∀ x ∈ l, ∀ t ∈ usesN x, 0 ≤ t ∧ t < g.temps) {f : Nat → Bool} {t : Nat} (h : f t = true → t < g.temps.toNat) : stepC l f t = true → t < g.temps.toNat := by
  induction l with
  | nil => exact h
  | cons x l ih =>
    have ih := ih fun y hy => hl y (List.mem_cons_of_mem _ hy)
    intro h1
    rw [stepC_cons] at h1
    unfold backF at h1
    simp only [Bool.or_eq_true, Bool.and_eq_true, List.contains_iff_mem] at h1
    rcases h1 with h1 | ⟨h1, _⟩
    · have := hl x List.mem_cons_self _ h1; omega
    · exact ih h1
theorem stepF_inside {g : Graph} (hg : g.fit) {a : Nat → Nat → Bool} (ha : Inside g a) {b : Nat} (hb : b < g.blocks.length) {t : Nat} (ht : t < 8000) : stepF g a b t = true → t < g.temps.toNat := by
  refine stepC_inside (hg.uses _ (nthD_mem hb)) ?_
  unfold endF
  simp only [Bool.or_eq_true, List.any_eq_true, List.contains_iff_mem]
  rintro (⟨s, hs, h1⟩ | h1)
  · have := hg.next b hb s hs
    exact ha _ (by omega) t ht h1
  · have := hg.ends _ (nthD_mem hb) _ h1; omega
theorem Inside.set {g : Graph} (hg : g.fit) {a : Nat → Nat → Bool} (ha : Inside g a) {b : Nat} (hb : b < g.blocks.length) : Inside g (setRow a b (stepF g a b)) := by
  intro s hs t ht h
  unfold setRow at h
  by_cases e : s = b
  · rw [if_pos e] at h; exact stepF_inside hg ha hb ht h
  · rw [if_neg e] at h; exact ha s hs t ht h
theorem behind60k (g : Graph) (hg : g.fit) (hw : ∀ b ∈ g.blocks, ∀ x ∈ allN b.fin, I64 x) (b : Int) (a : Nat → Nat → Bool) (ep : Nat → Nat) (hep : ep 0 = 0) (hb : Ob (0 ≤ b ∧ b < g.blocks.length)) (hz : Ob (Inside g a)) {q : SV → Sto → Prop}
    (hq : q (.pl 2 0 [] 0 0) [.nd ep (.row 102 125 (setsR g.blocks.length a)), gvar g, .row 102 1 (wordsT (endF g a b.toNat))]) : ICalls Tryd.prog 73 [gS g, .t (.int .i64 b), .osl 0 0 g.blocks.length] [.nd ep (.row 102 125 (setsR g.blocks.length a))] q :=
  ICalls.mono (behind60 g hg hw b hb.out a ep hep hz.out) fun v σ h => by obtain ⟨rfl, rfl⟩ := h.out; exact hq
theorem back62k (x : Ins) (h : Ob (x.args.length ≤ 2 ^ 20 ∧ (1 ≤ x.op ∧ x.op ≤ 32) ∧ (∀ t ∈ usesN x, 0 ≤ t ∧ t < 8000) ∧ setsN x < 8000)) (f : Nat → Bool) {q : SV → Sto → Prop} (hq : q (.tup []) [.row 102 1 (wordsT (backF x f)), ivar x]) :
    ICalls Tryd.prog 75 [.pl 0 0 [] 0 0, xS x] [.row 102 1 (wordsT f)] q :=
  ICalls.mono (back62 x h.out.1 h.out.2.1 h.out.2.2.1 h.out.2.2.2 f) fun v σ h => by obtain ⟨rfl, rfl⟩ := h.out; exact hq
theorem setsR_zero (m : Nat) : List.replicate m (T.arr (List.replicate 125 (T.int .u64 0))) = setsR m fun _ _ => false := by
  rw [wordsT_zero]
  apply List.ext_getElem
  · simp
  · intro j h1 h2; simp
theorem needed29 (g : Graph) (hg : g.fit) (hf : g.fits) (hw : ∀ b ∈ g.blocks, ∀ x ∈ allN b.fin, I64 x) : PCalls Tryd.prog 63 [g.t] (fun r => ∃ a, Least g 8000 a ∧ Inside g a ∧ r = .sl 125 (setsR g.blocks.length a)) := by
  have ht := hg.temps
  have hb := hg.blocks
  refine PCalls.of_bodyI (fun f => Nat.beq f 73 || Nat.beq f 75) ttOk Tryd.func63 rfl ?_
  repeat' ((conv => whnf); first | (with_reducible first | refine onBool_intro (fun _ => ?_) (fun _ => ?_) | refine And.intro (Ob.mk (Nat.le_of_ble_eq_true rfl)) ?_ | refine And.intro (Ob.mk rfl) ?_ | exact ⟨rfl, rfl⟩ | refine And.intro (Ob.mk (fun h => h)) ?_) | (with_reducible refine Or.inl (And.intro (Ob.mk (Flat.map ?_)) ?_); exact fun _ => rfl) | (refine Or.inl (And.intro (Ob.mk (flat_of rfl)) ?_)) | (refine Or.inl (And.intro (Ob.mk ⟨rfl, rfl, rfl, rfl⟩) ?_)) | (refine Or.inl (And.intro (Ob.mk ⟨rfl, rfl, rfl⟩) ?_)) | (refine And.intro (Ob.mk ⟨rfl, rfl⟩) ?_) | (with_reducible refine Or.inr ?_) | (refine And.intro (Ob.mk (flat_of rfl)) ?_) | (with_reducible refine And.intro (Ob.mk (Flat.map ?_)) ?_; exact fun _ => rfl) | (with_reducible first | exact Ob.mk (Flat.map fun _ => rfl) | refine And.intro ?_ ?_ | apply exG.mk | apply exGS.mk | exact Dd.nil) | (refine Dd.same _ ?_) | (refine Dd.dead _ ?_) | (with_reducible first | apply exQ.mk | apply exP.mk) | (refine EqP.mk rfl rfl) | (with_reducible apply exW.mk) | (refine EqW.mk rfl) | (with_reducible first | intro _ | refine Dn.mk ?_) | (refine exS.full (by first | rfl | (simp; done) | (simp; omega)) ?_) | (refine And.intro (Ob.mk ⟨rfl, rfl, by first | rfl | (simp; done) | (simp; omega)⟩) ?_) | (with_reducible refine exE.mapD ?_) | (refine exL.int ?_) | (with_reducible first | refine Up0.mk rfl ?_ | refine Up0i.mk rfl ?_ | refine Up1.mk rfl ?_ | refine Up1i.mk rfl ?_ | refine Up2.mk rfl ?_ | refine Up2i.mk rfl ?_) | (refine Col.mk rfl rfl rfl ?_) | (refine Coli.mk rfl rfl rfl rfl ?_))
  · exact Ob.mk (by simp)
  · exact Ob.mk (Int.le_refl _)
  · refine Ob.mk ?_
    show ((g.blocks.map Block.t).length : Int) * (1000 : Nat) ≤ _
    rw [List.length_map]; omega
  · exact Ob.mk (by rw [List.length_map]; omega)
  conv => whnf
  refine LoopVC.mk [4] [] (fun m vals σ => ∃ (ch : Bool) (a : Nat → Nat → Bool) (ep : Nat → Nat), vals = [.pl 4 0 [] 0 0] ∧ σ = [gvar g, .dead, .var 98 [.osl 5 0 g.blocks.length], .dead, .var 4 [.t (.bool ch)], .nd ep (.row 102 125 (setsR g.blocks.length a))] ∧ ep 0 = 0 ∧ Way g 8000 a ∧ Inside g a ∧ (ch = false → LeB g.blocks.length 8000 (stepF g a) a) ∧ m = 2 * outs g.blocks.length 8000 a + ch.toNat) ?_ ?_
  · conv => whnf
    refine ⟨_, true, fun _ _ => false, e0, rfl, ?_, rfl, Way.zero _ _, (fun s _ t _ h => nomatch h), (fun h => nomatch h), rfl⟩
    refine congrArg (fun z => [gvar g, .dead, .var 98 [.osl 5 0 z.1], .dead, .var 4 [.t (.bool true)], .nd e0 (.row 102 125 z.2)]) (a₁ := (((g.blocks.map Block.t).length : Int).toNat, List.replicate ((g.blocks.map Block.t).length : Int).toNat (T.arr (List.replicate 125 (T.int .u64 0))))) (a₂ := (g.blocks.length, setsR g.blocks.length fun _ _ => false)) ?_
    rw [setsR_zero, List.length_map, Int.toNat_natCast]
  · rintro m vals σ ⟨ch, a, ep, rfl, rfl, hep, hw1, hin, hd, hm⟩
    repeat' ((conv => whnf); first | (with_reducible first | refine onBool_intro (fun _ => ?_) (fun _ => ?_) | refine And.intro (Ob.mk (Nat.le_of_ble_eq_true rfl)) ?_ | refine And.intro (Ob.mk rfl) ?_ | exact ⟨rfl, rfl⟩ | refine And.intro (Ob.mk (fun h => h)) ?_) | (with_reducible refine Or.inl (And.intro (Ob.mk (Flat.map ?_)) ?_); exact fun _ => rfl) | (refine Or.inl (And.intro (Ob.mk (flat_of rfl)) ?_)) | (refine Or.inl (And.intro (Ob.mk ⟨rfl, rfl, rfl, rfl⟩) ?_)) | (refine Or.inl (And.intro (Ob.mk ⟨rfl, rfl, rfl⟩) ?_)) | (refine And.intro (Ob.mk ⟨rfl, rfl⟩) ?_) | (with_reducible refine Or.inr ?_) | (refine And.intro (Ob.mk (flat_of rfl)) ?_) | (with_reducible refine And.intro (Ob.mk (Flat.map ?_)) ?_; exact fun _ => rfl) | (with_reducible first | exact Ob.mk (Flat.map fun _ => rfl) | refine And.intro ?_ ?_ | apply exG.mk | apply exGS.mk | exact Dd.nil) | (refine Dd.same _ ?_) | (refine Dd.dead _ ?_) | (with_reducible first | apply exQ.mk | apply exP.mk) | (refine EqP.mk rfl rfl) | (with_reducible apply exW.mk) | (refine EqW.mk rfl) | (with_reducible first | intro _ | refine Dn.mk ?_) | (refine exS.full (by first | rfl | (simp; done) | (simp; omega)) ?_) | (refine And.intro (Ob.mk ⟨rfl, rfl, by first | rfl | (simp; done) | (simp; omega)⟩) ?_) | (with_reducible refine exE.mapD ?_) | (refine exL.int ?_) | (with_reducible first | refine Up0.mk rfl ?_ | refine Up0i.mk rfl ?_ | refine Up1.mk rfl ?_ | refine Up1i.mk rfl ?_ | refine Up2.mk rfl ?_ | refine Up2i.mk rfl ?_) | (refine Col.mk rfl rfl rfl ?_) | (refine Coli.mk rfl rfl rfl rfl ?_) | (refine PCalls.mono (backward59 _) ?_; rintro _ rfl))
    all_goals (try (refine Ob.mk ?_; first | assumption | exact ⟨rfl, rfl⟩ | exact ⟨rfl, rfl, rfl⟩ | (refine ⟨rfl, rfl, ?_⟩; simp only [List.length_map, List.length_take, List.length_append, els_len, List.length_replicate]; omega) | (intro h; exact h) | (intro h; rw [h]; rfl) | (intro h; simp_all; done) | (refine bytes_le (n := 1048577) ?_ rfl; simp only [ltI_iff, ltI_not, leI_iff, leI_not, eqI_iff, eqI_not, List.length_map, bif_and, bif_or, Bool.and_eq_true, Bool.and_eq_false_iff, Bool.or_eq_true, Bool.or_eq_false_iff, Bool.not_eq_true', Bool.not_eq_false', Int.toNat_natCast, beq_iff_eq, beq_eq_false_iff_ne, decide_eq_true_eq, decide_eq_false_iff_not, bel_iff, bel_not, wthn_iff, wthn_not, els_len, mixL_len, Nat.zero_add, List.length_set, List.length_take] at *; omega) | (simp only [ltI_iff, ltI_not, leI_iff, leI_not, eqI_iff, eqI_not, List.length_map, bif_and, bif_or, Bool.and_eq_true, Bool.and_eq_false_iff, Bool.or_eq_true, Bool.or_eq_false_iff, Bool.not_eq_true', Bool.not_eq_false', Int.toNat_natCast, beq_iff_eq, beq_eq_false_iff_ne, decide_eq_true_eq, decide_eq_false_iff_not, bel_iff, bel_not, wthn_iff, wthn_not, els_len, mixL_len, Nat.zero_add, List.length_set, List.length_take, Int.ofNat_eq_natCast] at *; omega)))
    all_goals (try exact Ob.mk hep.symm)
    · rename_i hch
      conv => whnf
      refine RCalls.inline (fun f => Nat.beq f 73 || Nat.beq f 75) ttOk Tryd.func80 rfl ?_
      intro l
      repeat' ((conv => whnf); first | (with_reducible first | refine onBool_intro (fun _ => ?_) (fun _ => ?_) | refine And.intro (Ob.mk (Nat.le_of_ble_eq_true rfl)) ?_ | refine And.intro (Ob.mk rfl) ?_ | exact ⟨rfl, rfl⟩ | refine And.intro (Ob.mk (fun h => h)) ?_) | (with_reducible refine Or.inl (And.intro (Ob.mk (Flat.map ?_)) ?_); exact fun _ => rfl) | (refine Or.inl (And.intro (Ob.mk (flat_of rfl)) ?_)) | (refine Or.inl (And.intro (Ob.mk ⟨rfl, rfl, rfl, rfl⟩) ?_)) | (refine Or.inl (And.intro (Ob.mk ⟨rfl, rfl, rfl⟩) ?_)) | (refine And.intro (Ob.mk ⟨rfl, rfl⟩) ?_) | (with_reducible refine Or.inr ?_) | (refine And.intro (Ob.mk (flat_of rfl)) ?_) | (with_reducible refine And.intro (Ob.mk (Flat.map ?_)) ?_; exact fun _ => rfl) | (with_reducible first | exact Ob.mk (Flat.map fun _ => rfl) | refine And.intro ?_ ?_ | apply exG.mk | apply exGS.mk | exact Dd.nil) | (refine Dd.same _ ?_) | (refine Dd.dead _ ?_) | (with_reducible first | apply exQ.mk | apply exP.mk) | (refine EqP.mk rfl rfl) | (with_reducible apply exW.mk) | (refine EqW.mk rfl) | (with_reducible first | intro _ | refine Dn.mk ?_) | (refine exS.full (by first | rfl | (simp; done) | (simp; omega)) ?_) | (refine And.intro (Ob.mk ⟨rfl, rfl, by first | rfl | (simp; done) | (simp; omega)⟩) ?_) | (with_reducible refine exE.mapD ?_) | (refine exL.int ?_) | (with_reducible first | refine Up0.mk rfl ?_ | refine Up0i.mk rfl ?_ | refine Up1.mk rfl ?_ | refine Up1i.mk rfl ?_ | refine Up2.mk rfl ?_ | refine Up2i.mk rfl ?_) | (refine Col.mk rfl rfl rfl ?_) | (refine Coli.mk rfl rfl rfl rfl ?_))
      conv => whnf
      refine LoopVC.mk [3] [] (fun m vals σ => ∃ (i : Nat) (c2 : Bool) (a2 : Nat → Nat → Bool) (ep2 : Nat → Nat), vals = [.t (.int .i64 ((i : Int) - 1))] ∧ σ = [gvar g, .dead, .var 98 [.osl 6 0 g.blocks.length], .dead, .var 4 [.t (.bool c2)], .dead, .nd ep2 (.row 102 125 (setsR g.blocks.length a2))] ∧ ep2 0 = 0 ∧ Way g 8000 a2 ∧ Inside g a2 ∧ LeB g.blocks.length 8000 a a2 ∧
        (c2 = true → outs g.blocks.length 8000 a2 < outs g.blocks.length 8000 a) ∧ (c2 = false → ∀ j, j < g.blocks.length → i ≤ j → ∀ t, t < 8000 → stepF g a2 j t = a2 j t) ∧ i ≤ g.blocks.length ∧ m = i) ?_ ?_
      · conv => whnf
        refine ⟨_, g.blocks.length, false, a, ep, ?_, rfl, hep, hw1, hin, LeB.refl, (fun h => nomatch h), (fun _ j hj hi => absurd hj (by omega)), Nat.le_refl _, rfl⟩
        rw [subI_i64 (by simp; omega) (by simp; omega), List.length_map]
      · rintro m2 vals σ ⟨i, c2, a2, ep2, rfl, rfl, hep2, hw2, hin2, hle, hc, hfx, hi, hmi⟩
        repeat' ((conv => whnf); first | (with_reducible first | refine onBool_intro (fun _ => ?_) (fun _ => ?_) | refine And.intro (Ob.mk (Nat.le_of_ble_eq_true rfl)) ?_ | refine And.intro (Ob.mk rfl) ?_ | exact ⟨rfl, rfl⟩ | refine And.intro (Ob.mk (fun h => h)) ?_) | (with_reducible refine Or.inl (And.intro (Ob.mk (Flat.map ?_)) ?_); exact fun _ => rfl) | (refine Or.inl (And.intro (Ob.mk (flat_of rfl)) ?_)) | (refine Or.inl (And.intro (Ob.mk ⟨rfl, rfl, rfl, rfl⟩) ?_)) | (refine Or.inl (And.intro (Ob.mk ⟨rfl, rfl, rfl⟩) ?_)) | (refine And.intro (Ob.mk ⟨rfl, rfl⟩) ?_) | (with_reducible refine Or.inr ?_) | (refine And.intro (Ob.mk (flat_of rfl)) ?_) | (with_reducible refine And.intro (Ob.mk (Flat.map ?_)) ?_; exact fun _ => rfl) | (with_reducible first | exact Ob.mk (Flat.map fun _ => rfl) | refine And.intro ?_ ?_ | apply exG.mk | apply exGS.mk | exact Dd.nil) | (refine Dd.same _ ?_) | (refine Dd.dead _ ?_) | (with_reducible first | apply exQ.mk | apply exP.mk) | (refine EqP.mk rfl rfl) | (with_reducible apply exW.mk) | (refine EqW.mk rfl) | (with_reducible first | intro _ | refine Dn.mk ?_) | (refine exS.full (by first | rfl | (simp; done) | (simp; omega)) ?_) | (refine And.intro (Ob.mk ⟨rfl, rfl, by first | rfl | (simp; done) | (simp; omega)⟩) ?_) | (with_reducible refine exE.mapD ?_) | (refine exL.int ?_) | (with_reducible first | refine Up0.mk rfl ?_ | refine Up0i.mk rfl ?_ | refine Up1.mk rfl ?_ | refine Up1i.mk rfl ?_ | refine Up2.mk rfl ?_ | refine Up2i.mk rfl ?_) | (refine Col.mk rfl rfl rfl ?_) | (refine Coli.mk rfl rfl rfl rfl ?_) | (refine ICalls.frame [6] rfl (behind60k _ hg hw _ _ _ hep2 ?_ ?_ ?_)) | (refine PCalls.mono (backward61 _) ?_; rintro _ rfl))
        all_goals (try (refine Ob.mk ?_; first | assumption | exact ⟨rfl, rfl⟩ | exact ⟨rfl, rfl, rfl⟩ | (refine ⟨rfl, rfl, ?_⟩; simp only [List.length_map, List.length_take, List.length_append, els_len, List.length_replicate]; omega) | (intro h; exact h) | (intro h; rw [h]; rfl) | (intro h; simp_all; done) | (refine bytes_le (n := 1048577) ?_ rfl; simp only [ltI_iff, ltI_not, leI_iff, leI_not, eqI_iff, eqI_not, List.length_map, bif_and, bif_or, Bool.and_eq_true, Bool.and_eq_false_iff, Bool.or_eq_true, Bool.or_eq_false_iff, Bool.not_eq_true', Bool.not_eq_false', Int.toNat_natCast, beq_iff_eq, beq_eq_false_iff_ne, decide_eq_true_eq, decide_eq_false_iff_not, bel_iff, bel_not, wthn_iff, wthn_not, els_len, mixL_len, Nat.zero_add, List.length_set, List.length_take] at *; omega) | (simp only [ltI_iff, ltI_not, leI_iff, leI_not, eqI_iff, eqI_not, List.length_map, bif_and, bif_or, Bool.and_eq_true, Bool.and_eq_false_iff, Bool.or_eq_true, Bool.or_eq_false_iff, Bool.not_eq_true', Bool.not_eq_false', Int.toNat_natCast, beq_iff_eq, beq_eq_false_iff_ne, decide_eq_true_eq, decide_eq_false_iff_not, bel_iff, bel_not, wthn_iff, wthn_not, els_len, mixL_len, Nat.zero_add, List.length_set, List.length_take, Int.ofNat_eq_natCast] at *; omega)))
        all_goals (try exact Ob.mk hep2.symm)
        · exact Nat.beq_refl l
        · rename_i h1
          conv => whnf
          have hi1 : 1 ≤ i := by simp only [ltI_iff, ltI_not, leI_iff, leI_not, eqI_iff, eqI_not, List.length_map, bif_and, bif_or, Bool.and_eq_true, Bool.and_eq_false_iff, Bool.or_eq_true, Bool.or_eq_false_iff, Bool.not_eq_true', Bool.not_eq_false', Int.toNat_natCast, beq_iff_eq, beq_eq_false_iff_ne, decide_eq_true_eq, decide_eq_false_iff_not] at *; omega
          have hblt : ((i : Int) - 1).toNat < g.blocks.length := by omega
          have hbm := nthD_mem hblt
          have hcl := (hg.tiny.all _ hbm).code
          refine RCalls.inline (fun f => Nat.beq f 73 || Nat.beq f 75) ttOk Tryd.func82 rfl ?_
          intro l2
          repeat' ((conv => whnf); first | (with_reducible first | refine onBool_intro (fun _ => ?_) (fun _ => ?_) | refine And.intro (Ob.mk (Nat.le_of_ble_eq_true rfl)) ?_ | refine And.intro (Ob.mk rfl) ?_ | exact ⟨rfl, rfl⟩ | refine And.intro (Ob.mk (fun h => h)) ?_) | (with_reducible refine Or.inl (And.intro (Ob.mk (Flat.map ?_)) ?_); exact fun _ => rfl) | (refine Or.inl (And.intro (Ob.mk (flat_of rfl)) ?_)) | (refine Or.inl (And.intro (Ob.mk ⟨rfl, rfl, rfl, rfl⟩) ?_)) | (refine Or.inl (And.intro (Ob.mk ⟨rfl, rfl, rfl⟩) ?_)) | (refine And.intro (Ob.mk ⟨rfl, rfl⟩) ?_) | (with_reducible refine Or.inr ?_) | (refine And.intro (Ob.mk (flat_of rfl)) ?_) | (with_reducible refine And.intro (Ob.mk (Flat.map ?_)) ?_; exact fun _ => rfl) | (with_reducible first | exact Ob.mk (Flat.map fun _ => rfl) | refine And.intro ?_ ?_ | apply exG.mk | apply exGS.mk | exact Dd.nil) | (refine Dd.same _ ?_) | (refine Dd.dead _ ?_) | (with_reducible first | apply exQ.mk | apply exP.mk) | (refine EqP.mk rfl rfl) | (with_reducible apply exW.mk) | (refine EqW.mk rfl) | (with_reducible first | intro _ | refine Dn.mk ?_) | (refine exS.full (by first | rfl | (simp; done) | (simp; omega)) ?_) | (refine And.intro (Ob.mk ⟨rfl, rfl, by first | rfl | (simp; done) | (simp; omega)⟩) ?_) | (with_reducible refine exE.mapD ?_) | (refine exL.int ?_) | (with_reducible first | refine Up0.mk rfl ?_ | refine Up0i.mk rfl ?_ | refine Up1.mk rfl ?_ | refine Up1i.mk rfl ?_ | refine Up2.mk rfl ?_ | refine Up2i.mk rfl ?_) | (refine Col.mk rfl rfl rfl ?_) | (refine Coli.mk rfl rfl rfl rfl ?_))
          conv => whnf
          refine LoopVC.mk [3] [] (fun m vals σ => ∃ k : Nat, vals = [.t (.int .i64 ((k : Int) - 1))] ∧ σ = [gvar g, .dead, .var 98 [.osl 10 0 g.blocks.length], .dead, .var 4 [.t (.bool c2)], .dead, .dead, gvar g, .row 102 1 (wordsT (stepC ((nthD g.blocks ((i : Int) - 1).toNat).code.drop k) (endF g a2 ((i : Int) - 1).toNat))), .var 117 [.pl 8 0 [] 0 0], .nd ep2 (.row 102 125 (setsR g.blocks.length a2))] ∧ k ≤ (nthD g.blocks ((i : Int) - 1).toNat).code.length ∧ m = k) ?_ ?_
          · conv => whnf
            refine ⟨_, (nthD g.blocks ((i : Int) - 1).toNat).code.length, ?_, ?_, Nat.le_refl _, rfl⟩
            · rw [List.length_map, subI_i64 (by omega) (by omega)]
            · rw [List.drop_length]
              exact rfl
          · rintro m3 vals σ ⟨k, rfl, rfl, hk, hmk⟩
            repeat' ((conv => whnf); first | (with_reducible first | refine onBool_intro (fun _ => ?_) (fun _ => ?_) | refine And.intro (Ob.mk (Nat.le_of_ble_eq_true rfl)) ?_ | refine And.intro (Ob.mk rfl) ?_ | exact ⟨rfl, rfl⟩ | refine And.intro (Ob.mk (fun h => h)) ?_) | (with_reducible refine Or.inl (And.intro (Ob.mk (Flat.map ?_)) ?_); exact fun _ => rfl) | (refine Or.inl (And.intro (Ob.mk (flat_of rfl)) ?_)) | (refine Or.inl (And.intro (Ob.mk ⟨rfl, rfl, rfl, rfl⟩) ?_)) | (refine Or.inl (And.intro (Ob.mk ⟨rfl, rfl, rfl⟩) ?_)) | (refine And.intro (Ob.mk ⟨rfl, rfl⟩) ?_) | (with_reducible refine Or.inr ?_) | (refine And.intro (Ob.mk (flat_of rfl)) ?_) | (with_reducible refine And.intro (Ob.mk (Flat.map ?_)) ?_; exact fun _ => rfl) | (with_reducible first | exact Ob.mk (Flat.map fun _ => rfl) | refine And.intro ?_ ?_ | apply exG.mk | apply exGS.mk | exact Dd.nil) | (refine Dd.same _ ?_) | (refine Dd.dead _ ?_) | (with_reducible first | apply exQ.mk | apply exP.mk) | (refine EqP.mk rfl rfl) | (with_reducible apply exW.mk) | (refine EqW.mk rfl) | (with_reducible first | intro _ | refine Dn.mk ?_) | (refine exS.full (by first | rfl | (simp; done) | (simp; omega)) ?_) | (refine And.intro (Ob.mk ⟨rfl, rfl, by first | rfl | (simp; done) | (simp; omega)⟩) ?_) | (with_reducible refine exE.mapD ?_) | (refine exL.int ?_) | (with_reducible first | refine Up0.mk rfl ?_ | refine Up0i.mk rfl ?_ | refine Up1.mk rfl ?_ | refine Up1i.mk rfl ?_ | refine Up2.mk rfl ?_ | refine Up2i.mk rfl ?_) | (refine Col.mk rfl rfl rfl ?_) | (refine Coli.mk rfl rfl rfl rfl ?_) | (refine ICalls.frame [8] rfl (back62k (nthD (nthD g.blocks ((i : Int) - 1).toNat).code ((k : Int) - 1).toNat) ?_ _ ?_)))
            all_goals (try (refine Ob.mk ?_; first | assumption | exact ⟨rfl, rfl⟩ | exact ⟨rfl, rfl, rfl⟩ | (refine ⟨rfl, rfl, ?_⟩; simp only [List.length_map, List.length_take, List.length_append, els_len, List.length_replicate]; omega) | (intro h; exact h) | (intro h; rw [h]; rfl) | (intro h; simp_all; done) | (refine bytes_le (n := 1048577) ?_ rfl; simp only [ltI_iff, ltI_not, leI_iff, leI_not, eqI_iff, eqI_not, List.length_map, bif_and, bif_or, Bool.and_eq_true, Bool.and_eq_false_iff, Bool.or_eq_true, Bool.or_eq_false_iff, Bool.not_eq_true', Bool.not_eq_false', Int.toNat_natCast, beq_iff_eq, beq_eq_false_iff_ne, decide_eq_true_eq, decide_eq_false_iff_not, bel_iff, bel_not, wthn_iff, wthn_not, els_len, mixL_len, Nat.zero_add, List.length_set, List.length_take] at *; omega) | (simp only [ltI_iff, ltI_not, leI_iff, leI_not, eqI_iff, eqI_not, List.length_map, bif_and, bif_or, Bool.and_eq_true, Bool.and_eq_false_iff, Bool.or_eq_true, Bool.or_eq_false_iff, Bool.not_eq_true', Bool.not_eq_false', Int.toNat_natCast, beq_iff_eq, beq_eq_false_iff_ne, decide_eq_true_eq, decide_eq_false_iff_not, bel_iff, bel_not, wthn_iff, wthn_not, els_len, mixL_len, Nat.zero_add, List.length_set, List.length_take, Int.ofNat_eq_natCast] at *; omega)))
            · exact Nat.beq_refl l2
            · rename_i h2
              simp only [ltI_iff, ltI_not, leI_iff, leI_not, eqI_iff, eqI_not, List.length_map, bif_and, bif_or, Bool.and_eq_true, Bool.and_eq_false_iff, Bool.or_eq_true, Bool.or_eq_false_iff, Bool.not_eq_true', Bool.not_eq_false', Int.toNat_natCast, beq_iff_eq, beq_eq_false_iff_ne, decide_eq_true_eq, decide_eq_false_iff_not] at *
              have hxm := nthD_mem (l := (nthD g.blocks ((i : Int) - 1).toNat).code) (i := ((k : Int) - 1).toNat) (by omega)
              have hok := hf.ins _ hbm _ hxm
              unfold insOk at hok
              rw [Bool.and_eq_true, Bool.and_eq_true, decide_eq_true_eq] at hok
              have hu := hg.uses _ hbm _ hxm
              have hs := hg.sets _ hbm _ hxm
              exact Ob.mk ⟨(hg.tiny.all _ hbm).args _ hxm, hok.1.1, fun t ht2 => by have := hu t ht2; omega, by omega⟩
            · rename_i h2 _
              conv => whnf
              have hk1 : 1 ≤ k := by simp only [ltI_iff, ltI_not, leI_iff, leI_not, eqI_iff, eqI_not, List.length_map, bif_and, bif_or, Bool.and_eq_true, Bool.and_eq_false_iff, Bool.or_eq_true, Bool.or_eq_false_iff, Bool.not_eq_true', Bool.not_eq_false', Int.toNat_natCast, beq_iff_eq, beq_eq_false_iff_ne, decide_eq_true_eq, decide_eq_false_iff_not] at *; omega
              refine ⟨m3 - 1, by omega, k - 1, ?_, ?_, by omega, by omega⟩
              · rw [subI_i64 (by omega) (by omega)]
                exact congrArg (fun z => [SV.t (.int .i64 z)]) (by omega)
              · have e1 : ((k : Int) - 1).toNat = k - 1 := by omega
                rw [drop_nthD (i := k - 1) (by omega), show k - 1 + 1 = k by omega, stepC_cons, e1]
                exact rfl
            · rename_i h2
              have hk0 : k = 0 := by simp only [ltI_iff, ltI_not, leI_iff, leI_not, eqI_iff, eqI_not, List.length_map, bif_and, bif_or, Bool.and_eq_true, Bool.and_eq_false_iff, Bool.or_eq_true, Bool.or_eq_false_iff, Bool.not_eq_true', Bool.not_eq_false', Int.toNat_natCast, beq_iff_eq, beq_eq_false_iff_ne, decide_eq_true_eq, decide_eq_false_iff_not] at *; omega
              subst hk0
              rw [List.drop_zero]
              repeat' ((conv => whnf); first | (with_reducible first | refine onBool_intro (fun _ => ?_) (fun _ => ?_) | refine And.intro (Ob.mk (Nat.le_of_ble_eq_true rfl)) ?_ | refine And.intro (Ob.mk rfl) ?_ | exact ⟨rfl, rfl⟩ | refine And.intro (Ob.mk (fun h => h)) ?_) | (with_reducible refine Or.inl (And.intro (Ob.mk (Flat.map ?_)) ?_); exact fun _ => rfl) | (refine Or.inl (And.intro (Ob.mk (flat_of rfl)) ?_)) | (refine Or.inl (And.intro (Ob.mk ⟨rfl, rfl, rfl, rfl⟩) ?_)) | (refine Or.inl (And.intro (Ob.mk ⟨rfl, rfl, rfl⟩) ?_)) | (refine And.intro (Ob.mk ⟨rfl, rfl⟩) ?_) | (with_reducible refine Or.inr ?_) | (refine And.intro (Ob.mk (flat_of rfl)) ?_) | (with_reducible refine And.intro (Ob.mk (Flat.map ?_)) ?_; exact fun _ => rfl) | (with_reducible first | exact Ob.mk (Flat.map fun _ => rfl) | refine And.intro ?_ ?_ | apply exG.mk | apply exGS.mk | exact Dd.nil) | (refine Dd.same _ ?_) | (refine Dd.dead _ ?_) | (with_reducible first | apply exQ.mk | apply exP.mk) | (refine EqP.mk rfl rfl) | (with_reducible apply exW.mk) | (refine EqW.mk rfl) | (with_reducible first | intro _ | refine Dn.mk ?_) | (refine exS.full (by first | rfl | (simp; done) | (simp; omega)) ?_) | (refine And.intro (Ob.mk ⟨rfl, rfl, by first | rfl | (simp; done) | (simp; omega)⟩) ?_) | (with_reducible refine exE.mapD ?_) | (refine exL.int ?_) | (with_reducible first | refine Up0.mk rfl ?_ | refine Up0i.mk rfl ?_ | refine Up1.mk rfl ?_ | refine Up1i.mk rfl ?_ | refine Up2.mk rfl ?_ | refine Up2i.mk rfl ?_) | (refine Col.mk rfl rfl rfl ?_) | (refine Coli.mk rfl rfl rfl rfl ?_) | (refine drawVC.mkM _ _ 8 8 [] [[], [0], [0, 1], [], [], [3, 4], [3, 4, 5], [0, 1, 2, 3, 4, 5, 6]] rfl rfl ?_) | (refine drawVC.mkM _ _ 8 8 [(6, []), (7, [])] [[], [], [], [2], [2, 3], [0, 1, 2, 3, 4], [0, 1, 2, 3, 4, 5], [0, 1, 2, 3, 4, 5, 6]] rfl (by kernel_rfl) ?_))
              all_goals (try (refine Ob.mk ?_; first | assumption | exact ⟨rfl, rfl⟩ | exact ⟨rfl, rfl, rfl⟩ | (refine ⟨rfl, rfl, ?_⟩; simp only [List.length_map, List.length_take, List.length_append, els_len, List.length_replicate]; omega) | (intro h; exact h) | (intro h; rw [h]; rfl) | (intro h; simp_all; done) | (refine bytes_le (n := 1048577) ?_ rfl; simp only [ltI_iff, ltI_not, leI_iff, leI_not, eqI_iff, eqI_not, List.length_map, bif_and, bif_or, Bool.and_eq_true, Bool.and_eq_false_iff, Bool.or_eq_true, Bool.or_eq_false_iff, Bool.not_eq_true', Bool.not_eq_false', Int.toNat_natCast, beq_iff_eq, beq_eq_false_iff_ne, decide_eq_true_eq, decide_eq_false_iff_not, bel_iff, bel_not, wthn_iff, wthn_not, els_len, mixL_len, Nat.zero_add, List.length_set, List.length_take] at *; omega) | (simp only [ltI_iff, ltI_not, leI_iff, leI_not, eqI_iff, eqI_not, List.length_map, bif_and, bif_or, Bool.and_eq_true, Bool.and_eq_false_iff, Bool.or_eq_true, Bool.or_eq_false_iff, Bool.not_eq_true', Bool.not_eq_false', Int.toNat_natCast, beq_iff_eq, beq_eq_false_iff_ne, decide_eq_true_eq, decide_eq_false_iff_not, bel_iff, bel_not, wthn_iff, wthn_not, els_len, mixL_len, Nat.zero_add, List.length_set, List.length_take, Int.ofNat_eq_natCast] at *; omega)))
              all_goals (try exact Ob.mk hep2.symm)
              all_goals (try exact Ob.mk flatA_words)
              all_goals (try exact Ob.mk intA_words)
              all_goals (try (refine Ob.mk ?_; simp only [List.length_map, List.length_range]; omega))
              · rename_i h3
                conv => whnf
                have hB := nthD_range hblt
                refine ⟨i - 1, by omega, i - 1, true, setRow a2 ((i : Int) - 1).toNat (stepF g a2 ((i : Int) - 1).toNat), ep2, ?_, ?_, hep2, hw2.step hg.next hblt, hin2.set hg hblt, hle.trans (hw2.step_le hblt), ?_, (fun h => nomatch h), by omega, rfl⟩
                · rw [subI_i64 (by omega) (by omega)]
                  exact congrArg (fun z => [SV.t (.int .i64 z)]) (by omega)
                · refine congrArg (fun z => [gvar g, .dead, .var 98 [.osl 6 0 g.blocks.length], .dead, .var 4 [.t (.bool true)], .dead, .nd ep2 (.row 102 125 z)]) ?_
                  rw [Nat.zero_add]
                  exact setsR_set
                · intro _
                  rw [Nat.zero_add, hB] at h3
                  have hne : ∃ t, t < 8000 ∧ a2 ((i : Int) - 1).toNat t ≠ setRow a2 ((i : Int) - 1).toNat (stepF g a2 ((i : Int) - 1).toNat) ((i : Int) - 1).toNat t := by
                    refine Classical.byContradiction fun h => ?_
                    have : eqA (wordsT (stepC (nthD g.blocks ((i : Int) - 1).toNat).code (endF g a2 ((i : Int) - 1).toNat))) (T.arr (wordsT (a2 ((i : Int) - 1).toNat))).cells = true := eqA_iff.2 (wordsT_congr fun t ht2 => by
                      refine Classical.byContradiction fun h4 => h ⟨t, ht2, ?_⟩
                      unfold setRow
                      rw [if_pos rfl]
                      exact fun e => h4 e.symm)
                    rw [this] at h3
                    cases h3
                  obtain ⟨t, ht2, h4⟩ := hne
                  exact Nat.lt_of_lt_of_le (outs_lt (hw2.step_le hblt) hblt ht2 h4) (outs_le hle)
              · rename_i h3
                conv => whnf
                have hB := nthD_range hblt
                rw [Nat.zero_add, hB] at h3
                have heq : ∀ t, t < 8000 → stepF g a2 ((i : Int) - 1).toNat t = a2 ((i : Int) - 1).toNat t := by
                  have h4 : eqA (wordsT (stepC (nthD g.blocks ((i : Int) - 1).toNat).code (endF g a2 ((i : Int) - 1).toNat))) (T.arr (wordsT (a2 ((i : Int) - 1).toNat))).cells = true := by simpa using h3
                  exact fun t ht2 => wordsT_inj (eqA_iff.1 h4) ht2
                refine ⟨i - 1, by omega, i - 1, c2, a2, ep2, ?_, rfl, hep2, hw2, hin2, hle, hc, ?_, by omega, rfl⟩
                · rw [subI_i64 (by omega) (by omega)]
                  exact congrArg (fun z => [SV.t (.int .i64 z)]) (by omega)
                · intro h4 j hj hij t ht2
                  by_cases e : j = ((i : Int) - 1).toNat
                  · rw [e]; exact heq t ht2
                  · exact hfx h4 j hj (by omega) t ht2
        · rename_i h1
          have hi0 : i = 0 := by simp only [ltI_iff, ltI_not, leI_iff, leI_not, eqI_iff, eqI_not, List.length_map, bif_and, bif_or, Bool.and_eq_true, Bool.and_eq_false_iff, Bool.or_eq_true, Bool.or_eq_false_iff, Bool.not_eq_true', Bool.not_eq_false', Int.toNat_natCast, beq_iff_eq, beq_eq_false_iff_ne, decide_eq_true_eq, decide_eq_false_iff_not] at *; omega
          subst hi0
          conv => whnf
          refine ⟨2 * outs g.blocks.length 8000 a2 + c2.toNat, ?_, c2, a2, ep2, rfl, rfl, hep2, hw2, hin2, fun e j hj u hu => ?_, rfl⟩
          · rw [hm, hch]
            have := outs_le hle
            cases e : c2 with
            | true => have := hc e; simp; omega
            | false => simp; omega
          · intro h3; rw [← hfx e j hj (Nat.zero_le _) u hu]; exact h3
    · rename_i hch
      exact ⟨a, ⟨hw1, hd hch⟩, hin, rfl⟩
end Go.Proofs.YtgnafgebenlffaaDoor.Am
