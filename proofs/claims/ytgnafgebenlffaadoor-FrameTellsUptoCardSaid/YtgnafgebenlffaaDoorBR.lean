/- Sets of temps as words. -/
import Derived.Test.YtgnafgebenlffaaDoorBQ
/- Whether a graph fits, by the document's answer. -/
namespace Go.Proofs.YtgnafgebenlffaaDoor.Am
open Go Go.Proofs
set_option maxRecDepth 10000
set_option maxHeartbeats 2000000
set_option linter.unusedVariables false
set_option linter.unusedSimpArgs false
def insOk (n : Int) (x : Ins) : Bool := decide (1 ≤ x.op ∧ x.op ≤ 32) && (usesN x).all (fun t => bel t n) && (decide (x.op = 26 ∨ x.op = 28 ∨ x.op = 31 ∨ x.op = 32 ∨ (x.op = 29 ∧ x.d = -1)) || bel x.d n)
def endOk (n : Int) (e : End) : Bool := decide (1 ≤ e.kind ∧ e.kind ≤ 5) && (eUsesN e).all fun t => bel t n
structure Graph.fits (g : Graph) : Prop extends g.leads where
  temps : 0 ≤ g.temps ∧ g.temps ≤ 8000
  ins : ∀ b ∈ g.blocks, ∀ x ∈ b.code, insOk g.temps x = true
  fin : ∀ b ∈ g.blocks, endOk g.temps b.fin = true
theorem edges36k (g : Graph) (hg : g.tiny) {q : T → Prop} (h1 : g.leads → q (.tup [.sl 1 (nextR g g.blocks.length), .bool true])) (h2 : ¬ g.leads → q (.tup [.nsl, .bool false])) : PCalls Tryd.prog 65 [g.t] q :=
  PCalls.mono (edges36 g hg) fun r h => h.out.elim (fun h => h.2 ▸ h1 h.1) (fun h => h.2 ▸ h2 h.1)
theorem uses32k (x : Ins) (hx : Ob (x.args.length ≤ 2 ^ 20)) {q : T → Prop} (hq : q (ilist (usesN x))) : PCalls Tryd.prog 51 [x.t] q := PCalls.mono (uses32 x hx.out) fun _ h => h ▸ hq
theorem setsN_eq {x : Ins} (h : 1 ≤ x.op ∧ x.op ≤ 32) : setsN x = if x.op = 26 ∨ x.op = 28 ∨ x.op = 31 ∨ x.op = 32 then -1 else x.d := by
  unfold setsN kindN
  repeat' split
  all_goals first | rfl | omega
theorem insBad {x : Ins} {n : Int} (h : (bif ltI x.op 1 then true else ltI 32 x.op) = true) : insOk n x = false := by
  unfold insOk
  simp only [bif_or, Bool.or_eq_true, ltI_iff] at h
  have : decide (1 ≤ x.op ∧ x.op ≤ 32) = false := by rw [decide_eq_false_iff_not]; omega
  rw [this]; rfl
noncomputable abbrev noneN (x : Ins) : Bool := bif eqI (setsN x) (-1) then bif bif bif bif eqI x.op 29 then true else eqI x.op 26 then true else eqI x.op 28 then true else eqI x.op 31 then true else eqI x.op 32 else false
theorem insGood {x : Ins} {n : Int} {b : Bool} (h : (bif ltI x.op 1 then true else ltI 32 x.op) = false)
    (h2 : (bif !(usesN x).all fun t => bel t n then true else bif !noneN x then bif ltI (setsN x) 0 then true else leI n (setsN x) else false) = b) : insOk n x = !b := by
  simp only [bif_or, Bool.or_eq_false_iff, ltI_not] at h
  have h1 : 1 ≤ x.op ∧ x.op ≤ 32 := by omega
  subst h2
  unfold insOk
  rw [decide_eq_true h1, Bool.true_and]
  have hr : (bif ltI (setsN x) 0 then true else leI n (setsN x)) = !bel (setsN x) n := by
    rw [Bool.eq_iff_iff]
    simp only [bif_or, Bool.or_eq_true, ltI_iff, leI_iff, Bool.not_eq_true', bel_not]
    omega
  rw [hr]
  have hn : noneN x = decide (x.op = 26 ∨ x.op = 28 ∨ x.op = 31 ∨ x.op = 32 ∨ (x.op = 29 ∧ x.d = -1)) := by
    have := setsN_eq h1
    rw [Bool.eq_iff_iff]
    simp only [noneN, bif_and, bif_or, Bool.and_eq_true, Bool.or_eq_true, eqI_iff, decide_eq_true_eq]
    rw [this]
    split <;> omega
  rw [hn]
  cases hu : (usesN x).all fun t => bel t n with
  | false => rfl
  | true =>
    by_cases hc : x.op = 26 ∨ x.op = 28 ∨ x.op = 31 ∨ x.op = 32 ∨ (x.op = 29 ∧ x.d = -1)
    · rw [decide_eq_true hc]; rfl
    · rw [decide_eq_false hc]
      have : setsN x = x.d := by rw [setsN_eq h1, if_neg]; omega
      rw [this]
      cases bel x.d n <;> rfl
theorem endGood {e : End} {n : Int} {b : Bool} (h : (bif bif ltI e.kind 1 then true else ltI 5 e.kind then true else !(eUsesN e).all fun t => bel t n) = b) : endOk n e = !b := by
  subst h
  unfold endOk
  have : (bif ltI e.kind 1 then true else ltI 5 e.kind) = !decide (1 ≤ e.kind ∧ e.kind ≤ 5) := by
    rw [Bool.eq_iff_iff]
    simp only [bif_or, Bool.or_eq_true, ltI_iff, Bool.not_eq_true', decide_eq_false_iff_not]
    omega
  rw [this]
  cases decide (1 ≤ e.kind ∧ e.kind ≤ 5) <;> cases (eUsesN e).all (fun t => bel t n) <;> rfl
theorem not_ins {g : Graph} {i j : Nat} (hi : i < g.blocks.length) (hj : j < (nthD g.blocks i).code.length) (h : insOk g.temps (nthD (nthD g.blocks i).code j) = false) : T.bool false = .bool (tr g.fits) := by
  rw [tr_f]
  intro hf
  rw [hf.ins _ (nthD_mem hi) _ (nthD_mem hj)] at h; cases h
theorem not_end {g : Graph} {i : Nat} (hi : i < g.blocks.length) (h : endOk g.temps (nthD g.blocks i).fin = false) : T.bool false = .bool (tr g.fits) := by
  rw [tr_f]
  intro hf
  rw [hf.fin _ (nthD_mem hi)] at h; cases h
theorem fits17 (g : Graph) (hg : g.tiny) : PCalls Tryd.prog 40 [g.t] (fun r => r = .bool (tr g.fits)) := by
  refine PCalls.of_body ttOk Tryd.func40 rfl ?_
  repeat' ((conv => whnf); first | (with_reducible first | refine onBool_intro (fun _ => ?_) (fun _ => ?_) | refine And.intro (Ob.mk (Nat.le_of_ble_eq_true rfl)) ?_ | refine And.intro (Ob.mk rfl) ?_ | exact ⟨rfl, rfl⟩ | refine And.intro (Ob.mk (fun h => h)) ?_) | (with_reducible refine Or.inl (And.intro (Ob.mk (Flat.map ?_)) ?_); exact fun _ => rfl) | (refine Or.inl (And.intro (Ob.mk (flat_of rfl)) ?_)) | (refine Or.inl (And.intro (Ob.mk ⟨rfl, rfl, rfl, rfl⟩) ?_)) | (refine Or.inl (And.intro (Ob.mk ⟨rfl, rfl, rfl⟩) ?_)) | (refine And.intro (Ob.mk ⟨rfl, rfl⟩) ?_) | (with_reducible refine Or.inr ?_) | (refine And.intro (Ob.mk (flat_of rfl)) ?_) | (with_reducible refine And.intro (Ob.mk (Flat.map ?_)) ?_; exact fun _ => rfl) | (with_reducible first | exact Ob.mk (Flat.map fun _ => rfl) | refine And.intro ?_ ?_ | apply exG.mk | apply exGS.mk | exact Dd.nil) | (refine Dd.same _ ?_) | (refine Dd.dead _ ?_) | (with_reducible first | apply exQ.mk | apply exP.mk) | (refine EqP.mk rfl rfl) | (with_reducible apply exW.mk) | (refine EqW.mk rfl) | (with_reducible first | intro _ | refine Dn.mk ?_) | (refine exS.full (by first | rfl | (simp; done) | (simp; omega)) ?_) | (refine And.intro (Ob.mk ⟨rfl, rfl, by first | rfl | (simp; done) | (simp; omega)⟩) ?_) | (with_reducible refine exE.mapD ?_) | (refine exL.int ?_) | (with_reducible first | refine Up0.mk rfl ?_ | refine Up0i.mk rfl ?_ | refine Up1.mk rfl ?_ | refine Up1i.mk rfl ?_ | refine Up2.mk rfl ?_ | refine Up2i.mk rfl ?_) | (refine Col.mk rfl rfl rfl ?_) | (refine Coli.mk rfl rfl rfl rfl ?_) | (refine edges36k g hg (fun hle => ?_) (fun hle => ?_)))
  all_goals (try (refine Ob.mk ?_; first | assumption | exact ⟨rfl, rfl⟩ | exact ⟨rfl, rfl, rfl⟩ | (refine ⟨rfl, rfl, ?_⟩; simp only [List.length_map, List.length_take, List.length_append, els_len, List.length_replicate]; omega) | (intro h; exact h) | (intro h; rw [h]; rfl) | (intro h; simp_all; done) | (refine bytes_le (n := 1048577) ?_ rfl; simp only [ltI_iff, ltI_not, leI_iff, leI_not, eqI_iff, eqI_not, List.length_map, bif_and, bif_or, Bool.and_eq_true, Bool.and_eq_false_iff, Bool.or_eq_true, Bool.or_eq_false_iff, Bool.not_eq_true', Bool.not_eq_false', Int.toNat_natCast, beq_iff_eq, beq_eq_false_iff_ne, decide_eq_true_eq, decide_eq_false_iff_not, bel_iff, bel_not, wthn_iff, wthn_not, els_len, mixL_len, Nat.zero_add, List.length_set, List.length_take] at *; omega) | (simp only [ltI_iff, ltI_not, leI_iff, leI_not, eqI_iff, eqI_not, List.length_map, bif_and, bif_or, Bool.and_eq_true, Bool.and_eq_false_iff, Bool.or_eq_true, Bool.or_eq_false_iff, Bool.not_eq_true', Bool.not_eq_false', Int.toNat_natCast, beq_iff_eq, beq_eq_false_iff_ne, decide_eq_true_eq, decide_eq_false_iff_not, bel_iff, bel_not, wthn_iff, wthn_not, els_len, mixL_len, Nat.zero_add, List.length_set, List.length_take, Int.ofNat_eq_natCast] at *; omega)))
  · rename_i h1
    show T.bool _ = T.bool _
    rw [tr_f]
    intro h
    have := h.temps
    simp only [bif_or, Bool.not_true, Bool.false_or, Bool.or_eq_true, ltI_iff] at h1
    omega
  · rename_i h1
    simp only [bif_or, Bool.not_true, Bool.false_or, Bool.or_eq_false_iff, ltI_not] at h1
    have hmost := hle.most
    have hbm : ∀ i, i < g.blocks.length → (nthD g.blocks i).tiny := fun i hi => hg.all _ (nthD_mem hi)
    conv => whnf
    refine LoopVC.up0 5 g.blocks.length (fun i => ∀ b, b < i → (∀ x ∈ (nthD g.blocks b).code, insOk g.temps x = true) ∧ endOk g.temps (nthD g.blocks b).fin = true) ?_ ?_
    · repeat' ((conv => whnf); first | (with_reducible first | refine onBool_intro (fun _ => ?_) (fun _ => ?_) | refine And.intro (Ob.mk (Nat.le_of_ble_eq_true rfl)) ?_ | refine And.intro (Ob.mk rfl) ?_ | exact ⟨rfl, rfl⟩ | refine And.intro (Ob.mk (fun h => h)) ?_) | (with_reducible refine Or.inl (And.intro (Ob.mk (Flat.map ?_)) ?_); exact fun _ => rfl) | (refine Or.inl (And.intro (Ob.mk (flat_of rfl)) ?_)) | (refine Or.inl (And.intro (Ob.mk ⟨rfl, rfl, rfl, rfl⟩) ?_)) | (refine Or.inl (And.intro (Ob.mk ⟨rfl, rfl, rfl⟩) ?_)) | (refine And.intro (Ob.mk ⟨rfl, rfl⟩) ?_) | (with_reducible refine Or.inr ?_) | (refine And.intro (Ob.mk (flat_of rfl)) ?_) | (with_reducible refine And.intro (Ob.mk (Flat.map ?_)) ?_; exact fun _ => rfl) | (with_reducible first | exact Ob.mk (Flat.map fun _ => rfl) | refine And.intro ?_ ?_ | apply exG.mk | apply exGS.mk | exact Dd.nil) | (refine Dd.same _ ?_) | (refine Dd.dead _ ?_) | (with_reducible first | apply exQ.mk | apply exP.mk) | (refine EqP.mk rfl rfl) | (with_reducible apply exW.mk) | (refine EqW.mk rfl) | (with_reducible first | intro _ | refine Dn.mk ?_) | (refine exS.full (by first | rfl | (simp; done) | (simp; omega)) ?_) | (refine And.intro (Ob.mk ⟨rfl, rfl, by first | rfl | (simp; done) | (simp; omega)⟩) ?_) | (with_reducible refine exE.mapD ?_) | (refine exL.int ?_) | (with_reducible first | refine Up0.mk rfl ?_ | refine Up0i.mk rfl ?_ | refine Up1.mk rfl ?_ | refine Up1i.mk rfl ?_ | refine Up2.mk rfl ?_ | refine Up2i.mk rfl ?_) | (refine Col.mk rfl rfl rfl ?_) | (refine Coli.mk rfl rfl rfl rfl ?_))
      exact Ob.mk (fun b hb => absurd hb (Nat.not_lt_zero _))
    · intro i hi he
      repeat' ((conv => whnf); first | (with_reducible first | refine onBool_intro (fun _ => ?_) (fun _ => ?_) | refine And.intro (Ob.mk (Nat.le_of_ble_eq_true rfl)) ?_ | refine And.intro (Ob.mk rfl) ?_ | exact ⟨rfl, rfl⟩ | refine And.intro (Ob.mk (fun h => h)) ?_) | (with_reducible refine Or.inl (And.intro (Ob.mk (Flat.map ?_)) ?_); exact fun _ => rfl) | (refine Or.inl (And.intro (Ob.mk (flat_of rfl)) ?_)) | (refine Or.inl (And.intro (Ob.mk ⟨rfl, rfl, rfl, rfl⟩) ?_)) | (refine Or.inl (And.intro (Ob.mk ⟨rfl, rfl, rfl⟩) ?_)) | (refine And.intro (Ob.mk ⟨rfl, rfl⟩) ?_) | (with_reducible refine Or.inr ?_) | (refine And.intro (Ob.mk (flat_of rfl)) ?_) | (with_reducible refine And.intro (Ob.mk (Flat.map ?_)) ?_; exact fun _ => rfl) | (with_reducible first | exact Ob.mk (Flat.map fun _ => rfl) | refine And.intro ?_ ?_ | apply exG.mk | apply exGS.mk | exact Dd.nil) | (refine Dd.same _ ?_) | (refine Dd.dead _ ?_) | (with_reducible first | apply exQ.mk | apply exP.mk) | (refine EqP.mk rfl rfl) | (with_reducible apply exW.mk) | (refine EqW.mk rfl) | (with_reducible first | intro _ | refine Dn.mk ?_) | (refine exS.full (by first | rfl | (simp; done) | (simp; omega)) ?_) | (refine And.intro (Ob.mk ⟨rfl, rfl, by first | rfl | (simp; done) | (simp; omega)⟩) ?_) | (with_reducible refine exE.mapD ?_) | (refine exL.int ?_) | (with_reducible first | refine Up0.mk rfl ?_ | refine Up0i.mk rfl ?_ | refine Up1.mk rfl ?_ | refine Up1i.mk rfl ?_ | refine Up2.mk rfl ?_ | refine Up2i.mk rfl ?_) | (refine Col.mk rfl rfl rfl ?_) | (refine Coli.mk rfl rfl rfl rfl ?_))
      all_goals (try (refine Ob.mk ?_; first | assumption | exact ⟨rfl, rfl⟩ | exact ⟨rfl, rfl, rfl⟩ | (refine ⟨rfl, rfl, ?_⟩; simp only [List.length_map, List.length_take, List.length_append, els_len, List.length_replicate]; omega) | (intro h; exact h) | (intro h; rw [h]; rfl) | (intro h; simp_all; done) | (refine bytes_le (n := 1048577) ?_ rfl; simp only [ltI_iff, ltI_not, leI_iff, leI_not, eqI_iff, eqI_not, List.length_map, bif_and, bif_or, Bool.and_eq_true, Bool.and_eq_false_iff, Bool.or_eq_true, Bool.or_eq_false_iff, Bool.not_eq_true', Bool.not_eq_false', Int.toNat_natCast, beq_iff_eq, beq_eq_false_iff_ne, decide_eq_true_eq, decide_eq_false_iff_not, bel_iff, bel_not, wthn_iff, wthn_not, els_len, mixL_len, Nat.zero_add, List.length_set, List.length_take] at *; omega) | (simp only [ltI_iff, ltI_not, leI_iff, leI_not, eqI_iff, eqI_not, List.length_map, bif_and, bif_or, Bool.and_eq_true, Bool.and_eq_false_iff, Bool.or_eq_true, Bool.or_eq_false_iff, Bool.not_eq_true', Bool.not_eq_false', Int.toNat_natCast, beq_iff_eq, beq_eq_false_iff_ne, decide_eq_true_eq, decide_eq_false_iff_not, bel_iff, bel_not, wthn_iff, wthn_not, els_len, mixL_len, Nat.zero_add, List.length_set, List.length_take, Int.ofNat_eq_natCast] at *; omega)))
      · rename_i h2
        have hlt : i < g.blocks.length := by simp only [ltI_iff, ltI_not, leI_iff, leI_not, eqI_iff, eqI_not, List.length_map, bif_and, bif_or, Bool.and_eq_true, Bool.and_eq_false_iff, Bool.or_eq_true, Bool.or_eq_false_iff, Bool.not_eq_true', Bool.not_eq_false', Int.toNat_natCast, beq_iff_eq, beq_eq_false_iff_ne, decide_eq_true_eq, decide_eq_false_iff_not] at *; omega
        have hti := hbm i hlt
        conv => whnf
        refine LoopVC.up0 7 (nthD g.blocks i).code.length (fun j => ∀ k, k < j → insOk g.temps (nthD (nthD g.blocks i).code k) = true) ?_ ?_
        · repeat' ((conv => whnf); first | (with_reducible first | refine onBool_intro (fun _ => ?_) (fun _ => ?_) | refine And.intro (Ob.mk (Nat.le_of_ble_eq_true rfl)) ?_ | refine And.intro (Ob.mk rfl) ?_ | exact ⟨rfl, rfl⟩ | refine And.intro (Ob.mk (fun h => h)) ?_) | (with_reducible refine Or.inl (And.intro (Ob.mk (Flat.map ?_)) ?_); exact fun _ => rfl) | (refine Or.inl (And.intro (Ob.mk (flat_of rfl)) ?_)) | (refine Or.inl (And.intro (Ob.mk ⟨rfl, rfl, rfl, rfl⟩) ?_)) | (refine Or.inl (And.intro (Ob.mk ⟨rfl, rfl, rfl⟩) ?_)) | (refine And.intro (Ob.mk ⟨rfl, rfl⟩) ?_) | (with_reducible refine Or.inr ?_) | (refine And.intro (Ob.mk (flat_of rfl)) ?_) | (with_reducible refine And.intro (Ob.mk (Flat.map ?_)) ?_; exact fun _ => rfl) | (with_reducible first | exact Ob.mk (Flat.map fun _ => rfl) | refine And.intro ?_ ?_ | apply exG.mk | apply exGS.mk | exact Dd.nil) | (refine Dd.same _ ?_) | (refine Dd.dead _ ?_) | (with_reducible first | apply exQ.mk | apply exP.mk) | (refine EqP.mk rfl rfl) | (with_reducible apply exW.mk) | (refine EqW.mk rfl) | (with_reducible first | intro _ | refine Dn.mk ?_) | (refine exS.full (by first | rfl | (simp; done) | (simp; omega)) ?_) | (refine And.intro (Ob.mk ⟨rfl, rfl, by first | rfl | (simp; done) | (simp; omega)⟩) ?_) | (with_reducible refine exE.mapD ?_) | (refine exL.int ?_) | (with_reducible first | refine Up0.mk rfl ?_ | refine Up0i.mk rfl ?_ | refine Up1.mk rfl ?_ | refine Up1i.mk rfl ?_ | refine Up2.mk rfl ?_ | refine Up2i.mk rfl ?_) | (refine Col.mk rfl rfl rfl ?_) | (refine Coli.mk rfl rfl rfl rfl ?_))
          exact Ob.mk (fun b hb => absurd hb (Nat.not_lt_zero _))
        · intro j hj hej
          have hcl := hti.code
          have hui : j < (nthD g.blocks i).code.length → (nthD (nthD g.blocks i).code j).args.length ≤ 2 ^ 20 := fun h => hti.args _ (nthD_mem h)
          repeat' ((conv => whnf); first | (with_reducible first | refine onBool_intro (fun _ => ?_) (fun _ => ?_) | refine And.intro (Ob.mk (Nat.le_of_ble_eq_true rfl)) ?_ | refine And.intro (Ob.mk rfl) ?_ | exact ⟨rfl, rfl⟩ | refine And.intro (Ob.mk (fun h => h)) ?_) | (with_reducible refine Or.inl (And.intro (Ob.mk (Flat.map ?_)) ?_); exact fun _ => rfl) | (refine Or.inl (And.intro (Ob.mk (flat_of rfl)) ?_)) | (refine Or.inl (And.intro (Ob.mk ⟨rfl, rfl, rfl, rfl⟩) ?_)) | (refine Or.inl (And.intro (Ob.mk ⟨rfl, rfl, rfl⟩) ?_)) | (refine And.intro (Ob.mk ⟨rfl, rfl⟩) ?_) | (with_reducible refine Or.inr ?_) | (refine And.intro (Ob.mk (flat_of rfl)) ?_) | (with_reducible refine And.intro (Ob.mk (Flat.map ?_)) ?_; exact fun _ => rfl) | (with_reducible first | exact Ob.mk (Flat.map fun _ => rfl) | refine And.intro ?_ ?_ | apply exG.mk | apply exGS.mk | exact Dd.nil) | (refine Dd.same _ ?_) | (refine Dd.dead _ ?_) | (with_reducible first | apply exQ.mk | apply exP.mk) | (refine EqP.mk rfl rfl) | (with_reducible apply exW.mk) | (refine EqW.mk rfl) | (with_reducible first | intro _ | refine Dn.mk ?_) | (refine exS.full (by first | rfl | (simp; done) | (simp; omega)) ?_) | (refine And.intro (Ob.mk ⟨rfl, rfl, by first | rfl | (simp; done) | (simp; omega)⟩) ?_) | (with_reducible refine exE.mapD ?_) | (refine exL.int ?_) | (with_reducible first | refine Up0.mk rfl ?_ | refine Up0i.mk rfl ?_ | refine Up1.mk rfl ?_ | refine Up1i.mk rfl ?_ | refine Up2.mk rfl ?_ | refine Up2i.mk rfl ?_) | (refine Col.mk rfl rfl rfl ?_) | (refine Coli.mk rfl rfl rfl rfl ?_) | (refine PCalls.mono (sets26 _) ?_; rintro _ rfl) | (refine drawVC.all _ _ (by kernel_rfl) ?_) | (refine uses32k _ ?_ ?_) | (refine PCalls.mono (temps37 _ _) ?_; rintro _ rfl) | (refine PCalls.mono (endUses33 _) ?_; rintro _ rfl))
          all_goals (try (refine Ob.mk ?_; first | assumption | exact ⟨rfl, rfl⟩ | exact ⟨rfl, rfl, rfl⟩ | (refine ⟨rfl, rfl, ?_⟩; simp only [List.length_map, List.length_take, List.length_append, els_len, List.length_replicate]; omega) | (intro h; exact h) | (intro h; rw [h]; rfl) | (intro h; simp_all; done) | (refine bytes_le (n := 1048577) ?_ rfl; simp only [ltI_iff, ltI_not, leI_iff, leI_not, eqI_iff, eqI_not, List.length_map, bif_and, bif_or, Bool.and_eq_true, Bool.and_eq_false_iff, Bool.or_eq_true, Bool.or_eq_false_iff, Bool.not_eq_true', Bool.not_eq_false', Int.toNat_natCast, beq_iff_eq, beq_eq_false_iff_ne, decide_eq_true_eq, decide_eq_false_iff_not, bel_iff, bel_not, wthn_iff, wthn_not, els_len, mixL_len, Nat.zero_add, List.length_set, List.length_take] at *; omega) | (simp only [ltI_iff, ltI_not, leI_iff, leI_not, eqI_iff, eqI_not, List.length_map, bif_and, bif_or, Bool.and_eq_true, Bool.and_eq_false_iff, Bool.or_eq_true, Bool.or_eq_false_iff, Bool.not_eq_true', Bool.not_eq_false', Int.toNat_natCast, beq_iff_eq, beq_eq_false_iff_ne, decide_eq_true_eq, decide_eq_false_iff_not, bel_iff, bel_not, wthn_iff, wthn_not, els_len, mixL_len, Nat.zero_add, List.length_set, List.length_take, Int.ofNat_eq_natCast] at *; omega)))
          all_goals (try exact Ob.mk fun h => by rw [h]; rfl)
          · rename_i h3 h4
            exact not_ins hlt (by simp only [ltI_iff, ltI_not, leI_iff, leI_not, eqI_iff, eqI_not, List.length_map, bif_and, bif_or, Bool.and_eq_true, Bool.and_eq_false_iff, Bool.or_eq_true, Bool.or_eq_false_iff, Bool.not_eq_true', Bool.not_eq_false', Int.toNat_natCast, beq_iff_eq, beq_eq_false_iff_ne, decide_eq_true_eq, decide_eq_false_iff_not] at *; omega) (insBad h4)
          · rename_i h3 h4 h5
            exact not_ins hlt (by simp only [ltI_iff, ltI_not, leI_iff, leI_not, eqI_iff, eqI_not, List.length_map, bif_and, bif_or, Bool.and_eq_true, Bool.and_eq_false_iff, Bool.or_eq_true, Bool.or_eq_false_iff, Bool.not_eq_true', Bool.not_eq_false', Int.toNat_natCast, beq_iff_eq, beq_eq_false_iff_ne, decide_eq_true_eq, decide_eq_false_iff_not] at *; omega) (insGood h4 h5)
          · rename_i h3 h4 h5
            have hltj : j < (nthD g.blocks i).code.length := by simp only [ltI_iff, ltI_not, leI_iff, leI_not, eqI_iff, eqI_not, List.length_map, bif_and, bif_or, Bool.and_eq_true, Bool.and_eq_false_iff, Bool.or_eq_true, Bool.or_eq_false_iff, Bool.not_eq_true', Bool.not_eq_false', Int.toNat_natCast, beq_iff_eq, beq_eq_false_iff_ne, decide_eq_true_eq, decide_eq_false_iff_not] at *; omega
            refine Ob.mk ⟨hltj, addI_i64 (by omega) (by omega), fun k hk => ?_⟩
            rcases Nat.lt_or_ge k j with h | h
            · exact hej k h
            · rw [show k = j by omega]; exact insGood h4 h5
          · rename_i h3 h4
            exact not_end hlt (endGood h4)
          · rename_i h3 h4
            have hgej : (nthD g.blocks i).code.length ≤ j := by simp only [ltI_iff, ltI_not, leI_iff, leI_not, eqI_iff, eqI_not, List.length_map, bif_and, bif_or, Bool.and_eq_true, Bool.and_eq_false_iff, Bool.or_eq_true, Bool.or_eq_false_iff, Bool.not_eq_true', Bool.not_eq_false', Int.toNat_natCast, beq_iff_eq, beq_eq_false_iff_ne, decide_eq_true_eq, decide_eq_false_iff_not] at *; omega
            refine Ob.mk ⟨hlt, addI_i64 (by omega) (by omega), fun b hb => ?_⟩
            rcases Nat.lt_or_ge b i with h | h
            · exact he b h
            · rw [show b = i by omega]
              refine ⟨fun x hx => ?_, endGood h4⟩
              obtain ⟨k, hk, rfl⟩ := List.mem_iff_getElem.1 hx
              rw [← nthD_get hk]
              exact hej k (by omega)
      · rename_i h2
        have hge : g.blocks.length ≤ i := by simp only [ltI_iff, ltI_not, leI_iff, leI_not, eqI_iff, eqI_not, List.length_map, bif_and, bif_or, Bool.and_eq_true, Bool.and_eq_false_iff, Bool.or_eq_true, Bool.or_eq_false_iff, Bool.not_eq_true', Bool.not_eq_false', Int.toNat_natCast, beq_iff_eq, beq_eq_false_iff_ne, decide_eq_true_eq, decide_eq_false_iff_not] at *; omega
        show T.bool true = T.bool _
        rw [tr_t]
        have hB : ∀ b ∈ g.blocks, (∀ x ∈ b.code, insOk g.temps x = true) ∧ endOk g.temps b.fin = true := by
          intro b hb
          obtain ⟨k, hk, rfl⟩ := List.mem_iff_getElem.1 hb
          rw [← nthD_get hk]
          exact he k (by omega)
        exact ⟨hle, by omega, fun b hb => (hB b hb).1, fun b hb => (hB b hb).2⟩
  · show T.bool _ = T.bool _
    rw [tr_f]
    exact fun h => hle h.toleads
end Go.Proofs.YtgnafgebenlffaaDoor.Am

/- What is needed at each block's beginning, by the document's answer. -/
namespace Go.Proofs.YtgnafgebenlffaaDoor.Am
open Go Go.Proofs
set_option maxRecDepth 10000
set_option maxHeartbeats 2000000
set_option linter.unusedVariables false
set_option linter.unusedSimpArgs false
theorem fits_fit {g : Graph} (hg : g.tiny) (h : g.fits) : g.fit := by
  refine ⟨hg, h.temps, h.most, ?_, ?_, ?_, ?_⟩
  · intro b hb s hs
    have := h.next b hb s hs
    rw [bel_iff] at this
    omega
  · intro b hb t ht
    have := h.fin b hb
    unfold endOk at this
    rw [Bool.and_eq_true, List.all_eq_true] at this
    have := this.2 t ht
    rw [bel_iff] at this
    omega
  · intro b hb x hx t ht
    have := h.ins b hb x hx
    unfold insOk at this
    rw [Bool.and_eq_true, Bool.and_eq_true, List.all_eq_true] at this
    have := this.1.2 t ht
    rw [bel_iff] at this
    omega
  · intro b hb x hx
    have h0 := h.temps
    have := h.ins b hb x hx
    unfold insOk at this
    rw [Bool.and_eq_true, Bool.and_eq_true, decide_eq_true_eq, Bool.or_eq_true, decide_eq_true_eq, bel_iff] at this
    rw [setsN_eq this.1.1]
    have := this.2
    split <;> omega
def liveN (n : Nat) (f : Nat → Bool) : List Int := ((List.range n).filter f).map Int.ofNat
theorem liveN_succ {n : Nat} {f : Nat → Bool} : liveN (n + 1) f = liveN n f ++ (if f n = true then [(n : Int)] else []) := by
  unfold liveN
  rw [List.range_succ, List.filter_append, List.map_append]
  congr 1
  by_cases h : f n = true
  · rw [if_pos h]; simp [h]
  · rw [if_neg h]; simp [h]
theorem liveN_len {n : Nat} {f : Nat → Bool} : (liveN n f).length ≤ n := by
  unfold liveN
  rw [List.length_map]
  exact Nat.le_trans (List.length_filter_le _ _) (by simp)
theorem fits17k (g : Graph) (hg : g.tiny) {q : T → Prop} (h1 : g.fits → q (.bool true)) (h2 : ¬ g.fits → q (.bool false)) : PCalls Tryd.prog 40 [g.t] q :=
  PCalls.mono (fits17 g hg) fun r h => by
    subst h
    by_cases hf : g.fits
    · rw [tr_t hf]; exact h1 hf
    · rw [tr_f hf]; exact h2 hf
theorem needed31k (g : Graph) (hg : g.tiny) (hf : Ob g.fits) {q : T → Prop} (hq : ∀ a, Least g g.temps.toNat a → q (bitsT g.blocks.length g.temps.toNat a)) : PCalls Tryd.prog 23 [g.t] q :=
  PCalls.mono (needed31 g (fits_fit hg hf.out)) fun r ⟨a, h1, h2⟩ => h2 ▸ hq a h1
end Go.Proofs.YtgnafgebenlffaaDoor.Am

/- Words of bits. -/
namespace Go.Proofs.YtgnafgebenlffaaDoor.Am
open Go Go.Proofs
set_option maxRecDepth 10000
set_option maxHeartbeats 2000000
set_option linter.unusedVariables false
set_option linter.unusedSimpArgs false
def natB : Nat → (Nat → Bool) → Nat
  | 0, _ => 0
  | n + 1, p => natB n p + (if p n = true then 2 ^ n else 0)
theorem natB_lt : ∀ n p, natB n p < 2 ^ n
  | 0, _ => by simp [natB]
  | n + 1, p => by
    have := natB_lt n p
    simp only [natB, Nat.pow_succ]
    split <;> omega
theorem natB_bit : ∀ n p j, (natB n p).testBit j = (decide (j < n) && p j)
  | 0, p, j => by simp [natB]
  | n + 1, p, j => by
    have ih := natB_bit n p j
    have hlt := natB_lt n p
    simp only [natB]
    by_cases hp : p n = true
    · rw [if_pos hp, Nat.add_comm, ← Nat.one_mul (2 ^ n), Nat.mul_comm, Nat.testBit_two_pow_mul_add 1 hlt]
      by_cases h : j < n
      · rw [if_pos h, ih]; simp [h]; omega
      · rw [if_neg h]
        by_cases e : j = n
        · subst e; simp [hp]
        · have h1 : ¬ j < n + 1 := by omega
          have : j - n ≠ 0 := by omega
          have h2 : Nat.testBit 1 (j - n) = false := Nat.testBit_lt_two_pow (by have := Nat.pow_le_pow_right (n := 2) (by omega) (show 1 ≤ j - n by omega); omega)
          rw [h2]; simp [h1]
    · rw [if_neg hp, Nat.add_zero, ih]
      by_cases e : j = n
      · subst e; simp [hp]
      · by_cases h : j < n
        · simp [h]; omega
        · have h1 : ¬ j < n + 1 := by omega
          simp [h, h1]
theorem natB_eq {n : Nat} {p q : Nat → Bool} (h : ∀ j, j < n → p j = q j) : natB n p = natB n q := by
  apply Nat.eq_of_testBit_eq
  intro j
  rw [natB_bit, natB_bit]
  by_cases hj : j < n
  · rw [h j hj]
  · simp [hj]
theorem natB_of {n x : Nat} {p : Nat → Bool} (hx : x < 2 ^ n) (h : ∀ j, j < n → x.testBit j = p j) : x = natB n p := by
  apply Nat.eq_of_testBit_eq
  intro j
  rw [natB_bit]
  by_cases hj : j < n
  · rw [h j hj]; simp [hj]
  · rw [Nat.testBit_lt_two_pow (Nat.lt_of_lt_of_le hx (Nat.pow_le_pow_right (by omega) (by omega)))]; simp [hj]
theorem wrap_u64 {x : Nat} (h : x < 2 ^ 64) : IntKind.wrap .u64 (x : Int) = x := by
  simp only [IntKind.wrap, IntKind.bits, IntKind.signed]
  simp
  omega
theorem bv_u64 {x : Nat} (h : x < 2 ^ 64) : (BitVec.ofInt (IntKind.bits .u64) (x : Int)).toNat = x := by
  show (BitVec.ofInt 64 (x : Int)).toNat = x
  rw [BitVec.toNat_ofInt]
  have : ((x : Int) % ((2 ^ 64 : Nat) : Int)).toNat = x := by omega
  exact this
theorem orI_u64 {x y : Nat} (hx : x < 2 ^ 64) (hy : y < 2 ^ 64) : orI .u64 (x : Int) y = ((x ||| y : Nat) : Int) := by
  unfold orI
  rw [BitVec.toNat_or, bv_u64 hx, bv_u64 hy]
  exact wrap_u64 (Nat.or_lt_two_pow hx hy)
theorem andI_u64 {x y : Nat} (hx : x < 2 ^ 64) (hy : y < 2 ^ 64) : andI .u64 (x : Int) y = ((x &&& y : Nat) : Int) := by
  unfold andI
  rw [BitVec.toNat_and, bv_u64 hx, bv_u64 hy]
  exact wrap_u64 (Nat.and_lt_two_pow _ hy)
theorem andnI_u64 {x y : Nat} (hx : x < 2 ^ 64) (hy : y < 2 ^ 64) : ∃ z : Nat, andnI .u64 (x : Int) y = (z : Int) ∧ z < 2 ^ 64 ∧ ∀ j, j < 64 → z.testBit j = (x.testBit j && !y.testBit j) := by
  refine ⟨(BitVec.ofInt 64 (x : Int) &&& ~~~(BitVec.ofInt 64 (y : Int))).toNat, ?_, BitVec.isLt _, fun j hj => ?_⟩
  · unfold andnI
    exact wrap_u64 (BitVec.isLt _)
  · have e : ∀ z : Nat, z < 2 ^ 64 → (BitVec.ofInt 64 (z : Int)).getLsbD j = z.testBit j := fun z hz => by
      rw [← BitVec.testBit_toNat, show (BitVec.ofInt 64 (z : Int)).toNat = z from bv_u64 hz]
    rw [BitVec.testBit_toNat, BitVec.getLsbD_and, BitVec.getLsbD_not, e x hx, e y hy]
    simp [hj]
theorem shlI_u64 {r : Nat} (h : r < 64) : shlI .u64 1 (r : Int) = ((2 ^ r : Nat) : Int) := by
  unfold shlI
  have : min ((r : Int).toNat) (IntKind.bits .u64) = r := by show min r 64 = r; omega
  rw [this, Int.one_mul]
  have := wrap_u64 (x := 2 ^ r) (Nat.pow_lt_pow_right (by omega) h)
  rw [← this]
  norm_cast
end Go.Proofs.YtgnafgebenlffaaDoor.Am

/- Sets of temps as words. -/
namespace Go.Proofs.YtgnafgebenlffaaDoor.Am
open Go Go.Proofs
set_option maxRecDepth 10000
set_option maxHeartbeats 2000000
set_option linter.unusedVariables false
set_option linter.unusedSimpArgs false
def wordB (p : Nat → Bool) (i : Nat) : Nat := natB 64 fun j => p (64 * i + j)
abbrev wordN (p : Nat → Bool) (i : Nat) : Int := (wordB p i : Nat)
theorem wordB_lt {p : Nat → Bool} {i : Nat} : wordB p i < 2 ^ 64 := natB_lt _ _
theorem wordB_bit {p : Nat → Bool} {i j : Nat} (h : j < 64) : (wordB p i).testBit j = p (64 * i + j) := by unfold wordB; rw [natB_bit]; simp [h]
theorem wordB_of {x i : Nat} {p : Nat → Bool} (hx : x < 2 ^ 64) (h : ∀ j, j < 64 → x.testBit j = p (64 * i + j)) : x = wordB p i := natB_of hx h
abbrev wordsT (p : Nat → Bool) : List T := (List.range 125).map fun i => .int .u64 (wordN p i)
theorem word_or {p q : Nat → Bool} {i : Nat} : orI .u64 (wordN p i) (wordN q i) = wordN (fun t => p t || q t) i := by
  rw [orI_u64 wordB_lt wordB_lt]
  congr 1
  refine wordB_of (Nat.or_lt_two_pow wordB_lt wordB_lt) fun j hj => ?_
  rw [Nat.testBit_or, wordB_bit hj, wordB_bit hj]
theorem pow_bit {r j : Nat} : (2 ^ r).testBit j = decide (r = j) := by rw [Nat.testBit_two_pow]
theorem word_add {p : Nat → Bool} {t : Nat} : orI .u64 (wordN p (t / 64)) (shlI .u64 1 ((t % 64 : Nat) : Int)) = wordN (fun u => if u = t then true else p u) (t / 64) := by
  rw [shlI_u64 (Nat.mod_lt _ (by omega))]
  have h2 : 2 ^ (t % 64) < 2 ^ 64 := Nat.pow_lt_pow_right (by omega) (Nat.mod_lt _ (by omega))
  rw [orI_u64 wordB_lt h2]
  congr 1
  refine wordB_of (Nat.or_lt_two_pow wordB_lt h2) fun j hj => ?_
  rw [Nat.testBit_or, wordB_bit hj, pow_bit]
  by_cases e : 64 * (t / 64) + j = t
  · rw [if_pos e]
    have : t % 64 = j := by omega
    simp [this]
  · rw [if_neg e]
    have : ¬ t % 64 = j := by omega
    simp [this]
theorem word_drop {p : Nat → Bool} {t : Nat} : andnI .u64 (wordN p (t / 64)) (shlI .u64 1 ((t % 64 : Nat) : Int)) = wordN (fun u => if u = t then false else p u) (t / 64) := by
  rw [shlI_u64 (Nat.mod_lt _ (by omega))]
  have h2 : 2 ^ (t % 64) < 2 ^ 64 := Nat.pow_lt_pow_right (by omega) (Nat.mod_lt _ (by omega))
  obtain ⟨z, h, hz, hb⟩ := andnI_u64 (x := wordB p (t / 64)) wordB_lt h2
  rw [h]
  congr 1
  refine wordB_of hz fun j hj => ?_
  rw [hb j hj, wordB_bit hj, pow_bit]
  by_cases e : 64 * (t / 64) + j = t
  · rw [if_pos e]
    have : t % 64 = j := by omega
    simp [this]
  · rw [if_neg e]
    have : ¬ t % 64 = j := by omega
    simp [this]
theorem wordsT_set {p q : Nat → Bool} {i : Nat} (h : ∀ t, t / 64 ≠ i → p t = q t) : (wordsT p).set i (.int .u64 (wordN q i)) = wordsT q := by
  apply List.ext_getElem
  · simp
  · intro j h1 h2
    rw [List.getElem_set]
    simp only [List.getElem_map, List.getElem_range]
    by_cases e : i = j
    · subst e; simp
    · rw [if_neg e]
      have : wordB p j = wordB q j := natB_eq fun k hk => h _ (by omega)
      rw [wordN, wordN, this]
theorem wordsT_congr {p q : Nat → Bool} (h : ∀ t, t < 8000 → p t = q t) : wordsT p = wordsT q := by
  apply List.map_congr_left
  intro i hi
  have hi : i < 125 := by simpa using hi
  have : wordB p i = wordB q i := natB_eq fun k hk => h _ (by omega)
  rw [wordN, wordN, this]
theorem wordsT_inj {p q : Nat → Bool} (h : wordsT p = wordsT q) {t : Nat} (ht : t < 8000) : p t = q t := by
  have h1 : (wordsT p)[t / 64]? = (wordsT q)[t / 64]? := by rw [h]
  have hlt : t / 64 < 125 := by omega
  rw [List.getElem?_map, List.getElem?_map, List.getElem?_range hlt] at h1
  simp only [Option.map_some, Option.some.injEq, T.int.injEq, true_and] at h1
  have h2 : wordB p (t / 64) = wordB q (t / 64) := Int.ofNat.inj h1
  have hm : t % 64 < 64 := Nat.mod_lt _ (by omega)
  have h3 := wordB_bit (p := p) (i := t / 64) hm
  rw [h2, wordB_bit hm, Nat.div_add_mod] at h3
  exact h3.symm
theorem quo64 {t : Nat} (h : t < 8000) : quoI .i64 (t : Int) 64 = ((t / 64 : Nat) : Int) := by
  unfold quoI
  have : (t : Int).tdiv 64 = ((t / 64 : Nat) : Int) := rfl
  rw [this]
  simp only [IntKind.wrap, IntKind.bits, IntKind.signed]
  simp
  omega
theorem rem64 {t : Nat} : remI (t : Int) 64 = ((t % 64 : Nat) : Int) := by
  unfold remI
  rfl
theorem add79 (p : Nat → Bool) (t : Nat) (ht : t < 8000) : ICalls Tryd.prog 81 [.pl 0 0 [] 0 0, .t (.int .i64 t)] [.row 102 1 (wordsT p)] (fun v σ => Ob (v = .tup [] ∧ σ = [.row 102 1 (wordsT fun u => if u = t then true else p u)])) := by
  refine ICalls.inline (I := fun _ => false) ttOk Tryd.func81 rfl ?_
  repeat' ((conv => whnf); first | (with_reducible first | refine onBool_intro (fun _ => ?_) (fun _ => ?_) | refine And.intro (Ob.mk (Nat.le_of_ble_eq_true rfl)) ?_ | refine And.intro (Ob.mk rfl) ?_ | exact ⟨rfl, rfl⟩ | refine And.intro (Ob.mk (fun h => h)) ?_) | (with_reducible refine Or.inl (And.intro (Ob.mk (Flat.map ?_)) ?_); exact fun _ => rfl) | (refine Or.inl (And.intro (Ob.mk (flat_of rfl)) ?_)) | (refine Or.inl (And.intro (Ob.mk ⟨rfl, rfl, rfl, rfl⟩) ?_)) | (refine Or.inl (And.intro (Ob.mk ⟨rfl, rfl, rfl⟩) ?_)) | (refine And.intro (Ob.mk ⟨rfl, rfl⟩) ?_) | (with_reducible refine Or.inr ?_) | (refine And.intro (Ob.mk (flat_of rfl)) ?_) | (with_reducible refine And.intro (Ob.mk (Flat.map ?_)) ?_; exact fun _ => rfl) | (with_reducible first | exact Ob.mk (Flat.map fun _ => rfl) | refine And.intro ?_ ?_ | apply exG.mk | apply exGS.mk | exact Dd.nil) | (refine Dd.same _ ?_) | (refine Dd.dead _ ?_) | (with_reducible first | apply exQ.mk | apply exP.mk) | (refine EqP.mk rfl rfl) | (with_reducible apply exW.mk) | (refine EqW.mk rfl) | (with_reducible first | intro _ | refine Dn.mk ?_) | (refine exS.full (by first | rfl | (simp; done) | (simp; omega)) ?_) | (refine And.intro (Ob.mk ⟨rfl, rfl, by first | rfl | (simp; done) | (simp; omega)⟩) ?_) | (with_reducible refine exE.mapD ?_) | (refine exL.int ?_) | (with_reducible first | refine Up0.mk rfl ?_ | refine Up0i.mk rfl ?_ | refine Up1.mk rfl ?_ | refine Up1i.mk rfl ?_ | refine Up2.mk rfl ?_ | refine Up2i.mk rfl ?_) | (refine Col.mk rfl rfl rfl ?_) | (refine Coli.mk rfl rfl rfl rfl ?_) | (refine drawVC.mkM _ _ 13 13 [(12, [])] [[], [], [1], [0], [0, 1, 2, 3], [0, 1, 2, 3, 4], [], [6], [6, 7], [0, 1, 2, 3, 4, 5, 6, 7, 8], [0], [0, 1, 2, 3, 4, 5, 6, 7, 8, 9, 10], [0, 1, 2, 3, 4, 5, 6, 7, 8, 9, 10, 11]] rfl (by kernel_rfl) ?_))
  all_goals (try exact Ob.mk (by decide))
  all_goals (try (refine Ob.mk ?_; first | (rw [rem64]; omega) | (rw [quo64 ht]; (try simp only [List.length_map, List.length_range]); omega)))
  conv => whnf
  refine Ob.mk ⟨rfl, ?_⟩
  rw [quo64 ht, rem64, Int.toNat_natCast, Nat.zero_add, nthD_range (by omega)]
  refine congrArg (fun z => [SObj.row 102 1 z]) (Eq.trans (congrArg (fun z => (wordsT p).set (t / 64) (.int .u64 z)) word_add) (wordsT_set fun u hu => ?_))
  rw [if_neg]
  omega
theorem drop82 (p : Nat → Bool) (t : Nat) (ht : t < 8000) : ICalls Tryd.prog 83 [.pl 0 0 [] 0 0, .t (.int .i64 t)] [.row 102 1 (wordsT p)] (fun v σ => Ob (v = .tup [] ∧ σ = [.row 102 1 (wordsT fun u => if u = t then false else p u)])) := by
  refine ICalls.inline (I := fun _ => false) ttOk Tryd.func83 rfl ?_
  repeat' ((conv => whnf); first | (with_reducible first | refine onBool_intro (fun _ => ?_) (fun _ => ?_) | refine And.intro (Ob.mk (Nat.le_of_ble_eq_true rfl)) ?_ | refine And.intro (Ob.mk rfl) ?_ | exact ⟨rfl, rfl⟩ | refine And.intro (Ob.mk (fun h => h)) ?_) | (with_reducible refine Or.inl (And.intro (Ob.mk (Flat.map ?_)) ?_); exact fun _ => rfl) | (refine Or.inl (And.intro (Ob.mk (flat_of rfl)) ?_)) | (refine Or.inl (And.intro (Ob.mk ⟨rfl, rfl, rfl, rfl⟩) ?_)) | (refine Or.inl (And.intro (Ob.mk ⟨rfl, rfl, rfl⟩) ?_)) | (refine And.intro (Ob.mk ⟨rfl, rfl⟩) ?_) | (with_reducible refine Or.inr ?_) | (refine And.intro (Ob.mk (flat_of rfl)) ?_) | (with_reducible refine And.intro (Ob.mk (Flat.map ?_)) ?_; exact fun _ => rfl) | (with_reducible first | exact Ob.mk (Flat.map fun _ => rfl) | refine And.intro ?_ ?_ | apply exG.mk | apply exGS.mk | exact Dd.nil) | (refine Dd.same _ ?_) | (refine Dd.dead _ ?_) | (with_reducible first | apply exQ.mk | apply exP.mk) | (refine EqP.mk rfl rfl) | (with_reducible apply exW.mk) | (refine EqW.mk rfl) | (with_reducible first | intro _ | refine Dn.mk ?_) | (refine exS.full (by first | rfl | (simp; done) | (simp; omega)) ?_) | (refine And.intro (Ob.mk ⟨rfl, rfl, by first | rfl | (simp; done) | (simp; omega)⟩) ?_) | (with_reducible refine exE.mapD ?_) | (refine exL.int ?_) | (with_reducible first | refine Up0.mk rfl ?_ | refine Up0i.mk rfl ?_ | refine Up1.mk rfl ?_ | refine Up1i.mk rfl ?_ | refine Up2.mk rfl ?_ | refine Up2i.mk rfl ?_) | (refine Col.mk rfl rfl rfl ?_) | (refine Coli.mk rfl rfl rfl rfl ?_) | (refine drawVC.mkM _ _ 13 13 [(12, [])] [[], [], [1], [0], [0, 1, 2, 3], [0, 1, 2, 3, 4], [], [6], [6, 7], [0, 1, 2, 3, 4, 5, 6, 7, 8], [0], [0, 1, 2, 3, 4, 5, 6, 7, 8, 9, 10], [0, 1, 2, 3, 4, 5, 6, 7, 8, 9, 10, 11]] rfl (by kernel_rfl) ?_))
  all_goals (try exact Ob.mk (by decide))
  all_goals (try (refine Ob.mk ?_; first | (rw [rem64]; omega) | (rw [quo64 ht]; (try simp only [List.length_map, List.length_range]); omega)))
  conv => whnf
  refine Ob.mk ⟨rfl, ?_⟩
  rw [quo64 ht, rem64, Int.toNat_natCast, Nat.zero_add, nthD_range (by omega)]
  refine congrArg (fun z => [SObj.row 102 1 z]) (Eq.trans (congrArg (fun z => (wordsT p).set (t / 64) (.int .u64 z)) word_drop) (wordsT_set fun u hu => ?_))
  rw [if_neg]
  omega
end Go.Proofs.YtgnafgebenlffaaDoor.Am
