/- FrameTells: the law. -/
import Derived.Test.YtgnafgebenlffaaDoorBW
/- FrameTells: the law. -/
namespace Go.Proofs.YtgnafgebenlffaaDoor.Am
open Go Go.Proofs
set_option maxRecDepth 10000
set_option maxHeartbeats 2000000
set_option linter.unusedVariables false
set_option linter.unusedSimpArgs false
theorem copied7 (g : Graph) (hg : g.tiny) : PCalls Tryd.prog 7 [g.t] (fun r => r = g.t) := by
  refine PCalls.coarse ?_
  refine PCalls.of_body ttOk Tryd.func7 rfl ?_
  repeat' ((conv => whnf); first | (with_reducible first | refine onBool_intro (fun _ => ?_) (fun _ => ?_) | refine And.intro (Ob.mk (Nat.le_of_ble_eq_true rfl)) ?_ | refine And.intro (Ob.mk rfl) ?_ | exact ⟨rfl, rfl⟩ | refine And.intro (Ob.mk (fun h => h)) ?_) | (with_reducible refine Or.inl (And.intro (Ob.mk (Flat.map ?_)) ?_); exact fun _ => rfl) | (refine Or.inl (And.intro (Ob.mk (flat_of rfl)) ?_)) | (refine Or.inl (And.intro (Ob.mk ⟨rfl, rfl, rfl, rfl⟩) ?_)) | (refine Or.inl (And.intro (Ob.mk ⟨rfl, rfl, rfl⟩) ?_)) | (refine And.intro (Ob.mk ⟨rfl, rfl⟩) ?_) | (with_reducible refine Or.inr ?_) | (refine And.intro (Ob.mk (flat_of rfl)) ?_) | (with_reducible refine And.intro (Ob.mk (Flat.map ?_)) ?_; exact fun _ => rfl) | (with_reducible first | exact Ob.mk (Flat.map fun _ => rfl) | refine And.intro ?_ ?_ | apply exG.mk | apply exGS.mk | exact Dd.nil) | (refine Dd.same _ ?_) | (refine Dd.dead _ ?_) | (with_reducible first | apply exQ.mk | apply exP.mk) | (refine EqP.mk rfl rfl) | (with_reducible apply exW.mk) | (refine EqW.mk rfl) | (with_reducible first | intro _ | refine Dn.mk ?_) | (refine exS.full (by first | rfl | (simp; done) | (simp; omega)) ?_) | (refine And.intro (Ob.mk ⟨rfl, rfl, by first | rfl | (simp; done) | (simp; omega)⟩) ?_) | (with_reducible refine exE.mapD ?_) | (refine exL.int ?_) | (with_reducible first | refine Up0.mk rfl ?_ | refine Up0i.mk rfl ?_ | refine Up1.mk rfl ?_ | refine Up1i.mk rfl ?_ | refine Up2.mk rfl ?_ | refine Up2i.mk rfl ?_) | (refine Col.mk rfl rfl rfl ?_) | (refine Coli.mk rfl rfl rfl rfl ?_) | (refine copy22k g hg ?_))
  · exact Ob.mk (Int.le_refl _)
  · exact Ob.mk (by show (0 : Int) < ((1 : Nat) : Int); omega)
  · have e : nthD (Module.mk [] [] [g] 0).funcs (0 + Int.toNat 0) = g := nthD_get (l := [g]) (i := 0) (by simp)
    rw [e]
    show Le (T.agg [ilist g.params, .int .i64 g.temps, .sl 2 (g.arrays.map Arr.t), .sl 10 (g.blocks.map Block.o)]) g.t
    exact Le.aggL (.cons (.refl _) (.cons (.refl _) (.cons (.refl _) (.cons (Le.slmap Block.o_le fun _ => rfl) .nil))))
theorem copied7k (g : Graph) (hg : g.tiny) {q : T → Prop} (hq : q g.t) : PCalls Tryd.prog 7 [g.t] q := PCalls.mono (copied7 g hg) fun _ h => h ▸ hq
theorem lay8y (g : Graph) (hg : g.tiny) (hw : ∀ b ∈ g.blocks, ∀ x ∈ allN b.fin, I64 x) (h : g.okF) {q : T → Prop} (hq : q (.own (.tup [layO g, .int .i64 0]))) : PCalls Tryd.prog 8 [g.t] q :=
  lay8k g hg hw (fun h2 => absurd h h2) fun _ e he => he ▸ hq
theorem lay8n (g : Graph) (hg : g.tiny) (hw : ∀ b ∈ g.blocks, ∀ x ∈ allN b.fin, I64 x) (h : ¬ g.okF) {q : T → Prop} (hq : q (.own (.tup [layZ, .int .i64 1]))) : PCalls Tryd.prog 8 [g.t] q :=
  lay8k g hg hw (fun _ e he => he ▸ hq) fun h2 => absurd h2 h
theorem lay9y (g : Graph) (hg : g.tiny) (h : g.okF) {q : T → Prop} (hq : q (.tup [layT g, .int .i64 0])) : PCalls Tryd.prog 9 [g.t] q :=
  lay9k g hg (fun h2 => absurd h h2) fun _ e he => he ▸ hq
theorem lay9n (g : Graph) (hg : g.tiny) (h : ¬ g.okF) {q : T → Prop} (hq : q (.tup [layZ, .int .i64 1])) : PCalls Tryd.prog 9 [g.t] q :=
  lay9k g hg (fun _ e he => he ▸ hq) fun h2 => absurd h2 h
theorem weight10y (g : Graph) (hg : g.tiny) (hw : ∀ b ∈ g.blocks, ∀ x ∈ allN b.fin, I64 x) (h : g.okF) {q : T → Prop} (hq : q (.tup [.int .i64 (wgtF g), .int .i64 0])) : PCalls Tryd.prog 10 [g.t] q :=
  weight10k g hg hw (fun h2 => absurd h h2) fun _ e he => he ▸ hq
theorem weight10n (g : Graph) (hg : g.tiny) (hw : ∀ b ∈ g.blocks, ∀ x ∈ allN b.fin, I64 x) (h : ¬ g.okF) {q : T → Prop} (hq : q (.tup [.int .i64 0, .int .i64 1])) : PCalls Tryd.prog 10 [g.t] q :=
  weight10k g hg hw (fun _ e he => he ▸ hq) fun h2 => absurd h2 h
theorem weight11y (g : Graph) (hg : g.tiny) (h : g.okF) {q : T → Prop} (hq : q (.tup [.int .i64 (wgtF g), .int .i64 0])) : PCalls Tryd.prog 11 [g.t] q :=
  PCalls.mono (weight11 g hg) fun r hr => by rcases hr.out with ⟨h2, rfl⟩ | ⟨_, rfl⟩; exact absurd h h2; exact hq
theorem weight11n (g : Graph) (hg : g.tiny) (h : ¬ g.okF) {q : T → Prop} (hq : q (.tup [.int .i64 0, .int .i64 1])) : PCalls Tryd.prog 11 [g.t] q :=
  PCalls.mono (weight11 g hg) fun r hr => by rcases hr.out with ⟨_, rfl⟩ | ⟨h2, rfl⟩; exact hq; exact absurd h2 h
theorem layT_le (g : Graph) : Le (layT g) (layN g).t := .refl _
def lay0 : Lay := ⟨0, [], 0, 0, 0⟩
theorem layZ_le : Le layZ lay0.t := Le.aggL (.cons (.refl _) (.cons (.nsl 1) (.cons (.refl _) (.cons (.refl _) (.cons (.refl _) .nil)))))
noncomputable abbrev teV (g : Graph) (n : Nat) (xs : List T) : Sto := [gvar g, gvar g, .dead, .var 29 [.t (.int .i64 (argsF g)), .osl 5 0 n, .t (.int .i64 (slotsF g)), .t (.int .i64 (wordsF g.arrays)), .t (.int .i64 (wdF g))], .var 29 [.t (.int .i64 (argsF g)), .t (ilist (savedF g)), .t (.int .i64 (slotsF g)), .t (.int .i64 (wordsF g.arrays)), .t (.int .i64 (wdF g))], .row 3 1 xs]
theorem exE.lastO {xs : List T} {y : T} {i : Nat} {K : T → Prop} (h : Ob (i = xs.length)) (hk : K y) : exE (xs ++ [y]) i K := by
  refine exE.at (x := y) ?_ hk
  rw [nth_eq, h.out, List.getElem?_append_right (Nat.le_refl _), Nat.sub_self]
  rfl
theorem law3y (g : Graph) (hg : g.tiny) (hw : ∀ b ∈ g.blocks, ∀ x ∈ allN b.fin, I64 x) (h : g.okF) : PCalls Tryd.prog 3 [g.t] (fun r => r = .bool true) := by
  refine PCalls.of_body ttOk Tryd.func3 rfl ?_
  repeat' ((conv => whnf); first | (with_reducible first | refine onBool_intro (fun _ => ?_) (fun _ => ?_) | refine And.intro (Ob.mk (Nat.le_of_ble_eq_true rfl)) ?_ | refine And.intro (Ob.mk rfl) ?_ | exact ⟨rfl, rfl⟩ | refine And.intro (Ob.mk (fun h => h)) ?_) | (with_reducible refine Or.inl (And.intro (Ob.mk (Flat.map ?_)) ?_); exact fun _ => rfl) | (refine Or.inl (And.intro (Ob.mk (flat_of rfl)) ?_)) | (refine Or.inl (And.intro (Ob.mk ⟨rfl, rfl, rfl, rfl⟩) ?_)) | (refine Or.inl (And.intro (Ob.mk ⟨rfl, rfl, rfl⟩) ?_)) | (refine And.intro (Ob.mk ⟨rfl, rfl⟩) ?_) | (with_reducible refine Or.inr ?_) | (refine And.intro (Ob.mk (flat_of rfl)) ?_) | (with_reducible refine And.intro (Ob.mk (Flat.map ?_)) ?_; exact fun _ => rfl) | (with_reducible first | exact Ob.mk (Flat.map fun _ => rfl) | refine And.intro ?_ ?_ | apply exG.mk | apply exGS.mk | exact Dd.nil) | (refine Dd.same _ ?_) | (refine Dd.dead _ ?_) | (with_reducible first | apply exQ.mk | apply exP.mk) | (refine EqP.mk rfl rfl) | (with_reducible apply exW.mk) | (refine EqW.mk rfl) | (with_reducible first | intro _ | refine Dn.mk ?_) | (refine exS.full (by first | rfl | (simp; done) | (simp; omega)) ?_) | (refine And.intro (Ob.mk ⟨rfl, rfl, by first | rfl | (simp; done) | (simp; omega)⟩) ?_) | (with_reducible refine exE.mapD ?_) | (refine exL.int ?_) | (with_reducible first | refine Up0.mk rfl ?_ | refine Up0i.mk rfl ?_ | refine Up1.mk rfl ?_ | refine Up1i.mk rfl ?_ | refine Up2.mk rfl ?_ | refine Up2i.mk rfl ?_) | (refine Col.mk rfl rfl rfl ?_) | (refine Coli.mk rfl rfl rfl rfl ?_) | (refine copied7k g hg ?_) | (refine lay8y g hg hw h ?_) | (refine lay9y g hg h ?_) | (refine weight10y g hg hw h ?_) | (refine weight11y g hg h ?_) | (refine PCalls.mono live12 ?_; rintro _ rfl) | (refine same13j (layN g) (layN g) ?_ ?_ ?_) | (refine PCalls.mono (sameGraph _ _) ?_; rintro _ rfl))
  all_goals (try (refine Ob.mk ?_; first | assumption | exact ⟨rfl, rfl⟩ | exact ⟨rfl, rfl, rfl⟩ | (refine ⟨rfl, rfl, ?_⟩; simp only [List.length_map, List.length_take, List.length_append, els_len, List.length_replicate]; omega) | (intro h; exact h) | (intro h; rw [h]; rfl) | (intro h; simp_all; done) | (refine bytes_le (n := 1048577) ?_ rfl; simp only [ltI_iff, ltI_not, leI_iff, leI_not, eqI_iff, eqI_not, List.length_map, bif_and, bif_or, Bool.and_eq_true, Bool.and_eq_false_iff, Bool.or_eq_true, Bool.or_eq_false_iff, Bool.not_eq_true', Bool.not_eq_false', Int.toNat_natCast, beq_iff_eq, beq_eq_false_iff_ne, decide_eq_true_eq, decide_eq_false_iff_not, bel_iff, bel_not, wthn_iff, wthn_not, els_len, mixL_len, Nat.zero_add, List.length_set, List.length_take] at *; omega) | (simp only [ltI_iff, ltI_not, leI_iff, leI_not, eqI_iff, eqI_not, List.length_map, bif_and, bif_or, Bool.and_eq_true, Bool.and_eq_false_iff, Bool.or_eq_true, Bool.or_eq_false_iff, Bool.not_eq_true', Bool.not_eq_false', Int.toNat_natCast, beq_iff_eq, beq_eq_false_iff_ne, decide_eq_true_eq, decide_eq_false_iff_not, bel_iff, bel_not, wthn_iff, wthn_not, els_len, mixL_len, Nat.zero_add, List.length_set, List.length_take, Int.ofNat_eq_natCast] at *; omega)))
  all_goals (try exact Ob.mk (layT_le g))
  · exfalso
    rename_i h1
    simp [eqI_beq] at h1
  · conv => whnf
    refine LoopVC.mk [12] [] (fun m vals σ => ∃ i : Nat, vals = [.t (.int .i64 i)] ∧ σ = teV g (savedF g).length (mixL (fun _ => .int .i64 (-7)) (fun n => .int .i64 n) (savedF g) i) ∧ i ≤ (savedF g).length ∧ m = (savedF g).length - i) ?_ ?_
    · conv => whnf
      refine ⟨_, 0, rfl, ?_, Nat.zero_le _, rfl⟩
      rw [mixL_zero, List.length_map]
      rfl
    · rintro m vals σ ⟨i, rfl, rfl, hi, rfl⟩
      have hl : (savedF g).length ≤ 9 := liveN_len
      repeat' ((conv => whnf); first | (with_reducible first | refine onBool_intro (fun _ => ?_) (fun _ => ?_) | refine And.intro (Ob.mk (Nat.le_of_ble_eq_true rfl)) ?_ | refine And.intro (Ob.mk rfl) ?_ | exact ⟨rfl, rfl⟩ | refine And.intro (Ob.mk (fun h => h)) ?_) | (with_reducible refine Or.inl (And.intro (Ob.mk (Flat.map ?_)) ?_); exact fun _ => rfl) | (refine Or.inl (And.intro (Ob.mk (flat_of rfl)) ?_)) | (refine Or.inl (And.intro (Ob.mk ⟨rfl, rfl, rfl, rfl⟩) ?_)) | (refine Or.inl (And.intro (Ob.mk ⟨rfl, rfl, rfl⟩) ?_)) | (refine And.intro (Ob.mk ⟨rfl, rfl⟩) ?_) | (with_reducible refine Or.inr ?_) | (refine And.intro (Ob.mk (flat_of rfl)) ?_) | (with_reducible refine And.intro (Ob.mk (Flat.map ?_)) ?_; exact fun _ => rfl) | (with_reducible first | exact Ob.mk (Flat.map fun _ => rfl) | refine And.intro ?_ ?_ | apply exG.mk | apply exGS.mk | exact Dd.nil) | (refine Dd.same _ ?_) | (refine Dd.dead _ ?_) | (with_reducible first | apply exQ.mk | apply exP.mk) | (refine EqP.mk rfl rfl) | (with_reducible apply exW.mk) | (refine EqW.mk rfl) | (with_reducible first | intro _ | refine Dn.mk ?_) | (refine exS.full (by first | rfl | (simp; done) | (simp; omega)) ?_) | (refine And.intro (Ob.mk ⟨rfl, rfl, by first | rfl | (simp; done) | (simp; omega)⟩) ?_) | (with_reducible refine exE.mapD ?_) | (refine exL.int ?_) | (with_reducible first | refine Up0.mk rfl ?_ | refine Up0i.mk rfl ?_ | refine Up1.mk rfl ?_ | refine Up1i.mk rfl ?_ | refine Up2.mk rfl ?_ | refine Up2i.mk rfl ?_) | (refine Col.mk rfl rfl rfl ?_) | (refine Coli.mk rfl rfl rfl rfl ?_) | (refine exE.mixO ?_ ?_) | (refine exS.full mixL_len.symm ?_) | (refine exE.lastO (y := .int .i64 (-8)) ?_ ?_) | (refine lay8y g hg hw h ?_) | (refine same13j (layN g) (layN g) ?_ ?_ ?_) | (refine PCalls.mono (sameGraph _ _) ?_; rintro _ rfl))
      all_goals (try (refine Ob.mk ?_; first | assumption | exact ⟨rfl, rfl⟩ | exact ⟨rfl, rfl, rfl⟩ | (refine ⟨rfl, rfl, ?_⟩; simp only [List.length_map, List.length_take, List.length_append, els_len, List.length_replicate]; omega) | (intro h; exact h) | (intro h; rw [h]; rfl) | (intro h; simp_all; done) | (refine bytes_le (n := 1048577) ?_ rfl; simp only [ltI_iff, ltI_not, leI_iff, leI_not, eqI_iff, eqI_not, List.length_map, bif_and, bif_or, Bool.and_eq_true, Bool.and_eq_false_iff, Bool.or_eq_true, Bool.or_eq_false_iff, Bool.not_eq_true', Bool.not_eq_false', Int.toNat_natCast, beq_iff_eq, beq_eq_false_iff_ne, decide_eq_true_eq, decide_eq_false_iff_not, bel_iff, bel_not, wthn_iff, wthn_not, els_len, mixL_len, Nat.zero_add, List.length_set, List.length_take] at *; omega) | (simp only [ltI_iff, ltI_not, leI_iff, leI_not, eqI_iff, eqI_not, List.length_map, bif_and, bif_or, Bool.and_eq_true, Bool.and_eq_false_iff, Bool.or_eq_true, Bool.or_eq_false_iff, Bool.not_eq_true', Bool.not_eq_false', Int.toNat_natCast, beq_iff_eq, beq_eq_false_iff_ne, decide_eq_true_eq, decide_eq_false_iff_not, bel_iff, bel_not, wthn_iff, wthn_not, els_len, mixL_len, Nat.zero_add, List.length_set, List.length_take, Int.ofNat_eq_natCast] at *; omega)))
      · rename_i h1
        rw [ltI_iff] at h1
        exact Ob.mk ⟨by omega, by omega⟩
      · rename_i h1
        rw [ltI_iff] at h1
        have h1 : i < (savedF g).length := by omega
        conv => whnf
        refine ⟨(savedF g).length - (i + 1), by omega, i + 1, ?_, ?_, by omega, rfl⟩
        · rw [addI_i64 (by omega) (by omega)]; rfl
        · rw [Nat.zero_add, Int.toNat_natCast]
          exact congrArg (teV g (savedF g).length) (mixL_set (f := fun _ => T.int .i64 (-7)) h1)
      all_goals
        have hs : subI .i64 (((savedF g).length + 1 : Nat) : Int) 1 = (savedF g).length := by rw [subI_i64 (by omega) (by omega)]; omega
      · exact Ob.mk (by show 0 ≤ subI .i64 (((savedF g).length + 1 : Nat) : Int) 1; rw [hs]; omega)
      · exact Ob.mk (by show subI .i64 (((savedF g).length + 1 : Nat) : Int) 1 < (((savedF g).length + 1 : Nat) : Int); rw [hs]; omega)
      · refine Ob.mk ?_
        show 0 + (subI .i64 (((savedF g).length + 1 : Nat) : Int) 1).toNat < _
        rw [hs, List.length_append, mixL_len]
        show _ < _ + 1
        omega
      · refine Ob.mk ?_
        show 0 + (subI .i64 (((savedF g).length + 1 : Nat) : Int) 1).toNat = _
        rw [hs, mixL_len]
        omega
      · exact Ob.mk (layT_le g)
      · exact Ob.mk (layT_le g)
      · show T.bool _ = T.bool true
        simp [eqI_beq]
theorem law3n (g : Graph) (hg : g.tiny) (hw : ∀ b ∈ g.blocks, ∀ x ∈ allN b.fin, I64 x) (h : ¬ g.okF) : PCalls Tryd.prog 3 [g.t] (fun r => r = .bool true) := by
  refine PCalls.of_body ttOk Tryd.func3 rfl ?_
  repeat' ((conv => whnf); first | (with_reducible first | refine onBool_intro (fun _ => ?_) (fun _ => ?_) | refine And.intro (Ob.mk (Nat.le_of_ble_eq_true rfl)) ?_ | refine And.intro (Ob.mk rfl) ?_ | exact ⟨rfl, rfl⟩ | refine And.intro (Ob.mk (fun h => h)) ?_) | (with_reducible refine Or.inl (And.intro (Ob.mk (Flat.map ?_)) ?_); exact fun _ => rfl) | (refine Or.inl (And.intro (Ob.mk (flat_of rfl)) ?_)) | (refine Or.inl (And.intro (Ob.mk ⟨rfl, rfl, rfl, rfl⟩) ?_)) | (refine Or.inl (And.intro (Ob.mk ⟨rfl, rfl, rfl⟩) ?_)) | (refine And.intro (Ob.mk ⟨rfl, rfl⟩) ?_) | (with_reducible refine Or.inr ?_) | (refine And.intro (Ob.mk (flat_of rfl)) ?_) | (with_reducible refine And.intro (Ob.mk (Flat.map ?_)) ?_; exact fun _ => rfl) | (with_reducible first | exact Ob.mk (Flat.map fun _ => rfl) | refine And.intro ?_ ?_ | apply exG.mk | apply exGS.mk | exact Dd.nil) | (refine Dd.same _ ?_) | (refine Dd.dead _ ?_) | (with_reducible first | apply exQ.mk | apply exP.mk) | (refine EqP.mk rfl rfl) | (with_reducible apply exW.mk) | (refine EqW.mk rfl) | (with_reducible first | intro _ | refine Dn.mk ?_) | (refine exS.full (by first | rfl | (simp; done) | (simp; omega)) ?_) | (refine And.intro (Ob.mk ⟨rfl, rfl, by first | rfl | (simp; done) | (simp; omega)⟩) ?_) | (with_reducible refine exE.mapD ?_) | (refine exL.int ?_) | (with_reducible first | refine Up0.mk rfl ?_ | refine Up0i.mk rfl ?_ | refine Up1.mk rfl ?_ | refine Up1i.mk rfl ?_ | refine Up2.mk rfl ?_ | refine Up2i.mk rfl ?_) | (refine Col.mk rfl rfl rfl ?_) | (refine Coli.mk rfl rfl rfl rfl ?_) | (refine copied7k g hg ?_) | (refine lay8n g hg hw h ?_) | (refine lay9n g hg h ?_) | (refine weight10n g hg hw h ?_) | (refine weight11n g hg h ?_) | (refine PCalls.mono live12 ?_; rintro _ rfl) | (refine same13j lay0 lay0 ?_ ?_ ?_) | (refine PCalls.mono (sameGraph _ _) ?_; rintro _ rfl))
  all_goals (try (refine Ob.mk ?_; first | assumption | exact ⟨rfl, rfl⟩ | exact ⟨rfl, rfl, rfl⟩ | (refine ⟨rfl, rfl, ?_⟩; simp only [List.length_map, List.length_take, List.length_append, els_len, List.length_replicate]; omega) | (intro h; exact h) | (intro h; rw [h]; rfl) | (intro h; simp_all; done) | (refine bytes_le (n := 1048577) ?_ rfl; simp only [ltI_iff, ltI_not, leI_iff, leI_not, eqI_iff, eqI_not, List.length_map, bif_and, bif_or, Bool.and_eq_true, Bool.and_eq_false_iff, Bool.or_eq_true, Bool.or_eq_false_iff, Bool.not_eq_true', Bool.not_eq_false', Int.toNat_natCast, beq_iff_eq, beq_eq_false_iff_ne, decide_eq_true_eq, decide_eq_false_iff_not, bel_iff, bel_not, wthn_iff, wthn_not, els_len, mixL_len, Nat.zero_add, List.length_set, List.length_take] at *; omega) | (simp only [ltI_iff, ltI_not, leI_iff, leI_not, eqI_iff, eqI_not, List.length_map, bif_and, bif_or, Bool.and_eq_true, Bool.and_eq_false_iff, Bool.or_eq_true, Bool.or_eq_false_iff, Bool.not_eq_true', Bool.not_eq_false', Int.toNat_natCast, beq_iff_eq, beq_eq_false_iff_ne, decide_eq_true_eq, decide_eq_false_iff_not, bel_iff, bel_not, wthn_iff, wthn_not, els_len, mixL_len, Nat.zero_add, List.length_set, List.length_take, Int.ofNat_eq_natCast] at *; omega)))
  all_goals (try exact Ob.mk layZ_le)
  · exfalso
    rename_i h1
    simp [eqI_beq] at h1
  · conv => whnf
    refine LoopVC.mk [12] [] (fun m vals σ => vals = [.t (.int .i64 0)] ∧ σ = [gvar g, gvar g, .var 29 [.t (.int .i64 0), .t .nsl, .t (.int .i64 0), .t (.int .i64 0), .t (.int .i64 0)], .var 29 [.t (.int .i64 0), .t .nsl, .t (.int .i64 0), .t (.int .i64 0), .t (.int .i64 0)]] ∧ m = 0) ?_ ?_
    · conv => whnf
      exact ⟨_, rfl, rfl, rfl⟩
    · rintro m vals σ ⟨rfl, rfl, rfl⟩
      repeat' ((conv => whnf); first | (with_reducible first | refine onBool_intro (fun _ => ?_) (fun _ => ?_) | refine And.intro (Ob.mk (Nat.le_of_ble_eq_true rfl)) ?_ | refine And.intro (Ob.mk rfl) ?_ | exact ⟨rfl, rfl⟩ | refine And.intro (Ob.mk (fun h => h)) ?_) | (with_reducible refine Or.inl (And.intro (Ob.mk (Flat.map ?_)) ?_); exact fun _ => rfl) | (refine Or.inl (And.intro (Ob.mk (flat_of rfl)) ?_)) | (refine Or.inl (And.intro (Ob.mk ⟨rfl, rfl, rfl, rfl⟩) ?_)) | (refine Or.inl (And.intro (Ob.mk ⟨rfl, rfl, rfl⟩) ?_)) | (refine And.intro (Ob.mk ⟨rfl, rfl⟩) ?_) | (with_reducible refine Or.inr ?_) | (refine And.intro (Ob.mk (flat_of rfl)) ?_) | (with_reducible refine And.intro (Ob.mk (Flat.map ?_)) ?_; exact fun _ => rfl) | (with_reducible first | exact Ob.mk (Flat.map fun _ => rfl) | refine And.intro ?_ ?_ | apply exG.mk | apply exGS.mk | exact Dd.nil) | (refine Dd.same _ ?_) | (refine Dd.dead _ ?_) | (with_reducible first | apply exQ.mk | apply exP.mk) | (refine EqP.mk rfl rfl) | (with_reducible apply exW.mk) | (refine EqW.mk rfl) | (with_reducible first | intro _ | refine Dn.mk ?_) | (refine exS.full (by first | rfl | (simp; done) | (simp; omega)) ?_) | (refine And.intro (Ob.mk ⟨rfl, rfl, by first | rfl | (simp; done) | (simp; omega)⟩) ?_) | (with_reducible refine exE.mapD ?_) | (refine exL.int ?_) | (with_reducible first | refine Up0.mk rfl ?_ | refine Up0i.mk rfl ?_ | refine Up1.mk rfl ?_ | refine Up1i.mk rfl ?_ | refine Up2.mk rfl ?_ | refine Up2i.mk rfl ?_) | (refine Col.mk rfl rfl rfl ?_) | (refine Coli.mk rfl rfl rfl rfl ?_) | (refine exE.lastO (xs := []) (y := .int .i64 (-8)) ?_ ?_) | (refine lay8n g hg hw h ?_) | (refine same13j lay0 lay0 ?_ ?_ ?_) | (refine PCalls.mono (sameGraph _ _) ?_; rintro _ rfl))
      all_goals (try (refine Ob.mk ?_; first | assumption | exact ⟨rfl, rfl⟩ | exact ⟨rfl, rfl, rfl⟩ | (refine ⟨rfl, rfl, ?_⟩; simp only [List.length_map, List.length_take, List.length_append, els_len, List.length_replicate]; omega) | (intro h; exact h) | (intro h; rw [h]; rfl) | (intro h; simp_all; done) | (refine bytes_le (n := 1048577) ?_ rfl; simp only [ltI_iff, ltI_not, leI_iff, leI_not, eqI_iff, eqI_not, List.length_map, bif_and, bif_or, Bool.and_eq_true, Bool.and_eq_false_iff, Bool.or_eq_true, Bool.or_eq_false_iff, Bool.not_eq_true', Bool.not_eq_false', Int.toNat_natCast, beq_iff_eq, beq_eq_false_iff_ne, decide_eq_true_eq, decide_eq_false_iff_not, bel_iff, bel_not, wthn_iff, wthn_not, els_len, mixL_len, Nat.zero_add, List.length_set, List.length_take] at *; omega) | (simp only [ltI_iff, ltI_not, leI_iff, leI_not, eqI_iff, eqI_not, List.length_map, bif_and, bif_or, Bool.and_eq_true, Bool.and_eq_false_iff, Bool.or_eq_true, Bool.or_eq_false_iff, Bool.not_eq_true', Bool.not_eq_false', Int.toNat_natCast, beq_iff_eq, beq_eq_false_iff_ne, decide_eq_true_eq, decide_eq_false_iff_not, bel_iff, bel_not, wthn_iff, wthn_not, els_len, mixL_len, Nat.zero_add, List.length_set, List.length_take, Int.ofNat_eq_natCast] at *; omega)))
      · exfalso
        rename_i h1
        exact absurd (ltI_iff.1 h1) (Int.lt_irrefl _)
      all_goals
        have hs : subI .i64 ((1 : Nat) : Int) 1 = 0 := by rw [subI_i64 (by omega) (by omega)]; rfl
      · exact Ob.mk (by show 0 ≤ subI .i64 ((1 : Nat) : Int) 1; rw [hs]; omega)
      · exact Ob.mk (by show subI .i64 ((1 : Nat) : Int) 1 < ((1 : Nat) : Int); rw [hs]; omega)
      · exact Ob.mk (by show 0 + (subI .i64 ((1 : Nat) : Int) 1).toNat < 1; rw [hs]; decide)
      · exact Ob.mk (by show 0 + (subI .i64 ((1 : Nat) : Int) 1).toNat = 0; rw [hs]; rfl)
      · exact Ob.mk layZ_le
      · exact Ob.mk layZ_le
      · show T.bool _ = T.bool true
        simp [eqI_beq]
theorem law3F (g : Graph) (hg : g.tiny) (hw : ∀ b ∈ g.blocks, ∀ x ∈ allN b.fin, I64 x) : PCalls Tryd.prog 3 [g.t] (fun r => r = .bool true) := by
  by_cases h : g.okF
  · exact law3y g hg hw h
  · exact law3n g hg hw h
end Go.Proofs.YtgnafgebenlffaaDoor.Am
