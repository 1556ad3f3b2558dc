/- The law on where blocks lead. -/
import Derived.Test.YtihebfhhnoneiaaG05U
import Derived.Test.YtihebfhhnoneiaaG05W
namespace Go.Proofs.Ytihebfhhnoneiaa.Am
open Go Go.Proofs
set_option maxRecDepth 10000
set_option linter.unusedVariables false
set_option linter.unusedSimpArgs false

theorem ints17t (a b : List Int) {xs ys : List T} (hx : Ob (xs = a.map fun n => .int .i64 n)) (hy : Ob (ys = b.map fun n => .int .i64 n)) {q : T → Prop} (hq : q (.bool (a == b))) : PCalls Try.prog 17 [.sl 1 xs, .sl 1 ys] q := by
  rw [hx.out, hy.out]
  exact PCalls.mono (ints17 a b) fun _ h => h ▸ hq

theorem law5 (g : Graph) (b : Int) (hg : g.tiny) (hw : ∀ x ∈ allN (nthD g.blocks b.toNat).fin, I64 x) : PCalls Try.prog 5 [g.t, .int .i64 b] (fun r => r = .bool true) := by
  refine PCalls.of_body ttOk Try.func5 rfl ?_
  repeat' ((conv => whnf); first
    | (with_reducible refine onBool_intro (fun _ => ?_) (fun _ => ?_))
    | (with_reducible refine And.intro (Ob.mk (Nat.le_of_ble_eq_true rfl)) ?_)
    | (with_reducible refine And.intro (Ob.mk rfl) ?_)
    | (with_reducible exact ⟨rfl, rfl⟩)
    | (with_reducible refine And.intro (Ob.mk (fun h => h)) ?_)
    | (with_reducible refine And.intro ?_ ?_)
    | (with_reducible apply exG.mk) | (with_reducible apply exGS.mk) | (with_reducible exact Dd.nil) | (refine Dd.same _ ?_) | (refine Dd.dead _ ?_) | (with_reducible apply exQ.mk)
    | (with_reducible intro _) | (with_reducible refine Dn.mk ?_)
    | (with_reducible refine exE.mapD ?_) | (refine exL.int ?_)
    | (with_reducible refine Up0.mk rfl ?_) | (with_reducible refine Up0i.mk rfl ?_) | (with_reducible refine Up1.mk rfl ?_) | (with_reducible refine Up1i.mk rfl ?_) | (with_reducible refine Up2.mk rfl ?_) | (with_reducible refine Up2i.mk rfl ?_)
    | (refine Col.mk rfl rfl rfl ?_) | (refine Coli.mk rfl rfl rfl rfl ?_)
    | (refine PCalls.mono (next13 _ _ hg hw) ?_; rintro _ rfl)
    | (refine PCalls.mono (next14 _ _ hg) ?_; rintro _ rfl)
    | (refine PCalls.mono (count15 _ hg) ?_; rintro _ rfl)
    | (refine PCalls.mono (count16 _ hg) ?_; rintro _ rfl)
    | (refine ints17t (nextN g b) (nextN g b) ?_ ?_ ?_)
    | (refine PCalls.mono live10 ?_; rintro _ rfl))
  all_goals (try (refine Ob.mk ?_; first | assumption | (intro h; exact h) | (intro h; rw [h]; rfl) | (intro h; simp_all; done) | (refine bytes_le (n := 1048577) ?_ rfl; simp only [ltI_iff, ltI_not, leI_iff, leI_not, eqI_iff, eqI_not, List.length_map, bif_and, bif_or, Bool.and_eq_true, Bool.and_eq_false_iff, Bool.or_eq_true, Bool.or_eq_false_iff, Bool.not_eq_true', Bool.not_eq_false', Int.toNat_natCast, beq_iff_eq, beq_eq_false_iff_ne, decide_eq_true_eq, decide_eq_false_iff_not, bel_iff, bel_not, wthn_iff, wthn_not] at *; omega) | (simp only [ltI_iff, ltI_not, leI_iff, leI_not, eqI_iff, eqI_not, List.length_map, bif_and, bif_or, Bool.and_eq_true, Bool.and_eq_false_iff, Bool.or_eq_true, Bool.or_eq_false_iff, Bool.not_eq_true', Bool.not_eq_false', Int.toNat_natCast, beq_iff_eq, beq_eq_false_iff_ne, decide_eq_true_eq, decide_eq_false_iff_not, bel_iff, bel_not, wthn_iff, wthn_not, Int.ofNat_eq_natCast] at *; omega)))
  · exact Ob.mk (List.take_of_length_le (by simp))
  · exact Ob.mk (List.take_of_length_le (by simp))
  · exfalso
    rename_i h
    simp [eqI] at h
  · conv => whnf
    refine LoopVC.mk [13] [] (fun m vals σ => ∃ (i : Nat) (ts : List Int), vals = [.t (.int .i64 i)] ∧ σ = [gvar g, .row 3 1 (ts.map fun n => .int .i64 n), .row 3 1 ((nextN g b).map fun n => .int .i64 n)] ∧ i ≤ (nextN g b).length ∧ m = (nextN g b).length - i ∧ ts.length = (nextN g b).length) ?_ ?_
    · conv => whnf
      exact ⟨(nextN g b).length, 0, nextN g b, rfl, rfl, Nat.zero_le _, rfl, rfl⟩
    · rintro m vals σ ⟨i, ts, rfl, rfl, hi, rfl, hl⟩
      repeat' ((conv => whnf); first
    | (with_reducible refine onBool_intro (fun _ => ?_) (fun _ => ?_))
    | (with_reducible refine And.intro (Ob.mk (Nat.le_of_ble_eq_true rfl)) ?_)
    | (with_reducible refine And.intro (Ob.mk rfl) ?_)
    | (with_reducible exact ⟨rfl, rfl⟩)
    | (with_reducible refine And.intro (Ob.mk (fun h => h)) ?_)
    | (with_reducible refine And.intro ?_ ?_)
    | (with_reducible apply exG.mk) | (with_reducible apply exGS.mk) | (with_reducible exact Dd.nil) | (refine Dd.same _ ?_) | (refine Dd.dead _ ?_) | (with_reducible apply exQ.mk)
    | (with_reducible intro _) | (with_reducible refine Dn.mk ?_)
    | (with_reducible refine exE.mapD ?_) | (refine exL.int ?_)
    | (with_reducible refine Up0.mk rfl ?_) | (with_reducible refine Up0i.mk rfl ?_) | (with_reducible refine Up1.mk rfl ?_) | (with_reducible refine Up1i.mk rfl ?_) | (with_reducible refine Up2.mk rfl ?_) | (with_reducible refine Up2i.mk rfl ?_)
    | (refine Col.mk rfl rfl rfl ?_) | (refine Coli.mk rfl rfl rfl rfl ?_)
    | (refine PCalls.mono (next13 _ _ hg hw) ?_; rintro _ rfl)
    | (refine ints17t (nextN g b) (nextN g b) ?_ ?_ ?_)
    | (refine PCalls.mono live10 ?_; rintro _ rfl))
      all_goals (try (refine Ob.mk ?_; first | assumption | (intro h; exact h) | (intro h; rw [h]; rfl) | (intro h; simp_all; done) | (refine bytes_le (n := 1048577) ?_ rfl; simp only [ltI_iff, ltI_not, leI_iff, leI_not, eqI_iff, eqI_not, List.length_map, bif_and, bif_or, Bool.and_eq_true, Bool.and_eq_false_iff, Bool.or_eq_true, Bool.or_eq_false_iff, Bool.not_eq_true', Bool.not_eq_false', Int.toNat_natCast, beq_iff_eq, beq_eq_false_iff_ne, decide_eq_true_eq, decide_eq_false_iff_not, bel_iff, bel_not, wthn_iff, wthn_not] at *; omega) | (simp only [ltI_iff, ltI_not, leI_iff, leI_not, eqI_iff, eqI_not, List.length_map, bif_and, bif_or, Bool.and_eq_true, Bool.and_eq_false_iff, Bool.or_eq_true, Bool.or_eq_false_iff, Bool.not_eq_true', Bool.not_eq_false', Int.toNat_natCast, beq_iff_eq, beq_eq_false_iff_ne, decide_eq_true_eq, decide_eq_false_iff_not, bel_iff, bel_not, wthn_iff, wthn_not, Int.ofNat_eq_natCast] at *; omega)))
      · rename_i h1
        have hlt : i < (nextN g b).length := by simp only [ltI_iff, ltI_not, leI_iff, leI_not, eqI_iff, eqI_not, List.length_map, bif_and, bif_or, Bool.and_eq_true, Bool.and_eq_false_iff, Bool.or_eq_true, Bool.or_eq_false_iff, Bool.not_eq_true', Bool.not_eq_false', Int.toNat_natCast, beq_iff_eq, beq_eq_false_iff_ne, decide_eq_true_eq, decide_eq_false_iff_not] at *; omega
        conv => whnf
        refine ⟨(nextN g b).length - (i + 1), by omega, i + 1, ts.set i (-9), ?_, ?_, hlt, rfl, by simpa using hl⟩
        · have hb : (nextN g b).length ≤ 2 ^ 48 := by simpa using ‹(List.map (fun n => T.int IntKind.i64 n) (nextN g b)).length ≤ 2 ^ 48›
          rw [addI_i64 (by omega) (by omega)]; rfl
        · rw [List.map_set, Nat.zero_add, Int.toNat_natCast]
          rfl
      · exact Ob.mk (List.take_of_length_le (by simp))
      · exact Ob.mk (List.take_of_length_le (by simp))
      · refine congrArg T.bool ?_
        simp
end Go.Proofs.Ytihebfhhnoneiaa.Am
