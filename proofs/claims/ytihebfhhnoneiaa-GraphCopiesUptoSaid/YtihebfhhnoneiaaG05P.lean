/- Some answers that the document gives; and the first law. -/
import Derived.Test.YtihebfhhnoneiaaG05Q
import Derived.Test.YtihebfhhnoneiaaG05L
namespace Go.Proofs.Ytihebfhhnoneiaa.Am
open Go Go.Proofs
set_option maxRecDepth 10000
set_option maxHeartbeats 2000000
set_option linter.unusedVariables false
set_option linter.unusedSimpArgs false

/-- The modules that the law asks ahead. -/
def goodG : Graph := ⟨[], 0, [], [⟨[], ⟨5, 0, -1, 0, 0, 0, 0, [], []⟩⟩]⟩
def goodM : Module := ⟨[], [], [goodG], 0⟩
def badG : Graph := ⟨[], 0, [], [⟨[⟨1, 0, 0, 0, 0, 0, [], []⟩], ⟨5, 0, -1, 0, 0, 0, 0, [], []⟩⟩]⟩
def badM : Module := ⟨[], [], [badG], 0⟩
theorem good_answer : refCheck goodM = (-1, -1, 0) := by decide +kernel
theorem bad_answer : refCheck badM = (0, 0, 51) := by decide +kernel

theorem Le.sl1 {sz : Nat} {x y : T} (h : LeL x.cells y.cells) (hz : y.cells.length = sz) : Le (.sl sz [x]) (.sl sz [y]) := by
  refine .sl sz _ _ rfl (by simp [hz]) ?_
  intro i u v j c d hu hv hc hd
  cases i with
  | zero =>
    simp at hu hv
    subst hu hv
    exact h.out.2 j c d hc hd
  | succ i => simp at hu
abbrev endT : List T := [.int .i64 5, .int .i64 0, .int .i64 (-1), .int .i64 0, .int .u32 0, .int .i64 0, .int .i64 0, .nsl, .nsl]
abbrev goodT : T := .agg [.nsl, .nsl, .sl 4 [.agg [.nsl, .int .i64 0, .nsl, .nst 54 10 [.agg (.nsl :: endT)]]], .int .i64 0]
abbrev badT : T := .agg [.nsl, .nsl, .sl 4 [.agg [.nsl, .int .i64 0, .nsl, .nst 54 10 [.agg (.nst 56 8 [.agg [.int .i64 1, .int .i64 0, .int .i64 0, .int .i64 0, .int .i64 0, .int .u32 0, .nsl, .nsl]] :: endT)]]], .int .i64 0]
theorem endLe : LeL endT [.int .i64 5, .int .i64 0, .int .i64 (-1), .int .i64 0, .int .u32 0, .int .i64 0, .int .i64 0, .sl 2 [], .sl 1 []] :=
  .cons (.refl _) (.cons (.refl _) (.cons (.refl _) (.cons (.refl _) (.cons (.refl _) (.cons (.refl _) (.cons (.refl _) (.cons (.nsl 2) (.cons (.nsl 1) .nil))))))))
theorem goodLe : Le goodT goodM.t :=
  .aggL (.cons (.nsl 1) (.cons (.nsl 1) (.cons (.sl1 (.cons (.nsl 1) (.cons (.refl _) (.cons (.nsl 2) (.cons (.nst 54 10 _ _ (.sl1 (.cons (.nsl 8) endLe) rfl)) .nil)))) rfl) (.cons (.refl _) .nil))))
theorem badLe : Le badT badM.t :=
  .aggL (.cons (.nsl 1) (.cons (.nsl 1) (.cons (.sl1 (.cons (.nsl 1) (.cons (.refl _) (.cons (.nsl 2) (.cons (.nst 54 10 _ _ (.sl1 (.cons
    (.nst 56 8 _ _ (.sl1 (.cons (.refl _) (.cons (.refl _) (.cons (.refl _) (.cons (.refl _) (.cons (.refl _) (.cons (.refl _) (.cons (.nsl 1) (.cons (.nsl 1) .nil)))))))) rfl)) endLe) rfl)) .nil)))) rfl) (.cons (.refl _) .nil))))
theorem good_small : goodM.small := ⟨by decide +kernel, by decide +kernel, by decide +kernel, by decide +kernel⟩
theorem bad_small : badM.small := ⟨by decide +kernel, by decide +kernel, by decide +kernel, by decide +kernel⟩
theorem good_tiny : goodM.tiny := ⟨by decide +kernel, by decide +kernel, by decide +kernel, by
  intro g hg
  simp [goodM] at hg
  subst hg
  refine ⟨by decide +kernel, by decide +kernel, by decide +kernel, ?_⟩
  intro b hb
  simp [goodG] at hb
  subst hb
  exact ⟨by decide +kernel, by decide +kernel, by decide +kernel, by decide +kernel, by decide +kernel⟩⟩
theorem goodCheck {q : T → Prop} (hq : q (.tup [.int .i64 (-1), .int .i64 (-1), .int .i64 0])) : PCalls Try.prog 7 [goodT] q := by
  refine PCalls.argsL (.cons goodLe .nil) (PCalls.mono (check7 _ good_small) ?_)
  rintro _ rfl
  rw [good_answer]; exact hq
theorem badCheck {q : T → Prop} (hq : q (.tup [.int .i64 0, .int .i64 0, .int .i64 51])) : PCalls Try.prog 7 [badT] q := by
  refine PCalls.argsL (.cons badLe .nil) (PCalls.mono (check7 _ bad_small) ?_)
  rintro _ rfl
  rw [bad_answer]; exact hq
theorem goodCopy {q : T → Prop} (hq : q (.agg [.sl 1 [], .sl 1 [], .sl 4 (goodM.funcs.map Graph.o), .int .i64 0])) : PCalls Try.prog 11 [goodT] q := by
  refine PCalls.argsL (.cons goodLe .nil) (PCalls.freezeK (copy11 _ good_tiny) ?_)
  repeat' ((conv => whnf); first
    | (with_reducible refine onBool_intro (fun _ => ?_) (fun _ => ?_))
    | (with_reducible refine And.intro (Ob.mk (Nat.le_of_ble_eq_true rfl)) ?_)
    | (with_reducible refine And.intro (Ob.mk rfl) ?_)
    | (with_reducible exact ⟨rfl, rfl⟩)
    | (with_reducible refine And.intro (Ob.mk (fun h => h)) ?_)
    | (with_reducible refine Or.inl (And.intro (Ob.mk (Flat.map ?_)) ?_); exact fun _ => rfl)
    | (refine Or.inl (And.intro (Ob.mk (flat_of rfl)) ?_))
    | (refine Or.inl (And.intro (Ob.mk ⟨rfl, rfl, rfl, rfl⟩) ?_))
    | (refine Or.inl (And.intro (Ob.mk ⟨rfl, rfl, rfl⟩) ?_))
    | (refine And.intro (Ob.mk ⟨rfl, rfl⟩) ?_)
    | (with_reducible refine Or.inr ?_)
    | (refine And.intro (Ob.mk (flat_of rfl)) ?_)
    | (with_reducible refine And.intro (Ob.mk (Flat.map ?_)) ?_; exact fun _ => rfl)
    | (with_reducible exact Ob.mk (Flat.map fun _ => rfl))
    | (with_reducible refine And.intro ?_ ?_)
    | (with_reducible apply exG.mk) | (with_reducible apply exGS.mk) | (with_reducible exact Dd.nil) | (refine Dd.same _ ?_) | (refine Dd.dead _ ?_) | (with_reducible apply exQ.mk) | (with_reducible apply exP.mk) | (refine EqP.mk rfl rfl) | (with_reducible apply exW.mk) | (refine EqW.mk rfl)
    | (with_reducible intro _) | (with_reducible refine Dn.mk ?_)
    | (refine exS.full (by first | rfl | (simp; done) | (simp; omega)) ?_)
    | (refine And.intro (Ob.mk ⟨rfl, rfl, by first | rfl | (simp; done) | (simp; omega)⟩) ?_)
    | (with_reducible refine exE.mapD ?_) | (refine exL.int ?_)
    | (with_reducible refine Up0.mk rfl ?_) | (with_reducible refine Up0i.mk rfl ?_) | (with_reducible refine Up1.mk rfl ?_) | (with_reducible refine Up1i.mk rfl ?_) | (with_reducible refine Up2.mk rfl ?_) | (with_reducible refine Up2i.mk rfl ?_)
    | (refine Col.mk rfl rfl rfl ?_) | (refine Coli.mk rfl rfl rfl rfl ?_))
  · rfl
  · exact hq

theorem live10 : PCalls Try.prog 10 [] (fun r => r = .bool true) := by
  refine PCalls.of_body ttOk Try.func10 rfl ?_
  repeat' ((conv => whnf); first
    | (with_reducible refine onBool_intro (fun _ => ?_) (fun _ => ?_))
    | (with_reducible refine And.intro (Ob.mk (Nat.le_of_ble_eq_true rfl)) ?_)
    | (with_reducible refine And.intro (Ob.mk rfl) ?_)
    | (with_reducible exact ⟨rfl, rfl⟩)
    | (with_reducible refine And.intro (Ob.mk (fun h => h)) ?_)
    | (with_reducible refine Or.inl (And.intro (Ob.mk (Flat.map ?_)) ?_); exact fun _ => rfl)
    | (refine Or.inl (And.intro (Ob.mk (flat_of rfl)) ?_))
    | (refine Or.inl (And.intro (Ob.mk ⟨rfl, rfl, rfl, rfl⟩) ?_))
    | (refine Or.inl (And.intro (Ob.mk ⟨rfl, rfl, rfl⟩) ?_))
    | (refine And.intro (Ob.mk ⟨rfl, rfl⟩) ?_)
    | (with_reducible refine Or.inr ?_)
    | (refine And.intro (Ob.mk (flat_of rfl)) ?_)
    | (with_reducible refine And.intro (Ob.mk (Flat.map ?_)) ?_; exact fun _ => rfl)
    | (with_reducible exact Ob.mk (Flat.map fun _ => rfl))
    | (with_reducible refine And.intro ?_ ?_)
    | (with_reducible apply exG.mk) | (with_reducible apply exGS.mk) | (with_reducible exact Dd.nil) | (refine Dd.same _ ?_) | (refine Dd.dead _ ?_) | (with_reducible apply exQ.mk) | (with_reducible apply exP.mk) | (refine EqP.mk rfl rfl) | (with_reducible apply exW.mk) | (refine EqW.mk rfl)
    | (with_reducible intro _) | (with_reducible refine Dn.mk ?_)
    | (refine exS.full (by first | rfl | (simp; done) | (simp; omega)) ?_)
    | (refine And.intro (Ob.mk ⟨rfl, rfl, by first | rfl | (simp; done) | (simp; omega)⟩) ?_)
    | (with_reducible refine exE.mapD ?_) | (refine exL.int ?_)
    | (with_reducible refine Up0.mk rfl ?_) | (with_reducible refine Up0i.mk rfl ?_) | (with_reducible refine Up1.mk rfl ?_) | (with_reducible refine Up1i.mk rfl ?_) | (with_reducible refine Up2.mk rfl ?_) | (with_reducible refine Up2i.mk rfl ?_)
    | (refine Col.mk rfl rfl rfl ?_) | (refine Coli.mk rfl rfl rfl rfl ?_)
    | (refine goodCheck ?_)
    | (refine badCheck ?_)
    | (refine goodCopy ?_))
  all_goals (try (refine Ob.mk ?_; first | assumption | exact ⟨rfl, rfl⟩ | exact ⟨rfl, rfl, rfl⟩ | (refine ⟨rfl, rfl, ?_⟩; simp only [List.length_map, List.length_take, List.length_append, els_len, List.length_replicate]; omega) | (intro h; exact h) | (intro h; rw [h]; rfl) | (intro h; simp_all; done) | (refine bytes_le (n := 1048577) ?_ rfl; simp only [ltI_iff, ltI_not, leI_iff, leI_not, eqI_iff, eqI_not, List.length_map, bif_and, bif_or, Bool.and_eq_true, Bool.and_eq_false_iff, Bool.or_eq_true, Bool.or_eq_false_iff, Bool.not_eq_true', Bool.not_eq_false', Int.toNat_natCast, beq_iff_eq, beq_eq_false_iff_ne, decide_eq_true_eq, decide_eq_false_iff_not, bel_iff, bel_not, wthn_iff, wthn_not, els_len, mixL_len, Nat.zero_add, List.length_set, List.length_take] at *; omega) | (simp only [ltI_iff, ltI_not, leI_iff, leI_not, eqI_iff, eqI_not, List.length_map, bif_and, bif_or, Bool.and_eq_true, Bool.and_eq_false_iff, Bool.or_eq_true, Bool.or_eq_false_iff, Bool.not_eq_true', Bool.not_eq_false', Int.toNat_natCast, beq_iff_eq, beq_eq_false_iff_ne, decide_eq_true_eq, decide_eq_false_iff_not, bel_iff, bel_not, wthn_iff, wthn_not, els_len, mixL_len, Nat.zero_add, List.length_set, List.length_take, Int.ofNat_eq_natCast] at *; omega)))
  · refine congrArg T.bool ?_
    unfold eqI
    rfl

end Go.Proofs.Ytihebfhhnoneiaa.Am
