/- The law GraphCopies. -/
import Derived.Test.YtihebfhhnoneiaaG05R1
import Derived.Test.YtihebfhhnoneiaaG05N2
import Derived.Test.YtihebfhhnoneiaaG05Q
namespace Go.Proofs.Ytihebfhhnoneiaa.Am
open Go Go.Proofs
set_option maxRecDepth 10000
set_option linter.unusedVariables false
set_option linter.unusedSimpArgs false
set_option maxHeartbeats 1000000

/-- A module whose rows are the call's own, read. -/
abbrev Module.f (m : Module) : T := .agg [.sl 1 (m.globals.map fun n => .int .u32 n), .sl 1 (m.arrays.map fun n => .int .i64 n), .sl 4 (m.funcs.map Graph.o), .int .i64 m.main]
theorem Module.f_le (m : Module) : Le m.f m.t := Le.aggL (.cons (.refl _) (.cons (.refl _) (.cons (Le.slmap Graph.o_le fun _ => rfl) (.cons (.refl _) .nil))))
theorem copy11f (m : Module) (h : Ob m.tiny) {q : T → Prop} (hq : q (.own m.o)) : PCalls Try.prog 11 [m.f] q := PCalls.argsL (.cons m.f_le .nil) (PCalls.mono (copy11 m h.out) fun _ h => h ▸ hq)
theorem copy6k (m : Module) (h : Ob m.tiny) {q : T → Prop} (hq : q (.own m.o)) : PCalls Try.prog 6 [m.t] q := PCalls.mono (copy6o m h.out) fun _ h => h ▸ hq
theorem same9f (m : Module) {q : T → Prop} (hq : q (.bool true)) : PCalls Try.prog 9 [m.f, m.t] q := PCalls.argsL (.cons m.f_le (.cons (.refl _) .nil)) (PCalls.mono (same9 m m) fun _ h => by rw [h, decide_eq_true rfl]; exact hq)
theorem spoils12k (m : Module) {q : SV → Sto → Prop} (hq : q (.tup []) (List.replicate 13 .dead)) : ICalls Try.prog 12 [.agg [.osl 0 0 (m.globals.map fun n => T.int .u32 n).length, .osl 1 0 (m.arrays.map fun n => T.int .i64 n).length, .osl 2 0 (m.funcs.map Graph.o).length, .t (.int .i64 m.main)]] [rg m.globals, ra m.arrays, rf m.funcs] q := by
  rw [List.length_map, List.length_map, List.length_map]
  exact ICalls.mono (spoils12 _ _ _ _) fun v s h => by rw [h.1, h.2]; exact hq

abbrev i12 : FuncId → Bool := fun f => Nat.beq f 12
theorem law4 (m : Module) (hm : m.tiny) (live10 : PCalls Try.prog 10 [] (fun r => r = .bool true)) : PCalls Try.prog 4 [m.t] (fun r => r = .bool true) := by
  refine PCalls.of_bodyI i12 ttOk Try.func4 rfl ?_
  repeat' ((conv => whnf); first
    | (with_reducible refine onBool_intro (fun _ => ?_) (fun _ => ?_))
    | (with_reducible refine And.intro (Ob.mk (Nat.le_of_ble_eq_true rfl)) ?_)
    | (with_reducible refine And.intro (Ob.mk rfl) ?_)
    | (with_reducible exact ⟨rfl, rfl⟩)
    | (with_reducible refine And.intro (Ob.mk (fun h => h)) ?_)
    | (with_reducible refine Or.inl (And.intro (Ob.mk (Flat.map ?_)) ?_); exact fun _ => rfl)
    | (refine Or.inl (And.intro (Ob.mk (flat_of rfl)) ?_))
    | (refine Or.inl (And.intro (Ob.mk ⟨rfl, rfl, rfl, rfl⟩) ?_))
    | (refine Or.inl (And.intro (Ob.mk ⟨rfl, rfl, rfl⟩) ?_))
    | (refine And.intro (Ob.mk ⟨rfl, rfl⟩) ?_)
    | (with_reducible refine Or.inr ?_)
    | (refine And.intro (Ob.mk (flat_of rfl)) ?_)
    | (with_reducible refine And.intro (Ob.mk (Flat.map ?_)) ?_; exact fun _ => rfl)
    | (with_reducible exact Ob.mk (Flat.map fun _ => rfl))
    | (with_reducible refine And.intro ?_ ?_)
    | (with_reducible apply exG.mk) | (with_reducible apply exGS.mk) | (with_reducible exact Dd.nil) | (refine Dd.same _ ?_) | (refine Dd.dead _ ?_) | (with_reducible apply exQ.mk) | (with_reducible apply exP.mk) | (refine EqP.mk rfl rfl) | (with_reducible apply exW.mk) | (refine EqW.mk rfl)
    | (with_reducible intro _) | (with_reducible refine Dn.mk ?_)
    | (refine exS.full (by first | rfl | (simp; done) | (simp; omega)) ?_)
    | (refine And.intro (Ob.mk ⟨rfl, rfl, by first | rfl | (simp; done) | (simp; omega)⟩) ?_)
    | (with_reducible refine exE.mapD ?_) | (refine exL.int ?_)
    | (with_reducible refine Up0.mk rfl ?_) | (with_reducible refine Up0i.mk rfl ?_) | (with_reducible refine Up1.mk rfl ?_) | (with_reducible refine Up1i.mk rfl ?_) | (with_reducible refine Up2.mk rfl ?_) | (with_reducible refine Up2i.mk rfl ?_)
    | (refine Col.mk rfl rfl rfl ?_) | (refine Coli.mk rfl rfl rfl rfl ?_)
    | (refine copy6k _ (Ob.mk hm) ?_)
    | (refine copy11f _ (Ob.mk hm) ?_)
    | (refine same9f _ ?_)
    | (refine PCalls.mono live10 ?_; rintro _ rfl)
    | (refine ICalls.frame [5, 6, 7] rfl (spoils12k _ ?_))
    | (refine ICalls.frame [1, 2, 3] rfl (spoils12k _ ?_)))
  all_goals (try (refine Ob.mk ?_; first | assumption | exact ⟨rfl, rfl⟩ | exact ⟨rfl, rfl, rfl⟩ | (refine ⟨rfl, rfl, ?_⟩; simp only [List.length_map, List.length_take, List.length_append, els_len, List.length_replicate]; omega) | (intro h; exact h) | (intro h; rw [h]; rfl) | (intro h; simp_all; done) | (refine bytes_le (n := 1048577) ?_ rfl; simp only [ltI_iff, ltI_not, leI_iff, leI_not, eqI_iff, eqI_not, List.length_map, bif_and, bif_or, Bool.and_eq_true, Bool.and_eq_false_iff, Bool.or_eq_true, Bool.or_eq_false_iff, Bool.not_eq_true', Bool.not_eq_false', Int.toNat_natCast, beq_iff_eq, beq_eq_false_iff_ne, decide_eq_true_eq, decide_eq_false_iff_not, bel_iff, bel_not, wthn_iff, wthn_not, els_len, mixL_len, Nat.zero_add, List.length_set, List.length_take] at *; omega) | (simp only [ltI_iff, ltI_not, leI_iff, leI_not, eqI_iff, eqI_not, List.length_map, bif_and, bif_or, Bool.and_eq_true, Bool.and_eq_false_iff, Bool.or_eq_true, Bool.or_eq_false_iff, Bool.not_eq_true', Bool.not_eq_false', Int.toNat_natCast, beq_iff_eq, beq_eq_false_iff_ne, decide_eq_true_eq, decide_eq_false_iff_not, bel_iff, bel_not, wthn_iff, wthn_not, els_len, mixL_len, Nat.zero_add, List.length_set, List.length_take, Int.ofNat_eq_natCast] at *; omega)))
  all_goals (first | exact Dd.nil | exact rfl)
end Go.Proofs.Ytihebfhhnoneiaa.Am
