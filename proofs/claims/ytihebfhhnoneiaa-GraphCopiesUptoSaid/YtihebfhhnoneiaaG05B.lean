/- What the document's answer has of one instruction. -/
import Derived.Test.YtihebfhhnoneiaaG05A
namespace Go.Proofs.Ytihebfhhnoneiaa.Am
open Go Go.Proofs
set_option maxRecDepth 10000
set_option maxHeartbeats 2000000
set_option linter.unusedVariables false
set_option linter.unusedSimpArgs false

def kindN (op : Int) : Int := if op = 1 then 1 else if 2 ≤ op ∧ op ≤ 5 then 2 else if 6 ≤ op ∧ op ≤ 24 then 3 else if 25 ≤ op ∧ op ≤ 29 then op - 21 else if op = 30 then 9 else if op = 31 ∨ op = 32 then 10 else 0

theorem kind56 (op : Int) : PCalls Try.prog 56 [.int .i64 op] (fun r => r = .int .i64 (kindN op)) := by
  refine PCalls.of_body ttOk Try.func56 rfl ?_
  repeat' ((conv => whnf); first
    | (with_reducible refine onBool_intro (fun _ => ?_) (fun _ => ?_))
    | (with_reducible refine And.intro (Ob.mk (Nat.le_of_ble_eq_true rfl)) ?_)
    | (with_reducible refine And.intro (Ob.mk rfl) ?_)
    | (with_reducible exact ⟨rfl, rfl⟩)
    | (with_reducible refine And.intro (Ob.mk (fun h => h)) ?_)
    | (with_reducible refine Or.inl (And.intro (Ob.mk (Flat.map ?_)) ?_); exact fun _ => rfl)
    | (refine Or.inl (And.intro (Ob.mk (flat_of rfl)) ?_))
    | (refine Or.inl (And.intro (Ob.mk ⟨rfl, rfl, rfl, rfl⟩) ?_))
    | (refine Or.inl (And.intro (Ob.mk ⟨rfl, rfl, rfl⟩) ?_))
    | (refine And.intro (Ob.mk ⟨rfl, rfl⟩) ?_)
    | (with_reducible refine Or.inr ?_)
    | (refine And.intro (Ob.mk (flat_of rfl)) ?_)
    | (with_reducible refine And.intro (Ob.mk (Flat.map ?_)) ?_; exact fun _ => rfl)
    | (with_reducible exact Ob.mk (Flat.map fun _ => rfl))
    | (with_reducible refine And.intro ?_ ?_)
    | (with_reducible apply exG.mk) | (with_reducible apply exGS.mk) | (with_reducible exact Dd.nil) | (refine Dd.same _ ?_) | (refine Dd.dead _ ?_) | (with_reducible apply exQ.mk) | (with_reducible apply exP.mk) | (refine EqP.mk rfl rfl) | (with_reducible apply exW.mk) | (refine EqW.mk rfl)
    | (with_reducible intro _) | (with_reducible refine Dn.mk ?_)
    | (refine exS.full (by first | rfl | (simp; done) | (simp; omega)) ?_)
    | (refine And.intro (Ob.mk ⟨rfl, rfl, by first | rfl | (simp; done) | (simp; omega)⟩) ?_)
    | (with_reducible refine exE.mapD ?_) | (refine exL.int ?_)
    | (with_reducible refine Up0.mk rfl ?_) | (with_reducible refine Up0i.mk rfl ?_) | (with_reducible refine Up1.mk rfl ?_) | (with_reducible refine Up1i.mk rfl ?_) | (with_reducible refine Up2.mk rfl ?_) | (with_reducible refine Up2i.mk rfl ?_)
    | (refine Col.mk rfl rfl rfl ?_) | (refine Coli.mk rfl rfl rfl rfl ?_))
  all_goals (try (refine Ob.mk ?_; first | assumption | exact ⟨rfl, rfl⟩ | exact ⟨rfl, rfl, rfl⟩ | (refine ⟨rfl, rfl, ?_⟩; simp only [List.length_map, List.length_take, List.length_append, els_len, List.length_replicate]; omega) | (intro h; exact h) | (intro h; rw [h]; rfl) | (intro h; simp_all; done) | (refine bytes_le (n := 1048577) ?_ rfl; simp only [ltI_iff, ltI_not, leI_iff, leI_not, eqI_iff, eqI_not, List.length_map, bif_and, bif_or, Bool.and_eq_true, Bool.and_eq_false_iff, Bool.or_eq_true, Bool.or_eq_false_iff, Bool.not_eq_true', Bool.not_eq_false', Int.toNat_natCast, beq_iff_eq, beq_eq_false_iff_ne, decide_eq_true_eq, decide_eq_false_iff_not, bel_iff, bel_not, wthn_iff, wthn_not, els_len, mixL_len, Nat.zero_add, List.length_set, List.length_take] at *; omega) | (simp only [ltI_iff, ltI_not, leI_iff, leI_not, eqI_iff, eqI_not, List.length_map, bif_and, bif_or, Bool.and_eq_true, Bool.and_eq_false_iff, Bool.or_eq_true, Bool.or_eq_false_iff, Bool.not_eq_true', Bool.not_eq_false', Int.toNat_natCast, beq_iff_eq, beq_eq_false_iff_ne, decide_eq_true_eq, decide_eq_false_iff_not, bel_iff, bel_not, wthn_iff, wthn_not, els_len, mixL_len, Nat.zero_add, List.length_set, List.length_take, Int.ofNat_eq_natCast] at *; omega)))
  all_goals
    show T.int _ _ = T.int _ _
    unfold kindN
    (try simp only [bif_and, bif_or, leI_iff, leI_not, eqI_iff, eqI_not, Bool.and_eq_true, Bool.and_eq_false_iff, Bool.or_eq_true, Bool.or_eq_false_iff] at *)
    congr 1
    repeat' split
    all_goals first | rfl | omega | (rw [subI_i64 (by omega) (by omega), addI_i64 (by omega) (by omega)]; omega)

def setsN (x : Ins) : Int := if kindN x.op = 0 ∨ kindN x.op = 5 ∨ kindN x.op = 7 ∨ kindN x.op = 10 then -1 else x.d

theorem sets58 (x : Ins) : PCalls Try.prog 58 [x.t] (fun r => r = .int .i64 (setsN x)) := by
  refine PCalls.of_body ttOk Try.func58 rfl ?_
  repeat' ((conv => whnf); first
    | (with_reducible refine onBool_intro (fun _ => ?_) (fun _ => ?_))
    | (with_reducible refine And.intro (Ob.mk (Nat.le_of_ble_eq_true rfl)) ?_)
    | (with_reducible refine And.intro (Ob.mk rfl) ?_)
    | (with_reducible exact ⟨rfl, rfl⟩)
    | (with_reducible refine And.intro (Ob.mk (fun h => h)) ?_)
    | (with_reducible refine Or.inl (And.intro (Ob.mk (Flat.map ?_)) ?_); exact fun _ => rfl)
    | (refine Or.inl (And.intro (Ob.mk (flat_of rfl)) ?_))
    | (refine Or.inl (And.intro (Ob.mk ⟨rfl, rfl, rfl, rfl⟩) ?_))
    | (refine Or.inl (And.intro (Ob.mk ⟨rfl, rfl, rfl⟩) ?_))
    | (refine And.intro (Ob.mk ⟨rfl, rfl⟩) ?_)
    | (with_reducible refine Or.inr ?_)
    | (refine And.intro (Ob.mk (flat_of rfl)) ?_)
    | (with_reducible refine And.intro (Ob.mk (Flat.map ?_)) ?_; exact fun _ => rfl)
    | (with_reducible exact Ob.mk (Flat.map fun _ => rfl))
    | (with_reducible refine And.intro ?_ ?_)
    | (with_reducible apply exG.mk) | (with_reducible apply exGS.mk) | (with_reducible exact Dd.nil) | (refine Dd.same _ ?_) | (refine Dd.dead _ ?_) | (with_reducible apply exQ.mk) | (with_reducible apply exP.mk) | (refine EqP.mk rfl rfl) | (with_reducible apply exW.mk) | (refine EqW.mk rfl)
    | (with_reducible intro _) | (with_reducible refine Dn.mk ?_)
    | (refine exS.full (by first | rfl | (simp; done) | (simp; omega)) ?_)
    | (refine And.intro (Ob.mk ⟨rfl, rfl, by first | rfl | (simp; done) | (simp; omega)⟩) ?_)
    | (with_reducible refine exE.mapD ?_) | (refine exL.int ?_)
    | (with_reducible refine Up0.mk rfl ?_) | (with_reducible refine Up0i.mk rfl ?_) | (with_reducible refine Up1.mk rfl ?_) | (with_reducible refine Up1i.mk rfl ?_) | (with_reducible refine Up2.mk rfl ?_) | (with_reducible refine Up2i.mk rfl ?_)
    | (refine Col.mk rfl rfl rfl ?_) | (refine Coli.mk rfl rfl rfl rfl ?_)
    | (refine PCalls.mono (kind56 _) ?_; rintro _ rfl))
  all_goals
    show T.int _ _ = T.int _ _
    unfold setsN
    (try simp only [ltI_iff, ltI_not, leI_iff, leI_not, eqI_iff, eqI_not, List.length_map, bif_and, bif_or, Bool.and_eq_true, Bool.and_eq_false_iff, Bool.or_eq_true, Bool.or_eq_false_iff, Bool.not_eq_true', Bool.not_eq_false', Int.toNat_natCast, beq_iff_eq, beq_eq_false_iff_ne, decide_eq_true_eq, decide_eq_false_iff_not] at *)
    congr 1
    repeat' split
    all_goals first | rfl | omega

def paramsN (g : Graph) : Int := ((g.arrays.filter fun a => decide (a.kind = 3)).length : Nat)

theorem params54 (g : Graph) : PCalls Try.prog 54 [g.t] (fun r => r = .int .i64 (paramsN g)) := by
  refine PCalls.of_body ttOk Try.func54 rfl ?_
  repeat' ((conv => whnf); first
    | (with_reducible refine onBool_intro (fun _ => ?_) (fun _ => ?_))
    | (with_reducible refine And.intro (Ob.mk (Nat.le_of_ble_eq_true rfl)) ?_)
    | (with_reducible refine And.intro (Ob.mk rfl) ?_)
    | (with_reducible exact ⟨rfl, rfl⟩)
    | (with_reducible refine And.intro (Ob.mk (fun h => h)) ?_)
    | (with_reducible refine Or.inl (And.intro (Ob.mk (Flat.map ?_)) ?_); exact fun _ => rfl)
    | (refine Or.inl (And.intro (Ob.mk (flat_of rfl)) ?_))
    | (refine Or.inl (And.intro (Ob.mk ⟨rfl, rfl, rfl, rfl⟩) ?_))
    | (refine Or.inl (And.intro (Ob.mk ⟨rfl, rfl, rfl⟩) ?_))
    | (refine And.intro (Ob.mk ⟨rfl, rfl⟩) ?_)
    | (with_reducible refine Or.inr ?_)
    | (refine And.intro (Ob.mk (flat_of rfl)) ?_)
    | (with_reducible refine And.intro (Ob.mk (Flat.map ?_)) ?_; exact fun _ => rfl)
    | (with_reducible exact Ob.mk (Flat.map fun _ => rfl))
    | (with_reducible refine And.intro ?_ ?_)
    | (with_reducible apply exG.mk) | (with_reducible apply exGS.mk) | (with_reducible exact Dd.nil) | (refine Dd.same _ ?_) | (refine Dd.dead _ ?_) | (with_reducible apply exQ.mk) | (with_reducible apply exP.mk) | (refine EqP.mk rfl rfl) | (with_reducible apply exW.mk) | (refine EqW.mk rfl)
    | (with_reducible intro _) | (with_reducible refine Dn.mk ?_)
    | (refine exS.full (by first | rfl | (simp; done) | (simp; omega)) ?_)
    | (refine And.intro (Ob.mk ⟨rfl, rfl, by first | rfl | (simp; done) | (simp; omega)⟩) ?_)
    | (with_reducible refine exE.mapD ?_) | (refine exL.int ?_)
    | (with_reducible refine Up0.mk rfl ?_) | (with_reducible refine Up0i.mk rfl ?_) | (with_reducible refine Up1.mk rfl ?_) | (with_reducible refine Up1i.mk rfl ?_) | (with_reducible refine Up2.mk rfl ?_) | (with_reducible refine Up2i.mk rfl ?_)
    | (refine Col.mk rfl rfl rfl ?_) | (refine Coli.mk rfl rfl rfl rfl ?_))
  conv => whnf
  refine LoopVC.up1 4 3 g.arrays.length (fun i n => n = (((g.arrays.take i).filter fun a => decide (a.kind = 3)).length : Nat)) ?_ ?_
  · repeat' ((conv => whnf); first
    | (with_reducible refine onBool_intro (fun _ => ?_) (fun _ => ?_))
    | (with_reducible refine And.intro (Ob.mk (Nat.le_of_ble_eq_true rfl)) ?_)
    | (with_reducible refine And.intro (Ob.mk rfl) ?_)
    | (with_reducible exact ⟨rfl, rfl⟩)
    | (with_reducible refine And.intro (Ob.mk (fun h => h)) ?_)
    | (with_reducible refine Or.inl (And.intro (Ob.mk (Flat.map ?_)) ?_); exact fun _ => rfl)
    | (refine Or.inl (And.intro (Ob.mk (flat_of rfl)) ?_))
    | (refine Or.inl (And.intro (Ob.mk ⟨rfl, rfl, rfl, rfl⟩) ?_))
    | (refine Or.inl (And.intro (Ob.mk ⟨rfl, rfl, rfl⟩) ?_))
    | (refine And.intro (Ob.mk ⟨rfl, rfl⟩) ?_)
    | (with_reducible refine Or.inr ?_)
    | (refine And.intro (Ob.mk (flat_of rfl)) ?_)
    | (with_reducible refine And.intro (Ob.mk (Flat.map ?_)) ?_; exact fun _ => rfl)
    | (with_reducible exact Ob.mk (Flat.map fun _ => rfl))
    | (with_reducible refine And.intro ?_ ?_)
    | (with_reducible apply exG.mk) | (with_reducible apply exGS.mk) | (with_reducible exact Dd.nil) | (refine Dd.same _ ?_) | (refine Dd.dead _ ?_) | (with_reducible apply exQ.mk) | (with_reducible apply exP.mk) | (refine EqP.mk rfl rfl) | (with_reducible apply exW.mk) | (refine EqW.mk rfl)
    | (with_reducible intro _) | (with_reducible refine Dn.mk ?_)
    | (refine exS.full (by first | rfl | (simp; done) | (simp; omega)) ?_)
    | (refine And.intro (Ob.mk ⟨rfl, rfl, by first | rfl | (simp; done) | (simp; omega)⟩) ?_)
    | (with_reducible refine exE.mapD ?_) | (refine exL.int ?_)
    | (with_reducible refine Up0.mk rfl ?_) | (with_reducible refine Up0i.mk rfl ?_) | (with_reducible refine Up1.mk rfl ?_) | (with_reducible refine Up1i.mk rfl ?_) | (with_reducible refine Up2.mk rfl ?_) | (with_reducible refine Up2i.mk rfl ?_)
    | (refine Col.mk rfl rfl rfl ?_) | (refine Coli.mk rfl rfl rfl rfl ?_))
    exact Ob.mk rfl
  · intro i n hi he
    have hle := List.length_filter_le (fun a : Arr => decide (a.kind = 3)) (g.arrays.take i)
    rw [List.length_take, Nat.min_eq_left hi] at hle
    repeat' ((conv => whnf); first
    | (with_reducible refine onBool_intro (fun _ => ?_) (fun _ => ?_))
    | (with_reducible refine And.intro (Ob.mk (Nat.le_of_ble_eq_true rfl)) ?_)
    | (with_reducible refine And.intro (Ob.mk rfl) ?_)
    | (with_reducible exact ⟨rfl, rfl⟩)
    | (with_reducible refine And.intro (Ob.mk (fun h => h)) ?_)
    | (with_reducible refine Or.inl (And.intro (Ob.mk (Flat.map ?_)) ?_); exact fun _ => rfl)
    | (refine Or.inl (And.intro (Ob.mk (flat_of rfl)) ?_))
    | (refine Or.inl (And.intro (Ob.mk ⟨rfl, rfl, rfl, rfl⟩) ?_))
    | (refine Or.inl (And.intro (Ob.mk ⟨rfl, rfl, rfl⟩) ?_))
    | (refine And.intro (Ob.mk ⟨rfl, rfl⟩) ?_)
    | (with_reducible refine Or.inr ?_)
    | (refine And.intro (Ob.mk (flat_of rfl)) ?_)
    | (with_reducible refine And.intro (Ob.mk (Flat.map ?_)) ?_; exact fun _ => rfl)
    | (with_reducible exact Ob.mk (Flat.map fun _ => rfl))
    | (with_reducible refine And.intro ?_ ?_)
    | (with_reducible apply exG.mk) | (with_reducible apply exGS.mk) | (with_reducible exact Dd.nil) | (refine Dd.same _ ?_) | (refine Dd.dead _ ?_) | (with_reducible apply exQ.mk) | (with_reducible apply exP.mk) | (refine EqP.mk rfl rfl) | (with_reducible apply exW.mk) | (refine EqW.mk rfl)
    | (with_reducible intro _) | (with_reducible refine Dn.mk ?_)
    | (refine exS.full (by first | rfl | (simp; done) | (simp; omega)) ?_)
    | (refine And.intro (Ob.mk ⟨rfl, rfl, by first | rfl | (simp; done) | (simp; omega)⟩) ?_)
    | (with_reducible refine exE.mapD ?_) | (refine exL.int ?_)
    | (with_reducible refine Up0.mk rfl ?_) | (with_reducible refine Up0i.mk rfl ?_) | (with_reducible refine Up1.mk rfl ?_) | (with_reducible refine Up1i.mk rfl ?_) | (with_reducible refine Up2.mk rfl ?_) | (with_reducible refine Up2i.mk rfl ?_)
    | (refine Col.mk rfl rfl rfl ?_) | (refine Coli.mk rfl rfl rfl rfl ?_))
    all_goals (try (refine Ob.mk ?_; first | assumption | exact ⟨rfl, rfl⟩ | exact ⟨rfl, rfl, rfl⟩ | (refine ⟨rfl, rfl, ?_⟩; simp only [List.length_map, List.length_take, List.length_append, els_len, List.length_replicate]; omega) | (intro h; exact h) | (intro h; rw [h]; rfl) | (intro h; simp_all; done) | (refine bytes_le (n := 1048577) ?_ rfl; simp only [ltI_iff, ltI_not, leI_iff, leI_not, eqI_iff, eqI_not, List.length_map, bif_and, bif_or, Bool.and_eq_true, Bool.and_eq_false_iff, Bool.or_eq_true, Bool.or_eq_false_iff, Bool.not_eq_true', Bool.not_eq_false', Int.toNat_natCast, beq_iff_eq, beq_eq_false_iff_ne, decide_eq_true_eq, decide_eq_false_iff_not, bel_iff, bel_not, wthn_iff, wthn_not, els_len, mixL_len, Nat.zero_add, List.length_set, List.length_take] at *; omega) | (simp only [ltI_iff, ltI_not, leI_iff, leI_not, eqI_iff, eqI_not, List.length_map, bif_and, bif_or, Bool.and_eq_true, Bool.and_eq_false_iff, Bool.or_eq_true, Bool.or_eq_false_iff, Bool.not_eq_true', Bool.not_eq_false', Int.toNat_natCast, beq_iff_eq, beq_eq_false_iff_ne, decide_eq_true_eq, decide_eq_false_iff_not, bel_iff, bel_not, wthn_iff, wthn_not, els_len, mixL_len, Nat.zero_add, List.length_set, List.length_take, Int.ofNat_eq_natCast] at *; omega)))
    · rename_i h1 h2 h3
      simp only [ltI_iff, ltI_not, leI_iff, leI_not, eqI_iff, eqI_not, List.length_map, bif_and, bif_or, Bool.and_eq_true, Bool.and_eq_false_iff, Bool.or_eq_true, Bool.or_eq_false_iff, Bool.not_eq_true', Bool.not_eq_false', Int.toNat_natCast, beq_iff_eq, beq_eq_false_iff_ne, decide_eq_true_eq, decide_eq_false_iff_not] at *
      refine Ob.mk ⟨by omega, addI_i64 (by omega) (by omega), ?_⟩
      rw [take_succ_nthD (by omega), List.filter_append, addI_i64 (by omega) (by omega)]
      simp [h3, he]
    · rename_i h1 h2 h3
      simp only [ltI_iff, ltI_not, leI_iff, leI_not, eqI_iff, eqI_not, List.length_map, bif_and, bif_or, Bool.and_eq_true, Bool.and_eq_false_iff, Bool.or_eq_true, Bool.or_eq_false_iff, Bool.not_eq_true', Bool.not_eq_false', Int.toNat_natCast, beq_iff_eq, beq_eq_false_iff_ne, decide_eq_true_eq, decide_eq_false_iff_not] at *
      refine Ob.mk ⟨by omega, addI_i64 (by omega) (by omega), ?_⟩
      rw [take_succ_nthD (by omega), List.filter_append]
      simp [h3, he]
    · rename_i h1 h2
      simp only [ltI_iff, ltI_not, leI_iff, leI_not, eqI_iff, eqI_not, List.length_map, bif_and, bif_or, Bool.and_eq_true, Bool.and_eq_false_iff, Bool.or_eq_true, Bool.or_eq_false_iff, Bool.not_eq_true', Bool.not_eq_false', Int.toNat_natCast, beq_iff_eq, beq_eq_false_iff_ne, decide_eq_true_eq, decide_eq_false_iff_not] at *
      rw [List.take_of_length_le (by omega)] at he
      show T.int _ _ = T.int _ _
      rw [he]; rfl

def usesN (x : Ins) : List Int :=
  if kindN x.op = 2 ∨ kindN x.op = 5 ∨ kindN x.op = 6 ∨ kindN x.op = 10 then [x.a] else if kindN x.op = 3 ∨ kindN x.op = 7 then [x.a, x.b] else if kindN x.op = 8 then x.args else []

theorem uses60 (x : Ins) (hx : x.args.length ≤ 2 ^ 20) : PCalls Try.prog 60 [x.t] (fun r => r = ilist (usesN x)) := by
  refine PCalls.coarse ?_
  refine PCalls.of_body ttOk Try.func60 rfl ?_
  repeat' ((conv => whnf); first
    | (with_reducible refine onBool_intro (fun _ => ?_) (fun _ => ?_))
    | (with_reducible refine And.intro (Ob.mk (Nat.le_of_ble_eq_true rfl)) ?_)
    | (with_reducible refine And.intro (Ob.mk rfl) ?_)
    | (with_reducible exact ⟨rfl, rfl⟩)
    | (with_reducible refine And.intro (Ob.mk (fun h => h)) ?_)
    | (with_reducible refine Or.inl (And.intro (Ob.mk (Flat.map ?_)) ?_); exact fun _ => rfl)
    | (refine Or.inl (And.intro (Ob.mk (flat_of rfl)) ?_))
    | (refine Or.inl (And.intro (Ob.mk ⟨rfl, rfl, rfl, rfl⟩) ?_))
    | (refine Or.inl (And.intro (Ob.mk ⟨rfl, rfl, rfl⟩) ?_))
    | (refine And.intro (Ob.mk ⟨rfl, rfl⟩) ?_)
    | (with_reducible refine Or.inr ?_)
    | (refine And.intro (Ob.mk (flat_of rfl)) ?_)
    | (with_reducible refine And.intro (Ob.mk (Flat.map ?_)) ?_; exact fun _ => rfl)
    | (with_reducible exact Ob.mk (Flat.map fun _ => rfl))
    | (with_reducible refine And.intro ?_ ?_)
    | (with_reducible apply exG.mk) | (with_reducible apply exGS.mk) | (with_reducible exact Dd.nil) | (refine Dd.same _ ?_) | (refine Dd.dead _ ?_) | (with_reducible apply exQ.mk) | (with_reducible apply exP.mk) | (refine EqP.mk rfl rfl) | (with_reducible apply exW.mk) | (refine EqW.mk rfl)
    | (with_reducible intro _) | (with_reducible refine Dn.mk ?_)
    | (refine exS.full (by first | rfl | (simp; done) | (simp; omega)) ?_)
    | (refine And.intro (Ob.mk ⟨rfl, rfl, by first | rfl | (simp; done) | (simp; omega)⟩) ?_)
    | (with_reducible refine exE.mapD ?_) | (refine exL.int ?_)
    | (with_reducible refine Up0.mk rfl ?_) | (with_reducible refine Up0i.mk rfl ?_) | (with_reducible refine Up1.mk rfl ?_) | (with_reducible refine Up1i.mk rfl ?_) | (with_reducible refine Up2.mk rfl ?_) | (with_reducible refine Up2i.mk rfl ?_)
    | (refine Col.mk rfl rfl rfl ?_) | (refine Coli.mk rfl rfl rfl rfl ?_)
    | (refine PCalls.mono (kind56 _) ?_; rintro _ rfl))
  all_goals (try (refine Ob.mk ?_; first | assumption | exact ⟨rfl, rfl⟩ | exact ⟨rfl, rfl, rfl⟩ | (refine ⟨rfl, rfl, ?_⟩; simp only [List.length_map, List.length_take, List.length_append, els_len, List.length_replicate]; omega) | (intro h; exact h) | (intro h; rw [h]; rfl) | (intro h; simp_all; done) | (refine bytes_le (n := 1048577) ?_ rfl; simp only [ltI_iff, ltI_not, leI_iff, leI_not, eqI_iff, eqI_not, List.length_map, bif_and, bif_or, Bool.and_eq_true, Bool.and_eq_false_iff, Bool.or_eq_true, Bool.or_eq_false_iff, Bool.not_eq_true', Bool.not_eq_false', Int.toNat_natCast, beq_iff_eq, beq_eq_false_iff_ne, decide_eq_true_eq, decide_eq_false_iff_not, bel_iff, bel_not, wthn_iff, wthn_not, els_len, mixL_len, Nat.zero_add, List.length_set, List.length_take] at *; omega) | (simp only [ltI_iff, ltI_not, leI_iff, leI_not, eqI_iff, eqI_not, List.length_map, bif_and, bif_or, Bool.and_eq_true, Bool.and_eq_false_iff, Bool.or_eq_true, Bool.or_eq_false_iff, Bool.not_eq_true', Bool.not_eq_false', Int.toNat_natCast, beq_iff_eq, beq_eq_false_iff_ne, decide_eq_true_eq, decide_eq_false_iff_not, bel_iff, bel_not, wthn_iff, wthn_not, els_len, mixL_len, Nat.zero_add, List.length_set, List.length_take, Int.ofNat_eq_natCast] at *; omega)))
  all_goals
    show Le _ _
    (try simp only [eqI_iff, eqI_not] at *)
    simp [usesN, *, ilist, List.take_of_length_le]
    first | exact Le.refl _ | exact Le.nsl _

def eUsesN (x : End) : List Int := if x.kind = 2 then [x.a, x.b] else if x.kind = 3 ∨ x.kind = 4 then [x.a] else if x.kind = 5 ∧ x.a ≠ -1 then [x.a] else []

theorem endUses61 (x : End) : PCalls Try.prog 61 [x.t] (fun r => r = ilist (eUsesN x)) := by
  refine PCalls.coarse ?_
  refine PCalls.of_body ttOk Try.func61 rfl ?_
  repeat' ((conv => whnf); first
    | (with_reducible refine onBool_intro (fun _ => ?_) (fun _ => ?_))
    | (with_reducible refine And.intro (Ob.mk (Nat.le_of_ble_eq_true rfl)) ?_)
    | (with_reducible refine And.intro (Ob.mk rfl) ?_)
    | (with_reducible exact ⟨rfl, rfl⟩)
    | (with_reducible refine And.intro (Ob.mk (fun h => h)) ?_)
    | (with_reducible refine Or.inl (And.intro (Ob.mk (Flat.map ?_)) ?_); exact fun _ => rfl)
    | (refine Or.inl (And.intro (Ob.mk (flat_of rfl)) ?_))
    | (refine Or.inl (And.intro (Ob.mk ⟨rfl, rfl, rfl, rfl⟩) ?_))
    | (refine Or.inl (And.intro (Ob.mk ⟨rfl, rfl, rfl⟩) ?_))
    | (refine And.intro (Ob.mk ⟨rfl, rfl⟩) ?_)
    | (with_reducible refine Or.inr ?_)
    | (refine And.intro (Ob.mk (flat_of rfl)) ?_)
    | (with_reducible refine And.intro (Ob.mk (Flat.map ?_)) ?_; exact fun _ => rfl)
    | (with_reducible exact Ob.mk (Flat.map fun _ => rfl))
    | (with_reducible refine And.intro ?_ ?_)
    | (with_reducible apply exG.mk) | (with_reducible apply exGS.mk) | (with_reducible exact Dd.nil) | (refine Dd.same _ ?_) | (refine Dd.dead _ ?_) | (with_reducible apply exQ.mk) | (with_reducible apply exP.mk) | (refine EqP.mk rfl rfl) | (with_reducible apply exW.mk) | (refine EqW.mk rfl)
    | (with_reducible intro _) | (with_reducible refine Dn.mk ?_)
    | (refine exS.full (by first | rfl | (simp; done) | (simp; omega)) ?_)
    | (refine And.intro (Ob.mk ⟨rfl, rfl, by first | rfl | (simp; done) | (simp; omega)⟩) ?_)
    | (with_reducible refine exE.mapD ?_) | (refine exL.int ?_)
    | (with_reducible refine Up0.mk rfl ?_) | (with_reducible refine Up0i.mk rfl ?_) | (with_reducible refine Up1.mk rfl ?_) | (with_reducible refine Up1i.mk rfl ?_) | (with_reducible refine Up2.mk rfl ?_) | (with_reducible refine Up2i.mk rfl ?_)
    | (refine Col.mk rfl rfl rfl ?_) | (refine Coli.mk rfl rfl rfl rfl ?_))
  all_goals (try (refine Ob.mk ?_; first | assumption | exact ⟨rfl, rfl⟩ | exact ⟨rfl, rfl, rfl⟩ | (refine ⟨rfl, rfl, ?_⟩; simp only [List.length_map, List.length_take, List.length_append, els_len, List.length_replicate]; omega) | (intro h; exact h) | (intro h; rw [h]; rfl) | (intro h; simp_all; done) | (refine bytes_le (n := 1048577) ?_ rfl; simp only [ltI_iff, ltI_not, leI_iff, leI_not, eqI_iff, eqI_not, List.length_map, bif_and, bif_or, Bool.and_eq_true, Bool.and_eq_false_iff, Bool.or_eq_true, Bool.or_eq_false_iff, Bool.not_eq_true', Bool.not_eq_false', Int.toNat_natCast, beq_iff_eq, beq_eq_false_iff_ne, decide_eq_true_eq, decide_eq_false_iff_not, bel_iff, bel_not, wthn_iff, wthn_not, els_len, mixL_len, Nat.zero_add, List.length_set, List.length_take] at *; omega) | (simp only [ltI_iff, ltI_not, leI_iff, leI_not, eqI_iff, eqI_not, List.length_map, bif_and, bif_or, Bool.and_eq_true, Bool.and_eq_false_iff, Bool.or_eq_true, Bool.or_eq_false_iff, Bool.not_eq_true', Bool.not_eq_false', Int.toNat_natCast, beq_iff_eq, beq_eq_false_iff_ne, decide_eq_true_eq, decide_eq_false_iff_not, bel_iff, bel_not, wthn_iff, wthn_not, els_len, mixL_len, Nat.zero_add, List.length_set, List.length_take, Int.ofNat_eq_natCast] at *; omega)))
  all_goals
    show Le _ _
    (try simp only [eqI_iff, eqI_not, Bool.not_eq_true', Bool.not_eq_false'] at *)
    simp [eUsesN, *, ilist, List.take_of_length_le]
    first | exact Le.refl _ | exact Le.nsl _

def plainN (x : Ins) : Bool :=
  !((decide (kindN x.op = 5 ∨ kindN x.op = 7 ∨ kindN x.op = 10) && decide (x.d ≠ 0)) || (decide (kindN x.op = 1 ∨ kindN x.op = 4 ∨ kindN x.op = 8 ∨ kindN x.op = 9) && decide (x.a ≠ 0)) ||
    (decide (kindN x.op ≠ 3 ∧ kindN x.op ≠ 7) && decide (x.b ≠ 0)) || (decide (kindN x.op < 4 ∨ kindN x.op > 8) && decide (x.f ≠ 0)) || (decide (kindN x.op ≠ 1) && decide (x.n ≠ 0))) &&
  (decide (kindN x.op = 8) || (decide (x.args.length = 0) && decide (x.arrs.length = 0)))

theorem plain57 (x : Ins) : PCalls Try.prog 57 [x.t] (fun r => r = .bool (plainN x)) := by
  refine PCalls.of_body ttOk Try.func57 rfl ?_
  repeat' ((conv => whnf); first
    | (with_reducible refine onBool_intro (fun _ => ?_) (fun _ => ?_))
    | (with_reducible refine And.intro (Ob.mk (Nat.le_of_ble_eq_true rfl)) ?_)
    | (with_reducible refine And.intro (Ob.mk rfl) ?_)
    | (with_reducible exact ⟨rfl, rfl⟩)
    | (with_reducible refine And.intro (Ob.mk (fun h => h)) ?_)
    | (with_reducible refine Or.inl (And.intro (Ob.mk (Flat.map ?_)) ?_); exact fun _ => rfl)
    | (refine Or.inl (And.intro (Ob.mk (flat_of rfl)) ?_))
    | (refine Or.inl (And.intro (Ob.mk ⟨rfl, rfl, rfl, rfl⟩) ?_))
    | (refine Or.inl (And.intro (Ob.mk ⟨rfl, rfl, rfl⟩) ?_))
    | (refine And.intro (Ob.mk ⟨rfl, rfl⟩) ?_)
    | (with_reducible refine Or.inr ?_)
    | (refine And.intro (Ob.mk (flat_of rfl)) ?_)
    | (with_reducible refine And.intro (Ob.mk (Flat.map ?_)) ?_; exact fun _ => rfl)
    | (with_reducible exact Ob.mk (Flat.map fun _ => rfl))
    | (with_reducible refine And.intro ?_ ?_)
    | (with_reducible apply exG.mk) | (with_reducible apply exGS.mk) | (with_reducible exact Dd.nil) | (refine Dd.same _ ?_) | (refine Dd.dead _ ?_) | (with_reducible apply exQ.mk) | (with_reducible apply exP.mk) | (refine EqP.mk rfl rfl) | (with_reducible apply exW.mk) | (refine EqW.mk rfl)
    | (with_reducible intro _) | (with_reducible refine Dn.mk ?_)
    | (refine exS.full (by first | rfl | (simp; done) | (simp; omega)) ?_)
    | (refine And.intro (Ob.mk ⟨rfl, rfl, by first | rfl | (simp; done) | (simp; omega)⟩) ?_)
    | (with_reducible refine exE.mapD ?_) | (refine exL.int ?_)
    | (with_reducible refine Up0.mk rfl ?_) | (with_reducible refine Up0i.mk rfl ?_) | (with_reducible refine Up1.mk rfl ?_) | (with_reducible refine Up1i.mk rfl ?_) | (with_reducible refine Up2.mk rfl ?_) | (with_reducible refine Up2i.mk rfl ?_)
    | (refine Col.mk rfl rfl rfl ?_) | (refine Coli.mk rfl rfl rfl rfl ?_)
    | (refine PCalls.mono (kind56 _) ?_; rintro _ rfl))
  all_goals (try (refine Ob.mk ?_; first | assumption | exact ⟨rfl, rfl⟩ | exact ⟨rfl, rfl, rfl⟩ | (refine ⟨rfl, rfl, ?_⟩; simp only [List.length_map, List.length_take, List.length_append, els_len, List.length_replicate]; omega) | (intro h; exact h) | (intro h; rw [h]; rfl) | (intro h; simp_all; done) | (refine bytes_le (n := 1048577) ?_ rfl; simp only [ltI_iff, ltI_not, leI_iff, leI_not, eqI_iff, eqI_not, List.length_map, bif_and, bif_or, Bool.and_eq_true, Bool.and_eq_false_iff, Bool.or_eq_true, Bool.or_eq_false_iff, Bool.not_eq_true', Bool.not_eq_false', Int.toNat_natCast, beq_iff_eq, beq_eq_false_iff_ne, decide_eq_true_eq, decide_eq_false_iff_not, bel_iff, bel_not, wthn_iff, wthn_not, els_len, mixL_len, Nat.zero_add, List.length_set, List.length_take] at *; omega) | (simp only [ltI_iff, ltI_not, leI_iff, leI_not, eqI_iff, eqI_not, List.length_map, bif_and, bif_or, Bool.and_eq_true, Bool.and_eq_false_iff, Bool.or_eq_true, Bool.or_eq_false_iff, Bool.not_eq_true', Bool.not_eq_false', Int.toNat_natCast, beq_iff_eq, beq_eq_false_iff_ne, decide_eq_true_eq, decide_eq_false_iff_not, bel_iff, bel_not, wthn_iff, wthn_not, els_len, mixL_len, Nat.zero_add, List.length_set, List.length_take, Int.ofNat_eq_natCast] at *; omega)))
  all_goals
    show T.bool _ = T.bool _
    rw [T.bool.injEq, Bool.eq_iff_iff]
    simp only [plainN, ltI_iff, ltI_not, leI_iff, leI_not, eqI_iff, eqI_not, List.length_map, bif_and, bif_or, Bool.and_eq_true, Bool.and_eq_false_iff, Bool.or_eq_true, Bool.or_eq_false_iff, Bool.not_eq_true', Bool.not_eq_false', Int.toNat_natCast, beq_iff_eq, beq_eq_false_iff_ne, decide_eq_true_eq, decide_eq_false_iff_not, bel_iff, bel_not, wthn_iff, wthn_not, Bool.false_eq_true, Bool.not_eq_true, Bool.and_true, Bool.true_and, Bool.and_false, Bool.false_and, reduceCtorEq, true_iff, false_iff, iff_true, iff_false, Bool.not_true, Bool.not_false] at *
    omega
end Go.Proofs.Ytihebfhhnoneiaa.Am
