/- The program's graph: instructions. -/
import Derived.Test.YtihebfhhnoneiaaG05F
namespace Go.Proofs.Ytihebfhhnoneiaa.Am
open Go Go.Proofs
set_option maxRecDepth 10000
set_option linter.unusedVariables false
set_option linter.unusedSimpArgs false
set_option maxHeartbeats 2000000

structure Form where
  (n d a b f l ok : Bool)
def Form.fl (x : Form) : List T := [.bool x.n, .bool x.d, .bool x.a, .bool x.b, .bool x.f, .bool x.l]
def Form.tt2 (x : Form) : T := .tup [.agg [.bool x.n, .bool x.d, .bool x.a, .bool x.b, .bool x.f, .bool x.l], .bool x.ok]
def formN (op : Int) : Form :=
  bif eqI op 1 then ⟨true, true, false, false, false, false, true⟩
  else bif leI 2 op && leI op 5 then ⟨false, true, true, false, false, false, true⟩
  else bif leI 6 op && leI op 24 then ⟨false, true, true, true, false, false, true⟩
  else bif eqI op 25 then ⟨false, true, false, false, true, false, true⟩
  else bif eqI op 26 then ⟨false, false, true, false, true, false, true⟩
  else bif eqI op 27 then ⟨false, true, true, false, true, false, true⟩
  else bif eqI op 28 then ⟨false, false, true, true, true, false, true⟩
  else bif eqI op 29 then ⟨false, true, false, false, true, true, true⟩
  else bif eqI op 30 then ⟨false, true, false, false, false, false, true⟩
  else bif eqI op 31 || eqI op 32 then ⟨false, false, true, false, false, false, true⟩
  else ⟨false, false, false, false, false, false, false⟩

theorem formOf47 (op : Int) : PCalls Try.prog 47 [.int .i64 op] (fun r => r = (formN op).tt2) := by
  refine PCalls.of_body ttOk Try.func47 rfl ?_
  repeat' ((conv => whnf); first
    | (with_reducible refine onBool_intro (fun _ => ?_) (fun _ => ?_))
    | (with_reducible refine And.intro (Ob.mk (Nat.le_of_ble_eq_true rfl)) ?_)
    | (with_reducible refine And.intro (Ob.mk rfl) ?_)
    | (with_reducible exact ⟨rfl, rfl⟩)
    | (with_reducible refine And.intro (Ob.mk (fun h => h)) ?_)
    | (with_reducible refine Or.inl (And.intro (Ob.mk (Flat.map ?_)) ?_); exact fun _ => rfl)
    | (refine Or.inl (And.intro (Ob.mk (flat_of rfl)) ?_))
    | (refine Or.inl (And.intro (Ob.mk ⟨rfl, rfl, rfl, rfl⟩) ?_))
    | (refine Or.inl (And.intro (Ob.mk ⟨rfl, rfl, rfl⟩) ?_))
    | (refine And.intro (Ob.mk ⟨rfl, rfl⟩) ?_)
    | (with_reducible refine Or.inr ?_)
    | (refine And.intro (Ob.mk (flat_of rfl)) ?_)
    | (with_reducible refine And.intro (Ob.mk (Flat.map ?_)) ?_; exact fun _ => rfl)
    | (with_reducible exact Ob.mk (Flat.map fun _ => rfl))
    | (with_reducible refine And.intro ?_ ?_)
    | (with_reducible apply exG.mk) | (with_reducible apply exGS.mk) | (with_reducible exact Dd.nil) | (refine Dd.same _ ?_) | (refine Dd.dead _ ?_) | (with_reducible apply exQ.mk) | (with_reducible apply exP.mk) | (refine EqP.mk rfl rfl) | (with_reducible apply exW.mk) | (refine EqW.mk rfl)
    | (with_reducible intro _) | (with_reducible refine Dn.mk ?_)
    | (refine exS.full (by first | rfl | (simp; done) | (simp; omega)) ?_)
    | (refine And.intro (Ob.mk ⟨rfl, rfl, by first | rfl | (simp; done) | (simp; omega)⟩) ?_)
    | (with_reducible refine exE.mapD ?_) | (refine exL.int ?_)
    | (with_reducible refine Up0.mk rfl ?_) | (with_reducible refine Up0i.mk rfl ?_) | (with_reducible refine Up1.mk rfl ?_) | (with_reducible refine Up1i.mk rfl ?_) | (with_reducible refine Up2.mk rfl ?_) | (with_reducible refine Up2i.mk rfl ?_)
    | (refine Col.mk rfl rfl rfl ?_) | (refine Coli.mk rfl rfl rfl rfl ?_))
  all_goals (try (refine Ob.mk ?_; first | assumption | exact ⟨rfl, rfl⟩ | exact ⟨rfl, rfl, rfl⟩ | (refine ⟨rfl, rfl, ?_⟩; simp only [List.length_map, List.length_take, List.length_append, els_len, List.length_replicate]; omega) | (intro h; exact h) | (intro h; rw [h]; rfl) | (intro h; simp_all; done) | (refine bytes_le (n := 1048577) ?_ rfl; simp only [ltI_iff, ltI_not, leI_iff, leI_not, eqI_iff, eqI_not, List.length_map, bif_and, bif_or, Bool.and_eq_true, Bool.and_eq_false_iff, Bool.or_eq_true, Bool.or_eq_false_iff, Bool.not_eq_true', Bool.not_eq_false', Int.toNat_natCast, beq_iff_eq, beq_eq_false_iff_ne, decide_eq_true_eq, decide_eq_false_iff_not, bel_iff, bel_not, wthn_iff, wthn_not, els_len, mixL_len, Nat.zero_add, List.length_set, List.length_take] at *; omega) | (simp only [ltI_iff, ltI_not, leI_iff, leI_not, eqI_iff, eqI_not, List.length_map, bif_and, bif_or, Bool.and_eq_true, Bool.and_eq_false_iff, Bool.or_eq_true, Bool.or_eq_false_iff, Bool.not_eq_true', Bool.not_eq_false', Int.toNat_natCast, beq_iff_eq, beq_eq_false_iff_ne, decide_eq_true_eq, decide_eq_false_iff_not, bel_iff, bel_not, wthn_iff, wthn_not, els_len, mixL_len, Nat.zero_add, List.length_set, List.length_take, Int.ofNat_eq_natCast] at *; omega)))
  all_goals
    simp only [bif_and, bif_or] at *
    show T.tup _ = (formN op).tt2
    simp only [formN, cond_true, cond_false, *]
    rfl

def keptN (x : Ins) (f : Form) : T := .agg [.int .i64 x.op, .int .i64 (bif f.d then x.d else 0), .int .i64 (bif f.a then x.a else 0), .int .i64 (bif f.b then x.b else 0), .int .i64 (bif f.f then x.f else 0), .int .u32 (bif f.n then x.n else 0)]

theorem kept48 (x : Ins) (f : Form) : PCalls Try.prog 48 [x.t, .agg [.bool f.n, .bool f.d, .bool f.a, .bool f.b, .bool f.f, .bool f.l]] (fun r => r = keptN x f) := by
  refine PCalls.of_body ttOk Try.func48 rfl ?_
  repeat' ((conv => whnf); first
    | (with_reducible refine onBool_intro (fun _ => ?_) (fun _ => ?_))
    | (with_reducible refine And.intro (Ob.mk (Nat.le_of_ble_eq_true rfl)) ?_)
    | (with_reducible refine And.intro (Ob.mk rfl) ?_)
    | (with_reducible exact ⟨rfl, rfl⟩)
    | (with_reducible refine And.intro (Ob.mk (fun h => h)) ?_)
    | (with_reducible refine Or.inl (And.intro (Ob.mk (Flat.map ?_)) ?_); exact fun _ => rfl)
    | (refine Or.inl (And.intro (Ob.mk (flat_of rfl)) ?_))
    | (refine Or.inl (And.intro (Ob.mk ⟨rfl, rfl, rfl, rfl⟩) ?_))
    | (refine Or.inl (And.intro (Ob.mk ⟨rfl, rfl, rfl⟩) ?_))
    | (refine And.intro (Ob.mk ⟨rfl, rfl⟩) ?_)
    | (with_reducible refine Or.inr ?_)
    | (refine And.intro (Ob.mk (flat_of rfl)) ?_)
    | (with_reducible refine And.intro (Ob.mk (Flat.map ?_)) ?_; exact fun _ => rfl)
    | (with_reducible exact Ob.mk (Flat.map fun _ => rfl))
    | (with_reducible refine And.intro ?_ ?_)
    | (with_reducible apply exG.mk) | (with_reducible apply exGS.mk) | (with_reducible exact Dd.nil) | (refine Dd.same _ ?_) | (refine Dd.dead _ ?_) | (with_reducible apply exQ.mk) | (with_reducible apply exP.mk) | (refine EqP.mk rfl rfl) | (with_reducible apply exW.mk) | (refine EqW.mk rfl)
    | (with_reducible intro _) | (with_reducible refine Dn.mk ?_)
    | (refine exS.full (by first | rfl | (simp; done) | (simp; omega)) ?_)
    | (refine And.intro (Ob.mk ⟨rfl, rfl, by first | rfl | (simp; done) | (simp; omega)⟩) ?_)
    | (with_reducible refine exE.mapD ?_) | (refine exL.int ?_)
    | (with_reducible refine Up0.mk rfl ?_) | (with_reducible refine Up0i.mk rfl ?_) | (with_reducible refine Up1.mk rfl ?_) | (with_reducible refine Up1i.mk rfl ?_) | (with_reducible refine Up2.mk rfl ?_) | (with_reducible refine Up2i.mk rfl ?_)
    | (refine Col.mk rfl rfl rfl ?_) | (refine Coli.mk rfl rfl rfl rfl ?_))
  all_goals (try (refine Ob.mk ?_; first | assumption | exact ⟨rfl, rfl⟩ | exact ⟨rfl, rfl, rfl⟩ | (refine ⟨rfl, rfl, ?_⟩; simp only [List.length_map, List.length_take, List.length_append, els_len, List.length_replicate]; omega) | (intro h; exact h) | (intro h; rw [h]; rfl) | (intro h; simp_all; done) | (refine bytes_le (n := 1048577) ?_ rfl; simp only [ltI_iff, ltI_not, leI_iff, leI_not, eqI_iff, eqI_not, List.length_map, bif_and, bif_or, Bool.and_eq_true, Bool.and_eq_false_iff, Bool.or_eq_true, Bool.or_eq_false_iff, Bool.not_eq_true', Bool.not_eq_false', Int.toNat_natCast, beq_iff_eq, beq_eq_false_iff_ne, decide_eq_true_eq, decide_eq_false_iff_not, bel_iff, bel_not, wthn_iff, wthn_not, els_len, mixL_len, Nat.zero_add, List.length_set, List.length_take] at *; omega) | (simp only [ltI_iff, ltI_not, leI_iff, leI_not, eqI_iff, eqI_not, List.length_map, bif_and, bif_or, Bool.and_eq_true, Bool.and_eq_false_iff, Bool.or_eq_true, Bool.or_eq_false_iff, Bool.not_eq_true', Bool.not_eq_false', Int.toNat_natCast, beq_iff_eq, beq_eq_false_iff_ne, decide_eq_true_eq, decide_eq_false_iff_not, bel_iff, bel_not, wthn_iff, wthn_not, els_len, mixL_len, Nat.zero_add, List.length_set, List.length_take, Int.ofNat_eq_natCast] at *; omega)))
  all_goals
    show T.agg _ = keptN x f
    simp only [keptN, cond_true, cond_false, *]

def gcallN (m : Module) (g : Graph) (x : Ins) : Bool :=
  bel x.f m.funcs.length && (((eqI x.args.length (nthD m.funcs x.f.toNat).params.length && x.args.all (bel · g.temps)) && eqI x.arrs.length (paramsN (nthD m.funcs x.f.toNat))) && x.arrs.all (bel · g.arrays.length))

theorem gcall49 (m : Module) (g : Graph) (x : Ins) : PCalls Try.prog 49 [m.t, g.t, x.t] (fun r => r = .bool (gcallN m g x)) := by
  refine PCalls.of_body ttOk Try.func49 rfl ?_
  repeat' ((conv => whnf); first
    | (with_reducible refine onBool_intro (fun _ => ?_) (fun _ => ?_))
    | (with_reducible refine And.intro (Ob.mk (Nat.le_of_ble_eq_true rfl)) ?_)
    | (with_reducible refine And.intro (Ob.mk rfl) ?_)
    | (with_reducible exact ⟨rfl, rfl⟩)
    | (with_reducible refine And.intro (Ob.mk (fun h => h)) ?_)
    | (with_reducible refine Or.inl (And.intro (Ob.mk (Flat.map ?_)) ?_); exact fun _ => rfl)
    | (refine Or.inl (And.intro (Ob.mk (flat_of rfl)) ?_))
    | (refine Or.inl (And.intro (Ob.mk ⟨rfl, rfl, rfl, rfl⟩) ?_))
    | (refine Or.inl (And.intro (Ob.mk ⟨rfl, rfl, rfl⟩) ?_))
    | (refine And.intro (Ob.mk ⟨rfl, rfl⟩) ?_)
    | (with_reducible refine Or.inr ?_)
    | (refine And.intro (Ob.mk (flat_of rfl)) ?_)
    | (with_reducible refine And.intro (Ob.mk (Flat.map ?_)) ?_; exact fun _ => rfl)
    | (with_reducible exact Ob.mk (Flat.map fun _ => rfl))
    | (with_reducible refine And.intro ?_ ?_)
    | (with_reducible apply exG.mk) | (with_reducible apply exGS.mk) | (with_reducible exact Dd.nil) | (refine Dd.same _ ?_) | (refine Dd.dead _ ?_) | (with_reducible apply exQ.mk) | (with_reducible apply exP.mk) | (refine EqP.mk rfl rfl) | (with_reducible apply exW.mk) | (refine EqW.mk rfl)
    | (with_reducible intro _) | (with_reducible refine Dn.mk ?_)
    | (refine exS.full (by first | rfl | (simp; done) | (simp; omega)) ?_)
    | (refine And.intro (Ob.mk ⟨rfl, rfl, by first | rfl | (simp; done) | (simp; omega)⟩) ?_)
    | (with_reducible refine exE.mapD ?_) | (refine exL.int ?_)
    | (with_reducible refine Up0.mk rfl ?_) | (with_reducible refine Up0i.mk rfl ?_) | (with_reducible refine Up1.mk rfl ?_) | (with_reducible refine Up1i.mk rfl ?_) | (with_reducible refine Up2.mk rfl ?_) | (with_reducible refine Up2i.mk rfl ?_)
    | (refine Col.mk rfl rfl rfl ?_) | (refine Coli.mk rfl rfl rfl rfl ?_)
    | (refine drawVC.all _ _ (by kernel_rfl) ?_)
    | (refine PCalls.mono (below38 _ _) ?_; rintro _ rfl)
    | (refine PCalls.mono (allBelow45 _ _) ?_; rintro _ rfl)
    | (refine PCalls.mono (passed44 _) ?_; rintro _ rfl))
  all_goals (try (refine Ob.mk ?_; first | assumption | exact ⟨rfl, rfl⟩ | exact ⟨rfl, rfl, rfl⟩ | (refine ⟨rfl, rfl, ?_⟩; simp only [List.length_map, List.length_take, List.length_append, els_len, List.length_replicate]; omega) | (intro h; exact h) | (intro h; rw [h]; rfl) | (intro h; simp_all; done) | (refine bytes_le (n := 1048577) ?_ rfl; simp only [ltI_iff, ltI_not, leI_iff, leI_not, eqI_iff, eqI_not, List.length_map, bif_and, bif_or, Bool.and_eq_true, Bool.and_eq_false_iff, Bool.or_eq_true, Bool.or_eq_false_iff, Bool.not_eq_true', Bool.not_eq_false', Int.toNat_natCast, beq_iff_eq, beq_eq_false_iff_ne, decide_eq_true_eq, decide_eq_false_iff_not, bel_iff, bel_not, wthn_iff, wthn_not, els_len, mixL_len, Nat.zero_add, List.length_set, List.length_take] at *; omega) | (simp only [ltI_iff, ltI_not, leI_iff, leI_not, eqI_iff, eqI_not, List.length_map, bif_and, bif_or, Bool.and_eq_true, Bool.and_eq_false_iff, Bool.or_eq_true, Bool.or_eq_false_iff, Bool.not_eq_true', Bool.not_eq_false', Int.toNat_natCast, beq_iff_eq, beq_eq_false_iff_ne, decide_eq_true_eq, decide_eq_false_iff_not, bel_iff, bel_not, wthn_iff, wthn_not, els_len, mixL_len, Nat.zero_add, List.length_set, List.length_take, Int.ofNat_eq_natCast] at *; omega)))
  all_goals
    simp only [bif_and, bif_or, List.length_map, Bool.not_eq_true', Bool.not_eq_false'] at *
    refine congrArg T.bool (?_ : _ = gcallN m g x)
    simp only [gcallN, Bool.false_and, Bool.true_and, *]

def instrN (m : Module) (g : Graph) (x : Ins) : Int :=
  bif (!(formN x.op).ok || !(eqI x.op x.op && (eqI (bif (formN x.op).d then x.d else 0) x.d && (eqI (bif (formN x.op).a then x.a else 0) x.a && (eqI (bif (formN x.op).b then x.b else 0) x.b && (eqI (bif (formN x.op).f then x.f else 0) x.f && eqI (bif (formN x.op).n then x.n else 0) x.n)))))) || (!(formN x.op).l && ltI 0 (addI .i64 x.args.length x.arrs.length)) then 53
  else bif ((formN x.op).d && !(eqI x.op 29 && eqI x.d (-1))) && !bel x.d g.temps then 51
  else bif (formN x.op).a && !bel x.a g.temps then 51
  else bif (formN x.op).b && !bel x.b g.temps then 51
  else bif (eqI x.op 25 || eqI x.op 26) && !bel x.f m.globals.length then 53
  else bif (eqI x.op 27 || eqI x.op 28) && !bel x.f g.arrays.length then 52
  else bif (formN x.op).l && !gcallN m g x then 54 else 0

theorem instr24 (m : Module) (g : Graph) (x : Ins) : PCalls Try.prog 24 [m.t, g.t, x.t] (fun r => r = .int .i64 (instrN m g x)) := by
  refine PCalls.of_body ttOk Try.func24 rfl ?_
  repeat' ((conv => whnf); first
    | (with_reducible refine onBool_intro (fun _ => ?_) (fun _ => ?_))
    | (with_reducible refine And.intro (Ob.mk (Nat.le_of_ble_eq_true rfl)) ?_)
    | (with_reducible refine And.intro (Ob.mk rfl) ?_)
    | (with_reducible exact ⟨rfl, rfl⟩)
    | (with_reducible refine And.intro (Ob.mk (fun h => h)) ?_)
    | (with_reducible refine Or.inl (And.intro (Ob.mk (Flat.map ?_)) ?_); exact fun _ => rfl)
    | (refine Or.inl (And.intro (Ob.mk (flat_of rfl)) ?_))
    | (refine Or.inl (And.intro (Ob.mk ⟨rfl, rfl, rfl, rfl⟩) ?_))
    | (refine Or.inl (And.intro (Ob.mk ⟨rfl, rfl, rfl⟩) ?_))
    | (refine And.intro (Ob.mk ⟨rfl, rfl⟩) ?_)
    | (with_reducible refine Or.inr ?_)
    | (refine And.intro (Ob.mk (flat_of rfl)) ?_)
    | (with_reducible refine And.intro (Ob.mk (Flat.map ?_)) ?_; exact fun _ => rfl)
    | (with_reducible exact Ob.mk (Flat.map fun _ => rfl))
    | (with_reducible refine And.intro ?_ ?_)
    | (with_reducible apply exG.mk) | (with_reducible apply exGS.mk) | (with_reducible exact Dd.nil) | (refine Dd.same _ ?_) | (refine Dd.dead _ ?_) | (with_reducible apply exQ.mk) | (with_reducible apply exP.mk) | (refine EqP.mk rfl rfl) | (with_reducible apply exW.mk) | (refine EqW.mk rfl)
    | (with_reducible intro _) | (with_reducible refine Dn.mk ?_)
    | (refine exS.full (by first | rfl | (simp; done) | (simp; omega)) ?_)
    | (refine And.intro (Ob.mk ⟨rfl, rfl, by first | rfl | (simp; done) | (simp; omega)⟩) ?_)
    | (with_reducible refine exE.mapD ?_) | (refine exL.int ?_)
    | (with_reducible refine Up0.mk rfl ?_) | (with_reducible refine Up0i.mk rfl ?_) | (with_reducible refine Up1.mk rfl ?_) | (with_reducible refine Up1i.mk rfl ?_) | (with_reducible refine Up2.mk rfl ?_) | (with_reducible refine Up2i.mk rfl ?_)
    | (refine Col.mk rfl rfl rfl ?_) | (refine Coli.mk rfl rfl rfl rfl ?_)
    | (refine drawVC.all _ _ (by kernel_rfl) ?_)
    | (refine PCalls.mono (formOf47 _) ?_; rintro _ rfl)
    | (refine PCalls.mono (kept48 _ _) ?_; rintro _ rfl)
    | (refine PCalls.mono (below38 _ _) ?_; rintro _ rfl)
    | (refine PCalls.mono (gcall49 _ _ _) ?_; rintro _ rfl))
  all_goals (try (refine Ob.mk ?_; first | assumption | exact ⟨rfl, rfl⟩ | exact ⟨rfl, rfl, rfl⟩ | (refine ⟨rfl, rfl, ?_⟩; simp only [List.length_map, List.length_take, List.length_append, els_len, List.length_replicate]; omega) | (intro h; exact h) | (intro h; rw [h]; rfl) | (intro h; simp_all; done) | (refine bytes_le (n := 1048577) ?_ rfl; simp only [ltI_iff, ltI_not, leI_iff, leI_not, eqI_iff, eqI_not, List.length_map, bif_and, bif_or, Bool.and_eq_true, Bool.and_eq_false_iff, Bool.or_eq_true, Bool.or_eq_false_iff, Bool.not_eq_true', Bool.not_eq_false', Int.toNat_natCast, beq_iff_eq, beq_eq_false_iff_ne, decide_eq_true_eq, decide_eq_false_iff_not, bel_iff, bel_not, wthn_iff, wthn_not, els_len, mixL_len, Nat.zero_add, List.length_set, List.length_take] at *; omega) | (simp only [ltI_iff, ltI_not, leI_iff, leI_not, eqI_iff, eqI_not, List.length_map, bif_and, bif_or, Bool.and_eq_true, Bool.and_eq_false_iff, Bool.or_eq_true, Bool.or_eq_false_iff, Bool.not_eq_true', Bool.not_eq_false', Int.toNat_natCast, beq_iff_eq, beq_eq_false_iff_ne, decide_eq_true_eq, decide_eq_false_iff_not, bel_iff, bel_not, wthn_iff, wthn_not, els_len, mixL_len, Nat.zero_add, List.length_set, List.length_take, Int.ofNat_eq_natCast] at *; omega)))
  all_goals
    simp only [bif_and, bif_or, List.length_map] at *
    refine congrArg (T.int IntKind.i64) (?_ : _ = instrN m g x)
    simp only [instrN, cond_true, cond_false, *]
end Go.Proofs.Ytihebfhhnoneiaa.Am
