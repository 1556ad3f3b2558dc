/- The program's copies: memory of the caller's own. -/
import Derived.Test.YtihebfhhnoneiaaG05N
import Derived.Test.YtihebfhhnoneiaaAmFrame
namespace Go.Proofs.Ytihebfhhnoneiaa.Am
open Go Go.Proofs
set_option maxRecDepth 10000
set_option maxHeartbeats 2000000
set_option linter.unusedVariables false
set_option linter.unusedSimpArgs false

theorem map_nil_of {α β : Type} {f : α → β} {l : List α} {b : Bool} (h : List.map f l ≠ [] → b = false) (hb : b = true) : l = [] := by
  cases l with
  | nil => rfl
  | cons x l => rw [h (by simp)] at hb; cases hb

/-! trees whose rows are their own -/
def Ins.o (x : Ins) : T := .agg [.int .i64 x.op, .int .i64 x.d, .int .i64 x.a, .int .i64 x.b, .int .i64 x.f, .int .u32 x.n, .nst 3 1 (x.args.map fun n => .int .i64 n), .nst 3 1 (x.arrs.map fun n => .int .i64 n)]
def Block.o (x : Block) : T := .agg [.nst 56 8 (x.code.map Ins.o), .int .i64 x.fin.kind, .int .i64 x.fin.op, .int .i64 x.fin.a, .int .i64 x.fin.b, .int .u32 x.fin.n, .int .i64 x.fin.to, .int .i64 x.fin.els, .nst 67 2 (x.fin.cases.map Case.t), .nst 3 1 (x.fin.targets.map fun n => .int .i64 n)]
def Graph.o (x : Graph) : T := .agg [.nst 3 1 (x.params.map fun n => .int .i64 n), .int .i64 x.temps, .nst 63 2 (x.arrays.map Arr.t), .nst 54 10 (x.blocks.map Block.o)]
def Module.o (x : Module) : T := .agg [.nst 49 1 (x.globals.map fun n => .int .u32 n), .nst 3 1 (x.arrays.map fun n => .int .i64 n), .nst 38 4 (x.funcs.map Graph.o), .int .i64 x.main]

theorem nst_le (E : TypeId) (sz : Nat) (xs : List T) : Le (.nst E sz xs) (.sl sz xs) := .nst _ _ _ _ (.refl _)
theorem Ins.o_le (x : Ins) : LeL x.o.cells x.t.cells := by
  unfold Ins.o Ins.t
  exact .cons (.refl _) (.cons (.refl _) (.cons (.refl _) (.cons (.refl _) (.cons (.refl _) (.cons (.refl _) (.cons (nst_le _ _ _) (.cons (nst_le _ _ _) .nil)))))))
theorem Block.o_le (x : Block) : LeL x.o.cells x.t.cells := by
  unfold Block.o Block.t
  exact .cons (.nst _ _ _ _ (Le.slmap Ins.o_le fun _ => rfl)) (.cons (.refl _) (.cons (.refl _) (.cons (.refl _) (.cons (.refl _) (.cons (.refl _) (.cons (.refl _) (.cons (.refl _) (.cons (nst_le _ _ _) (.cons (nst_le _ _ _) .nil)))))))))
theorem Graph.o_le (x : Graph) : LeL x.o.cells x.t.cells := by
  unfold Graph.o Graph.t
  exact .cons (nst_le _ _ _) (.cons (.refl _) (.cons (nst_le _ _ _) (.cons (.nst _ _ _ _ (Le.slmap Block.o_le fun _ => rfl)) .nil)))
theorem Module.o_le (x : Module) : Le x.o x.t := by
  unfold Module.o Module.t
  exact Le.aggL (.cons (nst_le _ _ _) (.cons (nst_le _ _ _) (.cons (.nst _ _ _ _ (Le.slmap Graph.o_le fun _ => rfl)) (.cons (.refl _) .nil))))

/-- Nothing in the cells lies in memory that nobody writes. -/
inductive ClL : List T → Prop where
  | nil : ClL []
  | int {k : IntKind} {n : Int} {l : List T} (h : ClL l) : ClL (.int k n :: l)
  | nst {E : TypeId} {sz : Nat} {xs l : List T} (hx : ∀ x ∈ xs, ∀ c ∈ x.cells, Clean c) (h : ClL l) : ClL (.nst E sz xs :: l)
theorem ClL.out {l : List T} (h : ClL l) : ∀ c ∈ l, Clean c := by
  induction h with
  | nil => exact fun _ h => nomatch h
  | int h ih =>
    intro c hc
    rcases List.mem_cons.1 hc with rfl | hc
    · exact .plain _ (.int _ _)
    · exact ih c hc
  | nst hx h ih =>
    intro c hc
    rcases List.mem_cons.1 hc with rfl | hc
    · exact .nst _ _ _ hx
    · exact ih c hc
theorem clean_map {α : Type} {f : α → T} {l : List α} (h : ∀ a, ClL (f a).cells) : ∀ x ∈ l.map f, ∀ c ∈ x.cells, Clean c := by
  intro x hx c hc
  obtain ⟨a, _, rfl⟩ := List.mem_map.1 hx
  exact (h a).out c hc
theorem clean_ints {k : IntKind} {l : List Int} : ∀ x ∈ l.map (fun n => T.int k n), ∀ c ∈ x.cells, Clean c := clean_map fun _ => .int .nil
theorem clean_case {l : List Case} : ∀ x ∈ l.map Case.t, ∀ c ∈ x.cells, Clean c := clean_map fun _ => .int (.int .nil)
theorem clean_arr {l : List Arr} : ∀ x ∈ l.map Arr.t, ∀ c ∈ x.cells, Clean c := clean_map fun _ => .int (.int .nil)
theorem clean_ins {l : List Ins} : ∀ x ∈ l.map Ins.o, ∀ c ∈ x.cells, Clean c := clean_map fun _ => .int (.int (.int (.int (.int (.int (.nst clean_ints (.nst clean_ints .nil)))))))
theorem clean_block {l : List Block} : ∀ x ∈ l.map Block.o, ∀ c ∈ x.cells, Clean c := clean_map fun _ => .nst clean_ins (.int (.int (.int (.int (.int (.int (.int (.nst clean_case (.nst clean_ints .nil)))))))))
theorem clean_graph {l : List Graph} : ∀ x ∈ l.map Graph.o, ∀ c ∈ x.cells, Clean c := clean_map fun _ => .nst clean_ints (.int (.nst clean_arr (.nst clean_block .nil)))

theorem clone33 (l : List Int) (h : l.length ≤ 2 ^ 20) : PCalls Try.prog 33 [.sl 1 (l.map fun n => .int .u32 n)] (fun r => r = .own (.nst 49 1 (l.map fun n => .int .u32 n))) := by
  refine PCalls.nilOwn (p := fun r => Ob (r = .own (.nst 49 1 (l.map fun n => .int .u32 n)) ∨ r = .own .nsl ∧ l = [])) ?_ 49 1 ?_
  · refine PCalls.of_bodyO ttOk Try.func33 rfl ?_
    repeat' ((conv => whnf); first
    | (with_reducible refine onBool_intro (fun _ => ?_) (fun _ => ?_))
    | (with_reducible refine And.intro (Ob.mk (Nat.le_of_ble_eq_true rfl)) ?_)
    | (with_reducible refine And.intro (Ob.mk rfl) ?_)
    | (with_reducible exact ⟨rfl, rfl⟩)
    | (with_reducible refine And.intro (Ob.mk (fun h => h)) ?_)
    | (with_reducible refine Or.inl (And.intro (Ob.mk (Flat.map ?_)) ?_); exact fun _ => rfl)
    | (refine Or.inl (And.intro (Ob.mk (flat_of rfl)) ?_))
    | (refine Or.inl (And.intro (Ob.mk ⟨rfl, rfl, rfl, rfl⟩) ?_))
    | (refine Or.inl (And.intro (Ob.mk ⟨rfl, rfl, rfl⟩) ?_))
    | (refine And.intro (Ob.mk ⟨rfl, rfl⟩) ?_)
    | (with_reducible refine Or.inr ?_)
    | (refine And.intro (Ob.mk (flat_of rfl)) ?_)
    | (with_reducible refine And.intro (Ob.mk (Flat.map ?_)) ?_; exact fun _ => rfl)
    | (with_reducible exact Ob.mk (Flat.map fun _ => rfl))
    | (with_reducible refine And.intro ?_ ?_)
    | (with_reducible apply exG.mk) | (with_reducible apply exGS.mk) | (with_reducible exact Dd.nil) | (refine Dd.same _ ?_) | (refine Dd.dead _ ?_) | (with_reducible apply exQ.mk) | (with_reducible apply exP.mk) | (refine EqP.mk rfl rfl) | (with_reducible apply exW.mk) | (refine EqW.mk rfl)
    | (with_reducible intro _) | (with_reducible refine Dn.mk ?_)
    | (refine exS.full (by first | rfl | (simp; done) | (simp; omega)) ?_)
    | (refine And.intro (Ob.mk ⟨rfl, rfl, by first | rfl | (simp; done) | (simp; omega)⟩) ?_)
    | (with_reducible refine exE.mapD ?_) | (refine exL.int ?_)
    | (with_reducible refine Up0.mk rfl ?_) | (with_reducible refine Up0i.mk rfl ?_) | (with_reducible refine Up1.mk rfl ?_) | (with_reducible refine Up1i.mk rfl ?_) | (with_reducible refine Up2.mk rfl ?_) | (with_reducible refine Up2i.mk rfl ?_)
    | (refine Col.mk rfl rfl rfl ?_) | (refine Coli.mk rfl rfl rfl rfl ?_))
    all_goals (try (refine Ob.mk ?_; first | assumption | exact ⟨rfl, rfl⟩ | exact ⟨rfl, rfl, rfl⟩ | (refine ⟨rfl, rfl, ?_⟩; simp only [List.length_map, List.length_take, List.length_append, els_len, List.length_replicate]; omega) | (intro h; exact h) | (intro h; rw [h]; rfl) | (intro h; simp_all; done) | (refine bytes_le (n := 1048577) ?_ rfl; simp only [ltI_iff, ltI_not, leI_iff, leI_not, eqI_iff, eqI_not, List.length_map, bif_and, bif_or, Bool.and_eq_true, Bool.and_eq_false_iff, Bool.or_eq_true, Bool.or_eq_false_iff, Bool.not_eq_true', Bool.not_eq_false', Int.toNat_natCast, beq_iff_eq, beq_eq_false_iff_ne, decide_eq_true_eq, decide_eq_false_iff_not, bel_iff, bel_not, wthn_iff, wthn_not, els_len, mixL_len, Nat.zero_add, List.length_set, List.length_take] at *; omega) | (simp only [ltI_iff, ltI_not, leI_iff, leI_not, eqI_iff, eqI_not, List.length_map, bif_and, bif_or, Bool.and_eq_true, Bool.and_eq_false_iff, Bool.or_eq_true, Bool.or_eq_false_iff, Bool.not_eq_true', Bool.not_eq_false', Int.toNat_natCast, beq_iff_eq, beq_eq_false_iff_ne, decide_eq_true_eq, decide_eq_false_iff_not, bel_iff, bel_not, wthn_iff, wthn_not, els_len, mixL_len, Nat.zero_add, List.length_set, List.length_take, Int.ofNat_eq_natCast] at *; omega)))
    · rename_i h1 h2
      exact Ob.mk (.inr ⟨rfl, map_nil_of h1 h2⟩)
    · exact Ob.mk clean_ints
    · exact Ob.mk (.inl rfl)
  · rintro r h
    rcases h.out with rfl | ⟨rfl, rfl⟩
    · exact .inl rfl
    · exact .inr ⟨rfl, rfl⟩
theorem clone33k (l : List Int) (h : Ob (l.length ≤ 2 ^ 20)) {q : T → Prop} (hq : q (.own (.nst 49 1 (l.map fun n => .int .u32 n)))) : PCalls Try.prog 33 [.sl 1 (l.map fun n => .int .u32 n)] q := PCalls.mono (clone33 l h.out) fun _ h => h ▸ hq
theorem clone34 (l : List Int) (h : l.length ≤ 2 ^ 20) : PCalls Try.prog 34 [.sl 1 (l.map fun n => .int .i64 n)] (fun r => r = .own (.nst 3 1 (l.map fun n => .int .i64 n))) := by
  refine PCalls.nilOwn (p := fun r => Ob (r = .own (.nst 3 1 (l.map fun n => .int .i64 n)) ∨ r = .own .nsl ∧ l = [])) ?_ 3 1 ?_
  · refine PCalls.of_bodyO ttOk Try.func34 rfl ?_
    repeat' ((conv => whnf); first
    | (with_reducible refine onBool_intro (fun _ => ?_) (fun _ => ?_))
    | (with_reducible refine And.intro (Ob.mk (Nat.le_of_ble_eq_true rfl)) ?_)
    | (with_reducible refine And.intro (Ob.mk rfl) ?_)
    | (with_reducible exact ⟨rfl, rfl⟩)
    | (with_reducible refine And.intro (Ob.mk (fun h => h)) ?_)
    | (with_reducible refine Or.inl (And.intro (Ob.mk (Flat.map ?_)) ?_); exact fun _ => rfl)
    | (refine Or.inl (And.intro (Ob.mk (flat_of rfl)) ?_))
    | (refine Or.inl (And.intro (Ob.mk ⟨rfl, rfl, rfl, rfl⟩) ?_))
    | (refine Or.inl (And.intro (Ob.mk ⟨rfl, rfl, rfl⟩) ?_))
    | (refine And.intro (Ob.mk ⟨rfl, rfl⟩) ?_)
    | (with_reducible refine Or.inr ?_)
    | (refine And.intro (Ob.mk (flat_of rfl)) ?_)
    | (with_reducible refine And.intro (Ob.mk (Flat.map ?_)) ?_; exact fun _ => rfl)
    | (with_reducible exact Ob.mk (Flat.map fun _ => rfl))
    | (with_reducible refine And.intro ?_ ?_)
    | (with_reducible apply exG.mk) | (with_reducible apply exGS.mk) | (with_reducible exact Dd.nil) | (refine Dd.same _ ?_) | (refine Dd.dead _ ?_) | (with_reducible apply exQ.mk) | (with_reducible apply exP.mk) | (refine EqP.mk rfl rfl) | (with_reducible apply exW.mk) | (refine EqW.mk rfl)
    | (with_reducible intro _) | (with_reducible refine Dn.mk ?_)
    | (refine exS.full (by first | rfl | (simp; done) | (simp; omega)) ?_)
    | (refine And.intro (Ob.mk ⟨rfl, rfl, by first | rfl | (simp; done) | (simp; omega)⟩) ?_)
    | (with_reducible refine exE.mapD ?_) | (refine exL.int ?_)
    | (with_reducible refine Up0.mk rfl ?_) | (with_reducible refine Up0i.mk rfl ?_) | (with_reducible refine Up1.mk rfl ?_) | (with_reducible refine Up1i.mk rfl ?_) | (with_reducible refine Up2.mk rfl ?_) | (with_reducible refine Up2i.mk rfl ?_)
    | (refine Col.mk rfl rfl rfl ?_) | (refine Coli.mk rfl rfl rfl rfl ?_))
    all_goals (try (refine Ob.mk ?_; first | assumption | exact ⟨rfl, rfl⟩ | exact ⟨rfl, rfl, rfl⟩ | (refine ⟨rfl, rfl, ?_⟩; simp only [List.length_map, List.length_take, List.length_append, els_len, List.length_replicate]; omega) | (intro h; exact h) | (intro h; rw [h]; rfl) | (intro h; simp_all; done) | (refine bytes_le (n := 1048577) ?_ rfl; simp only [ltI_iff, ltI_not, leI_iff, leI_not, eqI_iff, eqI_not, List.length_map, bif_and, bif_or, Bool.and_eq_true, Bool.and_eq_false_iff, Bool.or_eq_true, Bool.or_eq_false_iff, Bool.not_eq_true', Bool.not_eq_false', Int.toNat_natCast, beq_iff_eq, beq_eq_false_iff_ne, decide_eq_true_eq, decide_eq_false_iff_not, bel_iff, bel_not, wthn_iff, wthn_not, els_len, mixL_len, Nat.zero_add, List.length_set, List.length_take] at *; omega) | (simp only [ltI_iff, ltI_not, leI_iff, leI_not, eqI_iff, eqI_not, List.length_map, bif_and, bif_or, Bool.and_eq_true, Bool.and_eq_false_iff, Bool.or_eq_true, Bool.or_eq_false_iff, Bool.not_eq_true', Bool.not_eq_false', Int.toNat_natCast, beq_iff_eq, beq_eq_false_iff_ne, decide_eq_true_eq, decide_eq_false_iff_not, bel_iff, bel_not, wthn_iff, wthn_not, els_len, mixL_len, Nat.zero_add, List.length_set, List.length_take, Int.ofNat_eq_natCast] at *; omega)))
    · rename_i h1 h2
      exact Ob.mk (.inr ⟨rfl, map_nil_of h1 h2⟩)
    · exact Ob.mk clean_ints
    · exact Ob.mk (.inl rfl)
  · rintro r h
    rcases h.out with rfl | ⟨rfl, rfl⟩
    · exact .inl rfl
    · exact .inr ⟨rfl, rfl⟩
theorem clone34k (l : List Int) (h : Ob (l.length ≤ 2 ^ 20)) {q : T → Prop} (hq : q (.own (.nst 3 1 (l.map fun n => .int .i64 n)))) : PCalls Try.prog 34 [.sl 1 (l.map fun n => .int .i64 n)] q := PCalls.mono (clone34 l h.out) fun _ h => h ▸ hq
theorem clone35 (l : List Arr) (h : l.length ≤ 2 ^ 20) : PCalls Try.prog 35 [.sl 2 (l.map Arr.t)] (fun r => r = .own (.nst 63 2 (l.map Arr.t))) := by
  refine PCalls.nilOwn (p := fun r => Ob (r = .own (.nst 63 2 (l.map Arr.t)) ∨ r = .own .nsl ∧ l = [])) ?_ 63 2 ?_
  · refine PCalls.of_bodyO ttOk Try.func35 rfl ?_
    repeat' ((conv => whnf); first
    | (with_reducible refine onBool_intro (fun _ => ?_) (fun _ => ?_))
    | (with_reducible refine And.intro (Ob.mk (Nat.le_of_ble_eq_true rfl)) ?_)
    | (with_reducible refine And.intro (Ob.mk rfl) ?_)
    | (with_reducible exact ⟨rfl, rfl⟩)
    | (with_reducible refine And.intro (Ob.mk (fun h => h)) ?_)
    | (with_reducible refine Or.inl (And.intro (Ob.mk (Flat.map ?_)) ?_); exact fun _ => rfl)
    | (refine Or.inl (And.intro (Ob.mk (flat_of rfl)) ?_))
    | (refine Or.inl (And.intro (Ob.mk ⟨rfl, rfl, rfl, rfl⟩) ?_))
    | (refine Or.inl (And.intro (Ob.mk ⟨rfl, rfl, rfl⟩) ?_))
    | (refine And.intro (Ob.mk ⟨rfl, rfl⟩) ?_)
    | (with_reducible refine Or.inr ?_)
    | (refine And.intro (Ob.mk (flat_of rfl)) ?_)
    | (with_reducible refine And.intro (Ob.mk (Flat.map ?_)) ?_; exact fun _ => rfl)
    | (with_reducible exact Ob.mk (Flat.map fun _ => rfl))
    | (with_reducible refine And.intro ?_ ?_)
    | (with_reducible apply exG.mk) | (with_reducible apply exGS.mk) | (with_reducible exact Dd.nil) | (refine Dd.same _ ?_) | (refine Dd.dead _ ?_) | (with_reducible apply exQ.mk) | (with_reducible apply exP.mk) | (refine EqP.mk rfl rfl) | (with_reducible apply exW.mk) | (refine EqW.mk rfl)
    | (with_reducible intro _) | (with_reducible refine Dn.mk ?_)
    | (refine exS.full (by first | rfl | (simp; done) | (simp; omega)) ?_)
    | (refine And.intro (Ob.mk ⟨rfl, rfl, by first | rfl | (simp; done) | (simp; omega)⟩) ?_)
    | (with_reducible refine exE.mapD ?_) | (refine exL.int ?_)
    | (with_reducible refine Up0.mk rfl ?_) | (with_reducible refine Up0i.mk rfl ?_) | (with_reducible refine Up1.mk rfl ?_) | (with_reducible refine Up1i.mk rfl ?_) | (with_reducible refine Up2.mk rfl ?_) | (with_reducible refine Up2i.mk rfl ?_)
    | (refine Col.mk rfl rfl rfl ?_) | (refine Coli.mk rfl rfl rfl rfl ?_))
    all_goals (try (refine Ob.mk ?_; first | assumption | exact ⟨rfl, rfl⟩ | exact ⟨rfl, rfl, rfl⟩ | (refine ⟨rfl, rfl, ?_⟩; simp only [List.length_map, List.length_take, List.length_append, els_len, List.length_replicate]; omega) | (intro h; exact h) | (intro h; rw [h]; rfl) | (intro h; simp_all; done) | (refine bytes_le (n := 1048577) ?_ rfl; simp only [ltI_iff, ltI_not, leI_iff, leI_not, eqI_iff, eqI_not, List.length_map, bif_and, bif_or, Bool.and_eq_true, Bool.and_eq_false_iff, Bool.or_eq_true, Bool.or_eq_false_iff, Bool.not_eq_true', Bool.not_eq_false', Int.toNat_natCast, beq_iff_eq, beq_eq_false_iff_ne, decide_eq_true_eq, decide_eq_false_iff_not, bel_iff, bel_not, wthn_iff, wthn_not, els_len, mixL_len, Nat.zero_add, List.length_set, List.length_take] at *; omega) | (simp only [ltI_iff, ltI_not, leI_iff, leI_not, eqI_iff, eqI_not, List.length_map, bif_and, bif_or, Bool.and_eq_true, Bool.and_eq_false_iff, Bool.or_eq_true, Bool.or_eq_false_iff, Bool.not_eq_true', Bool.not_eq_false', Int.toNat_natCast, beq_iff_eq, beq_eq_false_iff_ne, decide_eq_true_eq, decide_eq_false_iff_not, bel_iff, bel_not, wthn_iff, wthn_not, els_len, mixL_len, Nat.zero_add, List.length_set, List.length_take, Int.ofNat_eq_natCast] at *; omega)))
    · rename_i h1 h2
      exact Ob.mk (.inr ⟨rfl, map_nil_of h1 h2⟩)
    · exact Ob.mk clean_arr
    · exact Ob.mk (.inl rfl)
  · rintro r h
    rcases h.out with rfl | ⟨rfl, rfl⟩
    · exact .inl rfl
    · exact .inr ⟨rfl, rfl⟩
theorem clone35k (l : List Arr) (h : Ob (l.length ≤ 2 ^ 20)) {q : T → Prop} (hq : q (.own (.nst 63 2 (l.map Arr.t)))) : PCalls Try.prog 35 [.sl 2 (l.map Arr.t)] q := PCalls.mono (clone35 l h.out) fun _ h => h ▸ hq
theorem clone37 (l : List Case) (h : l.length ≤ 2 ^ 20) : PCalls Try.prog 37 [.sl 2 (l.map Case.t)] (fun r => r = .own (.nst 67 2 (l.map Case.t))) := by
  refine PCalls.nilOwn (p := fun r => Ob (r = .own (.nst 67 2 (l.map Case.t)) ∨ r = .own .nsl ∧ l = [])) ?_ 67 2 ?_
  · refine PCalls.of_bodyO ttOk Try.func37 rfl ?_
    repeat' ((conv => whnf); first
    | (with_reducible refine onBool_intro (fun _ => ?_) (fun _ => ?_))
    | (with_reducible refine And.intro (Ob.mk (Nat.le_of_ble_eq_true rfl)) ?_)
    | (with_reducible refine And.intro (Ob.mk rfl) ?_)
    | (with_reducible exact ⟨rfl, rfl⟩)
    | (with_reducible refine And.intro (Ob.mk (fun h => h)) ?_)
    | (with_reducible refine Or.inl (And.intro (Ob.mk (Flat.map ?_)) ?_); exact fun _ => rfl)
    | (refine Or.inl (And.intro (Ob.mk (flat_of rfl)) ?_))
    | (refine Or.inl (And.intro (Ob.mk ⟨rfl, rfl, rfl, rfl⟩) ?_))
    | (refine Or.inl (And.intro (Ob.mk ⟨rfl, rfl, rfl⟩) ?_))
    | (refine And.intro (Ob.mk ⟨rfl, rfl⟩) ?_)
    | (with_reducible refine Or.inr ?_)
    | (refine And.intro (Ob.mk (flat_of rfl)) ?_)
    | (with_reducible refine And.intro (Ob.mk (Flat.map ?_)) ?_; exact fun _ => rfl)
    | (with_reducible exact Ob.mk (Flat.map fun _ => rfl))
    | (with_reducible refine And.intro ?_ ?_)
    | (with_reducible apply exG.mk) | (with_reducible apply exGS.mk) | (with_reducible exact Dd.nil) | (refine Dd.same _ ?_) | (refine Dd.dead _ ?_) | (with_reducible apply exQ.mk) | (with_reducible apply exP.mk) | (refine EqP.mk rfl rfl) | (with_reducible apply exW.mk) | (refine EqW.mk rfl)
    | (with_reducible intro _) | (with_reducible refine Dn.mk ?_)
    | (refine exS.full (by first | rfl | (simp; done) | (simp; omega)) ?_)
    | (refine And.intro (Ob.mk ⟨rfl, rfl, by first | rfl | (simp; done) | (simp; omega)⟩) ?_)
    | (with_reducible refine exE.mapD ?_) | (refine exL.int ?_)
    | (with_reducible refine Up0.mk rfl ?_) | (with_reducible refine Up0i.mk rfl ?_) | (with_reducible refine Up1.mk rfl ?_) | (with_reducible refine Up1i.mk rfl ?_) | (with_reducible refine Up2.mk rfl ?_) | (with_reducible refine Up2i.mk rfl ?_)
    | (refine Col.mk rfl rfl rfl ?_) | (refine Coli.mk rfl rfl rfl rfl ?_))
    all_goals (try (refine Ob.mk ?_; first | assumption | exact ⟨rfl, rfl⟩ | exact ⟨rfl, rfl, rfl⟩ | (refine ⟨rfl, rfl, ?_⟩; simp only [List.length_map, List.length_take, List.length_append, els_len, List.length_replicate]; omega) | (intro h; exact h) | (intro h; rw [h]; rfl) | (intro h; simp_all; done) | (refine bytes_le (n := 1048577) ?_ rfl; simp only [ltI_iff, ltI_not, leI_iff, leI_not, eqI_iff, eqI_not, List.length_map, bif_and, bif_or, Bool.and_eq_true, Bool.and_eq_false_iff, Bool.or_eq_true, Bool.or_eq_false_iff, Bool.not_eq_true', Bool.not_eq_false', Int.toNat_natCast, beq_iff_eq, beq_eq_false_iff_ne, decide_eq_true_eq, decide_eq_false_iff_not, bel_iff, bel_not, wthn_iff, wthn_not, els_len, mixL_len, Nat.zero_add, List.length_set, List.length_take] at *; omega) | (simp only [ltI_iff, ltI_not, leI_iff, leI_not, eqI_iff, eqI_not, List.length_map, bif_and, bif_or, Bool.and_eq_true, Bool.and_eq_false_iff, Bool.or_eq_true, Bool.or_eq_false_iff, Bool.not_eq_true', Bool.not_eq_false', Int.toNat_natCast, beq_iff_eq, beq_eq_false_iff_ne, decide_eq_true_eq, decide_eq_false_iff_not, bel_iff, bel_not, wthn_iff, wthn_not, els_len, mixL_len, Nat.zero_add, List.length_set, List.length_take, Int.ofNat_eq_natCast] at *; omega)))
    · rename_i h1 h2
      exact Ob.mk (.inr ⟨rfl, map_nil_of h1 h2⟩)
    · exact Ob.mk clean_case
    · exact Ob.mk (.inl rfl)
  · rintro r h
    rcases h.out with rfl | ⟨rfl, rfl⟩
    · exact .inl rfl
    · exact .inr ⟨rfl, rfl⟩
theorem clone37k (l : List Case) (h : Ob (l.length ≤ 2 ^ 20)) {q : T → Prop} (hq : q (.own (.nst 67 2 (l.map Case.t)))) : PCalls Try.prog 37 [.sl 2 (l.map Case.t)] q := PCalls.mono (clone37 l h.out) fun _ h => h ▸ hq

theorem clone36i (l : List Ins) (h : l.length ≤ 2 ^ 20) : ICalls Try.prog 36 [.t (.sl 8 (l.map Ins.t))] [] (fun v σ => Ob (v = .osl 0 0 l.length ∧ σ = [.row 56 8 (l.map Ins.t)])) := by
  refine ICalls.thaw 56 8 (p := fun v σ => Ob ((v = .osl 0 0 l.length ∧ σ = [.row 56 8 (l.map Ins.t)]) ∨ v = .t .nsl ∧ σ = [] ∧ l = [])) ?_ ?_
  · refine ICalls.inline (I := fun _ => false) ttOk Try.func36 rfl ?_
    repeat' ((conv => whnf); first
    | (with_reducible refine onBool_intro (fun _ => ?_) (fun _ => ?_))
    | (with_reducible refine And.intro (Ob.mk (Nat.le_of_ble_eq_true rfl)) ?_)
    | (with_reducible refine And.intro (Ob.mk rfl) ?_)
    | (with_reducible exact ⟨rfl, rfl⟩)
    | (with_reducible refine And.intro (Ob.mk (fun h => h)) ?_)
    | (with_reducible refine Or.inl (And.intro (Ob.mk (Flat.map ?_)) ?_); exact fun _ => rfl)
    | (refine Or.inl (And.intro (Ob.mk (flat_of rfl)) ?_))
    | (refine Or.inl (And.intro (Ob.mk ⟨rfl, rfl, rfl, rfl⟩) ?_))
    | (refine Or.inl (And.intro (Ob.mk ⟨rfl, rfl, rfl⟩) ?_))
    | (refine And.intro (Ob.mk ⟨rfl, rfl⟩) ?_)
    | (with_reducible refine Or.inr ?_)
    | (refine And.intro (Ob.mk (flat_of rfl)) ?_)
    | (with_reducible refine And.intro (Ob.mk (Flat.map ?_)) ?_; exact fun _ => rfl)
    | (with_reducible exact Ob.mk (Flat.map fun _ => rfl))
    | (with_reducible refine And.intro ?_ ?_)
    | (with_reducible apply exG.mk) | (with_reducible apply exGS.mk) | (with_reducible exact Dd.nil) | (refine Dd.same _ ?_) | (refine Dd.dead _ ?_) | (with_reducible apply exQ.mk) | (with_reducible apply exP.mk) | (refine EqP.mk rfl rfl) | (with_reducible apply exW.mk) | (refine EqW.mk rfl)
    | (with_reducible intro _) | (with_reducible refine Dn.mk ?_)
    | (refine exS.full (by first | rfl | (simp; done) | (simp; omega)) ?_)
    | (refine And.intro (Ob.mk ⟨rfl, rfl, by first | rfl | (simp; done) | (simp; omega)⟩) ?_)
    | (with_reducible refine exE.mapD ?_) | (refine exL.int ?_)
    | (with_reducible refine Up0.mk rfl ?_) | (with_reducible refine Up0i.mk rfl ?_) | (with_reducible refine Up1.mk rfl ?_) | (with_reducible refine Up1i.mk rfl ?_) | (with_reducible refine Up2.mk rfl ?_) | (with_reducible refine Up2i.mk rfl ?_)
    | (refine Col.mk rfl rfl rfl ?_) | (refine Coli.mk rfl rfl rfl rfl ?_))
    all_goals (try (refine Ob.mk ?_; first | assumption | exact ⟨rfl, rfl⟩ | exact ⟨rfl, rfl, rfl⟩ | (refine ⟨rfl, rfl, ?_⟩; simp only [List.length_map, List.length_take, List.length_append, els_len, List.length_replicate]; omega) | (intro h; exact h) | (intro h; rw [h]; rfl) | (intro h; simp_all; done) | (refine bytes_le (n := 1048577) ?_ rfl; simp only [ltI_iff, ltI_not, leI_iff, leI_not, eqI_iff, eqI_not, List.length_map, bif_and, bif_or, Bool.and_eq_true, Bool.and_eq_false_iff, Bool.or_eq_true, Bool.or_eq_false_iff, Bool.not_eq_true', Bool.not_eq_false', Int.toNat_natCast, beq_iff_eq, beq_eq_false_iff_ne, decide_eq_true_eq, decide_eq_false_iff_not, bel_iff, bel_not, wthn_iff, wthn_not, els_len, mixL_len, Nat.zero_add, List.length_set, List.length_take] at *; omega) | (simp only [ltI_iff, ltI_not, leI_iff, leI_not, eqI_iff, eqI_not, List.length_map, bif_and, bif_or, Bool.and_eq_true, Bool.and_eq_false_iff, Bool.or_eq_true, Bool.or_eq_false_iff, Bool.not_eq_true', Bool.not_eq_false', Int.toNat_natCast, beq_iff_eq, beq_eq_false_iff_ne, decide_eq_true_eq, decide_eq_false_iff_not, bel_iff, bel_not, wthn_iff, wthn_not, els_len, mixL_len, Nat.zero_add, List.length_set, List.length_take, Int.ofNat_eq_natCast] at *; omega)))
    · rename_i h1 h2
      exact Ob.mk (.inr ⟨rfl, rfl, map_nil_of h1 h2⟩)
    · exact Ob.mk (.inl ⟨by simp; rfl, rfl⟩)
  · rintro v s h
    rcases h.out with h | ⟨rfl, rfl, rfl⟩
    · exact .inl (.mk h)
    · exact .inr ⟨rfl, .mk ⟨rfl, rfl⟩⟩
theorem clone36k (l : List Ins) (h : Ob (l.length ≤ 2 ^ 20)) {q : SV → Sto → Prop} (hq : q (.osl 0 0 l.length) [.row 56 8 (l.map Ins.t)]) : ICalls Try.prog 36 [.t (.sl 8 (l.map Ins.t))] [] q := ICalls.mono (clone36i l h.out) fun v σ h => by obtain ⟨rfl, rfl⟩ := h.out; exact hq
end Go.Proofs.Ytihebfhhnoneiaa.Am
