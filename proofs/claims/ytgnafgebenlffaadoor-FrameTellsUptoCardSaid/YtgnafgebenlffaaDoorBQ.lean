/- Whether a graph fits, by the document's answer. -/
import Derived.Test.YtgnafgebenlffaaDoorBM
import Derived.Test.YtgnafgebenlffaaDoorBP
import Derived.Test.YtgnafgebenlffaaDoorBO
/- Graphs, as they are read: each whole number in the range of its kind. -/
namespace Go.Proofs.YtgnafgebenlffaaDoor.Am
open Go Go.Proofs
set_option maxRecDepth 10000
set_option maxHeartbeats 2000000
set_option linter.unusedVariables false
set_option linter.unusedSimpArgs false
def U32 (n : Int) : Prop := (Lit.int .u32 n).wf = true
structure Ins.wd (x : Ins) : Prop where
  op : I64 x.op
  d : I64 x.d
  a : I64 x.a
  b : I64 x.b
  f : I64 x.f
  n : U32 x.n
  args : ∀ y ∈ x.args, I64 y
  arrs : ∀ y ∈ x.arrs, I64 y
structure Case.wd (x : Case) : Prop where
  n : U32 x.n
  to : I64 x.to
structure End.wd (x : End) : Prop where
  kind : I64 x.kind
  op : I64 x.op
  a : I64 x.a
  b : I64 x.b
  n : U32 x.n
  to : I64 x.to
  els : I64 x.els
  cases : ∀ c ∈ x.cases, c.wd
  targets : ∀ y ∈ x.targets, I64 y
structure Block.wd (x : Block) : Prop where
  code : ∀ i ∈ x.code, i.wd
  fin : x.fin.wd
structure Arr.wd (x : Arr) : Prop where
  kind : I64 x.kind
  n : I64 x.n
structure Graph.wd (x : Graph) : Prop where
  params : ∀ y ∈ x.params, I64 y
  temps : I64 x.temps
  arrays : ∀ a ∈ x.arrays, a.wd
  blocks : ∀ b ∈ x.blocks, b.wd
section
variable {B n : Nat} {xs : List T} {t : TypeId}
theorem ty_intsw (h : TyC tt B n 22 xs) : ∃ l : List Int, xs = [ilist l] ∧ l.length ≤ B ∧ ∀ x ∈ l, I64 x :=
  ty_slice (f := fun n : Int => .int .i64 n) (Q := I64) (e := 3) rfl (fun n y hy => by obtain ⟨m, rfl, hm⟩ := ty_intw (k := .i64) rfl hy; exact ⟨m, hm, rfl⟩) h
theorem ty_casew (h : TyC tt B n 107 xs) : ∃ x : Case, x.wd ∧ elT tt 107 xs = x.t := by
  obtain ⟨n', c0, _, rfl, h0, c1, _, rfl, h1, rfl⟩ := ty_struct rfl h
  obtain ⟨a, rfl, ha⟩ := ty_intw (k := .u32) rfl h0
  obtain ⟨b, rfl, hb⟩ := ty_intw (k := .i64) rfl h1
  exact ⟨⟨a, b⟩, ⟨ha, hb⟩, rfl⟩
theorem ty_arrw (h : TyC tt B n 40 xs) : ∃ x : Arr, x.wd ∧ elT tt 40 xs = x.t := by
  obtain ⟨n', c0, _, rfl, h0, c1, _, rfl, h1, rfl⟩ := ty_struct rfl h
  obtain ⟨a, rfl, ha⟩ := ty_intw (k := .i64) rfl h0
  obtain ⟨b, rfl, hb⟩ := ty_intw (k := .i64) rfl h1
  exact ⟨⟨a, b⟩, ⟨ha, hb⟩, rfl⟩
theorem ty_insw (h : TyC tt B n 57 xs) : ∃ x : Ins, (x.args.length ≤ B ∧ x.arrs.length ≤ B ∧ x.wd) ∧ elT tt 57 xs = x.t := by
  obtain ⟨n', c0, _, rfl, h0, c1, _, rfl, h1, c2, _, rfl, h2, c3, _, rfl, h3, c4, _, rfl, h4, c5, _, rfl, h5, c6, _, rfl, h6, c7, _, rfl, h7, rfl⟩ := ty_struct rfl h
  obtain ⟨op, rfl, w0⟩ := ty_intw (k := .i64) rfl h0
  obtain ⟨d, rfl, w1⟩ := ty_intw (k := .i64) rfl h1
  obtain ⟨a, rfl, w2⟩ := ty_intw (k := .i64) rfl h2
  obtain ⟨b, rfl, w3⟩ := ty_intw (k := .i64) rfl h3
  obtain ⟨f, rfl, w4⟩ := ty_intw (k := .i64) rfl h4
  obtain ⟨m, rfl, w5⟩ := ty_intw (k := .u32) rfl h5
  obtain ⟨args, rfl, ha, w6⟩ := ty_intsw h6
  obtain ⟨arrs, rfl, hr, w7⟩ := ty_intsw h7
  exact ⟨⟨op, d, a, b, f, m, args, arrs⟩, ⟨ha, hr, ⟨w0, w1, w2, w3, w4, w5, w6, w7⟩⟩, rfl⟩
theorem ty_endw (h : TyC tt B n 53 xs) : ∃ x : End, x.cases.length ≤ B ∧ x.targets.length ≤ B ∧ x.wd ∧
    xs = [.int .i64 x.kind, .int .i64 x.op, .int .i64 x.a, .int .i64 x.b, .int .u32 x.n, .int .i64 x.to, .int .i64 x.els, .sl 2 (x.cases.map Case.t), .sl 1 (x.targets.map fun n => .int .i64 n)] := by
  obtain ⟨n', c0, _, rfl, h0, c1, _, rfl, h1, c2, _, rfl, h2, c3, _, rfl, h3, c4, _, rfl, h4, c5, _, rfl, h5, c6, _, rfl, h6, c7, _, rfl, h7, c8, _, rfl, h8, rfl⟩ := ty_struct rfl h
  obtain ⟨kind, rfl, w0⟩ := ty_intw (k := .i64) rfl h0
  obtain ⟨op, rfl, w1⟩ := ty_intw (k := .i64) rfl h1
  obtain ⟨a, rfl, w2⟩ := ty_intw (k := .i64) rfl h2
  obtain ⟨b, rfl, w3⟩ := ty_intw (k := .i64) rfl h3
  obtain ⟨m, rfl, w4⟩ := ty_intw (k := .u32) rfl h4
  obtain ⟨to, rfl, w5⟩ := ty_intw (k := .i64) rfl h5
  obtain ⟨els, rfl, w6⟩ := ty_intw (k := .i64) rfl h6
  obtain ⟨cs, rfl, hc, w7⟩ := ty_slice (f := Case.t) (Q := Case.wd) (e := 107) rfl (fun n y hy => ty_casew hy) h7
  obtain ⟨ts, rfl, ht, w8⟩ := ty_intsw h8
  exact ⟨⟨kind, op, a, b, m, to, els, cs, ts⟩, hc, ht, ⟨w0, w1, w2, w3, w4, w5, w6, w7, w8⟩, rfl⟩
theorem ty_blockw (hB : B ≤ 2 ^ 20) (h : TyC tt B n 55 xs) : ∃ x : Block, (x.tiny ∧ x.wd) ∧ elT tt 55 xs = x.t := by
  obtain ⟨n', c0, _, rfl, h0, c1, _, rfl, h1, rfl⟩ := ty_struct rfl h
  obtain ⟨code, rfl, hl, hc⟩ := ty_slice (f := Ins.t) (Q := fun x => x.args.length ≤ B ∧ x.arrs.length ≤ B ∧ x.wd) (e := 57) rfl (fun n y hy => ty_insw hy) h0
  obtain ⟨e, he1, he2, hew, rfl⟩ := ty_endw h1
  exact ⟨⟨code, e⟩, ⟨⟨by simp; omega, fun x hx => Nat.le_trans (hc x hx).1 hB, fun x hx => Nat.le_trans (hc x hx).2.1 hB, Nat.le_trans he1 hB, Nat.le_trans he2 hB⟩, fun x hx => (hc x hx).2.2, hew⟩, rfl⟩
theorem ty_graphw (hB : B ≤ 2 ^ 20) (h : TyC tt B n 26 xs) : ∃ x : Graph, x.tiny ∧ x.wd ∧ T.agg xs = x.t := by
  obtain ⟨n', c0, _, rfl, h0, c1, _, rfl, h1, c2, _, rfl, h2, c3, _, rfl, h3, rfl⟩ := ty_struct rfl h
  obtain ⟨ps, rfl, hp, w0⟩ := ty_intsw h0
  obtain ⟨m, rfl, w1⟩ := ty_intw (k := .i64) rfl h1
  obtain ⟨ar, rfl, ha, w2⟩ := ty_slice (f := Arr.t) (Q := Arr.wd) (e := 40) rfl (fun n y hy => ty_arrw hy) h2
  obtain ⟨bs, rfl, hb, hbt⟩ := ty_slice (f := Block.t) (Q := fun x => x.tiny ∧ x.wd) (e := 55) rfl (fun n y hy => ty_blockw hB hy) h3
  exact ⟨⟨ps, m, ar, bs⟩, ⟨Nat.le_trans hp hB, Nat.le_trans ha hB, Nat.le_trans hb hB, fun b hb => (hbt b hb).1⟩, ⟨w0, w1, w2, fun b hb => (hbt b hb).2⟩, rfl⟩
end
theorem End.wd.all {e : End} (h : e.wd) : ∀ y ∈ allN e, I64 y := by
  intro y hy
  unfold allN at hy
  repeat' split at hy
  · rw [List.mem_singleton] at hy; subst hy; exact h.to
  · rcases List.mem_cons.1 hy with rfl | hy
    · exact h.to
    · rw [List.mem_singleton] at hy; subst hy; exact h.els
  · rcases List.mem_cons.1 hy with rfl | hy
    · exact h.to
    · obtain ⟨c, hc, rfl⟩ := List.mem_map.1 hy
      exact (h.cases c hc).to
  · rcases List.mem_cons.1 hy with rfl | hy
    · exact h.to
    · exact h.targets y hy
  · simp at hy
end Go.Proofs.YtgnafgebenlffaaDoor.Am

/- Which temps are needed, by the document's answer: one block, one instruction. -/
namespace Go.Proofs.YtgnafgebenlffaaDoor.Am
open Go Go.Proofs
set_option maxRecDepth 10000
set_option maxHeartbeats 2000000
set_option linter.unusedVariables false
set_option linter.unusedSimpArgs false
theorem temps37 (l : List Int) (n : Int) : PCalls Tryd.prog 66 [ilist l, .int .i64 n] (fun r => r = .bool (l.all fun x => bel x n)) := by
  refine PCalls.of_body ttOk Tryd.func66 rfl ?_
  repeat' ((conv => whnf); first | (with_reducible first | refine onBool_intro (fun _ => ?_) (fun _ => ?_) | refine And.intro (Ob.mk (Nat.le_of_ble_eq_true rfl)) ?_ | refine And.intro (Ob.mk rfl) ?_ | exact ⟨rfl, rfl⟩ | refine And.intro (Ob.mk (fun h => h)) ?_) | (with_reducible refine Or.inl (And.intro (Ob.mk (Flat.map ?_)) ?_); exact fun _ => rfl) | (refine Or.inl (And.intro (Ob.mk (flat_of rfl)) ?_)) | (refine Or.inl (And.intro (Ob.mk ⟨rfl, rfl, rfl, rfl⟩) ?_)) | (refine Or.inl (And.intro (Ob.mk ⟨rfl, rfl, rfl⟩) ?_)) | (refine And.intro (Ob.mk ⟨rfl, rfl⟩) ?_) | (with_reducible refine Or.inr ?_) | (refine And.intro (Ob.mk (flat_of rfl)) ?_) | (with_reducible refine And.intro (Ob.mk (Flat.map ?_)) ?_; exact fun _ => rfl) | (with_reducible first | exact Ob.mk (Flat.map fun _ => rfl) | refine And.intro ?_ ?_ | apply exG.mk | apply exGS.mk | exact Dd.nil) | (refine Dd.same _ ?_) | (refine Dd.dead _ ?_) | (with_reducible first | apply exQ.mk | apply exP.mk) | (refine EqP.mk rfl rfl) | (with_reducible apply exW.mk) | (refine EqW.mk rfl) | (with_reducible first | intro _ | refine Dn.mk ?_) | (refine exS.full (by first | rfl | (simp; done) | (simp; omega)) ?_) | (refine And.intro (Ob.mk ⟨rfl, rfl, by first | rfl | (simp; done) | (simp; omega)⟩) ?_) | (with_reducible refine exE.mapD ?_) | (refine exL.int ?_) | (with_reducible first | refine Up0.mk rfl ?_ | refine Up0i.mk rfl ?_ | refine Up1.mk rfl ?_ | refine Up1i.mk rfl ?_ | refine Up2.mk rfl ?_ | refine Up2i.mk rfl ?_) | (refine Col.mk rfl rfl rfl ?_) | (refine Coli.mk rfl rfl rfl rfl ?_))
  conv => whnf
  refine LoopVC.up0 5 l.length (fun i => ∀ j, j < i → bel (nthD l j) n = true) ?_ ?_
  · repeat' ((conv => whnf); first | (with_reducible first | refine onBool_intro (fun _ => ?_) (fun _ => ?_) | refine And.intro (Ob.mk (Nat.le_of_ble_eq_true rfl)) ?_ | refine And.intro (Ob.mk rfl) ?_ | exact ⟨rfl, rfl⟩ | refine And.intro (Ob.mk (fun h => h)) ?_) | (with_reducible refine Or.inl (And.intro (Ob.mk (Flat.map ?_)) ?_); exact fun _ => rfl) | (refine Or.inl (And.intro (Ob.mk (flat_of rfl)) ?_)) | (refine Or.inl (And.intro (Ob.mk ⟨rfl, rfl, rfl, rfl⟩) ?_)) | (refine Or.inl (And.intro (Ob.mk ⟨rfl, rfl, rfl⟩) ?_)) | (refine And.intro (Ob.mk ⟨rfl, rfl⟩) ?_) | (with_reducible refine Or.inr ?_) | (refine And.intro (Ob.mk (flat_of rfl)) ?_) | (with_reducible refine And.intro (Ob.mk (Flat.map ?_)) ?_; exact fun _ => rfl) | (with_reducible first | exact Ob.mk (Flat.map fun _ => rfl) | refine And.intro ?_ ?_ | apply exG.mk | apply exGS.mk | exact Dd.nil) | (refine Dd.same _ ?_) | (refine Dd.dead _ ?_) | (with_reducible first | apply exQ.mk | apply exP.mk) | (refine EqP.mk rfl rfl) | (with_reducible apply exW.mk) | (refine EqW.mk rfl) | (with_reducible first | intro _ | refine Dn.mk ?_) | (refine exS.full (by first | rfl | (simp; done) | (simp; omega)) ?_) | (refine And.intro (Ob.mk ⟨rfl, rfl, by first | rfl | (simp; done) | (simp; omega)⟩) ?_) | (with_reducible refine exE.mapD ?_) | (refine exL.int ?_) | (with_reducible first | refine Up0.mk rfl ?_ | refine Up0i.mk rfl ?_ | refine Up1.mk rfl ?_ | refine Up1i.mk rfl ?_ | refine Up2.mk rfl ?_ | refine Up2i.mk rfl ?_) | (refine Col.mk rfl rfl rfl ?_) | (refine Coli.mk rfl rfl rfl rfl ?_))
    exact Ob.mk (by omega)
  · intro i hi he
    repeat' ((conv => whnf); first | (with_reducible first | refine onBool_intro (fun _ => ?_) (fun _ => ?_) | refine And.intro (Ob.mk (Nat.le_of_ble_eq_true rfl)) ?_ | refine And.intro (Ob.mk rfl) ?_ | exact ⟨rfl, rfl⟩ | refine And.intro (Ob.mk (fun h => h)) ?_) | (with_reducible refine Or.inl (And.intro (Ob.mk (Flat.map ?_)) ?_); exact fun _ => rfl) | (refine Or.inl (And.intro (Ob.mk (flat_of rfl)) ?_)) | (refine Or.inl (And.intro (Ob.mk ⟨rfl, rfl, rfl, rfl⟩) ?_)) | (refine Or.inl (And.intro (Ob.mk ⟨rfl, rfl, rfl⟩) ?_)) | (refine And.intro (Ob.mk ⟨rfl, rfl⟩) ?_) | (with_reducible refine Or.inr ?_) | (refine And.intro (Ob.mk (flat_of rfl)) ?_) | (with_reducible refine And.intro (Ob.mk (Flat.map ?_)) ?_; exact fun _ => rfl) | (with_reducible first | exact Ob.mk (Flat.map fun _ => rfl) | refine And.intro ?_ ?_ | apply exG.mk | apply exGS.mk | exact Dd.nil) | (refine Dd.same _ ?_) | (refine Dd.dead _ ?_) | (with_reducible first | apply exQ.mk | apply exP.mk) | (refine EqP.mk rfl rfl) | (with_reducible apply exW.mk) | (refine EqW.mk rfl) | (with_reducible first | intro _ | refine Dn.mk ?_) | (refine exS.full (by first | rfl | (simp; done) | (simp; omega)) ?_) | (refine And.intro (Ob.mk ⟨rfl, rfl, by first | rfl | (simp; done) | (simp; omega)⟩) ?_) | (with_reducible refine exE.mapD ?_) | (refine exL.int ?_) | (with_reducible first | refine Up0.mk rfl ?_ | refine Up0i.mk rfl ?_ | refine Up1.mk rfl ?_ | refine Up1i.mk rfl ?_ | refine Up2.mk rfl ?_ | refine Up2i.mk rfl ?_) | (refine Col.mk rfl rfl rfl ?_) | (refine Coli.mk rfl rfl rfl rfl ?_) | (refine drawVC.all _ _ (by kernel_rfl) ?_))
    all_goals (try (refine Ob.mk ?_; first | assumption | exact ⟨rfl, rfl⟩ | exact ⟨rfl, rfl, rfl⟩ | (refine ⟨rfl, rfl, ?_⟩; simp only [List.length_map, List.length_take, List.length_append, els_len, List.length_replicate]; omega) | (intro h; exact h) | (intro h; rw [h]; rfl) | (intro h; simp_all; done) | (refine bytes_le (n := 1048577) ?_ rfl; simp only [ltI_iff, ltI_not, leI_iff, leI_not, eqI_iff, eqI_not, List.length_map, bif_and, bif_or, Bool.and_eq_true, Bool.and_eq_false_iff, Bool.or_eq_true, Bool.or_eq_false_iff, Bool.not_eq_true', Bool.not_eq_false', Int.toNat_natCast, beq_iff_eq, beq_eq_false_iff_ne, decide_eq_true_eq, decide_eq_false_iff_not, bel_iff, bel_not, wthn_iff, wthn_not, els_len, mixL_len, Nat.zero_add, List.length_set, List.length_take] at *; omega) | (simp only [ltI_iff, ltI_not, leI_iff, leI_not, eqI_iff, eqI_not, List.length_map, bif_and, bif_or, Bool.and_eq_true, Bool.and_eq_false_iff, Bool.or_eq_true, Bool.or_eq_false_iff, Bool.not_eq_true', Bool.not_eq_false', Int.toNat_natCast, beq_iff_eq, beq_eq_false_iff_ne, decide_eq_true_eq, decide_eq_false_iff_not, bel_iff, bel_not, wthn_iff, wthn_not, els_len, mixL_len, Nat.zero_add, List.length_set, List.length_take, Int.ofNat_eq_natCast] at *; omega)))
    · rename_i h1 h2
      have hlt : i < l.length := by simp only [ltI_iff, ltI_not, leI_iff, leI_not, eqI_iff, eqI_not, List.length_map, bif_and, bif_or, Bool.and_eq_true, Bool.and_eq_false_iff, Bool.or_eq_true, Bool.or_eq_false_iff, Bool.not_eq_true', Bool.not_eq_false', Int.toNat_natCast, beq_iff_eq, beq_eq_false_iff_ne, decide_eq_true_eq, decide_eq_false_iff_not] at *; omega
      show T.bool false = T.bool _
      rw [Eq.comm, T.bool.injEq, List.all_eq_false]
      refine ⟨nthD l i, nthD_mem hlt, ?_⟩
      simp only [ltI_iff, ltI_not, leI_iff, leI_not, eqI_iff, eqI_not, List.length_map, bif_and, bif_or, Bool.and_eq_true, Bool.and_eq_false_iff, Bool.or_eq_true, Bool.or_eq_false_iff, Bool.not_eq_true', Bool.not_eq_false', Int.toNat_natCast, beq_iff_eq, beq_eq_false_iff_ne, decide_eq_true_eq, decide_eq_false_iff_not] at *
      rw [Bool.not_eq_true, bel_not]
      omega
    · rename_i h1 h2
      simp only [ltI_iff, ltI_not, leI_iff, leI_not, eqI_iff, eqI_not, List.length_map, bif_and, bif_or, Bool.and_eq_true, Bool.and_eq_false_iff, Bool.or_eq_true, Bool.or_eq_false_iff, Bool.not_eq_true', Bool.not_eq_false', Int.toNat_natCast, beq_iff_eq, beq_eq_false_iff_ne, decide_eq_true_eq, decide_eq_false_iff_not] at *
      have hlt : i < l.length := by omega
      refine Ob.mk ⟨hlt, addI_i64 (by omega) (by omega), ?_⟩
      intro j hj
      rcases Nat.lt_or_ge j i with h | h
      · exact he j h
      · rw [show j = i by omega]
        rw [bel_iff]
        omega
    · rename_i h1
      have hge : l.length ≤ i := by simp only [ltI_iff, ltI_not, leI_iff, leI_not, eqI_iff, eqI_not, List.length_map, bif_and, bif_or, Bool.and_eq_true, Bool.and_eq_false_iff, Bool.or_eq_true, Bool.or_eq_false_iff, Bool.not_eq_true', Bool.not_eq_false', Int.toNat_natCast, beq_iff_eq, beq_eq_false_iff_ne, decide_eq_true_eq, decide_eq_false_iff_not] at *; omega
      show T.bool true = T.bool _
      rw [Eq.comm, T.bool.injEq, List.all_eq_true]
      intro x hx
      obtain ⟨j, hj, rfl⟩ := List.mem_iff_getElem.1 hx
      rw [← nthD_get hj]
      exact he j (by omega)
abbrev bitsR (n : Nat) (f : Nat → Bool) : List T := (List.range n).map fun j => .bool (f j)
theorem nthD_range {n i : Nat} (h : i < n) : nthD (List.range n) i = i := by rw [nthD_get (by simpa using h)]; simp
theorem bitsR_set {n i : Nat} {f : Nat → Bool} {b : Bool} : (bitsR n f).set i (.bool b) = bitsR n (fun j => if j = i then b else f j) := by
  apply List.ext_getElem
  · simp
  · intro j h1 h2
    rw [List.getElem_set]
    simp only [List.getElem_map, List.getElem_range]
    by_cases h : i = j
    · subst h; simp
    · rw [if_neg h, if_neg (fun e => h e.symm)]
theorem bitsR_congr {n : Nat} {f g : Nat → Bool} (h : ∀ j, j < n → f j = g j) : bitsR n f = bitsR n g := by
  apply List.map_congr_left
  intro j hj
  rw [h j (by simpa using hj)]
theorem bitsR_zero (n : Nat) : List.replicate n (T.bool false) = bitsR n fun _ => false := by
  apply List.ext_getElem
  · simp
  · intro j h1 h2; simp
abbrev bitsT (m n : Nat) (at' : Nat → Nat → Bool) : T := .sl 1 ((List.range m).map fun b => .sl 1 (bitsR n (at' b)))
def endF (g : Graph) (at' : Nat → Nat → Bool) (b t : Nat) : Bool := (nextN g b).any (fun s => at' s.toNat t) || (eUsesN (nthD g.blocks b).fin).contains (t : Int)
def backF (x : Ins) (f : Nat → Bool) (t : Nat) : Bool := (usesN x).contains (t : Int) || (f t && !(setsN x == (t : Int)))
structure Graph.fit (g : Graph) : Prop where
  tiny : g.tiny
  temps : 0 ≤ g.temps ∧ g.temps ≤ 8000
  blocks : g.blocks.length ≤ 20000
  next : ∀ b, b < g.blocks.length → ∀ s ∈ nextN g b, 0 ≤ s ∧ s < g.blocks.length
  ends : ∀ b ∈ g.blocks, ∀ t ∈ eUsesN b.fin, 0 ≤ t ∧ t < g.temps
  uses : ∀ b ∈ g.blocks, ∀ x ∈ b.code, ∀ t ∈ usesN x, 0 ≤ t ∧ t < g.temps
  sets : ∀ b ∈ g.blocks, ∀ x ∈ b.code, -1 ≤ setsN x ∧ setsN x < g.temps
theorem eUses_len {e : End} : (eUsesN e).length ≤ 2 := by
  unfold eUsesN
  repeat' split
  all_goals simp
theorem next_len {g : Graph} (hg : g.tiny) (b : Int) : (nextN g b).length ≤ 2 ^ 21 := by
  unfold nextN
  split
  · exact Nat.le_trans (srt_length _) (all_len (block_tiny g hg _))
  · simp
theorem take_any {l : List Int} {p : Int → Bool} {i : Nat} (h : i < l.length) : (l.take (i + 1)).any p = ((l.take i).any p || p (nthD l i)) := by
  rw [take_succ_nthD h, List.any_append]; simp
theorem take_contains {l : List Int} {t : Int} {i : Nat} (h : i < l.length) : (l.take (i + 1)).contains t = ((l.take i).contains t || (t == nthD l i)) := by
  rw [take_succ_nthD h, List.contains_eq_any_beq, List.contains_eq_any_beq, List.any_append]; simp
theorem endOf63 (g : Graph) (hg : g.fit) (b : Nat) (hb : b < g.blocks.length) (at' : Nat → Nat → Bool) : PCalls Tryd.prog 41 [g.t, .int .i64 b, bitsT g.blocks.length g.temps.toNat at'] (fun r => r = .own (.nst 4 1 (bitsR g.temps.toNat (endF g at' b)))) := by
  have ht := hg.temps
  have hnl := next_len hg.tiny b
  have hel := eUses_len (e := (nthD g.blocks b).fin)
  have hN : ∀ i, i < (nextN g b).length → 0 ≤ nthD (nextN g b) i ∧ nthD (nextN g b) i < g.blocks.length := fun i hi => hg.next b hb _ (nthD_mem hi)
  have hE : ∀ i, i < (eUsesN (nthD g.blocks b).fin).length → 0 ≤ nthD (eUsesN (nthD g.blocks b).fin) i ∧ nthD (eUsesN (nthD g.blocks b).fin) i < g.temps := fun i hi => hg.ends _ (nthD_mem hb) _ (nthD_mem hi)
  refine PCalls.of_bodyO ttOk Tryd.func41 rfl ?_
  repeat' ((conv => whnf); first | (with_reducible first | refine onBool_intro (fun _ => ?_) (fun _ => ?_) | refine And.intro (Ob.mk (Nat.le_of_ble_eq_true rfl)) ?_ | refine And.intro (Ob.mk rfl) ?_ | exact ⟨rfl, rfl⟩ | refine And.intro (Ob.mk (fun h => h)) ?_) | (with_reducible refine Or.inl (And.intro (Ob.mk (Flat.map ?_)) ?_); exact fun _ => rfl) | (refine Or.inl (And.intro (Ob.mk (flat_of rfl)) ?_)) | (refine Or.inl (And.intro (Ob.mk ⟨rfl, rfl, rfl, rfl⟩) ?_)) | (refine Or.inl (And.intro (Ob.mk ⟨rfl, rfl, rfl⟩) ?_)) | (refine And.intro (Ob.mk ⟨rfl, rfl⟩) ?_) | (with_reducible refine Or.inr ?_) | (refine And.intro (Ob.mk (flat_of rfl)) ?_) | (with_reducible refine And.intro (Ob.mk (Flat.map ?_)) ?_; exact fun _ => rfl) | (with_reducible first | exact Ob.mk (Flat.map fun _ => rfl) | refine And.intro ?_ ?_ | apply exG.mk | apply exGS.mk | exact Dd.nil) | (refine Dd.same _ ?_) | (refine Dd.dead _ ?_) | (with_reducible first | apply exQ.mk | apply exP.mk) | (refine EqP.mk rfl rfl) | (with_reducible apply exW.mk) | (refine EqW.mk rfl) | (with_reducible first | intro _ | refine Dn.mk ?_) | (refine exS.full (by first | rfl | (simp; done) | (simp; omega)) ?_) | (refine And.intro (Ob.mk ⟨rfl, rfl, by first | rfl | (simp; done) | (simp; omega)⟩) ?_) | (with_reducible refine exE.mapD ?_) | (refine exL.int ?_) | (with_reducible first | refine Up0.mk rfl ?_ | refine Up0i.mk rfl ?_ | refine Up1.mk rfl ?_ | refine Up1i.mk rfl ?_ | refine Up2.mk rfl ?_ | refine Up2i.mk rfl ?_) | (refine Col.mk rfl rfl rfl ?_) | (refine Coli.mk rfl rfl rfl rfl ?_) | (refine PCalls.mono (next15 _ _ hg.tiny) ?_; rintro _ rfl))
  all_goals (try (refine Ob.mk ?_; first | assumption | exact ⟨rfl, rfl⟩ | exact ⟨rfl, rfl, rfl⟩ | (refine ⟨rfl, rfl, ?_⟩; simp only [List.length_map, List.length_take, List.length_append, els_len, List.length_replicate]; omega) | (intro h; exact h) | (intro h; rw [h]; rfl) | (intro h; simp_all; done) | (refine bytes_le (n := 1048577) ?_ rfl; simp only [ltI_iff, ltI_not, leI_iff, leI_not, eqI_iff, eqI_not, List.length_map, bif_and, bif_or, Bool.and_eq_true, Bool.and_eq_false_iff, Bool.or_eq_true, Bool.or_eq_false_iff, Bool.not_eq_true', Bool.not_eq_false', Int.toNat_natCast, beq_iff_eq, beq_eq_false_iff_ne, decide_eq_true_eq, decide_eq_false_iff_not, bel_iff, bel_not, wthn_iff, wthn_not, els_len, mixL_len, Nat.zero_add, List.length_set, List.length_take] at *; omega) | (simp only [ltI_iff, ltI_not, leI_iff, leI_not, eqI_iff, eqI_not, List.length_map, bif_and, bif_or, Bool.and_eq_true, Bool.and_eq_false_iff, Bool.or_eq_true, Bool.or_eq_false_iff, Bool.not_eq_true', Bool.not_eq_false', Int.toNat_natCast, beq_iff_eq, beq_eq_false_iff_ne, decide_eq_true_eq, decide_eq_false_iff_not, bel_iff, bel_not, wthn_iff, wthn_not, els_len, mixL_len, Nat.zero_add, List.length_set, List.length_take, Int.ofNat_eq_natCast] at *; omega)))
  · exact Ob.mk ht.1
  · exact Ob.mk (Int.le_refl _)
  · exact Ob.mk (by show g.temps * (1 : Nat) ≤ _; omega)
  · exact Ob.mk (by omega)
  conv => whnf
  refine LoopVC.mk [9, 7] [] (fun m vals σ => ∃ i : Nat, vals = [.t (.int .i64 i), .osl 2 0 g.temps.toNat] ∧ σ = [gvar g, .dead, .row 4 1 (bitsR g.temps.toNat fun t => ((nextN g b).take i).any fun s => at' s.toNat t)] ∧ i ≤ (nextN g b).length ∧ m = (nextN g b).length - i) ?_ ?_
  · repeat' ((conv => whnf); first | (with_reducible first | refine onBool_intro (fun _ => ?_) (fun _ => ?_) | refine And.intro (Ob.mk (Nat.le_of_ble_eq_true rfl)) ?_ | refine And.intro (Ob.mk rfl) ?_ | exact ⟨rfl, rfl⟩ | refine And.intro (Ob.mk (fun h => h)) ?_) | (with_reducible refine Or.inl (And.intro (Ob.mk (Flat.map ?_)) ?_); exact fun _ => rfl) | (refine Or.inl (And.intro (Ob.mk (flat_of rfl)) ?_)) | (refine Or.inl (And.intro (Ob.mk ⟨rfl, rfl, rfl, rfl⟩) ?_)) | (refine Or.inl (And.intro (Ob.mk ⟨rfl, rfl, rfl⟩) ?_)) | (refine And.intro (Ob.mk ⟨rfl, rfl⟩) ?_) | (with_reducible refine Or.inr ?_) | (refine And.intro (Ob.mk (flat_of rfl)) ?_) | (with_reducible refine And.intro (Ob.mk (Flat.map ?_)) ?_; exact fun _ => rfl) | (with_reducible first | exact Ob.mk (Flat.map fun _ => rfl) | refine And.intro ?_ ?_ | apply exG.mk | apply exGS.mk | exact Dd.nil) | (refine Dd.same _ ?_) | (refine Dd.dead _ ?_) | (with_reducible first | apply exQ.mk | apply exP.mk) | (refine EqP.mk rfl rfl) | (with_reducible apply exW.mk) | (refine EqW.mk rfl) | (with_reducible first | intro _ | refine Dn.mk ?_) | (refine exS.full (by first | rfl | (simp; done) | (simp; omega)) ?_) | (refine And.intro (Ob.mk ⟨rfl, rfl, by first | rfl | (simp; done) | (simp; omega)⟩) ?_) | (with_reducible refine exE.mapD ?_) | (refine exL.int ?_) | (with_reducible first | refine Up0.mk rfl ?_ | refine Up0i.mk rfl ?_ | refine Up1.mk rfl ?_ | refine Up1i.mk rfl ?_ | refine Up2.mk rfl ?_ | refine Up2i.mk rfl ?_) | (refine Col.mk rfl rfl rfl ?_) | (refine Coli.mk rfl rfl rfl rfl ?_))
    refine ⟨_, 0, rfl, ?_, Nat.zero_le _, rfl⟩
    exact congrArg (fun x => [gvar g, SObj.dead, SObj.row 4 1 x]) (bitsR_zero _)
  · rintro m vals σ ⟨i, rfl, rfl, hi, rfl⟩
    repeat' ((conv => whnf); first | (with_reducible first | refine onBool_intro (fun _ => ?_) (fun _ => ?_) | refine And.intro (Ob.mk (Nat.le_of_ble_eq_true rfl)) ?_ | refine And.intro (Ob.mk rfl) ?_ | exact ⟨rfl, rfl⟩ | refine And.intro (Ob.mk (fun h => h)) ?_) | (with_reducible refine Or.inl (And.intro (Ob.mk (Flat.map ?_)) ?_); exact fun _ => rfl) | (refine Or.inl (And.intro (Ob.mk (flat_of rfl)) ?_)) | (refine Or.inl (And.intro (Ob.mk ⟨rfl, rfl, rfl, rfl⟩) ?_)) | (refine Or.inl (And.intro (Ob.mk ⟨rfl, rfl, rfl⟩) ?_)) | (refine And.intro (Ob.mk ⟨rfl, rfl⟩) ?_) | (with_reducible refine Or.inr ?_) | (refine And.intro (Ob.mk (flat_of rfl)) ?_) | (with_reducible refine And.intro (Ob.mk (Flat.map ?_)) ?_; exact fun _ => rfl) | (with_reducible first | exact Ob.mk (Flat.map fun _ => rfl) | refine And.intro ?_ ?_ | apply exG.mk | apply exGS.mk | exact Dd.nil) | (refine Dd.same _ ?_) | (refine Dd.dead _ ?_) | (with_reducible first | apply exQ.mk | apply exP.mk) | (refine EqP.mk rfl rfl) | (with_reducible apply exW.mk) | (refine EqW.mk rfl) | (with_reducible first | intro _ | refine Dn.mk ?_) | (refine exS.full (by first | rfl | (simp; done) | (simp; omega)) ?_) | (refine And.intro (Ob.mk ⟨rfl, rfl, by first | rfl | (simp; done) | (simp; omega)⟩) ?_) | (with_reducible refine exE.mapD ?_) | (refine exL.int ?_) | (with_reducible first | refine Up0.mk rfl ?_ | refine Up0i.mk rfl ?_ | refine Up1.mk rfl ?_ | refine Up1i.mk rfl ?_ | refine Up2.mk rfl ?_ | refine Up2i.mk rfl ?_) | (refine Col.mk rfl rfl rfl ?_) | (refine Coli.mk rfl rfl rfl rfl ?_) | (refine PCalls.mono (endUses33 _) ?_; rintro _ rfl))
    all_goals (try (refine Ob.mk ?_; first | assumption | exact ⟨rfl, rfl⟩ | exact ⟨rfl, rfl, rfl⟩ | (refine ⟨rfl, rfl, ?_⟩; simp only [List.length_map, List.length_take, List.length_append, els_len, List.length_replicate]; omega) | (intro h; exact h) | (intro h; rw [h]; rfl) | (intro h; simp_all; done) | (refine bytes_le (n := 1048577) ?_ rfl; simp only [ltI_iff, ltI_not, leI_iff, leI_not, eqI_iff, eqI_not, List.length_map, bif_and, bif_or, Bool.and_eq_true, Bool.and_eq_false_iff, Bool.or_eq_true, Bool.or_eq_false_iff, Bool.not_eq_true', Bool.not_eq_false', Int.toNat_natCast, beq_iff_eq, beq_eq_false_iff_ne, decide_eq_true_eq, decide_eq_false_iff_not, bel_iff, bel_not, wthn_iff, wthn_not, els_len, mixL_len, Nat.zero_add, List.length_set, List.length_take] at *; omega) | (simp only [ltI_iff, ltI_not, leI_iff, leI_not, eqI_iff, eqI_not, List.length_map, bif_and, bif_or, Bool.and_eq_true, Bool.and_eq_false_iff, Bool.or_eq_true, Bool.or_eq_false_iff, Bool.not_eq_true', Bool.not_eq_false', Int.toNat_natCast, beq_iff_eq, beq_eq_false_iff_ne, decide_eq_true_eq, decide_eq_false_iff_not, bel_iff, bel_not, wthn_iff, wthn_not, els_len, mixL_len, Nat.zero_add, List.length_set, List.length_take, Int.ofNat_eq_natCast] at *; omega)))
    · rename_i h1
      have hlt : i < (nextN g b).length := by simp only [ltI_iff, ltI_not, leI_iff, leI_not, eqI_iff, eqI_not, List.length_map, bif_and, bif_or, Bool.and_eq_true, Bool.and_eq_false_iff, Bool.or_eq_true, Bool.or_eq_false_iff, Bool.not_eq_true', Bool.not_eq_false', Int.toNat_natCast, beq_iff_eq, beq_eq_false_iff_ne, decide_eq_true_eq, decide_eq_false_iff_not] at *; omega
      have hNi := hN i hlt
      have hNb : (nthD (nextN g b) i).toNat < g.blocks.length := by omega
      conv => whnf
      refine LoopVC.mk [10, 7] [] (fun m vals σ => ∃ j : Nat, vals = [.t (.int .i64 j), .osl 3 0 g.temps.toNat] ∧ σ = [gvar g, .dead, .dead, .row 4 1 (bitsR g.temps.toNat fun t => ((nextN g b).take i).any (fun s => at' s.toNat t) || (decide (t < j) && at' (nthD (nextN g b) i).toNat t))] ∧ j ≤ g.temps.toNat ∧ m = g.temps.toNat - j) ?_ ?_
      · repeat' ((conv => whnf); first | (with_reducible first | refine onBool_intro (fun _ => ?_) (fun _ => ?_) | refine And.intro (Ob.mk (Nat.le_of_ble_eq_true rfl)) ?_ | refine And.intro (Ob.mk rfl) ?_ | exact ⟨rfl, rfl⟩ | refine And.intro (Ob.mk (fun h => h)) ?_) | (with_reducible refine Or.inl (And.intro (Ob.mk (Flat.map ?_)) ?_); exact fun _ => rfl) | (refine Or.inl (And.intro (Ob.mk (flat_of rfl)) ?_)) | (refine Or.inl (And.intro (Ob.mk ⟨rfl, rfl, rfl, rfl⟩) ?_)) | (refine Or.inl (And.intro (Ob.mk ⟨rfl, rfl, rfl⟩) ?_)) | (refine And.intro (Ob.mk ⟨rfl, rfl⟩) ?_) | (with_reducible refine Or.inr ?_) | (refine And.intro (Ob.mk (flat_of rfl)) ?_) | (with_reducible refine And.intro (Ob.mk (Flat.map ?_)) ?_; exact fun _ => rfl) | (with_reducible first | exact Ob.mk (Flat.map fun _ => rfl) | refine And.intro ?_ ?_ | apply exG.mk | apply exGS.mk | exact Dd.nil) | (refine Dd.same _ ?_) | (refine Dd.dead _ ?_) | (with_reducible first | apply exQ.mk | apply exP.mk) | (refine EqP.mk rfl rfl) | (with_reducible apply exW.mk) | (refine EqW.mk rfl) | (with_reducible first | intro _ | refine Dn.mk ?_) | (refine exS.full (by first | rfl | (simp; done) | (simp; omega)) ?_) | (refine And.intro (Ob.mk ⟨rfl, rfl, by first | rfl | (simp; done) | (simp; omega)⟩) ?_) | (with_reducible refine exE.mapD ?_) | (refine exL.int ?_) | (with_reducible first | refine Up0.mk rfl ?_ | refine Up0i.mk rfl ?_ | refine Up1.mk rfl ?_ | refine Up1i.mk rfl ?_ | refine Up2.mk rfl ?_ | refine Up2i.mk rfl ?_) | (refine Col.mk rfl rfl rfl ?_) | (refine Coli.mk rfl rfl rfl rfl ?_))
        refine ⟨_, 0, rfl, ?_, Nat.zero_le _, rfl⟩
        refine congrArg (fun x => [gvar g, SObj.dead, SObj.dead, SObj.row 4 1 x]) (bitsR_congr fun t ht => ?_)
        simp
      · rintro m vals σ ⟨j, rfl, rfl, hj, rfl⟩
        repeat' ((conv => whnf); first | (with_reducible first | refine onBool_intro (fun _ => ?_) (fun _ => ?_) | refine And.intro (Ob.mk (Nat.le_of_ble_eq_true rfl)) ?_ | refine And.intro (Ob.mk rfl) ?_ | exact ⟨rfl, rfl⟩ | refine And.intro (Ob.mk (fun h => h)) ?_) | (with_reducible refine Or.inl (And.intro (Ob.mk (Flat.map ?_)) ?_); exact fun _ => rfl) | (refine Or.inl (And.intro (Ob.mk (flat_of rfl)) ?_)) | (refine Or.inl (And.intro (Ob.mk ⟨rfl, rfl, rfl, rfl⟩) ?_)) | (refine Or.inl (And.intro (Ob.mk ⟨rfl, rfl, rfl⟩) ?_)) | (refine And.intro (Ob.mk ⟨rfl, rfl⟩) ?_) | (with_reducible refine Or.inr ?_) | (refine And.intro (Ob.mk (flat_of rfl)) ?_) | (with_reducible refine And.intro (Ob.mk (Flat.map ?_)) ?_; exact fun _ => rfl) | (with_reducible first | exact Ob.mk (Flat.map fun _ => rfl) | refine And.intro ?_ ?_ | apply exG.mk | apply exGS.mk | exact Dd.nil) | (refine Dd.same _ ?_) | (refine Dd.dead _ ?_) | (with_reducible first | apply exQ.mk | apply exP.mk) | (refine EqP.mk rfl rfl) | (with_reducible apply exW.mk) | (refine EqW.mk rfl) | (with_reducible first | intro _ | refine Dn.mk ?_) | (refine exS.full (by first | rfl | (simp; done) | (simp; omega)) ?_) | (refine And.intro (Ob.mk ⟨rfl, rfl, by first | rfl | (simp; done) | (simp; omega)⟩) ?_) | (with_reducible refine exE.mapD ?_) | (refine exL.int ?_) | (with_reducible first | refine Up0.mk rfl ?_ | refine Up0i.mk rfl ?_ | refine Up1.mk rfl ?_ | refine Up1i.mk rfl ?_ | refine Up2.mk rfl ?_ | refine Up2i.mk rfl ?_) | (refine Col.mk rfl rfl rfl ?_) | (refine Coli.mk rfl rfl rfl rfl ?_))
        all_goals (try (refine Ob.mk ?_; first | assumption | exact ⟨rfl, rfl⟩ | exact ⟨rfl, rfl, rfl⟩ | (refine ⟨rfl, rfl, ?_⟩; simp only [List.length_map, List.length_take, List.length_append, els_len, List.length_replicate]; omega) | (intro h; exact h) | (intro h; rw [h]; rfl) | (intro h; simp_all; done) | (refine bytes_le (n := 1048577) ?_ rfl; simp only [ltI_iff, ltI_not, leI_iff, leI_not, eqI_iff, eqI_not, List.length_map, bif_and, bif_or, Bool.and_eq_true, Bool.and_eq_false_iff, Bool.or_eq_true, Bool.or_eq_false_iff, Bool.not_eq_true', Bool.not_eq_false', Int.toNat_natCast, beq_iff_eq, beq_eq_false_iff_ne, decide_eq_true_eq, decide_eq_false_iff_not, bel_iff, bel_not, wthn_iff, wthn_not, els_len, mixL_len, Nat.zero_add, List.length_set, List.length_take] at *; omega) | (simp only [ltI_iff, ltI_not, leI_iff, leI_not, eqI_iff, eqI_not, List.length_map, bif_and, bif_or, Bool.and_eq_true, Bool.and_eq_false_iff, Bool.or_eq_true, Bool.or_eq_false_iff, Bool.not_eq_true', Bool.not_eq_false', Int.toNat_natCast, beq_iff_eq, beq_eq_false_iff_ne, decide_eq_true_eq, decide_eq_false_iff_not, bel_iff, bel_not, wthn_iff, wthn_not, els_len, mixL_len, Nat.zero_add, List.length_set, List.length_take, Int.ofNat_eq_natCast] at *; omega)))
        · refine Ob.mk ?_
          simp only [List.length_map, List.length_range, Int.toNat_natCast]
          exact hNi.2
        · rename_i h2
          refine Ob.mk ?_
          simp only [List.length_map, List.length_range]
          simp only [ltI_iff, ltI_not, leI_iff, leI_not, eqI_iff, eqI_not, List.length_map, bif_and, bif_or, Bool.and_eq_true, Bool.and_eq_false_iff, Bool.or_eq_true, Bool.or_eq_false_iff, Bool.not_eq_true', Bool.not_eq_false', Int.toNat_natCast, beq_iff_eq, beq_eq_false_iff_ne, decide_eq_true_eq, decide_eq_false_iff_not] at *
          omega
        · rename_i h2 h3
          refine Ob.mk ?_
          simp only [List.length_map, List.length_range]
          simp only [ltI_iff, ltI_not, leI_iff, leI_not, eqI_iff, eqI_not, List.length_map, bif_and, bif_or, Bool.and_eq_true, Bool.and_eq_false_iff, Bool.or_eq_true, Bool.or_eq_false_iff, Bool.not_eq_true', Bool.not_eq_false', Int.toNat_natCast, beq_iff_eq, beq_eq_false_iff_ne, decide_eq_true_eq, decide_eq_false_iff_not] at *
          omega
        · rename_i h2 h3
          have hltj : j < g.temps.toNat := by simp only [ltI_iff, ltI_not, leI_iff, leI_not, eqI_iff, eqI_not, List.length_map, bif_and, bif_or, Bool.and_eq_true, Bool.and_eq_false_iff, Bool.or_eq_true, Bool.or_eq_false_iff, Bool.not_eq_true', Bool.not_eq_false', Int.toNat_natCast, beq_iff_eq, beq_eq_false_iff_ne, decide_eq_true_eq, decide_eq_false_iff_not] at *; omega
          conv => whnf
          refine ⟨g.temps.toNat - (j + 1), by omega, j + 1, ?_, ?_, hltj, rfl⟩
          · rw [addI_i64 (by omega) (by omega)]; rfl
          · rw [Nat.zero_add, Int.toNat_natCast]
            refine congrArg (fun x => [gvar g, SObj.dead, SObj.dead, SObj.row 4 1 x]) (Eq.trans bitsR_set (bitsR_congr fun t ht => ?_))
            simp only [Int.toNat_natCast, nthD_range hltj, nthD_range hNb] at h3
            by_cases e : t = j
            · subst e; simp [h3]
            · rw [if_neg e]
              have : decide (t < j + 1) = decide (t < j) := by simp; omega
              rw [this]
        · rename_i h2 h3
          have hltj : j < g.temps.toNat := by simp only [ltI_iff, ltI_not, leI_iff, leI_not, eqI_iff, eqI_not, List.length_map, bif_and, bif_or, Bool.and_eq_true, Bool.and_eq_false_iff, Bool.or_eq_true, Bool.or_eq_false_iff, Bool.not_eq_true', Bool.not_eq_false', Int.toNat_natCast, beq_iff_eq, beq_eq_false_iff_ne, decide_eq_true_eq, decide_eq_false_iff_not] at *; omega
          conv => whnf
          refine ⟨g.temps.toNat - (j + 1), by omega, j + 1, ?_, ?_, hltj, rfl⟩
          · rw [addI_i64 (by omega) (by omega)]; rfl
          · refine congrArg (fun x => [gvar g, SObj.dead, SObj.dead, SObj.row 4 1 x]) (bitsR_congr fun t ht => ?_)
            simp only [Int.toNat_natCast, nthD_range hltj, nthD_range hNb] at h3
            by_cases e : t = j
            · subst e; simp [h3]
            · have : decide (t < j + 1) = decide (t < j) := by simp; omega
              rw [this]
        · rename_i h2
          have hge : g.temps.toNat ≤ j := by simp only [ltI_iff, ltI_not, leI_iff, leI_not, eqI_iff, eqI_not, List.length_map, bif_and, bif_or, Bool.and_eq_true, Bool.and_eq_false_iff, Bool.or_eq_true, Bool.or_eq_false_iff, Bool.not_eq_true', Bool.not_eq_false', Int.toNat_natCast, beq_iff_eq, beq_eq_false_iff_ne, decide_eq_true_eq, decide_eq_false_iff_not] at *; omega
          conv => whnf
          refine ⟨(nextN g b).length - (i + 1), by omega, i + 1, ?_, ?_, hlt, rfl⟩
          · rw [addI_i64 (by omega) (by omega)]; rfl
          · refine congrArg (fun x => [gvar g, SObj.dead, SObj.row 4 1 x]) (bitsR_congr fun t ht => ?_)
            rw [take_any hlt, decide_eq_true (show t < j by omega)]; simp
    · rename_i h1
      have hge : (nextN g b).length ≤ i := by simp only [ltI_iff, ltI_not, leI_iff, leI_not, eqI_iff, eqI_not, List.length_map, bif_and, bif_or, Bool.and_eq_true, Bool.and_eq_false_iff, Bool.or_eq_true, Bool.or_eq_false_iff, Bool.not_eq_true', Bool.not_eq_false', Int.toNat_natCast, beq_iff_eq, beq_eq_false_iff_ne, decide_eq_true_eq, decide_eq_false_iff_not] at *; omega
      rw [List.take_of_length_le hge]
      conv => whnf
      refine LoopVC.mk [12, 7] [] (fun m vals σ => ∃ j : Nat, vals = [.t (.int .i64 j), .osl 3 0 g.temps.toNat] ∧ σ = [gvar g, .dead, .dead, .row 4 1 (bitsR g.temps.toNat fun t => (nextN g b).any (fun s => at' s.toNat t) || ((eUsesN (nthD g.blocks b).fin).take j).contains (t : Int))] ∧ j ≤ (eUsesN (nthD g.blocks b).fin).length ∧ m = (eUsesN (nthD g.blocks b).fin).length - j) ?_ ?_
      · repeat' ((conv => whnf); first | (with_reducible first | refine onBool_intro (fun _ => ?_) (fun _ => ?_) | refine And.intro (Ob.mk (Nat.le_of_ble_eq_true rfl)) ?_ | refine And.intro (Ob.mk rfl) ?_ | exact ⟨rfl, rfl⟩ | refine And.intro (Ob.mk (fun h => h)) ?_) | (with_reducible refine Or.inl (And.intro (Ob.mk (Flat.map ?_)) ?_); exact fun _ => rfl) | (refine Or.inl (And.intro (Ob.mk (flat_of rfl)) ?_)) | (refine Or.inl (And.intro (Ob.mk ⟨rfl, rfl, rfl, rfl⟩) ?_)) | (refine Or.inl (And.intro (Ob.mk ⟨rfl, rfl, rfl⟩) ?_)) | (refine And.intro (Ob.mk ⟨rfl, rfl⟩) ?_) | (with_reducible refine Or.inr ?_) | (refine And.intro (Ob.mk (flat_of rfl)) ?_) | (with_reducible refine And.intro (Ob.mk (Flat.map ?_)) ?_; exact fun _ => rfl) | (with_reducible first | exact Ob.mk (Flat.map fun _ => rfl) | refine And.intro ?_ ?_ | apply exG.mk | apply exGS.mk | exact Dd.nil) | (refine Dd.same _ ?_) | (refine Dd.dead _ ?_) | (with_reducible first | apply exQ.mk | apply exP.mk) | (refine EqP.mk rfl rfl) | (with_reducible apply exW.mk) | (refine EqW.mk rfl) | (with_reducible first | intro _ | refine Dn.mk ?_) | (refine exS.full (by first | rfl | (simp; done) | (simp; omega)) ?_) | (refine And.intro (Ob.mk ⟨rfl, rfl, by first | rfl | (simp; done) | (simp; omega)⟩) ?_) | (with_reducible refine exE.mapD ?_) | (refine exL.int ?_) | (with_reducible first | refine Up0.mk rfl ?_ | refine Up0i.mk rfl ?_ | refine Up1.mk rfl ?_ | refine Up1i.mk rfl ?_ | refine Up2.mk rfl ?_ | refine Up2i.mk rfl ?_) | (refine Col.mk rfl rfl rfl ?_) | (refine Coli.mk rfl rfl rfl rfl ?_))
        refine ⟨_, 0, rfl, ?_, Nat.zero_le _, rfl⟩
        refine congrArg (fun x => [gvar g, SObj.dead, SObj.dead, SObj.row 4 1 x]) (bitsR_congr fun t ht => ?_)
        simp
      · rintro m vals σ ⟨j, rfl, rfl, hj, rfl⟩
        repeat' ((conv => whnf); first | (with_reducible first | refine onBool_intro (fun _ => ?_) (fun _ => ?_) | refine And.intro (Ob.mk (Nat.le_of_ble_eq_true rfl)) ?_ | refine And.intro (Ob.mk rfl) ?_ | exact ⟨rfl, rfl⟩ | refine And.intro (Ob.mk (fun h => h)) ?_) | (with_reducible refine Or.inl (And.intro (Ob.mk (Flat.map ?_)) ?_); exact fun _ => rfl) | (refine Or.inl (And.intro (Ob.mk (flat_of rfl)) ?_)) | (refine Or.inl (And.intro (Ob.mk ⟨rfl, rfl, rfl, rfl⟩) ?_)) | (refine Or.inl (And.intro (Ob.mk ⟨rfl, rfl, rfl⟩) ?_)) | (refine And.intro (Ob.mk ⟨rfl, rfl⟩) ?_) | (with_reducible refine Or.inr ?_) | (refine And.intro (Ob.mk (flat_of rfl)) ?_) | (with_reducible refine And.intro (Ob.mk (Flat.map ?_)) ?_; exact fun _ => rfl) | (with_reducible first | exact Ob.mk (Flat.map fun _ => rfl) | refine And.intro ?_ ?_ | apply exG.mk | apply exGS.mk | exact Dd.nil) | (refine Dd.same _ ?_) | (refine Dd.dead _ ?_) | (with_reducible first | apply exQ.mk | apply exP.mk) | (refine EqP.mk rfl rfl) | (with_reducible apply exW.mk) | (refine EqW.mk rfl) | (with_reducible first | intro _ | refine Dn.mk ?_) | (refine exS.full (by first | rfl | (simp; done) | (simp; omega)) ?_) | (refine And.intro (Ob.mk ⟨rfl, rfl, by first | rfl | (simp; done) | (simp; omega)⟩) ?_) | (with_reducible refine exE.mapD ?_) | (refine exL.int ?_) | (with_reducible first | refine Up0.mk rfl ?_ | refine Up0i.mk rfl ?_ | refine Up1.mk rfl ?_ | refine Up1i.mk rfl ?_ | refine Up2.mk rfl ?_ | refine Up2i.mk rfl ?_) | (refine Col.mk rfl rfl rfl ?_) | (refine Coli.mk rfl rfl rfl rfl ?_))
        all_goals (try (refine Ob.mk ?_; first | assumption | exact ⟨rfl, rfl⟩ | exact ⟨rfl, rfl, rfl⟩ | (refine ⟨rfl, rfl, ?_⟩; simp only [List.length_map, List.length_take, List.length_append, els_len, List.length_replicate]; omega) | (intro h; exact h) | (intro h; rw [h]; rfl) | (intro h; simp_all; done) | (refine bytes_le (n := 1048577) ?_ rfl; simp only [ltI_iff, ltI_not, leI_iff, leI_not, eqI_iff, eqI_not, List.length_map, bif_and, bif_or, Bool.and_eq_true, Bool.and_eq_false_iff, Bool.or_eq_true, Bool.or_eq_false_iff, Bool.not_eq_true', Bool.not_eq_false', Int.toNat_natCast, beq_iff_eq, beq_eq_false_iff_ne, decide_eq_true_eq, decide_eq_false_iff_not, bel_iff, bel_not, wthn_iff, wthn_not, els_len, mixL_len, Nat.zero_add, List.length_set, List.length_take] at *; omega) | (simp only [ltI_iff, ltI_not, leI_iff, leI_not, eqI_iff, eqI_not, List.length_map, bif_and, bif_or, Bool.and_eq_true, Bool.and_eq_false_iff, Bool.or_eq_true, Bool.or_eq_false_iff, Bool.not_eq_true', Bool.not_eq_false', Int.toNat_natCast, beq_iff_eq, beq_eq_false_iff_ne, decide_eq_true_eq, decide_eq_false_iff_not, bel_iff, bel_not, wthn_iff, wthn_not, els_len, mixL_len, Nat.zero_add, List.length_set, List.length_take, Int.ofNat_eq_natCast] at *; omega)))
        · rename_i h2
          simp only [ltI_iff, ltI_not, leI_iff, leI_not, eqI_iff, eqI_not, List.length_map, bif_and, bif_or, Bool.and_eq_true, Bool.and_eq_false_iff, Bool.or_eq_true, Bool.or_eq_false_iff, Bool.not_eq_true', Bool.not_eq_false', Int.toNat_natCast, beq_iff_eq, beq_eq_false_iff_ne, decide_eq_true_eq, decide_eq_false_iff_not] at *
          have hEj := hE j (by omega)
          refine Ob.mk ?_
          exact hEj.1
        · rename_i h2
          simp only [ltI_iff, ltI_not, leI_iff, leI_not, eqI_iff, eqI_not, List.length_map, bif_and, bif_or, Bool.and_eq_true, Bool.and_eq_false_iff, Bool.or_eq_true, Bool.or_eq_false_iff, Bool.not_eq_true', Bool.not_eq_false', Int.toNat_natCast, beq_iff_eq, beq_eq_false_iff_ne, decide_eq_true_eq, decide_eq_false_iff_not] at *
          have hEj := hE j (by omega)
          refine Ob.mk ?_
          omega
        · rename_i h2
          simp only [ltI_iff, ltI_not, leI_iff, leI_not, eqI_iff, eqI_not, List.length_map, bif_and, bif_or, Bool.and_eq_true, Bool.and_eq_false_iff, Bool.or_eq_true, Bool.or_eq_false_iff, Bool.not_eq_true', Bool.not_eq_false', Int.toNat_natCast, beq_iff_eq, beq_eq_false_iff_ne, decide_eq_true_eq, decide_eq_false_iff_not] at *
          have hEj := hE j (by omega)
          refine Ob.mk ?_
          simp only [List.length_map, List.length_range]
          omega
        · rename_i h2
          simp only [ltI_iff, ltI_not, leI_iff, leI_not, eqI_iff, eqI_not, List.length_map, bif_and, bif_or, Bool.and_eq_true, Bool.and_eq_false_iff, Bool.or_eq_true, Bool.or_eq_false_iff, Bool.not_eq_true', Bool.not_eq_false', Int.toNat_natCast, beq_iff_eq, beq_eq_false_iff_ne, decide_eq_true_eq, decide_eq_false_iff_not] at *
          have hltj : j < (eUsesN (nthD g.blocks b).fin).length := by omega
          have hEj := hE j hltj
          conv => whnf
          refine ⟨(eUsesN (nthD g.blocks b).fin).length - (j + 1), by omega, j + 1, ?_, ?_, hltj, rfl⟩
          · rw [addI_i64 (by omega) (by omega)]; rfl
          · rw [Nat.zero_add]
            refine congrArg (fun x => [gvar g, SObj.dead, SObj.dead, SObj.row 4 1 x]) (Eq.trans bitsR_set (bitsR_congr fun t ht => ?_))
            rw [take_contains hltj]
            by_cases e : t = (nthD (eUsesN (nthD g.blocks b).fin) j).toNat
            · rw [if_pos e]
              have : ((t : Int) == nthD (eUsesN (nthD g.blocks b).fin) j) = true := by rw [beq_iff_eq]; omega
              rw [this]; simp
            · rw [if_neg e]
              have : ((t : Int) == nthD (eUsesN (nthD g.blocks b).fin) j) = false := by rw [beq_eq_false_iff_ne]; omega
              rw [this]; simp
        · exact Ob.mk ⟨rfl, rfl, by simp⟩
        · refine Ob.mk fun x hx c hc => ?_
          obtain ⟨k, _, rfl⟩ := List.mem_map.1 hx
          simp only [T.cells, List.mem_singleton] at hc
          subst hc
          exact .plain _ (.bool _)
        · rename_i h2
          have hge2 : (eUsesN (nthD g.blocks b).fin).length ≤ j := by simp only [ltI_iff, ltI_not, leI_iff, leI_not, eqI_iff, eqI_not, List.length_map, bif_and, bif_or, Bool.and_eq_true, Bool.and_eq_false_iff, Bool.or_eq_true, Bool.or_eq_false_iff, Bool.not_eq_true', Bool.not_eq_false', Int.toNat_natCast, beq_iff_eq, beq_eq_false_iff_ne, decide_eq_true_eq, decide_eq_false_iff_not] at *; omega
          rw [List.take_of_length_le hge2]
          exact rfl
end Go.Proofs.YtgnafgebenlffaaDoor.Am

/- Which temps are needed ahead of an instruction, by the document's answer. -/
namespace Go.Proofs.YtgnafgebenlffaaDoor.Am
open Go Go.Proofs
set_option maxRecDepth 10000
set_option maxHeartbeats 2000000
set_option linter.unusedVariables false
set_option linter.unusedSimpArgs false
abbrev ivar (x : Ins) : SObj := .var 57 [.t (.int .i64 x.op), .t (.int .i64 x.d), .t (.int .i64 x.a), .t (.int .i64 x.b), .t (.int .i64 x.f), .t (.int .u32 x.n), .t (ilist x.args), .t (ilist x.arrs)]
theorem uses_len {x : Ins} (h : x.args.length ≤ 2 ^ 20) : (usesN x).length ≤ 2 ^ 20 := by
  unfold usesN
  repeat' split
  all_goals first | exact h | simp
theorem back64 (x : Ins) (hx : x.args.length ≤ 2 ^ 20) (n : Nat) (hn : n ≤ 8000) (hu : ∀ t ∈ usesN x, 0 ≤ t ∧ t < n) (hs : setsN x < n) (f : Nat → Bool) :
    ICalls Tryd.prog 42 [.t x.t, .osl 0 0 n] [.row 4 1 (bitsR n f)] (fun v σ => Ob (v = .tup [] ∧ σ = [.row 4 1 (bitsR n (backF x f)), ivar x])) := by
  have hul := uses_len hx
  have hU : ∀ i, i < (usesN x).length → 0 ≤ nthD (usesN x) i ∧ nthD (usesN x) i < n := fun i hi => hu _ (nthD_mem hi)
  refine ICalls.inline (I := fun _ => false) ttOk Tryd.func42 rfl ?_
  repeat' ((conv => whnf); first | (with_reducible first | refine onBool_intro (fun _ => ?_) (fun _ => ?_) | refine And.intro (Ob.mk (Nat.le_of_ble_eq_true rfl)) ?_ | refine And.intro (Ob.mk rfl) ?_ | exact ⟨rfl, rfl⟩ | refine And.intro (Ob.mk (fun h => h)) ?_) | (with_reducible refine Or.inl (And.intro (Ob.mk (Flat.map ?_)) ?_); exact fun _ => rfl) | (refine Or.inl (And.intro (Ob.mk (flat_of rfl)) ?_)) | (refine Or.inl (And.intro (Ob.mk ⟨rfl, rfl, rfl, rfl⟩) ?_)) | (refine Or.inl (And.intro (Ob.mk ⟨rfl, rfl, rfl⟩) ?_)) | (refine And.intro (Ob.mk ⟨rfl, rfl⟩) ?_) | (with_reducible refine Or.inr ?_) | (refine And.intro (Ob.mk (flat_of rfl)) ?_) | (with_reducible refine And.intro (Ob.mk (Flat.map ?_)) ?_; exact fun _ => rfl) | (with_reducible first | exact Ob.mk (Flat.map fun _ => rfl) | refine And.intro ?_ ?_ | apply exG.mk | apply exGS.mk | exact Dd.nil) | (refine Dd.same _ ?_) | (refine Dd.dead _ ?_) | (with_reducible first | apply exQ.mk | apply exP.mk) | (refine EqP.mk rfl rfl) | (with_reducible apply exW.mk) | (refine EqW.mk rfl) | (with_reducible first | intro _ | refine Dn.mk ?_) | (refine exS.full (by first | rfl | (simp; done) | (simp; omega)) ?_) | (refine And.intro (Ob.mk ⟨rfl, rfl, by first | rfl | (simp; done) | (simp; omega)⟩) ?_) | (with_reducible refine exE.mapD ?_) | (refine exL.int ?_) | (with_reducible first | refine Up0.mk rfl ?_ | refine Up0i.mk rfl ?_ | refine Up1.mk rfl ?_ | refine Up1i.mk rfl ?_ | refine Up2.mk rfl ?_ | refine Up2i.mk rfl ?_) | (refine Col.mk rfl rfl rfl ?_) | (refine Coli.mk rfl rfl rfl rfl ?_) | (refine PCalls.mono (sets26 _) ?_; rintro _ rfl) | (refine PCalls.mono (uses32 _ hx) ?_; rintro _ rfl))
  all_goals (try (refine Ob.mk ?_; first | assumption | exact ⟨rfl, rfl⟩ | exact ⟨rfl, rfl, rfl⟩ | (refine ⟨rfl, rfl, ?_⟩; simp only [List.length_map, List.length_take, List.length_append, els_len, List.length_replicate]; omega) | (intro h; exact h) | (intro h; rw [h]; rfl) | (intro h; simp_all; done) | (refine bytes_le (n := 1048577) ?_ rfl; simp only [ltI_iff, ltI_not, leI_iff, leI_not, eqI_iff, eqI_not, List.length_map, bif_and, bif_or, Bool.and_eq_true, Bool.and_eq_false_iff, Bool.or_eq_true, Bool.or_eq_false_iff, Bool.not_eq_true', Bool.not_eq_false', Int.toNat_natCast, beq_iff_eq, beq_eq_false_iff_ne, decide_eq_true_eq, decide_eq_false_iff_not, bel_iff, bel_not, wthn_iff, wthn_not, els_len, mixL_len, Nat.zero_add, List.length_set, List.length_take] at *; omega) | (simp only [ltI_iff, ltI_not, leI_iff, leI_not, eqI_iff, eqI_not, List.length_map, bif_and, bif_or, Bool.and_eq_true, Bool.and_eq_false_iff, Bool.or_eq_true, Bool.or_eq_false_iff, Bool.not_eq_true', Bool.not_eq_false', Int.toNat_natCast, beq_iff_eq, beq_eq_false_iff_ne, decide_eq_true_eq, decide_eq_false_iff_not, bel_iff, bel_not, wthn_iff, wthn_not, els_len, mixL_len, Nat.zero_add, List.length_set, List.length_take, Int.ofNat_eq_natCast] at *; omega)))
  · rename_i h1
    simp only [ltI_iff, ltI_not, leI_iff, leI_not, eqI_iff, eqI_not, List.length_map, bif_and, bif_or, Bool.and_eq_true, Bool.and_eq_false_iff, Bool.or_eq_true, Bool.or_eq_false_iff, Bool.not_eq_true', Bool.not_eq_false', Int.toNat_natCast, beq_iff_eq, beq_eq_false_iff_ne, decide_eq_true_eq, decide_eq_false_iff_not] at *
    exact Ob.mk (by simp only [List.length_range]; omega)
  all_goals
    rename_i h1
    conv => whnf
    refine LoopVC.upS 6 [] (usesN x).length (fun i => [.row 4 1 (bitsR n fun t => ((usesN x).take i).contains (t : Int) || (f t && !(setsN x == (t : Int)))), ivar x]) (fun _ => True) ?_ ?_
    · repeat' ((conv => whnf); first | (with_reducible first | refine onBool_intro (fun _ => ?_) (fun _ => ?_) | refine And.intro (Ob.mk (Nat.le_of_ble_eq_true rfl)) ?_ | refine And.intro (Ob.mk rfl) ?_ | exact ⟨rfl, rfl⟩ | refine And.intro (Ob.mk (fun h => h)) ?_) | (with_reducible refine Or.inl (And.intro (Ob.mk (Flat.map ?_)) ?_); exact fun _ => rfl) | (refine Or.inl (And.intro (Ob.mk (flat_of rfl)) ?_)) | (refine Or.inl (And.intro (Ob.mk ⟨rfl, rfl, rfl, rfl⟩) ?_)) | (refine Or.inl (And.intro (Ob.mk ⟨rfl, rfl, rfl⟩) ?_)) | (refine And.intro (Ob.mk ⟨rfl, rfl⟩) ?_) | (with_reducible refine Or.inr ?_) | (refine And.intro (Ob.mk (flat_of rfl)) ?_) | (with_reducible refine And.intro (Ob.mk (Flat.map ?_)) ?_; exact fun _ => rfl) | (with_reducible first | exact Ob.mk (Flat.map fun _ => rfl) | refine And.intro ?_ ?_ | apply exG.mk | apply exGS.mk | exact Dd.nil) | (refine Dd.same _ ?_) | (refine Dd.dead _ ?_) | (with_reducible first | apply exQ.mk | apply exP.mk) | (refine EqP.mk rfl rfl) | (with_reducible apply exW.mk) | (refine EqW.mk rfl) | (with_reducible first | intro _ | refine Dn.mk ?_) | (refine exS.full (by first | rfl | (simp; done) | (simp; omega)) ?_) | (refine And.intro (Ob.mk ⟨rfl, rfl, by first | rfl | (simp; done) | (simp; omega)⟩) ?_) | (with_reducible refine exE.mapD ?_) | (refine exL.int ?_) | (with_reducible first | refine Up0.mk rfl ?_ | refine Up0i.mk rfl ?_ | refine Up1.mk rfl ?_ | refine Up1i.mk rfl ?_ | refine Up2.mk rfl ?_ | refine Up2i.mk rfl ?_) | (refine Col.mk rfl rfl rfl ?_) | (refine Coli.mk rfl rfl rfl rfl ?_) | (refine UpSi.mk ?_))
      first
      | refine Ob.mk ⟨congrArg (fun y => [SObj.row 4 1 y, ivar x]) (Eq.trans bitsR_set (bitsR_congr fun t ht => ?_)), trivial⟩
        simp only [ltI_iff, ltI_not, leI_iff, leI_not, eqI_iff, eqI_not, List.length_map, bif_and, bif_or, Bool.and_eq_true, Bool.and_eq_false_iff, Bool.or_eq_true, Bool.or_eq_false_iff, Bool.not_eq_true', Bool.not_eq_false', Int.toNat_natCast, beq_iff_eq, beq_eq_false_iff_ne, decide_eq_true_eq, decide_eq_false_iff_not] at *
        by_cases e : t = 0 + (setsN x).toNat
        · rw [if_pos e]
          have : (setsN x == (t : Int)) = true := by rw [beq_iff_eq]; omega
          rw [this]; simp
        · rw [if_neg e]
          have : (setsN x == (t : Int)) = false := by rw [beq_eq_false_iff_ne]; omega
          rw [this]; simp
      | refine Ob.mk ⟨congrArg (fun y => [SObj.row 4 1 y, ivar x]) (bitsR_congr fun t ht => ?_), trivial⟩
        simp only [ltI_iff, ltI_not, leI_iff, leI_not, eqI_iff, eqI_not, List.length_map, bif_and, bif_or, Bool.and_eq_true, Bool.and_eq_false_iff, Bool.or_eq_true, Bool.or_eq_false_iff, Bool.not_eq_true', Bool.not_eq_false', Int.toNat_natCast, beq_iff_eq, beq_eq_false_iff_ne, decide_eq_true_eq, decide_eq_false_iff_not] at *
        have : (setsN x == (t : Int)) = false := by rw [beq_eq_false_iff_ne]; omega
        rw [this]; simp
    · rintro i hi -
      repeat' ((conv => whnf); first | (with_reducible first | refine onBool_intro (fun _ => ?_) (fun _ => ?_) | refine And.intro (Ob.mk (Nat.le_of_ble_eq_true rfl)) ?_ | refine And.intro (Ob.mk rfl) ?_ | exact ⟨rfl, rfl⟩ | refine And.intro (Ob.mk (fun h => h)) ?_) | (with_reducible refine Or.inl (And.intro (Ob.mk (Flat.map ?_)) ?_); exact fun _ => rfl) | (refine Or.inl (And.intro (Ob.mk (flat_of rfl)) ?_)) | (refine Or.inl (And.intro (Ob.mk ⟨rfl, rfl, rfl, rfl⟩) ?_)) | (refine Or.inl (And.intro (Ob.mk ⟨rfl, rfl, rfl⟩) ?_)) | (refine And.intro (Ob.mk ⟨rfl, rfl⟩) ?_) | (with_reducible refine Or.inr ?_) | (refine And.intro (Ob.mk (flat_of rfl)) ?_) | (with_reducible refine And.intro (Ob.mk (Flat.map ?_)) ?_; exact fun _ => rfl) | (with_reducible first | exact Ob.mk (Flat.map fun _ => rfl) | refine And.intro ?_ ?_ | apply exG.mk | apply exGS.mk | exact Dd.nil) | (refine Dd.same _ ?_) | (refine Dd.dead _ ?_) | (with_reducible first | apply exQ.mk | apply exP.mk) | (refine EqP.mk rfl rfl) | (with_reducible apply exW.mk) | (refine EqW.mk rfl) | (with_reducible first | intro _ | refine Dn.mk ?_) | (refine exS.full (by first | rfl | (simp; done) | (simp; omega)) ?_) | (refine And.intro (Ob.mk ⟨rfl, rfl, by first | rfl | (simp; done) | (simp; omega)⟩) ?_) | (with_reducible refine exE.mapD ?_) | (refine exL.int ?_) | (with_reducible first | refine Up0.mk rfl ?_ | refine Up0i.mk rfl ?_ | refine Up1.mk rfl ?_ | refine Up1i.mk rfl ?_ | refine Up2.mk rfl ?_ | refine Up2i.mk rfl ?_) | (refine Col.mk rfl rfl rfl ?_) | (refine Coli.mk rfl rfl rfl rfl ?_) | (refine UpS.mk ?_))
      all_goals (try (refine Ob.mk ?_; first | assumption | exact ⟨rfl, rfl⟩ | exact ⟨rfl, rfl, rfl⟩ | (refine ⟨rfl, rfl, ?_⟩; simp only [List.length_map, List.length_take, List.length_append, els_len, List.length_replicate]; omega) | (intro h; exact h) | (intro h; rw [h]; rfl) | (intro h; simp_all; done) | (refine bytes_le (n := 1048577) ?_ rfl; simp only [ltI_iff, ltI_not, leI_iff, leI_not, eqI_iff, eqI_not, List.length_map, bif_and, bif_or, Bool.and_eq_true, Bool.and_eq_false_iff, Bool.or_eq_true, Bool.or_eq_false_iff, Bool.not_eq_true', Bool.not_eq_false', Int.toNat_natCast, beq_iff_eq, beq_eq_false_iff_ne, decide_eq_true_eq, decide_eq_false_iff_not, bel_iff, bel_not, wthn_iff, wthn_not, els_len, mixL_len, Nat.zero_add, List.length_set, List.length_take] at *; omega) | (simp only [ltI_iff, ltI_not, leI_iff, leI_not, eqI_iff, eqI_not, List.length_map, bif_and, bif_or, Bool.and_eq_true, Bool.and_eq_false_iff, Bool.or_eq_true, Bool.or_eq_false_iff, Bool.not_eq_true', Bool.not_eq_false', Int.toNat_natCast, beq_iff_eq, beq_eq_false_iff_ne, decide_eq_true_eq, decide_eq_false_iff_not, bel_iff, bel_not, wthn_iff, wthn_not, els_len, mixL_len, Nat.zero_add, List.length_set, List.length_take, Int.ofNat_eq_natCast] at *; omega)))
      · rename_i h2
        simp only [ltI_iff, ltI_not, leI_iff, leI_not, eqI_iff, eqI_not, List.length_map, bif_and, bif_or, Bool.and_eq_true, Bool.and_eq_false_iff, Bool.or_eq_true, Bool.or_eq_false_iff, Bool.not_eq_true', Bool.not_eq_false', Int.toNat_natCast, beq_iff_eq, beq_eq_false_iff_ne, decide_eq_true_eq, decide_eq_false_iff_not] at *
        exact Ob.mk (hU i (by omega)).1
      · rename_i h2
        simp only [ltI_iff, ltI_not, leI_iff, leI_not, eqI_iff, eqI_not, List.length_map, bif_and, bif_or, Bool.and_eq_true, Bool.and_eq_false_iff, Bool.or_eq_true, Bool.or_eq_false_iff, Bool.not_eq_true', Bool.not_eq_false', Int.toNat_natCast, beq_iff_eq, beq_eq_false_iff_ne, decide_eq_true_eq, decide_eq_false_iff_not] at *
        exact Ob.mk (hU i (by omega)).2
      · rename_i h2
        simp only [ltI_iff, ltI_not, leI_iff, leI_not, eqI_iff, eqI_not, List.length_map, bif_and, bif_or, Bool.and_eq_true, Bool.and_eq_false_iff, Bool.or_eq_true, Bool.or_eq_false_iff, Bool.not_eq_true', Bool.not_eq_false', Int.toNat_natCast, beq_iff_eq, beq_eq_false_iff_ne, decide_eq_true_eq, decide_eq_false_iff_not] at *
        have := hU i (by omega)
        exact Ob.mk (by simp only [List.length_range]; omega)
      · rename_i h2
        simp only [ltI_iff, ltI_not, leI_iff, leI_not, eqI_iff, eqI_not, List.length_map, bif_and, bif_or, Bool.and_eq_true, Bool.and_eq_false_iff, Bool.or_eq_true, Bool.or_eq_false_iff, Bool.not_eq_true', Bool.not_eq_false', Int.toNat_natCast, beq_iff_eq, beq_eq_false_iff_ne, decide_eq_true_eq, decide_eq_false_iff_not] at *
        have hlt : i < (usesN x).length := by omega
        have hUi := hU i hlt
        refine Ob.mk ⟨hlt, addI_i64 (by omega) (by omega), congrArg (fun y => [SObj.row 4 1 y, ivar x]) (Eq.trans bitsR_set (bitsR_congr fun t ht => ?_)), trivial⟩
        rw [take_contains hlt]
        by_cases e : t = 0 + (nthD (usesN x) i).toNat
        · rw [if_pos e]
          have : ((t : Int) == nthD (usesN x) i) = true := by rw [beq_iff_eq]; omega
          rw [this]; simp
        · rw [if_neg e]
          have : ((t : Int) == nthD (usesN x) i) = false := by rw [beq_eq_false_iff_ne]; omega
          rw [this]; simp
      · rename_i h2
        have hge : (usesN x).length ≤ i := by simp only [ltI_iff, ltI_not, leI_iff, leI_not, eqI_iff, eqI_not, List.length_map, bif_and, bif_or, Bool.and_eq_true, Bool.and_eq_false_iff, Bool.or_eq_true, Bool.or_eq_false_iff, Bool.not_eq_true', Bool.not_eq_false', Int.toNat_natCast, beq_iff_eq, beq_eq_false_iff_ne, decide_eq_true_eq, decide_eq_false_iff_not] at *; omega
        rw [List.take_of_length_le hge]
        conv => whnf
        exact Ob.mk ⟨rfl, rfl⟩
end Go.Proofs.YtgnafgebenlffaaDoor.Am

/- The least answer of 'needed' in plain words. -/
namespace Go.Proofs.YtgnafgebenlffaaDoor.Am
open Go Go.Proofs
set_option maxRecDepth 10000
set_option maxHeartbeats 2000000
set_option linter.unusedVariables false
set_option linter.unusedSimpArgs false
def stepC (code : List Ins) (f : Nat → Bool) : Nat → Bool := code.foldr (fun x f => backF x f) f
def stepF (g : Graph) (at' : Nat → Nat → Bool) (b : Nat) : Nat → Bool := stepC (nthD g.blocks b).code (endF g at' b)
theorem stepC_cons {x : Ins} {l : List Ins} {f : Nat → Bool} : stepC (x :: l) f = backF x (stepC l f) := rfl
theorem drop_nthD {α : Type} [Inhabited α] {l : List α} {i : Nat} (h : i < l.length) : l.drop i = nthD l i :: l.drop (i + 1) := by rw [nthD_get h]; exact List.drop_eq_getElem_cons h
theorem backF_mono {x : Ins} {f f' : Nat → Bool} {t : Nat} (h : f t = true → f' t = true) : backF x f t = true → backF x f' t = true := by
  unfold backF
  simp only [Bool.or_eq_true, Bool.and_eq_true]
  rintro (h1 | ⟨h1, h2⟩)
  · exact .inl h1
  · exact .inr ⟨h h1, h2⟩
theorem stepC_mono {l : List Ins} {f f' : Nat → Bool} {t : Nat} (h : f t = true → f' t = true) : stepC l f t = true → stepC l f' t = true := by
  induction l with
  | nil => exact h
  | cons x l ih => exact backF_mono ih
def LeB (m n : Nat) (a b : Nat → Nat → Bool) : Prop := ∀ i, i < m → ∀ t, t < n → a i t = true → b i t = true
theorem LeB.refl {m n : Nat} {a : Nat → Nat → Bool} : LeB m n a a := fun _ _ _ _ h => h
theorem LeB.trans {m n : Nat} {a b c : Nat → Nat → Bool} (h : LeB m n a b) (k : LeB m n b c) : LeB m n a c := fun i hi t ht h1 => k i hi t ht (h i hi t ht h1)
theorem endF_mono {g : Graph} (hg : ∀ b, b < g.blocks.length → ∀ s ∈ nextN g b, 0 ≤ s ∧ s < g.blocks.length) {n : Nat} {a a' : Nat → Nat → Bool} (h : LeB g.blocks.length n a a') {b t : Nat} (hb : b < g.blocks.length) (ht : t < n) : endF g a b t = true → endF g a' b t = true := by
  unfold endF
  simp only [Bool.or_eq_true, List.any_eq_true]
  rintro (⟨s, hs, h1⟩ | h1)
  · have := hg b hb s hs
    exact .inl ⟨s, hs, h _ (by omega) t ht h1⟩
  · exact .inr h1
theorem stepF_mono {g : Graph} (hg : ∀ b, b < g.blocks.length → ∀ s ∈ nextN g b, 0 ≤ s ∧ s < g.blocks.length) {n : Nat} {a a' : Nat → Nat → Bool} (h : LeB g.blocks.length n a a') {b t : Nat} (hb : b < g.blocks.length) (ht : t < n) : stepF g a b t = true → stepF g a' b t = true :=
  stepC_mono (endF_mono hg h hb ht)
structure Way (g : Graph) (n : Nat) (a : Nat → Nat → Bool) : Prop where
  up : LeB g.blocks.length n a (stepF g a)
  least : ∀ p, LeB g.blocks.length n (stepF g p) p → LeB g.blocks.length n a p
structure Least (g : Graph) (n : Nat) (a : Nat → Nat → Bool) : Prop extends Way g n a where
  down : LeB g.blocks.length n (stepF g a) a
def setRow (a : Nat → Nat → Bool) (b : Nat) (f : Nat → Bool) : Nat → Nat → Bool := fun i => if i = b then f else a i
theorem Way.zero (g : Graph) (n : Nat) : Way g n fun _ _ => false := ⟨fun _ _ _ _ h => (nomatch h), fun _ _ _ _ _ _ h => (nomatch h)⟩
theorem Way.step_le {g : Graph} {n : Nat} {a : Nat → Nat → Bool} (h : Way g n a) {b : Nat} (hb : b < g.blocks.length) : LeB g.blocks.length n a (setRow a b (stepF g a b)) := by
  intro i hi t ht h1
  unfold setRow
  by_cases e : i = b
  · rw [if_pos e]; subst e; exact h.up _ hi t ht h1
  · rw [if_neg e]; exact h1
theorem Way.step {g : Graph} (hg : ∀ b, b < g.blocks.length → ∀ s ∈ nextN g b, 0 ≤ s ∧ s < g.blocks.length) {n : Nat} {a : Nat → Nat → Bool} (h : Way g n a) {b : Nat} (hb : b < g.blocks.length) : Way g n (setRow a b (stepF g a b)) := by
  have hle := h.step_le hb
  refine ⟨fun i hi t ht h1 => ?_, fun p hp i hi t ht h1 => ?_⟩
  · refine stepF_mono hg hle hi ht ?_
    unfold setRow at h1
    by_cases e : i = b
    · rw [if_pos e] at h1; rw [e]; exact h1
    · rw [if_neg e] at h1; exact h.up i hi t ht h1
  · unfold setRow at h1
    by_cases e : i = b
    · rw [if_pos e] at h1
      subst e
      exact hp _ hi t ht (stepF_mono hg (h.least p hp) hi ht h1)
    · rw [if_neg e] at h1; exact h.least p hp i hi t ht h1
def outs (m n : Nat) (a : Nat → Nat → Bool) : Nat := ((List.range m).map fun i => (List.range n).countP fun t => !a i t).sum
theorem countP_le {n : Nat} {f g : Nat → Bool} (h : ∀ t, t < n → f t = true → g t = true) : (List.range n).countP (fun t => !g t) ≤ (List.range n).countP (fun t => !f t) := by
  apply List.countP_mono_left
  intro t ht h1
  have := h t (by simpa using ht)
  cases hf : f t with
  | false => rfl
  | true => rw [this hf] at h1; exact h1
theorem countP_lt : ∀ {l : List Nat} {f g : Nat → Bool} (h : ∀ t ∈ l, f t = true → g t = true) {t : Nat} (ht : t ∈ l) (h1 : f t = false) (h2 : g t = true), l.countP (fun t => !g t) < l.countP (fun t => !f t)
  | x :: l, f, g, h, t, ht, h1, h2 => by
    have hle : l.countP (fun t => !g t) ≤ l.countP (fun t => !f t) := by
      apply List.countP_mono_left
      intro u hu h3
      have := h u (List.mem_cons_of_mem _ hu)
      cases hf : f u with
      | false => rfl
      | true => rw [this hf] at h3; exact h3
    rw [List.countP_cons, List.countP_cons]
    rcases List.mem_cons.1 ht with rfl | ht
    · rw [h1, h2]; simp; omega
    · have := countP_lt (fun u hu => h u (List.mem_cons_of_mem _ hu)) ht h1 h2
      have hx := h x (List.mem_cons_self ..)
      cases hf : f x with
      | false => cases hg : g x <;> simp <;> omega
      | true => rw [hx hf]; simp; omega
theorem sum_le : ∀ {l : List Nat} {F G : Nat → Nat} (h : ∀ i ∈ l, F i ≤ G i), (l.map F).sum ≤ (l.map G).sum
  | [], _, _, _ => Nat.le_refl _
  | x :: l, F, G, h => by
    have := sum_le (l := l) (F := F) (G := G) fun i hi => h i (List.mem_cons_of_mem _ hi)
    have := h x (List.mem_cons_self ..)
    simp only [List.map_cons, List.sum_cons]; omega
theorem sum_lt : ∀ {l : List Nat} {F G : Nat → Nat} (h : ∀ i ∈ l, F i ≤ G i) {i : Nat} (hi : i ∈ l) (h1 : F i < G i), (l.map F).sum < (l.map G).sum
  | x :: l, F, G, h, i, hi, h1 => by
    have hle := sum_le (l := l) (F := F) (G := G) fun i hi => h i (List.mem_cons_of_mem _ hi)
    have hx := h x (List.mem_cons_self ..)
    simp only [List.map_cons, List.sum_cons]
    rcases List.mem_cons.1 hi with rfl | hi
    · omega
    · have := sum_lt (fun i hi => h i (List.mem_cons_of_mem _ hi)) hi h1; omega
theorem outs_le {m n : Nat} {a b : Nat → Nat → Bool} (h : LeB m n a b) : outs m n b ≤ outs m n a :=
  sum_le fun i hi => countP_le fun t ht => h i (by simpa using hi) t ht
theorem outs_lt {m n : Nat} {a b : Nat → Nat → Bool} (h : LeB m n a b) {i t : Nat} (hi : i < m) (ht : t < n) (h1 : a i t ≠ b i t) : outs m n b < outs m n a := by
  have ha : a i t = false := by
    cases ha : a i t with
    | false => rfl
    | true => exact absurd (ha.trans (h i hi t ht ha).symm) h1
  have hb : b i t = true := by
    cases hb : b i t with
    | true => rfl
    | false => exact absurd (ha.trans hb.symm) h1
  exact sum_lt (fun i hi => countP_le fun t ht => h i (by simpa using hi) t ht) (i := i) (by simpa using hi)
    (countP_lt (fun t ht => h i hi t (by simpa using ht)) (t := t) (by simpa using ht) ha hb)
theorem Least.one {g : Graph} {n : Nat} {a b : Nat → Nat → Bool} (ha : Least g n a) (hb : Least g n b) {i t : Nat} (hi : i < g.blocks.length) (ht : t < n) : a i t = b i t := by
  rw [Bool.eq_iff_iff]
  exact ⟨ha.least b hb.down i hi t ht, hb.least a ha.down i hi t ht⟩
end Go.Proofs.YtgnafgebenlffaaDoor.Am

/- All that is needed, by the document's answer. -/
namespace Go.Proofs.YtgnafgebenlffaaDoor.Am
open Go Go.Proofs
set_option maxRecDepth 10000
set_option maxHeartbeats 2000000
set_option linter.unusedVariables false
set_option linter.unusedSimpArgs false
abbrev rowsR (m n : Nat) (a : Nat → Nat → Bool) : List T := (List.range m).map fun i => .nst 4 1 (bitsR n (a i))
theorem rowsR_le {m n : Nat} {a : Nat → Nat → Bool} : Le (.sl 1 (rowsR m n a)) (bitsT m n a) := by
  refine Le.slmap (f := fun i => T.nst 4 1 (bitsR n (a i))) (g := fun i => T.sl 1 (bitsR n (a i))) (fun i => ?_) (fun _ => rfl)
  exact .cons (nst_le _ _ _) .nil
theorem rowsR_set {m n b : Nat} {a : Nat → Nat → Bool} {f : Nat → Bool} : (rowsR m n a).set b (.nst 4 1 (bitsR n f)) = rowsR m n (setRow a b f) := by
  apply List.ext_getElem
  · simp
  · intro j h1 h2
    rw [List.getElem_set]
    simp only [List.getElem_map, List.getElem_range]
    unfold setRow
    by_cases h : b = j
    · subst h; simp
    · rw [if_neg h, if_neg (fun e => h e.symm)]
theorem endOf63k (g : Graph) (hg : g.fit) (z : Int) (hz : Ob (0 ≤ z ∧ z < g.blocks.length)) (a : Nat → Nat → Bool) {q : T → Prop} (hq : q (.own (.nst 4 1 (bitsR g.temps.toNat (endF g a z.toNat))))) : PCalls Tryd.prog 41 [g.t, .int .i64 z, .sl 1 (rowsR g.blocks.length g.temps.toNat a)] q := by
  obtain ⟨b, rfl⟩ := Int.eq_ofNat_of_zero_le hz.out.1
  exact PCalls.argsL (.cons (.refl _) (.cons (.refl _) (.cons rowsR_le .nil))) (PCalls.mono (endOf63 g hg b (by have := hz.out.2; omega) a) fun _ h => h ▸ hq)
theorem back64k (x : Ins) (n l : Nat) (hl : Ob (l = n)) (f : Nat → Bool) (h : Ob (x.args.length ≤ 2 ^ 20 ∧ n ≤ 8000 ∧ (∀ t ∈ usesN x, 0 ≤ t ∧ t < n) ∧ setsN x < n)) {q : SV → Sto → Prop} (hq : q (.tup []) [.row 4 1 (bitsR n (backF x f)), ivar x]) :
    ICalls Tryd.prog 42 [.t x.t, .osl 0 0 l] [.row 4 1 (bitsR n f)] q := by
  rw [hl.out]
  exact ICalls.mono (back64 x h.out.1 n h.out.2.1 h.out.2.2.1 h.out.2.2.2 f) fun v σ h => by obtain ⟨rfl, rfl⟩ := h.out; exact hq
theorem needed31 (g : Graph) (hg : g.fit) : PCalls Tryd.prog 23 [g.t] (fun r => ∃ a, Least g g.temps.toNat a ∧ r = bitsT g.blocks.length g.temps.toNat a) := by
  have ht := hg.temps
  have hb := hg.blocks
  refine PCalls.le (p := fun r => ∃ r', (∃ a, Least g g.temps.toNat a ∧ r' = bitsT g.blocks.length g.temps.toNat a) ∧ Le r r') ?_ fun r ⟨r', h1, h2⟩ => ⟨r', h2, h1⟩
  refine PCalls.of_bodyI (fun f => Nat.beq f 42) ttOk Tryd.func23 rfl ?_
  repeat' ((conv => whnf); first | (with_reducible first | refine onBool_intro (fun _ => ?_) (fun _ => ?_) | refine And.intro (Ob.mk (Nat.le_of_ble_eq_true rfl)) ?_ | refine And.intro (Ob.mk rfl) ?_ | exact ⟨rfl, rfl⟩ | refine And.intro (Ob.mk (fun h => h)) ?_) | (with_reducible refine Or.inl (And.intro (Ob.mk (Flat.map ?_)) ?_); exact fun _ => rfl) | (refine Or.inl (And.intro (Ob.mk (flat_of rfl)) ?_)) | (refine Or.inl (And.intro (Ob.mk ⟨rfl, rfl, rfl, rfl⟩) ?_)) | (refine Or.inl (And.intro (Ob.mk ⟨rfl, rfl, rfl⟩) ?_)) | (refine And.intro (Ob.mk ⟨rfl, rfl⟩) ?_) | (with_reducible refine Or.inr ?_) | (refine And.intro (Ob.mk (flat_of rfl)) ?_) | (with_reducible refine And.intro (Ob.mk (Flat.map ?_)) ?_; exact fun _ => rfl) | (with_reducible first | exact Ob.mk (Flat.map fun _ => rfl) | refine And.intro ?_ ?_ | apply exG.mk | apply exGS.mk | exact Dd.nil) | (refine Dd.same _ ?_) | (refine Dd.dead _ ?_) | (with_reducible first | apply exQ.mk | apply exP.mk) | (refine EqP.mk rfl rfl) | (with_reducible apply exW.mk) | (refine EqW.mk rfl) | (with_reducible first | intro _ | refine Dn.mk ?_) | (refine exS.full (by first | rfl | (simp; done) | (simp; omega)) ?_) | (refine And.intro (Ob.mk ⟨rfl, rfl, by first | rfl | (simp; done) | (simp; omega)⟩) ?_) | (with_reducible refine exE.mapD ?_) | (refine exL.int ?_) | (with_reducible first | refine Up0.mk rfl ?_ | refine Up0i.mk rfl ?_ | refine Up1.mk rfl ?_ | refine Up1i.mk rfl ?_ | refine Up2.mk rfl ?_ | refine Up2i.mk rfl ?_) | (refine Col.mk rfl rfl rfl ?_) | (refine Coli.mk rfl rfl rfl rfl ?_))
  all_goals (try (refine Ob.mk ?_; first | assumption | exact ⟨rfl, rfl⟩ | exact ⟨rfl, rfl, rfl⟩ | (refine ⟨rfl, rfl, ?_⟩; simp only [List.length_map, List.length_take, List.length_append, els_len, List.length_replicate]; omega) | (intro h; exact h) | (intro h; rw [h]; rfl) | (intro h; simp_all; done) | (refine bytes_le (n := 1048577) ?_ rfl; simp only [ltI_iff, ltI_not, leI_iff, leI_not, eqI_iff, eqI_not, List.length_map, bif_and, bif_or, Bool.and_eq_true, Bool.and_eq_false_iff, Bool.or_eq_true, Bool.or_eq_false_iff, Bool.not_eq_true', Bool.not_eq_false', Int.toNat_natCast, beq_iff_eq, beq_eq_false_iff_ne, decide_eq_true_eq, decide_eq_false_iff_not, bel_iff, bel_not, wthn_iff, wthn_not, els_len, mixL_len, Nat.zero_add, List.length_set, List.length_take] at *; omega) | (simp only [ltI_iff, ltI_not, leI_iff, leI_not, eqI_iff, eqI_not, List.length_map, bif_and, bif_or, Bool.and_eq_true, Bool.and_eq_false_iff, Bool.or_eq_true, Bool.or_eq_false_iff, Bool.not_eq_true', Bool.not_eq_false', Int.toNat_natCast, beq_iff_eq, beq_eq_false_iff_ne, decide_eq_true_eq, decide_eq_false_iff_not, bel_iff, bel_not, wthn_iff, wthn_not, els_len, mixL_len, Nat.zero_add, List.length_set, List.length_take, Int.ofNat_eq_natCast] at *; omega)))
  conv => whnf
  refine LoopVC.mk [4, 3] [(3, 68, 1)] (fun m vals σ => ∃ i : Nat, vals = [.t (.int .i64 i), .osl 1 0 i] ∧ σ = [gvar g, .row 68 1 (rowsR i g.temps.toNat fun _ _ => false)] ∧ i ≤ g.blocks.length ∧ m = g.blocks.length - i) ?_ ?_
  · repeat' ((conv => whnf); first | (with_reducible first | refine onBool_intro (fun _ => ?_) (fun _ => ?_) | refine And.intro (Ob.mk (Nat.le_of_ble_eq_true rfl)) ?_ | refine And.intro (Ob.mk rfl) ?_ | exact ⟨rfl, rfl⟩ | refine And.intro (Ob.mk (fun h => h)) ?_) | (with_reducible refine Or.inl (And.intro (Ob.mk (Flat.map ?_)) ?_); exact fun _ => rfl) | (refine Or.inl (And.intro (Ob.mk (flat_of rfl)) ?_)) | (refine Or.inl (And.intro (Ob.mk ⟨rfl, rfl, rfl, rfl⟩) ?_)) | (refine Or.inl (And.intro (Ob.mk ⟨rfl, rfl, rfl⟩) ?_)) | (refine And.intro (Ob.mk ⟨rfl, rfl⟩) ?_) | (with_reducible refine Or.inr ?_) | (refine And.intro (Ob.mk (flat_of rfl)) ?_) | (with_reducible refine And.intro (Ob.mk (Flat.map ?_)) ?_; exact fun _ => rfl) | (with_reducible first | exact Ob.mk (Flat.map fun _ => rfl) | refine And.intro ?_ ?_ | apply exG.mk | apply exGS.mk | exact Dd.nil) | (refine Dd.same _ ?_) | (refine Dd.dead _ ?_) | (with_reducible first | apply exQ.mk | apply exP.mk) | (refine EqP.mk rfl rfl) | (with_reducible apply exW.mk) | (refine EqW.mk rfl) | (with_reducible first | intro _ | refine Dn.mk ?_) | (refine exS.full (by first | rfl | (simp; done) | (simp; omega)) ?_) | (refine And.intro (Ob.mk ⟨rfl, rfl, by first | rfl | (simp; done) | (simp; omega)⟩) ?_) | (with_reducible refine exE.mapD ?_) | (refine exL.int ?_) | (with_reducible first | refine Up0.mk rfl ?_ | refine Up0i.mk rfl ?_ | refine Up1.mk rfl ?_ | refine Up1i.mk rfl ?_ | refine Up2.mk rfl ?_ | refine Up2i.mk rfl ?_) | (refine Col.mk rfl rfl rfl ?_) | (refine Coli.mk rfl rfl rfl rfl ?_))
    exact ⟨_, 0, rfl, rfl, Nat.zero_le _, rfl⟩
  · rintro m vals σ ⟨i, rfl, rfl, hi, rfl⟩
    repeat' ((conv => whnf); first | (with_reducible first | refine onBool_intro (fun _ => ?_) (fun _ => ?_) | refine And.intro (Ob.mk (Nat.le_of_ble_eq_true rfl)) ?_ | refine And.intro (Ob.mk rfl) ?_ | exact ⟨rfl, rfl⟩ | refine And.intro (Ob.mk (fun h => h)) ?_) | (with_reducible refine Or.inl (And.intro (Ob.mk (Flat.map ?_)) ?_); exact fun _ => rfl) | (refine Or.inl (And.intro (Ob.mk (flat_of rfl)) ?_)) | (refine Or.inl (And.intro (Ob.mk ⟨rfl, rfl, rfl, rfl⟩) ?_)) | (refine Or.inl (And.intro (Ob.mk ⟨rfl, rfl, rfl⟩) ?_)) | (refine And.intro (Ob.mk ⟨rfl, rfl⟩) ?_) | (with_reducible refine Or.inr ?_) | (refine And.intro (Ob.mk (flat_of rfl)) ?_) | (with_reducible refine And.intro (Ob.mk (Flat.map ?_)) ?_; exact fun _ => rfl) | (with_reducible first | exact Ob.mk (Flat.map fun _ => rfl) | refine And.intro ?_ ?_ | apply exG.mk | apply exGS.mk | exact Dd.nil) | (refine Dd.same _ ?_) | (refine Dd.dead _ ?_) | (with_reducible first | apply exQ.mk | apply exP.mk) | (refine EqP.mk rfl rfl) | (with_reducible apply exW.mk) | (refine EqW.mk rfl) | (with_reducible first | intro _ | refine Dn.mk ?_) | (refine exS.full (by first | rfl | (simp; done) | (simp; omega)) ?_) | (refine And.intro (Ob.mk ⟨rfl, rfl, by first | rfl | (simp; done) | (simp; omega)⟩) ?_) | (with_reducible refine exE.mapD ?_) | (refine exL.int ?_) | (with_reducible first | refine Up0.mk rfl ?_ | refine Up0i.mk rfl ?_ | refine Up1.mk rfl ?_ | refine Up1i.mk rfl ?_ | refine Up2.mk rfl ?_ | refine Up2i.mk rfl ?_) | (refine Col.mk rfl rfl rfl ?_) | (refine Coli.mk rfl rfl rfl rfl ?_))
    all_goals (try (refine Ob.mk ?_; first | assumption | exact ⟨rfl, rfl⟩ | exact ⟨rfl, rfl, rfl⟩ | (refine ⟨rfl, rfl, ?_⟩; simp only [List.length_map, List.length_take, List.length_append, els_len, List.length_replicate]; omega) | (intro h; exact h) | (intro h; rw [h]; rfl) | (intro h; simp_all; done) | (refine bytes_le (n := 1048577) ?_ rfl; simp only [ltI_iff, ltI_not, leI_iff, leI_not, eqI_iff, eqI_not, List.length_map, bif_and, bif_or, Bool.and_eq_true, Bool.and_eq_false_iff, Bool.or_eq_true, Bool.or_eq_false_iff, Bool.not_eq_true', Bool.not_eq_false', Int.toNat_natCast, beq_iff_eq, beq_eq_false_iff_ne, decide_eq_true_eq, decide_eq_false_iff_not, bel_iff, bel_not, wthn_iff, wthn_not, els_len, mixL_len, Nat.zero_add, List.length_set, List.length_take] at *; omega) | (simp only [ltI_iff, ltI_not, leI_iff, leI_not, eqI_iff, eqI_not, List.length_map, bif_and, bif_or, Bool.and_eq_true, Bool.and_eq_false_iff, Bool.or_eq_true, Bool.or_eq_false_iff, Bool.not_eq_true', Bool.not_eq_false', Int.toNat_natCast, beq_iff_eq, beq_eq_false_iff_ne, decide_eq_true_eq, decide_eq_false_iff_not, bel_iff, bel_not, wthn_iff, wthn_not, els_len, mixL_len, Nat.zero_add, List.length_set, List.length_take, Int.ofNat_eq_natCast] at *; omega)))
    · exact Ob.mk (by show g.temps * (1 : Nat) ≤ _; omega)
    · exact Ob.mk ⟨rfl, rfl, by simp⟩
    · rename_i h1
      have hlt : i < g.blocks.length := by simp only [ltI_iff, ltI_not, leI_iff, leI_not, eqI_iff, eqI_not, List.length_map, bif_and, bif_or, Bool.and_eq_true, Bool.and_eq_false_iff, Bool.or_eq_true, Bool.or_eq_false_iff, Bool.not_eq_true', Bool.not_eq_false', Int.toNat_natCast, beq_iff_eq, beq_eq_false_iff_ne, decide_eq_true_eq, decide_eq_false_iff_not] at *; omega
      conv => whnf
      refine ⟨g.blocks.length - (i + 1), by omega, i + 1, ?_, ?_, hlt, rfl⟩
      · rw [addI_i64 (by omega) (by omega)]; rfl
      · unfold rowsR
        rw [List.range_succ, List.map_append]
        exact congrArg (fun x => [gvar g, SObj.row 68 1 ((List.range i).map (fun _ => T.nst 4 1 (bitsR g.temps.toNat fun _ => false)) ++ [T.nst 4 1 x])]) (bitsR_zero _)
    · rename_i h1
      have hge : i = g.blocks.length := by simp only [ltI_iff, ltI_not, leI_iff, leI_not, eqI_iff, eqI_not, List.length_map, bif_and, bif_or, Bool.and_eq_true, Bool.and_eq_false_iff, Bool.or_eq_true, Bool.or_eq_false_iff, Bool.not_eq_true', Bool.not_eq_false', Int.toNat_natCast, beq_iff_eq, beq_eq_false_iff_ne, decide_eq_true_eq, decide_eq_false_iff_not] at *; omega
      subst hge
      conv => whnf
      refine LoopVC.mk [5, 3] [] (fun m vals σ => ∃ (ch : Bool) (a : Nat → Nat → Bool) (ep : Nat → Nat), vals = [.t (.bool ch), .osl 2 0 g.blocks.length] ∧ σ = [gvar g, .dead, .nd ep (.row 68 1 (rowsR g.blocks.length g.temps.toNat a))] ∧ ep 0 = 0 ∧ Way g g.temps.toNat a ∧ (ch = false → LeB g.blocks.length g.temps.toNat (stepF g a) a) ∧ m = 2 * outs g.blocks.length g.temps.toNat a + ch.toNat) ?_ ?_
      · repeat' ((conv => whnf); first | (with_reducible first | refine onBool_intro (fun _ => ?_) (fun _ => ?_) | refine And.intro (Ob.mk (Nat.le_of_ble_eq_true rfl)) ?_ | refine And.intro (Ob.mk rfl) ?_ | exact ⟨rfl, rfl⟩ | refine And.intro (Ob.mk (fun h => h)) ?_) | (with_reducible refine Or.inl (And.intro (Ob.mk (Flat.map ?_)) ?_); exact fun _ => rfl) | (refine Or.inl (And.intro (Ob.mk (flat_of rfl)) ?_)) | (refine Or.inl (And.intro (Ob.mk ⟨rfl, rfl, rfl, rfl⟩) ?_)) | (refine Or.inl (And.intro (Ob.mk ⟨rfl, rfl, rfl⟩) ?_)) | (refine And.intro (Ob.mk ⟨rfl, rfl⟩) ?_) | (with_reducible refine Or.inr ?_) | (refine And.intro (Ob.mk (flat_of rfl)) ?_) | (with_reducible refine And.intro (Ob.mk (Flat.map ?_)) ?_; exact fun _ => rfl) | (with_reducible first | exact Ob.mk (Flat.map fun _ => rfl) | refine And.intro ?_ ?_ | apply exG.mk | apply exGS.mk | exact Dd.nil) | (refine Dd.same _ ?_) | (refine Dd.dead _ ?_) | (with_reducible first | apply exQ.mk | apply exP.mk) | (refine EqP.mk rfl rfl) | (with_reducible apply exW.mk) | (refine EqW.mk rfl) | (with_reducible first | intro _ | refine Dn.mk ?_) | (refine exS.full (by first | rfl | (simp; done) | (simp; omega)) ?_) | (refine And.intro (Ob.mk ⟨rfl, rfl, by first | rfl | (simp; done) | (simp; omega)⟩) ?_) | (with_reducible refine exE.mapD ?_) | (refine exL.int ?_) | (with_reducible first | refine Up0.mk rfl ?_ | refine Up0i.mk rfl ?_ | refine Up1.mk rfl ?_ | refine Up1i.mk rfl ?_ | refine Up2.mk rfl ?_ | refine Up2i.mk rfl ?_) | (refine Col.mk rfl rfl rfl ?_) | (refine Coli.mk rfl rfl rfl rfl ?_))
        exact ⟨_, true, fun _ _ => false, e0, rfl, rfl, rfl, Way.zero _ _, (fun h => nomatch h), rfl⟩
      · rintro m vals σ ⟨ch, a, ep1, rfl, rfl, hep1, hw, hd, hm1⟩
        repeat' ((conv => whnf); first | (with_reducible first | refine onBool_intro (fun _ => ?_) (fun _ => ?_) | refine And.intro (Ob.mk (Nat.le_of_ble_eq_true rfl)) ?_ | refine And.intro (Ob.mk rfl) ?_ | exact ⟨rfl, rfl⟩ | refine And.intro (Ob.mk (fun h => h)) ?_) | (with_reducible refine Or.inl (And.intro (Ob.mk (Flat.map ?_)) ?_); exact fun _ => rfl) | (refine Or.inl (And.intro (Ob.mk (flat_of rfl)) ?_)) | (refine Or.inl (And.intro (Ob.mk ⟨rfl, rfl, rfl, rfl⟩) ?_)) | (refine Or.inl (And.intro (Ob.mk ⟨rfl, rfl, rfl⟩) ?_)) | (refine And.intro (Ob.mk ⟨rfl, rfl⟩) ?_) | (with_reducible refine Or.inr ?_) | (refine And.intro (Ob.mk (flat_of rfl)) ?_) | (with_reducible refine And.intro (Ob.mk (Flat.map ?_)) ?_; exact fun _ => rfl) | (with_reducible first | exact Ob.mk (Flat.map fun _ => rfl) | refine And.intro ?_ ?_ | apply exG.mk | apply exGS.mk | exact Dd.nil) | (refine Dd.same _ ?_) | (refine Dd.dead _ ?_) | (with_reducible first | apply exQ.mk | apply exP.mk) | (refine EqP.mk rfl rfl) | (with_reducible apply exW.mk) | (refine EqW.mk rfl) | (with_reducible first | intro _ | refine Dn.mk ?_) | (refine exS.full (by first | rfl | (simp; done) | (simp; omega)) ?_) | (refine And.intro (Ob.mk ⟨rfl, rfl, by first | rfl | (simp; done) | (simp; omega)⟩) ?_) | (with_reducible refine exE.mapD ?_) | (refine exL.int ?_) | (with_reducible first | refine Up0.mk rfl ?_ | refine Up0i.mk rfl ?_ | refine Up1.mk rfl ?_ | refine Up1i.mk rfl ?_ | refine Up2.mk rfl ?_ | refine Up2i.mk rfl ?_) | (refine Col.mk rfl rfl rfl ?_) | (refine Coli.mk rfl rfl rfl rfl ?_))
        all_goals (try (refine Ob.mk ?_; first | assumption | exact ⟨rfl, rfl⟩ | exact ⟨rfl, rfl, rfl⟩ | (refine ⟨rfl, rfl, ?_⟩; simp only [List.length_map, List.length_take, List.length_append, els_len, List.length_replicate]; omega) | (intro h; exact h) | (intro h; rw [h]; rfl) | (intro h; simp_all; done) | (refine bytes_le (n := 1048577) ?_ rfl; simp only [ltI_iff, ltI_not, leI_iff, leI_not, eqI_iff, eqI_not, List.length_map, bif_and, bif_or, Bool.and_eq_true, Bool.and_eq_false_iff, Bool.or_eq_true, Bool.or_eq_false_iff, Bool.not_eq_true', Bool.not_eq_false', Int.toNat_natCast, beq_iff_eq, beq_eq_false_iff_ne, decide_eq_true_eq, decide_eq_false_iff_not, bel_iff, bel_not, wthn_iff, wthn_not, els_len, mixL_len, Nat.zero_add, List.length_set, List.length_take] at *; omega) | (simp only [ltI_iff, ltI_not, leI_iff, leI_not, eqI_iff, eqI_not, List.length_map, bif_and, bif_or, Bool.and_eq_true, Bool.and_eq_false_iff, Bool.or_eq_true, Bool.or_eq_false_iff, Bool.not_eq_true', Bool.not_eq_false', Int.toNat_natCast, beq_iff_eq, beq_eq_false_iff_ne, decide_eq_true_eq, decide_eq_false_iff_not, bel_iff, bel_not, wthn_iff, wthn_not, els_len, mixL_len, Nat.zero_add, List.length_set, List.length_take, Int.ofNat_eq_natCast] at *; omega)))
        all_goals (try exact Ob.mk hep1.symm)
        · rename_i h1
          conv => whnf
          refine LoopVC.mk [6, 5, 3] [] (fun m vals σ => ∃ (i : Nat) (c2 : Bool) (a2 : Nat → Nat → Bool) (ep : Nat → Nat), vals = [.t (.int .i64 ((i : Int) - 1)), .t (.bool c2), .osl 3 0 g.blocks.length] ∧ σ = [gvar g, .dead, .dead, .nd ep (.row 68 1 (rowsR g.blocks.length g.temps.toNat a2))] ∧ ep 0 = 0 ∧ Way g g.temps.toNat a2 ∧ LeB g.blocks.length g.temps.toNat a a2 ∧
            (c2 = true → outs g.blocks.length g.temps.toNat a2 < outs g.blocks.length g.temps.toNat a) ∧ (c2 = false → ∀ j, j < g.blocks.length → i ≤ j → ∀ t, t < g.temps.toNat → stepF g a2 j t = a2 j t) ∧ i ≤ g.blocks.length ∧ m = i) ?_ ?_
          · repeat' ((conv => whnf); first | (with_reducible first | refine onBool_intro (fun _ => ?_) (fun _ => ?_) | refine And.intro (Ob.mk (Nat.le_of_ble_eq_true rfl)) ?_ | refine And.intro (Ob.mk rfl) ?_ | exact ⟨rfl, rfl⟩ | refine And.intro (Ob.mk (fun h => h)) ?_) | (with_reducible refine Or.inl (And.intro (Ob.mk (Flat.map ?_)) ?_); exact fun _ => rfl) | (refine Or.inl (And.intro (Ob.mk (flat_of rfl)) ?_)) | (refine Or.inl (And.intro (Ob.mk ⟨rfl, rfl, rfl, rfl⟩) ?_)) | (refine Or.inl (And.intro (Ob.mk ⟨rfl, rfl, rfl⟩) ?_)) | (refine And.intro (Ob.mk ⟨rfl, rfl⟩) ?_) | (with_reducible refine Or.inr ?_) | (refine And.intro (Ob.mk (flat_of rfl)) ?_) | (with_reducible refine And.intro (Ob.mk (Flat.map ?_)) ?_; exact fun _ => rfl) | (with_reducible first | exact Ob.mk (Flat.map fun _ => rfl) | refine And.intro ?_ ?_ | apply exG.mk | apply exGS.mk | exact Dd.nil) | (refine Dd.same _ ?_) | (refine Dd.dead _ ?_) | (with_reducible first | apply exQ.mk | apply exP.mk) | (refine EqP.mk rfl rfl) | (with_reducible apply exW.mk) | (refine EqW.mk rfl) | (with_reducible first | intro _ | refine Dn.mk ?_) | (refine exS.full (by first | rfl | (simp; done) | (simp; omega)) ?_) | (refine And.intro (Ob.mk ⟨rfl, rfl, by first | rfl | (simp; done) | (simp; omega)⟩) ?_) | (with_reducible refine exE.mapD ?_) | (refine exL.int ?_) | (with_reducible first | refine Up0.mk rfl ?_ | refine Up0i.mk rfl ?_ | refine Up1.mk rfl ?_ | refine Up1i.mk rfl ?_ | refine Up2.mk rfl ?_ | refine Up2i.mk rfl ?_) | (refine Col.mk rfl rfl rfl ?_) | (refine Coli.mk rfl rfl rfl rfl ?_))
            refine ⟨_, g.blocks.length, false, a, ep1, ?_, rfl, hep1, hw, LeB.refl, (fun h => nomatch h), (fun _ j hj hi => absurd hj (by omega)), Nat.le_refl _, rfl⟩
            rw [subI_i64 (by simp; omega) (by simp; omega), List.length_map]
            rfl
          · rintro m vals σ ⟨i, c2, a2, ep, rfl, rfl, hep, hw2, hle, hc, hf, hi, hmi⟩
            repeat' ((conv => whnf); first | (with_reducible first | refine onBool_intro (fun _ => ?_) (fun _ => ?_) | refine And.intro (Ob.mk (Nat.le_of_ble_eq_true rfl)) ?_ | refine And.intro (Ob.mk rfl) ?_ | exact ⟨rfl, rfl⟩ | refine And.intro (Ob.mk (fun h => h)) ?_) | (with_reducible refine Or.inl (And.intro (Ob.mk (Flat.map ?_)) ?_); exact fun _ => rfl) | (refine Or.inl (And.intro (Ob.mk (flat_of rfl)) ?_)) | (refine Or.inl (And.intro (Ob.mk ⟨rfl, rfl, rfl, rfl⟩) ?_)) | (refine Or.inl (And.intro (Ob.mk ⟨rfl, rfl, rfl⟩) ?_)) | (refine And.intro (Ob.mk ⟨rfl, rfl⟩) ?_) | (with_reducible refine Or.inr ?_) | (refine And.intro (Ob.mk (flat_of rfl)) ?_) | (with_reducible refine And.intro (Ob.mk (Flat.map ?_)) ?_; exact fun _ => rfl) | (with_reducible first | exact Ob.mk (Flat.map fun _ => rfl) | refine And.intro ?_ ?_ | apply exG.mk | apply exGS.mk | exact Dd.nil) | (refine Dd.same _ ?_) | (refine Dd.dead _ ?_) | (with_reducible first | apply exQ.mk | apply exP.mk) | (refine EqP.mk rfl rfl) | (with_reducible apply exW.mk) | (refine EqW.mk rfl) | (with_reducible first | intro _ | refine Dn.mk ?_) | (refine exS.full (by first | rfl | (simp; done) | (simp; omega)) ?_) | (refine And.intro (Ob.mk ⟨rfl, rfl, by first | rfl | (simp; done) | (simp; omega)⟩) ?_) | (with_reducible refine exE.mapD ?_) | (refine exL.int ?_) | (with_reducible first | refine Up0.mk rfl ?_ | refine Up0i.mk rfl ?_ | refine Up1.mk rfl ?_ | refine Up1i.mk rfl ?_ | refine Up2.mk rfl ?_ | refine Up2i.mk rfl ?_) | (refine Col.mk rfl rfl rfl ?_) | (refine Coli.mk rfl rfl rfl rfl ?_) | (refine endOf63k _ hg _ ?_ _ ?_))
            all_goals (try (refine Ob.mk ?_; first | assumption | exact ⟨rfl, rfl⟩ | exact ⟨rfl, rfl, rfl⟩ | (refine ⟨rfl, rfl, ?_⟩; simp only [List.length_map, List.length_take, List.length_append, els_len, List.length_replicate]; omega) | (intro h; exact h) | (intro h; rw [h]; rfl) | (intro h; simp_all; done) | (refine bytes_le (n := 1048577) ?_ rfl; simp only [ltI_iff, ltI_not, leI_iff, leI_not, eqI_iff, eqI_not, List.length_map, bif_and, bif_or, Bool.and_eq_true, Bool.and_eq_false_iff, Bool.or_eq_true, Bool.or_eq_false_iff, Bool.not_eq_true', Bool.not_eq_false', Int.toNat_natCast, beq_iff_eq, beq_eq_false_iff_ne, decide_eq_true_eq, decide_eq_false_iff_not, bel_iff, bel_not, wthn_iff, wthn_not, els_len, mixL_len, Nat.zero_add, List.length_set, List.length_take] at *; omega) | (simp only [ltI_iff, ltI_not, leI_iff, leI_not, eqI_iff, eqI_not, List.length_map, bif_and, bif_or, Bool.and_eq_true, Bool.and_eq_false_iff, Bool.or_eq_true, Bool.or_eq_false_iff, Bool.not_eq_true', Bool.not_eq_false', Int.toNat_natCast, beq_iff_eq, beq_eq_false_iff_ne, decide_eq_true_eq, decide_eq_false_iff_not, bel_iff, bel_not, wthn_iff, wthn_not, els_len, mixL_len, Nat.zero_add, List.length_set, List.length_take, Int.ofNat_eq_natCast] at *; omega)))
            all_goals (try exact Ob.mk hep.symm)
            · rename_i h1
              simp only [ltI_iff, ltI_not, leI_iff, leI_not, eqI_iff, eqI_not, List.length_map, bif_and, bif_or, Bool.and_eq_true, Bool.and_eq_false_iff, Bool.or_eq_true, Bool.or_eq_false_iff, Bool.not_eq_true', Bool.not_eq_false', Int.toNat_natCast, beq_iff_eq, beq_eq_false_iff_ne, decide_eq_true_eq, decide_eq_false_iff_not] at *
              have hblt : ((i : Int) - 1).toNat < g.blocks.length := by omega
              have hbm := nthD_mem hblt
              have hcl := (hg.tiny.all _ hbm).code
              conv => whnf
              refine LoopVC.mk [8] [] (fun m vals σ => ∃ k : Nat, vals = [.t (.int .i64 ((k : Int) - 1))] ∧ σ = [gvar g, .dead, .dead, .nd ep (.row 68 1 (rowsR g.blocks.length g.temps.toNat a2)), .row 4 1 (bitsR g.temps.toNat (stepC ((nthD g.blocks ((i : Int) - 1).toNat).code.drop k) (endF g a2 ((i : Int) - 1).toNat)))] ∧ k ≤ (nthD g.blocks ((i : Int) - 1).toNat).code.length ∧ m = k) ?_ ?_
              · repeat' ((conv => whnf); first | (with_reducible first | refine onBool_intro (fun _ => ?_) (fun _ => ?_) | refine And.intro (Ob.mk (Nat.le_of_ble_eq_true rfl)) ?_ | refine And.intro (Ob.mk rfl) ?_ | exact ⟨rfl, rfl⟩ | refine And.intro (Ob.mk (fun h => h)) ?_) | (with_reducible refine Or.inl (And.intro (Ob.mk (Flat.map ?_)) ?_); exact fun _ => rfl) | (refine Or.inl (And.intro (Ob.mk (flat_of rfl)) ?_)) | (refine Or.inl (And.intro (Ob.mk ⟨rfl, rfl, rfl, rfl⟩) ?_)) | (refine Or.inl (And.intro (Ob.mk ⟨rfl, rfl, rfl⟩) ?_)) | (refine And.intro (Ob.mk ⟨rfl, rfl⟩) ?_) | (with_reducible refine Or.inr ?_) | (refine And.intro (Ob.mk (flat_of rfl)) ?_) | (with_reducible refine And.intro (Ob.mk (Flat.map ?_)) ?_; exact fun _ => rfl) | (with_reducible first | exact Ob.mk (Flat.map fun _ => rfl) | refine And.intro ?_ ?_ | apply exG.mk | apply exGS.mk | exact Dd.nil) | (refine Dd.same _ ?_) | (refine Dd.dead _ ?_) | (with_reducible first | apply exQ.mk | apply exP.mk) | (refine EqP.mk rfl rfl) | (with_reducible apply exW.mk) | (refine EqW.mk rfl) | (with_reducible first | intro _ | refine Dn.mk ?_) | (refine exS.full (by first | rfl | (simp; done) | (simp; omega)) ?_) | (refine And.intro (Ob.mk ⟨rfl, rfl, by first | rfl | (simp; done) | (simp; omega)⟩) ?_) | (with_reducible refine exE.mapD ?_) | (refine exL.int ?_) | (with_reducible first | refine Up0.mk rfl ?_ | refine Up0i.mk rfl ?_ | refine Up1.mk rfl ?_ | refine Up1i.mk rfl ?_ | refine Up2.mk rfl ?_ | refine Up2i.mk rfl ?_) | (refine Col.mk rfl rfl rfl ?_) | (refine Coli.mk rfl rfl rfl rfl ?_))
                refine ⟨_, (nthD g.blocks ((i : Int) - 1).toNat).code.length, ?_, ?_, Nat.le_refl _, rfl⟩
                · rw [subI_i64 (by omega) (by omega)]
                · rw [List.drop_length]
                  exact rfl
              · rintro m vals σ ⟨k, rfl, rfl, hk, hmk⟩
                repeat' ((conv => whnf); first | (with_reducible first | refine onBool_intro (fun _ => ?_) (fun _ => ?_) | refine And.intro (Ob.mk (Nat.le_of_ble_eq_true rfl)) ?_ | refine And.intro (Ob.mk rfl) ?_ | exact ⟨rfl, rfl⟩ | refine And.intro (Ob.mk (fun h => h)) ?_) | (with_reducible refine Or.inl (And.intro (Ob.mk (Flat.map ?_)) ?_); exact fun _ => rfl) | (refine Or.inl (And.intro (Ob.mk (flat_of rfl)) ?_)) | (refine Or.inl (And.intro (Ob.mk ⟨rfl, rfl, rfl, rfl⟩) ?_)) | (refine Or.inl (And.intro (Ob.mk ⟨rfl, rfl, rfl⟩) ?_)) | (refine And.intro (Ob.mk ⟨rfl, rfl⟩) ?_) | (with_reducible refine Or.inr ?_) | (refine And.intro (Ob.mk (flat_of rfl)) ?_) | (with_reducible refine And.intro (Ob.mk (Flat.map ?_)) ?_; exact fun _ => rfl) | (with_reducible first | exact Ob.mk (Flat.map fun _ => rfl) | refine And.intro ?_ ?_ | apply exG.mk | apply exGS.mk | exact Dd.nil) | (refine Dd.same _ ?_) | (refine Dd.dead _ ?_) | (with_reducible first | apply exQ.mk | apply exP.mk) | (refine EqP.mk rfl rfl) | (with_reducible apply exW.mk) | (refine EqW.mk rfl) | (with_reducible first | intro _ | refine Dn.mk ?_) | (refine exS.full (by first | rfl | (simp; done) | (simp; omega)) ?_) | (refine And.intro (Ob.mk ⟨rfl, rfl, by first | rfl | (simp; done) | (simp; omega)⟩) ?_) | (with_reducible refine exE.mapD ?_) | (refine exL.int ?_) | (with_reducible first | refine Up0.mk rfl ?_ | refine Up0i.mk rfl ?_ | refine Up1.mk rfl ?_ | refine Up1i.mk rfl ?_ | refine Up2.mk rfl ?_ | refine Up2i.mk rfl ?_) | (refine Col.mk rfl rfl rfl ?_) | (refine Coli.mk rfl rfl rfl rfl ?_) | (refine ICalls.frame [4] rfl (back64k (nthD (nthD g.blocks ((i : Int) - 1).toNat).code ((k : Int) - 1).toNat) g.temps.toNat _ ?_ _ ?_ ?_)))
                all_goals (try (refine Ob.mk ?_; first | assumption | exact ⟨rfl, rfl⟩ | exact ⟨rfl, rfl, rfl⟩ | (refine ⟨rfl, rfl, ?_⟩; simp only [List.length_map, List.length_take, List.length_append, els_len, List.length_replicate]; omega) | (intro h; exact h) | (intro h; rw [h]; rfl) | (intro h; simp_all; done) | (refine bytes_le (n := 1048577) ?_ rfl; simp only [ltI_iff, ltI_not, leI_iff, leI_not, eqI_iff, eqI_not, List.length_map, bif_and, bif_or, Bool.and_eq_true, Bool.and_eq_false_iff, Bool.or_eq_true, Bool.or_eq_false_iff, Bool.not_eq_true', Bool.not_eq_false', Int.toNat_natCast, beq_iff_eq, beq_eq_false_iff_ne, decide_eq_true_eq, decide_eq_false_iff_not, bel_iff, bel_not, wthn_iff, wthn_not, els_len, mixL_len, Nat.zero_add, List.length_set, List.length_take] at *; omega) | (simp only [ltI_iff, ltI_not, leI_iff, leI_not, eqI_iff, eqI_not, List.length_map, bif_and, bif_or, Bool.and_eq_true, Bool.and_eq_false_iff, Bool.or_eq_true, Bool.or_eq_false_iff, Bool.not_eq_true', Bool.not_eq_false', Int.toNat_natCast, beq_iff_eq, beq_eq_false_iff_ne, decide_eq_true_eq, decide_eq_false_iff_not, bel_iff, bel_not, wthn_iff, wthn_not, els_len, mixL_len, Nat.zero_add, List.length_set, List.length_take, Int.ofNat_eq_natCast] at *; omega)))
                all_goals (try exact Ob.mk hep.symm)
                · exact Ob.mk (by simp)
                · rename_i h2
                  simp only [ltI_iff, ltI_not, leI_iff, leI_not, eqI_iff, eqI_not, List.length_map, bif_and, bif_or, Bool.and_eq_true, Bool.and_eq_false_iff, Bool.or_eq_true, Bool.or_eq_false_iff, Bool.not_eq_true', Bool.not_eq_false', Int.toNat_natCast, beq_iff_eq, beq_eq_false_iff_ne, decide_eq_true_eq, decide_eq_false_iff_not] at *
                  have hxm := nthD_mem (l := (nthD g.blocks ((i : Int) - 1).toNat).code) (i := ((k : Int) - 1).toNat) (by omega)
                  have htn : (g.temps.toNat : Int) = g.temps := by omega
                  refine Ob.mk ⟨(hg.tiny.all _ hbm).args _ hxm, by omega, ?_, ?_⟩
                  · rw [htn]; exact hg.uses _ hbm _ hxm
                  · rw [htn]; exact (hg.sets _ hbm _ hxm).2
                · rename_i h2
                  conv => whnf
                  have hk1 : 1 ≤ k := by simp only [ltI_iff, ltI_not, leI_iff, leI_not, eqI_iff, eqI_not, List.length_map, bif_and, bif_or, Bool.and_eq_true, Bool.and_eq_false_iff, Bool.or_eq_true, Bool.or_eq_false_iff, Bool.not_eq_true', Bool.not_eq_false', Int.toNat_natCast, beq_iff_eq, beq_eq_false_iff_ne, decide_eq_true_eq, decide_eq_false_iff_not] at *; omega
                  refine ⟨m - 1, by omega, k - 1, ?_, ?_, by omega, by omega⟩
                  · rw [subI_i64 (by omega) (by omega)]
                    exact congrArg (fun z => [SV.t (.int .i64 z)]) (by omega)
                  · have e1 : ((k : Int) - 1).toNat = k - 1 := by omega
                    rw [drop_nthD (i := k - 1) (by omega), show k - 1 + 1 = k by omega, stepC_cons, e1]
                · rename_i h2
                  have hk0 : k = 0 := by simp only [ltI_iff, ltI_not, leI_iff, leI_not, eqI_iff, eqI_not, List.length_map, bif_and, bif_or, Bool.and_eq_true, Bool.and_eq_false_iff, Bool.or_eq_true, Bool.or_eq_false_iff, Bool.not_eq_true', Bool.not_eq_false', Int.toNat_natCast, beq_iff_eq, beq_eq_false_iff_ne, decide_eq_true_eq, decide_eq_false_iff_not] at *; omega
                  subst hk0
                  rw [List.drop_zero]
                  conv => whnf
                  refine LoopVC.mk [9, 5] [] (fun m vals σ => ∃ (t : Nat) (c3 : Bool), vals = [.t (.int .i64 t), .t (.bool c3)] ∧ σ = [gvar g, .dead, .dead, .nd ep (.row 68 1 (rowsR g.blocks.length g.temps.toNat a2)), .row 4 1 (bitsR g.temps.toNat (stepF g a2 ((i : Int) - 1).toNat))] ∧ t ≤ g.temps.toNat ∧ (c3 = true ↔ c2 = true ∨ ∃ u, u < t ∧ stepF g a2 ((i : Int) - 1).toNat u ≠ a2 ((i : Int) - 1).toNat u) ∧ m = g.temps.toNat - t) ?_ ?_
                  · conv => whnf
                    exact ⟨_, 0, c2, rfl, rfl, Nat.zero_le _, ⟨.inl, fun h => h.elim id fun ⟨u, hu, _⟩ => absurd hu (Nat.not_lt_zero _)⟩, rfl⟩
                  · rintro m vals σ ⟨t, c3, rfl, rfl, htn, hc3, hmt⟩
                    repeat' ((conv => whnf); first | (with_reducible first | refine onBool_intro (fun _ => ?_) (fun _ => ?_) | refine And.intro (Ob.mk (Nat.le_of_ble_eq_true rfl)) ?_ | refine And.intro (Ob.mk rfl) ?_ | exact ⟨rfl, rfl⟩ | refine And.intro (Ob.mk (fun h => h)) ?_) | (with_reducible refine Or.inl (And.intro (Ob.mk (Flat.map ?_)) ?_); exact fun _ => rfl) | (refine Or.inl (And.intro (Ob.mk (flat_of rfl)) ?_)) | (refine Or.inl (And.intro (Ob.mk ⟨rfl, rfl, rfl, rfl⟩) ?_)) | (refine Or.inl (And.intro (Ob.mk ⟨rfl, rfl, rfl⟩) ?_)) | (refine And.intro (Ob.mk ⟨rfl, rfl⟩) ?_) | (with_reducible refine Or.inr ?_) | (refine And.intro (Ob.mk (flat_of rfl)) ?_) | (with_reducible refine And.intro (Ob.mk (Flat.map ?_)) ?_; exact fun _ => rfl) | (with_reducible first | exact Ob.mk (Flat.map fun _ => rfl) | refine And.intro ?_ ?_ | apply exG.mk | apply exGS.mk | exact Dd.nil) | (refine Dd.same _ ?_) | (refine Dd.dead _ ?_) | (with_reducible first | apply exQ.mk | apply exP.mk) | (refine EqP.mk rfl rfl) | (with_reducible apply exW.mk) | (refine EqW.mk rfl) | (with_reducible first | intro _ | refine Dn.mk ?_) | (refine exS.full (by first | rfl | (simp; done) | (simp; omega)) ?_) | (refine And.intro (Ob.mk ⟨rfl, rfl, by first | rfl | (simp; done) | (simp; omega)⟩) ?_) | (with_reducible refine exE.mapD ?_) | (refine exL.int ?_) | (with_reducible first | refine Up0.mk rfl ?_ | refine Up0i.mk rfl ?_ | refine Up1.mk rfl ?_ | refine Up1i.mk rfl ?_ | refine Up2.mk rfl ?_ | refine Up2i.mk rfl ?_) | (refine Col.mk rfl rfl rfl ?_) | (refine Coli.mk rfl rfl rfl rfl ?_) | (refine drawVC.all _ _ (by kernel_rfl) ?_))
                    all_goals (try (refine Ob.mk ?_; first | assumption | exact ⟨rfl, rfl⟩ | exact ⟨rfl, rfl, rfl⟩ | (refine ⟨rfl, rfl, ?_⟩; simp only [List.length_map, List.length_take, List.length_append, els_len, List.length_replicate]; omega) | (intro h; exact h) | (intro h; rw [h]; rfl) | (intro h; simp_all; done) | (refine bytes_le (n := 1048577) ?_ rfl; simp only [ltI_iff, ltI_not, leI_iff, leI_not, eqI_iff, eqI_not, List.length_map, bif_and, bif_or, Bool.and_eq_true, Bool.and_eq_false_iff, Bool.or_eq_true, Bool.or_eq_false_iff, Bool.not_eq_true', Bool.not_eq_false', Int.toNat_natCast, beq_iff_eq, beq_eq_false_iff_ne, decide_eq_true_eq, decide_eq_false_iff_not, bel_iff, bel_not, wthn_iff, wthn_not, els_len, mixL_len, Nat.zero_add, List.length_set, List.length_take] at *; omega) | (simp only [ltI_iff, ltI_not, leI_iff, leI_not, eqI_iff, eqI_not, List.length_map, bif_and, bif_or, Bool.and_eq_true, Bool.and_eq_false_iff, Bool.or_eq_true, Bool.or_eq_false_iff, Bool.not_eq_true', Bool.not_eq_false', Int.toNat_natCast, beq_iff_eq, beq_eq_false_iff_ne, decide_eq_true_eq, decide_eq_false_iff_not, bel_iff, bel_not, wthn_iff, wthn_not, els_len, mixL_len, Nat.zero_add, List.length_set, List.length_take, Int.ofNat_eq_natCast] at *; omega)))
                    all_goals (try exact Ob.mk hep.symm)
                    all_goals (try (refine Ob.mk ?_; simp only [List.length_map, List.length_range, ltI_iff, ltI_not, leI_iff, leI_not] at *; omega))
                    · rename_i h3 h4
                      have hlt : t < g.temps.toNat := by simp only [ltI_iff, ltI_not, leI_iff, leI_not, eqI_iff, eqI_not, List.length_map, bif_and, bif_or, Bool.and_eq_true, Bool.and_eq_false_iff, Bool.or_eq_true, Bool.or_eq_false_iff, Bool.not_eq_true', Bool.not_eq_false', Int.toNat_natCast, beq_iff_eq, beq_eq_false_iff_ne, decide_eq_true_eq, decide_eq_false_iff_not] at *; omega
                      rw [Nat.zero_add, Nat.zero_add, nthD_range hblt, Int.toNat_natCast, nthD_range hlt] at h4
                      conv => whnf
                      refine ⟨g.temps.toNat - (t + 1), by omega, t + 1, true, ?_, rfl, hlt, ⟨fun _ => .inr ⟨t, by omega, ?_⟩, fun _ => rfl⟩, rfl⟩
                      · rw [addI_i64 (by omega) (by omega)]; rfl
                      · intro e; rw [e] at h4; simp at h4
                    · rename_i h3 h4
                      have hlt : t < g.temps.toNat := by simp only [ltI_iff, ltI_not, leI_iff, leI_not, eqI_iff, eqI_not, List.length_map, bif_and, bif_or, Bool.and_eq_true, Bool.and_eq_false_iff, Bool.or_eq_true, Bool.or_eq_false_iff, Bool.not_eq_true', Bool.not_eq_false', Int.toNat_natCast, beq_iff_eq, beq_eq_false_iff_ne, decide_eq_true_eq, decide_eq_false_iff_not] at *; omega
                      rw [Nat.zero_add, Nat.zero_add, nthD_range hblt, Int.toNat_natCast, nthD_range hlt] at h4
                      have he : stepF g a2 ((i : Int) - 1).toNat t = a2 ((i : Int) - 1).toNat t := by simpa using h4
                      conv => whnf
                      refine ⟨g.temps.toNat - (t + 1), by omega, t + 1, c3, ?_, rfl, hlt, hc3.trans ⟨fun h => h.elim .inl fun ⟨u, hu, h5⟩ => .inr ⟨u, by omega, h5⟩, fun h => h.elim .inl fun ⟨u, hu, h5⟩ => .inr ⟨u, ?_, h5⟩⟩, rfl⟩
                      · rw [addI_i64 (by omega) (by omega)]; rfl
                      · rcases Nat.lt_or_ge u t with h | h
                        · exact h
                        · rw [show u = t by omega] at h5; exact absurd he h5
                    · exact Ob.mk ⟨rfl, rfl, by simp⟩
                    · rename_i h3
                      have hge : t = g.temps.toNat := by simp only [ltI_iff, ltI_not, leI_iff, leI_not, eqI_iff, eqI_not, List.length_map, bif_and, bif_or, Bool.and_eq_true, Bool.and_eq_false_iff, Bool.or_eq_true, Bool.or_eq_false_iff, Bool.not_eq_true', Bool.not_eq_false', Int.toNat_natCast, beq_iff_eq, beq_eq_false_iff_ne, decide_eq_true_eq, decide_eq_false_iff_not] at *; omega
                      conv => whnf
                      have hi1 : 1 ≤ i := by omega
                      refine ⟨i - 1, by omega, i - 1, c3, setRow a2 ((i : Int) - 1).toNat (stepF g a2 ((i : Int) - 1).toNat), bumpE 1 ep, ?_, ?_, hep, hw2.step hg.next hblt, hle.trans (hw2.step_le hblt), ?_, ?_, by omega, rfl⟩
                      · rw [subI_i64 (by omega) (by omega)]
                        exact congrArg (fun z => [SV.t (.int .i64 z), SV.t (.bool c3), SV.osl 3 0 g.blocks.length]) (by omega)
                      · refine congrArg (fun z => [gvar g, SObj.dead, SObj.dead, SObj.nd (bumpE 1 ep) (.row 68 1 z)]) ?_
                        rw [Nat.zero_add]
                        exact rowsR_set
                      · intro h4
                        rcases hc3.1 h4 with h5 | ⟨u, hu, h5⟩
                        · exact Nat.lt_of_le_of_lt (outs_le (hw2.step_le hblt)) (hc h5)
                        · refine Nat.lt_of_lt_of_le (outs_lt (hw2.step_le hblt) hblt (t := u) (by omega) ?_) (outs_le hle)
                          unfold setRow
                          rw [if_pos rfl]
                          exact fun e => h5 e.symm
                      · intro h4
                        have h5 : ∀ u, u < g.temps.toNat → stepF g a2 ((i : Int) - 1).toNat u = a2 ((i : Int) - 1).toNat u := fun u hu => Decidable.byContradiction fun h => by
                          have := hc3.2 (.inr ⟨u, by omega, h⟩)
                          rw [h4] at this; cases this
                        have h6 : c2 = false := by
                          cases e : c2 with
                          | false => rfl
                          | true => have := hc3.2 (.inl e); rw [h4] at this; cases this
                        have hback : LeB g.blocks.length g.temps.toNat (setRow a2 ((i : Int) - 1).toNat (stepF g a2 ((i : Int) - 1).toNat)) a2 := by
                          intro j hj u hu h7
                          unfold setRow at h7
                          by_cases e : j = ((i : Int) - 1).toNat
                          · rw [if_pos e] at h7; rw [e, ← h5 u hu]; exact h7
                          · rw [if_neg e] at h7; exact h7
                        intro j hj hij u hu
                        have h8 : stepF g (setRow a2 ((i : Int) - 1).toNat (stepF g a2 ((i : Int) - 1).toNat)) j u = stepF g a2 j u := by
                          rw [Bool.eq_iff_iff]
                          exact ⟨stepF_mono hg.next hback hj hu, stepF_mono hg.next (hw2.step_le hblt) hj hu⟩
                        rw [h8]
                        unfold setRow
                        by_cases e : j = ((i : Int) - 1).toNat
                        · rw [if_pos e, e]
                        · rw [if_neg e]; exact hf h6 j hj (by omega) u hu
            · rename_i h2
              have hi0 : i = 0 := by simp only [ltI_iff, ltI_not, leI_iff, leI_not, eqI_iff, eqI_not, List.length_map, bif_and, bif_or, Bool.and_eq_true, Bool.and_eq_false_iff, Bool.or_eq_true, Bool.or_eq_false_iff, Bool.not_eq_true', Bool.not_eq_false', Int.toNat_natCast, beq_iff_eq, beq_eq_false_iff_ne, decide_eq_true_eq, decide_eq_false_iff_not] at *; omega
              subst hi0
              conv => whnf
              refine ⟨2 * outs g.blocks.length g.temps.toNat a2 + c2.toNat, ?_, c2, a2, ep, rfl, rfl, hep, hw2, fun e j hj u hu => ?_, rfl⟩
              · have hch : ch = true := by assumption
                rw [hm1, hch]
                have := outs_le hle
                cases e : c2 with
                | true => have := hc e; simp; omega
                | false => simp; omega
              · intro h3; rw [← hf e j hj (Nat.zero_le _) u hu]; exact h3
        · rename_i h1
          exact ⟨_, ⟨a, ⟨hw, hd h1⟩, rfl⟩, rowsR_le⟩
end Go.Proofs.YtgnafgebenlffaaDoor.Am

/- Whether a graph fits, by the document's answer. -/
namespace Go.Proofs.YtgnafgebenlffaaDoor.Am
open Go Go.Proofs
set_option maxRecDepth 10000
set_option maxHeartbeats 2000000
set_option linter.unusedVariables false
set_option linter.unusedSimpArgs false
noncomputable def tr (p : Prop) : Bool := @decide p (Classical.propDecidable p)
theorem tr_t {p : Prop} (h : p) : tr p = true := by unfold tr; exact @decide_eq_true p (Classical.propDecidable p) h
theorem tr_f {p : Prop} (h : ¬ p) : tr p = false := by unfold tr; exact @decide_eq_false p (Classical.propDecidable p) h
theorem tr_iff {p : Prop} : tr p = true ↔ p := by
  constructor
  · intro h
    exact Classical.byContradiction fun h2 => by rw [tr_f h2] at h; cases h
  · exact tr_t
structure Graph.leads (g : Graph) : Prop where
  one : 1 ≤ g.blocks.length
  most : g.blocks.length ≤ 20000
  next : ∀ b : Nat, b < g.blocks.length → ∀ s ∈ nextN g b, bel s g.blocks.length = true
abbrev nextR (g : Graph) (m : Nat) : List T := (List.range m).map fun b : Nat => ilist (nextN g (b : Int))
theorem edges36 (g : Graph) (hg : g.tiny) : PCalls Tryd.prog 65 [g.t] (fun r => Ob ((g.leads ∧ r = .tup [.sl 1 (nextR g g.blocks.length), .bool true]) ∨ (¬ g.leads ∧ r = .tup [.nsl, .bool false]))) := by
  refine PCalls.of_body ttOk Tryd.func65 rfl ?_
  repeat' ((conv => whnf); first | (with_reducible first | refine onBool_intro (fun _ => ?_) (fun _ => ?_) | refine And.intro (Ob.mk (Nat.le_of_ble_eq_true rfl)) ?_ | refine And.intro (Ob.mk rfl) ?_ | exact ⟨rfl, rfl⟩ | refine And.intro (Ob.mk (fun h => h)) ?_) | (with_reducible refine Or.inl (And.intro (Ob.mk (Flat.map ?_)) ?_); exact fun _ => rfl) | (refine Or.inl (And.intro (Ob.mk (flat_of rfl)) ?_)) | (refine Or.inl (And.intro (Ob.mk ⟨rfl, rfl, rfl, rfl⟩) ?_)) | (refine Or.inl (And.intro (Ob.mk ⟨rfl, rfl, rfl⟩) ?_)) | (refine And.intro (Ob.mk ⟨rfl, rfl⟩) ?_) | (with_reducible refine Or.inr ?_) | (refine And.intro (Ob.mk (flat_of rfl)) ?_) | (with_reducible refine And.intro (Ob.mk (Flat.map ?_)) ?_; exact fun _ => rfl) | (with_reducible first | exact Ob.mk (Flat.map fun _ => rfl) | refine And.intro ?_ ?_ | apply exG.mk | apply exGS.mk | exact Dd.nil) | (refine Dd.same _ ?_) | (refine Dd.dead _ ?_) | (with_reducible first | apply exQ.mk | apply exP.mk) | (refine EqP.mk rfl rfl) | (with_reducible apply exW.mk) | (refine EqW.mk rfl) | (with_reducible first | intro _ | refine Dn.mk ?_) | (refine exS.full (by first | rfl | (simp; done) | (simp; omega)) ?_) | (refine And.intro (Ob.mk ⟨rfl, rfl, by first | rfl | (simp; done) | (simp; omega)⟩) ?_) | (with_reducible refine exE.mapD ?_) | (refine exL.int ?_) | (with_reducible first | refine Up0.mk rfl ?_ | refine Up0i.mk rfl ?_ | refine Up1.mk rfl ?_ | refine Up1i.mk rfl ?_ | refine Up2.mk rfl ?_ | refine Up2i.mk rfl ?_) | (refine Col.mk rfl rfl rfl ?_) | (refine Coli.mk rfl rfl rfl rfl ?_))
  · exact Ob.mk fun h => by rw [h]; rfl
  · rename_i h1 h2
    refine Ob.mk (.inr ⟨fun h => ?_, rfl⟩)
    have := h.one
    have := h.most
    simp only [bif_or, Bool.or_eq_true, ltI_iff, List.length_map] at h2
    omega
  · rename_i h1 h2
    simp only [bif_or, Bool.or_eq_false_iff, ltI_not, List.length_map] at h2
    conv => whnf
    refine LoopVC.mk [5, 4] [(4, 22, 1)] (fun m vals σ => ∃ i : Nat, vals = [.t (.int .i64 i), .osl 1 0 i] ∧ σ = [gvar g, .row 22 1 (nextR g i)] ∧ i ≤ g.blocks.length ∧ (∀ b : Nat, b < i → ∀ s ∈ nextN g b, bel s g.blocks.length = true) ∧ m = g.blocks.length - i) ?_ ?_
    · repeat' ((conv => whnf); first | (with_reducible first | refine onBool_intro (fun _ => ?_) (fun _ => ?_) | refine And.intro (Ob.mk (Nat.le_of_ble_eq_true rfl)) ?_ | refine And.intro (Ob.mk rfl) ?_ | exact ⟨rfl, rfl⟩ | refine And.intro (Ob.mk (fun h => h)) ?_) | (with_reducible refine Or.inl (And.intro (Ob.mk (Flat.map ?_)) ?_); exact fun _ => rfl) | (refine Or.inl (And.intro (Ob.mk (flat_of rfl)) ?_)) | (refine Or.inl (And.intro (Ob.mk ⟨rfl, rfl, rfl, rfl⟩) ?_)) | (refine Or.inl (And.intro (Ob.mk ⟨rfl, rfl, rfl⟩) ?_)) | (refine And.intro (Ob.mk ⟨rfl, rfl⟩) ?_) | (with_reducible refine Or.inr ?_) | (refine And.intro (Ob.mk (flat_of rfl)) ?_) | (with_reducible refine And.intro (Ob.mk (Flat.map ?_)) ?_; exact fun _ => rfl) | (with_reducible first | exact Ob.mk (Flat.map fun _ => rfl) | refine And.intro ?_ ?_ | apply exG.mk | apply exGS.mk | exact Dd.nil) | (refine Dd.same _ ?_) | (refine Dd.dead _ ?_) | (with_reducible first | apply exQ.mk | apply exP.mk) | (refine EqP.mk rfl rfl) | (with_reducible apply exW.mk) | (refine EqW.mk rfl) | (with_reducible first | intro _ | refine Dn.mk ?_) | (refine exS.full (by first | rfl | (simp; done) | (simp; omega)) ?_) | (refine And.intro (Ob.mk ⟨rfl, rfl, by first | rfl | (simp; done) | (simp; omega)⟩) ?_) | (with_reducible refine exE.mapD ?_) | (refine exL.int ?_) | (with_reducible first | refine Up0.mk rfl ?_ | refine Up0i.mk rfl ?_ | refine Up1.mk rfl ?_ | refine Up1i.mk rfl ?_ | refine Up2.mk rfl ?_ | refine Up2i.mk rfl ?_) | (refine Col.mk rfl rfl rfl ?_) | (refine Coli.mk rfl rfl rfl rfl ?_))
      exact ⟨_, 0, rfl, rfl, Nat.zero_le _, (fun b hb => absurd hb (Nat.not_lt_zero _)), rfl⟩
    · rintro m vals σ ⟨i, rfl, rfl, hi, he, hm⟩
      repeat' ((conv => whnf); first | (with_reducible first | refine onBool_intro (fun _ => ?_) (fun _ => ?_) | refine And.intro (Ob.mk (Nat.le_of_ble_eq_true rfl)) ?_ | refine And.intro (Ob.mk rfl) ?_ | exact ⟨rfl, rfl⟩ | refine And.intro (Ob.mk (fun h => h)) ?_) | (with_reducible refine Or.inl (And.intro (Ob.mk (Flat.map ?_)) ?_); exact fun _ => rfl) | (refine Or.inl (And.intro (Ob.mk (flat_of rfl)) ?_)) | (refine Or.inl (And.intro (Ob.mk ⟨rfl, rfl, rfl, rfl⟩) ?_)) | (refine Or.inl (And.intro (Ob.mk ⟨rfl, rfl, rfl⟩) ?_)) | (refine And.intro (Ob.mk ⟨rfl, rfl⟩) ?_) | (with_reducible refine Or.inr ?_) | (refine And.intro (Ob.mk (flat_of rfl)) ?_) | (with_reducible refine And.intro (Ob.mk (Flat.map ?_)) ?_; exact fun _ => rfl) | (with_reducible first | exact Ob.mk (Flat.map fun _ => rfl) | refine And.intro ?_ ?_ | apply exG.mk | apply exGS.mk | exact Dd.nil) | (refine Dd.same _ ?_) | (refine Dd.dead _ ?_) | (with_reducible first | apply exQ.mk | apply exP.mk) | (refine EqP.mk rfl rfl) | (with_reducible apply exW.mk) | (refine EqW.mk rfl) | (with_reducible first | intro _ | refine Dn.mk ?_) | (refine exS.full (by first | rfl | (simp; done) | (simp; omega)) ?_) | (refine And.intro (Ob.mk ⟨rfl, rfl, by first | rfl | (simp; done) | (simp; omega)⟩) ?_) | (with_reducible refine exE.mapD ?_) | (refine exL.int ?_) | (with_reducible first | refine Up0.mk rfl ?_ | refine Up0i.mk rfl ?_ | refine Up1.mk rfl ?_ | refine Up1i.mk rfl ?_ | refine Up2.mk rfl ?_ | refine Up2i.mk rfl ?_) | (refine Col.mk rfl rfl rfl ?_) | (refine Coli.mk rfl rfl rfl rfl ?_) | (refine PCalls.mono (next15 _ _ hg) ?_; rintro _ rfl))
      all_goals (try (refine Ob.mk ?_; first | assumption | exact ⟨rfl, rfl⟩ | exact ⟨rfl, rfl, rfl⟩ | (refine ⟨rfl, rfl, ?_⟩; simp only [List.length_map, List.length_take, List.length_append, els_len, List.length_replicate]; omega) | (intro h; exact h) | (intro h; rw [h]; rfl) | (intro h; simp_all; done) | (refine bytes_le (n := 1048577) ?_ rfl; simp only [ltI_iff, ltI_not, leI_iff, leI_not, eqI_iff, eqI_not, List.length_map, bif_and, bif_or, Bool.and_eq_true, Bool.and_eq_false_iff, Bool.or_eq_true, Bool.or_eq_false_iff, Bool.not_eq_true', Bool.not_eq_false', Int.toNat_natCast, beq_iff_eq, beq_eq_false_iff_ne, decide_eq_true_eq, decide_eq_false_iff_not, bel_iff, bel_not, wthn_iff, wthn_not, els_len, mixL_len, Nat.zero_add, List.length_set, List.length_take] at *; omega) | (simp only [ltI_iff, ltI_not, leI_iff, leI_not, eqI_iff, eqI_not, List.length_map, bif_and, bif_or, Bool.and_eq_true, Bool.and_eq_false_iff, Bool.or_eq_true, Bool.or_eq_false_iff, Bool.not_eq_true', Bool.not_eq_false', Int.toNat_natCast, beq_iff_eq, beq_eq_false_iff_ne, decide_eq_true_eq, decide_eq_false_iff_not, bel_iff, bel_not, wthn_iff, wthn_not, els_len, mixL_len, Nat.zero_add, List.length_set, List.length_take, Int.ofNat_eq_natCast] at *; omega)))
      · rename_i h3
        have hlt : i < g.blocks.length := by simp only [ltI_iff, ltI_not, leI_iff, leI_not, eqI_iff, eqI_not, List.length_map, bif_and, bif_or, Bool.and_eq_true, Bool.and_eq_false_iff, Bool.or_eq_true, Bool.or_eq_false_iff, Bool.not_eq_true', Bool.not_eq_false', Int.toNat_natCast, beq_iff_eq, beq_eq_false_iff_ne, decide_eq_true_eq, decide_eq_false_iff_not] at *; omega
        have hnl := next_len hg i
        conv => whnf
        refine LoopVC.up0 7 (nextN g i).length (fun j => ∀ k, k < j → bel (nthD (nextN g i) k) g.blocks.length = true) ?_ ?_
        · repeat' ((conv => whnf); first | (with_reducible first | refine onBool_intro (fun _ => ?_) (fun _ => ?_) | refine And.intro (Ob.mk (Nat.le_of_ble_eq_true rfl)) ?_ | refine And.intro (Ob.mk rfl) ?_ | exact ⟨rfl, rfl⟩ | refine And.intro (Ob.mk (fun h => h)) ?_) | (with_reducible refine Or.inl (And.intro (Ob.mk (Flat.map ?_)) ?_); exact fun _ => rfl) | (refine Or.inl (And.intro (Ob.mk (flat_of rfl)) ?_)) | (refine Or.inl (And.intro (Ob.mk ⟨rfl, rfl, rfl, rfl⟩) ?_)) | (refine Or.inl (And.intro (Ob.mk ⟨rfl, rfl, rfl⟩) ?_)) | (refine And.intro (Ob.mk ⟨rfl, rfl⟩) ?_) | (with_reducible refine Or.inr ?_) | (refine And.intro (Ob.mk (flat_of rfl)) ?_) | (with_reducible refine And.intro (Ob.mk (Flat.map ?_)) ?_; exact fun _ => rfl) | (with_reducible first | exact Ob.mk (Flat.map fun _ => rfl) | refine And.intro ?_ ?_ | apply exG.mk | apply exGS.mk | exact Dd.nil) | (refine Dd.same _ ?_) | (refine Dd.dead _ ?_) | (with_reducible first | apply exQ.mk | apply exP.mk) | (refine EqP.mk rfl rfl) | (with_reducible apply exW.mk) | (refine EqW.mk rfl) | (with_reducible first | intro _ | refine Dn.mk ?_) | (refine exS.full (by first | rfl | (simp; done) | (simp; omega)) ?_) | (refine And.intro (Ob.mk ⟨rfl, rfl, by first | rfl | (simp; done) | (simp; omega)⟩) ?_) | (with_reducible refine exE.mapD ?_) | (refine exL.int ?_) | (with_reducible first | refine Up0.mk rfl ?_ | refine Up0i.mk rfl ?_ | refine Up1.mk rfl ?_ | refine Up1i.mk rfl ?_ | refine Up2.mk rfl ?_ | refine Up2i.mk rfl ?_) | (refine Col.mk rfl rfl rfl ?_) | (refine Coli.mk rfl rfl rfl rfl ?_))
          exact Ob.mk (by omega)
        · intro j hj hej
          repeat' ((conv => whnf); first | (with_reducible first | refine onBool_intro (fun _ => ?_) (fun _ => ?_) | refine And.intro (Ob.mk (Nat.le_of_ble_eq_true rfl)) ?_ | refine And.intro (Ob.mk rfl) ?_ | exact ⟨rfl, rfl⟩ | refine And.intro (Ob.mk (fun h => h)) ?_) | (with_reducible refine Or.inl (And.intro (Ob.mk (Flat.map ?_)) ?_); exact fun _ => rfl) | (refine Or.inl (And.intro (Ob.mk (flat_of rfl)) ?_)) | (refine Or.inl (And.intro (Ob.mk ⟨rfl, rfl, rfl, rfl⟩) ?_)) | (refine Or.inl (And.intro (Ob.mk ⟨rfl, rfl, rfl⟩) ?_)) | (refine And.intro (Ob.mk ⟨rfl, rfl⟩) ?_) | (with_reducible refine Or.inr ?_) | (refine And.intro (Ob.mk (flat_of rfl)) ?_) | (with_reducible refine And.intro (Ob.mk (Flat.map ?_)) ?_; exact fun _ => rfl) | (with_reducible first | exact Ob.mk (Flat.map fun _ => rfl) | refine And.intro ?_ ?_ | apply exG.mk | apply exGS.mk | exact Dd.nil) | (refine Dd.same _ ?_) | (refine Dd.dead _ ?_) | (with_reducible first | apply exQ.mk | apply exP.mk) | (refine EqP.mk rfl rfl) | (with_reducible apply exW.mk) | (refine EqW.mk rfl) | (with_reducible first | intro _ | refine Dn.mk ?_) | (refine exS.full (by first | rfl | (simp; done) | (simp; omega)) ?_) | (refine And.intro (Ob.mk ⟨rfl, rfl, by first | rfl | (simp; done) | (simp; omega)⟩) ?_) | (with_reducible refine exE.mapD ?_) | (refine exL.int ?_) | (with_reducible first | refine Up0.mk rfl ?_ | refine Up0i.mk rfl ?_ | refine Up1.mk rfl ?_ | refine Up1i.mk rfl ?_ | refine Up2.mk rfl ?_ | refine Up2i.mk rfl ?_) | (refine Col.mk rfl rfl rfl ?_) | (refine Coli.mk rfl rfl rfl rfl ?_) | (refine drawVC.all _ _ (by kernel_rfl) ?_))
          all_goals (try (refine Ob.mk ?_; first | assumption | exact ⟨rfl, rfl⟩ | exact ⟨rfl, rfl, rfl⟩ | (refine ⟨rfl, rfl, ?_⟩; simp only [List.length_map, List.length_take, List.length_append, els_len, List.length_replicate]; omega) | (intro h; exact h) | (intro h; rw [h]; rfl) | (intro h; simp_all; done) | (refine bytes_le (n := 1048577) ?_ rfl; simp only [ltI_iff, ltI_not, leI_iff, leI_not, eqI_iff, eqI_not, List.length_map, bif_and, bif_or, Bool.and_eq_true, Bool.and_eq_false_iff, Bool.or_eq_true, Bool.or_eq_false_iff, Bool.not_eq_true', Bool.not_eq_false', Int.toNat_natCast, beq_iff_eq, beq_eq_false_iff_ne, decide_eq_true_eq, decide_eq_false_iff_not, bel_iff, bel_not, wthn_iff, wthn_not, els_len, mixL_len, Nat.zero_add, List.length_set, List.length_take] at *; omega) | (simp only [ltI_iff, ltI_not, leI_iff, leI_not, eqI_iff, eqI_not, List.length_map, bif_and, bif_or, Bool.and_eq_true, Bool.and_eq_false_iff, Bool.or_eq_true, Bool.or_eq_false_iff, Bool.not_eq_true', Bool.not_eq_false', Int.toNat_natCast, beq_iff_eq, beq_eq_false_iff_ne, decide_eq_true_eq, decide_eq_false_iff_not, bel_iff, bel_not, wthn_iff, wthn_not, els_len, mixL_len, Nat.zero_add, List.length_set, List.length_take, Int.ofNat_eq_natCast] at *; omega)))
          · rename_i h4 h5
            simp only [ltI_iff, ltI_not, leI_iff, leI_not, eqI_iff, eqI_not, List.length_map, bif_and, bif_or, Bool.and_eq_true, Bool.and_eq_false_iff, Bool.or_eq_true, Bool.or_eq_false_iff, Bool.not_eq_true', Bool.not_eq_false', Int.toNat_natCast, beq_iff_eq, beq_eq_false_iff_ne, decide_eq_true_eq, decide_eq_false_iff_not] at *
            refine Ob.mk (.inr ⟨fun h => ?_, by trivial⟩)
            have := h.next i hlt _ (nthD_mem (i := j) (by omega))
            rw [bel_iff] at this
            omega
          · rename_i h4 h5
            simp only [ltI_iff, ltI_not, leI_iff, leI_not, eqI_iff, eqI_not, List.length_map, bif_and, bif_or, Bool.and_eq_true, Bool.and_eq_false_iff, Bool.or_eq_true, Bool.or_eq_false_iff, Bool.not_eq_true', Bool.not_eq_false', Int.toNat_natCast, beq_iff_eq, beq_eq_false_iff_ne, decide_eq_true_eq, decide_eq_false_iff_not] at *
            have hltj : j < (nextN g i).length := by omega
            refine Ob.mk ⟨hltj, addI_i64 (by omega) (by omega), fun k hk => ?_⟩
            rcases Nat.lt_or_ge k j with h | h
            · exact hej k h
            · rw [show k = j by omega, bel_iff]; omega
          · rename_i h4
            have hgej : (nextN g i).length ≤ j := by simp only [ltI_iff, ltI_not, leI_iff, leI_not, eqI_iff, eqI_not, List.length_map, bif_and, bif_or, Bool.and_eq_true, Bool.and_eq_false_iff, Bool.or_eq_true, Bool.or_eq_false_iff, Bool.not_eq_true', Bool.not_eq_false', Int.toNat_natCast, beq_iff_eq, beq_eq_false_iff_ne, decide_eq_true_eq, decide_eq_false_iff_not] at *; omega
            conv => whnf
            refine ⟨g.blocks.length - (i + 1), by omega, i + 1, ?_, ?_, hlt, fun b hb s hs => ?_, rfl⟩
            · rw [addI_i64 (by omega) (by omega)]; rfl
            · unfold nextR
              rw [List.range_succ, List.map_append]
              exact rfl
            · rcases Nat.lt_or_ge b i with h | h
              · exact he b h s hs
              · rw [show b = i by omega] at hs
                obtain ⟨k, hk, rfl⟩ := List.mem_iff_getElem.1 hs
                rw [← nthD_get hk]
                exact hej k (by omega)
      · rename_i h3
        have hge : i = g.blocks.length := by simp only [ltI_iff, ltI_not, leI_iff, leI_not, eqI_iff, eqI_not, List.length_map, bif_and, bif_or, Bool.and_eq_true, Bool.and_eq_false_iff, Bool.or_eq_true, Bool.or_eq_false_iff, Bool.not_eq_true', Bool.not_eq_false', Int.toNat_natCast, beq_iff_eq, beq_eq_false_iff_ne, decide_eq_true_eq, decide_eq_false_iff_not] at *; omega
        subst hge
        exact Ob.mk (.inl ⟨⟨by omega, by omega, he⟩, rfl⟩)
end Go.Proofs.YtgnafgebenlffaaDoor.Am
