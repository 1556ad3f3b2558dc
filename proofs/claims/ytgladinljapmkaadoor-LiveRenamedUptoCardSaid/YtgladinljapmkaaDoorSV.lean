/- LiveRenamed: the law. -/
import Derived.Test.YtgladinljapmkaaDoorSU
/- LiveRenamed: temps renamed. -/
namespace Go.Proofs.YtgladinljapmkaaDoor.Am
open Go Go.Proofs
set_option maxRecDepth 10000
set_option maxHeartbeats 20000000
set_option linter.unusedVariables false
set_option linter.unusedSimpArgs false

def renI (p : Int → Int) (x : Ins) : Ins :=
  { x with d := if 0 ≤ setsN x then p (setsN x) else x.d, a := if x.op ≠ 29 ∧ 1 ≤ (usesN x).length then p (nthD (usesN x) 0) else x.a,
           b := if x.op ≠ 29 ∧ 2 ≤ (usesN x).length then p (nthD (usesN x) 1) else x.b, args := if x.op = 29 then x.args.map p else x.args }
def renE (p : Int → Int) (e : End) : End :=
  { e with a := if 1 ≤ (eUsesN e).length then p (nthD (eUsesN e) 0) else e.a, b := if 2 ≤ (eUsesN e).length then p (nthD (eUsesN e) 1) else e.b }
def renB (p : Int → Int) (b : Block) : Block := ⟨b.code.map (renI p), renE p b.fin⟩
def renG (p : Int → Int) (g : Graph) : Graph := { g with blocks := g.blocks.map (renB p) }
theorem copied9ok (g : Graph) (hg : g.tiny) {q : T → Prop} (hq : q (.own g.o)) : PCalls Tryd.prog 9 [g.t] q := PCalls.mono (copied9o g hg) fun _ h => h ▸ hq
theorem mixL_at {α : Type} [Inhabited α] {f g : α → T} {l : List α} {j : Nat} (hj : j < l.length) : (mixL f g l j)[j]? = some (g (nthD l j)) := by
  unfold mixL
  rw [List.getElem?_append_right (by simp; omega), List.length_map, List.length_take, Nat.min_eq_left (by omega), Nat.sub_self, List.getElem?_map, List.getElem?_drop, Nat.add_zero, List.getElem?_eq_getElem hj, nthD_get hj]
  rfl
theorem mixL_self {α : Type} [Inhabited α] {f g : α → T} {l : List α} {j : Nat} (hj : j < l.length) : (mixL f g l j).set j (g (nthD l j)) = mixL f g l j := by
  apply List.ext_getElem?
  intro k
  rw [List.getElem?_set]
  split
  · rename_i e
    subst e
    rw [mixL_at hj, if_pos (by rw [mixL_len]; exact hj)]
  · rfl
theorem exE.setSameO {xs : List T} {i j : Nat} {y : T} {K : T → Prop} (hi : Ob (i = j ∧ j < xs.length)) (h : K y) : exE (xs.set i y) j K := by
  obtain ⟨rfl, h1⟩ := hi.out
  exact exE.setSame h1 h
theorem exE.mixO {α : Type} [Inhabited α] {f g : α → T} {l : List α} {j i : Nat} {K : T → Prop} (h : Ob (i = j ∧ j < l.length)) (hk : K (g (nthD l j))) : exE (mixL f g l j) i K := exE.mix h.out.1 h.out.2 hk
theorem uses32ok (x : Ins) {q : T → Prop} (hx : Ob (x.args.length ≤ 2 ^ 20)) (h2 : q (.own (.nst 3 1 ((usesN x).map fun n => .int .i64 n)))) : PCalls Tryd.prog 32 [x.t] q :=
  PCalls.nilOwn (uses32o x hx.out) 3 1 fun r h => by
    rcases h.out with ⟨h0, rfl⟩ | rfl
    · rw [h0] at h2; exact .inr ⟨rfl, h2⟩
    · exact .inl h2
theorem eUses33ok (x : End) {q : T → Prop} (h2 : q (.own (.nst 3 1 ((eUsesN x).map fun n => .int .i64 n)))) : PCalls Tryd.prog 33 [x.t] q :=
  PCalls.nilOwn (eUses33o x) 3 1 fun r h => by
    rcases h.out with ⟨h0, rfl⟩ | rfl
    · rw [h0] at h2; exact .inr ⟨rfl, h2⟩
    · exact .inl h2
/-- The memory of Renamed: the graph, the result, the copy; n places are dead. -/
abbrev outV (g : Graph) (k : Nat) : SObj := .var 26 [.osl k 0 g.params.length, .t (.int .i64 g.temps), .osl (k + 1) 0 g.arrays.length, .osl (k + 2) 0 g.blocks.length]
abbrev rowsG (g : Graph) (bl : List T) : Sto := [.row 3 1 (g.params.map fun n => .int .i64 n), .row 114 2 (g.arrays.map Arr.t), .row 42 10 bl]
/-- A block, its code told as a row. -/
abbrev blkT (code : List T) (e : End) : T := .agg [.nst 62 8 code, .int .i64 e.kind, .int .i64 e.op, .int .i64 e.a, .int .i64 e.b, .int .u32 e.n, .int .i64 e.to, .int .i64 e.els, .nst 80 2 (e.cases.map Case.t), .nst 3 1 (e.targets.map fun n => .int .i64 n)]
/-- The instruction at hand, its rows where they stand in the copy (object k). -/
abbrev xV (x : Ins) (k b i al rl : Nat) : SObj := .var 62 [.t (.int .i64 x.op), .t (.int .i64 x.d), .t (.int .i64 x.a), .t (.int .i64 x.b), .t (.int .i64 x.f), .t (.int .u32 x.n), .ref k 0 [(0 + (b : Int).toNat, 0), (0 + (i : Int).toNat, 6)] 0 al, .ref k 0 [(0 + (b : Int).toNat, 0), (0 + (i : Int).toNat, 7)] 0 rl]
/-- An instruction with other arguments. -/
abbrev waO (x : Ins) (l : List Int) : T := .agg [.int .i64 x.op, .int .i64 x.d, .int .i64 x.a, .int .i64 x.b, .int .i64 x.f, .int .u32 x.n, .nst 3 1 (l.map fun n => .int .i64 n), .nst 3 1 (x.arrs.map fun n => .int .i64 n)]
theorem mix_at {P : Int → Int} {l : List Int} {k : Nat} (hk : k < l.length) : nthD ((l.take k).map P ++ l.drop k) k = nthD l k := by
  refine nthD_eq ?_
  rw [List.getElem?_append_right (by simp; omega), List.length_map, List.length_take, Nat.min_eq_left (by omega), Nat.sub_self, List.getElem?_drop, Nat.add_zero, List.getElem?_eq_getElem hk, nthD_get hk]
theorem mix_len {P : Int → Int} {l : List Int} {k : Nat} : ((l.take k).map P ++ l.drop k).length = l.length := by simp; omega
theorem mix_set {P : Int → Int} {l : List Int} {k : Nat} {v : Int} (hk : k < l.length) (hv : v = P (nthD l k)) : (((l.take k).map P ++ l.drop k).map fun n => T.int .i64 n).set k (.int .i64 v) = ((l.take (k + 1)).map P ++ l.drop (k + 1)).map fun n => T.int .i64 n := by
  subst hv
  rw [← List.map_set (f := fun n => T.int .i64 n)]
  refine congrArg _ ?_
  rw [List.set_append, if_neg (by simp; omega), List.length_map, List.length_take, Nat.min_eq_left (by omega), Nat.sub_self, List.drop_eq_getElem_cons hk, List.set_cons_zero, take_succ_nthD hk, List.map_append, List.append_assoc]
  rfl
theorem renI_args {P : Int → Int} {x : Ins} {k : Nat} (hk : k ≤ x.args.length) (h0 : 0 < k → x.op = 29) (he : ¬ (k < x.args.length ∧ x.op = 29)) : (x.args.take k).map P ++ x.args.drop k = (renI P x).args := by
  unfold renI
  by_cases h : x.op = 29
  · have : k = x.args.length := by
      rcases Nat.lt_or_ge k x.args.length with h2 | h2
      · exact absurd ⟨h2, h⟩ he
      · omega
    subst this
    simp [h]
  · have : k = 0 := Nat.eq_zero_of_not_pos fun h1 => h (h0 h1)
    subst this
    simp [h]
theorem usesN_call {x : Ins} (h : x.op = 29) : usesN x = x.args := by simp [usesN, kindN, h]
theorem st18 {g : Graph} {P : Int → Int} {x : Ins} {d a' b' : Int} {p6 p7 : Path} {n6 n7 b i : Nat} {bl bl' us : List T} (hd : d = (renI P x).d) (ha : a' = (renI P x).a) (hb : b' = (renI P x).b) (h6 : p6 = [(0 + (b : Int).toNat, 0), (0 + (i : Int).toNat, 6)]) (h7 : p7 = [(0 + (b : Int).toNat, 0), (0 + (i : Int).toNat, 7)]) (m6 : n6 = x.args.length) (m7 : n7 = x.arrs.length) (hl : bl = bl') :
    [gvar g, gzero, .dead, .dead, .dead, outV g 14, .dead, .dead, .dead, .dead, .dead, .dead, .var 62 [.t (.int .i64 x.op), .t (.int .i64 d), .t (.int .i64 a'), .t (.int .i64 b'), .t (.int .i64 x.f), .t (.int .u32 x.n), .ref 16 0 p6 0 n6, .ref 16 0 p7 0 n7], .row 3 1 us] ++ rowsG g bl =
    [gvar g, gzero, .dead, .dead, .dead, outV g 14, .dead, .dead, .dead, .dead, .dead, .dead, xV (renI P x) 16 b i x.args.length x.arrs.length, .row 3 1 us] ++ rowsG g bl' := by
  subst hd ha hb h6 h7 m6 m7 hl
  rfl
theorem bl18 {M C : List T} {b i b2 i2 : Nat} {e : End} {u y z : T} (hb : b2 = b) (hi : i2 = i) (h : y = z) : (M.set b (blkT (C.set i u) e)).set b2 (setT 10 (blkT (C.set i u) e) 0 [.nst 62 8 ((C.set i u).set i2 y)]) = M.set b (blkT (C.set i z) e) := by
  subst h hb hi
  rw [List.set_set, List.set_set]
  rfl
theorem wa6 {x : Ins} {l l' : List Int} {r : List T} (h : r = l'.map fun n => T.int .i64 n) : setT 8 (waO x l) 6 [.nst 3 1 r] = waO x l' := by
  subst h; rfl
theorem wa0 {x : Ins} {l : List Int} {P : Int → Int} (h : l = (renI P x).args) : setT 8 (waO x l) 0 [.int .i64 (renI P x).op, .int .i64 (renI P x).d, .int .i64 (renI P x).a, .int .i64 (renI P x).b, .int .i64 (renI P x).f, .int .u32 (renI P x).n, .nst 3 1 (l.map fun n => T.int .i64 n), .nst 3 1 (x.arrs.map fun n => T.int .i64 n)] = (renI P x).o := by
  subst h; rfl
theorem st18k {g : Graph} {xo : SObj} {us bl bl' : List T} (h : bl = bl') :
    [gvar g, gzero, .dead, .dead, .dead, outV g 14, .dead, .dead, .dead, .dead, .dead, .dead, xo, .row 3 1 us] ++ rowsG g bl = [gvar g, gzero, .dead, .dead, .dead, outV g 14, .dead, .dead, .dead, .dead, .dead, .dead, xo, .row 3 1 us] ++ rowsG g bl' := by rw [h]
theorem st18i {g : Graph} {bl bl' : List T} (h : bl = bl') :
    [gvar g, gzero, .dead, .dead, .dead, outV g 9, .dead, .dead, .dead] ++ rowsG g bl = [gvar g, gzero, .dead, .dead, .dead, outV g 9, .dead, .dead, .dead] ++ rowsG g bl' := by rw [h]
theorem blkT_ren {P : Int → Int} {x : Block} {i : Nat} {e : End} (hi : x.code.length ≤ i) (he : e = renE P x.fin) : blkT (mixL (fun x => (renI P x).o) Ins.o x.code i) e = (renB P x).o := by
  subst he
  rw [mixL_full hi]
  unfold renB Block.o
  simp only [List.map_map]
  rfl
theorem fin18 {P : Int → Int} {x : Block} {i : Nat} {a' b' : Int} (hi : x.code.length ≤ i) (ha : a' = (renE P x.fin).a) (hb : b' = (renE P x.fin).b) :
    T.agg [.nst 62 8 (mixL (fun x => (renI P x).o) Ins.o x.code i), .int .i64 x.fin.kind, .int .i64 x.fin.op, .int .i64 a', .int .i64 b', .int .u32 x.fin.n, .int .i64 x.fin.to, .int .i64 x.fin.els, .nst 80 2 (x.fin.cases.map Case.t), .nst 3 1 (x.fin.targets.map fun n => .int .i64 n)] = (renB P x).o := by
  subst ha hb
  exact blkT_ren (e := renE P x.fin) hi rfl
theorem end18 {g : Graph} {P : Int → Int} {b : Nat} {y : T} (hb : b < g.blocks.length) (hy : y = (renB P (nthD g.blocks b)).o) : (mixL (fun b => (renB P b).o) Block.o g.blocks b).set b y = mixL (fun b => (renB P b).o) Block.o g.blocks (b + 1) := by
  subst hy
  exact mixL_set (f := fun b => (renB P b).o) hb
theorem set18 {M : List T} {b b2 : Nat} {u y : T} (h : b2 = b) : (M.set b u).set b2 y = M.set b y := by rw [h, List.set_set]
theorem st18b {g : Graph} {bl bl' : List T} (h : bl = bl') :
    [gvar g, gzero, .dead, .dead, .dead, outV g 6] ++ rowsG g bl = [gvar g, gzero, .dead, .dead, .dead, outV g 6] ++ rowsG g bl' := by rw [h]
theorem renamed18 (g : Graph) (hg : g.tiny) (hp : g.params = []) (hf : g.fits) (to : List Int) (hto : to.length = g.temps.toNat) :
    PCalls Tryd.prog 18 [g.t, ilist to] (fun r => r = .own (renG (fun t => nthD to t.toNat) g).o) := by
  have hF := fits_fit hg hf
  have hT := hf.temps
  have hM := hf.most
  generalize hP : (fun t : Int => nthD to t.toNat) = P
  refine PCalls.of_bodyO ttOk Tryd.func18 rfl ?_
  repeat' ((conv => whnf); first
    | (with_reducible refine onBool_intro (fun _ => ?_) (fun _ => ?_))
    | (with_reducible refine And.intro (Ob.mk (Nat.le_of_ble_eq_true rfl)) ?_)
    | (with_reducible refine And.intro (Ob.mk rfl) ?_)
    | (with_reducible exact ⟨rfl, rfl⟩)
    | (with_reducible refine And.intro (Ob.mk (fun h => h)) ?_)
    | (with_reducible refine Or.inl (And.intro (Ob.mk (Flat.map ?_)) ?_); exact fun _ => rfl)
    | (refine Or.inl (And.intro (Ob.mk (flat_of rfl)) ?_))
    | (refine Or.inl (And.intro (Ob.mk ⟨rfl, rfl, rfl, rfl⟩) ?_))
    | (refine Or.inl (And.intro (Ob.mk ⟨rfl, rfl, rfl⟩) ?_))
    | (refine And.intro (Ob.mk ⟨rfl, rfl⟩) ?_)
    | (with_reducible refine Or.inr ?_)
    | (refine And.intro (Ob.mk (flat_of rfl)) ?_)
    | (with_reducible refine And.intro (Ob.mk (Flat.map ?_)) ?_; exact fun _ => rfl)
    | (with_reducible exact Ob.mk (Flat.map fun _ => rfl))
    | (with_reducible refine And.intro ?_ ?_)
    | (with_reducible apply exG.mk) | (with_reducible apply exGS.mk) | (with_reducible exact Dd.nil) | (refine Dd.same _ ?_) | (refine Dd.dead _ ?_) | (with_reducible apply exQ.mk) | (with_reducible apply exP.mk) | (refine EqP.mk rfl rfl) | (with_reducible apply exW.mk) | (refine EqW.mk rfl)
    | (with_reducible intro _) | (with_reducible refine Dn.mk ?_)
    | (refine exS.full (by first | rfl | (simp; done) | (simp; omega)) ?_)
    | (refine And.intro (Ob.mk ⟨rfl, rfl, by first | rfl | (simp; done) | (simp; omega)⟩) ?_)
    | (with_reducible refine exE.mapD ?_) | (refine exL.int ?_)
    | (with_reducible refine Up0.mk rfl ?_) | (with_reducible refine Up0i.mk rfl ?_) | (with_reducible refine Up1.mk rfl ?_) | (with_reducible refine Up1i.mk rfl ?_) | (with_reducible refine Up2.mk rfl ?_) | (with_reducible refine Up2i.mk rfl ?_)
    | (refine Col.mk rfl rfl rfl ?_) | (refine Coli.mk rfl rfl rfl rfl ?_)
    | (refine copied9ok g hg ?_))
  all_goals (try (refine Ob.mk ?_; first | assumption | exact ⟨rfl, rfl⟩ | exact ⟨rfl, rfl, rfl⟩ | (refine ⟨rfl, rfl, ?_⟩; simp only [List.length_map, List.length_take, List.length_append, els_len, List.length_replicate]; omega) | (intro h; exact h) | (intro h; rw [h]; rfl) | (intro h; simp_all; done) | (refine bytes_le (n := 1048577) ?_ rfl; simp only [ltI_iff, ltI_not, leI_iff, leI_not, eqI_iff, eqI_not, List.length_map, bif_and, bif_or, Bool.and_eq_true, Bool.and_eq_false_iff, Bool.or_eq_true, Bool.or_eq_false_iff, Bool.not_eq_true', Bool.not_eq_false', Int.toNat_natCast, beq_iff_eq, beq_eq_false_iff_ne, decide_eq_true_eq, decide_eq_false_iff_not, bel_iff, bel_not, wthn_iff, wthn_not, els_len, mixL_len, Nat.zero_add, List.length_set, List.length_take] at *; omega) | (simp only [ltI_iff, ltI_not, leI_iff, leI_not, eqI_iff, eqI_not, List.length_map, bif_and, bif_or, Bool.and_eq_true, Bool.and_eq_false_iff, Bool.or_eq_true, Bool.or_eq_false_iff, Bool.not_eq_true', Bool.not_eq_false', Int.toNat_natCast, beq_iff_eq, beq_eq_false_iff_ne, decide_eq_true_eq, decide_eq_false_iff_not, bel_iff, bel_not, wthn_iff, wthn_not, els_len, mixL_len, Nat.zero_add, List.length_set, List.length_take, Int.ofNat_eq_natCast] at *; omega)))
  conv => whnf
  refine LoopVC.mk [6] [] (fun m vals σ => ∃ b : Nat, vals = [.t (.int .i64 b)] ∧ σ = [gvar g, gzero, .dead, .dead, .dead, outV g 6] ++ rowsG g (mixL (fun b => (renB P b).o) Block.o g.blocks b) ∧ b ≤ g.blocks.length ∧ m = g.blocks.length - b) ?_ ?_
  · conv => whnf
    refine ⟨_, 0, rfl, ?_, Nat.zero_le _, rfl⟩
    rw [mixL_zero]
    simp only [List.length_map]
    rfl
  · rintro m vals σ ⟨b, rfl, rfl, hb, rfl⟩
    repeat' ((conv => whnf); first
    | (with_reducible refine onBool_intro (fun _ => ?_) (fun _ => ?_))
    | (with_reducible refine And.intro (Ob.mk (Nat.le_of_ble_eq_true rfl)) ?_)
    | (with_reducible refine And.intro (Ob.mk rfl) ?_)
    | (with_reducible exact ⟨rfl, rfl⟩)
    | (with_reducible refine And.intro (Ob.mk (fun h => h)) ?_)
    | (with_reducible refine Or.inl (And.intro (Ob.mk (Flat.map ?_)) ?_); exact fun _ => rfl)
    | (refine Or.inl (And.intro (Ob.mk (flat_of rfl)) ?_))
    | (refine Or.inl (And.intro (Ob.mk ⟨rfl, rfl, rfl, rfl⟩) ?_))
    | (refine Or.inl (And.intro (Ob.mk ⟨rfl, rfl, rfl⟩) ?_))
    | (refine And.intro (Ob.mk ⟨rfl, rfl⟩) ?_)
    | (with_reducible refine Or.inr ?_)
    | (refine And.intro (Ob.mk (flat_of rfl)) ?_)
    | (with_reducible refine And.intro (Ob.mk (Flat.map ?_)) ?_; exact fun _ => rfl)
    | (with_reducible exact Ob.mk (Flat.map fun _ => rfl))
    | (with_reducible refine And.intro ?_ ?_)
    | (with_reducible apply exG.mk) | (with_reducible apply exGS.mk) | (with_reducible exact Dd.nil) | (refine Dd.same _ ?_) | (refine Dd.dead _ ?_) | (with_reducible apply exQ.mk) | (with_reducible apply exP.mk) | (refine EqP.mk rfl rfl) | (with_reducible apply exW.mk) | (refine EqW.mk rfl)
    | (with_reducible intro _) | (with_reducible refine Dn.mk ?_)
    | (refine exS.full (by first | rfl | (simp; done) | (simp; omega)) ?_)
    | (refine And.intro (Ob.mk ⟨rfl, rfl, by first | rfl | (simp; done) | (simp; omega)⟩) ?_)
    | (with_reducible refine exE.mapD ?_) | (refine exL.int ?_)
    | (with_reducible refine Up0.mk rfl ?_) | (with_reducible refine Up0i.mk rfl ?_) | (with_reducible refine Up1.mk rfl ?_) | (with_reducible refine Up1i.mk rfl ?_) | (with_reducible refine Up2.mk rfl ?_) | (with_reducible refine Up2i.mk rfl ?_)
    | (refine Col.mk rfl rfl rfl ?_) | (refine Coli.mk rfl rfl rfl rfl ?_)
    | (refine exE.mixO ?_ ?_))
    all_goals (try (refine Ob.mk ?_; first | assumption | exact ⟨rfl, rfl⟩ | exact ⟨rfl, rfl, rfl⟩ | (refine ⟨rfl, rfl, ?_⟩; simp only [List.length_map, List.length_take, List.length_append, els_len, List.length_replicate]; omega) | (intro h; exact h) | (intro h; rw [h]; rfl) | (intro h; simp_all; done) | (refine bytes_le (n := 1048577) ?_ rfl; simp only [ltI_iff, ltI_not, leI_iff, leI_not, eqI_iff, eqI_not, List.length_map, bif_and, bif_or, Bool.and_eq_true, Bool.and_eq_false_iff, Bool.or_eq_true, Bool.or_eq_false_iff, Bool.not_eq_true', Bool.not_eq_false', Int.toNat_natCast, beq_iff_eq, beq_eq_false_iff_ne, decide_eq_true_eq, decide_eq_false_iff_not, bel_iff, bel_not, wthn_iff, wthn_not, els_len, mixL_len, Nat.zero_add, List.length_set, List.length_take] at *; omega) | (simp only [ltI_iff, ltI_not, leI_iff, leI_not, eqI_iff, eqI_not, List.length_map, bif_and, bif_or, Bool.and_eq_true, Bool.and_eq_false_iff, Bool.or_eq_true, Bool.or_eq_false_iff, Bool.not_eq_true', Bool.not_eq_false', Int.toNat_natCast, beq_iff_eq, beq_eq_false_iff_ne, decide_eq_true_eq, decide_eq_false_iff_not, bel_iff, bel_not, wthn_iff, wthn_not, els_len, mixL_len, Nat.zero_add, List.length_set, List.length_take, Int.ofNat_eq_natCast] at *; omega)))
    · rename_i h1
      have h1 := ltI_iff.1 h1
      have hb2 : b < g.blocks.length := by omega
      conv => whnf
      refine LoopVC.mk [7] [] (fun m vals σ => ∃ i : Nat, vals = [.t (.int .i64 i)] ∧ σ = [gvar g, gzero, .dead, .dead, .dead, outV g 9, .dead, .dead, .dead] ++ rowsG g ((mixL (fun b => (renB P b).o) Block.o g.blocks b).set b (blkT (mixL (fun x => (renI P x).o) Ins.o (nthD g.blocks b).code i) (nthD g.blocks b).fin)) ∧ i ≤ (nthD g.blocks b).code.length ∧ m = (nthD g.blocks b).code.length - i) ?_ ?_
      · conv => whnf
        refine ⟨_, 0, rfl, ?_, Nat.zero_le _, rfl⟩
        refine congrArg (fun z => [gvar g, gzero, SObj.dead, SObj.dead, SObj.dead, outV g 9, SObj.dead, SObj.dead, SObj.dead] ++ rowsG g z) ?_
        rw [mixL_zero]
        exact (mixL_self hb2).symm
      · rintro m vals σ ⟨i, rfl, rfl, hi, rfl⟩
        repeat' ((conv => whnf); first
    | (with_reducible refine onBool_intro (fun _ => ?_) (fun _ => ?_))
    | (with_reducible refine And.intro (Ob.mk (Nat.le_of_ble_eq_true rfl)) ?_)
    | (with_reducible refine And.intro (Ob.mk rfl) ?_)
    | (with_reducible exact ⟨rfl, rfl⟩)
    | (with_reducible refine And.intro (Ob.mk (fun h => h)) ?_)
    | (with_reducible refine Or.inl (And.intro (Ob.mk (Flat.map ?_)) ?_); exact fun _ => rfl)
    | (refine Or.inl (And.intro (Ob.mk (flat_of rfl)) ?_))
    | (refine Or.inl (And.intro (Ob.mk ⟨rfl, rfl, rfl, rfl⟩) ?_))
    | (refine Or.inl (And.intro (Ob.mk ⟨rfl, rfl, rfl⟩) ?_))
    | (refine And.intro (Ob.mk ⟨rfl, rfl⟩) ?_)
    | (with_reducible refine Or.inr ?_)
    | (refine And.intro (Ob.mk (flat_of rfl)) ?_)
    | (with_reducible refine And.intro (Ob.mk (Flat.map ?_)) ?_; exact fun _ => rfl)
    | (with_reducible exact Ob.mk (Flat.map fun _ => rfl))
    | (with_reducible refine And.intro ?_ ?_)
    | (with_reducible apply exG.mk) | (with_reducible apply exGS.mk) | (with_reducible exact Dd.nil) | (refine Dd.same _ ?_) | (refine Dd.dead _ ?_) | (with_reducible apply exQ.mk) | (with_reducible apply exP.mk) | (refine EqP.mk rfl rfl) | (with_reducible apply exW.mk) | (refine EqW.mk rfl)
    | (with_reducible intro _) | (with_reducible refine Dn.mk ?_)
    | (refine exS.full (by first | rfl | (simp; done) | (simp; omega)) ?_)
    | (refine And.intro (Ob.mk ⟨rfl, rfl, by first | rfl | (simp; done) | (simp; omega)⟩) ?_)
    | (with_reducible refine exE.mapD ?_) | (refine exL.int ?_)
    | (with_reducible refine Up0.mk rfl ?_) | (with_reducible refine Up0i.mk rfl ?_) | (with_reducible refine Up1.mk rfl ?_) | (with_reducible refine Up1i.mk rfl ?_) | (with_reducible refine Up2.mk rfl ?_) | (with_reducible refine Up2i.mk rfl ?_)
    | (refine Col.mk rfl rfl rfl ?_) | (refine Coli.mk rfl rfl rfl rfl ?_)
    | (refine exE.setSameO ?_ ?_)
    | (refine exE.mixO ?_ ?_)
    | (refine PCalls.mono (sets26 _) ?_; rintro _ rfl)
    | (refine uses32ok _ ?_ ?_)
    | (refine eUses33ok _ ?_)
    | (refine drawVC.mkM _ _ 13 13 [(12, [])] [[], [0], [], [], [], [4], [4, 5], [3, 4, 5, 6], [3, 4, 5, 6, 7], [0, 1, 2, 3, 4, 5, 6, 7, 8], [0, 1, 2, 3, 4, 5, 6, 7, 8, 9], [0, 1, 2, 3, 4, 5, 6, 7, 8, 9, 10], [0, 1, 2, 3, 4, 5, 6, 7, 8, 9, 10, 11]] rfl (by kernel_rfl) ?_))
        all_goals (try (refine Ob.mk ?_; first | assumption | exact ⟨rfl, rfl⟩ | exact ⟨rfl, rfl, rfl⟩ | (refine ⟨rfl, rfl, ?_⟩; simp only [List.length_map, List.length_take, List.length_append, els_len, List.length_replicate]; omega) | (intro h; exact h) | (intro h; rw [h]; rfl) | (intro h; simp_all; done) | (refine bytes_le (n := 1048577) ?_ rfl; simp only [ltI_iff, ltI_not, leI_iff, leI_not, eqI_iff, eqI_not, List.length_map, bif_and, bif_or, Bool.and_eq_true, Bool.and_eq_false_iff, Bool.or_eq_true, Bool.or_eq_false_iff, Bool.not_eq_true', Bool.not_eq_false', Int.toNat_natCast, beq_iff_eq, beq_eq_false_iff_ne, decide_eq_true_eq, decide_eq_false_iff_not, bel_iff, bel_not, wthn_iff, wthn_not, els_len, mixL_len, Nat.zero_add, List.length_set, List.length_take] at *; omega) | (simp only [ltI_iff, ltI_not, leI_iff, leI_not, eqI_iff, eqI_not, List.length_map, bif_and, bif_or, Bool.and_eq_true, Bool.and_eq_false_iff, Bool.or_eq_true, Bool.or_eq_false_iff, Bool.not_eq_true', Bool.not_eq_false', Int.toNat_natCast, beq_iff_eq, beq_eq_false_iff_ne, decide_eq_true_eq, decide_eq_false_iff_not, bel_iff, bel_not, wthn_iff, wthn_not, els_len, mixL_len, Nat.zero_add, List.length_set, List.length_take, Int.ofNat_eq_natCast] at *; omega)))
        all_goals (try exact Ob.mk ⟨by rw [Int.toNat_natCast]; omega, by rw [mixL_len, Int.toNat_natCast]; omega⟩)
        all_goals (try exact Ob.mk ⟨by rw [Nat.zero_add, Int.toNat_natCast], by rename_i h2; rw [ltI_iff, mixL_len] at h2; omega⟩)
        all_goals (try exact Ob.mk ⟨by rw [Nat.zero_add, Int.toNat_natCast], by rename_i h2 _; rw [ltI_iff, mixL_len] at h2; omega⟩)
        all_goals (try have hi2 : i < (nthD g.blocks b).code.length := by (simp only [ltI_iff, mixL_len] at *; omega))
        all_goals (try have hx := hF.sets _ (nthD_mem hb2) _ (nthD_mem hi2))
        all_goals (try have hU := fun n (h : n < _) => hF.uses _ (nthD_mem hb2) _ (nthD_mem hi2) _ (nthD_mem (i := n) h))
        all_goals (try have hal := (hg.all _ (nthD_mem hb2)).args _ (nthD_mem hi2))
        all_goals (try have hcl := (hg.all _ (nthD_mem hb2)).code)
        all_goals (try exact Ob.mk hal)
        all_goals (try exact Ob.mk (by rw [List.length_map, hto]; omega))
        all_goals (try (have h6 := hU 0 (by simp only [bif_and, Bool.and_eq_true, leI_iff, List.length_map] at *; omega); exact Ob.mk (by first | exact h6.1 | (rw [List.length_map, hto]; have := h6.2; simp only [Nat.zero_add, Int.toNat_zero] at *; omega))))
        all_goals (try (have h6 := hU 1 (by simp only [bif_and, Bool.and_eq_true, leI_iff, List.length_map] at *; omega); exact Ob.mk (by first | exact h6.1 | (rw [List.length_map, hto]; have := h6.2; have e : 0 + Int.toNat 1 = 1 := rfl; rw [e]; omega))))
        all_goals (try (exfalso; simp only [bif_and, Bool.and_eq_true, Bool.and_eq_false_iff, leI_iff, leI_not, List.length_map] at *; omega))
        any_goals
          have hi3 : i < (nthD g.blocks b).code.length := hi2
          rename_i q0 q1 q2 q3
          simp only [bif_and, Bool.and_eq_true, Bool.and_eq_false_iff, leI_iff, leI_not, eqI_iff, eqI_not, Bool.not_eq_true', Bool.not_eq_false', List.length_map] at q1 q2 q3
          conv => whnf
          refine LoopVC.mk [11] [] (fun m vals σ => ∃ k : Nat, vals = [.t (.int .i64 k)] ∧ σ = [gvar g, gzero, .dead, .dead, .dead, outV g 14, .dead, .dead, .dead, .dead, .dead, .dead, xV (renI P (nthD (nthD g.blocks b).code i)) 16 b i (nthD (nthD g.blocks b).code i).args.length (nthD (nthD g.blocks b).code i).arrs.length, .row 3 1 ((usesN (nthD (nthD g.blocks b).code i)).map fun n => .int .i64 n)] ++ rowsG g ((mixL (fun b => (renB P b).o) Block.o g.blocks b).set b (blkT ((mixL (fun x => (renI P x).o) Ins.o (nthD g.blocks b).code i).set i (waO (nthD (nthD g.blocks b).code i) (((nthD (nthD g.blocks b).code i).args.take k).map P ++ (nthD (nthD g.blocks b).code i).args.drop k))) (nthD g.blocks b).fin)) ∧ k ≤ (nthD (nthD g.blocks b).code i).args.length ∧ m = (nthD (nthD g.blocks b).code i).args.length - k ∧ (0 < k → (nthD (nthD g.blocks b).code i).op = 29)) ?_ ?_
          · conv => whnf
            refine ⟨_, 0, rfl, ?_, Nat.zero_le _, rfl, fun h => absurd h (Nat.lt_irrefl _)⟩
            refine st18 ?_ ?_ ?_ ?_ ?_ ?_ ?_ ?_
            · simp only [renI, ← hP, show 0 + Int.toNat 1 = 1 from rfl, show 0 + Int.toNat 0 = 0 from rfl]; split <;> first | rfl | (exfalso; omega)
            · simp only [renI, ← hP, show 0 + Int.toNat 1 = 1 from rfl, show 0 + Int.toNat 0 = 0 from rfl]; split <;> first | rfl | (exfalso; omega)
            · simp only [renI, ← hP, show 0 + Int.toNat 1 = 1 from rfl, show 0 + Int.toNat 0 = 0 from rfl]; split <;> first | rfl | (exfalso; omega)
            · rfl
            · rfl
            · rw [List.length_map]
            · rw [List.length_map]
            · refine congrArg (fun z => (mixL (fun b => (renB P b).o) Block.o g.blocks b).set b (blkT z (nthD g.blocks b).fin)) ?_
              exact (mixL_self hi2).symm
          · rintro m vals σ ⟨k, rfl, rfl, hk, rfl, h0⟩
            repeat' ((conv => whnf); first
    | (with_reducible refine onBool_intro (fun _ => ?_) (fun _ => ?_))
    | (with_reducible refine And.intro (Ob.mk (Nat.le_of_ble_eq_true rfl)) ?_)
    | (with_reducible refine And.intro (Ob.mk rfl) ?_)
    | (with_reducible exact ⟨rfl, rfl⟩)
    | (with_reducible refine And.intro (Ob.mk (fun h => h)) ?_)
    | (with_reducible refine Or.inl (And.intro (Ob.mk (Flat.map ?_)) ?_); exact fun _ => rfl)
    | (refine Or.inl (And.intro (Ob.mk (flat_of rfl)) ?_))
    | (refine Or.inl (And.intro (Ob.mk ⟨rfl, rfl, rfl, rfl⟩) ?_))
    | (refine Or.inl (And.intro (Ob.mk ⟨rfl, rfl, rfl⟩) ?_))
    | (refine And.intro (Ob.mk ⟨rfl, rfl⟩) ?_)
    | (with_reducible refine Or.inr ?_)
    | (refine And.intro (Ob.mk (flat_of rfl)) ?_)
    | (with_reducible refine And.intro (Ob.mk (Flat.map ?_)) ?_; exact fun _ => rfl)
    | (with_reducible exact Ob.mk (Flat.map fun _ => rfl))
    | (with_reducible refine And.intro ?_ ?_)
    | (with_reducible apply exG.mk) | (with_reducible apply exGS.mk) | (with_reducible exact Dd.nil) | (refine Dd.same _ ?_) | (refine Dd.dead _ ?_) | (with_reducible apply exQ.mk) | (with_reducible apply exP.mk) | (refine EqP.mk rfl rfl) | (with_reducible apply exW.mk) | (refine EqW.mk rfl)
    | (with_reducible intro _) | (with_reducible refine Dn.mk ?_)
    | (refine exS.full (by first | rfl | (simp; done) | (simp; omega)) ?_)
    | (refine And.intro (Ob.mk ⟨rfl, rfl, by first | rfl | (simp; done) | (simp; omega)⟩) ?_)
    | (with_reducible refine exE.mapD ?_) | (refine exL.int ?_)
    | (with_reducible refine Up0.mk rfl ?_) | (with_reducible refine Up0i.mk rfl ?_) | (with_reducible refine Up1.mk rfl ?_) | (with_reducible refine Up1i.mk rfl ?_) | (with_reducible refine Up2.mk rfl ?_) | (with_reducible refine Up2i.mk rfl ?_)
    | (refine Col.mk rfl rfl rfl ?_) | (refine Coli.mk rfl rfl rfl rfl ?_)
    | (refine exE.setSameO ?_ ?_)
    | (refine exE.mixO ?_ ?_)
    | (refine drawVC.mkM _ _ 13 13 [(12, [])] [[], [0], [], [], [], [4], [], [4, 5, 6], [4, 5, 6, 7], [3, 4, 5, 6, 7, 8], [3, 4, 5, 6, 7, 8, 9], [0, 1, 2, 3, 4, 5, 6, 7, 8, 9, 10], [0, 1, 2, 3, 4, 5, 6, 7, 8, 9, 10, 11]] rfl (by kernel_rfl) ?_)
    | (refine drawVC.mkM _ _ 10 10 [(9, [])] [[], [0], [], [0, 1, 2], [0, 1, 2, 3], [0, 1, 2, 3, 4], [], [], [0, 1, 2, 3, 4, 5, 6, 7], [0, 1, 2, 3, 4, 5, 6, 7, 8]] rfl (by kernel_rfl) ?_))
            all_goals (try (refine Ob.mk ?_; first | assumption | exact ⟨rfl, rfl⟩ | exact ⟨rfl, rfl, rfl⟩ | (refine ⟨rfl, rfl, ?_⟩; simp only [List.length_map, List.length_take, List.length_append, els_len, List.length_replicate]; omega) | (intro h; exact h) | (intro h; rw [h]; rfl) | (intro h; simp_all; done) | (refine bytes_le (n := 1048577) ?_ rfl; simp only [ltI_iff, ltI_not, leI_iff, leI_not, eqI_iff, eqI_not, List.length_map, bif_and, bif_or, Bool.and_eq_true, Bool.and_eq_false_iff, Bool.or_eq_true, Bool.or_eq_false_iff, Bool.not_eq_true', Bool.not_eq_false', Int.toNat_natCast, beq_iff_eq, beq_eq_false_iff_ne, decide_eq_true_eq, decide_eq_false_iff_not, bel_iff, bel_not, wthn_iff, wthn_not, els_len, mixL_len, Nat.zero_add, List.length_set, List.length_take] at *; omega) | (simp only [ltI_iff, ltI_not, leI_iff, leI_not, eqI_iff, eqI_not, List.length_map, bif_and, bif_or, Bool.and_eq_true, Bool.and_eq_false_iff, Bool.or_eq_true, Bool.or_eq_false_iff, Bool.not_eq_true', Bool.not_eq_false', Int.toNat_natCast, beq_iff_eq, beq_eq_false_iff_ne, decide_eq_true_eq, decide_eq_false_iff_not, bel_iff, bel_not, wthn_iff, wthn_not, els_len, mixL_len, Nat.zero_add, List.length_set, List.length_take, Int.ofNat_eq_natCast] at *; omega)))
            all_goals (try exact Ob.mk ⟨by first | rfl | (rw [Nat.zero_add, Int.toNat_natCast]), by (try simp only [List.length_set, mixL_len, Nat.zero_add, Int.toNat_natCast]); first | exact hb2 | exact hi2⟩)
            all_goals
              rename_i k1
              simp only [bif_and, Bool.and_eq_true, Bool.and_eq_false_iff, ltI_iff, ltI_not, eqI_iff, eqI_not] at k1
            all_goals (try (have hk2 : k < (nthD (nthD g.blocks b).code i).args.length := by omega))
            all_goals (try have h29 : (nthD (nthD g.blocks b).code i).op = 29 := k1.2)
            all_goals (try have hUA : usesN (nthD (nthD g.blocks b).code i) = (nthD (nthD g.blocks b).code i).args := usesN_call h29)
            all_goals (try have hV := hF.uses _ (nthD_mem hb2) _ (nthD_mem hi2) (nthD (nthD (nthD g.blocks b).code i).args k) (by rw [hUA]; exact nthD_mem hk2))
            all_goals (try exact Ob.mk (by rw [List.length_map, mix_len, Nat.zero_add, Int.toNat_natCast]; exact hk2))
            all_goals (try exact Ob.mk (by rw [Nat.zero_add, Int.toNat_natCast, mix_at hk2]; first | exact hV.1 | (rw [List.length_map, hto]; omega)))
            · conv => whnf
              refine ⟨(nthD (nthD g.blocks b).code i).args.length - (k + 1), by omega, k + 1, ?_, ?_, by omega, rfl, fun _ => k1.2⟩
              · rw [addI_i64 (by omega) (by omega)]; rfl
              · refine st18k (bl18 ?_ ?_ (wa6 ?_))
                · rw [Nat.zero_add, Int.toNat_natCast]
                · rw [Nat.zero_add, Int.toNat_natCast]
                simp only [Nat.zero_add, Int.toNat_natCast]
                exact mix_set hk2 (by rw [mix_at hk2, ← hP])
            all_goals (try exact Ob.mk (by first | (rw [List.length_map]; done) | (rw [List.length_map, mix_len]; done)))
            · conv => whnf
              refine ⟨(nthD g.blocks b).code.length - (i + 1), by omega, i + 1, ?_, ?_, by omega, rfl⟩
              · rw [addI_i64 (by omega) (by omega)]; rfl
              · refine st18i ((bl18 (by rw [Nat.zero_add, Int.toNat_natCast]) (by rw [Nat.zero_add, Int.toNat_natCast]) (wa0 (P := P) (renI_args hk h0 ?_))).trans ?_)
                · rintro ⟨h8, h9⟩
                  rcases k1 with k1 | k1
                  · omega
                  · exact k1 h9
                · exact congrArg (fun z => (mixL (fun b => (renB P b).o) Block.o g.blocks b).set b (blkT z (nthD g.blocks b).fin)) (mixL_set (f := fun x => (renI P x).o) hi2)
        all_goals have hi4 : (nthD g.blocks b).code.length ≤ i := by (simp only [ltI_not, mixL_len] at *; omega)
        all_goals have hE := fun n (h : n < _) => hF.ends _ (nthD_mem hb2) _ (nthD_mem (i := n) h)
        all_goals (try exact Ob.mk ⟨by first | rfl | (rw [Nat.zero_add, Int.toNat_natCast]), by simp only [List.length_set, mixL_len, Nat.zero_add, Int.toNat_natCast]; exact hb2⟩)
        all_goals (try (have h6 := hE 0 (by simp only [leI_iff, List.length_map] at *; omega); exact Ob.mk (by first | exact h6.1 | (rw [List.length_map, hto]; have := h6.2; simp only [Nat.zero_add, Int.toNat_zero] at *; omega))))
        all_goals (try (have h6 := hE 1 (by simp only [leI_iff, List.length_map] at *; omega); exact Ob.mk (by first | exact h6.1 | (rw [List.length_map, hto]; have := h6.2; have e : 0 + Int.toNat 1 = 1 := rfl; rw [e]; omega))))
        all_goals (try (exfalso; simp only [leI_iff, leI_not, List.length_map] at *; omega))
        all_goals
          simp only [leI_iff, leI_not, List.length_map] at *
          conv => whnf
          refine ⟨g.blocks.length - (b + 1), by omega, b + 1, ?_, ?_, by omega, rfl⟩
          · rw [addI_i64 (by omega) (by omega)]; rfl
          · refine st18b ?_
            (try simp only [Nat.zero_add, Int.toNat_natCast, List.set_set])
            refine end18 hb2 (fin18 hi4 ?_ ?_)
            · simp only [renE, ← hP, show 0 + Int.toNat 1 = 1 from rfl, show 0 + Int.toNat 0 = 0 from rfl]; split <;> first | rfl | (exfalso; omega)
            · simp only [renE, ← hP, show 0 + Int.toNat 1 = 1 from rfl, show 0 + Int.toNat 0 = 0 from rfl]; split <;> first | rfl | (exfalso; omega)
    · rename_i h1
      have h1 : g.blocks.length ≤ b := by have := ltI_not.1 h1; omega
      conv => whnf
      refine LoopVC.mk [13] [] (fun m vals σ => vals = [.t (.int .i64 0)] ∧ σ = [gvar g, gzero, .dead, .dead, .dead, outV g 9, .dead, .dead, .dead] ++ rowsG g (mixL (fun b => (renB P b).o) Block.o g.blocks b) ∧ m = 0) ?_ ?_
      · conv => whnf
        exact ⟨0, rfl, rfl, rfl⟩
      · rintro m vals σ ⟨rfl, rfl, hm⟩
        repeat' ((conv => whnf); first
    | (with_reducible refine onBool_intro (fun _ => ?_) (fun _ => ?_))
    | (with_reducible refine And.intro (Ob.mk (Nat.le_of_ble_eq_true rfl)) ?_)
    | (with_reducible refine And.intro (Ob.mk rfl) ?_)
    | (with_reducible exact ⟨rfl, rfl⟩)
    | (with_reducible refine And.intro (Ob.mk (fun h => h)) ?_)
    | (with_reducible refine Or.inl (And.intro (Ob.mk (Flat.map ?_)) ?_); exact fun _ => rfl)
    | (refine Or.inl (And.intro (Ob.mk (flat_of rfl)) ?_))
    | (refine Or.inl (And.intro (Ob.mk ⟨rfl, rfl, rfl, rfl⟩) ?_))
    | (refine Or.inl (And.intro (Ob.mk ⟨rfl, rfl, rfl⟩) ?_))
    | (refine And.intro (Ob.mk ⟨rfl, rfl⟩) ?_)
    | (with_reducible refine Or.inr ?_)
    | (refine And.intro (Ob.mk (flat_of rfl)) ?_)
    | (with_reducible refine And.intro (Ob.mk (Flat.map ?_)) ?_; exact fun _ => rfl)
    | (with_reducible exact Ob.mk (Flat.map fun _ => rfl))
    | (with_reducible refine And.intro ?_ ?_)
    | (with_reducible apply exG.mk) | (with_reducible apply exGS.mk) | (with_reducible exact Dd.nil) | (refine Dd.same _ ?_) | (refine Dd.dead _ ?_) | (with_reducible apply exQ.mk) | (with_reducible apply exP.mk) | (refine EqP.mk rfl rfl) | (with_reducible apply exW.mk) | (refine EqW.mk rfl)
    | (with_reducible intro _) | (with_reducible refine Dn.mk ?_)
    | (refine exS.full (by first | rfl | (simp; done) | (simp; omega)) ?_)
    | (refine And.intro (Ob.mk ⟨rfl, rfl, by first | rfl | (simp; done) | (simp; omega)⟩) ?_)
    | (with_reducible refine exE.mapD ?_) | (refine exL.int ?_)
    | (with_reducible refine Up0.mk rfl ?_) | (with_reducible refine Up0i.mk rfl ?_) | (with_reducible refine Up1.mk rfl ?_) | (with_reducible refine Up1i.mk rfl ?_) | (with_reducible refine Up2.mk rfl ?_) | (with_reducible refine Up2i.mk rfl ?_)
    | (refine Col.mk rfl rfl rfl ?_) | (refine Coli.mk rfl rfl rfl rfl ?_)
    | (refine exS.full mixL_len.symm ?_))
        all_goals (try (refine Ob.mk ?_; first | assumption | exact ⟨rfl, rfl⟩ | exact ⟨rfl, rfl, rfl⟩ | (refine ⟨rfl, rfl, ?_⟩; simp only [List.length_map, List.length_take, List.length_append, els_len, List.length_replicate]; omega) | (intro h; exact h) | (intro h; rw [h]; rfl) | (intro h; simp_all; done) | (refine bytes_le (n := 1048577) ?_ rfl; simp only [ltI_iff, ltI_not, leI_iff, leI_not, eqI_iff, eqI_not, List.length_map, bif_and, bif_or, Bool.and_eq_true, Bool.and_eq_false_iff, Bool.or_eq_true, Bool.or_eq_false_iff, Bool.not_eq_true', Bool.not_eq_false', Int.toNat_natCast, beq_iff_eq, beq_eq_false_iff_ne, decide_eq_true_eq, decide_eq_false_iff_not, bel_iff, bel_not, wthn_iff, wthn_not, els_len, mixL_len, Nat.zero_add, List.length_set, List.length_take] at *; omega) | (simp only [ltI_iff, ltI_not, leI_iff, leI_not, eqI_iff, eqI_not, List.length_map, bif_and, bif_or, Bool.and_eq_true, Bool.and_eq_false_iff, Bool.or_eq_true, Bool.or_eq_false_iff, Bool.not_eq_true', Bool.not_eq_false', Int.toNat_natCast, beq_iff_eq, beq_eq_false_iff_ne, decide_eq_true_eq, decide_eq_false_iff_not, bel_iff, bel_not, wthn_iff, wthn_not, els_len, mixL_len, Nat.zero_add, List.length_set, List.length_take, Int.ofNat_eq_natCast] at *; omega)))
        all_goals (try (exfalso; rename_i h2; rw [hp] at h2; simp [ltI] at h2; done))
        all_goals (try exact Ob.mk ⟨rfl, rfl, by first | (simp; done) | (rw [mixL_len]; done)⟩)
        all_goals (try exact Ob.mk clean_ints)
        all_goals (try exact Ob.mk clean_arr)
        all_goals (try (refine Ob.mk ?_; rw [mixL_full h1]; exact clean_map (f := fun b => (renB P b).o) fun b => .nst clean_ins (.int (.int (.int (.int (.int (.int (.int (.nst clean_case (.nst clean_ints .nil)))))))))))
        · rw [mixL_full h1]
          unfold renG Graph.o
          simp only [List.map_map]
          rfl
end Go.Proofs.YtgladinljapmkaaDoor.Am

/- LiveRenamed: insertion sort. -/
namespace Go.Proofs.YtgladinljapmkaaDoor.Am
open Go Go.Proofs
set_option maxRecDepth 10000
set_option maxHeartbeats 2000000
set_option linter.unusedVariables false
set_option linter.unusedSimpArgs false

abbrev intsF (n : Nat) (f : Nat → Int) : List T := (List.range n).map fun j => .int .i64 (f j)
theorem intsF_set {n i : Nat} {f : Nat → Int} {z : Int} : (intsF n f).set i (.int .i64 z) = intsF n (fun j => if j = i then z else f j) := by
  apply List.ext_getElem
  · simp
  · intro j h1 h2
    rw [List.getElem_set]
    simp only [List.getElem_map, List.getElem_range]
    by_cases h : i = j
    · subst h; simp
    · rw [if_neg h, if_neg (fun e => h e.symm)]
theorem intsF_congr {n : Nat} {f g : Nat → Int} (h : ∀ j, j < n → f j = g j) : intsF n f = intsF n g := by
  apply List.map_congr_left
  intro j hj
  rw [h j (by simpa using hj)]
/-- The one is the other, laid otherwise. -/
structure SameF (n : Nat) (f f' : Nat → Int) : Prop where
  mem : ∀ z, (∃ j, j < n ∧ f' j = z) ↔ (∃ j, j < n ∧ f j = z)
  inj : (∀ i j, i < n → j < n → f i = f j → i = j) → ∀ i j, i < n → j < n → f' i = f' j → i = j
theorem SameF.refl (n : Nat) (f : Nat → Int) : SameF n f f := ⟨fun _ => Iff.rfl, fun h => h⟩
def swapF (f : Nat → Int) (a b : Nat) : Nat → Int := fun j => if j = b then f a else if j = a then f b else f j
theorem SameF.swap {n : Nat} {f f' : Nat → Int} (h : SameF n f f') {a b : Nat} (ha : a < n) (hb : b < n) : SameF n f (swapF f' a b) := by
  refine ⟨fun z => ?_, fun hi => ?_⟩
  · rw [← h.mem z]
    constructor
    · rintro ⟨j, hj, e⟩
      unfold swapF at e
      split at e
      · exact ⟨a, ha, e⟩
      · split at e
        · exact ⟨b, hb, e⟩
        · exact ⟨j, hj, e⟩
    · rintro ⟨j, hj, e⟩
      by_cases e1 : j = a
      · refine ⟨b, hb, ?_⟩
        unfold swapF
        rw [if_pos rfl, ← e1]; exact e
      · by_cases e2 : j = b
        · refine ⟨a, ha, ?_⟩
          unfold swapF
          split
          · rename_i e3; rw [e3, ← e2]; exact e
          · rw [if_pos rfl, ← e2]; exact e
        · refine ⟨j, hj, ?_⟩
          unfold swapF
          rw [if_neg e2, if_neg e1]; exact e
  · have hi := h.inj hi
    intro i j hi2 hj2 e
    have hs : ∀ j, j < n → ∃ j', j' < n ∧ swapF f' a b j = f' j' ∧ ((j = b ∧ j' = a) ∨ (j ≠ b ∧ j = a ∧ j' = b) ∨ (j ≠ b ∧ j ≠ a ∧ j' = j)) := by
      intro j hj
      unfold swapF
      by_cases e1 : j = b
      · exact ⟨a, ha, by rw [if_pos e1], .inl ⟨e1, rfl⟩⟩
      · by_cases e2 : j = a
        · exact ⟨b, hb, by rw [if_neg e1, if_pos e2], .inr (.inl ⟨e1, e2, rfl⟩)⟩
        · exact ⟨j, hj, by rw [if_neg e1, if_neg e2], .inr (.inr ⟨e1, e2, rfl⟩)⟩
    obtain ⟨i', h1, h2, h3⟩ := hs i hi2
    obtain ⟨j', k1, k2, k3⟩ := hs j hj2
    rw [h2, k2] at e
    have := hi _ _ h1 k1 e
    omega
/-- Sorted up to i but for place k, whose value is at most those behind it. -/
structure Near (f : Nat → Int) (i k : Nat) : Prop where
  rest : ∀ p q, p < q → q ≤ i → p ≠ k → q ≠ k → f p ≤ f q
  here : ∀ q, k < q → q ≤ i → f k ≤ f q
theorem Near.step {f : Nat → Int} {i k : Nat} (h : Near f i k) (hk : 0 < k) (hki : k ≤ i) (hlt : f k < f (k - 1)) : Near (swapF f (k - 1) k) i (k - 1) := by
  refine ⟨fun p q hpq hq hp1 hq1 => ?_, fun q hq hqi => ?_⟩
  · unfold swapF
    by_cases e1 : p = k
    · rw [if_pos e1, if_neg (by omega), if_neg hq1]
      exact h.rest _ _ (by omega) hq (by omega) (by omega)
    · rw [if_neg e1, if_neg hp1]
      by_cases e2 : q = k
      · rw [if_pos e2]
        exact h.rest _ _ (by omega) (by omega) e1 (by omega)
      · rw [if_neg e2, if_neg hq1]
        exact h.rest _ _ hpq hq e1 e2
  · unfold swapF
    rw [if_neg (by omega), if_pos rfl]
    by_cases e2 : q = k
    · rw [if_pos e2]; omega
    · rw [if_neg e2, if_neg (by omega)]
      exact h.here _ (by omega) hqi
theorem Near.done {f : Nat → Int} {i k : Nat} (h : Near f i k) (hki : k ≤ i) (hd : k = 0 ∨ f (k - 1) ≤ f k) : ∀ p q, p < q → q ≤ i → f p ≤ f q := by
  intro p q hpq hq
  by_cases e1 : p = k
  · rw [e1]; exact h.here _ (by omega) hq
  · by_cases e2 : q = k
    · rcases hd with hd | hd
      · omega
      · rw [e2]
        by_cases e3 : p = k - 1
        · rw [e3]; exact hd
        · exact Int.le_trans (h.rest p (k - 1) (by omega) (by omega) e1 (by omega)) hd
    · exact h.rest _ _ hpq hq e1 e2
theorem intsF_len {n : Nat} {f : Nat → Int} : (intsF n f).length = n := by simp
theorem exE.setOtherO {xs : List T} {i j : Nat} {y : T} {K : T → Prop} (hi : Ob (i ≠ j)) (h : exE xs j K) : exE (xs.set i y) j K := exE.setOther hi.out h
theorem sorted20 (n : Nat) (hn : n ≤ 2 ^ 20) (f : Nat → Int) : ICalls Tryd.prog 20 [.osl 0 0 n] [.row 3 1 (intsF n f)] (fun v σ => Ob (∃ f', SameF n f f' ∧ (∀ p q, p < q → q < n → f' p ≤ f' q) ∧ v = .osl 0 0 n ∧ σ = [.row 3 1 (intsF n f')])) := by
  refine ICalls.inline (I := fun _ => false) ttOk Tryd.func20 rfl ?_
  repeat' ((conv => whnf); first
    | (with_reducible refine onBool_intro (fun _ => ?_) (fun _ => ?_))
    | (with_reducible refine And.intro (Ob.mk (Nat.le_of_ble_eq_true rfl)) ?_)
    | (with_reducible refine And.intro (Ob.mk rfl) ?_)
    | (with_reducible exact ⟨rfl, rfl⟩)
    | (with_reducible refine And.intro (Ob.mk (fun h => h)) ?_)
    | (with_reducible refine Or.inl (And.intro (Ob.mk (Flat.map ?_)) ?_); exact fun _ => rfl)
    | (refine Or.inl (And.intro (Ob.mk (flat_of rfl)) ?_))
    | (refine Or.inl (And.intro (Ob.mk ⟨rfl, rfl, rfl, rfl⟩) ?_))
    | (refine Or.inl (And.intro (Ob.mk ⟨rfl, rfl, rfl⟩) ?_))
    | (refine And.intro (Ob.mk ⟨rfl, rfl⟩) ?_)
    | (with_reducible refine Or.inr ?_)
    | (refine And.intro (Ob.mk (flat_of rfl)) ?_)
    | (with_reducible refine And.intro (Ob.mk (Flat.map ?_)) ?_; exact fun _ => rfl)
    | (with_reducible exact Ob.mk (Flat.map fun _ => rfl))
    | (with_reducible refine And.intro ?_ ?_)
    | (with_reducible apply exG.mk) | (with_reducible apply exGS.mk) | (with_reducible exact Dd.nil) | (refine Dd.same _ ?_) | (refine Dd.dead _ ?_) | (with_reducible apply exQ.mk) | (with_reducible apply exP.mk) | (refine EqP.mk rfl rfl) | (with_reducible apply exW.mk) | (refine EqW.mk rfl)
    | (with_reducible intro _) | (with_reducible refine Dn.mk ?_)
    | (refine exS.full (by first | rfl | (simp; done) | (simp; omega)) ?_)
    | (refine And.intro (Ob.mk ⟨rfl, rfl, by first | rfl | (simp; done) | (simp; omega)⟩) ?_)
    | (with_reducible refine exE.mapD ?_) | (refine exL.int ?_)
    | (with_reducible refine Up0.mk rfl ?_) | (with_reducible refine Up0i.mk rfl ?_) | (with_reducible refine Up1.mk rfl ?_) | (with_reducible refine Up1i.mk rfl ?_) | (with_reducible refine Up2.mk rfl ?_) | (with_reducible refine Up2i.mk rfl ?_)
    | (refine Col.mk rfl rfl rfl ?_) | (refine Coli.mk rfl rfl rfl rfl ?_))
  all_goals (try (refine Ob.mk ?_; first | assumption | exact ⟨rfl, rfl⟩ | exact ⟨rfl, rfl, rfl⟩ | (refine ⟨rfl, rfl, ?_⟩; simp only [List.length_map, List.length_take, List.length_append, els_len, List.length_replicate]; omega) | (intro h; exact h) | (intro h; rw [h]; rfl) | (intro h; simp_all; done) | (refine bytes_le (n := 1048577) ?_ rfl; simp only [ltI_iff, ltI_not, leI_iff, leI_not, eqI_iff, eqI_not, List.length_map, bif_and, bif_or, Bool.and_eq_true, Bool.and_eq_false_iff, Bool.or_eq_true, Bool.or_eq_false_iff, Bool.not_eq_true', Bool.not_eq_false', Int.toNat_natCast, beq_iff_eq, beq_eq_false_iff_ne, decide_eq_true_eq, decide_eq_false_iff_not, bel_iff, bel_not, wthn_iff, wthn_not, els_len, mixL_len, Nat.zero_add, List.length_set, List.length_take] at *; omega) | (simp only [ltI_iff, ltI_not, leI_iff, leI_not, eqI_iff, eqI_not, List.length_map, bif_and, bif_or, Bool.and_eq_true, Bool.and_eq_false_iff, Bool.or_eq_true, Bool.or_eq_false_iff, Bool.not_eq_true', Bool.not_eq_false', Int.toNat_natCast, beq_iff_eq, beq_eq_false_iff_ne, decide_eq_true_eq, decide_eq_false_iff_not, bel_iff, bel_not, wthn_iff, wthn_not, els_len, mixL_len, Nat.zero_add, List.length_set, List.length_take, Int.ofNat_eq_natCast] at *; omega)))
  conv => whnf
  refine LoopVC.mk [3] [] (fun m vals σ => ∃ (i : Nat) (f' : Nat → Int), vals = [.t (.int .i64 i)] ∧ σ = [.row 3 1 (intsF n f')] ∧ i ≤ n ∧ m = n - i ∧ SameF n f f' ∧ ∀ p q, p < q → q < i → f' p ≤ f' q) ?_ ?_
  · conv => whnf
    exact ⟨_, 0, f, rfl, rfl, Nat.zero_le _, rfl, .refl _ _, fun p q _ h => absurd h (Nat.not_lt_zero _)⟩
  · rintro m vals σ ⟨i, f', rfl, rfl, hi, rfl, hs, ho⟩
    repeat' ((conv => whnf); first
    | (with_reducible refine onBool_intro (fun _ => ?_) (fun _ => ?_))
    | (with_reducible refine And.intro (Ob.mk (Nat.le_of_ble_eq_true rfl)) ?_)
    | (with_reducible refine And.intro (Ob.mk rfl) ?_)
    | (with_reducible exact ⟨rfl, rfl⟩)
    | (with_reducible refine And.intro (Ob.mk (fun h => h)) ?_)
    | (with_reducible refine Or.inl (And.intro (Ob.mk (Flat.map ?_)) ?_); exact fun _ => rfl)
    | (refine Or.inl (And.intro (Ob.mk (flat_of rfl)) ?_))
    | (refine Or.inl (And.intro (Ob.mk ⟨rfl, rfl, rfl, rfl⟩) ?_))
    | (refine Or.inl (And.intro (Ob.mk ⟨rfl, rfl, rfl⟩) ?_))
    | (refine And.intro (Ob.mk ⟨rfl, rfl⟩) ?_)
    | (with_reducible refine Or.inr ?_)
    | (refine And.intro (Ob.mk (flat_of rfl)) ?_)
    | (with_reducible refine And.intro (Ob.mk (Flat.map ?_)) ?_; exact fun _ => rfl)
    | (with_reducible exact Ob.mk (Flat.map fun _ => rfl))
    | (with_reducible refine And.intro ?_ ?_)
    | (with_reducible apply exG.mk) | (with_reducible apply exGS.mk) | (with_reducible exact Dd.nil) | (refine Dd.same _ ?_) | (refine Dd.dead _ ?_) | (with_reducible apply exQ.mk) | (with_reducible apply exP.mk) | (refine EqP.mk rfl rfl) | (with_reducible apply exW.mk) | (refine EqW.mk rfl)
    | (with_reducible intro _) | (with_reducible refine Dn.mk ?_)
    | (refine exS.full (by first | rfl | (simp; done) | (simp; omega)) ?_)
    | (refine And.intro (Ob.mk ⟨rfl, rfl, by first | rfl | (simp; done) | (simp; omega)⟩) ?_)
    | (with_reducible refine exE.mapD ?_) | (refine exL.int ?_)
    | (with_reducible refine Up0.mk rfl ?_) | (with_reducible refine Up0i.mk rfl ?_) | (with_reducible refine Up1.mk rfl ?_) | (with_reducible refine Up1i.mk rfl ?_) | (with_reducible refine Up2.mk rfl ?_) | (with_reducible refine Up2i.mk rfl ?_)
    | (refine Col.mk rfl rfl rfl ?_) | (refine Coli.mk rfl rfl rfl rfl ?_))
    all_goals (try (refine Ob.mk ?_; first | assumption | exact ⟨rfl, rfl⟩ | exact ⟨rfl, rfl, rfl⟩ | (refine ⟨rfl, rfl, ?_⟩; simp only [List.length_map, List.length_take, List.length_append, els_len, List.length_replicate]; omega) | (intro h; exact h) | (intro h; rw [h]; rfl) | (intro h; simp_all; done) | (refine bytes_le (n := 1048577) ?_ rfl; simp only [ltI_iff, ltI_not, leI_iff, leI_not, eqI_iff, eqI_not, List.length_map, bif_and, bif_or, Bool.and_eq_true, Bool.and_eq_false_iff, Bool.or_eq_true, Bool.or_eq_false_iff, Bool.not_eq_true', Bool.not_eq_false', Int.toNat_natCast, beq_iff_eq, beq_eq_false_iff_ne, decide_eq_true_eq, decide_eq_false_iff_not, bel_iff, bel_not, wthn_iff, wthn_not, els_len, mixL_len, Nat.zero_add, List.length_set, List.length_take] at *; omega) | (simp only [ltI_iff, ltI_not, leI_iff, leI_not, eqI_iff, eqI_not, List.length_map, bif_and, bif_or, Bool.and_eq_true, Bool.and_eq_false_iff, Bool.or_eq_true, Bool.or_eq_false_iff, Bool.not_eq_true', Bool.not_eq_false', Int.toNat_natCast, beq_iff_eq, beq_eq_false_iff_ne, decide_eq_true_eq, decide_eq_false_iff_not, bel_iff, bel_not, wthn_iff, wthn_not, els_len, mixL_len, Nat.zero_add, List.length_set, List.length_take, Int.ofNat_eq_natCast] at *; omega)))
    · rename_i h1
      have h1 : i < n := by have := ltI_iff.1 h1; omega
      conv => whnf
      refine LoopVC.mk [4] [] (fun m vals σ => ∃ (k : Nat) (f' : Nat → Int), vals = [.t (.int .i64 k)] ∧ σ = [.row 3 1 (intsF n f')] ∧ k ≤ i ∧ m = k ∧ SameF n f f' ∧ Near f' i k) ?_ ?_
      · conv => whnf
        exact ⟨_, i, f', rfl, rfl, Nat.le_refl _, rfl, hs, ⟨fun p q hpq hq h2 h3 => ho p q hpq (by omega), fun q h2 h3 => by omega⟩⟩
      · rintro m vals σ ⟨k, f2, rfl, rfl, hk, rfl, hs2, hne⟩
        repeat' ((conv => whnf); first
    | (with_reducible refine onBool_intro (fun _ => ?_) (fun _ => ?_))
    | (with_reducible refine And.intro (Ob.mk (Nat.le_of_ble_eq_true rfl)) ?_)
    | (with_reducible refine And.intro (Ob.mk rfl) ?_)
    | (with_reducible exact ⟨rfl, rfl⟩)
    | (with_reducible refine And.intro (Ob.mk (fun h => h)) ?_)
    | (with_reducible refine Or.inl (And.intro (Ob.mk (Flat.map ?_)) ?_); exact fun _ => rfl)
    | (refine Or.inl (And.intro (Ob.mk (flat_of rfl)) ?_))
    | (refine Or.inl (And.intro (Ob.mk ⟨rfl, rfl, rfl, rfl⟩) ?_))
    | (refine Or.inl (And.intro (Ob.mk ⟨rfl, rfl, rfl⟩) ?_))
    | (refine And.intro (Ob.mk ⟨rfl, rfl⟩) ?_)
    | (with_reducible refine Or.inr ?_)
    | (refine And.intro (Ob.mk (flat_of rfl)) ?_)
    | (with_reducible refine And.intro (Ob.mk (Flat.map ?_)) ?_; exact fun _ => rfl)
    | (with_reducible exact Ob.mk (Flat.map fun _ => rfl))
    | (with_reducible refine And.intro ?_ ?_)
    | (with_reducible apply exG.mk) | (with_reducible apply exGS.mk) | (with_reducible exact Dd.nil) | (refine Dd.same _ ?_) | (refine Dd.dead _ ?_) | (with_reducible apply exQ.mk) | (with_reducible apply exP.mk) | (refine EqP.mk rfl rfl) | (with_reducible apply exW.mk) | (refine EqW.mk rfl)
    | (with_reducible intro _) | (with_reducible refine Dn.mk ?_)
    | (refine exS.full (by first | rfl | (simp; done) | (simp; omega)) ?_)
    | (refine And.intro (Ob.mk ⟨rfl, rfl, by first | rfl | (simp; done) | (simp; omega)⟩) ?_)
    | (with_reducible refine exE.mapD ?_) | (refine exL.int ?_)
    | (with_reducible refine Up0.mk rfl ?_) | (with_reducible refine Up0i.mk rfl ?_) | (with_reducible refine Up1.mk rfl ?_) | (with_reducible refine Up1i.mk rfl ?_) | (with_reducible refine Up2.mk rfl ?_) | (with_reducible refine Up2i.mk rfl ?_)
    | (refine Col.mk rfl rfl rfl ?_) | (refine Coli.mk rfl rfl rfl rfl ?_)
    | (refine drawVC.mkM _ _ 14 14 [] [[], [0], [0, 1], [0, 1, 2], [0, 1, 2], [0, 1, 2, 3, 4], [0, 1, 2, 3, 4, 5], [0, 1, 2], [0, 1, 2], [0, 1, 2, 8], [0, 1, 2, 7, 8, 9], [0, 1, 2, 7, 8, 9, 10], [0, 1, 2, 3, 4, 5, 6, 7, 8, 9, 10, 11], [0, 1, 2, 3, 4, 5, 6, 7, 8, 9, 10, 11, 12]] rfl (by kernel_rfl) ?_)
    | (refine drawVC.mkM _ _ 18 18 [(15, [2, 3, 4, 16]), (17, [])] [[], [], [], [], [3], [], [], [6], [5, 6, 7], [5, 6, 7, 8], [], [], [10, 11], [10, 11, 12], [0, 1, 5, 6, 7, 8, 9, 10, 11, 12, 13], [0, 1, 5, 6, 7, 8, 9, 10, 11, 12, 13, 14], [0, 1, 2, 3, 4, 5, 6, 7, 8, 9, 10, 11, 12, 13, 14, 15], [0, 1, 2, 3, 4, 5, 6, 7, 8, 9, 10, 11, 12, 13, 14, 15, 16]] rfl (by kernel_rfl) ?_)
    | (refine exE.setOtherO ?_ ?_))
        all_goals (try have h0 : 0 < m := by (simp only [bif_and, Bool.and_eq_true, ltI_iff] at *; omega))
        all_goals (try have hs1 : subI .i64 (m : Int) 1 = ((m - 1 : Nat) : Int) := by (rw [subI_i64 (by omega) (by omega)]; omega))
        all_goals (try rw [hs1] at *)
        all_goals (try (refine Ob.mk ?_; simp only [intsF_len, List.length_set, Nat.zero_add, Int.toNat_natCast] at *; omega))
        · rename_i h2
          have hmn : m < n := by omega
          have hmn2 : m - 1 < n := by omega
          have hs2' : subI .i64 (m : Int) 1 = ((m - 1 : Nat) : Int) := by rw [subI_i64 (by omega) (by omega)]; omega
          (try rw [hs2'] at h2)
          simp only [Nat.zero_add, Int.toNat_natCast, nthD_range hmn, nthD_range hmn2, bif_and, Bool.and_eq_true, ltI_iff] at h2
          conv => whnf
          refine ⟨m - 1, by omega, m - 1, swapF f2 (m - 1) m, by first | rfl | rw [hs2'], ?_, by omega, rfl, hs2.swap hmn2 hmn, hne.step h0 hk h2.2⟩
          (try rw [hs2'])
          simp only [Nat.zero_add, Int.toNat_natCast, nthD_range hmn, nthD_range hmn2]
          refine congrArg (fun z => [SObj.row 3 1 z]) (Eq.trans (congrArg (fun z => List.set z (m - 1) (.int .i64 (f2 m))) (intsF_set (f := f2) (i := m) (z := f2 (m - 1)))) (Eq.trans intsF_set (intsF_congr fun j hj => ?_)))
          unfold swapF
          by_cases e1 : j = m - 1
          · rw [if_pos e1, if_neg (by omega), if_pos e1]
          · rw [if_neg e1]
            by_cases e2 : j = m
            · rw [if_pos e2, if_pos e2]
            · rw [if_neg e2, if_neg e2, if_neg e1]
        · rename_i h2
          have hmn : m < n := by omega
          have hd : m = 0 ∨ f2 (m - 1) ≤ f2 m := by
            rcases Nat.eq_zero_or_pos m with e | e
            · exact .inl e
            · right
              have hmn2 : m - 1 < n := by omega
              have hs1 : subI .i64 (m : Int) 1 = ((m - 1 : Nat) : Int) := by rw [subI_i64 (by omega) (by omega)]; omega
              rw [hs1] at h2
              simp only [Nat.zero_add, Int.toNat_natCast, nthD_range hmn, nthD_range hmn2, bif_and, Bool.and_eq_false_iff, ltI_not] at h2
              omega
          conv => whnf
          refine ⟨n - (i + 1), by omega, i + 1, f2, ?_, rfl, by omega, rfl, hs2, fun p q hpq hq => hne.done hk hd p q hpq (by omega)⟩
          rw [addI_i64 (by omega) (by omega)]; rfl
    · rename_i h1
      have h1 : i = n := by have := ltI_not.1 h1; omega
      subst h1
      conv => whnf
      exact Ob.mk ⟨f', hs, ho, rfl, rfl⟩
end Go.Proofs.YtgladinljapmkaaDoor.Am

/- LiveRenamed: the plain law. -/
namespace Go.Proofs.YtgladinljapmkaaDoor.Am
open Go Go.Proofs
set_option maxRecDepth 10000
set_option maxHeartbeats 2000000
set_option linter.unusedVariables false
set_option linter.unusedSimpArgs false

/-- Temps below n renamed among themselves, no two alike. -/
structure RenP (n : Nat) (P : Int → Int) : Prop where
  rng : ∀ t : Int, 0 ≤ t → t < n → 0 ≤ P t ∧ P t < n
  inj : ∀ s t : Int, 0 ≤ s → s < n → 0 ≤ t → t < n → P s = P t → s = t
theorem kindN_ren {P : Int → Int} {x : Ins} : kindN (renI P x).op = kindN x.op := rfl
theorem setsN_ren {P : Int → Int} {x : Ins} (h : -1 ≤ setsN x) : setsN (renI P x) = if 0 ≤ setsN x then P (setsN x) else -1 := by
  have e : setsN (renI P x) = if kindN x.op = 0 ∨ kindN x.op = 5 ∨ kindN x.op = 7 ∨ kindN x.op = 10 then -1 else (renI P x).d := rfl
  rw [e]
  have e2 : (renI P x).d = if 0 ≤ setsN x then P (setsN x) else x.d := rfl
  rw [e2]
  unfold setsN at *
  split
  · rename_i h1
    rw [if_neg (by omega)]
  · rename_i h1
    rw [if_neg h1] at h
    split
    · rfl
    · omega
theorem kindN_call {op : Int} (h : 1 ≤ op ∧ op ≤ 32) : kindN op = 8 ↔ op = 29 := by
  unfold kindN
  repeat' split
  all_goals omega
theorem usesN_ren {P : Int → Int} {x : Ins} (h : 1 ≤ x.op ∧ x.op ≤ 32) : usesN (renI P x) = (usesN x).map P := by
  have hc := kindN_call h
  have e : usesN (renI P x) = if kindN x.op = 2 ∨ kindN x.op = 5 ∨ kindN x.op = 6 ∨ kindN x.op = 10 then [(renI P x).a] else if kindN x.op = 3 ∨ kindN x.op = 7 then [(renI P x).a, (renI P x).b] else if kindN x.op = 8 then (renI P x).args else [] := rfl
  rw [e]
  unfold renI
  simp only
  by_cases h1 : kindN x.op = 2 ∨ kindN x.op = 5 ∨ kindN x.op = 6 ∨ kindN x.op = 10
  · have hu : usesN x = [x.a] := by unfold usesN; rw [if_pos h1]
    have h29 : x.op ≠ 29 := fun e => by have := hc.2 e; omega
    rw [if_pos h1, hu, if_pos ⟨h29, by simp⟩]
    simp [nthD]
  · rw [if_neg h1]
    by_cases h2 : kindN x.op = 3 ∨ kindN x.op = 7
    · have hu : usesN x = [x.a, x.b] := by unfold usesN; rw [if_neg h1, if_pos h2]
      have h29 : x.op ≠ 29 := fun e => by have := hc.2 e; omega
      rw [if_pos h2, hu, if_pos ⟨h29, by simp⟩, if_pos ⟨h29, by simp⟩]
      simp [nthD]
    · rw [if_neg h2]
      by_cases h3 : kindN x.op = 8
      · have hu : usesN x = x.args := by unfold usesN; rw [if_neg h1, if_neg h2, if_pos h3]
        rw [if_pos h3, hu, if_pos (hc.1 h3)]
      · have hu : usesN x = [] := by unfold usesN; rw [if_neg h1, if_neg h2, if_neg h3]
        rw [if_neg h3, hu]; rfl
theorem eUsesN_ren {P : Int → Int} {e : End} {n : Nat} (hP : RenP n P) (he : ∀ t ∈ eUsesN e, 0 ≤ t ∧ t < n) : eUsesN (renE P e) = (eUsesN e).map P := by
  have e0 : eUsesN (renE P e) = if e.kind = 2 then [(renE P e).a, (renE P e).b] else if e.kind = 3 ∨ e.kind = 4 then [(renE P e).a] else if e.kind = 5 ∧ (renE P e).a ≠ -1 then [(renE P e).a] else [] := rfl
  rw [e0]
  unfold renE
  simp only
  by_cases h1 : e.kind = 2
  · have hu : eUsesN e = [e.a, e.b] := by unfold eUsesN; rw [if_pos h1]
    rw [if_pos h1, hu, if_pos (by simp), if_pos (by simp)]
    simp [nthD]
  · rw [if_neg h1]
    by_cases h2 : e.kind = 3 ∨ e.kind = 4
    · have hu : eUsesN e = [e.a] := by unfold eUsesN; rw [if_neg h1, if_pos h2]
      rw [if_pos h2, hu, if_pos (by simp)]
      simp [nthD]
    · rw [if_neg h2]
      by_cases h3 : e.kind = 5 ∧ e.a ≠ -1
      · have hu : eUsesN e = [e.a] := by unfold eUsesN; rw [if_neg h1, if_neg h2, if_pos h3]
        have := he e.a (by rw [hu]; simp)
        have := hP.rng _ this.1 this.2
        have hp : nthD [e.a] 0 = e.a := by simp [nthD]
        have hl : 1 ≤ [e.a].length := Nat.le_refl _
        rw [hu]
        simp only [if_pos hl, hp]
        rw [if_pos ⟨h3.1, by omega⟩]
        rfl
      · have hu : eUsesN e = [] := by unfold eUsesN; rw [if_neg h1, if_neg h2, if_neg h3]
        have hl : ¬ 1 ≤ ([] : List Int).length := by simp
        rw [hu]
        simp only [if_neg hl]
        rw [if_neg h3]; rfl
end Go.Proofs.YtgladinljapmkaaDoor.Am

/- LiveRenamed: the renamed graph's answer is the answer renamed. -/
namespace Go.Proofs.YtgladinljapmkaaDoor.Am
open Go Go.Proofs
set_option maxRecDepth 10000
set_option maxHeartbeats 2000000
set_option linter.unusedVariables false
set_option linter.unusedSimpArgs false

theorem nthD_map {α β : Type} [Inhabited α] [Inhabited β] {f : α → β} {l : List α} {i : Nat} (h : i < l.length) : nthD (l.map f) i = f (nthD l i) := by
  rw [nthD_get (by simpa using h), nthD_get h, List.getElem_map]
theorem ren_block {P : Int → Int} {g : Graph} {b : Nat} (h : b < g.blocks.length) : nthD (renG P g).blocks b = renB P (nthD g.blocks b) := nthD_map h
theorem ren_len {P : Int → Int} {g : Graph} : (renG P g).blocks.length = g.blocks.length := by unfold renG; simp
theorem next_ren {P : Int → Int} {g : Graph} {b : Nat} (h : b < g.blocks.length) : nextN (renG P g) b = nextN g b := by
  unfold nextN
  rw [ren_len, Int.toNat_natCast, ren_block h]
  rfl
theorem contains_map {n : Nat} {P : Int → Int} (hP : RenP n P) {l : List Int} (hl : ∀ t ∈ l, 0 ≤ t ∧ t < n) {s : Nat} (hs : s < n) : (l.map P).contains (P s) = l.contains (s : Int) := by
  rw [Bool.eq_iff_iff, List.contains_iff_mem, List.contains_iff_mem, List.mem_map]
  constructor
  · rintro ⟨t, ht, e⟩
    have := hl t ht
    rw [← hP.inj t s this.1 this.2 (by omega) (by omega) e]
    exact ht
  · exact fun h => ⟨_, h, rfl⟩
/-- The number that a temp gets. -/
def pN (P : Int → Int) (s : Nat) : Nat := (P s).toNat
theorem pN_eq {n : Nat} {P : Int → Int} (hP : RenP n P) {s : Nat} (hs : s < n) : ((pN P s : Nat) : Int) = P s := by
  have := hP.rng s (by omega) (by omega)
  unfold pN; omega
theorem pN_lt {n : Nat} {P : Int → Int} (hP : RenP n P) {s : Nat} (hs : s < n) : pN P s < n := by
  have := hP.rng s (by omega) (by omega)
  unfold pN; omega
theorem pN_inj {n : Nat} {P : Int → Int} (hP : RenP n P) {s t : Nat} (hs : s < n) (ht : t < n) (e : pN P s = pN P t) : s = t := by
  have h : P s = P t := by rw [← pN_eq hP hs, ← pN_eq hP ht, e]
  have := hP.inj s t (by omega) (by omega) (by omega) (by omega) h
  omega
theorem backF_ren {n : Nat} {P : Int → Int} (hP : RenP n P) {x : Ins} (hx : 1 ≤ x.op ∧ x.op ≤ 32) (hu : ∀ t ∈ usesN x, 0 ≤ t ∧ t < n) (hd : -1 ≤ setsN x ∧ setsN x < n) {f f' : Nat → Bool} {s : Nat} (hs : s < n) (hf : f (pN P s) = f' s) :
    backF (renI P x) f (pN P s) = backF x f' s := by
  unfold backF
  rw [pN_eq hP hs, usesN_ren hx, contains_map hP hu hs, hf, setsN_ren hd.1]
  congr 2
  rw [Bool.eq_iff_iff, Bool.not_eq_true', Bool.not_eq_true', beq_eq_false_iff_ne, beq_eq_false_iff_ne]
  have hr := hP.rng s (by omega) (by omega)
  by_cases h : 0 ≤ setsN x
  · rw [if_pos h]
    constructor
    · intro h1 h2; exact h1 (by rw [h2])
    · intro h1 h2; exact h1 (hP.inj _ _ h hd.2 (by omega) (by omega) h2)
  · rw [if_neg h]
    constructor
    · intro _; omega
    · intro _; omega
theorem stepC_ren {n : Nat} {P : Int → Int} (hP : RenP n P) {s : Nat} (hs : s < n) {f f' : Nat → Bool} (hf : f (pN P s) = f' s) : ∀ {l : List Ins} (hx : ∀ x ∈ l, (1 ≤ x.op ∧ x.op ≤ 32) ∧ (∀ t ∈ usesN x, 0 ≤ t ∧ t < (n : Int)) ∧ -1 ≤ setsN x ∧ setsN x < n),
    stepC (l.map (renI P)) f (pN P s) = stepC l f' s
  | [], _ => hf
  | x :: l, hx => by
    rw [List.map_cons, stepC_cons, stepC_cons]
    have h := hx x (by simp)
    exact backF_ren hP h.1 h.2.1 h.2.2 hs (stepC_ren hP hs hf fun y hy => hx y (by simp [hy]))
/-- What the law asks of a graph, in numbers. -/
structure Graph.okN (g : Graph) (n : Nat) : Prop where
  next : ∀ b, b < g.blocks.length → ∀ s ∈ nextN g b, 0 ≤ s ∧ s < g.blocks.length
  ins : ∀ b ∈ g.blocks, ∀ x ∈ b.code, (1 ≤ x.op ∧ x.op ≤ 32) ∧ (∀ t ∈ usesN x, 0 ≤ t ∧ t < (n : Int)) ∧ -1 ≤ setsN x ∧ setsN x < n
  ends : ∀ b ∈ g.blocks, ∀ t ∈ eUsesN b.fin, 0 ≤ t ∧ t < (n : Int)
theorem stepF_ren {g : Graph} {n : Nat} (hg : g.okN n) {P : Int → Int} (hP : RenP n P) {a a' : Nat → Nat → Bool} {b s : Nat} (hb : b < g.blocks.length) (hs : s < n) (ha : ∀ i, i < g.blocks.length → a i (pN P s) = a' i s) :
    stepF (renG P g) a b (pN P s) = stepF g a' b s := by
  unfold stepF
  rw [ren_block hb]
  refine stepC_ren hP hs ?_ (hg.ins _ (nthD_mem hb))
  unfold endF
  rw [next_ren hb, ren_block hb, pN_eq hP hs]
  show (_ || (eUsesN (renE P (nthD g.blocks b).fin)).contains (P s)) = _
  rw [eUsesN_ren hP (hg.ends _ (nthD_mem hb)), contains_map hP (hg.ends _ (nthD_mem hb)) hs]
  congr 1
  rw [Bool.eq_iff_iff, List.any_eq_true, List.any_eq_true]
  constructor
  · rintro ⟨i, hi, h⟩
    have := hg.next b hb i hi
    exact ⟨i, hi, by rw [← ha _ (by omega)]; exact h⟩
  · rintro ⟨i, hi, h⟩
    have := hg.next b hb i hi
    exact ⟨i, hi, by rw [ha _ (by omega)]; exact h⟩
noncomputable def tb (p : Prop) : Bool := @decide p (Classical.propDecidable p)
theorem tb_iff {p : Prop} : tb p = true ↔ p := by unfold tb; simp
theorem Least.ren {g : Graph} {n : Nat} (hg : g.okN n) {P : Int → Int} (hP : RenP n P) {a : Nat → Nat → Bool} (ha : Least (renG P g) n a) : Least g n fun b s => a b (pN P s) := by
  refine ⟨⟨fun b hb s hs h => ?_, fun p hp b hb s hs h => ?_⟩, fun b hb s hs h => ?_⟩
  · rw [← stepF_ren hg hP hb hs (a := a) fun i _ => rfl]
    exact ha.up b (by rw [ren_len]; exact hb) _ (pN_lt hP hs) h
  · have hc : ∀ i u, u < n → (tb (∀ v, v < n → pN P v = pN P u → p i v = true)) = p i u := by
      intro i u hu
      rw [Bool.eq_iff_iff, tb_iff]
      exact ⟨fun h => h u hu rfl, fun h v hv e => by rw [pN_inj hP hv hu e]; exact h⟩
    have h1 := ha.least (fun i u => tb (∀ v, v < n → pN P v = u → p i v = true)) (fun i hi u hu h2 => by
      rw [tb_iff]
      intro v hv e
      subst e
      rw [ren_len] at hi
      refine hp i hi v hv ?_
      rw [← stepF_ren hg hP hi hv (a := fun i u => tb (∀ v, v < n → pN P v = u → p i v = true)) (a' := p) fun j _ => hc j v hv]
      exact h2) b (by rw [ren_len]; exact hb) _ (pN_lt hP hs) h
    exact (hc b s hs).symm.trans h1
  · exact ha.down b (by rw [ren_len]; exact hb) _ (pN_lt hP hs) (by rw [stepF_ren hg hP hb hs (a := a) (a' := fun b s => a b (pN P s)) fun i _ => rfl]; exact h)
end Go.Proofs.YtgladinljapmkaaDoor.Am

/- LiveRenamed: what is told of the renamed graph, sorted, is what is told of the graph, renamed. -/
namespace Go.Proofs.YtgladinljapmkaaDoor.Am
open Go Go.Proofs
set_option maxRecDepth 10000
set_option maxHeartbeats 2000000
set_option linter.unusedVariables false
set_option linter.unusedSimpArgs false

theorem rise_eq : ∀ {l l' : List Int}, l.Pairwise (· < ·) → l'.Pairwise (· < ·) → (∀ z, z ∈ l ↔ z ∈ l') → l = l'
  | [], [], _, _, _ => rfl
  | [], y :: l', _, _, h => absurd ((h y).2 (by simp)) (by simp)
  | x :: l, [], _, _, h => absurd ((h x).1 (by simp)) (by simp)
  | x :: l, y :: l', h1, h2, h => by
    rw [List.pairwise_cons] at h1 h2
    have e : x = y := by
      have hx := (h x).1 (by simp)
      have hy := (h y).2 (by simp)
      rw [List.mem_cons] at hx hy
      rcases hx with e | hx
      · exact e
      · rcases hy with e | hy
        · exact e.symm
        · have := h1.1 _ hy
          have := h2.1 _ hx
          omega
    subst e
    congr 1
    refine rise_eq h1.2 h2.2 fun z => ?_
    have hz := h z
    rw [List.mem_cons, List.mem_cons] at hz
    constructor
    · intro hm
      rcases hz.1 (.inr hm) with e | h3
      · subst e
        exact absurd (h1.1 _ hm) (Int.lt_irrefl _)
      · exact h3
    · intro hm
      rcases hz.2 (.inr hm) with e | h3
      · subst e
        exact absurd (h2.1 _ hm) (Int.lt_irrefl _)
      · exact h3
theorem liveN_rise {n : Nat} {f : Nat → Bool} : (liveN n f).Pairwise (· < ·) := by
  unfold liveN
  rw [List.pairwise_map]
  exact (List.pairwise_lt_range.filter _).imp fun h => Int.ofNat_lt.2 h
theorem liveN_mem {n : Nat} {f : Nat → Bool} {z : Int} : z ∈ liveN n f ↔ ∃ t : Nat, t < n ∧ f t = true ∧ z = t := by
  unfold liveN
  rw [List.mem_map]
  constructor
  · rintro ⟨t, ht, rfl⟩
    rw [List.mem_filter, List.mem_range] at ht
    exact ⟨t, ht.1, ht.2, rfl⟩
  · rintro ⟨t, h1, h2, rfl⟩
    exact ⟨t, List.mem_filter.2 ⟨List.mem_range.2 h1, h2⟩, rfl⟩
theorem rise_inj {l : List Int} (h : l.Pairwise (· < ·)) {i j : Nat} (hi : i < l.length) (hj : j < l.length) (e : nthD l i = nthD l j) : i = j := by
  rw [nthD_get hi, nthD_get hj] at e
  rw [List.pairwise_iff_getElem] at h
  rcases Nat.lt_trichotomy i j with h1 | h1 | h1
  · have := h i j hi hj h1; omega
  · exact h1
  · have := h j i hj hi h1; omega
/-- Temps in a row are in range. -/
theorem row_rng {g : Graph} {a : Nat → Nat → Bool} (hin : Inside g a) {b : Nat} (hb : b < g.blocks.length) {z : Int} (h : z ∈ liveN 8000 (a b)) : 0 ≤ z ∧ z < g.temps.toNat := by
  obtain ⟨t, h1, h2, rfl⟩ := liveN_mem.1 h
  have := hin b hb t h1 h2
  omega
theorem ren_rows {g : Graph} (hg : g.okN g.temps.toNat) (hT : g.temps.toNat ≤ 8000) {P : Int → Int} (hP : RenP g.temps.toNat P) (hs : ∀ u, u < g.temps.toNat → ∃ s : Nat, s < g.temps.toNat ∧ P s = (u : Int)) {a a' : Nat → Nat → Bool}
    (ha : Least g 8000 a) (hin : Inside g a) (ha' : Least (renG P g) 8000 a') (hin' : Inside (renG P g) a') {b : Nat} (hb : b < g.blocks.length) {f' : Nat → Int}
    (hf : SameF (liveN 8000 (a b)).length (fun j => P (nthD (liveN 8000 (a b)) j)) f') (hr : ∀ p q, p < q → q < (liveN 8000 (a b)).length → f' p ≤ f' q) :
    (List.range (liveN 8000 (a b)).length).map f' = liveN 8000 (a' b) := by
  have h1 := Least.ren hg hP (Least.cut (fun b hb s hs => by
    rw [ren_len] at hb ⊢
    rw [next_ren hb] at hs
    exact hg.next b hb s hs) hT ha')
  have h2 := Least.cut hg.next hT ha
  have hab : ∀ s, s < g.temps.toNat → a b s = a' b (pN P s) := fun s hs => Least.one h2 h1 hb hs
  have hl : ∀ j, j < (liveN 8000 (a b)).length → 0 ≤ nthD (liveN 8000 (a b)) j ∧ nthD (liveN 8000 (a b)) j < g.temps.toNat := fun j hj => row_rng hin hb (nthD_mem hj)
  have hi := hf.inj fun i j hi hj e => rise_inj liveN_rise hi hj (hP.inj _ _ (hl i hi).1 (hl i hi).2 (hl j hj).1 (hl j hj).2 e)
  refine rise_eq ?_ liveN_rise fun z => ?_
  · rw [List.pairwise_map]
    refine List.pairwise_lt_range.imp_of_mem fun {p q} hp hq hlt => ?_
    rw [List.mem_range] at hp hq
    have h3 := hr p q hlt hq
    rcases Int.lt_or_eq_of_le h3 with h4 | h4
    · exact h4
    · have := hi p q hp hq h4
      omega
  · have e : z ∈ (List.range (liveN 8000 (a b)).length).map f' ↔ ∃ j, j < (liveN 8000 (a b)).length ∧ f' j = z := by
      rw [List.mem_map]
      simp only [List.mem_range]
    rw [e, hf.mem z, liveN_mem]
    constructor
    · rintro ⟨j, hj, rfl⟩
      obtain ⟨t, k1, k2, k3⟩ := liveN_mem.1 (nthD_mem hj)
      have hr := hl j hj
      have ht : t < g.temps.toNat := by rw [k3] at hr; omega
      have h5 := pN_lt hP ht
      refine ⟨pN P t, by omega, by rw [← hab t ht]; exact k2, ?_⟩
      rw [k3, pN_eq hP ht]
    · rintro ⟨u, k1, k2, rfl⟩
      have hu : u < g.temps.toNat := hin' b (by rw [ren_len]; exact hb) u k1 k2
      obtain ⟨s, h3, h4⟩ := hs u hu
      have h5 : pN P s = u := by
        have := pN_eq hP h3
        omega
      have h6 : (s : Int) ∈ liveN 8000 (a b) := liveN_mem.2 ⟨s, by omega, by rw [hab s h3, h5]; exact k2, rfl⟩
      obtain ⟨j, hj, e⟩ := List.mem_iff_getElem.1 h6
      refine ⟨j, hj, ?_⟩
      show P (nthD (liveN 8000 (a b)) j) = (u : Int)
      rw [nthD_get hj, e, h4]
theorem ren_okN {g : Graph} (hg : g.tiny) (hf : g.fits) : g.okN g.temps.toNat := by
  have hF := fits_fit hg hf
  have hT := hf.temps
  refine ⟨hF.next, fun b hb x hx => ⟨?_, fun t ht => ?_, ?_⟩, fun b hb t ht => ?_⟩
  · have := hf.ins b hb x hx
    unfold insOk at this
    rw [Bool.and_eq_true, Bool.and_eq_true, decide_eq_true_eq] at this
    exact this.1.1
  · have := hF.uses b hb x hx t ht
    omega
  · have := hF.sets b hb x hx
    omega
  · have := hF.ends b hb t ht
    omega
theorem ren_tiny {P : Int → Int} {g : Graph} (hg : g.tiny) : (renG P g).tiny := by
  refine ⟨hg.params, hg.arrays, by rw [ren_len]; exact hg.blocks, fun b hb => ?_⟩
  obtain ⟨b0, h0, rfl⟩ := List.mem_map.1 hb
  have ht := hg.all b0 h0
  refine ⟨by unfold renB; simpa using ht.code, fun x hx => ?_, fun x hx => ?_, ht.cases, ht.targets⟩
  · obtain ⟨x0, h1, rfl⟩ := List.mem_map.1 hx
    have := ht.args x0 h1
    unfold renI
    simp only
    split
    · rw [List.length_map]; exact this
    · exact this
  · obtain ⟨x0, h1, rfl⟩ := List.mem_map.1 hx
    exact ht.arrs x0 h1
theorem ren_wd {P : Int → Int} {g : Graph} (hw : ∀ b ∈ g.blocks, ∀ x ∈ allN b.fin, I64 x) : ∀ b ∈ (renG P g).blocks, ∀ x ∈ allN b.fin, I64 x := by
  intro b hb
  obtain ⟨b0, h0, rfl⟩ := List.mem_map.1 hb
  exact hw b0 h0
theorem ren_fits {P : Int → Int} {g : Graph} (hg : g.tiny) (hf : g.fits) (hP : RenP g.temps.toNat P) : (renG P g).fits := by
  have hF := fits_fit hg hf
  have hO := ren_okN hg hf
  have hT := hf.temps
  have hPb : ∀ t, 0 ≤ t ∧ t < g.temps → bel (P t) g.temps = true := fun t ht => by
    have := hP.rng t ht.1 (by omega)
    rw [bel_iff]; omega
  refine ⟨⟨by rw [ren_len]; exact hf.one, by rw [ren_len]; exact hf.most, fun b hb s hs => ?_⟩, hT, fun b hb x hx => ?_, fun b hb => ?_⟩
  · rw [ren_len] at hb ⊢
    rw [next_ren hb] at hs
    exact hf.next b hb s hs
  · obtain ⟨b0, h0, rfl⟩ := List.mem_map.1 hb
    obtain ⟨x0, h1, rfl⟩ := List.mem_map.1 hx
    have hi := hf.ins b0 h0 x0 h1
    have ho := hO.ins b0 h0 x0 h1
    unfold insOk at hi ⊢
    rw [Bool.and_eq_true, Bool.and_eq_true, decide_eq_true_eq, List.all_eq_true, Bool.or_eq_true, decide_eq_true_eq, bel_iff] at hi
    rw [usesN_ren ho.1, Bool.and_eq_true, Bool.and_eq_true, decide_eq_true_eq, List.all_eq_true, Bool.or_eq_true, decide_eq_true_eq]
    refine ⟨⟨hi.1.1, fun t ht => ?_⟩, ?_⟩
    · obtain ⟨t0, h2, rfl⟩ := List.mem_map.1 ht
      exact hPb _ (bel_iff.1 (hi.1.2 t0 h2))
    · have hs := setsN_eq ho.1
      have hd : (renI P x0).d = if 0 ≤ setsN x0 then P (setsN x0) else x0.d := rfl
      rcases hi.2 with h2 | h2
      · left
        show x0.op = 26 ∨ x0.op = 28 ∨ x0.op = 31 ∨ x0.op = 32 ∨ (x0.op = 29 ∧ (renI P x0).d = -1)
        rcases h2 with h2 | h2 | h2 | h2 | h2
        · exact .inl h2
        · exact .inr (.inl h2)
        · exact .inr (.inr (.inl h2))
        · exact .inr (.inr (.inr (.inl h2)))
        · refine .inr (.inr (.inr (.inr ⟨h2.1, ?_⟩)))
          rw [hd, hs, if_neg (show ¬ (x0.op = 26 ∨ x0.op = 28 ∨ x0.op = 31 ∨ x0.op = 32) by omega), h2.2]; rfl
      · by_cases h3 : x0.op = 26 ∨ x0.op = 28 ∨ x0.op = 31 ∨ x0.op = 32
        · left
          show x0.op = 26 ∨ x0.op = 28 ∨ x0.op = 31 ∨ x0.op = 32 ∨ (x0.op = 29 ∧ (renI P x0).d = -1)
          omega
        · right
          rw [hd, hs, if_neg h3, if_pos h2.1]
          exact hPb _ h2
  · obtain ⟨b0, h0, rfl⟩ := List.mem_map.1 hb
    have hi := hf.fin b0 h0
    unfold endOk at hi ⊢
    rw [Bool.and_eq_true, decide_eq_true_eq, List.all_eq_true] at hi
    show (decide (1 ≤ b0.fin.kind ∧ b0.fin.kind ≤ 5) && (eUsesN (renE P b0.fin)).all fun t => bel t g.temps) = true
    rw [eUsesN_ren hP (hO.ends b0 h0), Bool.and_eq_true, decide_eq_true_eq, List.all_eq_true]
    refine ⟨hi.1, fun t ht => ?_⟩
    obtain ⟨t0, h2, rfl⟩ := List.mem_map.1 ht
    exact hPb _ (bel_iff.1 (hi.2 t0 h2))
end Go.Proofs.YtgladinljapmkaaDoor.Am

/- LiveRenamed: the law. -/
namespace Go.Proofs.YtgladinljapmkaaDoor.Am
open Go Go.Proofs
set_option maxRecDepth 10000
set_option maxHeartbeats 2000000
set_option linter.unusedVariables false
set_option linter.unusedSimpArgs false

theorem rem_rng {x n : Int} (hx : 0 ≤ x) (hn : 0 < n) : 0 ≤ remI x n ∧ remI x n < n := by
  unfold remI
  rw [Int.tmod_eq_emod_of_nonneg hx]
  exact ⟨Int.emod_nonneg _ (by omega), Int.emod_lt_of_pos _ hn⟩
theorem neg_rng {x : Int} (h : I64 x) (hx : x < 0) : 0 ≤ subI .i64 0 (addI .i64 x 1) := by
  have e1 : IntKind.i64.min = -9223372036854775808 := by decide
  have e2 : IntKind.i64.max = 9223372036854775807 := by decide
  unfold I64 Lit.wf at h
  simp [e1, e2] at h
  rw [addI_i64 (by omega) (by omega), subI_i64 (by omega) (by omega)]
  omega
theorem swap_row {n A B : Nat} {p : Nat → Int} (hA : A < n) (hB : B < n) : ((intsF n p).set A (.int .i64 (p (nthD (List.range n) B)))).set B (.int .i64 (p (nthD (List.range n) A))) = intsF n (swapF p A B) := by
  rw [intsF_set, intsF_set]
  refine intsF_congr fun j hj => ?_
  rw [nthD_range hA, nthD_range hB]
  unfold swapF
  by_cases e1 : j = B
  · rw [if_pos e1]
  · rw [if_neg e1]
theorem intA_intsF {n : Nat} {f : Nat → Int} : IntA .i64 (intsF n f) := by
  intro x hx
  obtain ⟨j, _, rfl⟩ := List.mem_map.1 hx
  exact ⟨_, rfl⟩
theorem IntA.set {k : IntKind} {xs : List T} {i : Nat} {v : Int} (h : IntA k xs) : IntA k (xs.set i (.int k v)) := by
  intro x hx
  rcases List.mem_or_eq_of_mem_set hx with h1 | h1
  · exact h x h1
  · exact ⟨v, h1⟩
theorem exE.intsSet {n i j : Nat} {f : Nat → Int} {y : T} {z : Int} {K : T → Prop} (hy : y = .int .i64 z) (hj : Ob (j < n)) (hk : K (.int .i64 (if j = i then z else f j))) : exE ((intsF n f).set i y) j K := by
  subst hy
  rw [intsF_set]
  refine exE.mapD ?_
  rw [nthD_range hj.out]
  exact hk
theorem ints_intsF {l : List Int} : (l.map fun n => T.int .i64 n) = intsF l.length (fun j => nthD l j) := by
  apply List.ext_getElem
  · simp
  · intro j h1 h2
    rw [List.length_map] at h1
    simp only [List.getElem_map, List.getElem_range, nthD_get h1]
theorem sorted20k (l : List Int) (hn : Ob (l.length ≤ 2 ^ 20)) {K : SV → Sto → Prop} (h : ∀ f', SameF l.length (fun j => nthD l j) f' → (∀ p q, p < q → q < l.length → f' p ≤ f' q) → K (.osl 0 0 l.length) [.row 3 1 (((List.range l.length).map f').map fun n => .int .i64 n)]) :
    ICalls Tryd.prog 20 [.osl 0 0 l.length] [.row 3 1 (l.map fun n => .int .i64 n)] K := by
  rw [ints_intsF]
  refine ICalls.mono (sorted20 l.length hn.out fun j => nthD l j) ?_
  intro v σ hk
  obtain ⟨f', h1, h2, rfl, rfl⟩ := hk.out
  have := h f' h1 h2
  rw [List.map_map] at this
  exact this
theorem sorted20d (l R : List Int) (hn : Ob (l.length ≤ 2 ^ 20)) (hu : ∀ f', SameF l.length (fun j => nthD l j) f' → (∀ p q, p < q → q < l.length → f' p ≤ f' q) → (List.range l.length).map f' = R) {K : SV → Sto → Prop} (h : K (.osl 0 0 R.length) [.row 3 1 (R.map fun n => .int .i64 n)]) :
    ICalls Tryd.prog 20 [.osl 0 0 l.length] [.row 3 1 (l.map fun n => .int .i64 n)] K := by
  refine sorted20k l hn fun f' h1 h2 => ?_
  rw [hu f' h1 h2]
  have e : R.length = l.length := by rw [← hu f' h1 h2]; simp
  rw [← e]
  exact h
theorem SameF.congr {n : Nat} {f g f' : Nat → Int} (h : SameF n f f') (e : ∀ j, j < n → f j = g j) : SameF n g f' := by
  refine ⟨fun z => (h.mem z).trans ⟨?_, ?_⟩, fun hi => h.inj fun i j h1 h2 e2 => hi i j h1 h2 (by rw [← e i h1, ← e j h2]; exact e2)⟩
  · rintro ⟨j, hj, rfl⟩; exact ⟨j, hj, (e j hj).symm⟩
  · rintro ⟨j, hj, rfl⟩; exact ⟨j, hj, e j hj⟩
/-- A graph without its parameters. -/
def noP (g : Graph) : Graph := { g with params := [] }
theorem noP_tiny {g : Graph} (hg : g.tiny) : (noP g).tiny := ⟨Nat.zero_le _, hg.arrays, hg.blocks, hg.all⟩
theorem noP_fits {g : Graph} (hf : g.fits) : (noP g).fits := ⟨⟨hf.one, hf.most, hf.next⟩, hf.temps, hf.ins, hf.fin⟩
theorem noP_least {g : Graph} {n : Nat} {a : Nat → Nat → Bool} (h : Least g n a) : Least (noP g) n a := ⟨⟨h.up, h.least⟩, h.down⟩
/-- What a row of numbers makes of temps. -/
def permP (n : Nat) (p : Nat → Int) : Int → Int := fun t => nthD ((List.range n).map p) t.toNat
theorem permP_at {n : Nat} {p : Nat → Int} {t : Int} (h1 : 0 ≤ t) (h2 : t < n) : permP n p t = p t.toNat := by
  unfold permP
  have : t.toNat < n := by omega
  rw [nthD_get (by simpa using this)]
  simp
theorem perm_ren {n : Nat} {p : Nat → Int} (h : SameF n (fun j => (j : Int)) p) : RenP n (permP n p) := by
  refine ⟨fun t h1 h2 => ?_, fun s t h1 h2 h3 h4 e => ?_⟩
  · rw [permP_at h1 h2]
    obtain ⟨j, hj, e⟩ := (h.mem (p t.toNat)).1 ⟨t.toNat, by omega, rfl⟩
    omega
  · rw [permP_at h1 h2, permP_at h3 h4] at e
    have := h.inj (fun i j _ _ e => Int.ofNat.inj e) _ _ (by omega) (by omega) e
    omega
theorem perm_sur {n : Nat} {p : Nat → Int} (h : SameF n (fun j => (j : Int)) p) (u : Nat) (hu : u < n) : ∃ s : Nat, s < n ∧ permP n p s = (u : Int) := by
  obtain ⟨j, hj, e⟩ := (h.mem u).2 ⟨u, hu, rfl⟩
  exact ⟨j, hj, by rw [permP_at (by omega) (by omega)]; exact e⟩
theorem renamed18k (g : Graph) (hg : g.tiny) (hf : g.fits) (n : Nat) (hn : n = g.temps.toNat) (p : Nat → Int) {q : T → Prop} (h : q (.own (renG (permP n p) (noP g)).o)) :
    PCalls Tryd.prog 18 [.agg [.nsl, .int .i64 g.temps, .sl 2 (g.arrays.map Arr.t), .sl 10 (g.blocks.map Block.t)], .sl 1 (intsF n p)] q := by
  have := renamed18 (noP g) (noP_tiny hg) rfl (noP_fits hf) ((List.range n).map p) (by simp [hn, noP])
  have e : ilist ((List.range n).map p) = .sl 1 (intsF n p) := by
    show T.sl 1 _ = _
    rw [List.map_map]; rfl
  rw [e] at this
  refine PCalls.argsL (ts' := [(noP g).t, .sl 1 (intsF n p)]) (.cons (Le.aggL (.cons (.nsl 1) (.cons (.refl _) (.cons (.refl _) (.cons (.refl _) .nil))))) (.cons (.refl _) .nil)) (PCalls.mono this ?_)
  rintro r rfl
  exact h
theorem live10o (g : Graph) (hg : g.tiny) (hw : ∀ b ∈ g.blocks, ∀ x ∈ allN b.fin, I64 x) (hf : g.fits) {q : T → Prop} (h2 : ∀ a, Least g 8000 a → Inside g a → q (.tup [lists (tells g.blocks.length a), .int .i64 0])) :
    PCalls Tryd.prog 10 [.agg [ilist g.params, .int .i64 g.temps, .sl 2 (g.arrays.map Arr.t), .sl 10 (g.blocks.map Block.o)]] q := by
  refine PCalls.argsL (ts' := [g.t]) (.cons (Le.aggL (.cons (.refl _) (.cons (.refl _) (.cons (.refl _) (.cons (Le.slmap Block.o_le fun _ => rfl) .nil))))) .nil) ?_
  exact live10f g hg hw (fun h => absurd hf h) fun a _ ha hin e he => he ▸ h2 a ha hin
theorem tells_at {m b : Nat} {a : Nat → Nat → Bool} (hb : b < m) : nthD (tells m a) b = liveN 8000 (a b) := by
  rw [nthD_get (by simpa using hb)]
  simp
/-- The memory of the law's last loop. -/
abbrev rens6 (g : Graph) (p : Nat → Int) : Sto := [.var 26 [.t .nsl, .t (.int .i64 g.temps), .t (.sl 2 (g.arrays.map Arr.t)), .t (.sl 10 (g.blocks.map Block.t))], .row 3 1 (intsF g.temps.toNat p), .dead, .dead, .dead]
theorem law6 (g : Graph) (hg : g.tiny) (hw : ∀ b ∈ g.blocks, ∀ x ∈ allN b.fin, I64 x) (how : List Int) (hh : how.length ≤ 2 ^ 20) (hI : ∀ x ∈ how, I64 x) : PCalls Tryd.prog 6 [g.t, ilist how] (fun r => r = .bool true) := by
  refine PCalls.of_bodyI (fun f => Nat.beq f 20) ttOk Tryd.func6 rfl ?_
  repeat' ((conv => whnf); first
    | (with_reducible refine onBool_intro (fun _ => ?_) (fun _ => ?_))
    | (with_reducible refine And.intro (Ob.mk (Nat.le_of_ble_eq_true rfl)) ?_)
    | (with_reducible refine And.intro (Ob.mk rfl) ?_)
    | (with_reducible exact ⟨rfl, rfl⟩)
    | (with_reducible refine And.intro (Ob.mk (fun h => h)) ?_)
    | (with_reducible refine Or.inl (And.intro (Ob.mk (Flat.map ?_)) ?_); exact fun _ => rfl)
    | (refine Or.inl (And.intro (Ob.mk (flat_of rfl)) ?_))
    | (refine Or.inl (And.intro (Ob.mk ⟨rfl, rfl, rfl, rfl⟩) ?_))
    | (refine Or.inl (And.intro (Ob.mk ⟨rfl, rfl, rfl⟩) ?_))
    | (refine And.intro (Ob.mk ⟨rfl, rfl⟩) ?_)
    | (with_reducible refine Or.inr ?_)
    | (refine And.intro (Ob.mk (flat_of rfl)) ?_)
    | (with_reducible refine And.intro (Ob.mk (Flat.map ?_)) ?_; exact fun _ => rfl)
    | (with_reducible exact Ob.mk (Flat.map fun _ => rfl))
    | (with_reducible refine And.intro ?_ ?_)
    | (with_reducible apply exG.mk) | (with_reducible apply exGS.mk) | (with_reducible exact Dd.nil) | (refine Dd.same _ ?_) | (refine Dd.dead _ ?_) | (with_reducible apply exQ.mk) | (with_reducible apply exP.mk) | (refine EqP.mk rfl rfl) | (with_reducible apply exW.mk) | (refine EqW.mk rfl)
    | (with_reducible intro _) | (with_reducible refine Dn.mk ?_)
    | (refine exS.full (by first | rfl | (simp; done) | (simp; omega)) ?_)
    | (refine And.intro (Ob.mk ⟨rfl, rfl, by first | rfl | (simp; done) | (simp; omega)⟩) ?_)
    | (with_reducible refine exE.mapD ?_) | (refine exL.int ?_)
    | (with_reducible refine Up0.mk rfl ?_) | (with_reducible refine Up0i.mk rfl ?_) | (with_reducible refine Up1.mk rfl ?_) | (with_reducible refine Up1i.mk rfl ?_) | (with_reducible refine Up2.mk rfl ?_) | (with_reducible refine Up2i.mk rfl ?_)
    | (refine Col.mk rfl rfl rfl ?_) | (refine Coli.mk rfl rfl rfl rfl ?_)
    | (refine live10f g hg hw (fun hf e he => ?_) (fun a hf ha hin e he => ?_))
    | (refine PCalls.mono alive12 ?_; rintro _ rfl)
    | (refine PCalls.mono (fits17 g hg) ?_; rintro _ rfl))
  all_goals (try (refine Ob.mk ?_; first | assumption | exact ⟨rfl, rfl⟩ | exact ⟨rfl, rfl, rfl⟩ | (refine ⟨rfl, rfl, ?_⟩; simp only [List.length_map, List.length_take, List.length_append, els_len, List.length_replicate]; omega) | (intro h; exact h) | (intro h; rw [h]; rfl) | (intro h; simp_all; done) | (refine bytes_le (n := 1048577) ?_ rfl; simp only [ltI_iff, ltI_not, leI_iff, leI_not, eqI_iff, eqI_not, List.length_map, bif_and, bif_or, Bool.and_eq_true, Bool.and_eq_false_iff, Bool.or_eq_true, Bool.or_eq_false_iff, Bool.not_eq_true', Bool.not_eq_false', Int.toNat_natCast, beq_iff_eq, beq_eq_false_iff_ne, decide_eq_true_eq, decide_eq_false_iff_not, bel_iff, bel_not, wthn_iff, wthn_not, els_len, mixL_len, Nat.zero_add, List.length_set, List.length_take] at *; omega) | (simp only [ltI_iff, ltI_not, leI_iff, leI_not, eqI_iff, eqI_not, List.length_map, bif_and, bif_or, Bool.and_eq_true, Bool.and_eq_false_iff, Bool.or_eq_true, Bool.or_eq_false_iff, Bool.not_eq_true', Bool.not_eq_false', Int.toNat_natCast, beq_iff_eq, beq_eq_false_iff_ne, decide_eq_true_eq, decide_eq_false_iff_not, bel_iff, bel_not, wthn_iff, wthn_not, els_len, mixL_len, Nat.zero_add, List.length_set, List.length_take, Int.ofNat_eq_natCast] at *; omega)))
  all_goals (try (exfalso; subst he; simp [eqI] at *; done))
  all_goals (try (exfalso; rename_i h1; subst he; rw [tr_t hf] at h1; simp [eqI] at h1; done))
  · subst he
    show T.bool _ = T.bool true
    simp [eqI]
  · exact Ob.mk hf.temps.1
  · refine Ob.mk ?_
    have := hf.temps
    show g.temps * ((8 : Nat) : Int) ≤ _
    omega
  · refine Ob.mk ?_
    have := hf.temps
    omega
  · have hT := hf.temps
    have hM := hf.most
    conv => whnf
    refine LoopVC.mk [8] [] (fun m vals σ => ∃ t : Nat, vals = [.t (.int .i64 t)] ∧ σ = [gvar g, .row 3 1 (intsF g.temps.toNat fun j => if j < t then j else 0)] ∧ t ≤ g.temps.toNat ∧ m = g.temps.toNat - t) ?_ ?_
    · conv => whnf
      refine ⟨_, 0, rfl, ?_, Nat.zero_le _, rfl⟩
      refine congrArg (fun z => [gvar g, SObj.row 3 1 z]) ?_
      rw [intsF_congr (g := fun _ => 0) fun j hj => if_neg (Nat.not_lt_zero j)]
      apply List.ext_getElem
      · simp
      · intro j h1 h2
        simp
        rfl
    · rintro m vals σ ⟨t, rfl, rfl, ht, rfl⟩
      repeat' ((conv => whnf); first
    | (with_reducible refine onBool_intro (fun _ => ?_) (fun _ => ?_))
    | (with_reducible refine And.intro (Ob.mk (Nat.le_of_ble_eq_true rfl)) ?_)
    | (with_reducible refine And.intro (Ob.mk rfl) ?_)
    | (with_reducible exact ⟨rfl, rfl⟩)
    | (with_reducible refine And.intro (Ob.mk (fun h => h)) ?_)
    | (with_reducible refine Or.inl (And.intro (Ob.mk (Flat.map ?_)) ?_); exact fun _ => rfl)
    | (refine Or.inl (And.intro (Ob.mk (flat_of rfl)) ?_))
    | (refine Or.inl (And.intro (Ob.mk ⟨rfl, rfl, rfl, rfl⟩) ?_))
    | (refine Or.inl (And.intro (Ob.mk ⟨rfl, rfl, rfl⟩) ?_))
    | (refine And.intro (Ob.mk ⟨rfl, rfl⟩) ?_)
    | (with_reducible refine Or.inr ?_)
    | (refine And.intro (Ob.mk (flat_of rfl)) ?_)
    | (with_reducible refine And.intro (Ob.mk (Flat.map ?_)) ?_; exact fun _ => rfl)
    | (with_reducible exact Ob.mk (Flat.map fun _ => rfl))
    | (with_reducible refine And.intro ?_ ?_)
    | (with_reducible apply exG.mk) | (with_reducible apply exGS.mk) | (with_reducible exact Dd.nil) | (refine Dd.same _ ?_) | (refine Dd.dead _ ?_) | (with_reducible apply exQ.mk) | (with_reducible apply exP.mk) | (refine EqP.mk rfl rfl) | (with_reducible apply exW.mk) | (refine EqW.mk rfl)
    | (with_reducible intro _) | (with_reducible refine Dn.mk ?_)
    | (refine exS.full (by first | rfl | (simp; done) | (simp; omega)) ?_)
    | (refine And.intro (Ob.mk ⟨rfl, rfl, by first | rfl | (simp; done) | (simp; omega)⟩) ?_)
    | (with_reducible refine exE.mapD ?_) | (refine exL.int ?_)
    | (with_reducible refine Up0.mk rfl ?_) | (with_reducible refine Up0i.mk rfl ?_) | (with_reducible refine Up1.mk rfl ?_) | (with_reducible refine Up1i.mk rfl ?_) | (with_reducible refine Up2.mk rfl ?_) | (with_reducible refine Up2i.mk rfl ?_)
    | (refine Col.mk rfl rfl rfl ?_) | (refine Coli.mk rfl rfl rfl rfl ?_))
      all_goals (try (refine Ob.mk ?_; first | assumption | exact ⟨rfl, rfl⟩ | exact ⟨rfl, rfl, rfl⟩ | (refine ⟨rfl, rfl, ?_⟩; simp only [List.length_map, List.length_take, List.length_append, els_len, List.length_replicate]; omega) | (intro h; exact h) | (intro h; rw [h]; rfl) | (intro h; simp_all; done) | (refine bytes_le (n := 1048577) ?_ rfl; simp only [ltI_iff, ltI_not, leI_iff, leI_not, eqI_iff, eqI_not, List.length_map, bif_and, bif_or, Bool.and_eq_true, Bool.and_eq_false_iff, Bool.or_eq_true, Bool.or_eq_false_iff, Bool.not_eq_true', Bool.not_eq_false', Int.toNat_natCast, beq_iff_eq, beq_eq_false_iff_ne, decide_eq_true_eq, decide_eq_false_iff_not, bel_iff, bel_not, wthn_iff, wthn_not, els_len, mixL_len, Nat.zero_add, List.length_set, List.length_take] at *; omega) | (simp only [ltI_iff, ltI_not, leI_iff, leI_not, eqI_iff, eqI_not, List.length_map, bif_and, bif_or, Bool.and_eq_true, Bool.and_eq_false_iff, Bool.or_eq_true, Bool.or_eq_false_iff, Bool.not_eq_true', Bool.not_eq_false', Int.toNat_natCast, beq_iff_eq, beq_eq_false_iff_ne, decide_eq_true_eq, decide_eq_false_iff_not, bel_iff, bel_not, wthn_iff, wthn_not, els_len, mixL_len, Nat.zero_add, List.length_set, List.length_take, Int.ofNat_eq_natCast] at *; omega)))
      · rename_i h1
        have h1 := ltI_iff.1 h1
        refine Ob.mk ?_
        rw [intsF_len]; omega
      · rename_i h1
        have h1 := ltI_iff.1 h1
        conv => whnf
        refine ⟨g.temps.toNat - (t + 1), by omega, t + 1, ?_, ?_, by omega, rfl⟩
        · rw [addI_i64 (by omega) (by omega)]; rfl
        · simp only [Nat.zero_add, Int.toNat_natCast]
          refine congrArg (fun z => [gvar g, SObj.row 3 1 z]) (Eq.trans intsF_set (intsF_congr fun j hj => ?_))
          by_cases e1 : j = t
          · subst e1
            rw [if_pos rfl, if_pos (by omega)]
          · rw [if_neg e1]
            by_cases e2 : j < t
            · rw [if_pos e2, if_pos (by omega)]
            · rw [if_neg e2, if_neg (by omega)]
      · rename_i h1
        have h1 := ltI_not.1 h1
        conv => whnf
        refine LoopVC.mk [9] [] (fun m vals σ => ∃ (i : Nat) (p : Nat → Int), vals = [.t (.int .i64 i)] ∧ σ = [gvar g, .row 3 1 (intsF g.temps.toNat p)] ∧ i ≤ how.length ∧ m = how.length - i ∧ SameF g.temps.toNat (fun j => (j : Int)) p) ?_ ?_
        · conv => whnf
          refine ⟨_, 0, fun j => (j : Int), rfl, ?_, Nat.zero_le _, rfl, .refl _ _⟩
          refine congrArg (fun z => [gvar g, SObj.row 3 1 z]) (intsF_congr fun j hj => if_pos (by omega))
        · rintro m vals σ ⟨i, p, rfl, rfl, hi, rfl, hp⟩
          repeat' ((conv => whnf); first
    | (with_reducible refine onBool_intro (fun _ => ?_) (fun _ => ?_))
    | (with_reducible refine And.intro (Ob.mk (Nat.le_of_ble_eq_true rfl)) ?_)
    | (with_reducible refine And.intro (Ob.mk rfl) ?_)
    | (with_reducible exact ⟨rfl, rfl⟩)
    | (with_reducible refine And.intro (Ob.mk (fun h => h)) ?_)
    | (with_reducible refine Or.inl (And.intro (Ob.mk (Flat.map ?_)) ?_); exact fun _ => rfl)
    | (refine Or.inl (And.intro (Ob.mk (flat_of rfl)) ?_))
    | (refine Or.inl (And.intro (Ob.mk ⟨rfl, rfl, rfl, rfl⟩) ?_))
    | (refine Or.inl (And.intro (Ob.mk ⟨rfl, rfl, rfl⟩) ?_))
    | (refine And.intro (Ob.mk ⟨rfl, rfl⟩) ?_)
    | (with_reducible refine Or.inr ?_)
    | (refine And.intro (Ob.mk (flat_of rfl)) ?_)
    | (with_reducible refine And.intro (Ob.mk (Flat.map ?_)) ?_; exact fun _ => rfl)
    | (with_reducible exact Ob.mk (Flat.map fun _ => rfl))
    | (with_reducible refine And.intro ?_ ?_)
    | (with_reducible apply exG.mk) | (with_reducible apply exGS.mk) | (with_reducible exact Dd.nil) | (refine Dd.same _ ?_) | (refine Dd.dead _ ?_) | (with_reducible apply exQ.mk) | (with_reducible apply exP.mk) | (refine EqP.mk rfl rfl) | (with_reducible apply exW.mk) | (refine EqW.mk rfl)
    | (with_reducible intro _) | (with_reducible refine Dn.mk ?_)
    | (refine exS.full (by first | rfl | (simp; done) | (simp; omega)) ?_)
    | (refine And.intro (Ob.mk ⟨rfl, rfl, by first | rfl | (simp; done) | (simp; omega)⟩) ?_)
    | (with_reducible refine exE.mapD ?_) | (refine exL.int ?_)
    | (with_reducible refine Up0.mk rfl ?_) | (with_reducible refine Up0i.mk rfl ?_) | (with_reducible refine Up1.mk rfl ?_) | (with_reducible refine Up1i.mk rfl ?_) | (with_reducible refine Up2.mk rfl ?_) | (with_reducible refine Up2i.mk rfl ?_)
    | (refine Col.mk rfl rfl rfl ?_) | (refine Coli.mk rfl rfl rfl rfl ?_)
    | (refine drawVC.mkM _ _ 16 16 [(13, [2, 3, 14]), (15, [])] [[], [], [], [], [], [], [4, 5], [4, 5, 6], [], [], [8, 9], [8, 9, 10], [0, 1, 4, 5, 6, 7, 8, 9, 10, 11], [0, 1, 4, 5, 6, 7, 8, 9, 10, 11, 12], [0, 1, 2, 3, 4, 5, 6, 7, 8, 9, 10, 11, 12, 13], [0, 1, 2, 3, 4, 5, 6, 7, 8, 9, 10, 11, 12, 13, 14]] rfl (by kernel_rfl) ?_)
    | (refine exE.intsSet rfl ?_ ?_))
          all_goals (try (refine Ob.mk ?_; first | assumption | exact ⟨rfl, rfl⟩ | exact ⟨rfl, rfl, rfl⟩ | (refine ⟨rfl, rfl, ?_⟩; simp only [List.length_map, List.length_take, List.length_append, els_len, List.length_replicate]; omega) | (intro h; exact h) | (intro h; rw [h]; rfl) | (intro h; simp_all; done) | (refine bytes_le (n := 1048577) ?_ rfl; simp only [ltI_iff, ltI_not, leI_iff, leI_not, eqI_iff, eqI_not, List.length_map, bif_and, bif_or, Bool.and_eq_true, Bool.and_eq_false_iff, Bool.or_eq_true, Bool.or_eq_false_iff, Bool.not_eq_true', Bool.not_eq_false', Int.toNat_natCast, beq_iff_eq, beq_eq_false_iff_ne, decide_eq_true_eq, decide_eq_false_iff_not, bel_iff, bel_not, wthn_iff, wthn_not, els_len, mixL_len, Nat.zero_add, List.length_set, List.length_take] at *; omega) | (simp only [ltI_iff, ltI_not, leI_iff, leI_not, eqI_iff, eqI_not, List.length_map, bif_and, bif_or, Bool.and_eq_true, Bool.and_eq_false_iff, Bool.or_eq_true, Bool.or_eq_false_iff, Bool.not_eq_true', Bool.not_eq_false', Int.toNat_natCast, beq_iff_eq, beq_eq_false_iff_ne, decide_eq_true_eq, decide_eq_false_iff_not, bel_iff, bel_not, wthn_iff, wthn_not, els_len, mixL_len, Nat.zero_add, List.length_set, List.length_take, Int.ofNat_eq_natCast] at *; omega)))
          all_goals
            rename_i h2 h3
            simp only [bif_and, Bool.and_eq_true, Bool.and_eq_false_iff, ltI_iff, ltI_not, List.length_map] at h2 h3
          all_goals (try have hR : 0 ≤ remI (i : Int) g.temps ∧ remI (i : Int) g.temps < g.temps := rem_rng (by omega) h2.2)
          all_goals (try have hQ : 0 ≤ remI (nthD how (i : Int).toNat) g.temps ∧ remI (nthD how (i : Int).toNat) g.temps < g.temps := rem_rng h3 h2.2)
          all_goals (try have hQ : 0 ≤ remI (subI .i64 0 (addI .i64 (nthD how (i : Int).toNat) 1)) g.temps ∧ remI (subI .i64 0 (addI .i64 (nthD how (i : Int).toNat) 1)) g.temps < g.temps := rem_rng (neg_rng (hI _ (nthD_mem (by omega))) h3) h2.2)
          all_goals (try (refine Ob.mk ?_; (try simp only [List.length_set, intsF_len]); omega))
          · repeat' ((conv => whnf); first
    | (with_reducible refine onBool_intro (fun _ => ?_) (fun _ => ?_))
    | (with_reducible refine And.intro (Ob.mk (Nat.le_of_ble_eq_true rfl)) ?_)
    | (with_reducible refine And.intro (Ob.mk rfl) ?_)
    | (with_reducible exact ⟨rfl, rfl⟩)
    | (with_reducible refine And.intro (Ob.mk (fun h => h)) ?_)
    | (with_reducible refine Or.inl (And.intro (Ob.mk (Flat.map ?_)) ?_); exact fun _ => rfl)
    | (refine Or.inl (And.intro (Ob.mk (flat_of rfl)) ?_))
    | (refine Or.inl (And.intro (Ob.mk ⟨rfl, rfl, rfl, rfl⟩) ?_))
    | (refine Or.inl (And.intro (Ob.mk ⟨rfl, rfl, rfl⟩) ?_))
    | (refine And.intro (Ob.mk ⟨rfl, rfl⟩) ?_)
    | (with_reducible refine Or.inr ?_)
    | (refine And.intro (Ob.mk (flat_of rfl)) ?_)
    | (with_reducible refine And.intro (Ob.mk (Flat.map ?_)) ?_; exact fun _ => rfl)
    | (with_reducible exact Ob.mk (Flat.map fun _ => rfl))
    | (with_reducible refine And.intro ?_ ?_)
    | (with_reducible apply exG.mk) | (with_reducible apply exGS.mk) | (with_reducible exact Dd.nil) | (refine Dd.same _ ?_) | (refine Dd.dead _ ?_) | (with_reducible apply exQ.mk) | (with_reducible apply exP.mk) | (refine EqP.mk rfl rfl) | (with_reducible apply exW.mk) | (refine EqW.mk rfl)
    | (with_reducible intro _) | (with_reducible refine Dn.mk ?_)
    | (refine exS.full (by first | rfl | (simp; done) | (simp; omega)) ?_)
    | (refine And.intro (Ob.mk ⟨rfl, rfl, by first | rfl | (simp; done) | (simp; omega)⟩) ?_)
    | (with_reducible refine exE.mapD ?_) | (refine exL.int ?_)
    | (with_reducible refine Up0.mk rfl ?_) | (with_reducible refine Up0i.mk rfl ?_) | (with_reducible refine Up1.mk rfl ?_) | (with_reducible refine Up1i.mk rfl ?_) | (with_reducible refine Up2.mk rfl ?_) | (with_reducible refine Up2i.mk rfl ?_)
    | (refine Col.mk rfl rfl rfl ?_) | (refine Coli.mk rfl rfl rfl rfl ?_))
            conv => whnf
            refine ⟨how.length - (i + 1), by omega, i + 1, _, ?_, congrArg (fun z => [gvar g, SObj.row 3 1 z]) (swap_row (A := 0 + (remI (i : Int) g.temps).toNat) (B := 0 + (remI (subI .i64 0 (addI .i64 (nthD how (i : Int).toNat) 1)) g.temps).toNat) (by omega) (by omega)), by omega, rfl, hp.swap (by omega) (by omega)⟩
            rw [addI_i64 (by omega) (by omega)]; rfl
          · repeat' ((conv => whnf); first
    | (with_reducible refine onBool_intro (fun _ => ?_) (fun _ => ?_))
    | (with_reducible refine And.intro (Ob.mk (Nat.le_of_ble_eq_true rfl)) ?_)
    | (with_reducible refine And.intro (Ob.mk rfl) ?_)
    | (with_reducible exact ⟨rfl, rfl⟩)
    | (with_reducible refine And.intro (Ob.mk (fun h => h)) ?_)
    | (with_reducible refine Or.inl (And.intro (Ob.mk (Flat.map ?_)) ?_); exact fun _ => rfl)
    | (refine Or.inl (And.intro (Ob.mk (flat_of rfl)) ?_))
    | (refine Or.inl (And.intro (Ob.mk ⟨rfl, rfl, rfl, rfl⟩) ?_))
    | (refine Or.inl (And.intro (Ob.mk ⟨rfl, rfl, rfl⟩) ?_))
    | (refine And.intro (Ob.mk ⟨rfl, rfl⟩) ?_)
    | (with_reducible refine Or.inr ?_)
    | (refine And.intro (Ob.mk (flat_of rfl)) ?_)
    | (with_reducible refine And.intro (Ob.mk (Flat.map ?_)) ?_; exact fun _ => rfl)
    | (with_reducible exact Ob.mk (Flat.map fun _ => rfl))
    | (with_reducible refine And.intro ?_ ?_)
    | (with_reducible apply exG.mk) | (with_reducible apply exGS.mk) | (with_reducible exact Dd.nil) | (refine Dd.same _ ?_) | (refine Dd.dead _ ?_) | (with_reducible apply exQ.mk) | (with_reducible apply exP.mk) | (refine EqP.mk rfl rfl) | (with_reducible apply exW.mk) | (refine EqW.mk rfl)
    | (with_reducible intro _) | (with_reducible refine Dn.mk ?_)
    | (refine exS.full (by first | rfl | (simp; done) | (simp; omega)) ?_)
    | (refine And.intro (Ob.mk ⟨rfl, rfl, by first | rfl | (simp; done) | (simp; omega)⟩) ?_)
    | (with_reducible refine exE.mapD ?_) | (refine exL.int ?_)
    | (with_reducible refine Up0.mk rfl ?_) | (with_reducible refine Up0i.mk rfl ?_) | (with_reducible refine Up1.mk rfl ?_) | (with_reducible refine Up1i.mk rfl ?_) | (with_reducible refine Up2.mk rfl ?_) | (with_reducible refine Up2i.mk rfl ?_)
    | (refine Col.mk rfl rfl rfl ?_) | (refine Coli.mk rfl rfl rfl rfl ?_))
            conv => whnf
            refine ⟨how.length - (i + 1), by omega, i + 1, _, ?_, congrArg (fun z => [gvar g, SObj.row 3 1 z]) (swap_row (A := 0 + (remI (i : Int) g.temps).toNat) (B := 0 + (remI (nthD how (i : Int).toNat) g.temps).toNat) (by omega) (by omega)), by omega, rfl, hp.swap (by omega) (by omega)⟩
            rw [addI_i64 (by omega) (by omega)]; rfl
          · have hRP := perm_ren hp
            have hSu := perm_sur hp
            have htn := noP_tiny hg
            have hfn := noP_fits hf
            repeat' ((conv => whnf); first
    | (with_reducible refine onBool_intro (fun _ => ?_) (fun _ => ?_))
    | (with_reducible refine And.intro (Ob.mk (Nat.le_of_ble_eq_true rfl)) ?_)
    | (with_reducible refine And.intro (Ob.mk rfl) ?_)
    | (with_reducible exact ⟨rfl, rfl⟩)
    | (with_reducible refine And.intro (Ob.mk (fun h => h)) ?_)
    | (with_reducible refine Or.inl (And.intro (Ob.mk (Flat.map ?_)) ?_); exact fun _ => rfl)
    | (refine Or.inl (And.intro (Ob.mk (flat_of rfl)) ?_))
    | (refine Or.inl (And.intro (Ob.mk ⟨rfl, rfl, rfl, rfl⟩) ?_))
    | (refine Or.inl (And.intro (Ob.mk ⟨rfl, rfl, rfl⟩) ?_))
    | (refine And.intro (Ob.mk ⟨rfl, rfl⟩) ?_)
    | (with_reducible refine Or.inr ?_)
    | (refine And.intro (Ob.mk (flat_of rfl)) ?_)
    | (with_reducible refine And.intro (Ob.mk (Flat.map ?_)) ?_; exact fun _ => rfl)
    | (with_reducible exact Ob.mk (Flat.map fun _ => rfl))
    | (with_reducible refine And.intro ?_ ?_)
    | (with_reducible apply exG.mk) | (with_reducible apply exGS.mk) | (with_reducible exact Dd.nil) | (refine Dd.same _ ?_) | (refine Dd.dead _ ?_) | (with_reducible apply exQ.mk) | (with_reducible apply exP.mk) | (refine EqP.mk rfl rfl) | (with_reducible apply exW.mk) | (refine EqW.mk rfl)
    | (with_reducible intro _) | (with_reducible refine Dn.mk ?_)
    | (refine exS.full (by first | rfl | (simp; done) | (simp; omega)) ?_)
    | (refine And.intro (Ob.mk ⟨rfl, rfl, by first | rfl | (simp; done) | (simp; omega)⟩) ?_)
    | (with_reducible refine exE.mapD ?_) | (refine exL.int ?_)
    | (with_reducible refine Up0.mk rfl ?_) | (with_reducible refine Up0i.mk rfl ?_) | (with_reducible refine Up1.mk rfl ?_) | (with_reducible refine Up1i.mk rfl ?_) | (with_reducible refine Up2.mk rfl ?_) | (with_reducible refine Up2i.mk rfl ?_)
    | (refine Col.mk rfl rfl rfl ?_) | (refine Coli.mk rfl rfl rfl rfl ?_)
    | (refine renamed18k g hg hf _ rfl p ?_)
    | (refine live10o (renG (permP g.temps.toNat p) (noP g)) (ren_tiny htn) (ren_wd (g := noP g) hw) (ren_fits htn hfn hRP) fun a' ha' hin' => ?_))
            all_goals (try (refine Ob.mk ?_; first | assumption | exact ⟨rfl, rfl⟩ | exact ⟨rfl, rfl, rfl⟩ | (refine ⟨rfl, rfl, ?_⟩; simp only [List.length_map, List.length_take, List.length_append, els_len, List.length_replicate]; omega) | (intro h; exact h) | (intro h; rw [h]; rfl) | (intro h; simp_all; done) | (refine bytes_le (n := 1048577) ?_ rfl; simp only [ltI_iff, ltI_not, leI_iff, leI_not, eqI_iff, eqI_not, List.length_map, bif_and, bif_or, Bool.and_eq_true, Bool.and_eq_false_iff, Bool.or_eq_true, Bool.or_eq_false_iff, Bool.not_eq_true', Bool.not_eq_false', Int.toNat_natCast, beq_iff_eq, beq_eq_false_iff_ne, decide_eq_true_eq, decide_eq_false_iff_not, bel_iff, bel_not, wthn_iff, wthn_not, els_len, mixL_len, Nat.zero_add, List.length_set, List.length_take] at *; omega) | (simp only [ltI_iff, ltI_not, leI_iff, leI_not, eqI_iff, eqI_not, List.length_map, bif_and, bif_or, Bool.and_eq_true, Bool.and_eq_false_iff, Bool.or_eq_true, Bool.or_eq_false_iff, Bool.not_eq_true', Bool.not_eq_false', Int.toNat_natCast, beq_iff_eq, beq_eq_false_iff_ne, decide_eq_true_eq, decide_eq_false_iff_not, bel_iff, bel_not, wthn_iff, wthn_not, els_len, mixL_len, Nat.zero_add, List.length_set, List.length_take, Int.ofNat_eq_natCast] at *; omega)))
            · exfalso
              rename_i h4
              have e : (noP g).blocks.length = g.blocks.length := rfl
              simp [ren_len, e, eqI_beq] at h4
            · conv => whnf
              generalize hP : permP g.temps.toNat p = P at *
              have hrow : ∀ b, b < g.blocks.length → ∀ j, j < (liveN 8000 (a b)).length → 0 ≤ nthD (liveN 8000 (a b)) j ∧ nthD (liveN 8000 (a b)) j < g.temps.toNat := fun b hb j hj => row_rng hin hb (nthD_mem hj)
              refine LoopVC.mk [14] [] (fun m vals σ => ∃ b : Nat, vals = [.t (.int .i64 b)] ∧ σ = rens6 g p ∧ b ≤ g.blocks.length ∧ m = g.blocks.length - b) ?_ ?_
              · conv => whnf
                exact ⟨_, 0, rfl, rfl, Nat.zero_le _, rfl⟩
              · rintro m vals σ ⟨b, rfl, rfl, hb, rfl⟩
                repeat' ((conv => whnf); first
    | (with_reducible refine onBool_intro (fun _ => ?_) (fun _ => ?_))
    | (with_reducible refine And.intro (Ob.mk (Nat.le_of_ble_eq_true rfl)) ?_)
    | (with_reducible refine And.intro (Ob.mk rfl) ?_)
    | (with_reducible exact ⟨rfl, rfl⟩)
    | (with_reducible refine And.intro (Ob.mk (fun h => h)) ?_)
    | (with_reducible refine Or.inl (And.intro (Ob.mk (Flat.map ?_)) ?_); exact fun _ => rfl)
    | (refine Or.inl (And.intro (Ob.mk (flat_of rfl)) ?_))
    | (refine Or.inl (And.intro (Ob.mk ⟨rfl, rfl, rfl, rfl⟩) ?_))
    | (refine Or.inl (And.intro (Ob.mk ⟨rfl, rfl, rfl⟩) ?_))
    | (refine And.intro (Ob.mk ⟨rfl, rfl⟩) ?_)
    | (with_reducible refine Or.inr ?_)
    | (refine And.intro (Ob.mk (flat_of rfl)) ?_)
    | (with_reducible refine And.intro (Ob.mk (Flat.map ?_)) ?_; exact fun _ => rfl)
    | (with_reducible exact Ob.mk (Flat.map fun _ => rfl))
    | (with_reducible refine And.intro ?_ ?_)
    | (with_reducible apply exG.mk) | (with_reducible apply exGS.mk) | (with_reducible exact Dd.nil) | (refine Dd.same _ ?_) | (refine Dd.dead _ ?_) | (with_reducible apply exQ.mk) | (with_reducible apply exP.mk) | (refine EqP.mk rfl rfl) | (with_reducible apply exW.mk) | (refine EqW.mk rfl)
    | (with_reducible intro _) | (with_reducible refine Dn.mk ?_)
    | (refine exS.full (by first | rfl | (simp; done) | (simp; omega)) ?_)
    | (refine And.intro (Ob.mk ⟨rfl, rfl, by first | rfl | (simp; done) | (simp; omega)⟩) ?_)
    | (with_reducible refine exE.mapD ?_) | (refine exL.int ?_)
    | (with_reducible refine Up0.mk rfl ?_) | (with_reducible refine Up0i.mk rfl ?_) | (with_reducible refine Up1.mk rfl ?_) | (with_reducible refine Up1i.mk rfl ?_) | (with_reducible refine Up2.mk rfl ?_) | (with_reducible refine Up2i.mk rfl ?_)
    | (refine Col.mk rfl rfl rfl ?_) | (refine Coli.mk rfl rfl rfl rfl ?_))
                all_goals (try (refine Ob.mk ?_; first | assumption | exact ⟨rfl, rfl⟩ | exact ⟨rfl, rfl, rfl⟩ | (refine ⟨rfl, rfl, ?_⟩; simp only [List.length_map, List.length_take, List.length_append, els_len, List.length_replicate]; omega) | (intro h; exact h) | (intro h; rw [h]; rfl) | (intro h; simp_all; done) | (refine bytes_le (n := 1048577) ?_ rfl; simp only [ltI_iff, ltI_not, leI_iff, leI_not, eqI_iff, eqI_not, List.length_map, bif_and, bif_or, Bool.and_eq_true, Bool.and_eq_false_iff, Bool.or_eq_true, Bool.or_eq_false_iff, Bool.not_eq_true', Bool.not_eq_false', Int.toNat_natCast, beq_iff_eq, beq_eq_false_iff_ne, decide_eq_true_eq, decide_eq_false_iff_not, bel_iff, bel_not, wthn_iff, wthn_not, els_len, mixL_len, Nat.zero_add, List.length_set, List.length_take] at *; omega) | (simp only [ltI_iff, ltI_not, leI_iff, leI_not, eqI_iff, eqI_not, List.length_map, bif_and, bif_or, Bool.and_eq_true, Bool.and_eq_false_iff, Bool.or_eq_true, Bool.or_eq_false_iff, Bool.not_eq_true', Bool.not_eq_false', Int.toNat_natCast, beq_iff_eq, beq_eq_false_iff_ne, decide_eq_true_eq, decide_eq_false_iff_not, bel_iff, bel_not, wthn_iff, wthn_not, els_len, mixL_len, Nat.zero_add, List.length_set, List.length_take, Int.ofNat_eq_natCast] at *; omega)))
                · rename_i h5
                  have h5 : b < g.blocks.length := by rw [ltI_iff, List.length_map, tells_len] at h5; omega
                  conv => whnf
                  refine LoopVC.mk [16, 15] [(15, 3, 1)] (fun m vals σ => ∃ i : Nat, vals = [.t (.int .i64 i), .osl 5 0 (((liveN 8000 (a b)).take i).map P).length] ∧ σ = rens6 g p ++ [.row 3 1 ((((liveN 8000 (a b)).take i).map P).map fun n => .int .i64 n)] ∧ i ≤ (liveN 8000 (a b)).length ∧ m = (liveN 8000 (a b)).length - i) ?_ ?_
                  · repeat' ((conv => whnf); first
    | (with_reducible refine onBool_intro (fun _ => ?_) (fun _ => ?_))
    | (with_reducible refine And.intro (Ob.mk (Nat.le_of_ble_eq_true rfl)) ?_)
    | (with_reducible refine And.intro (Ob.mk rfl) ?_)
    | (with_reducible exact ⟨rfl, rfl⟩)
    | (with_reducible refine And.intro (Ob.mk (fun h => h)) ?_)
    | (with_reducible refine Or.inl (And.intro (Ob.mk (Flat.map ?_)) ?_); exact fun _ => rfl)
    | (refine Or.inl (And.intro (Ob.mk (flat_of rfl)) ?_))
    | (refine Or.inl (And.intro (Ob.mk ⟨rfl, rfl, rfl, rfl⟩) ?_))
    | (refine Or.inl (And.intro (Ob.mk ⟨rfl, rfl, rfl⟩) ?_))
    | (refine And.intro (Ob.mk ⟨rfl, rfl⟩) ?_)
    | (with_reducible refine Or.inr ?_)
    | (refine And.intro (Ob.mk (flat_of rfl)) ?_)
    | (with_reducible refine And.intro (Ob.mk (Flat.map ?_)) ?_; exact fun _ => rfl)
    | (with_reducible exact Ob.mk (Flat.map fun _ => rfl))
    | (with_reducible refine And.intro ?_ ?_)
    | (with_reducible apply exG.mk) | (with_reducible apply exGS.mk) | (with_reducible exact Dd.nil) | (refine Dd.same _ ?_) | (refine Dd.dead _ ?_) | (with_reducible apply exQ.mk) | (with_reducible apply exP.mk) | (refine EqP.mk rfl rfl) | (with_reducible apply exW.mk) | (refine EqW.mk rfl)
    | (with_reducible intro _) | (with_reducible refine Dn.mk ?_)
    | (refine exS.full (by first | rfl | (simp; done) | (simp; omega)) ?_)
    | (refine And.intro (Ob.mk ⟨rfl, rfl, by first | rfl | (simp; done) | (simp; omega)⟩) ?_)
    | (with_reducible refine exE.mapD ?_) | (refine exL.int ?_)
    | (with_reducible refine Up0.mk rfl ?_) | (with_reducible refine Up0i.mk rfl ?_) | (with_reducible refine Up1.mk rfl ?_) | (with_reducible refine Up1i.mk rfl ?_) | (with_reducible refine Up2.mk rfl ?_) | (with_reducible refine Up2i.mk rfl ?_)
    | (refine Col.mk rfl rfl rfl ?_) | (refine Coli.mk rfl rfl rfl rfl ?_))
                    exact ⟨_, 0, rfl, rfl, Nat.zero_le _, rfl⟩
                  · rintro m vals σ ⟨i, rfl, rfl, hi, rfl⟩
                    have hl := liveN_len (n := 8000) (f := a b)
                    repeat' ((conv => whnf); first
    | (with_reducible refine onBool_intro (fun _ => ?_) (fun _ => ?_))
    | (with_reducible refine And.intro (Ob.mk (Nat.le_of_ble_eq_true rfl)) ?_)
    | (with_reducible refine And.intro (Ob.mk rfl) ?_)
    | (with_reducible exact ⟨rfl, rfl⟩)
    | (with_reducible refine And.intro (Ob.mk (fun h => h)) ?_)
    | (with_reducible refine Or.inl (And.intro (Ob.mk (Flat.map ?_)) ?_); exact fun _ => rfl)
    | (refine Or.inl (And.intro (Ob.mk (flat_of rfl)) ?_))
    | (refine Or.inl (And.intro (Ob.mk ⟨rfl, rfl, rfl, rfl⟩) ?_))
    | (refine Or.inl (And.intro (Ob.mk ⟨rfl, rfl, rfl⟩) ?_))
    | (refine And.intro (Ob.mk ⟨rfl, rfl⟩) ?_)
    | (with_reducible refine Or.inr ?_)
    | (refine And.intro (Ob.mk (flat_of rfl)) ?_)
    | (with_reducible refine And.intro (Ob.mk (Flat.map ?_)) ?_; exact fun _ => rfl)
    | (with_reducible exact Ob.mk (Flat.map fun _ => rfl))
    | (with_reducible refine And.intro ?_ ?_)
    | (with_reducible apply exG.mk) | (with_reducible apply exGS.mk) | (with_reducible exact Dd.nil) | (refine Dd.same _ ?_) | (refine Dd.dead _ ?_) | (with_reducible apply exQ.mk) | (with_reducible apply exP.mk) | (refine EqP.mk rfl rfl) | (with_reducible apply exW.mk) | (refine EqW.mk rfl)
    | (with_reducible intro _) | (with_reducible refine Dn.mk ?_)
    | (refine exS.full (by first | rfl | (simp; done) | (simp; omega)) ?_)
    | (refine And.intro (Ob.mk ⟨rfl, rfl, by first | rfl | (simp; done) | (simp; omega)⟩) ?_)
    | (with_reducible refine exE.mapD ?_) | (refine exL.int ?_)
    | (with_reducible refine Up0.mk rfl ?_) | (with_reducible refine Up0i.mk rfl ?_) | (with_reducible refine Up1.mk rfl ?_) | (with_reducible refine Up1i.mk rfl ?_) | (with_reducible refine Up2.mk rfl ?_) | (with_reducible refine Up2i.mk rfl ?_)
    | (refine Col.mk rfl rfl rfl ?_) | (refine Coli.mk rfl rfl rfl rfl ?_)
    | (refine drawVC.mkM _ _ 20 20 [] [[], [], [0, 1], [0, 1, 2], [], [0, 1, 2, 3, 4], [0, 1, 2, 3, 4, 5], [0, 1, 2, 3, 4, 5, 6], [0, 1, 2, 3, 4, 5, 6, 7], [0, 1, 2, 3, 4, 5, 6, 7, 8], [0, 1, 2, 3, 4, 5, 6, 7, 8], [0, 1, 2, 3, 4, 5, 6, 7, 8, 9, 10], [0, 1, 2, 3, 4, 5, 6, 7, 8, 9, 10, 11], [0, 1, 2, 3, 4, 5, 6, 7, 8], [0, 1, 2, 3, 4, 5, 6, 7, 8, 9, 10, 11, 12, 13], [0, 1, 2, 3, 4, 5, 6, 7, 8, 9, 10, 11, 12, 13, 14], [0, 1, 2, 3, 4, 5, 6, 7, 8], [0, 1, 2, 3, 4, 5, 6, 7, 8, 16], [0, 1, 2, 3, 4, 5, 6, 7, 8, 9, 10, 11, 12, 13, 14, 15, 16, 17], [0, 1, 2, 3, 4, 5, 6, 7, 8, 9, 10, 11, 12, 13, 14, 15, 16, 17, 18]] rfl (by kernel_rfl) ?_))
                    all_goals (try (refine Ob.mk ?_; first | assumption | exact ⟨rfl, rfl⟩ | exact ⟨rfl, rfl, rfl⟩ | (refine ⟨rfl, rfl, ?_⟩; simp only [List.length_map, List.length_take, List.length_append, els_len, List.length_replicate]; omega) | (intro h; exact h) | (intro h; rw [h]; rfl) | (intro h; simp_all; done) | (refine bytes_le (n := 1048577) ?_ rfl; simp only [ltI_iff, ltI_not, leI_iff, leI_not, eqI_iff, eqI_not, List.length_map, bif_and, bif_or, Bool.and_eq_true, Bool.and_eq_false_iff, Bool.or_eq_true, Bool.or_eq_false_iff, Bool.not_eq_true', Bool.not_eq_false', Int.toNat_natCast, beq_iff_eq, beq_eq_false_iff_ne, decide_eq_true_eq, decide_eq_false_iff_not, bel_iff, bel_not, wthn_iff, wthn_not, els_len, mixL_len, Nat.zero_add, List.length_set, List.length_take] at *; omega) | (simp only [ltI_iff, ltI_not, leI_iff, leI_not, eqI_iff, eqI_not, List.length_map, bif_and, bif_or, Bool.and_eq_true, Bool.and_eq_false_iff, Bool.or_eq_true, Bool.or_eq_false_iff, Bool.not_eq_true', Bool.not_eq_false', Int.toNat_natCast, beq_iff_eq, beq_eq_false_iff_ne, decide_eq_true_eq, decide_eq_false_iff_not, bel_iff, bel_not, wthn_iff, wthn_not, els_len, mixL_len, Nat.zero_add, List.length_set, List.length_take, Int.ofNat_eq_natCast] at *; omega)))
                    all_goals simp only [Int.toNat_natCast, tells_at h5] at *
                    · exfalso
                      rename_i h6 h7
                      rw [ltI_iff, List.length_map] at h6
                      have := hrow b h5 i (by omega)
                      simp only [bif_or, Bool.or_eq_true, ltI_iff, leI_iff] at h7
                      omega
                    · rename_i h6 h7
                      rw [ltI_iff, List.length_map] at h6
                      have := hrow b h5 i (by omega)
                      refine Ob.mk ?_
                      rw [intsF_len]; omega
                    · rename_i h6 h7
                      rw [ltI_iff, List.length_map] at h6
                      have h8 := hrow b h5 i (by omega)
                      have e1 : P (nthD (liveN 8000 (a b)) i) = p (nthD (liveN 8000 (a b)) i).toNat := by rw [← hP]; exact permP_at h8.1 (by omega)
                      conv => whnf
                      refine ⟨(liveN 8000 (a b)).length - (i + 1), by omega, i + 1, ?_, ?_, by omega, rfl⟩
                      · rw [addI_i64 (by omega) (by omega), take_succ_nthD (by omega), List.map_append, List.length_append]
                        rfl
                      · rw [take_succ_nthD (by omega), List.map_append, List.map_append, List.map_cons, List.map_nil, e1]
                        have e2 : nthD (List.range g.temps.toNat) (nthD (liveN 8000 (a b)) i).toNat = (nthD (liveN 8000 (a b)) i).toNat := nthD_range (by omega)
                        simp only [Nat.zero_add, e2]
                        rfl
                    · rename_i h6
                      rw [ltI_not, List.length_map] at h6
                      rw [List.take_of_length_le (by omega)]
                      repeat' ((conv => whnf); first
    | (with_reducible refine onBool_intro (fun _ => ?_) (fun _ => ?_))
    | (with_reducible refine And.intro (Ob.mk (Nat.le_of_ble_eq_true rfl)) ?_)
    | (with_reducible refine And.intro (Ob.mk rfl) ?_)
    | (with_reducible exact ⟨rfl, rfl⟩)
    | (with_reducible refine And.intro (Ob.mk (fun h => h)) ?_)
    | (with_reducible refine Or.inl (And.intro (Ob.mk (Flat.map ?_)) ?_); exact fun _ => rfl)
    | (refine Or.inl (And.intro (Ob.mk (flat_of rfl)) ?_))
    | (refine Or.inl (And.intro (Ob.mk ⟨rfl, rfl, rfl, rfl⟩) ?_))
    | (refine Or.inl (And.intro (Ob.mk ⟨rfl, rfl, rfl⟩) ?_))
    | (refine And.intro (Ob.mk ⟨rfl, rfl⟩) ?_)
    | (with_reducible refine Or.inr ?_)
    | (refine And.intro (Ob.mk (flat_of rfl)) ?_)
    | (with_reducible refine And.intro (Ob.mk (Flat.map ?_)) ?_; exact fun _ => rfl)
    | (with_reducible exact Ob.mk (Flat.map fun _ => rfl))
    | (with_reducible refine And.intro ?_ ?_)
    | (with_reducible apply exG.mk) | (with_reducible apply exGS.mk) | (with_reducible exact Dd.nil) | (refine Dd.same _ ?_) | (refine Dd.dead _ ?_) | (with_reducible apply exQ.mk) | (with_reducible apply exP.mk) | (refine EqP.mk rfl rfl) | (with_reducible apply exW.mk) | (refine EqW.mk rfl)
    | (with_reducible intro _) | (with_reducible refine Dn.mk ?_)
    | (refine exS.full (by first | rfl | (simp; done) | (simp; omega)) ?_)
    | (refine And.intro (Ob.mk ⟨rfl, rfl, by first | rfl | (simp; done) | (simp; omega)⟩) ?_)
    | (with_reducible refine exE.mapD ?_) | (refine exL.int ?_)
    | (with_reducible refine Up0.mk rfl ?_) | (with_reducible refine Up0i.mk rfl ?_) | (with_reducible refine Up1.mk rfl ?_) | (with_reducible refine Up1i.mk rfl ?_) | (with_reducible refine Up2.mk rfl ?_) | (with_reducible refine Up2i.mk rfl ?_)
    | (refine Col.mk rfl rfl rfl ?_) | (refine Coli.mk rfl rfl rfl rfl ?_)
    | (refine ICalls.frame [5] rfl (sorted20d _ (liveN 8000 (a' b)) ?_ ?_ fun _ => ?_))
    | (refine drawVC.mkM _ _ 8 6 [(1, [2, 3, 4, 5])] [[], [0], [], [], [2, 3], [2, 3, 4], [0, 1, 2, 3, 4, 5], [0, 1, 2, 3, 4, 5, 6]] rfl (by kernel_rfl) ?_)
    | (with_reducible apply exV.mk)
    | (refine EqV.mk rfl rfl)
    | (refine same19k _ _ ?_))
                      all_goals (try (refine Ob.mk ?_; first | assumption | exact ⟨rfl, rfl⟩ | exact ⟨rfl, rfl, rfl⟩ | (refine ⟨rfl, rfl, ?_⟩; simp only [List.length_map, List.length_take, List.length_append, els_len, List.length_replicate]; omega) | (intro h; exact h) | (intro h; rw [h]; rfl) | (intro h; simp_all; done) | (refine bytes_le (n := 1048577) ?_ rfl; simp only [ltI_iff, ltI_not, leI_iff, leI_not, eqI_iff, eqI_not, List.length_map, bif_and, bif_or, Bool.and_eq_true, Bool.and_eq_false_iff, Bool.or_eq_true, Bool.or_eq_false_iff, Bool.not_eq_true', Bool.not_eq_false', Int.toNat_natCast, beq_iff_eq, beq_eq_false_iff_ne, decide_eq_true_eq, decide_eq_false_iff_not, bel_iff, bel_not, wthn_iff, wthn_not, els_len, mixL_len, Nat.zero_add, List.length_set, List.length_take] at *; omega) | (simp only [ltI_iff, ltI_not, leI_iff, leI_not, eqI_iff, eqI_not, List.length_map, bif_and, bif_or, Bool.and_eq_true, Bool.and_eq_false_iff, Bool.or_eq_true, Bool.or_eq_false_iff, Bool.not_eq_true', Bool.not_eq_false', Int.toNat_natCast, beq_iff_eq, beq_eq_false_iff_ne, decide_eq_true_eq, decide_eq_false_iff_not, bel_iff, bel_not, wthn_iff, wthn_not, els_len, mixL_len, Nat.zero_add, List.length_set, List.length_take, Int.ofNat_eq_natCast] at *; omega)))
                      · rename_i f' hf1 hf2
                        rw [List.length_map] at hf1 hf2 ⊢
                        have hg2 : (noP g).okN (noP g).temps.toNat := ren_okN htn hfn
                        refine ren_rows (g := noP g) hg2 (by show g.temps.toNat ≤ 8000; omega) hRP hSu (noP_least ha) hin ha' hin' h5 (hf1.congr fun j hj => ?_) hf2
                        exact nthD_map hj
                      · exfalso
                        rename_i h7
                        rw [Int.toNat_natCast, tells_at (by rw [ren_len]; exact h5)] at h7
                        simp at h7
                      · conv => whnf
                        refine ⟨g.blocks.length - (b + 1), by omega, b + 1, ?_, rfl, by omega, rfl⟩
                        rw [addI_i64 (by omega) (by omega)]; rfl
                · repeat' ((conv => whnf); first
    | (with_reducible refine onBool_intro (fun _ => ?_) (fun _ => ?_))
    | (with_reducible refine And.intro (Ob.mk (Nat.le_of_ble_eq_true rfl)) ?_)
    | (with_reducible refine And.intro (Ob.mk rfl) ?_)
    | (with_reducible exact ⟨rfl, rfl⟩)
    | (with_reducible refine And.intro (Ob.mk (fun h => h)) ?_)
    | (with_reducible refine Or.inl (And.intro (Ob.mk (Flat.map ?_)) ?_); exact fun _ => rfl)
    | (refine Or.inl (And.intro (Ob.mk (flat_of rfl)) ?_))
    | (refine Or.inl (And.intro (Ob.mk ⟨rfl, rfl, rfl, rfl⟩) ?_))
    | (refine Or.inl (And.intro (Ob.mk ⟨rfl, rfl, rfl⟩) ?_))
    | (refine And.intro (Ob.mk ⟨rfl, rfl⟩) ?_)
    | (with_reducible refine Or.inr ?_)
    | (refine And.intro (Ob.mk (flat_of rfl)) ?_)
    | (with_reducible refine And.intro (Ob.mk (Flat.map ?_)) ?_; exact fun _ => rfl)
    | (with_reducible exact Ob.mk (Flat.map fun _ => rfl))
    | (with_reducible refine And.intro ?_ ?_)
    | (with_reducible apply exG.mk) | (with_reducible apply exGS.mk) | (with_reducible exact Dd.nil) | (refine Dd.same _ ?_) | (refine Dd.dead _ ?_) | (with_reducible apply exQ.mk) | (with_reducible apply exP.mk) | (refine EqP.mk rfl rfl) | (with_reducible apply exW.mk) | (refine EqW.mk rfl)
    | (with_reducible intro _) | (with_reducible refine Dn.mk ?_)
    | (refine exS.full (by first | rfl | (simp; done) | (simp; omega)) ?_)
    | (refine And.intro (Ob.mk ⟨rfl, rfl, by first | rfl | (simp; done) | (simp; omega)⟩) ?_)
    | (with_reducible refine exE.mapD ?_) | (refine exL.int ?_)
    | (with_reducible refine Up0.mk rfl ?_) | (with_reducible refine Up0i.mk rfl ?_) | (with_reducible refine Up1.mk rfl ?_) | (with_reducible refine Up1i.mk rfl ?_) | (with_reducible refine Up2.mk rfl ?_) | (with_reducible refine Up2i.mk rfl ?_)
    | (refine Col.mk rfl rfl rfl ?_) | (refine Coli.mk rfl rfl rfl rfl ?_)
    | (refine PCalls.mono alive12 ?_; rintro _ rfl))
                  rfl
end Go.Proofs.YtgladinljapmkaaDoor.Am
