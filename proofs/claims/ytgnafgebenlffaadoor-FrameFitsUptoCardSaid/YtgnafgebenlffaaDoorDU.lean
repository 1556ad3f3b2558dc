/- FrameFits: the law. -/
import Derived.Test.YtgnafgebenlffaaDoorDS
import Derived.Test.YtgnafgebenlffaaDoorDL
import Derived.Test.YtgnafgebenlffaaDoorDT
/- Rows of numbers, told by place. -/
namespace Go.Proofs.YtgnafgebenlffaaDoor.Am
open Go Go.Proofs
set_option maxRecDepth 10000
set_option maxHeartbeats 2000000
set_option linter.unusedVariables false
set_option linter.unusedSimpArgs false
abbrev intsF (n : Nat) (f : Nat → Int) : List T := (List.range n).map fun j => .int .i64 (f j)
theorem intsF_set {n i : Nat} {f : Nat → Int} {z : Int} : (intsF n f).set i (.int .i64 z) = intsF n (fun j => if j = i then z else f j) := by
  apply List.ext_getElem
  · simp
  · intro j h1 h2
    rw [List.getElem_set]
    simp only [List.getElem_map, List.getElem_range]
    by_cases h : i = j
    · subst h; simp
    · rw [if_neg h, if_neg (fun e => h e.symm)]
theorem intsF_congr {n : Nat} {f g : Nat → Int} (h : ∀ j, j < n → f j = g j) : intsF n f = intsF n g := by
  apply List.map_congr_left
  intro j hj
  rw [h j (by simpa using hj)]
theorem intsF_len {n : Nat} {f : Nat → Int} : (intsF n f).length = n := by simp
end Go.Proofs.YtgnafgebenlffaaDoor.Am

/- Frames: what registers are kept, by the program. -/
namespace Go.Proofs.YtgnafgebenlffaaDoor.Am
open Go Go.Proofs
set_option maxRecDepth 10000
set_option maxHeartbeats 2000000
set_option linter.unusedVariables false
set_option linter.unusedSimpArgs false
def keepF (f : Nat → Int) (t w : Int) : Nat → Int := fun j => if (j : Int) = t then orI .i64 (f j) w else f j
theorem keep37 (f : Nat → Int) (t w : Int) : ICalls Tryd.prog 37 [.t (.int .i64 t), .t (.int .i64 w), .pl 0 0 [] 0 0] [.row 62 1 (intsF 9 f)] (fun v σ => Ob (v = .tup [] ∧ σ = [.row 62 1 (intsF 9 (keepF f t w))])) := by
  refine ICalls.inline (I := fun _ => false) ttOk Tryd.func37 rfl ?_
  repeat' ((conv => whnf); first | (with_reducible first | refine onBool_intro (fun _ => ?_) (fun _ => ?_) | refine And.intro (Ob.mk (Nat.le_of_ble_eq_true rfl)) ?_ | refine And.intro (Ob.mk rfl) ?_ | exact ⟨rfl, rfl⟩ | refine And.intro (Ob.mk (fun h => h)) ?_) | (with_reducible refine Or.inl (And.intro (Ob.mk (Flat.map ?_)) ?_); exact fun _ => rfl) | (refine Or.inl (And.intro (Ob.mk (flat_of rfl)) ?_)) | (refine Or.inl (And.intro (Ob.mk ⟨rfl, rfl, rfl, rfl⟩) ?_)) | (refine Or.inl (And.intro (Ob.mk ⟨rfl, rfl, rfl⟩) ?_)) | (refine And.intro (Ob.mk ⟨rfl, rfl⟩) ?_) | (with_reducible refine Or.inr ?_) | (refine And.intro (Ob.mk (flat_of rfl)) ?_) | (with_reducible refine And.intro (Ob.mk (Flat.map ?_)) ?_; exact fun _ => rfl) | (with_reducible first | exact Ob.mk (Flat.map fun _ => rfl) | refine And.intro ?_ ?_ | apply exG.mk | apply exGS.mk | exact Dd.nil) | (refine Dd.same _ ?_) | (refine Dd.dead _ ?_) | (with_reducible first | apply exQ.mk | apply exP.mk) | (refine EqP.mk rfl rfl) | (with_reducible apply exW.mk) | (refine EqW.mk rfl) | (with_reducible first | intro _ | refine Dn.mk ?_) | (refine exS.full (by first | rfl | (simp; done) | (simp; omega)) ?_) | (refine And.intro (Ob.mk ⟨rfl, rfl, by first | rfl | (simp; done) | (simp; omega)⟩) ?_) | (with_reducible refine exE.mapD ?_) | (refine exL.int ?_) | (with_reducible first | refine Up0.mk rfl ?_ | refine Up0i.mk rfl ?_ | refine Up1.mk rfl ?_ | refine Up1i.mk rfl ?_ | refine Up2.mk rfl ?_ | refine Up2i.mk rfl ?_) | (refine Col.mk rfl rfl rfl ?_) | (refine Coli.mk rfl rfl rfl rfl ?_))
  all_goals (try (refine Ob.mk ?_; first | assumption | exact ⟨rfl, rfl⟩ | exact ⟨rfl, rfl, rfl⟩ | (refine ⟨rfl, rfl, ?_⟩; simp only [List.length_map, List.length_take, List.length_append, els_len, List.length_replicate]; omega) | (intro h; exact h) | (intro h; rw [h]; rfl) | (intro h; simp_all; done) | (refine bytes_le (n := 1048577) ?_ rfl; simp only [ltI_iff, ltI_not, leI_iff, leI_not, eqI_iff, eqI_not, List.length_map, bif_and, bif_or, Bool.and_eq_true, Bool.and_eq_false_iff, Bool.or_eq_true, Bool.or_eq_false_iff, Bool.not_eq_true', Bool.not_eq_false', Int.toNat_natCast, beq_iff_eq, beq_eq_false_iff_ne, decide_eq_true_eq, decide_eq_false_iff_not, bel_iff, bel_not, wthn_iff, wthn_not, els_len, mixL_len, Nat.zero_add, List.length_set, List.length_take] at *; omega) | (simp only [ltI_iff, ltI_not, leI_iff, leI_not, eqI_iff, eqI_not, List.length_map, bif_and, bif_or, Bool.and_eq_true, Bool.and_eq_false_iff, Bool.or_eq_true, Bool.or_eq_false_iff, Bool.not_eq_true', Bool.not_eq_false', Int.toNat_natCast, beq_iff_eq, beq_eq_false_iff_ne, decide_eq_true_eq, decide_eq_false_iff_not, bel_iff, bel_not, wthn_iff, wthn_not, els_len, mixL_len, Nat.zero_add, List.length_set, List.length_take, Int.ofNat_eq_natCast] at *; omega)))
  all_goals (try (rename_i h1; simp only [bif_and, Bool.and_eq_true, leI_iff, ltI_iff] at h1))
  · refine Ob.mk ?_
    rw [intsF_len]; omega
  · refine Ob.mk ?_
    rw [intsF_len]; omega
  · conv => whnf
    refine Ob.mk ⟨rfl, ?_⟩
    rw [nthD_range (by omega)]
    refine congrArg (fun z => [SObj.row 62 1 z]) (intsF_set.trans (intsF_congr fun j hj => ?_))
    unfold keepF
    by_cases e : (j : Int) = t
    · rw [if_pos e, if_pos (by omega)]
      rw [show 0 + t.toNat = j by omega]
    · rw [if_neg e, if_neg (by omega)]
  · conv => whnf
    refine Ob.mk ⟨rfl, ?_⟩
    refine congrArg (fun z => [SObj.row 62 1 z]) (intsF_congr fun j hj => ?_)
    unfold keepF
    simp only [bif_and, Bool.and_eq_false_iff, leI_not, ltI_not] at h1
    rw [if_neg (by omega)]
theorem keep37k (f : Nat → Int) (t w : Int) {K : SV → Sto → Prop} (h : K (.tup []) [.row 62 1 (intsF 9 (keepF f t w))]) : ICalls Tryd.prog 37 [.t (.int .i64 t), .t (.int .i64 w), .pl 0 0 [] 0 0] [.row 62 1 (intsF 9 f)] K :=
  ICalls.mono (keep37 f t w) fun v s hs => by obtain ⟨rfl, rfl⟩ := hs.out; exact h
theorem or16 {x w : Int} (h0 : 0 ≤ x) (h1 : x < 16) (hw : w = 1 ∨ w = 2 ∨ w = 4 ∨ w = 8) : 0 < orI .i64 x w ∧ orI .i64 x w < 16 := by
  obtain ⟨n, rfl⟩ := Int.eq_ofNat_of_zero_le h0
  have hn : n < 16 := by omega
  have : ∀ n : Fin 16, ∀ w : Fin 4, let c : Int := [1, 2, 4, 8][w]; 0 < IntKind.i64.wrap ((BitVec.ofInt 64 (n : Nat)) ||| (BitVec.ofInt 64 c)).toNat ∧ IntKind.i64.wrap ((BitVec.ofInt 64 (n : Nat)) ||| (BitVec.ofInt 64 c)).toNat < 16 := by decide +kernel
  unfold orI
  rcases hw with rfl | rfl | rfl | rfl
  · exact this ⟨n, hn⟩ 0
  · exact this ⟨n, hn⟩ 1
  · exact this ⟨n, hn⟩ 2
  · exact this ⟨n, hn⟩ 3
structure Marks (f : Nat → Int) (K : Nat → Prop) : Prop where
  low : ∀ j, j < 9 → 0 ≤ f j ∧ f j < 16
  iff : ∀ j, j < 9 → (f j ≠ 0 ↔ K j)
theorem Marks.keep {f : Nat → Int} {K : Nat → Prop} (h : Marks f K) (t w : Int) (hw : w = 1 ∨ w = 2 ∨ w = 4 ∨ w = 8) : Marks (keepF f t w) fun j => K j ∨ (j : Int) = t := by
  refine ⟨fun j hj => ?_, fun j hj => ?_⟩
  · have h1 := h.low j hj
    have h2 := or16 h1.1 h1.2 hw
    unfold keepF
    split <;> omega
  · have h1 := h.low j hj
    have h2 := or16 h1.1 h1.2 hw
    unfold keepF
    split
    · rename_i e
      exact ⟨fun _ => .inr e, fun _ => by omega⟩
    · rename_i e
      rw [h.iff j hj]
      exact ⟨.inl, fun h => h.resolve_right e⟩
theorem Marks.to {f : Nat → Int} {K K' : Nat → Prop} (h : Marks f K) (e : ∀ j, j < 9 → (K j ↔ K' j)) : Marks f K' := ⟨h.low, fun j hj => (h.iff j hj).trans (e j hj)⟩
def setsTo (l : List Ins) (i : Nat) (t : Nat) : Prop := ∃ x ∈ l.take i, setsN x = t
def setsB (l : List Block) (b : Nat) (t : Nat) : Prop := ∃ x ∈ l.take b, ∃ y ∈ x.code, setsN y = t
def keptF (g : Graph) (words : Int) (a : Nat → Bool) (t : Nat) : Prop := a t = true ∨ (t : Int) ∈ g.params ∨ setsB g.blocks g.blocks.length t ∨ (0 < words ∧ t = 0)
abbrev bvarF (b : Block) : SObj := .var 55 [.t (.sl 8 (b.code.map Ins.t)), .t (.int .i64 b.fin.kind), .t (.int .i64 b.fin.op), .t (.int .i64 b.fin.a), .t (.int .i64 b.fin.b), .t (.int .u32 b.fin.n), .t (.int .i64 b.fin.to), .t (.int .i64 b.fin.els), .t (.sl 2 (b.fin.cases.map Case.t)), .t (ilist b.fin.targets)]
abbrev keptV (g : Graph) (f : Nat → Int) : Sto := [gvar g, .row 62 1 (intsF 9 fun _ => 0), .row 62 1 (intsF 9 f)]
theorem fits_op {g : Graph} (hf : g.fits) {b : Block} (hb : b ∈ g.blocks) {x : Ins} (hx : x ∈ b.code) : 1 ≤ x.op ∧ x.op ≤ 32 := by
  have := hf.ins b hb x hx
  unfold insOk at this
  rw [Bool.and_eq_true, Bool.and_eq_true, decide_eq_true_eq] at this
  exact this.1.1
theorem flatA_intsF {n : Nat} {f : Nat → Int} : FlatA (intsF n f) := by
  intro x hx
  obtain ⟨j, _, rfl⟩ := List.mem_map.1 hx
  rfl
theorem liveN_mem0 {n : Nat} {f : Nat → Bool} {t : Nat} (h : t < n) : (t : Int) ∈ liveN n f ↔ f t = true := by
  rw [← List.contains_iff_mem, liveN_has h]
theorem kept20 (g : Graph) (hg : g.tiny) (hw : ∀ b ∈ g.blocks, ∀ x ∈ allN b.fin, I64 x) (hf : g.fits) (words : Int) : PCalls Tryd.prog 20 [g.t, .int .i64 words] (fun r => Ob (∃ (a : Nat → Nat → Bool) (f : Nat → Int), Least g 8000 a ∧ Inside g a ∧ Marks f (keptF g words (a 0)) ∧ r = .arr (intsF 9 f))) := by
  refine PCalls.of_bodyI (fun f => Nat.beq f 37) ttOk Tryd.func20 rfl ?_
  repeat' ((conv => whnf); first | (with_reducible first | refine onBool_intro (fun _ => ?_) (fun _ => ?_) | refine And.intro (Ob.mk (Nat.le_of_ble_eq_true rfl)) ?_ | refine And.intro (Ob.mk rfl) ?_ | exact ⟨rfl, rfl⟩ | refine And.intro (Ob.mk (fun h => h)) ?_) | (with_reducible refine Or.inl (And.intro (Ob.mk (Flat.map ?_)) ?_); exact fun _ => rfl) | (refine Or.inl (And.intro (Ob.mk (flat_of rfl)) ?_)) | (refine Or.inl (And.intro (Ob.mk ⟨rfl, rfl, rfl, rfl⟩) ?_)) | (refine Or.inl (And.intro (Ob.mk ⟨rfl, rfl, rfl⟩) ?_)) | (refine And.intro (Ob.mk ⟨rfl, rfl⟩) ?_) | (with_reducible refine Or.inr ?_) | (refine And.intro (Ob.mk (flat_of rfl)) ?_) | (with_reducible refine And.intro (Ob.mk (Flat.map ?_)) ?_; exact fun _ => rfl) | (with_reducible first | exact Ob.mk (Flat.map fun _ => rfl) | refine And.intro ?_ ?_ | apply exG.mk | apply exGS.mk | exact Dd.nil) | (refine Dd.same _ ?_) | (refine Dd.dead _ ?_) | (with_reducible first | apply exQ.mk | apply exP.mk) | (refine EqP.mk rfl rfl) | (with_reducible apply exW.mk) | (refine EqW.mk rfl) | (with_reducible first | intro _ | refine Dn.mk ?_) | (refine exS.full (by first | rfl | (simp; done) | (simp; omega)) ?_) | (refine And.intro (Ob.mk ⟨rfl, rfl, by first | rfl | (simp; done) | (simp; omega)⟩) ?_) | (with_reducible refine exE.mapD ?_) | (refine exL.int ?_) | (with_reducible first | refine Up0.mk rfl ?_ | refine Up0i.mk rfl ?_ | refine Up1.mk rfl ?_ | refine Up1i.mk rfl ?_ | refine Up2.mk rfl ?_ | refine Up2i.mk rfl ?_) | (refine Col.mk rfl rfl rfl ?_) | (refine Coli.mk rfl rfl rfl rfl ?_) | (refine live10f g hg hw (fun h e he => absurd hf h) (fun a hf ha hin e he => ?_)))
  all_goals (try (refine Ob.mk ?_; first | assumption | exact ⟨rfl, rfl⟩ | exact ⟨rfl, rfl, rfl⟩ | (refine ⟨rfl, rfl, ?_⟩; simp only [List.length_map, List.length_take, List.length_append, els_len, List.length_replicate]; omega) | (intro h; exact h) | (intro h; rw [h]; rfl) | (intro h; simp_all; done) | (refine bytes_le (n := 1048577) ?_ rfl; simp only [ltI_iff, ltI_not, leI_iff, leI_not, eqI_iff, eqI_not, List.length_map, bif_and, bif_or, Bool.and_eq_true, Bool.and_eq_false_iff, Bool.or_eq_true, Bool.or_eq_false_iff, Bool.not_eq_true', Bool.not_eq_false', Int.toNat_natCast, beq_iff_eq, beq_eq_false_iff_ne, decide_eq_true_eq, decide_eq_false_iff_not, bel_iff, bel_not, wthn_iff, wthn_not, els_len, mixL_len, Nat.zero_add, List.length_set, List.length_take] at *; omega) | (simp only [ltI_iff, ltI_not, leI_iff, leI_not, eqI_iff, eqI_not, List.length_map, bif_and, bif_or, Bool.and_eq_true, Bool.and_eq_false_iff, Bool.or_eq_true, Bool.or_eq_false_iff, Bool.not_eq_true', Bool.not_eq_false', Int.toNat_natCast, beq_iff_eq, beq_eq_false_iff_ne, decide_eq_true_eq, decide_eq_false_iff_not, bel_iff, bel_not, wthn_iff, wthn_not, els_len, mixL_len, Nat.zero_add, List.length_set, List.length_take, Int.ofNat_eq_natCast] at *; omega)))
  · exact Ob.mk (Int.le_refl _)
  · refine Ob.mk ?_
    rw [List.length_map, tells_len]
    have := hf.one
    omega
  · have hl := liveN_len (n := 8000) (f := a 0)
    have hL : nthD (tells g.blocks.length a) (Int.toNat 0) = liveN 8000 (a 0) := tells_at (by have := hf.one; omega)
    rw [← hL] at hl
    generalize hLe : nthD (tells g.blocks.length a) (Int.toNat 0) = L at *
    conv => whnf
    refine LoopVC.mk [27] [] (fun m vals σ => ∃ (i : Nat) (f : Nat → Int), vals = [.t (.int .i64 i)] ∧ σ = keptV g f ∧ i ≤ L.length ∧ m = L.length - i ∧ Marks f fun t => (t : Int) ∈ L.take i) ?_ ?_
    · conv => whnf
      exact ⟨_, 0, fun _ => 0, rfl, rfl, Nat.zero_le _, rfl, ⟨fun j _ => ⟨Int.le_refl _, by omega⟩, fun j _ => ⟨fun h => absurd rfl h, fun h => by simp at h⟩⟩⟩
    · rintro m vals σ ⟨i, f, rfl, rfl, hi, rfl, hk⟩
      repeat' ((conv => whnf); first | (with_reducible first | refine onBool_intro (fun _ => ?_) (fun _ => ?_) | refine And.intro (Ob.mk (Nat.le_of_ble_eq_true rfl)) ?_ | refine And.intro (Ob.mk rfl) ?_ | exact ⟨rfl, rfl⟩ | refine And.intro (Ob.mk (fun h => h)) ?_) | (with_reducible refine Or.inl (And.intro (Ob.mk (Flat.map ?_)) ?_); exact fun _ => rfl) | (refine Or.inl (And.intro (Ob.mk (flat_of rfl)) ?_)) | (refine Or.inl (And.intro (Ob.mk ⟨rfl, rfl, rfl, rfl⟩) ?_)) | (refine Or.inl (And.intro (Ob.mk ⟨rfl, rfl, rfl⟩) ?_)) | (refine And.intro (Ob.mk ⟨rfl, rfl⟩) ?_) | (with_reducible refine Or.inr ?_) | (refine And.intro (Ob.mk (flat_of rfl)) ?_) | (with_reducible refine And.intro (Ob.mk (Flat.map ?_)) ?_; exact fun _ => rfl) | (with_reducible first | exact Ob.mk (Flat.map fun _ => rfl) | refine And.intro ?_ ?_ | apply exG.mk | apply exGS.mk | exact Dd.nil) | (refine Dd.same _ ?_) | (refine Dd.dead _ ?_) | (with_reducible first | apply exQ.mk | apply exP.mk) | (refine EqP.mk rfl rfl) | (with_reducible apply exW.mk) | (refine EqW.mk rfl) | (with_reducible first | intro _ | refine Dn.mk ?_) | (refine exS.full (by first | rfl | (simp; done) | (simp; omega)) ?_) | (refine And.intro (Ob.mk ⟨rfl, rfl, by first | rfl | (simp; done) | (simp; omega)⟩) ?_) | (with_reducible refine exE.mapD ?_) | (refine exL.int ?_) | (with_reducible first | refine Up0.mk rfl ?_ | refine Up0i.mk rfl ?_ | refine Up1.mk rfl ?_ | refine Up1i.mk rfl ?_ | refine Up2.mk rfl ?_ | refine Up2i.mk rfl ?_) | (refine Col.mk rfl rfl rfl ?_) | (refine Coli.mk rfl rfl rfl rfl ?_) | (refine ICalls.frame [2] rfl (keep37k _ _ _ fun _ => ?_)))
      all_goals (try (refine Ob.mk ?_; first | assumption | exact ⟨rfl, rfl⟩ | exact ⟨rfl, rfl, rfl⟩ | (refine ⟨rfl, rfl, ?_⟩; simp only [List.length_map, List.length_take, List.length_append, els_len, List.length_replicate]; omega) | (intro h; exact h) | (intro h; rw [h]; rfl) | (intro h; simp_all; done) | (refine bytes_le (n := 1048577) ?_ rfl; simp only [ltI_iff, ltI_not, leI_iff, leI_not, eqI_iff, eqI_not, List.length_map, bif_and, bif_or, Bool.and_eq_true, Bool.and_eq_false_iff, Bool.or_eq_true, Bool.or_eq_false_iff, Bool.not_eq_true', Bool.not_eq_false', Int.toNat_natCast, beq_iff_eq, beq_eq_false_iff_ne, decide_eq_true_eq, decide_eq_false_iff_not, bel_iff, bel_not, wthn_iff, wthn_not, els_len, mixL_len, Nat.zero_add, List.length_set, List.length_take] at *; omega) | (simp only [ltI_iff, ltI_not, leI_iff, leI_not, eqI_iff, eqI_not, List.length_map, bif_and, bif_or, Bool.and_eq_true, Bool.and_eq_false_iff, Bool.or_eq_true, Bool.or_eq_false_iff, Bool.not_eq_true', Bool.not_eq_false', Int.toNat_natCast, beq_iff_eq, beq_eq_false_iff_ne, decide_eq_true_eq, decide_eq_false_iff_not, bel_iff, bel_not, wthn_iff, wthn_not, els_len, mixL_len, Nat.zero_add, List.length_set, List.length_take, Int.ofNat_eq_natCast] at *; omega)))
      · rename_i h1 _
        have h1 : i < L.length := by rw [ltI_iff, List.length_map] at h1; omega
        conv => whnf
        refine ⟨L.length - (i + 1), by omega, i + 1, _, ?_, rfl, by omega, rfl, (hk.keep _ 2 (by omega)).to fun j hj => ?_⟩
        · rw [addI_i64 (by omega) (by omega)]; rfl
        · rw [take_succ_nthD h1, List.mem_append, List.mem_singleton, Int.toNat_natCast]
      · rename_i h1 _
        have h1 : L.length ≤ i := by rw [ltI_not, List.length_map] at h1; omega
        rw [List.take_of_length_le h1] at hk
        repeat' ((conv => whnf); first | (with_reducible first | refine onBool_intro (fun _ => ?_) (fun _ => ?_) | refine And.intro (Ob.mk (Nat.le_of_ble_eq_true rfl)) ?_ | refine And.intro (Ob.mk rfl) ?_ | exact ⟨rfl, rfl⟩ | refine And.intro (Ob.mk (fun h => h)) ?_) | (with_reducible refine Or.inl (And.intro (Ob.mk (Flat.map ?_)) ?_); exact fun _ => rfl) | (refine Or.inl (And.intro (Ob.mk (flat_of rfl)) ?_)) | (refine Or.inl (And.intro (Ob.mk ⟨rfl, rfl, rfl, rfl⟩) ?_)) | (refine Or.inl (And.intro (Ob.mk ⟨rfl, rfl, rfl⟩) ?_)) | (refine And.intro (Ob.mk ⟨rfl, rfl⟩) ?_) | (with_reducible refine Or.inr ?_) | (refine And.intro (Ob.mk (flat_of rfl)) ?_) | (with_reducible refine And.intro (Ob.mk (Flat.map ?_)) ?_; exact fun _ => rfl) | (with_reducible first | exact Ob.mk (Flat.map fun _ => rfl) | refine And.intro ?_ ?_ | apply exG.mk | apply exGS.mk | exact Dd.nil) | (refine Dd.same _ ?_) | (refine Dd.dead _ ?_) | (with_reducible first | apply exQ.mk | apply exP.mk) | (refine EqP.mk rfl rfl) | (with_reducible apply exW.mk) | (refine EqW.mk rfl) | (with_reducible first | intro _ | refine Dn.mk ?_) | (refine exS.full (by first | rfl | (simp; done) | (simp; omega)) ?_) | (refine And.intro (Ob.mk ⟨rfl, rfl, by first | rfl | (simp; done) | (simp; omega)⟩) ?_) | (with_reducible refine exE.mapD ?_) | (refine exL.int ?_) | (with_reducible first | refine Up0.mk rfl ?_ | refine Up0i.mk rfl ?_ | refine Up1.mk rfl ?_ | refine Up1i.mk rfl ?_ | refine Up2.mk rfl ?_ | refine Up2i.mk rfl ?_) | (refine Col.mk rfl rfl rfl ?_) | (refine Coli.mk rfl rfl rfl rfl ?_))
        conv => whnf
        refine LoopVC.mk [38] [] (fun m vals σ => ∃ (i : Nat) (f : Nat → Int), vals = [.t (.int .i64 i)] ∧ σ = keptV g f ∧ i ≤ g.params.length ∧ m = g.params.length - i ∧ Marks f fun t => (t : Int) ∈ L ∨ (t : Int) ∈ g.params.take i) ?_ ?_
        · conv => whnf
          exact ⟨_, 0, f, rfl, rfl, Nat.zero_le _, rfl, hk.to fun j hj => by simp⟩
        · clear hk hi
          rintro m vals σ ⟨i, f, rfl, rfl, hi, rfl, hk⟩
          repeat' ((conv => whnf); first | (with_reducible first | refine onBool_intro (fun _ => ?_) (fun _ => ?_) | refine And.intro (Ob.mk (Nat.le_of_ble_eq_true rfl)) ?_ | refine And.intro (Ob.mk rfl) ?_ | exact ⟨rfl, rfl⟩ | refine And.intro (Ob.mk (fun h => h)) ?_) | (with_reducible refine Or.inl (And.intro (Ob.mk (Flat.map ?_)) ?_); exact fun _ => rfl) | (refine Or.inl (And.intro (Ob.mk (flat_of rfl)) ?_)) | (refine Or.inl (And.intro (Ob.mk ⟨rfl, rfl, rfl, rfl⟩) ?_)) | (refine Or.inl (And.intro (Ob.mk ⟨rfl, rfl, rfl⟩) ?_)) | (refine And.intro (Ob.mk ⟨rfl, rfl⟩) ?_) | (with_reducible refine Or.inr ?_) | (refine And.intro (Ob.mk (flat_of rfl)) ?_) | (with_reducible refine And.intro (Ob.mk (Flat.map ?_)) ?_; exact fun _ => rfl) | (with_reducible first | exact Ob.mk (Flat.map fun _ => rfl) | refine And.intro ?_ ?_ | apply exG.mk | apply exGS.mk | exact Dd.nil) | (refine Dd.same _ ?_) | (refine Dd.dead _ ?_) | (with_reducible first | apply exQ.mk | apply exP.mk) | (refine EqP.mk rfl rfl) | (with_reducible apply exW.mk) | (refine EqW.mk rfl) | (with_reducible first | intro _ | refine Dn.mk ?_) | (refine exS.full (by first | rfl | (simp; done) | (simp; omega)) ?_) | (refine And.intro (Ob.mk ⟨rfl, rfl, by first | rfl | (simp; done) | (simp; omega)⟩) ?_) | (with_reducible refine exE.mapD ?_) | (refine exL.int ?_) | (with_reducible first | refine Up0.mk rfl ?_ | refine Up0i.mk rfl ?_ | refine Up1.mk rfl ?_ | refine Up1i.mk rfl ?_ | refine Up2.mk rfl ?_ | refine Up2i.mk rfl ?_) | (refine Col.mk rfl rfl rfl ?_) | (refine Coli.mk rfl rfl rfl rfl ?_) | (refine ICalls.frame [2] rfl (keep37k _ _ _ fun _ => ?_)))
          all_goals (try (refine Ob.mk ?_; first | assumption | exact ⟨rfl, rfl⟩ | exact ⟨rfl, rfl, rfl⟩ | (refine ⟨rfl, rfl, ?_⟩; simp only [List.length_map, List.length_take, List.length_append, els_len, List.length_replicate]; omega) | (intro h; exact h) | (intro h; rw [h]; rfl) | (intro h; simp_all; done) | (refine bytes_le (n := 1048577) ?_ rfl; simp only [ltI_iff, ltI_not, leI_iff, leI_not, eqI_iff, eqI_not, List.length_map, bif_and, bif_or, Bool.and_eq_true, Bool.and_eq_false_iff, Bool.or_eq_true, Bool.or_eq_false_iff, Bool.not_eq_true', Bool.not_eq_false', Int.toNat_natCast, beq_iff_eq, beq_eq_false_iff_ne, decide_eq_true_eq, decide_eq_false_iff_not, bel_iff, bel_not, wthn_iff, wthn_not, els_len, mixL_len, Nat.zero_add, List.length_set, List.length_take] at *; omega) | (simp only [ltI_iff, ltI_not, leI_iff, leI_not, eqI_iff, eqI_not, List.length_map, bif_and, bif_or, Bool.and_eq_true, Bool.and_eq_false_iff, Bool.or_eq_true, Bool.or_eq_false_iff, Bool.not_eq_true', Bool.not_eq_false', Int.toNat_natCast, beq_iff_eq, beq_eq_false_iff_ne, decide_eq_true_eq, decide_eq_false_iff_not, bel_iff, bel_not, wthn_iff, wthn_not, els_len, mixL_len, Nat.zero_add, List.length_set, List.length_take, Int.ofNat_eq_natCast] at *; omega)))
          · rename_i h1 _
            have h1 : i < g.params.length := by rw [ltI_iff, List.length_map] at h1; omega
            have := hg.params
            conv => whnf
            refine ⟨g.params.length - (i + 1), by omega, i + 1, _, ?_, rfl, by omega, rfl, (hk.keep _ 1 (by omega)).to fun j hj => ?_⟩
            · rw [addI_i64 (by omega) (by omega)]; rfl
            · rw [take_succ_nthD h1, List.mem_append, List.mem_singleton, Int.toNat_natCast, or_assoc]
          · rename_i h1 _
            have h1 : g.params.length ≤ i := by rw [ltI_not, List.length_map] at h1; omega
            rw [List.take_of_length_le h1] at hk
            repeat' ((conv => whnf); first | (with_reducible first | refine onBool_intro (fun _ => ?_) (fun _ => ?_) | refine And.intro (Ob.mk (Nat.le_of_ble_eq_true rfl)) ?_ | refine And.intro (Ob.mk rfl) ?_ | exact ⟨rfl, rfl⟩ | refine And.intro (Ob.mk (fun h => h)) ?_) | (with_reducible refine Or.inl (And.intro (Ob.mk (Flat.map ?_)) ?_); exact fun _ => rfl) | (refine Or.inl (And.intro (Ob.mk (flat_of rfl)) ?_)) | (refine Or.inl (And.intro (Ob.mk ⟨rfl, rfl, rfl, rfl⟩) ?_)) | (refine Or.inl (And.intro (Ob.mk ⟨rfl, rfl, rfl⟩) ?_)) | (refine And.intro (Ob.mk ⟨rfl, rfl⟩) ?_) | (with_reducible refine Or.inr ?_) | (refine And.intro (Ob.mk (flat_of rfl)) ?_) | (with_reducible refine And.intro (Ob.mk (Flat.map ?_)) ?_; exact fun _ => rfl) | (with_reducible first | exact Ob.mk (Flat.map fun _ => rfl) | refine And.intro ?_ ?_ | apply exG.mk | apply exGS.mk | exact Dd.nil) | (refine Dd.same _ ?_) | (refine Dd.dead _ ?_) | (with_reducible first | apply exQ.mk | apply exP.mk) | (refine EqP.mk rfl rfl) | (with_reducible apply exW.mk) | (refine EqW.mk rfl) | (with_reducible first | intro _ | refine Dn.mk ?_) | (refine exS.full (by first | rfl | (simp; done) | (simp; omega)) ?_) | (refine And.intro (Ob.mk ⟨rfl, rfl, by first | rfl | (simp; done) | (simp; omega)⟩) ?_) | (with_reducible refine exE.mapD ?_) | (refine exL.int ?_) | (with_reducible first | refine Up0.mk rfl ?_ | refine Up0i.mk rfl ?_ | refine Up1.mk rfl ?_ | refine Up1i.mk rfl ?_ | refine Up2.mk rfl ?_ | refine Up2i.mk rfl ?_) | (refine Col.mk rfl rfl rfl ?_) | (refine Coli.mk rfl rfl rfl rfl ?_))
            conv => whnf
            refine LoopVC.mk [49] [] (fun m vals σ => ∃ (i : Nat) (f : Nat → Int), vals = [.t (.int .i64 i)] ∧ σ = keptV g f ∧ i ≤ g.blocks.length ∧ m = g.blocks.length - i ∧ Marks f fun t => (t : Int) ∈ L ∨ (t : Int) ∈ g.params ∨ setsB g.blocks i t) ?_ ?_
            · conv => whnf
              exact ⟨_, 0, f, rfl, rfl, Nat.zero_le _, rfl, hk.to fun j hj => by simp [setsB]⟩
            · clear hk hi
              rintro m vals σ ⟨b, f, rfl, rfl, hb, rfl, hk⟩
              repeat' ((conv => whnf); first | (with_reducible first | refine onBool_intro (fun _ => ?_) (fun _ => ?_) | refine And.intro (Ob.mk (Nat.le_of_ble_eq_true rfl)) ?_ | refine And.intro (Ob.mk rfl) ?_ | exact ⟨rfl, rfl⟩ | refine And.intro (Ob.mk (fun h => h)) ?_) | (with_reducible refine Or.inl (And.intro (Ob.mk (Flat.map ?_)) ?_); exact fun _ => rfl) | (refine Or.inl (And.intro (Ob.mk (flat_of rfl)) ?_)) | (refine Or.inl (And.intro (Ob.mk ⟨rfl, rfl, rfl, rfl⟩) ?_)) | (refine Or.inl (And.intro (Ob.mk ⟨rfl, rfl, rfl⟩) ?_)) | (refine And.intro (Ob.mk ⟨rfl, rfl⟩) ?_) | (with_reducible refine Or.inr ?_) | (refine And.intro (Ob.mk (flat_of rfl)) ?_) | (with_reducible refine And.intro (Ob.mk (Flat.map ?_)) ?_; exact fun _ => rfl) | (with_reducible first | exact Ob.mk (Flat.map fun _ => rfl) | refine And.intro ?_ ?_ | apply exG.mk | apply exGS.mk | exact Dd.nil) | (refine Dd.same _ ?_) | (refine Dd.dead _ ?_) | (with_reducible first | apply exQ.mk | apply exP.mk) | (refine EqP.mk rfl rfl) | (with_reducible apply exW.mk) | (refine EqW.mk rfl) | (with_reducible first | intro _ | refine Dn.mk ?_) | (refine exS.full (by first | rfl | (simp; done) | (simp; omega)) ?_) | (refine And.intro (Ob.mk ⟨rfl, rfl, by first | rfl | (simp; done) | (simp; omega)⟩) ?_) | (with_reducible refine exE.mapD ?_) | (refine exL.int ?_) | (with_reducible first | refine Up0.mk rfl ?_ | refine Up0i.mk rfl ?_ | refine Up1.mk rfl ?_ | refine Up1i.mk rfl ?_ | refine Up2.mk rfl ?_ | refine Up2i.mk rfl ?_) | (refine Col.mk rfl rfl rfl ?_) | (refine Coli.mk rfl rfl rfl rfl ?_))
              all_goals (try (refine Ob.mk ?_; first | assumption | exact ⟨rfl, rfl⟩ | exact ⟨rfl, rfl, rfl⟩ | (refine ⟨rfl, rfl, ?_⟩; simp only [List.length_map, List.length_take, List.length_append, els_len, List.length_replicate]; omega) | (intro h; exact h) | (intro h; rw [h]; rfl) | (intro h; simp_all; done) | (refine bytes_le (n := 1048577) ?_ rfl; simp only [ltI_iff, ltI_not, leI_iff, leI_not, eqI_iff, eqI_not, List.length_map, bif_and, bif_or, Bool.and_eq_true, Bool.and_eq_false_iff, Bool.or_eq_true, Bool.or_eq_false_iff, Bool.not_eq_true', Bool.not_eq_false', Int.toNat_natCast, beq_iff_eq, beq_eq_false_iff_ne, decide_eq_true_eq, decide_eq_false_iff_not, bel_iff, bel_not, wthn_iff, wthn_not, els_len, mixL_len, Nat.zero_add, List.length_set, List.length_take] at *; omega) | (simp only [ltI_iff, ltI_not, leI_iff, leI_not, eqI_iff, eqI_not, List.length_map, bif_and, bif_or, Bool.and_eq_true, Bool.and_eq_false_iff, Bool.or_eq_true, Bool.or_eq_false_iff, Bool.not_eq_true', Bool.not_eq_false', Int.toNat_natCast, beq_iff_eq, beq_eq_false_iff_ne, decide_eq_true_eq, decide_eq_false_iff_not, bel_iff, bel_not, wthn_iff, wthn_not, els_len, mixL_len, Nat.zero_add, List.length_set, List.length_take, Int.ofNat_eq_natCast] at *; omega)))
              all_goals (try exact Ob.mk flatA_intsF)
              · rename_i h1 _
                have h1 : b < g.blocks.length := by rw [ltI_iff, List.length_map] at h1; omega
                have hbt := (hg.all _ (nthD_mem h1)).code
                conv => whnf
                refine LoopVC.mk [56] [] (fun m vals σ => ∃ (i : Nat) (f : Nat → Int), vals = [.t (.int .i64 i)] ∧ σ = keptV g f ++ [bvarF (nthD g.blocks b)] ∧ i ≤ (nthD g.blocks b).code.length ∧ m = (nthD g.blocks b).code.length - i ∧ Marks f fun t => (t : Int) ∈ L ∨ (t : Int) ∈ g.params ∨ setsB g.blocks b t ∨ setsTo (nthD g.blocks b).code i t) ?_ ?_
                · conv => whnf
                  exact ⟨_, 0, f, rfl, rfl, Nat.zero_le _, rfl, hk.to fun j hj => by simp [setsTo]⟩
                · clear hk
                  rintro m vals σ ⟨i, f, rfl, rfl, hi, rfl, hk⟩
                  repeat' ((conv => whnf); first | (with_reducible first | refine onBool_intro (fun _ => ?_) (fun _ => ?_) | refine And.intro (Ob.mk (Nat.le_of_ble_eq_true rfl)) ?_ | refine And.intro (Ob.mk rfl) ?_ | exact ⟨rfl, rfl⟩ | refine And.intro (Ob.mk (fun h => h)) ?_) | (with_reducible refine Or.inl (And.intro (Ob.mk (Flat.map ?_)) ?_); exact fun _ => rfl) | (refine Or.inl (And.intro (Ob.mk (flat_of rfl)) ?_)) | (refine Or.inl (And.intro (Ob.mk ⟨rfl, rfl, rfl, rfl⟩) ?_)) | (refine Or.inl (And.intro (Ob.mk ⟨rfl, rfl, rfl⟩) ?_)) | (refine And.intro (Ob.mk ⟨rfl, rfl⟩) ?_) | (with_reducible refine Or.inr ?_) | (refine And.intro (Ob.mk (flat_of rfl)) ?_) | (with_reducible refine And.intro (Ob.mk (Flat.map ?_)) ?_; exact fun _ => rfl) | (with_reducible first | exact Ob.mk (Flat.map fun _ => rfl) | refine And.intro ?_ ?_ | apply exG.mk | apply exGS.mk | exact Dd.nil) | (refine Dd.same _ ?_) | (refine Dd.dead _ ?_) | (with_reducible first | apply exQ.mk | apply exP.mk) | (refine EqP.mk rfl rfl) | (with_reducible apply exW.mk) | (refine EqW.mk rfl) | (with_reducible first | intro _ | refine Dn.mk ?_) | (refine exS.full (by first | rfl | (simp; done) | (simp; omega)) ?_) | (refine And.intro (Ob.mk ⟨rfl, rfl, by first | rfl | (simp; done) | (simp; omega)⟩) ?_) | (with_reducible refine exE.mapD ?_) | (refine exL.int ?_) | (with_reducible first | refine Up0.mk rfl ?_ | refine Up0i.mk rfl ?_ | refine Up1.mk rfl ?_ | refine Up1i.mk rfl ?_ | refine Up2.mk rfl ?_ | refine Up2i.mk rfl ?_) | (refine Col.mk rfl rfl rfl ?_) | (refine Coli.mk rfl rfl rfl rfl ?_) | (refine ICalls.frame [2] rfl (keep37k _ _ _ fun _ => ?_)) | (refine PCalls.mono (lsets81 _) ?_; rintro _ rfl))
                  all_goals (try (refine Ob.mk ?_; first | assumption | exact ⟨rfl, rfl⟩ | exact ⟨rfl, rfl, rfl⟩ | (refine ⟨rfl, rfl, ?_⟩; simp only [List.length_map, List.length_take, List.length_append, els_len, List.length_replicate]; omega) | (intro h; exact h) | (intro h; rw [h]; rfl) | (intro h; simp_all; done) | (refine bytes_le (n := 1048577) ?_ rfl; simp only [ltI_iff, ltI_not, leI_iff, leI_not, eqI_iff, eqI_not, List.length_map, bif_and, bif_or, Bool.and_eq_true, Bool.and_eq_false_iff, Bool.or_eq_true, Bool.or_eq_false_iff, Bool.not_eq_true', Bool.not_eq_false', Int.toNat_natCast, beq_iff_eq, beq_eq_false_iff_ne, decide_eq_true_eq, decide_eq_false_iff_not, bel_iff, bel_not, wthn_iff, wthn_not, els_len, mixL_len, Nat.zero_add, List.length_set, List.length_take] at *; omega) | (simp only [ltI_iff, ltI_not, leI_iff, leI_not, eqI_iff, eqI_not, List.length_map, bif_and, bif_or, Bool.and_eq_true, Bool.and_eq_false_iff, Bool.or_eq_true, Bool.or_eq_false_iff, Bool.not_eq_true', Bool.not_eq_false', Int.toNat_natCast, beq_iff_eq, beq_eq_false_iff_ne, decide_eq_true_eq, decide_eq_false_iff_not, bel_iff, bel_not, wthn_iff, wthn_not, els_len, mixL_len, Nat.zero_add, List.length_set, List.length_take, Int.ofNat_eq_natCast] at *; omega)))
                  · rename_i h2 _
                    have h2 : i < (nthD g.blocks b).code.length := by rw [ltI_iff, List.length_map, Int.toNat_natCast] at h2; omega
                    have ho := fits_op hf (nthD_mem h1) (nthD_mem h2)
                    conv => whnf
                    refine ⟨(nthD g.blocks b).code.length - (i + 1), by omega, i + 1, _, ?_, rfl, by omega, rfl, (hk.keep _ 4 (by omega)).to fun j hj => ?_⟩
                    · rw [addI_i64 (by omega) (by omega)]; rfl
                    · rw [Int.toNat_natCast, Int.toNat_natCast, show lsetsN (nthD (nthD g.blocks b).code i) = setsN (nthD (nthD g.blocks b).code i) from (setsN_eq ho).symm, or_assoc, or_assoc, or_assoc]
                      refine or_congr Iff.rfl (or_congr Iff.rfl (or_congr Iff.rfl ?_))
                      unfold setsTo
                      rw [take_succ_nthD h2]
                      constructor
                      · rintro (⟨x, hx, e⟩ | e)
                        · exact ⟨x, List.mem_append_left _ hx, e⟩
                        · exact ⟨_, List.mem_append_right _ (by simp), e.symm⟩
                      · rintro ⟨x, hx, e⟩
                        rcases List.mem_append.1 hx with hx | hx
                        · exact .inl ⟨x, hx, e⟩
                        · rw [List.mem_singleton] at hx
                          subst hx
                          exact .inr e.symm
                  · rename_i h2
                    have h2 : (nthD g.blocks b).code.length ≤ i := by rw [ltI_not, List.length_map, Int.toNat_natCast] at h2; omega
                    have := hg.blocks
                    conv => whnf
                    refine ⟨g.blocks.length - (b + 1), by omega, b + 1, f, ?_, rfl, by omega, rfl, hk.to fun j hj => ?_⟩
                    · rw [addI_i64 (by omega) (by omega)]; rfl
                    · refine or_congr Iff.rfl (or_congr Iff.rfl ?_)
                      unfold setsB setsTo
                      rw [take_succ_nthD h1, List.take_of_length_le h2]
                      constructor
                      · rintro (⟨x, hx, y, hy, e⟩ | ⟨y, hy, e⟩)
                        · exact ⟨x, List.mem_append_left _ hx, y, hy, e⟩
                        · exact ⟨_, List.mem_append_right _ (by simp), y, hy, e⟩
                      · rintro ⟨x, hx, y, hy, e⟩
                        rcases List.mem_append.1 hx with hx | hx
                        · exact .inl ⟨x, hx, y, hy, e⟩
                        · rw [List.mem_singleton] at hx
                          subst hx
                          exact .inr ⟨y, hy, e⟩
              · rename_i h1 h2
                have h1 : g.blocks.length ≤ b := by rw [ltI_not, List.length_map] at h1; omega
                have hbe : b = g.blocks.length := by omega
                subst hbe
                repeat' ((conv => whnf); first | (with_reducible first | refine onBool_intro (fun _ => ?_) (fun _ => ?_) | refine And.intro (Ob.mk (Nat.le_of_ble_eq_true rfl)) ?_ | refine And.intro (Ob.mk rfl) ?_ | exact ⟨rfl, rfl⟩ | refine And.intro (Ob.mk (fun h => h)) ?_) | (with_reducible refine Or.inl (And.intro (Ob.mk (Flat.map ?_)) ?_); exact fun _ => rfl) | (refine Or.inl (And.intro (Ob.mk (flat_of rfl)) ?_)) | (refine Or.inl (And.intro (Ob.mk ⟨rfl, rfl, rfl, rfl⟩) ?_)) | (refine Or.inl (And.intro (Ob.mk ⟨rfl, rfl, rfl⟩) ?_)) | (refine And.intro (Ob.mk ⟨rfl, rfl⟩) ?_) | (with_reducible refine Or.inr ?_) | (refine And.intro (Ob.mk (flat_of rfl)) ?_) | (with_reducible refine And.intro (Ob.mk (Flat.map ?_)) ?_; exact fun _ => rfl) | (with_reducible first | exact Ob.mk (Flat.map fun _ => rfl) | refine And.intro ?_ ?_ | apply exG.mk | apply exGS.mk | exact Dd.nil) | (refine Dd.same _ ?_) | (refine Dd.dead _ ?_) | (with_reducible first | apply exQ.mk | apply exP.mk) | (refine EqP.mk rfl rfl) | (with_reducible apply exW.mk) | (refine EqW.mk rfl) | (with_reducible first | intro _ | refine Dn.mk ?_) | (refine exS.full (by first | rfl | (simp; done) | (simp; omega)) ?_) | (refine And.intro (Ob.mk ⟨rfl, rfl, by first | rfl | (simp; done) | (simp; omega)⟩) ?_) | (with_reducible refine exE.mapD ?_) | (refine exL.int ?_) | (with_reducible first | refine Up0.mk rfl ?_ | refine Up0i.mk rfl ?_ | refine Up1.mk rfl ?_ | refine Up1i.mk rfl ?_ | refine Up2.mk rfl ?_ | refine Up2i.mk rfl ?_) | (refine Col.mk rfl rfl rfl ?_) | (refine Coli.mk rfl rfl rfl rfl ?_) | (refine ICalls.frame [2] rfl (keep37k _ _ _ fun _ => ?_)))
                all_goals (try exact Ob.mk flatA_intsF)
                refine Ob.mk ⟨a, _, ha, hin, (hk.keep 0 8 (by omega)).to fun j hj => ?_, rfl⟩
                unfold keptF
                rw [hL, liveN_mem0 (by omega), or_assoc, or_assoc]
                refine or_congr Iff.rfl (or_congr Iff.rfl (or_congr Iff.rfl ?_))
                have := ltI_iff.1 h2
                omega
              · rename_i h1 h2
                have h1 : g.blocks.length ≤ b := by rw [ltI_not, List.length_map] at h1; omega
                have hbe : b = g.blocks.length := by omega
                subst hbe
                refine Ob.mk ⟨a, _, ha, hin, hk.to fun j hj => ?_, rfl⟩
                unfold keptF
                rw [hL, liveN_mem0 (by omega)]
                refine or_congr Iff.rfl (or_congr Iff.rfl ⟨.inl, fun h => h.elim id fun h => ?_⟩)
                have := ltI_not.1 h2
                omega
end Go.Proofs.YtgnafgebenlffaaDoor.Am

/- Frames: how they are laid, by the program. -/
namespace Go.Proofs.YtgnafgebenlffaaDoor.Am
open Go Go.Proofs
set_option maxRecDepth 10000
set_option maxHeartbeats 2000000
set_option linter.unusedVariables false
set_option linter.unusedSimpArgs false
noncomputable def theA (g : Graph) : Nat → Nat → Bool := Classical.epsilon fun a => Least g 8000 a ∧ Inside g a
theorem theA_spec {g : Graph} {a : Nat → Nat → Bool} (h : Least g 8000 a) (hi : Inside g a) : Least g 8000 (theA g) ∧ Inside g (theA g) := Classical.epsilon_spec (p := fun a => Least g 8000 a ∧ Inside g a) ⟨a, h, hi⟩
theorem theA_eq {g : Graph} {a : Nat → Nat → Bool} (h : Least g 8000 a) (hi : Inside g a) {b t : Nat} (hb : b < g.blocks.length) (ht : t < 8000) : a b t = theA g b t := Least.one h (theA_spec h hi).1 hb ht
structure Graph.okF (g : Graph) : Prop extends g.mayF where
  arrs : arrsF g.arrays = true
def argsF (g : Graph) : Int := g.params.length + 2 * parsF g.arrays
def slotsF (g : Graph) : Int := if 9 < g.temps then g.temps - 9 else 0
noncomputable def savedF (g : Graph) : List Int := liveN 9 fun t => tr (keptF g (wordsF g.arrays) (theA g 0) t)
noncomputable def wdF (g : Graph) : Int := argsF g + (savedF g).length + slotsF g + wordsF g.arrays
noncomputable abbrev layO (g : Graph) : T := .agg [.int .i64 (argsF g), .nst 3 1 ((savedF g).map fun n => .int .i64 n), .int .i64 (slotsF g), .int .i64 (wordsF g.arrays), .int .i64 (wdF g)]
abbrev layZ : T := .agg [.int .i64 0, .nsl, .int .i64 0, .int .i64 0, .int .i64 0]
theorem arrsF_of {l : List Arr} (h : arrsF l = true) : l.length ≤ 500 ∧ l.all arrF = true ∧ wordsF l ≤ 1000 ∧ parsF l ≤ 8 := by
  unfold arrsF at h
  simp only [Bool.and_eq_true, decide_eq_true_eq] at h
  exact ⟨h.1.1.1, h.1.1.2, h.1.2, h.2⟩
theorem parsF_nn {l : List Arr} : 0 ≤ parsF l := by unfold parsF; omega
theorem wordsF_nn {l : List Arr} (h : l.all arrF = true) : 0 ≤ wordsF l := by
  induction l with
  | nil => exact Int.le_refl _
  | cons a l ih =>
    rw [List.all_cons, Bool.and_eq_true] at h
    have := ih h.2
    unfold wordsF at this ⊢
    by_cases hk : a.kind = 2
    · have h1 := h.1
      simp [arrF, hk, wthn_iff] at h1
      simp [hk]
      omega
    · simp [hk]
      exact this
theorem kept20k (g : Graph) (hg : g.tiny) (hw : ∀ b ∈ g.blocks, ∀ x ∈ allN b.fin, I64 x) (hf : g.fits) {q : T → Prop} (h : ∀ f, Marks f (keptF g (wordsF g.arrays) (theA g 0)) → q (.arr (intsF 9 f))) : PCalls Tryd.prog 20 [g.t, .int .i64 (wordsF g.arrays)] q :=
  PCalls.mono (kept20 g hg hw hf (wordsF g.arrays)) fun r hr => by
    obtain ⟨a, f, ha, hi, hm, rfl⟩ := hr.out
    refine h f (hm.to fun j hj => ?_)
    unfold keptF
    rw [theA_eq ha hi (by have := hf.one; omega) (by omega)]
theorem liveN_congr {n : Nat} {f f' : Nat → Bool} (h : ∀ t, t < n → f t = f' t) : liveN n f = liveN n f' := by
  unfold liveN
  refine congrArg _ (List.filter_congr fun t ht => h t (List.mem_range.1 ht))
theorem mul4 {x : Int} (h0 : 0 ≤ x) (h1 : x ≤ 10000) : mulI .i64 4 x = 4 * x := by
  unfold mulI; simp only [IntKind.wrap, IntKind.bits, IntKind.signed]; simp; omega
theorem lay8 (g : Graph) (hg : g.tiny) (hw : ∀ b ∈ g.blocks, ∀ x ∈ allN b.fin, I64 x) : PCalls Tryd.prog 8 [g.t] (fun r => Ob ((¬ g.okF ∧ r = .own (.tup [layZ, .int .i64 1])) ∨ (g.okF ∧ r = .own (.tup [layO g, .int .i64 0])))) := by
  refine PCalls.of_bodyO ttOk Tryd.func8 rfl ?_
  repeat' ((conv => whnf); first | (with_reducible first | refine onBool_intro (fun _ => ?_) (fun _ => ?_) | refine And.intro (Ob.mk (Nat.le_of_ble_eq_true rfl)) ?_ | refine And.intro (Ob.mk rfl) ?_ | exact ⟨rfl, rfl⟩ | refine And.intro (Ob.mk (fun h => h)) ?_) | (with_reducible refine Or.inl (And.intro (Ob.mk (Flat.map ?_)) ?_); exact fun _ => rfl) | (refine Or.inl (And.intro (Ob.mk (flat_of rfl)) ?_)) | (refine Or.inl (And.intro (Ob.mk ⟨rfl, rfl, rfl, rfl⟩) ?_)) | (refine Or.inl (And.intro (Ob.mk ⟨rfl, rfl, rfl⟩) ?_)) | (refine And.intro (Ob.mk ⟨rfl, rfl⟩) ?_) | (with_reducible refine Or.inr ?_) | (refine And.intro (Ob.mk (flat_of rfl)) ?_) | (with_reducible refine And.intro (Ob.mk (Flat.map ?_)) ?_; exact fun _ => rfl) | (with_reducible first | exact Ob.mk (Flat.map fun _ => rfl) | refine And.intro ?_ ?_ | apply exG.mk | apply exGS.mk | exact Dd.nil) | (refine Dd.same _ ?_) | (refine Dd.dead _ ?_) | (with_reducible first | apply exQ.mk | apply exP.mk) | (refine EqP.mk rfl rfl) | (with_reducible apply exW.mk) | (refine EqW.mk rfl) | (with_reducible first | intro _ | refine Dn.mk ?_) | (refine exS.full (by first | rfl | (simp; done) | (simp; omega)) ?_) | (refine And.intro (Ob.mk ⟨rfl, rfl, by first | rfl | (simp; done) | (simp; omega)⟩) ?_) | (with_reducible refine exE.mapD ?_) | (refine exL.int ?_) | (with_reducible first | refine Up0.mk rfl ?_ | refine Up0i.mk rfl ?_ | refine Up1.mk rfl ?_ | refine Up1i.mk rfl ?_ | refine Up2.mk rfl ?_ | refine Up2i.mk rfl ?_) | (refine Col.mk rfl rfl rfl ?_) | (refine Coli.mk rfl rfl rfl rfl ?_) | (refine words18k _ ?_ (fun ha => ?_) (fun ha w p => ?_)) | (refine PCalls.mono (may19 g hg hw) ?_; rintro _ rfl) | (refine kept20k g hg hw ?_ fun f hf => ?_))
  all_goals (try (refine Ob.mk ?_; first | assumption | exact ⟨rfl, rfl⟩ | exact ⟨rfl, rfl, rfl⟩ | (refine ⟨rfl, rfl, ?_⟩; simp only [List.length_map, List.length_take, List.length_append, els_len, List.length_replicate]; omega) | (intro h; exact h) | (intro h; rw [h]; rfl) | (intro h; simp_all; done) | (refine bytes_le (n := 1048577) ?_ rfl; simp only [ltI_iff, ltI_not, leI_iff, leI_not, eqI_iff, eqI_not, List.length_map, bif_and, bif_or, Bool.and_eq_true, Bool.and_eq_false_iff, Bool.or_eq_true, Bool.or_eq_false_iff, Bool.not_eq_true', Bool.not_eq_false', Int.toNat_natCast, beq_iff_eq, beq_eq_false_iff_ne, decide_eq_true_eq, decide_eq_false_iff_not, bel_iff, bel_not, wthn_iff, wthn_not, els_len, mixL_len, Nat.zero_add, List.length_set, List.length_take] at *; omega) | (simp only [ltI_iff, ltI_not, leI_iff, leI_not, eqI_iff, eqI_not, List.length_map, bif_and, bif_or, Bool.and_eq_true, Bool.and_eq_false_iff, Bool.or_eq_true, Bool.or_eq_false_iff, Bool.not_eq_true', Bool.not_eq_false', Int.toNat_natCast, beq_iff_eq, beq_eq_false_iff_ne, decide_eq_true_eq, decide_eq_false_iff_not, bel_iff, bel_not, wthn_iff, wthn_not, els_len, mixL_len, Nat.zero_add, List.length_set, List.length_take, Int.ofNat_eq_natCast] at *; omega)))
  · exact Ob.mk hg.arrays
  · rename_i h1
    refine Ob.mk (.inl ⟨fun h => ?_, rfl⟩)
    rw [tr_t h.tomayF] at h1
    cases h1
  · rename_i h1 _
    by_cases hm : g.mayF
    · exact hm.fits
    · rw [tr_f hm] at h1
      cases h1
  · rename_i h1 _
    have hm : g.mayF := by
      by_cases hm : g.mayF
      · exact hm
      · rw [tr_f hm] at h1
        cases h1
    have hT := hm.fits.temps
    have h8 := hm.few
    obtain ⟨_, ha2, hw0, hp8⟩ := arrsF_of ha
    have hp0 := parsF_nn (l := g.arrays)
    have hw1 := wordsF_nn ha2
    have ea : addI .i64 ((g.params.map fun n => T.int .i64 n).length : Int) (mulI .i64 2 (parsF g.arrays)) = argsF g := by
      have : mulI .i64 2 (parsF g.arrays) = 2 * parsF g.arrays := by
        unfold mulI; simp only [IntKind.wrap, IntKind.bits, IntKind.signed]; simp; omega
      rw [this, List.length_map, addI_i64 (by omega) (by omega)]; rfl
    have es : maxI (subI .i64 g.temps 9) 0 = slotsF g := by
      rw [subI_i64 (by omega) (by omega)]
      unfold maxI slotsF
      split <;> split <;> omega
    conv => whnf
    rw [ea, es]
    refine LoopVC.mkA [40] [] [(2, 1, 3, 1)] [] (fun m vals σ => ∃ i : Nat, vals = [.t (.int .i64 i)] ∧ σ = [gvar g, .var 29 [.t (.int .i64 0), .t .nsl, .t (.int .i64 0), .t (.int .i64 0), .t (.int .i64 0)], .var 29 [.t (.int .i64 (argsF g)), .osl 3 0 (liveN i fun t => decide (f t ≠ 0)).length, .t (.int .i64 (slotsF g)), .t (.int .i64 (wordsF g.arrays)), .t (.int .i64 0)], .row 3 1 ((liveN i fun t => decide (f t ≠ 0)).map fun n => .int .i64 n)] ∧ i ≤ 9 ∧ m = 9 - i) ?_ ?_
    · repeat' ((conv => whnf); first | (with_reducible first | refine onBool_intro (fun _ => ?_) (fun _ => ?_) | refine And.intro (Ob.mk (Nat.le_of_ble_eq_true rfl)) ?_ | refine And.intro (Ob.mk rfl) ?_ | exact ⟨rfl, rfl⟩ | refine And.intro (Ob.mk (fun h => h)) ?_) | (with_reducible refine Or.inl (And.intro (Ob.mk (Flat.map ?_)) ?_); exact fun _ => rfl) | (refine Or.inl (And.intro (Ob.mk (flat_of rfl)) ?_)) | (refine Or.inl (And.intro (Ob.mk ⟨rfl, rfl, rfl, rfl⟩) ?_)) | (refine Or.inl (And.intro (Ob.mk ⟨rfl, rfl, rfl⟩) ?_)) | (refine And.intro (Ob.mk ⟨rfl, rfl⟩) ?_) | (with_reducible refine Or.inr ?_) | (refine And.intro (Ob.mk (flat_of rfl)) ?_) | (with_reducible refine And.intro (Ob.mk (Flat.map ?_)) ?_; exact fun _ => rfl) | (with_reducible first | exact Ob.mk (Flat.map fun _ => rfl) | refine And.intro ?_ ?_ | apply exG.mk | apply exGS.mk | exact Dd.nil) | (refine Dd.same _ ?_) | (refine Dd.dead _ ?_) | (with_reducible first | apply exQ.mk | apply exP.mk) | (refine EqP.mk rfl rfl) | (with_reducible apply exW.mk) | (refine EqW.mk rfl) | (with_reducible first | intro _ | refine Dn.mk ?_) | (refine exS.full (by first | rfl | (simp; done) | (simp; omega)) ?_) | (refine And.intro (Ob.mk ⟨rfl, rfl, by first | rfl | (simp; done) | (simp; omega)⟩) ?_) | (with_reducible refine exE.mapD ?_) | (refine exL.int ?_) | (with_reducible first | refine Up0.mk rfl ?_ | refine Up0i.mk rfl ?_ | refine Up1.mk rfl ?_ | refine Up1i.mk rfl ?_ | refine Up2.mk rfl ?_ | refine Up2i.mk rfl ?_) | (refine Col.mk rfl rfl rfl ?_) | (refine Coli.mk rfl rfl rfl rfl ?_))
      exact ⟨_, 0, rfl, rfl, by omega, rfl⟩
    · rintro m vals σ ⟨i, rfl, rfl, hi, rfl⟩
      have hl := liveN_len (n := i) (f := fun t => decide (f t ≠ 0))
      repeat' ((conv => whnf); first | (with_reducible first | refine onBool_intro (fun _ => ?_) (fun _ => ?_) | refine And.intro (Ob.mk (Nat.le_of_ble_eq_true rfl)) ?_ | refine And.intro (Ob.mk rfl) ?_ | exact ⟨rfl, rfl⟩ | refine And.intro (Ob.mk (fun h => h)) ?_) | (with_reducible refine Or.inl (And.intro (Ob.mk (Flat.map ?_)) ?_); exact fun _ => rfl) | (refine Or.inl (And.intro (Ob.mk (flat_of rfl)) ?_)) | (refine Or.inl (And.intro (Ob.mk ⟨rfl, rfl, rfl, rfl⟩) ?_)) | (refine Or.inl (And.intro (Ob.mk ⟨rfl, rfl, rfl⟩) ?_)) | (refine And.intro (Ob.mk ⟨rfl, rfl⟩) ?_) | (with_reducible refine Or.inr ?_) | (refine And.intro (Ob.mk (flat_of rfl)) ?_) | (with_reducible refine And.intro (Ob.mk (Flat.map ?_)) ?_; exact fun _ => rfl) | (with_reducible first | exact Ob.mk (Flat.map fun _ => rfl) | refine And.intro ?_ ?_ | apply exG.mk | apply exGS.mk | exact Dd.nil) | (refine Dd.same _ ?_) | (refine Dd.dead _ ?_) | (with_reducible first | apply exQ.mk | apply exP.mk) | (refine EqP.mk rfl rfl) | (with_reducible apply exW.mk) | (refine EqW.mk rfl) | (with_reducible first | intro _ | refine Dn.mk ?_) | (refine exS.full (by first | rfl | (simp; done) | (simp; omega)) ?_) | (refine And.intro (Ob.mk ⟨rfl, rfl, by first | rfl | (simp; done) | (simp; omega)⟩) ?_) | (with_reducible refine exE.mapD ?_) | (refine exL.int ?_) | (with_reducible first | refine Up0.mk rfl ?_ | refine Up0i.mk rfl ?_ | refine Up1.mk rfl ?_ | refine Up1i.mk rfl ?_ | refine Up2.mk rfl ?_ | refine Up2i.mk rfl ?_) | (refine Col.mk rfl rfl rfl ?_) | (refine Coli.mk rfl rfl rfl rfl ?_))
      all_goals (try (refine Ob.mk ?_; first | assumption | exact ⟨rfl, rfl⟩ | exact ⟨rfl, rfl, rfl⟩ | (refine ⟨rfl, rfl, ?_⟩; simp only [List.length_map, List.length_take, List.length_append, els_len, List.length_replicate]; omega) | (intro h; exact h) | (intro h; rw [h]; rfl) | (intro h; simp_all; done) | (refine bytes_le (n := 1048577) ?_ rfl; simp only [ltI_iff, ltI_not, leI_iff, leI_not, eqI_iff, eqI_not, List.length_map, bif_and, bif_or, Bool.and_eq_true, Bool.and_eq_false_iff, Bool.or_eq_true, Bool.or_eq_false_iff, Bool.not_eq_true', Bool.not_eq_false', Int.toNat_natCast, beq_iff_eq, beq_eq_false_iff_ne, decide_eq_true_eq, decide_eq_false_iff_not, bel_iff, bel_not, wthn_iff, wthn_not, els_len, mixL_len, Nat.zero_add, List.length_set, List.length_take] at *; omega) | (simp only [ltI_iff, ltI_not, leI_iff, leI_not, eqI_iff, eqI_not, List.length_map, bif_and, bif_or, Bool.and_eq_true, Bool.and_eq_false_iff, Bool.or_eq_true, Bool.or_eq_false_iff, Bool.not_eq_true', Bool.not_eq_false', Int.toNat_natCast, beq_iff_eq, beq_eq_false_iff_ne, decide_eq_true_eq, decide_eq_false_iff_not, bel_iff, bel_not, wthn_iff, wthn_not, els_len, mixL_len, Nat.zero_add, List.length_set, List.length_take, Int.ofNat_eq_natCast] at *; omega)))
      · rename_i h2 h3
        have h2 : i < 9 := by have := ltI_iff.1 h2; omega
        rw [Int.toNat_natCast, nthD_range h2, Bool.not_eq_true', eqI_not] at h3
        conv => whnf
        refine ⟨9 - (i + 1), by omega, i + 1, ?_, ?_, h2, rfl⟩
        · rw [addI_i64 (by omega) (by omega)]; rfl
        · rw [liveN_succ, if_pos (by simp [h3]), List.map_append, List.length_append]
          rfl
      · rename_i h2 h3
        have h2 : i < 9 := by have := ltI_iff.1 h2; omega
        rw [Int.toNat_natCast, nthD_range h2, Bool.not_eq_false', eqI_iff] at h3
        conv => whnf
        refine ⟨9 - (i + 1), by omega, i + 1, ?_, ?_, h2, rfl⟩
        · rw [addI_i64 (by omega) (by omega)]; rfl
        · rw [liveN_succ, if_neg (by simp [h3]), List.append_nil]; rfl
      · exact Ob.mk ⟨rfl, rfl, by simp⟩
      · exact Ob.mk clean_ints
      · rename_i h2 _
        have h2 : i = 9 := by have := ltI_not.1 h2; omega
        subst h2
        have hs : (liveN 9 fun t => decide (f t ≠ 0)) = savedF g := by
          unfold savedF
          refine liveN_congr fun t ht => ?_
          rw [Bool.eq_iff_iff, decide_eq_true_eq, tr_iff, hf.iff t ht]
        have hsl : slotsF g ≤ 8000 ∧ 0 ≤ slotsF g := by unfold slotsF; split <;> omega
        have hal : argsF g ≤ 24 ∧ 0 ≤ argsF g := by unfold argsF; omega
        refine Ob.mk (.inr ⟨⟨hm, ha⟩, ?_⟩)
        rw [hs] at hl ⊢
        rw [addI_i64 (x := argsF g) (by omega) (by omega), addI_i64 (x := argsF g + _) (by omega) (by omega), addI_i64 (x := argsF g + _ + _) (by omega) (by omega)]
        rfl
  · refine Ob.mk (.inl ⟨fun h => absurd (ha.symm.trans h.arrs) Bool.false_ne_true, rfl⟩)
noncomputable def wgtF (g : Graph) : Int := 4 * wdF g
theorem okF_rng {g : Graph} (h : g.okF) : 0 ≤ wdF g ∧ wdF g ≤ 10000 := by
  have h8 := h.few
  have hT := h.fits.temps
  obtain ⟨_, ha2, hw0, hp8⟩ := arrsF_of h.arrs
  have hp0 := parsF_nn (l := g.arrays)
  have hw1 := wordsF_nn ha2
  have hsl : slotsF g ≤ 8000 ∧ 0 ≤ slotsF g := by unfold slotsF; split <;> omega
  have hal : argsF g ≤ 24 ∧ 0 ≤ argsF g := by unfold argsF; omega
  have hl : (savedF g).length ≤ 9 := liveN_len
  unfold wdF
  omega
theorem lay8k (g : Graph) (hg : g.tiny) (hw : ∀ b ∈ g.blocks, ∀ x ∈ allN b.fin, I64 x) {q : T → Prop} (h1 : ¬ g.okF → ∀ e, e = 1 → q (.own (.tup [layZ, .int .i64 e]))) (h2 : g.okF → ∀ e, e = 0 → q (.own (.tup [layO g, .int .i64 e]))) : PCalls Tryd.prog 8 [g.t] q :=
  PCalls.mono (lay8 g hg hw) fun r h => by
    rcases h.out with ⟨h3, rfl⟩ | ⟨h3, rfl⟩
    · exact h1 h3 1 rfl
    · exact h2 h3 0 rfl
theorem weight10 (g : Graph) (hg : g.tiny) (hw : ∀ b ∈ g.blocks, ∀ x ∈ allN b.fin, I64 x) : PCalls Tryd.prog 10 [g.t] (fun r => Ob ((¬ g.okF ∧ r = .tup [.int .i64 0, .int .i64 1]) ∨ (g.okF ∧ r = .tup [.int .i64 (wgtF g), .int .i64 0]))) := by
  refine PCalls.of_body ttOk Tryd.func10 rfl ?_
  repeat' ((conv => whnf); first | (with_reducible first | refine onBool_intro (fun _ => ?_) (fun _ => ?_) | refine And.intro (Ob.mk (Nat.le_of_ble_eq_true rfl)) ?_ | refine And.intro (Ob.mk rfl) ?_ | exact ⟨rfl, rfl⟩ | refine And.intro (Ob.mk (fun h => h)) ?_) | (with_reducible refine Or.inl (And.intro (Ob.mk (Flat.map ?_)) ?_); exact fun _ => rfl) | (refine Or.inl (And.intro (Ob.mk (flat_of rfl)) ?_)) | (refine Or.inl (And.intro (Ob.mk ⟨rfl, rfl, rfl, rfl⟩) ?_)) | (refine Or.inl (And.intro (Ob.mk ⟨rfl, rfl, rfl⟩) ?_)) | (refine And.intro (Ob.mk ⟨rfl, rfl⟩) ?_) | (with_reducible refine Or.inr ?_) | (refine And.intro (Ob.mk (flat_of rfl)) ?_) | (with_reducible refine And.intro (Ob.mk (Flat.map ?_)) ?_; exact fun _ => rfl) | (with_reducible first | exact Ob.mk (Flat.map fun _ => rfl) | refine And.intro ?_ ?_ | apply exG.mk | apply exGS.mk | exact Dd.nil) | (refine Dd.same _ ?_) | (refine Dd.dead _ ?_) | (with_reducible first | apply exQ.mk | apply exP.mk) | (refine EqP.mk rfl rfl) | (with_reducible apply exW.mk) | (refine EqW.mk rfl) | (with_reducible first | intro _ | refine Dn.mk ?_) | (refine exS.full (by first | rfl | (simp; done) | (simp; omega)) ?_) | (refine And.intro (Ob.mk ⟨rfl, rfl, by first | rfl | (simp; done) | (simp; omega)⟩) ?_) | (with_reducible refine exE.mapD ?_) | (refine exL.int ?_) | (with_reducible first | refine Up0.mk rfl ?_ | refine Up0i.mk rfl ?_ | refine Up1.mk rfl ?_ | refine Up1i.mk rfl ?_ | refine Up2.mk rfl ?_ | refine Up2i.mk rfl ?_) | (refine Col.mk rfl rfl rfl ?_) | (refine Coli.mk rfl rfl rfl rfl ?_) | (refine lay8k g hg hw (fun h e he => ?_) (fun h e he => ?_)))
  all_goals (try (refine Ob.mk ?_; first | assumption | exact ⟨rfl, rfl⟩ | exact ⟨rfl, rfl, rfl⟩ | (refine ⟨rfl, rfl, ?_⟩; simp only [List.length_map, List.length_take, List.length_append, els_len, List.length_replicate]; omega) | (intro h; exact h) | (intro h; rw [h]; rfl) | (intro h; simp_all; done) | (refine bytes_le (n := 1048577) ?_ rfl; simp only [ltI_iff, ltI_not, leI_iff, leI_not, eqI_iff, eqI_not, List.length_map, bif_and, bif_or, Bool.and_eq_true, Bool.and_eq_false_iff, Bool.or_eq_true, Bool.or_eq_false_iff, Bool.not_eq_true', Bool.not_eq_false', Int.toNat_natCast, beq_iff_eq, beq_eq_false_iff_ne, decide_eq_true_eq, decide_eq_false_iff_not, bel_iff, bel_not, wthn_iff, wthn_not, els_len, mixL_len, Nat.zero_add, List.length_set, List.length_take] at *; omega) | (simp only [ltI_iff, ltI_not, leI_iff, leI_not, eqI_iff, eqI_not, List.length_map, bif_and, bif_or, Bool.and_eq_true, Bool.and_eq_false_iff, Bool.or_eq_true, Bool.or_eq_false_iff, Bool.not_eq_true', Bool.not_eq_false', Int.toNat_natCast, beq_iff_eq, beq_eq_false_iff_ne, decide_eq_true_eq, decide_eq_false_iff_not, bel_iff, bel_not, wthn_iff, wthn_not, els_len, mixL_len, Nat.zero_add, List.length_set, List.length_take, Int.ofNat_eq_natCast] at *; omega)))
  · subst he
    rw [mul4 (by omega) (by omega)]
    exact Ob.mk (.inl ⟨h, rfl⟩)
  · subst he
    have := okF_rng h
    rw [mul4 this.1 this.2]
    exact Ob.mk (.inr ⟨h, rfl⟩)
end Go.Proofs.YtgnafgebenlffaaDoor.Am

/- Frames: how they are laid, by the document's answer. -/
namespace Go.Proofs.YtgnafgebenlffaaDoor.Am
open Go Go.Proofs
set_option maxRecDepth 10000
set_option maxHeartbeats 2000000
set_option linter.unusedVariables false
set_option linter.unusedSimpArgs false
theorem stepC_out {n : Nat} {t : Nat} (ht : n ≤ t) {f : Nat → Bool} (hf : f t = false) : ∀ {l : List Ins}, (∀ x ∈ l, ∀ u ∈ usesN x, u < (n : Int)) → stepC l f t = false
  | [], _ => hf
  | x :: l, h => by
    rw [stepC_cons]
    unfold backF
    rw [stepC_out ht hf fun y hy => h y (by simp [hy])]
    have : (usesN x).contains (t : Int) = false := by
      rw [Bool.eq_false_iff]
      intro hc
      have := h x (by simp) _ (List.contains_iff_mem.1 hc)
      omega
    rw [this]
    simp
theorem Least.ext {g : Graph} (hg : g.tiny) (hf : g.fits) {a : Nat → Nat → Bool} (h : Least g g.temps.toNat a) : Least g 8000 (fun b t => decide (t < g.temps.toNat) && a b t) ∧ Inside g (fun b t => decide (t < g.temps.toNat) && a b t) := by
  have hF := fits_fit hg hf
  have hT := hf.temps
  have l1 : LeB g.blocks.length g.temps.toNat a (fun b t => decide (t < g.temps.toNat) && a b t) := fun b hb t ht h => by simp [ht, h]
  have l2 : LeB g.blocks.length g.temps.toNat (fun b t => decide (t < g.temps.toNat) && a b t) a := fun b hb t ht h => by simpa [ht] using h
  have hout : ∀ b, b < g.blocks.length → ∀ t, g.temps.toNat ≤ t → stepF g (fun b t => decide (t < g.temps.toNat) && a b t) b t = false := by
    intro b hb t ht
    unfold stepF
    refine stepC_out (n := g.temps.toNat) ht ?_ fun x hx u hu => ?_
    · unfold endF
      have h1 : (eUsesN (nthD g.blocks b).fin).contains (t : Int) = false := by
        rw [Bool.eq_false_iff]
        intro hc
        have := hF.ends _ (nthD_mem hb) _ (List.contains_iff_mem.1 hc)
        omega
      have h2 : ((nextN g b).any fun s => decide (t < g.temps.toNat) && a s.toNat t) = false := by
        rw [List.any_eq_false]
        intro s hs
        simp
        omega
      rw [h1, h2]; rfl
    · have := hF.uses _ (nthD_mem hb) _ hx _ hu
      omega
  refine ⟨⟨⟨fun b hb t ht h1 => ?_, fun p hp b hb t ht h1 => ?_⟩, fun b hb t ht h1 => ?_⟩, fun b hb t ht h1 => ?_⟩
  · have h2 : t < g.temps.toNat := by simp at h1; omega
    exact stepF_mono hF.next l1 hb h2 (h.up b hb t h2 (l2 b hb t h2 h1))
  · have h2 : t < g.temps.toNat := by simp at h1; omega
    exact h.least p (fun b hb t ht h => hp b hb t (by omega) h) b hb t h2 (l2 b hb t h2 h1)
  · rcases Nat.lt_or_ge t g.temps.toNat with h2 | h2
    · exact l1 b hb t h2 (h.down b hb t h2 (stepF_mono hF.next l2 hb h2 h1))
    · rw [hout b hb t h2] at h1
      cases h1
  · simp at h1
    omega
def MarksB (p : Nat → Bool) (K : Nat → Prop) : Prop := ∀ j, j < 9 → (p j = true ↔ K j)
theorem MarksB.set {p : Nat → Bool} {K : Nat → Prop} (h : MarksB p K) (t : Nat) : MarksB (fun j => if j = t then true else p j) fun j => K j ∨ j = t := fun j hj => by
  by_cases e : j = t
  · simp [e]
  · simp [e, h j hj]
theorem MarksB.to {p : Nat → Bool} {K K' : Nat → Prop} (h : MarksB p K) (e : ∀ j, j < 9 → (K j ↔ K' j)) : MarksB p K' := fun j hj => (h j hj).trans (e j hj)
end Go.Proofs.YtgnafgebenlffaaDoor.Am

/- Are two graphs the same? (By the functions of the laws of layer 10.) -/
namespace Go.Proofs.YtgnafgebenlffaaDoor.Am
open Go Go.Proofs
set_option maxRecDepth 10000
set_option maxHeartbeats 2000000
set_option linter.unusedVariables false
set_option linter.unusedSimpArgs false
theorem take_succ_eq {α : Type} [Inhabited α] {a b : List α} {i : Nat} (ha : i < a.length) (hb : i < b.length) (h : a.take i = b.take i) (h1 : nthD a i = nthD b i) : a.take (i + 1) = b.take (i + 1) := by
  rw [take_succ_nthD ha, take_succ_nthD hb, h, h1]
theorem eq_of_take {α : Type} {a b : List α} {i : Nat} (ha : a.length ≤ i) (hl : a.length = b.length) (h : a.take i = b.take i) : a = b := by
  rwa [List.take_of_length_le ha, List.take_of_length_le (by omega)] at h
theorem sameInts (a b : List Int) : PCalls Tryd.prog 25 [ilist a, ilist b] (fun r => r = .bool (a == b)) := by
  refine PCalls.of_body ttOk Tryd.func25 rfl ?_
  repeat' ((conv => whnf); first | (with_reducible first | refine onBool_intro (fun _ => ?_) (fun _ => ?_) | refine And.intro (Ob.mk (Nat.le_of_ble_eq_true rfl)) ?_ | refine And.intro (Ob.mk rfl) ?_ | exact ⟨rfl, rfl⟩ | refine And.intro (Ob.mk (fun h => h)) ?_) | (with_reducible refine Or.inl (And.intro (Ob.mk (Flat.map ?_)) ?_); exact fun _ => rfl) | (refine Or.inl (And.intro (Ob.mk (flat_of rfl)) ?_)) | (refine Or.inl (And.intro (Ob.mk ⟨rfl, rfl, rfl, rfl⟩) ?_)) | (refine Or.inl (And.intro (Ob.mk ⟨rfl, rfl, rfl⟩) ?_)) | (refine And.intro (Ob.mk ⟨rfl, rfl⟩) ?_) | (with_reducible refine Or.inr ?_) | (refine And.intro (Ob.mk (flat_of rfl)) ?_) | (with_reducible refine And.intro (Ob.mk (Flat.map ?_)) ?_; exact fun _ => rfl) | (with_reducible first | exact Ob.mk (Flat.map fun _ => rfl) | refine And.intro ?_ ?_ | apply exG.mk | apply exGS.mk | exact Dd.nil) | (refine Dd.same _ ?_) | (refine Dd.dead _ ?_) | (with_reducible first | apply exQ.mk | apply exP.mk) | (refine EqP.mk rfl rfl) | (with_reducible apply exW.mk) | (refine EqW.mk rfl) | (with_reducible first | intro _ | refine Dn.mk ?_) | (refine exS.full (by first | rfl | (simp; done) | (simp; omega)) ?_) | (refine And.intro (Ob.mk ⟨rfl, rfl, by first | rfl | (simp; done) | (simp; omega)⟩) ?_) | (with_reducible refine exE.mapD ?_) | (refine exL.int ?_) | (with_reducible first | refine Up0.mk rfl ?_ | refine Up0i.mk rfl ?_ | refine Up1.mk rfl ?_ | refine Up1i.mk rfl ?_ | refine Up2.mk rfl ?_ | refine Up2i.mk rfl ?_) | (refine Col.mk rfl rfl rfl ?_) | (refine Coli.mk rfl rfl rfl rfl ?_))
  · rename_i h
    simp only [ltI_iff, ltI_not, leI_iff, leI_not, eqI_iff, eqI_not, List.length_map, bif_and, bif_or, Bool.and_eq_true, Bool.and_eq_false_iff, Bool.or_eq_true, Bool.or_eq_false_iff, Bool.not_eq_true', Bool.not_eq_false', Int.toNat_natCast, beq_iff_eq, beq_eq_false_iff_ne, decide_eq_true_eq, decide_eq_false_iff_not] at *
    show T.bool false = T.bool (a == b)
    rw [Eq.comm (a := T.bool false), T.bool.injEq, beq_eq_false_iff_ne]
    rintro rfl
    exact h rfl
  · conv => whnf
    rename_i h
    simp only [ltI_iff, ltI_not, leI_iff, leI_not, eqI_iff, eqI_not, List.length_map, bif_and, bif_or, Bool.and_eq_true, Bool.and_eq_false_iff, Bool.or_eq_true, Bool.or_eq_false_iff, Bool.not_eq_true', Bool.not_eq_false', Int.toNat_natCast, beq_iff_eq, beq_eq_false_iff_ne, decide_eq_true_eq, decide_eq_false_iff_not] at *
    have hl : a.length = b.length := by omega
    refine LoopVC.up0 5 a.length (fun i => a.take i = b.take i) ?_ ?_
    · repeat' ((conv => whnf); first | (with_reducible first | refine onBool_intro (fun _ => ?_) (fun _ => ?_) | refine And.intro (Ob.mk (Nat.le_of_ble_eq_true rfl)) ?_ | refine And.intro (Ob.mk rfl) ?_ | exact ⟨rfl, rfl⟩ | refine And.intro (Ob.mk (fun h => h)) ?_) | (with_reducible refine Or.inl (And.intro (Ob.mk (Flat.map ?_)) ?_); exact fun _ => rfl) | (refine Or.inl (And.intro (Ob.mk (flat_of rfl)) ?_)) | (refine Or.inl (And.intro (Ob.mk ⟨rfl, rfl, rfl, rfl⟩) ?_)) | (refine Or.inl (And.intro (Ob.mk ⟨rfl, rfl, rfl⟩) ?_)) | (refine And.intro (Ob.mk ⟨rfl, rfl⟩) ?_) | (with_reducible refine Or.inr ?_) | (refine And.intro (Ob.mk (flat_of rfl)) ?_) | (with_reducible refine And.intro (Ob.mk (Flat.map ?_)) ?_; exact fun _ => rfl) | (with_reducible first | exact Ob.mk (Flat.map fun _ => rfl) | refine And.intro ?_ ?_ | apply exG.mk | apply exGS.mk | exact Dd.nil) | (refine Dd.same _ ?_) | (refine Dd.dead _ ?_) | (with_reducible first | apply exQ.mk | apply exP.mk) | (refine EqP.mk rfl rfl) | (with_reducible apply exW.mk) | (refine EqW.mk rfl) | (with_reducible first | intro _ | refine Dn.mk ?_) | (refine exS.full (by first | rfl | (simp; done) | (simp; omega)) ?_) | (refine And.intro (Ob.mk ⟨rfl, rfl, by first | rfl | (simp; done) | (simp; omega)⟩) ?_) | (with_reducible refine exE.mapD ?_) | (refine exL.int ?_) | (with_reducible first | refine Up0.mk rfl ?_ | refine Up0i.mk rfl ?_ | refine Up1.mk rfl ?_ | refine Up1i.mk rfl ?_ | refine Up2.mk rfl ?_ | refine Up2i.mk rfl ?_) | (refine Col.mk rfl rfl rfl ?_) | (refine Coli.mk rfl rfl rfl rfl ?_))
      exact Ob.mk rfl
    · intro i hi he
      repeat' ((conv => whnf); first | (with_reducible first | refine onBool_intro (fun _ => ?_) (fun _ => ?_) | refine And.intro (Ob.mk (Nat.le_of_ble_eq_true rfl)) ?_ | refine And.intro (Ob.mk rfl) ?_ | exact ⟨rfl, rfl⟩ | refine And.intro (Ob.mk (fun h => h)) ?_) | (with_reducible refine Or.inl (And.intro (Ob.mk (Flat.map ?_)) ?_); exact fun _ => rfl) | (refine Or.inl (And.intro (Ob.mk (flat_of rfl)) ?_)) | (refine Or.inl (And.intro (Ob.mk ⟨rfl, rfl, rfl, rfl⟩) ?_)) | (refine Or.inl (And.intro (Ob.mk ⟨rfl, rfl, rfl⟩) ?_)) | (refine And.intro (Ob.mk ⟨rfl, rfl⟩) ?_) | (with_reducible refine Or.inr ?_) | (refine And.intro (Ob.mk (flat_of rfl)) ?_) | (with_reducible refine And.intro (Ob.mk (Flat.map ?_)) ?_; exact fun _ => rfl) | (with_reducible first | exact Ob.mk (Flat.map fun _ => rfl) | refine And.intro ?_ ?_ | apply exG.mk | apply exGS.mk | exact Dd.nil) | (refine Dd.same _ ?_) | (refine Dd.dead _ ?_) | (with_reducible first | apply exQ.mk | apply exP.mk) | (refine EqP.mk rfl rfl) | (with_reducible apply exW.mk) | (refine EqW.mk rfl) | (with_reducible first | intro _ | refine Dn.mk ?_) | (refine exS.full (by first | rfl | (simp; done) | (simp; omega)) ?_) | (refine And.intro (Ob.mk ⟨rfl, rfl, by first | rfl | (simp; done) | (simp; omega)⟩) ?_) | (with_reducible refine exE.mapD ?_) | (refine exL.int ?_) | (with_reducible first | refine Up0.mk rfl ?_ | refine Up0i.mk rfl ?_ | refine Up1.mk rfl ?_ | refine Up1i.mk rfl ?_ | refine Up2.mk rfl ?_ | refine Up2i.mk rfl ?_) | (refine Col.mk rfl rfl rfl ?_) | (refine Coli.mk rfl rfl rfl rfl ?_) | (refine drawVC.all _ _ (by kernel_rfl) ?_))
      all_goals (try (refine Ob.mk ?_; first | assumption | exact ⟨rfl, rfl⟩ | exact ⟨rfl, rfl, rfl⟩ | (refine ⟨rfl, rfl, ?_⟩; simp only [List.length_map, List.length_take, List.length_append, els_len, List.length_replicate]; omega) | (intro h; exact h) | (intro h; rw [h]; rfl) | (intro h; simp_all; done) | (refine bytes_le (n := 1048577) ?_ rfl; simp only [ltI_iff, ltI_not, leI_iff, leI_not, eqI_iff, eqI_not, List.length_map, bif_and, bif_or, Bool.and_eq_true, Bool.and_eq_false_iff, Bool.or_eq_true, Bool.or_eq_false_iff, Bool.not_eq_true', Bool.not_eq_false', Int.toNat_natCast, beq_iff_eq, beq_eq_false_iff_ne, decide_eq_true_eq, decide_eq_false_iff_not, bel_iff, bel_not, wthn_iff, wthn_not, els_len, mixL_len, Nat.zero_add, List.length_set, List.length_take] at *; omega) | (simp only [ltI_iff, ltI_not, leI_iff, leI_not, eqI_iff, eqI_not, List.length_map, bif_and, bif_or, Bool.and_eq_true, Bool.and_eq_false_iff, Bool.or_eq_true, Bool.or_eq_false_iff, Bool.not_eq_true', Bool.not_eq_false', Int.toNat_natCast, beq_iff_eq, beq_eq_false_iff_ne, decide_eq_true_eq, decide_eq_false_iff_not, bel_iff, bel_not, wthn_iff, wthn_not, els_len, mixL_len, Nat.zero_add, List.length_set, List.length_take, Int.ofNat_eq_natCast] at *; omega)))
      · rename_i h1 h2
        simp only [ltI_iff, ltI_not, leI_iff, leI_not, eqI_iff, eqI_not, List.length_map, bif_and, bif_or, Bool.and_eq_true, Bool.and_eq_false_iff, Bool.or_eq_true, Bool.or_eq_false_iff, Bool.not_eq_true', Bool.not_eq_false', Int.toNat_natCast, beq_iff_eq, beq_eq_false_iff_ne, decide_eq_true_eq, decide_eq_false_iff_not] at *
        show T.bool false = T.bool (a == b)
        rw [Eq.comm (a := T.bool false), T.bool.injEq, beq_eq_false_iff_ne]
        rintro rfl
        exact h2 rfl
      · rename_i h1 h2
        simp only [ltI_iff, ltI_not, leI_iff, leI_not, eqI_iff, eqI_not, List.length_map, bif_and, bif_or, Bool.and_eq_true, Bool.and_eq_false_iff, Bool.or_eq_true, Bool.or_eq_false_iff, Bool.not_eq_true', Bool.not_eq_false', Int.toNat_natCast, beq_iff_eq, beq_eq_false_iff_ne, decide_eq_true_eq, decide_eq_false_iff_not] at *
        exact Ob.mk ⟨by omega, addI_i64 (by omega) (by omega), take_succ_eq (by omega) (by omega) he h2⟩
      · rename_i h1
        simp only [ltI_iff, ltI_not, leI_iff, leI_not, eqI_iff, eqI_not, List.length_map, bif_and, bif_or, Bool.and_eq_true, Bool.and_eq_false_iff, Bool.or_eq_true, Bool.or_eq_false_iff, Bool.not_eq_true', Bool.not_eq_false', Int.toNat_natCast, beq_iff_eq, beq_eq_false_iff_ne, decide_eq_true_eq, decide_eq_false_iff_not] at *
        show T.bool true = T.bool (a == b)
        rw [Eq.comm (a := T.bool true), T.bool.injEq, beq_iff_eq]
        exact eq_of_take (by omega) hl he
end Go.Proofs.YtgnafgebenlffaaDoor.Am

/- Frames: the laws' own functions. -/
namespace Go.Proofs.YtgnafgebenlffaaDoor.Am
open Go Go.Proofs
set_option maxRecDepth 10000
set_option maxHeartbeats 2000000
set_option linter.unusedVariables false
set_option linter.unusedSimpArgs false
structure Lay where
  args : Int
  saved : List Int
  slots : Int
  arrays : Int
  words : Int
  deriving DecidableEq
def Lay.t (l : Lay) : T := .agg [.int .i64 l.args, ilist l.saved, .int .i64 l.slots, .int .i64 l.arrays, .int .i64 l.words]
noncomputable def layN (g : Graph) : Lay := ⟨argsF g, savedF g, slotsF g, wordsF g.arrays, wdF g⟩
theorem same13 (a b : Lay) : PCalls Tryd.prog 13 [a.t, b.t] (fun r => r = .bool (decide (a = b))) := by
  refine PCalls.of_body ttOk Tryd.func13 rfl ?_
  repeat' ((conv => whnf); first | (with_reducible first | refine onBool_intro (fun _ => ?_) (fun _ => ?_) | refine And.intro (Ob.mk (Nat.le_of_ble_eq_true rfl)) ?_ | refine And.intro (Ob.mk rfl) ?_ | exact ⟨rfl, rfl⟩ | refine And.intro (Ob.mk (fun h => h)) ?_) | (with_reducible refine Or.inl (And.intro (Ob.mk (Flat.map ?_)) ?_); exact fun _ => rfl) | (refine Or.inl (And.intro (Ob.mk (flat_of rfl)) ?_)) | (refine Or.inl (And.intro (Ob.mk ⟨rfl, rfl, rfl, rfl⟩) ?_)) | (refine Or.inl (And.intro (Ob.mk ⟨rfl, rfl, rfl⟩) ?_)) | (refine And.intro (Ob.mk ⟨rfl, rfl⟩) ?_) | (with_reducible refine Or.inr ?_) | (refine And.intro (Ob.mk (flat_of rfl)) ?_) | (with_reducible refine And.intro (Ob.mk (Flat.map ?_)) ?_; exact fun _ => rfl) | (with_reducible first | exact Ob.mk (Flat.map fun _ => rfl) | refine And.intro ?_ ?_ | apply exG.mk | apply exGS.mk | exact Dd.nil) | (refine Dd.same _ ?_) | (refine Dd.dead _ ?_) | (with_reducible first | apply exQ.mk | apply exP.mk) | (refine EqP.mk rfl rfl) | (with_reducible apply exW.mk) | (refine EqW.mk rfl) | (with_reducible first | intro _ | refine Dn.mk ?_) | (refine exS.full (by first | rfl | (simp; done) | (simp; omega)) ?_) | (refine And.intro (Ob.mk ⟨rfl, rfl, by first | rfl | (simp; done) | (simp; omega)⟩) ?_) | (with_reducible refine exE.mapD ?_) | (refine exL.int ?_) | (with_reducible first | refine Up0.mk rfl ?_ | refine Up0i.mk rfl ?_ | refine Up1.mk rfl ?_ | refine Up1i.mk rfl ?_ | refine Up2.mk rfl ?_ | refine Up2i.mk rfl ?_) | (refine Col.mk rfl rfl rfl ?_) | (refine Coli.mk rfl rfl rfl rfl ?_) | (refine PCalls.mono (sameInts _ _) ?_; rintro _ rfl))
  all_goals (try (refine Ob.mk ?_; first | assumption | exact ⟨rfl, rfl⟩ | exact ⟨rfl, rfl, rfl⟩ | (refine ⟨rfl, rfl, ?_⟩; simp only [List.length_map, List.length_take, List.length_append, els_len, List.length_replicate]; omega) | (intro h; exact h) | (intro h; rw [h]; rfl) | (intro h; simp_all; done) | (refine bytes_le (n := 1048577) ?_ rfl; simp only [ltI_iff, ltI_not, leI_iff, leI_not, eqI_iff, eqI_not, List.length_map, bif_and, bif_or, Bool.and_eq_true, Bool.and_eq_false_iff, Bool.or_eq_true, Bool.or_eq_false_iff, Bool.not_eq_true', Bool.not_eq_false', Int.toNat_natCast, beq_iff_eq, beq_eq_false_iff_ne, decide_eq_true_eq, decide_eq_false_iff_not, bel_iff, bel_not, wthn_iff, wthn_not, els_len, mixL_len, Nat.zero_add, List.length_set, List.length_take] at *; omega) | (simp only [ltI_iff, ltI_not, leI_iff, leI_not, eqI_iff, eqI_not, List.length_map, bif_and, bif_or, Bool.and_eq_true, Bool.and_eq_false_iff, Bool.or_eq_true, Bool.or_eq_false_iff, Bool.not_eq_true', Bool.not_eq_false', Int.toNat_natCast, beq_iff_eq, beq_eq_false_iff_ne, decide_eq_true_eq, decide_eq_false_iff_not, bel_iff, bel_not, wthn_iff, wthn_not, els_len, mixL_len, Nat.zero_add, List.length_set, List.length_take, Int.ofNat_eq_natCast] at *; omega)))
  all_goals
    refine congrArg T.bool (?_ : _ = decide (a = b))
    rw [Bool.eq_iff_iff]
    cases a
    cases b
    simp only [bif_and, Bool.and_eq_true, eqI_iff, decide_eq_true_eq, beq_iff_eq, Lay.mk.injEq]
    grind
theorem same13j (a b : Lay) {x y : T} (hx : Ob (Le x a.t)) (hy : Ob (Le y b.t)) {q : T → Prop} (hq : q (.bool (decide (a = b)))) : PCalls Tryd.prog 13 [x, y] q :=
  PCalls.argsL (.cons hx.out (.cons hy.out .nil)) (PCalls.mono (same13 a b) fun _ h => h ▸ hq)
def frG : Graph := ⟨[2, 0], 12, [⟨3, 0⟩, ⟨2, 5⟩], [⟨[⟨1, 1, 0, 0, 0, 0, [], []⟩, ⟨2, 11, 4, 0, 0, 0, [], []⟩], ⟨5, 0, -1, 0, 0, 0, 0, [], []⟩⟩]⟩
abbrev frB : Block := ⟨[⟨1, 1, 0, 0, 0, 0, [], []⟩, ⟨2, 11, 4, 0, 0, 0, [], []⟩], ⟨5, 0, -1, 0, 0, 0, 0, [], []⟩⟩
theorem fr_one {b : Block} (h : b ∈ frG.blocks) : b = frB := by simpa [frG] using h
theorem fr_tiny : frG.tiny := by
  refine ⟨by simp [frG], by simp [frG], by simp [frG], fun b hb => ?_⟩
  rw [fr_one hb]
  exact ⟨by simp, by simp, by simp, Nat.zero_le _, Nat.zero_le _⟩
theorem fr_next {b : Int} : nextN frG b = [] := by
  unfold nextN
  split
  · have : (nthD frG.blocks b.toNat).fin = frB.fin ∨ (nthD frG.blocks b.toNat).fin = default := by
      rcases nthD_cases frG.blocks b.toNat with h | h
      · left; rw [fr_one h]
      · right; rw [h]; rfl
    rcases this with h | h
    · rw [h]; exact srt_nil
    · rw [h]; exact srt_nil
  · rfl
theorem fr_wide : ∀ b ∈ frG.blocks, ∀ x ∈ allN b.fin, I64 x := by
  intro b hb x hx
  rw [fr_one hb] at hx
  exact nomatch hx
theorem fr_fits : frG.fits := by
  refine ⟨⟨by simp [frG], by simp [frG], fun b hb s hs => ?_⟩, ⟨by decide, by decide⟩, fun b hb x hx => ?_, fun b hb => ?_⟩
  · rw [fr_next] at hs; exact nomatch hs
  · rw [fr_one hb] at hx
    simp only [List.mem_cons, List.not_mem_nil, or_false] at hx
    rcases hx with rfl | rfl <;> simp [insOk, usesN, kindN, frG, bel_iff]
  · rw [fr_one hb]
    simp [endOk, eUsesN]
theorem fr_okF : frG.okF := by
  refine ⟨⟨fr_fits, by simp [frG], fun t ht => ?_, by simp [frG]⟩, ?_⟩
  · simp [frG] at ht ⊢
    omega
  · simp [arrsF, frG, arrF, wordsF, parsF, wthn]
theorem fr_step {a : Nat → Nat → Bool} {t : Nat} : stepF frG a 0 t = (t == 4) := by
  have eb : nthD frG.blocks 0 = frB := nthD_get (l := frG.blocks) (i := 0) (by simp [frG])
  have es : stepF frG a 0 t = backF ⟨1, 1, 0, 0, 0, 0, [], []⟩ (backF ⟨2, 11, 4, 0, 0, 0, [], []⟩ (endF frG a 0)) t := by
    unfold stepF
    rw [eb]
    rfl
  rw [es]
  unfold backF endF
  rw [fr_next, eb]
  have e1 : usesN ⟨1, 1, 0, 0, 0, 0, [], []⟩ = [] := by simp [usesN, kindN]
  have e2 : setsN ⟨1, 1, 0, 0, 0, 0, [], []⟩ = 1 := by simp [setsN, kindN]
  have e3 : usesN ⟨2, 11, 4, 0, 0, 0, [], []⟩ = [4] := by simp [usesN, kindN]
  have e4 : setsN ⟨2, 11, 4, 0, 0, 0, [], []⟩ = 11 := by simp [setsN, kindN]
  have e5 : eUsesN frB.fin = [] := by simp [eUsesN]
  rw [e1, e2, e3, e4, e5, Bool.eq_iff_iff]
  simp
  omega
theorem fr_least : Least frG 8000 (fun _ t => t == 4) ∧ Inside frG fun _ t => t == 4 := by
  have hl : frG.blocks.length = 1 := rfl
  refine ⟨⟨⟨fun b hb t ht h => ?_, fun p hp b hb t ht h => ?_⟩, fun b hb t ht h => ?_⟩, fun b hb t ht h => ?_⟩
  · obtain rfl : b = 0 := by omega
    rw [fr_step]; exact h
  · obtain rfl : b = 0 := by omega
    exact hp 0 hb t ht (by rw [fr_step]; exact h)
  · obtain rfl : b = 0 := by omega
    rw [fr_step] at h; exact h
  · have : t = 4 := by simpa using h
    subst this
    decide
theorem fr_lay : layN frG = ⟨4, [0, 1, 2, 4], 3, 5, 16⟩ := by
  have hs : savedF frG = [0, 1, 2, 4] := by
    have : savedF frG = liveN 9 fun t => t == 0 || t == 1 || t == 2 || t == 4 := by
      unfold savedF
      refine liveN_congr fun t ht => ?_
      rw [Bool.eq_iff_iff, tr_iff]
      unfold keptF
      rw [← theA_eq fr_least.1 fr_least.2 (by decide) (by omega)]
      have e1 : setsB frG.blocks frG.blocks.length t ↔ t = 1 ∨ t = 11 := by
        unfold setsB
        rw [List.take_length]
        constructor
        · rintro ⟨b, hb, y, hy, e⟩
          rw [fr_one hb] at hy
          simp only [List.mem_cons, List.not_mem_nil, or_false] at hy
          rcases hy with rfl | rfl
          · simp [setsN, kindN] at e; omega
          · simp [setsN, kindN] at e; omega
        · rintro (rfl | rfl)
          · exact ⟨frB, by simp [frG], ⟨1, 1, 0, 0, 0, 0, [], []⟩, by simp, by simp [setsN, kindN]⟩
          · exact ⟨frB, by simp [frG], ⟨2, 11, 4, 0, 0, 0, [], []⟩, by simp, by simp [setsN, kindN]⟩
      have e2 : (t : Int) ∈ frG.params ↔ t = 2 ∨ t = 0 := by simp [frG]; omega
      have e3 : wordsF frG.arrays = 5 := by simp [wordsF, frG]
      rw [e1, e2, e3]
      simp
      omega
    rw [this]
    decide
  unfold layN wdF argsF slotsF
  rw [hs]
  simp [frG, parsF, wordsF]
abbrev frGT : T := .agg [.sl 1 [.int .i64 2, .int .i64 0], .int .i64 12, .sl 2 [.agg [.int .i64 3, .int .i64 0], .agg [.int .i64 2, .int .i64 5]], .sl 10 [.agg [.nst 57 8 [.agg [.int .i64 1, .int .i64 1, .int .i64 0, .int .i64 0, .int .i64 0, .int .u32 0, .nsl, .nsl], .agg [.int .i64 2, .int .i64 11, .int .i64 4, .int .i64 0, .int .i64 0, .int .u32 0, .nsl, .nsl]], .int .i64 5, .int .i64 0, .int .i64 (-1), .int .i64 0, .int .u32 0, .int .i64 0, .int .i64 0, .nsl, .nsl]]]
theorem frLe : LeL [frGT] [frG.t] := by
  refine .cons (Le.aggL (.cons (.refl _) (.cons (.refl _) (.cons (.refl _) (.cons ?_ .nil))))) .nil
  refine Le.slmap (l := [()]) (f := fun _ => T.agg [.nst 57 8 [.agg [.int .i64 1, .int .i64 1, .int .i64 0, .int .i64 0, .int .i64 0, .int .u32 0, .nsl, .nsl], .agg [.int .i64 2, .int .i64 11, .int .i64 4, .int .i64 0, .int .i64 0, .int .u32 0, .nsl, .nsl]], .int .i64 5, .int .i64 0, .int .i64 (-1), .int .i64 0, .int .u32 0, .int .i64 0, .int .i64 0, .nsl, .nsl]) (g := fun _ => frB.t) (fun _ => ?_) (fun _ => rfl)
  refine .cons (.nst _ _ _ _ ?_) (.cons (.refl _) (.cons (.refl _) (.cons (.refl _) (.cons (.refl _) (.cons (.refl _) (.cons (.refl _) (.cons (.refl _) (.cons (.nsl 2) (.cons (.nsl 1) .nil)))))))))
  exact Le.slmap (l := [(⟨1, 1, 0, 0, 0, 0, [], []⟩ : Ins), ⟨2, 11, 4, 0, 0, 0, [], []⟩]) (f := fun x : Ins => T.agg [.int .i64 x.op, .int .i64 x.d, .int .i64 x.a, .int .i64 x.b, .int .i64 x.f, .int .u32 x.n, .nsl, .nsl]) (g := fun x : Ins => T.agg [.int .i64 x.op, .int .i64 x.d, .int .i64 x.a, .int .i64 x.b, .int .i64 x.f, .int .u32 x.n, .sl 1 [], .sl 1 []]) (fun _ => .cons (.refl _) (.cons (.refl _) (.cons (.refl _) (.cons (.refl _) (.cons (.refl _) (.cons (.refl _) (.cons (.nsl 1) (.cons (.nsl 1) .nil)))))))) (fun _ => rfl)
theorem frK {q : T → Prop} (h : ∀ e, e = 0 → q (.own (.tup [layO frG, .int .i64 e]))) : PCalls Tryd.prog 8 [frGT] q :=
  PCalls.argsL frLe (lay8k frG fr_tiny fr_wide (fun h1 => absurd fr_okF h1) fun _ => h)
theorem weight10k (g : Graph) (hg : g.tiny) (hw : ∀ b ∈ g.blocks, ∀ x ∈ allN b.fin, I64 x) {q : T → Prop} (h1 : ¬ g.okF → ∀ e, e = 1 → q (.tup [.int .i64 0, .int .i64 e])) (h2 : g.okF → ∀ e, e = 0 → q (.tup [.int .i64 (wgtF g), .int .i64 e])) : PCalls Tryd.prog 10 [g.t] q :=
  PCalls.mono (weight10 g hg hw) fun r h => by
    rcases h.out with ⟨h3, rfl⟩ | ⟨h3, rfl⟩
    · exact h1 h3 1 rfl
    · exact h2 h3 0 rfl
theorem frWK {q : T → Prop} (h : ∀ e, e = 0 → q (.tup [.int .i64 (wgtF frG), .int .i64 e])) : PCalls Tryd.prog 10 [frGT] q :=
  PCalls.argsL frLe (weight10k frG fr_tiny fr_wide (fun h1 => absurd fr_okF h1) fun _ => h)
theorem fr_wgt : wgtF frG = 64 := by
  have : wdF frG = 16 := congrArg Lay.words fr_lay
  unfold wgtF
  rw [this]
  rfl
theorem live12 : PCalls Tryd.prog 12 [] (fun r => r = .bool true) := by
  refine PCalls.of_body ttOk Tryd.func12 rfl ?_
  repeat' ((conv => whnf); first | (with_reducible first | refine onBool_intro (fun _ => ?_) (fun _ => ?_) | refine And.intro (Ob.mk (Nat.le_of_ble_eq_true rfl)) ?_ | refine And.intro (Ob.mk rfl) ?_ | exact ⟨rfl, rfl⟩ | refine And.intro (Ob.mk (fun h => h)) ?_) | (with_reducible refine Or.inl (And.intro (Ob.mk (Flat.map ?_)) ?_); exact fun _ => rfl) | (refine Or.inl (And.intro (Ob.mk (flat_of rfl)) ?_)) | (refine Or.inl (And.intro (Ob.mk ⟨rfl, rfl, rfl, rfl⟩) ?_)) | (refine Or.inl (And.intro (Ob.mk ⟨rfl, rfl, rfl⟩) ?_)) | (refine And.intro (Ob.mk ⟨rfl, rfl⟩) ?_) | (with_reducible refine Or.inr ?_) | (refine And.intro (Ob.mk (flat_of rfl)) ?_) | (with_reducible refine And.intro (Ob.mk (Flat.map ?_)) ?_; exact fun _ => rfl) | (with_reducible first | exact Ob.mk (Flat.map fun _ => rfl) | refine And.intro ?_ ?_ | apply exG.mk | apply exGS.mk | exact Dd.nil) | (refine Dd.same _ ?_) | (refine Dd.dead _ ?_) | (with_reducible first | apply exQ.mk | apply exP.mk) | (refine EqP.mk rfl rfl) | (with_reducible apply exW.mk) | (refine EqW.mk rfl) | (with_reducible first | intro _ | refine Dn.mk ?_) | (refine exS.full (by first | rfl | (simp; done) | (simp; omega)) ?_) | (refine And.intro (Ob.mk ⟨rfl, rfl, by first | rfl | (simp; done) | (simp; omega)⟩) ?_) | (with_reducible refine exE.mapD ?_) | (refine exL.int ?_) | (with_reducible first | refine Up0.mk rfl ?_ | refine Up0i.mk rfl ?_ | refine Up1.mk rfl ?_ | refine Up1i.mk rfl ?_ | refine Up2.mk rfl ?_ | refine Up2i.mk rfl ?_) | (refine Col.mk rfl rfl rfl ?_) | (refine Coli.mk rfl rfl rfl rfl ?_) | (refine frK fun e he => ?_) | (refine frWK fun e he => ?_) | (refine same13j (layN frG) ⟨4, [0, 1, 2, 4], 3, 5, 16⟩ ?_ ?_ ?_))
  all_goals (try exact Ob.mk ⟨rfl, rfl, rfl⟩)
  all_goals (try exact Ob.mk (Le.refl _))
  · exfalso
    rename_i e1 h1 h3
    subst h1 he
    rw [fr_wgt] at h3
    simp [eqI_beq] at h3
  · rename_i e1 h1
    subst h1 he
    rw [fr_wgt, fr_lay]
    simp [eqI_beq]
end Go.Proofs.YtgnafgebenlffaaDoor.Am

/- FrameFits: what a module that may be says of its functions. -/
namespace Go.Proofs.YtgnafgebenlffaaDoor.Am
open Go Go.Proofs
set_option maxRecDepth 10000
set_option maxHeartbeats 2000000
set_option linter.unusedVariables false
set_option linter.unusedSimpArgs false
theorem ph1_none {o a b : Graph → Bool} : ∀ {fs : List Graph} {k : Int}, ph1 o a b fs k = none → ∀ g ∈ fs, o g = true ∧ a g = true ∧ b g = true
  | [], _, _, g, hg => by cases hg
  | g0 :: gs, k, h, g, hg => by
    unfold ph1 at h
    have ho : o g0 = true := by
      cases ho : o g0 with
      | true => rfl
      | false => rw [ho] at h; simp at h
    have ha : a g0 = true := by
      cases ha : a g0 with
      | true => rfl
      | false => rw [ho, ha] at h; simp at h
    have hb : b g0 = true := by
      cases hb : b g0 with
      | true => rfl
      | false => rw [ho, ha, hb] at h; simp at h
    rw [ho, ha, hb] at h
    simp only [Bool.not_true, cond_false] at h
    rcases List.mem_cons.1 hg with rfl | hg
    · exact ⟨ho, ha, hb⟩
    · exact ph1_none h g hg
theorem ph1_some {o a b : Graph → Bool} : ∀ {fs : List Graph} {k : Int} {r : Int × Int × Int}, ph1 o a b fs k = some r → r.2.2 ≠ 0
  | [], _, _, h => nomatch h
  | g0 :: gs, k, r, h => by
    unfold ph1 at h
    cases ho : o g0 <;> cases ha : a g0 <;> cases hb : b g0 <;> simp only [ho, ha, hb, Bool.not_true, Bool.not_false, cond_true, cond_false, Option.some.injEq] at h <;> first | exact ph1_some h | (subst h; simp)
theorem phI_none {ins : Ins → Int} : ∀ {l : List Ins}, phI ins l = none → ∀ x ∈ l, ins x = 0
  | [], _, x, hx => nomatch hx
  | y :: l, h, x, hx => by
    unfold phI at h
    cases hy : eqI (ins y) 0 with
    | false => rw [hy] at h; exact nomatch h
    | true =>
      rw [hy] at h
      rcases List.mem_cons.1 hx with rfl | hx
      · exact eqI_iff.1 hy
      · exact phI_none h x hx
theorem phI_some {ins : Ins → Int} : ∀ {l : List Ins} {e : Int}, phI ins l = some e → e ≠ 0
  | [], _, h => nomatch h
  | y :: l, e, h => by
    unfold phI at h
    cases hy : eqI (ins y) 0 with
    | false =>
      rw [hy] at h
      cases h
      exact eqI_not.1 hy
    | true =>
      rw [hy] at h
      exact phI_some h
theorem phB_none {ins : Ins → Int} {fin : End → Bool} : ∀ {l : List Block} {k : Int}, phB ins fin l k = none → ∀ b ∈ l, (∀ x ∈ b.code, ins x = 0) ∧ fin b.fin = true
  | [], _, _, b, hb => nomatch hb
  | c :: l, k, h, b, hb => by
    unfold phB at h
    cases hi : phI ins c.code with
    | some e => rw [hi] at h; exact nomatch h
    | none =>
      rw [hi] at h
      cases hf : fin c.fin with
      | false => rw [hf] at h; exact nomatch h
      | true =>
        rw [hf] at h
        rcases List.mem_cons.1 hb with rfl | hb
        · exact ⟨phI_none hi, hf⟩
        · exact phB_none h b hb
theorem phB_some {ins : Ins → Int} {fin : End → Bool} : ∀ {l : List Block} {k : Int} {r : Int × Int}, phB ins fin l k = some r → r.2 ≠ 0
  | [], _, _, h => nomatch h
  | c :: l, k, r, h => by
    unfold phB at h
    cases hi : phI ins c.code with
    | some e =>
      rw [hi] at h
      cases h
      exact phI_some hi
    | none =>
      rw [hi] at h
      cases hf : fin c.fin with
      | false =>
        rw [hf] at h
        cases h
        simp
      | true =>
        rw [hf] at h
        exact phB_some h
theorem ph2_none {ins : Graph → Ins → Int} {fin : Graph → End → Bool} : ∀ {fs : List Graph} {k : Int}, ph2 ins fin fs k = none → ∀ g ∈ fs, ∀ b ∈ g.blocks, (∀ x ∈ b.code, ins g x = 0) ∧ fin g b.fin = true
  | [], _, _, g, hg => nomatch hg
  | g0 :: gs, k, h, g, hg => by
    unfold ph2 at h
    cases hp : phB (ins g0) (fin g0) g0.blocks 0 with
    | some r => rw [hp] at h; exact nomatch h
    | none =>
      rw [hp] at h
      rcases List.mem_cons.1 hg with rfl | hg
      · exact phB_none hp
      · exact ph2_none h g hg
theorem ph2_some {ins : Graph → Ins → Int} {fin : Graph → End → Bool} : ∀ {fs : List Graph} {k : Int} {r : Int × Int × Int}, ph2 ins fin fs k = some r → r.2.2 ≠ 0
  | [], _, _, h => nomatch h
  | g0 :: gs, k, r, h => by
    unfold ph2 at h
    cases hp : phB (ins g0) (fin g0) g0.blocks 0 with
    | some r0 =>
      rw [hp] at h
      cases h
      exact phB_some hp
    | none =>
      rw [hp] at h
      exact ph2_some h
structure Module.okM (m : Module) : Prop where
  whole : wholeN m = true
  parts : ∀ g ∈ m.funcs, ownG g = true ∧ arraysN m g = true ∧ blocksN g = true
  code : ∀ g ∈ m.funcs, ∀ b ∈ g.blocks, (∀ x ∈ b.code, insN m g x = 0) ∧ endN g b.fin = true
theorem check_ok {m : Module} (h : (refCheck m).2.2 = 0) : m.okM := by
  unfold refCheck checkN at h
  cases hw : wholeN m with
  | false => rw [hw] at h; exact absurd h (by simp)
  | true =>
    rw [hw] at h
    simp only [Bool.not_true, cond_false] at h
    cases h1 : ph1 ownG (arraysN m) blocksN m.funcs 0 with
    | some r => rw [h1] at h; exact absurd h (ph1_some h1)
    | none =>
      rw [h1] at h
      cases h2 : ph2 (insN m) endN m.funcs 0 with
      | some r => simp only [h2] at h; exact absurd h (ph2_some h2)
      | none => exact ⟨hw, ph1_none h1, ph2_none h2⟩
theorem kindN_zero {op : Int} : kindN op ≠ 0 → 1 ≤ op ∧ op ≤ 32 := by
  unfold kindN
  intro h
  repeat' split at h
  all_goals omega
theorem insN_ok {m : Module} {g : Graph} {x : Ins} (h : insN m g x = 0) : insOk g.temps x = true := by
  unfold insN at h
  cases h0 : eqI (kindN x.op) 0 || !plainN x with
  | true => rw [h0] at h; exact absurd h (by simp)
  | false =>
    rw [h0, cond_false] at h
    rw [Bool.or_eq_false_iff, eqI_not] at h0
    have ho := kindN_zero h0.1
    have hs := setsN_eq ho
    unfold insOk
    rw [decide_eq_true ho, Bool.true_and, Bool.and_eq_true, Bool.or_eq_true, decide_eq_true_eq]
    cases h8 : eqI (kindN x.op) 8 with
    | true =>
      rw [h8, cond_true] at h
      have h8 := eqI_iff.1 h8
      have hop : x.op = 29 := by unfold kindN at h8; repeat' split at h8; all_goals omega
      cases h1 : !eqI (setsN x) (-1) && !bel (setsN x) g.temps with
      | true => rw [h1] at h; exact absurd h (by simp)
      | false =>
        rw [h1, cond_false] at h
        cases h2 : callN m g x with
        | false => rw [h2] at h; exact absurd h (by simp)
        | true =>
          unfold callN at h2
          simp only [Bool.and_eq_true] at h2
          have hu : usesN x = x.args := by simp [usesN, kindN, hop]
          refine ⟨by rw [hu]; exact h2.2.1.1.1, ?_⟩
          rw [hs, if_neg (by omega), Bool.and_eq_false_iff, Bool.not_eq_false', Bool.not_eq_false', eqI_iff] at h1
          rcases h1 with h1 | h1
          · exact .inl (.inr (.inr (.inr (.inr ⟨hop, h1⟩))))
          · exact .inr h1
    | false =>
      rw [h8, cond_false] at h
      have h8 := eqI_not.1 h8
      cases h1 : (!(usesN x).all (bel · g.temps) || (!eqI (setsN x) (-1) && !bel (setsN x) g.temps)) || (((eqI (setsN x) (-1) && !eqI (kindN x.op) 5) && !eqI (kindN x.op) 7) && !eqI (kindN x.op) 10) with
      | true => rw [h1] at h; exact absurd h (by simp)
      | false =>
        rw [Bool.or_eq_false_iff, Bool.or_eq_false_iff, Bool.not_eq_false'] at h1
        refine ⟨h1.1.1, ?_⟩
        have h2 := h1.1.2
        have h3 := h1.2
        by_cases hd : x.op = 26 ∨ x.op = 28 ∨ x.op = 31 ∨ x.op = 32
        · left; omega
        · rw [hs, if_neg hd] at h2 h3
          rw [Bool.and_eq_false_iff, Bool.not_eq_false', Bool.not_eq_false', eqI_iff] at h2
          rcases h2 with h2 | h2
          · exfalso
            simp only [Bool.and_eq_false_iff, Bool.not_eq_false', eqI_iff, eqI_not] at h3
            have : kindN x.op = 5 ∨ kindN x.op = 7 ∨ kindN x.op = 10 := by omega
            unfold kindN at this
            repeat' split at this
            all_goals omega
          · exact .inr h2
theorem endN_ok {g : Graph} {e : End} (h : endN g e = true) : endOk g.temps e = true ∧ ∀ s ∈ allN e, bel s g.blocks.length = true := by
  unfold endN at h
  simp only at h
  unfold endOk allN
  cases h1 : eqI e.kind 1 with
  | true =>
    rw [h1] at h
    have h1 := eqI_iff.1 h1
    simp only [cond_true, Bool.and_eq_true] at h
    refine ⟨by simp [h1, eUsesN], fun s hs => ?_⟩
    rw [if_pos h1, List.mem_singleton] at hs
    subst hs; exact h.1
  | false =>
    rw [h1, cond_false] at h
    have h1 := eqI_not.1 h1
    cases h2 : eqI e.kind 2 with
    | true =>
      rw [h2] at h
      have h2 := eqI_iff.1 h2
      simp only [cond_true, Bool.and_eq_true] at h
      refine ⟨by rw [h.1.1.1.2]; simp [h2], fun s hs => ?_⟩
      rw [if_neg h1, if_pos h2] at hs
      simp only [List.mem_cons, List.not_mem_nil, or_false] at hs
      rcases hs with rfl | rfl
      · exact h.1.1.2
      · exact h.1.2
    | false =>
      rw [h2, cond_false] at h
      have h2 := eqI_not.1 h2
      cases h3 : eqI e.kind 3 with
      | true =>
        rw [h3] at h
        have h3 := eqI_iff.1 h3
        simp only [cond_true, Bool.and_eq_true] at h
        refine ⟨by rw [h.1.1.1]; simp [h3], fun s hs => ?_⟩
        rw [if_neg h1, if_neg h2, if_pos h3] at hs
        rcases List.mem_cons.1 hs with rfl | hs
        · exact h.1.1.2
        · obtain ⟨c, hc, rfl⟩ := List.mem_map.1 hs
          have h4 := h.1.2
          unfold casesN at h4
          simp only [Bool.and_eq_true, List.all_eq_true] at h4
          exact h4.1.2 c hc
      | false =>
        rw [h3, cond_false] at h
        have h3 := eqI_not.1 h3
        cases h4 : eqI e.kind 4 with
        | true =>
          rw [h4] at h
          have h4 := eqI_iff.1 h4
          simp only [cond_true, Bool.and_eq_true] at h
          refine ⟨by rw [h.1.1.1.1.1]; simp [h4], fun s hs => ?_⟩
          rw [if_neg h1, if_neg h2, if_neg h3, if_pos h4] at hs
          rcases List.mem_cons.1 hs with rfl | hs
          · exact h.1.1.1.1.2
          · exact List.all_eq_true.1 h.1.1.1.2 s hs
        | false =>
          rw [h4, cond_false] at h
          have h4 := eqI_not.1 h4
          cases h5 : eqI e.kind 5 with
          | true =>
            rw [h5] at h
            have h5 := eqI_iff.1 h5
            simp only [cond_true, Bool.and_eq_true] at h
            refine ⟨by rw [h.1.1]; simp [h5], fun s hs => ?_⟩
            rw [if_neg h1, if_neg h2, if_neg h3, if_neg h4] at hs
            exact nomatch hs
          | false => rw [h5] at h; exact nomatch h
theorem okM_okF {m : Module} (h : m.okM) {g : Graph} (hg : g ∈ m.funcs) : g.okF := by
  obtain ⟨h1, h2, h3⟩ := h.parts g hg
  have hc := h.code g hg
  unfold ownG at h1
  unfold arraysN at h2
  unfold blocksN at h3
  simp only [Bool.and_eq_true, decide_eq_true_eq] at h1 h2 h3
  refine ⟨⟨⟨⟨h3.1.1, h3.1.2, fun b hb s hs => ?_⟩, h1.1.1.1, fun b hb x hx => insN_ok ((hc b hb).1 x hx), fun b hb => (endN_ok (hc b hb).2).1⟩, h1.1.1.2, fun t ht => ?_, h1.1.2⟩, ?_⟩
  · unfold nextN at hs
    rw [if_pos (by rw [bel_iff]; omega), Int.toNat_natCast] at hs
    exact (endN_ok (hc _ (nthD_mem hb)).2).2 s ((srt_mem _ _).1 hs)
  · exact bel_iff.1 (List.all_eq_true.1 h1.2 t ht)
  · unfold arrsF
    simp only [Bool.and_eq_true, decide_eq_true_eq]
    refine ⟨⟨⟨h2.1.1.1, ?_⟩, h2.1.2⟩, h2.2⟩
    rw [List.all_eq_true]
    intro a ha
    have := List.all_eq_true.1 h2.1.1.2 a ha
    unfold arrOk at this
    unfold arrF
    simp only [Bool.or_eq_true, Bool.and_eq_true, decide_eq_true_eq] at this ⊢
    rcases this with (h | h) | h
    · exact .inl (.inl h.1)
    · exact .inr h
    · exact .inl (.inr h.1)
end Go.Proofs.YtgnafgebenlffaaDoor.Am

/- FrameFits: the law. -/
namespace Go.Proofs.YtgnafgebenlffaaDoor.Am
open Go Go.Proofs
set_option maxRecDepth 10000
set_option maxHeartbeats 2000000
set_option linter.unusedVariables false
set_option linter.unusedSimpArgs false
theorem weight10y (g : Graph) (hg : Ob (g.tiny ∧ (∀ b ∈ g.blocks, ∀ x ∈ allN b.fin, I64 x) ∧ g.okF)) {q : T → Prop} (hq : q (.tup [.int .i64 (wgtF g), .int .i64 0])) : PCalls Tryd.prog 10 [g.t] q :=
  weight10k g hg.out.1 hg.out.2.1 (fun h2 => absurd hg.out.2.2 h2) fun _ e he => he ▸ hq
theorem sum_rng {l : List Int} (h : l.all (wthn · 1 1000) = true) : 0 ≤ l.sum ∧ l.sum ≤ 1000 * l.length := by
  induction l with
  | nil => simp
  | cons x l ih =>
    rw [List.all_cons, Bool.and_eq_true, wthn_iff] at h
    have := ih h.2
    simp only [List.sum_cons, List.length_cons]
    omega
theorem quo4 {x : Int} (h0 : 0 ≤ x) (h1 : x ≤ 100000) : quoI .i64 (4 * x) 4 = x := by
  unfold quoI
  have : (4 * x).tdiv 4 = x := by
    rw [Int.tdiv_eq_ediv_of_nonneg (by omega)]
    omega
  rw [this]
  simp only [IntKind.wrap, IntKind.bits, IntKind.signed]; simp; omega
theorem mul50 {x : Int} (h0 : 0 ≤ x) (h1 : x ≤ 10000) : mulI .i64 50 x = 50 * x := by
  unfold mulI; simp only [IntKind.wrap, IntKind.bits, IntKind.signed]; simp; omega
theorem law5F (m : Module) (hm : m.tiny) (hw : ∀ g ∈ m.funcs, ∀ b ∈ g.blocks, ∀ x ∈ allN b.fin, I64 x) : PCalls Tryd.prog 5 [m.t] (fun r => r = .bool true) := by
  have hx : ∀ g ∈ m.funcs, ∀ b ∈ g.blocks, ∀ x ∈ b.code, x.args.length ≤ 2 ^ 20 := fun g hg b hb => ((hm.all g hg).all b hb).args
  refine PCalls.of_body ttOk Tryd.func5 rfl ?_
  repeat' ((conv => whnf); first | (with_reducible first | refine onBool_intro (fun _ => ?_) (fun _ => ?_) | refine And.intro (Ob.mk (Nat.le_of_ble_eq_true rfl)) ?_ | refine And.intro (Ob.mk rfl) ?_ | exact ⟨rfl, rfl⟩ | refine And.intro (Ob.mk (fun h => h)) ?_) | (with_reducible refine Or.inl (And.intro (Ob.mk (Flat.map ?_)) ?_); exact fun _ => rfl) | (refine Or.inl (And.intro (Ob.mk (flat_of rfl)) ?_)) | (refine Or.inl (And.intro (Ob.mk ⟨rfl, rfl, rfl, rfl⟩) ?_)) | (refine Or.inl (And.intro (Ob.mk ⟨rfl, rfl, rfl⟩) ?_)) | (refine And.intro (Ob.mk ⟨rfl, rfl⟩) ?_) | (with_reducible refine Or.inr ?_) | (refine And.intro (Ob.mk (flat_of rfl)) ?_) | (with_reducible refine And.intro (Ob.mk (Flat.map ?_)) ?_; exact fun _ => rfl) | (with_reducible first | exact Ob.mk (Flat.map fun _ => rfl) | refine And.intro ?_ ?_ | apply exG.mk | apply exGS.mk | exact Dd.nil) | (refine Dd.same _ ?_) | (refine Dd.dead _ ?_) | (with_reducible first | apply exQ.mk | apply exP.mk) | (refine EqP.mk rfl rfl) | (with_reducible apply exW.mk) | (refine EqW.mk rfl) | (with_reducible first | intro _ | refine Dn.mk ?_) | (refine exS.full (by first | rfl | (simp; done) | (simp; omega)) ?_) | (refine And.intro (Ob.mk ⟨rfl, rfl, by first | rfl | (simp; done) | (simp; omega)⟩) ?_) | (with_reducible refine exE.mapD ?_) | (refine exL.int ?_) | (with_reducible first | refine Up0.mk rfl ?_ | refine Up0i.mk rfl ?_ | refine Up1.mk rfl ?_ | refine Up1i.mk rfl ?_ | refine Up2.mk rfl ?_ | refine Up2i.mk rfl ?_) | (refine Col.mk rfl rfl rfl ?_) | (refine Coli.mk rfl rfl rfl rfl ?_) | (refine PCalls.mono (check8 m hx) ?_; rintro _ rfl) | (refine PCalls.mono live12 ?_; rintro _ rfl))
  all_goals (try (refine Ob.mk ?_; first | assumption | exact ⟨rfl, rfl⟩ | exact ⟨rfl, rfl, rfl⟩ | (refine ⟨rfl, rfl, ?_⟩; simp only [List.length_map, List.length_take, List.length_append, els_len, List.length_replicate]; omega) | (intro h; exact h) | (intro h; rw [h]; rfl) | (intro h; simp_all; done) | (refine bytes_le (n := 1048577) ?_ rfl; simp only [ltI_iff, ltI_not, leI_iff, leI_not, eqI_iff, eqI_not, List.length_map, bif_and, bif_or, Bool.and_eq_true, Bool.and_eq_false_iff, Bool.or_eq_true, Bool.or_eq_false_iff, Bool.not_eq_true', Bool.not_eq_false', Int.toNat_natCast, beq_iff_eq, beq_eq_false_iff_ne, decide_eq_true_eq, decide_eq_false_iff_not, bel_iff, bel_not, wthn_iff, wthn_not, els_len, mixL_len, Nat.zero_add, List.length_set, List.length_take] at *; omega) | (simp only [ltI_iff, ltI_not, leI_iff, leI_not, eqI_iff, eqI_not, List.length_map, bif_and, bif_or, Bool.and_eq_true, Bool.and_eq_false_iff, Bool.or_eq_true, Bool.or_eq_false_iff, Bool.not_eq_true', Bool.not_eq_false', Int.toNat_natCast, beq_iff_eq, beq_eq_false_iff_ne, decide_eq_true_eq, decide_eq_false_iff_not, bel_iff, bel_not, wthn_iff, wthn_not, els_len, mixL_len, Nat.zero_add, List.length_set, List.length_take, Int.ofNat_eq_natCast] at *; omega)))
  · exact (rfl : T.bool true = T.bool true)
  · rename_i h1 _
    rw [Bool.not_eq_false', eqI_iff] at h1
    have hM := check_ok h1
    have hW := hM.whole
    unfold wholeN at hW
    simp only [Bool.and_eq_true, decide_eq_true_eq] at hW
    have hg2 := hW.1.1.1.1.1.2
    have ha2 := hW.1.1.1.1.2
    have hal := hW.1.1.1.2
    have hsm := hW.1.1.2
    have hf6 := hW.1.1.1.1.1.1.1
    conv => whnf
    refine LoopVC.up1 7 6 m.arrays.length (fun i w => w = m.globals.length + (m.arrays.take i).sum) ?_ ?_
    · repeat' ((conv => whnf); first | (with_reducible first | refine onBool_intro (fun _ => ?_) (fun _ => ?_) | refine And.intro (Ob.mk (Nat.le_of_ble_eq_true rfl)) ?_ | refine And.intro (Ob.mk rfl) ?_ | exact ⟨rfl, rfl⟩ | refine And.intro (Ob.mk (fun h => h)) ?_) | (with_reducible refine Or.inl (And.intro (Ob.mk (Flat.map ?_)) ?_); exact fun _ => rfl) | (refine Or.inl (And.intro (Ob.mk (flat_of rfl)) ?_)) | (refine Or.inl (And.intro (Ob.mk ⟨rfl, rfl, rfl, rfl⟩) ?_)) | (refine Or.inl (And.intro (Ob.mk ⟨rfl, rfl, rfl⟩) ?_)) | (refine And.intro (Ob.mk ⟨rfl, rfl⟩) ?_) | (with_reducible refine Or.inr ?_) | (refine And.intro (Ob.mk (flat_of rfl)) ?_) | (with_reducible refine And.intro (Ob.mk (Flat.map ?_)) ?_; exact fun _ => rfl) | (with_reducible first | exact Ob.mk (Flat.map fun _ => rfl) | refine And.intro ?_ ?_ | apply exG.mk | apply exGS.mk | exact Dd.nil) | (refine Dd.same _ ?_) | (refine Dd.dead _ ?_) | (with_reducible first | apply exQ.mk | apply exP.mk) | (refine EqP.mk rfl rfl) | (with_reducible apply exW.mk) | (refine EqW.mk rfl) | (with_reducible first | intro _ | refine Dn.mk ?_) | (refine exS.full (by first | rfl | (simp; done) | (simp; omega)) ?_) | (refine And.intro (Ob.mk ⟨rfl, rfl, by first | rfl | (simp; done) | (simp; omega)⟩) ?_) | (with_reducible refine exE.mapD ?_) | (refine exL.int ?_) | (with_reducible first | refine Up0.mk rfl ?_ | refine Up0i.mk rfl ?_ | refine Up1.mk rfl ?_ | refine Up1i.mk rfl ?_ | refine Up2.mk rfl ?_ | refine Up2i.mk rfl ?_) | (refine Col.mk rfl rfl rfl ?_) | (refine Coli.mk rfl rfl rfl rfl ?_))
      exact Ob.mk (by rw [List.length_map]; simp)
    · rintro i w hi rfl
      have hs := sum_rng (l := m.arrays.take i) (by
        rw [List.all_eq_true] at hal ⊢
        exact fun x hx => hal x (List.mem_of_mem_take hx))
      rw [List.length_take] at hs
      repeat' ((conv => whnf); first | (with_reducible first | refine onBool_intro (fun _ => ?_) (fun _ => ?_) | refine And.intro (Ob.mk (Nat.le_of_ble_eq_true rfl)) ?_ | refine And.intro (Ob.mk rfl) ?_ | exact ⟨rfl, rfl⟩ | refine And.intro (Ob.mk (fun h => h)) ?_) | (with_reducible refine Or.inl (And.intro (Ob.mk (Flat.map ?_)) ?_); exact fun _ => rfl) | (refine Or.inl (And.intro (Ob.mk (flat_of rfl)) ?_)) | (refine Or.inl (And.intro (Ob.mk ⟨rfl, rfl, rfl, rfl⟩) ?_)) | (refine Or.inl (And.intro (Ob.mk ⟨rfl, rfl, rfl⟩) ?_)) | (refine And.intro (Ob.mk ⟨rfl, rfl⟩) ?_) | (with_reducible refine Or.inr ?_) | (refine And.intro (Ob.mk (flat_of rfl)) ?_) | (with_reducible refine And.intro (Ob.mk (Flat.map ?_)) ?_; exact fun _ => rfl) | (with_reducible first | exact Ob.mk (Flat.map fun _ => rfl) | refine And.intro ?_ ?_ | apply exG.mk | apply exGS.mk | exact Dd.nil) | (refine Dd.same _ ?_) | (refine Dd.dead _ ?_) | (with_reducible first | apply exQ.mk | apply exP.mk) | (refine EqP.mk rfl rfl) | (with_reducible apply exW.mk) | (refine EqW.mk rfl) | (with_reducible first | intro _ | refine Dn.mk ?_) | (refine exS.full (by first | rfl | (simp; done) | (simp; omega)) ?_) | (refine And.intro (Ob.mk ⟨rfl, rfl, by first | rfl | (simp; done) | (simp; omega)⟩) ?_) | (with_reducible refine exE.mapD ?_) | (refine exL.int ?_) | (with_reducible first | refine Up0.mk rfl ?_ | refine Up0i.mk rfl ?_ | refine Up1.mk rfl ?_ | refine Up1i.mk rfl ?_ | refine Up2.mk rfl ?_ | refine Up2i.mk rfl ?_) | (refine Col.mk rfl rfl rfl ?_) | (refine Coli.mk rfl rfl rfl rfl ?_))
      all_goals (try (refine Ob.mk ?_; first | assumption | exact ⟨rfl, rfl⟩ | exact ⟨rfl, rfl, rfl⟩ | (refine ⟨rfl, rfl, ?_⟩; simp only [List.length_map, List.length_take, List.length_append, els_len, List.length_replicate]; omega) | (intro h; exact h) | (intro h; rw [h]; rfl) | (intro h; simp_all; done) | (refine bytes_le (n := 1048577) ?_ rfl; simp only [ltI_iff, ltI_not, leI_iff, leI_not, eqI_iff, eqI_not, List.length_map, bif_and, bif_or, Bool.and_eq_true, Bool.and_eq_false_iff, Bool.or_eq_true, Bool.or_eq_false_iff, Bool.not_eq_true', Bool.not_eq_false', Int.toNat_natCast, beq_iff_eq, beq_eq_false_iff_ne, decide_eq_true_eq, decide_eq_false_iff_not, bel_iff, bel_not, wthn_iff, wthn_not, els_len, mixL_len, Nat.zero_add, List.length_set, List.length_take] at *; omega) | (simp only [ltI_iff, ltI_not, leI_iff, leI_not, eqI_iff, eqI_not, List.length_map, bif_and, bif_or, Bool.and_eq_true, Bool.and_eq_false_iff, Bool.or_eq_true, Bool.or_eq_false_iff, Bool.not_eq_true', Bool.not_eq_false', Int.toNat_natCast, beq_iff_eq, beq_eq_false_iff_ne, decide_eq_true_eq, decide_eq_false_iff_not, bel_iff, bel_not, wthn_iff, wthn_not, els_len, mixL_len, Nat.zero_add, List.length_set, List.length_take, Int.ofNat_eq_natCast] at *; omega)))
      · rename_i h3
        rw [ltI_iff, List.length_map] at h3
        have hn := wthn_iff.1 (List.all_eq_true.1 hal (nthD m.arrays i) (nthD_mem (by omega)))
        refine Ob.mk ⟨by omega, addI_i64 (by omega) (by omega), ?_⟩
        rw [sum_succ (by omega), Int.toNat_natCast, addI_i64 (by omega) (by omega)]
        omega
      · rename_i h3
        have h3 : i = m.arrays.length := by rw [ltI_not, List.length_map] at h3; omega
        subst h3
        rw [List.take_length] at hs ⊢
        conv => whnf
        refine LoopVC.up0 8 m.funcs.length (fun _ => True) ?_ ?_
        · repeat' ((conv => whnf); first | (with_reducible first | refine onBool_intro (fun _ => ?_) (fun _ => ?_) | refine And.intro (Ob.mk (Nat.le_of_ble_eq_true rfl)) ?_ | refine And.intro (Ob.mk rfl) ?_ | exact ⟨rfl, rfl⟩ | refine And.intro (Ob.mk (fun h => h)) ?_) | (with_reducible refine Or.inl (And.intro (Ob.mk (Flat.map ?_)) ?_); exact fun _ => rfl) | (refine Or.inl (And.intro (Ob.mk (flat_of rfl)) ?_)) | (refine Or.inl (And.intro (Ob.mk ⟨rfl, rfl, rfl, rfl⟩) ?_)) | (refine Or.inl (And.intro (Ob.mk ⟨rfl, rfl, rfl⟩) ?_)) | (refine And.intro (Ob.mk ⟨rfl, rfl⟩) ?_) | (with_reducible refine Or.inr ?_) | (refine And.intro (Ob.mk (flat_of rfl)) ?_) | (with_reducible refine And.intro (Ob.mk (Flat.map ?_)) ?_; exact fun _ => rfl) | (with_reducible first | exact Ob.mk (Flat.map fun _ => rfl) | refine And.intro ?_ ?_ | apply exG.mk | apply exGS.mk | exact Dd.nil) | (refine Dd.same _ ?_) | (refine Dd.dead _ ?_) | (with_reducible first | apply exQ.mk | apply exP.mk) | (refine EqP.mk rfl rfl) | (with_reducible apply exW.mk) | (refine EqW.mk rfl) | (with_reducible first | intro _ | refine Dn.mk ?_) | (refine exS.full (by first | rfl | (simp; done) | (simp; omega)) ?_) | (refine And.intro (Ob.mk ⟨rfl, rfl, by first | rfl | (simp; done) | (simp; omega)⟩) ?_) | (with_reducible refine exE.mapD ?_) | (refine exL.int ?_) | (with_reducible first | refine Up0.mk rfl ?_ | refine Up0i.mk rfl ?_ | refine Up1.mk rfl ?_ | refine Up1i.mk rfl ?_ | refine Up2.mk rfl ?_ | refine Up2i.mk rfl ?_) | (refine Col.mk rfl rfl rfl ?_) | (refine Coli.mk rfl rfl rfl rfl ?_))
          exact Ob.mk trivial
        · intro f hf _
          repeat' ((conv => whnf); first | (with_reducible first | refine onBool_intro (fun _ => ?_) (fun _ => ?_) | refine And.intro (Ob.mk (Nat.le_of_ble_eq_true rfl)) ?_ | refine And.intro (Ob.mk rfl) ?_ | exact ⟨rfl, rfl⟩ | refine And.intro (Ob.mk (fun h => h)) ?_) | (with_reducible refine Or.inl (And.intro (Ob.mk (Flat.map ?_)) ?_); exact fun _ => rfl) | (refine Or.inl (And.intro (Ob.mk (flat_of rfl)) ?_)) | (refine Or.inl (And.intro (Ob.mk ⟨rfl, rfl, rfl, rfl⟩) ?_)) | (refine Or.inl (And.intro (Ob.mk ⟨rfl, rfl, rfl⟩) ?_)) | (refine And.intro (Ob.mk ⟨rfl, rfl⟩) ?_) | (with_reducible refine Or.inr ?_) | (refine And.intro (Ob.mk (flat_of rfl)) ?_) | (with_reducible refine And.intro (Ob.mk (Flat.map ?_)) ?_; exact fun _ => rfl) | (with_reducible first | exact Ob.mk (Flat.map fun _ => rfl) | refine And.intro ?_ ?_ | apply exG.mk | apply exGS.mk | exact Dd.nil) | (refine Dd.same _ ?_) | (refine Dd.dead _ ?_) | (with_reducible first | apply exQ.mk | apply exP.mk) | (refine EqP.mk rfl rfl) | (with_reducible apply exW.mk) | (refine EqW.mk rfl) | (with_reducible first | intro _ | refine Dn.mk ?_) | (refine exS.full (by first | rfl | (simp; done) | (simp; omega)) ?_) | (refine And.intro (Ob.mk ⟨rfl, rfl, by first | rfl | (simp; done) | (simp; omega)⟩) ?_) | (with_reducible refine exE.mapD ?_) | (refine exL.int ?_) | (with_reducible first | refine Up0.mk rfl ?_ | refine Up0i.mk rfl ?_ | refine Up1.mk rfl ?_ | refine Up1i.mk rfl ?_ | refine Up2.mk rfl ?_ | refine Up2i.mk rfl ?_) | (refine Col.mk rfl rfl rfl ?_) | (refine Coli.mk rfl rfl rfl rfl ?_) | (refine weight10y _ ?_ ?_) | (refine PCalls.mono live12 ?_; rintro _ rfl))
          all_goals (try (refine Ob.mk ?_; first | assumption | exact ⟨rfl, rfl⟩ | exact ⟨rfl, rfl, rfl⟩ | (refine ⟨rfl, rfl, ?_⟩; simp only [List.length_map, List.length_take, List.length_append, els_len, List.length_replicate]; omega) | (intro h; exact h) | (intro h; rw [h]; rfl) | (intro h; simp_all; done) | (refine bytes_le (n := 1048577) ?_ rfl; simp only [ltI_iff, ltI_not, leI_iff, leI_not, eqI_iff, eqI_not, List.length_map, bif_and, bif_or, Bool.and_eq_true, Bool.and_eq_false_iff, Bool.or_eq_true, Bool.or_eq_false_iff, Bool.not_eq_true', Bool.not_eq_false', Int.toNat_natCast, beq_iff_eq, beq_eq_false_iff_ne, decide_eq_true_eq, decide_eq_false_iff_not, bel_iff, bel_not, wthn_iff, wthn_not, els_len, mixL_len, Nat.zero_add, List.length_set, List.length_take] at *; omega) | (simp only [ltI_iff, ltI_not, leI_iff, leI_not, eqI_iff, eqI_not, List.length_map, bif_and, bif_or, Bool.and_eq_true, Bool.and_eq_false_iff, Bool.or_eq_true, Bool.or_eq_false_iff, Bool.not_eq_true', Bool.not_eq_false', Int.toNat_natCast, beq_iff_eq, beq_eq_false_iff_ne, decide_eq_true_eq, decide_eq_false_iff_not, bel_iff, bel_not, wthn_iff, wthn_not, els_len, mixL_len, Nat.zero_add, List.length_set, List.length_take, Int.ofNat_eq_natCast] at *; omega)))
          · rename_i h4
            have h4 : f < m.funcs.length := by rw [ltI_iff, List.length_map] at h4; omega
            rw [Int.toNat_natCast]
            exact Ob.mk ⟨hm.all _ (nthD_mem h4), hw _ (nthD_mem h4), okM_okF hM (nthD_mem h4)⟩
          · exfalso
            rename_i h4 h5
            have h4 : f < m.funcs.length := by rw [ltI_iff, List.length_map] at h4; omega
            have hr := okF_rng (okM_okF hM (nthD_mem h4))
            have e3 : wgtF (nthD m.funcs f) = 4 * wdF (nthD m.funcs f) := rfl
            rw [Int.toNat_natCast, e3, quo4 (by omega) (by omega), mul50 (by omega) (by omega), addI_i64 (by omega) (by omega)] at h5
            simp only [bif_or, Bool.or_eq_true, Bool.not_eq_true', eqI_not, ltI_iff, leI_iff] at h5
            omega
          · rename_i h4 h5
            rw [ltI_iff, List.length_map] at h4
            exact Ob.mk ⟨by omega, addI_i64 (by omega) (by omega), trivial⟩
          · exact (rfl : T.bool true = T.bool true)
end Go.Proofs.YtgnafgebenlffaaDoor.Am
