/- Frames: the laws' own functions. -/
import Derived.Test.YtgnafgebenlffaaDoorBV
import Derived.Test.YtgnafgebenlffaaDoorBL
/- Frames: how they are laid, by the document's answer. -/
namespace Go.Proofs.YtgnafgebenlffaaDoor.Am
open Go Go.Proofs
set_option maxRecDepth 10000
set_option maxHeartbeats 2000000
set_option linter.unusedVariables false
set_option linter.unusedSimpArgs false
noncomputable abbrev layT (g : Graph) : T := .agg [.int .i64 (argsF g), ilist (savedF g), .int .i64 (slotsF g), .int .i64 (wordsF g.arrays), .int .i64 (wdF g)]
theorem may21k (g : Graph) (hg : g.tiny) {q : T → Prop} (h1 : g.okF → q (.bool true)) (h2 : ¬ g.okF → q (.bool false)) : PCalls Tryd.prog 21 [g.t] q :=
  PCalls.mono (may21 g hg) fun r h => by
    subst h
    by_cases hm : g.mayF ∧ arrsF g.arrays = true
    · rw [tr_t hm]; exact h1 ⟨hm.1, hm.2⟩
    · rw [tr_f hm]; exact h2 fun h => hm ⟨h.tomayF, h.arrs⟩
theorem arrays22y (g : Graph) (ha : Ob (arrsF g.arrays = true)) {q : T → Prop} (h1 : q (.tup [.int .i64 (wordsF g.arrays), .int .i64 (parsF g.arrays), .bool true])) : PCalls Tryd.prog 22 [g.t] q :=
  arrays22k g (fun _ => h1) fun h => absurd (h.symm.trans ha.out) Bool.false_ne_true
theorem stepC_out {n : Nat} {t : Nat} (ht : n ≤ t) {f : Nat → Bool} (hf : f t = false) : ∀ {l : List Ins}, (∀ x ∈ l, ∀ u ∈ usesN x, u < (n : Int)) → stepC l f t = false
  | [], _ => hf
  | x :: l, h => by
    rw [stepC_cons]
    unfold backF
    rw [stepC_out ht hf fun y hy => h y (by simp [hy])]
    have : (usesN x).contains (t : Int) = false := by
      rw [Bool.eq_false_iff]
      intro hc
      have := h x (by simp) _ (List.contains_iff_mem.1 hc)
      omega
    rw [this]
    simp
theorem Least.ext {g : Graph} (hg : g.tiny) (hf : g.fits) {a : Nat → Nat → Bool} (h : Least g g.temps.toNat a) : Least g 8000 (fun b t => decide (t < g.temps.toNat) && a b t) ∧ Inside g (fun b t => decide (t < g.temps.toNat) && a b t) := by
  have hF := fits_fit hg hf
  have hT := hf.temps
  have l1 : LeB g.blocks.length g.temps.toNat a (fun b t => decide (t < g.temps.toNat) && a b t) := fun b hb t ht h => by simp [ht, h]
  have l2 : LeB g.blocks.length g.temps.toNat (fun b t => decide (t < g.temps.toNat) && a b t) a := fun b hb t ht h => by simpa [ht] using h
  have hout : ∀ b, b < g.blocks.length → ∀ t, g.temps.toNat ≤ t → stepF g (fun b t => decide (t < g.temps.toNat) && a b t) b t = false := by
    intro b hb t ht
    unfold stepF
    refine stepC_out (n := g.temps.toNat) ht ?_ fun x hx u hu => ?_
    · unfold endF
      have h1 : (eUsesN (nthD g.blocks b).fin).contains (t : Int) = false := by
        rw [Bool.eq_false_iff]
        intro hc
        have := hF.ends _ (nthD_mem hb) _ (List.contains_iff_mem.1 hc)
        omega
      have h2 : ((nextN g b).any fun s => decide (t < g.temps.toNat) && a s.toNat t) = false := by
        rw [List.any_eq_false]
        intro s hs
        simp
        omega
      rw [h1, h2]; rfl
    · have := hF.uses _ (nthD_mem hb) _ hx _ hu
      omega
  refine ⟨⟨⟨fun b hb t ht h1 => ?_, fun p hp b hb t ht h1 => ?_⟩, fun b hb t ht h1 => ?_⟩, fun b hb t ht h1 => ?_⟩
  · have h2 : t < g.temps.toNat := by simp at h1; omega
    exact stepF_mono hF.next l1 hb h2 (h.up b hb t h2 (l2 b hb t h2 h1))
  · have h2 : t < g.temps.toNat := by simp at h1; omega
    exact h.least p (fun b hb t ht h => hp b hb t (by omega) h) b hb t h2 (l2 b hb t h2 h1)
  · rcases Nat.lt_or_ge t g.temps.toNat with h2 | h2
    · exact l1 b hb t h2 (h.down b hb t h2 (stepF_mono hF.next l2 hb h2 h1))
    · rw [hout b hb t h2] at h1
      cases h1
  · simp at h1
    omega
theorem theA_ref {g : Graph} (hg : g.tiny) (hf : g.fits) {a : Nat → Nat → Bool} (h : Least g g.temps.toNat a) {b t : Nat} (hb : b < g.blocks.length) (ht : t < 8000) : theA g b t = (decide (t < g.temps.toNat) && a b t) :=
  (theA_eq (Least.ext hg hf h).1 (Least.ext hg hf h).2 hb ht).symm
def MarksB (p : Nat → Bool) (K : Nat → Prop) : Prop := ∀ j, j < 9 → (p j = true ↔ K j)
theorem setsTo_succ {l : List Ins} {i t : Nat} (h : i < l.length) : setsTo l (i + 1) t ↔ setsTo l i t ∨ setsN (nthD l i) = t := by
  unfold setsTo
  rw [take_succ_nthD h]
  constructor
  · rintro ⟨x, hx, e⟩
    rcases List.mem_append.1 hx with hx | hx
    · exact .inl ⟨x, hx, e⟩
    · rw [List.mem_singleton] at hx
      subst hx
      exact .inr e
  · rintro (⟨x, hx, e⟩ | e)
    · exact ⟨x, List.mem_append_left _ hx, e⟩
    · exact ⟨_, List.mem_append_right _ (by simp), e⟩
theorem setsB_succ {l : List Block} {b t : Nat} (h : b < l.length) : setsB l (b + 1) t ↔ setsB l b t ∨ setsTo (nthD l b).code (nthD l b).code.length t := by
  unfold setsB setsTo
  rw [take_succ_nthD h, List.take_length]
  constructor
  · rintro ⟨x, hx, y, hy, e⟩
    rcases List.mem_append.1 hx with hx | hx
    · exact .inl ⟨x, hx, y, hy, e⟩
    · rw [List.mem_singleton] at hx
      subst hx
      exact .inr ⟨y, hy, e⟩
  · rintro (⟨x, hx, y, hy, e⟩ | ⟨y, hy, e⟩)
    · exact ⟨x, List.mem_append_left _ hx, y, hy, e⟩
    · exact ⟨_, List.mem_append_right _ (by simp), y, hy, e⟩
theorem MarksB.set {p : Nat → Bool} {K : Nat → Prop} (h : MarksB p K) (t : Nat) : MarksB (fun j => if j = t then true else p j) fun j => K j ∨ j = t := fun j hj => by
  by_cases e : j = t
  · simp [e]
  · simp [e, h j hj]
theorem MarksB.to {p : Nat → Bool} {K K' : Nat → Prop} (h : MarksB p K) (e : ∀ j, j < 9 → (K j ↔ K' j)) : MarksB p K' := fun j hj => (h j hj).trans (e j hj)
abbrev lay9V (g : Graph) (p : Nat → Bool) : Sto := [gvar g, .var 29 [.t (.int .i64 0), .t .nsl, .t (.int .i64 0), .t (.int .i64 0), .t (.int .i64 0)], .row 67 1 (bitsR 9 p)]
theorem argsF_eq {g : Graph} (h : g.okF) : addI .i64 ((g.params.map fun n => T.int .i64 n).length : Int) (mulI .i64 2 (parsF g.arrays)) = argsF g := by
  obtain ⟨_, ha2, hw0, hp8⟩ := arrsF_of h.arrs
  have hp0 := parsF_nn (l := g.arrays)
  have h8 := h.few
  have : mulI .i64 2 (parsF g.arrays) = 2 * parsF g.arrays := by
    unfold mulI; simp only [IntKind.wrap, IntKind.bits, IntKind.signed]; simp; omega
  rw [this, List.length_map, addI_i64 (by omega) (by omega)]; rfl
theorem slotsF_eq {g : Graph} (h : g.okF) : maxI (subI .i64 g.temps 9) 0 = slotsF g := by
  have := h.fits.temps
  rw [subI_i64 (by omega) (by omega)]
  unfold maxI slotsF
  split <;> split <;> omega
theorem lay9 (g : Graph) (hg : g.tiny) : PCalls Tryd.prog 9 [g.t] (fun r => Ob ((¬ g.okF ∧ r = .tup [layZ, .int .i64 1]) ∨ (g.okF ∧ r = .tup [layT g, .int .i64 0]))) := by
  refine PCalls.of_body ttOk Tryd.func9 rfl ?_
  repeat' ((conv => whnf); first | (with_reducible first | refine onBool_intro (fun _ => ?_) (fun _ => ?_) | refine And.intro (Ob.mk (Nat.le_of_ble_eq_true rfl)) ?_ | refine And.intro (Ob.mk rfl) ?_ | exact ⟨rfl, rfl⟩ | refine And.intro (Ob.mk (fun h => h)) ?_) | (with_reducible refine Or.inl (And.intro (Ob.mk (Flat.map ?_)) ?_); exact fun _ => rfl) | (refine Or.inl (And.intro (Ob.mk (flat_of rfl)) ?_)) | (refine Or.inl (And.intro (Ob.mk ⟨rfl, rfl, rfl, rfl⟩) ?_)) | (refine Or.inl (And.intro (Ob.mk ⟨rfl, rfl, rfl⟩) ?_)) | (refine And.intro (Ob.mk ⟨rfl, rfl⟩) ?_) | (with_reducible refine Or.inr ?_) | (refine And.intro (Ob.mk (flat_of rfl)) ?_) | (with_reducible refine And.intro (Ob.mk (Flat.map ?_)) ?_; exact fun _ => rfl) | (with_reducible first | exact Ob.mk (Flat.map fun _ => rfl) | refine And.intro ?_ ?_ | apply exG.mk | apply exGS.mk | exact Dd.nil) | (refine Dd.same _ ?_) | (refine Dd.dead _ ?_) | (with_reducible first | apply exQ.mk | apply exP.mk) | (refine EqP.mk rfl rfl) | (with_reducible apply exW.mk) | (refine EqW.mk rfl) | (with_reducible first | intro _ | refine Dn.mk ?_) | (refine exS.full (by first | rfl | (simp; done) | (simp; omega)) ?_) | (refine And.intro (Ob.mk ⟨rfl, rfl, by first | rfl | (simp; done) | (simp; omega)⟩) ?_) | (with_reducible refine exE.mapD ?_) | (refine exL.int ?_) | (with_reducible first | refine Up0.mk rfl ?_ | refine Up0i.mk rfl ?_ | refine Up1.mk rfl ?_ | refine Up1i.mk rfl ?_ | refine Up2.mk rfl ?_ | refine Up2i.mk rfl ?_) | (refine Col.mk rfl rfl rfl ?_) | (refine Coli.mk rfl rfl rfl rfl ?_) | (refine may21k g hg (fun ha => ?_) (fun ha => ?_)) | (refine arrays22y g ?_ ?_) | (refine needed31k g hg ?_ fun a hl => ?_))
  all_goals (try (refine Ob.mk ?_; first | assumption | exact ⟨rfl, rfl⟩ | exact ⟨rfl, rfl, rfl⟩ | (refine ⟨rfl, rfl, ?_⟩; simp only [List.length_map, List.length_take, List.length_append, els_len, List.length_replicate]; omega) | (intro h; exact h) | (intro h; rw [h]; rfl) | (intro h; simp_all; done) | (refine bytes_le (n := 1048577) ?_ rfl; simp only [ltI_iff, ltI_not, leI_iff, leI_not, eqI_iff, eqI_not, List.length_map, bif_and, bif_or, Bool.and_eq_true, Bool.and_eq_false_iff, Bool.or_eq_true, Bool.or_eq_false_iff, Bool.not_eq_true', Bool.not_eq_false', Int.toNat_natCast, beq_iff_eq, beq_eq_false_iff_ne, decide_eq_true_eq, decide_eq_false_iff_not, bel_iff, bel_not, wthn_iff, wthn_not, els_len, mixL_len, Nat.zero_add, List.length_set, List.length_take] at *; omega) | (simp only [ltI_iff, ltI_not, leI_iff, leI_not, eqI_iff, eqI_not, List.length_map, bif_and, bif_or, Bool.and_eq_true, Bool.and_eq_false_iff, Bool.or_eq_true, Bool.or_eq_false_iff, Bool.not_eq_true', Bool.not_eq_false', Int.toNat_natCast, beq_iff_eq, beq_eq_false_iff_ne, decide_eq_true_eq, decide_eq_false_iff_not, bel_iff, bel_not, wthn_iff, wthn_not, els_len, mixL_len, Nat.zero_add, List.length_set, List.length_take, Int.ofNat_eq_natCast] at *; omega)))
  · exact Ob.mk ha.arrs
  · exact Ob.mk ha.fits
  · have hT := ha.fits.temps
    have h1 := ha.fits.one
    obtain ⟨_, ha2, hw0, hp8⟩ := arrsF_of ha.arrs
    have hp0 := parsF_nn (l := g.arrays)
    have hw1 := wordsF_nn ha2
    have h8 := ha.few
    conv => whnf
    refine LoopVC.mk [10] [] (fun m vals σ => ∃ t : Nat, vals = [.t (.int .i64 t)] ∧ σ = lay9V g (fun j => decide (j < t) && a 0 j) ∧ t ≤ 9 ∧ t ≤ g.temps.toNat ∧ m = 9 - t) ?_ ?_
    · conv => whnf
      exact ⟨_, 0, rfl, rfl, Nat.zero_le _, Nat.zero_le _, rfl⟩
    · rintro m vals σ ⟨t, rfl, rfl, ht, ht2, rfl⟩
      repeat' ((conv => whnf); first | (with_reducible first | refine onBool_intro (fun _ => ?_) (fun _ => ?_) | refine And.intro (Ob.mk (Nat.le_of_ble_eq_true rfl)) ?_ | refine And.intro (Ob.mk rfl) ?_ | exact ⟨rfl, rfl⟩ | refine And.intro (Ob.mk (fun h => h)) ?_) | (with_reducible refine Or.inl (And.intro (Ob.mk (Flat.map ?_)) ?_); exact fun _ => rfl) | (refine Or.inl (And.intro (Ob.mk (flat_of rfl)) ?_)) | (refine Or.inl (And.intro (Ob.mk ⟨rfl, rfl, rfl, rfl⟩) ?_)) | (refine Or.inl (And.intro (Ob.mk ⟨rfl, rfl, rfl⟩) ?_)) | (refine And.intro (Ob.mk ⟨rfl, rfl⟩) ?_) | (with_reducible refine Or.inr ?_) | (refine And.intro (Ob.mk (flat_of rfl)) ?_) | (with_reducible refine And.intro (Ob.mk (Flat.map ?_)) ?_; exact fun _ => rfl) | (with_reducible first | exact Ob.mk (Flat.map fun _ => rfl) | refine And.intro ?_ ?_ | apply exG.mk | apply exGS.mk | exact Dd.nil) | (refine Dd.same _ ?_) | (refine Dd.dead _ ?_) | (with_reducible first | apply exQ.mk | apply exP.mk) | (refine EqP.mk rfl rfl) | (with_reducible apply exW.mk) | (refine EqW.mk rfl) | (with_reducible first | intro _ | refine Dn.mk ?_) | (refine exS.full (by first | rfl | (simp; done) | (simp; omega)) ?_) | (refine And.intro (Ob.mk ⟨rfl, rfl, by first | rfl | (simp; done) | (simp; omega)⟩) ?_) | (with_reducible refine exE.mapD ?_) | (refine exL.int ?_) | (with_reducible first | refine Up0.mk rfl ?_ | refine Up0i.mk rfl ?_ | refine Up1.mk rfl ?_ | refine Up1i.mk rfl ?_ | refine Up2.mk rfl ?_ | refine Up2i.mk rfl ?_) | (refine Col.mk rfl rfl rfl ?_) | (refine Coli.mk rfl rfl rfl rfl ?_))
      all_goals (try (refine Ob.mk ?_; first | assumption | exact ⟨rfl, rfl⟩ | exact ⟨rfl, rfl, rfl⟩ | (refine ⟨rfl, rfl, ?_⟩; simp only [List.length_map, List.length_take, List.length_append, els_len, List.length_replicate]; omega) | (intro h; exact h) | (intro h; rw [h]; rfl) | (intro h; simp_all; done) | (refine bytes_le (n := 1048577) ?_ rfl; simp only [ltI_iff, ltI_not, leI_iff, leI_not, eqI_iff, eqI_not, List.length_map, bif_and, bif_or, Bool.and_eq_true, Bool.and_eq_false_iff, Bool.or_eq_true, Bool.or_eq_false_iff, Bool.not_eq_true', Bool.not_eq_false', Int.toNat_natCast, beq_iff_eq, beq_eq_false_iff_ne, decide_eq_true_eq, decide_eq_false_iff_not, bel_iff, bel_not, wthn_iff, wthn_not, els_len, mixL_len, Nat.zero_add, List.length_set, List.length_take] at *; omega) | (simp only [ltI_iff, ltI_not, leI_iff, leI_not, eqI_iff, eqI_not, List.length_map, bif_and, bif_or, Bool.and_eq_true, Bool.and_eq_false_iff, Bool.or_eq_true, Bool.or_eq_false_iff, Bool.not_eq_true', Bool.not_eq_false', Int.toNat_natCast, beq_iff_eq, beq_eq_false_iff_ne, decide_eq_true_eq, decide_eq_false_iff_not, bel_iff, bel_not, wthn_iff, wthn_not, els_len, mixL_len, Nat.zero_add, List.length_set, List.length_take, Int.ofNat_eq_natCast] at *; omega)))
      all_goals
        rename_i h2
        simp only [bif_and, Bool.and_eq_true, Bool.and_eq_false_iff, ltI_iff, ltI_not] at h2
      · refine Ob.mk ?_
        simp only [List.length_map, List.length_range]; omega
      · refine Ob.mk ?_
        simp only [List.length_map, List.length_range]; omega
      · refine Ob.mk ?_
        simp only [List.length_map, List.length_range]; omega
      · have e0 : nthD (List.range g.blocks.length) (Int.toNat 0) = 0 := nthD_range (by omega)
        conv => whnf
        refine ⟨9 - (t + 1), by omega, t + 1, ?_, ?_, by omega, by omega, rfl⟩
        · rw [addI_i64 (by omega) (by omega)]; rfl
        · rw [e0, Int.toNat_natCast, nthD_range (by omega), nthD_range (by omega)]
          refine congrArg (fun z => [gvar g, .var 29 [.t (.int .i64 0), .t .nsl, .t (.int .i64 0), .t (.int .i64 0), .t (.int .i64 0)], SObj.row 67 1 z]) (bitsR_set.trans (bitsR_congr fun j hj => ?_))
          by_cases e : j = 0 + t
          · rw [if_pos e, show j = t by omega]; simp
          · rw [if_neg e]
            by_cases e2 : j < t
            · simp [e2, show j < t + 1 by omega]
            · simp [e2, show ¬ j < t + 1 by omega]
      · have hB : MarksB (fun j => decide (j < t) && a 0 j) fun j => theA g 0 j = true := fun j hj => by
          show (decide (j < t) && a 0 j) = true ↔ theA g 0 j = true
          rw [theA_ref hg ha.fits hl (by omega) (by omega)]
          simp only [Bool.and_eq_true, decide_eq_true_eq]
          exact and_congr_left fun _ => by omega
        clear h2 ht ht2
        generalize hpe : (fun j => decide (j < t) && a 0 j) = p at *
        clear hpe
        conv => whnf
        refine LoopVC.mk [11] [] (fun m vals σ => ∃ (i : Nat) (p : Nat → Bool), vals = [.t (.int .i64 i)] ∧ σ = lay9V g p ∧ i ≤ g.params.length ∧ m = g.params.length - i ∧ MarksB p fun t => theA g 0 t = true ∨ (t : Int) ∈ g.params.take i) ?_ ?_
        · conv => whnf
          exact ⟨_, 0, p, rfl, rfl, Nat.zero_le _, rfl, fun j hj => (hB j hj).trans (by simp)⟩
        · clear hB
          rintro m vals σ ⟨i, p, rfl, rfl, hi, rfl, hB⟩
          repeat' ((conv => whnf); first | (with_reducible first | refine onBool_intro (fun _ => ?_) (fun _ => ?_) | refine And.intro (Ob.mk (Nat.le_of_ble_eq_true rfl)) ?_ | refine And.intro (Ob.mk rfl) ?_ | exact ⟨rfl, rfl⟩ | refine And.intro (Ob.mk (fun h => h)) ?_) | (with_reducible refine Or.inl (And.intro (Ob.mk (Flat.map ?_)) ?_); exact fun _ => rfl) | (refine Or.inl (And.intro (Ob.mk (flat_of rfl)) ?_)) | (refine Or.inl (And.intro (Ob.mk ⟨rfl, rfl, rfl, rfl⟩) ?_)) | (refine Or.inl (And.intro (Ob.mk ⟨rfl, rfl, rfl⟩) ?_)) | (refine And.intro (Ob.mk ⟨rfl, rfl⟩) ?_) | (with_reducible refine Or.inr ?_) | (refine And.intro (Ob.mk (flat_of rfl)) ?_) | (with_reducible refine And.intro (Ob.mk (Flat.map ?_)) ?_; exact fun _ => rfl) | (with_reducible first | exact Ob.mk (Flat.map fun _ => rfl) | refine And.intro ?_ ?_ | apply exG.mk | apply exGS.mk | exact Dd.nil) | (refine Dd.same _ ?_) | (refine Dd.dead _ ?_) | (with_reducible first | apply exQ.mk | apply exP.mk) | (refine EqP.mk rfl rfl) | (with_reducible apply exW.mk) | (refine EqW.mk rfl) | (with_reducible first | intro _ | refine Dn.mk ?_) | (refine exS.full (by first | rfl | (simp; done) | (simp; omega)) ?_) | (refine And.intro (Ob.mk ⟨rfl, rfl, by first | rfl | (simp; done) | (simp; omega)⟩) ?_) | (with_reducible refine exE.mapD ?_) | (refine exL.int ?_) | (with_reducible first | refine Up0.mk rfl ?_ | refine Up0i.mk rfl ?_ | refine Up1.mk rfl ?_ | refine Up1i.mk rfl ?_ | refine Up2.mk rfl ?_ | refine Up2i.mk rfl ?_) | (refine Col.mk rfl rfl rfl ?_) | (refine Coli.mk rfl rfl rfl rfl ?_))
          all_goals (try (refine Ob.mk ?_; first | assumption | exact ⟨rfl, rfl⟩ | exact ⟨rfl, rfl, rfl⟩ | (refine ⟨rfl, rfl, ?_⟩; simp only [List.length_map, List.length_take, List.length_append, els_len, List.length_replicate]; omega) | (intro h; exact h) | (intro h; rw [h]; rfl) | (intro h; simp_all; done) | (refine bytes_le (n := 1048577) ?_ rfl; simp only [ltI_iff, ltI_not, leI_iff, leI_not, eqI_iff, eqI_not, List.length_map, bif_and, bif_or, Bool.and_eq_true, Bool.and_eq_false_iff, Bool.or_eq_true, Bool.or_eq_false_iff, Bool.not_eq_true', Bool.not_eq_false', Int.toNat_natCast, beq_iff_eq, beq_eq_false_iff_ne, decide_eq_true_eq, decide_eq_false_iff_not, bel_iff, bel_not, wthn_iff, wthn_not, els_len, mixL_len, Nat.zero_add, List.length_set, List.length_take] at *; omega) | (simp only [ltI_iff, ltI_not, leI_iff, leI_not, eqI_iff, eqI_not, List.length_map, bif_and, bif_or, Bool.and_eq_true, Bool.and_eq_false_iff, Bool.or_eq_true, Bool.or_eq_false_iff, Bool.not_eq_true', Bool.not_eq_false', Int.toNat_natCast, beq_iff_eq, beq_eq_false_iff_ne, decide_eq_true_eq, decide_eq_false_iff_not, bel_iff, bel_not, wthn_iff, wthn_not, els_len, mixL_len, Nat.zero_add, List.length_set, List.length_take, Int.ofNat_eq_natCast] at *; omega)))
          · rename_i h2 h3
            rw [ltI_iff, List.length_map] at h2
            rw [Int.toNat_natCast]
            exact Ob.mk (ha.rng _ (nthD_mem (by omega))).1
          · rename_i h2 h3
            rw [ltI_iff, List.length_map] at h2
            have := (ha.rng _ (nthD_mem (show i < g.params.length by omega))).1
            rw [Int.toNat_natCast, ltI_iff] at h3
            refine Ob.mk ?_
            rw [List.length_map, List.length_range, Int.toNat_natCast]; omega
          · rename_i h2 h3
            rw [ltI_iff, List.length_map] at h2
            have := (ha.rng _ (nthD_mem (show i < g.params.length by omega))).1
            rw [Int.toNat_natCast, ltI_iff] at h3
            conv => whnf
            refine ⟨g.params.length - (i + 1), by omega, i + 1, _, ?_, congrArg (fun z => [gvar g, .var 29 [.t (.int .i64 0), .t .nsl, .t (.int .i64 0), .t (.int .i64 0), .t (.int .i64 0)], SObj.row 67 1 z]) bitsR_set, by omega, rfl, (hB.set _).to fun j hj => ?_⟩
            · rw [addI_i64 (by omega) (by omega)]; rfl
            · rw [take_succ_nthD (by omega), List.mem_append, List.mem_singleton, Int.toNat_natCast, or_assoc]
              refine or_congr Iff.rfl (or_congr Iff.rfl ?_)
              omega
          · rename_i h2 h3
            rw [ltI_iff, List.length_map] at h2
            rw [Int.toNat_natCast, ltI_not] at h3
            conv => whnf
            refine ⟨g.params.length - (i + 1), by omega, i + 1, p, ?_, rfl, by omega, rfl, hB.to fun j hj => ?_⟩
            · rw [addI_i64 (by omega) (by omega)]; rfl
            · rw [take_succ_nthD (by omega), List.mem_append, List.mem_singleton]
              refine or_congr Iff.rfl ⟨.inl, fun h => h.elim id fun h => ?_⟩
              omega
          · rename_i h2
            rw [ltI_not, List.length_map] at h2
            rw [List.take_of_length_le (by omega)] at hB
            clear hi h2
            conv => whnf
            refine LoopVC.mk [12] [] (fun m vals σ => ∃ (b : Nat) (p : Nat → Bool), vals = [.t (.int .i64 b)] ∧ σ = lay9V g p ∧ b ≤ g.blocks.length ∧ m = g.blocks.length - b ∧ MarksB p fun t => theA g 0 t = true ∨ (t : Int) ∈ g.params ∨ setsB g.blocks b t) ?_ ?_
            · conv => whnf
              exact ⟨_, 0, p, rfl, rfl, Nat.zero_le _, rfl, hB.to fun j hj => by simp [setsB]⟩
            · clear hB
              rintro m vals σ ⟨b, p, rfl, rfl, hb, rfl, hB⟩
              have hbl := hg.blocks
              repeat' ((conv => whnf); first | (with_reducible first | refine onBool_intro (fun _ => ?_) (fun _ => ?_) | refine And.intro (Ob.mk (Nat.le_of_ble_eq_true rfl)) ?_ | refine And.intro (Ob.mk rfl) ?_ | exact ⟨rfl, rfl⟩ | refine And.intro (Ob.mk (fun h => h)) ?_) | (with_reducible refine Or.inl (And.intro (Ob.mk (Flat.map ?_)) ?_); exact fun _ => rfl) | (refine Or.inl (And.intro (Ob.mk (flat_of rfl)) ?_)) | (refine Or.inl (And.intro (Ob.mk ⟨rfl, rfl, rfl, rfl⟩) ?_)) | (refine Or.inl (And.intro (Ob.mk ⟨rfl, rfl, rfl⟩) ?_)) | (refine And.intro (Ob.mk ⟨rfl, rfl⟩) ?_) | (with_reducible refine Or.inr ?_) | (refine And.intro (Ob.mk (flat_of rfl)) ?_) | (with_reducible refine And.intro (Ob.mk (Flat.map ?_)) ?_; exact fun _ => rfl) | (with_reducible first | exact Ob.mk (Flat.map fun _ => rfl) | refine And.intro ?_ ?_ | apply exG.mk | apply exGS.mk | exact Dd.nil) | (refine Dd.same _ ?_) | (refine Dd.dead _ ?_) | (with_reducible first | apply exQ.mk | apply exP.mk) | (refine EqP.mk rfl rfl) | (with_reducible apply exW.mk) | (refine EqW.mk rfl) | (with_reducible first | intro _ | refine Dn.mk ?_) | (refine exS.full (by first | rfl | (simp; done) | (simp; omega)) ?_) | (refine And.intro (Ob.mk ⟨rfl, rfl, by first | rfl | (simp; done) | (simp; omega)⟩) ?_) | (with_reducible refine exE.mapD ?_) | (refine exL.int ?_) | (with_reducible first | refine Up0.mk rfl ?_ | refine Up0i.mk rfl ?_ | refine Up1.mk rfl ?_ | refine Up1i.mk rfl ?_ | refine Up2.mk rfl ?_ | refine Up2i.mk rfl ?_) | (refine Col.mk rfl rfl rfl ?_) | (refine Coli.mk rfl rfl rfl rfl ?_))
              all_goals (try (refine Ob.mk ?_; first | assumption | exact ⟨rfl, rfl⟩ | exact ⟨rfl, rfl, rfl⟩ | (refine ⟨rfl, rfl, ?_⟩; simp only [List.length_map, List.length_take, List.length_append, els_len, List.length_replicate]; omega) | (intro h; exact h) | (intro h; rw [h]; rfl) | (intro h; simp_all; done) | (refine bytes_le (n := 1048577) ?_ rfl; simp only [ltI_iff, ltI_not, leI_iff, leI_not, eqI_iff, eqI_not, List.length_map, bif_and, bif_or, Bool.and_eq_true, Bool.and_eq_false_iff, Bool.or_eq_true, Bool.or_eq_false_iff, Bool.not_eq_true', Bool.not_eq_false', Int.toNat_natCast, beq_iff_eq, beq_eq_false_iff_ne, decide_eq_true_eq, decide_eq_false_iff_not, bel_iff, bel_not, wthn_iff, wthn_not, els_len, mixL_len, Nat.zero_add, List.length_set, List.length_take] at *; omega) | (simp only [ltI_iff, ltI_not, leI_iff, leI_not, eqI_iff, eqI_not, List.length_map, bif_and, bif_or, Bool.and_eq_true, Bool.and_eq_false_iff, Bool.or_eq_true, Bool.or_eq_false_iff, Bool.not_eq_true', Bool.not_eq_false', Int.toNat_natCast, beq_iff_eq, beq_eq_false_iff_ne, decide_eq_true_eq, decide_eq_false_iff_not, bel_iff, bel_not, wthn_iff, wthn_not, els_len, mixL_len, Nat.zero_add, List.length_set, List.length_take, Int.ofNat_eq_natCast] at *; omega)))
              · rename_i h2
                rw [ltI_iff, List.length_map] at h2
                have h2 : b < g.blocks.length := by omega
                have hbt := (hg.all _ (nthD_mem h2)).code
                conv => whnf
                refine LoopVC.mk [13] [] (fun m vals σ => ∃ (i : Nat) (p : Nat → Bool), vals = [.t (.int .i64 i)] ∧ σ = lay9V g p ∧ i ≤ (nthD g.blocks b).code.length ∧ m = (nthD g.blocks b).code.length - i ∧ MarksB p fun t => theA g 0 t = true ∨ (t : Int) ∈ g.params ∨ setsB g.blocks b t ∨ setsTo (nthD g.blocks b).code i t) ?_ ?_
                · conv => whnf
                  exact ⟨_, 0, p, rfl, rfl, Nat.zero_le _, rfl, hB.to fun j hj => by simp [setsTo]⟩
                · clear hB
                  rintro m vals σ ⟨i, p, rfl, rfl, hi, rfl, hB⟩
                  repeat' ((conv => whnf); first | (with_reducible first | refine onBool_intro (fun _ => ?_) (fun _ => ?_) | refine And.intro (Ob.mk (Nat.le_of_ble_eq_true rfl)) ?_ | refine And.intro (Ob.mk rfl) ?_ | exact ⟨rfl, rfl⟩ | refine And.intro (Ob.mk (fun h => h)) ?_) | (with_reducible refine Or.inl (And.intro (Ob.mk (Flat.map ?_)) ?_); exact fun _ => rfl) | (refine Or.inl (And.intro (Ob.mk (flat_of rfl)) ?_)) | (refine Or.inl (And.intro (Ob.mk ⟨rfl, rfl, rfl, rfl⟩) ?_)) | (refine Or.inl (And.intro (Ob.mk ⟨rfl, rfl, rfl⟩) ?_)) | (refine And.intro (Ob.mk ⟨rfl, rfl⟩) ?_) | (with_reducible refine Or.inr ?_) | (refine And.intro (Ob.mk (flat_of rfl)) ?_) | (with_reducible refine And.intro (Ob.mk (Flat.map ?_)) ?_; exact fun _ => rfl) | (with_reducible first | exact Ob.mk (Flat.map fun _ => rfl) | refine And.intro ?_ ?_ | apply exG.mk | apply exGS.mk | exact Dd.nil) | (refine Dd.same _ ?_) | (refine Dd.dead _ ?_) | (with_reducible first | apply exQ.mk | apply exP.mk) | (refine EqP.mk rfl rfl) | (with_reducible apply exW.mk) | (refine EqW.mk rfl) | (with_reducible first | intro _ | refine Dn.mk ?_) | (refine exS.full (by first | rfl | (simp; done) | (simp; omega)) ?_) | (refine And.intro (Ob.mk ⟨rfl, rfl, by first | rfl | (simp; done) | (simp; omega)⟩) ?_) | (with_reducible refine exE.mapD ?_) | (refine exL.int ?_) | (with_reducible first | refine Up0.mk rfl ?_ | refine Up0i.mk rfl ?_ | refine Up1.mk rfl ?_ | refine Up1i.mk rfl ?_ | refine Up2.mk rfl ?_ | refine Up2i.mk rfl ?_) | (refine Col.mk rfl rfl rfl ?_) | (refine Coli.mk rfl rfl rfl rfl ?_) | (refine PCalls.mono (sets26 _) ?_; rintro _ rfl))
                  all_goals (try (refine Ob.mk ?_; first | assumption | exact ⟨rfl, rfl⟩ | exact ⟨rfl, rfl, rfl⟩ | (refine ⟨rfl, rfl, ?_⟩; simp only [List.length_map, List.length_take, List.length_append, els_len, List.length_replicate]; omega) | (intro h; exact h) | (intro h; rw [h]; rfl) | (intro h; simp_all; done) | (refine bytes_le (n := 1048577) ?_ rfl; simp only [ltI_iff, ltI_not, leI_iff, leI_not, eqI_iff, eqI_not, List.length_map, bif_and, bif_or, Bool.and_eq_true, Bool.and_eq_false_iff, Bool.or_eq_true, Bool.or_eq_false_iff, Bool.not_eq_true', Bool.not_eq_false', Int.toNat_natCast, beq_iff_eq, beq_eq_false_iff_ne, decide_eq_true_eq, decide_eq_false_iff_not, bel_iff, bel_not, wthn_iff, wthn_not, els_len, mixL_len, Nat.zero_add, List.length_set, List.length_take] at *; omega) | (simp only [ltI_iff, ltI_not, leI_iff, leI_not, eqI_iff, eqI_not, List.length_map, bif_and, bif_or, Bool.and_eq_true, Bool.and_eq_false_iff, Bool.or_eq_true, Bool.or_eq_false_iff, Bool.not_eq_true', Bool.not_eq_false', Int.toNat_natCast, beq_iff_eq, beq_eq_false_iff_ne, decide_eq_true_eq, decide_eq_false_iff_not, bel_iff, bel_not, wthn_iff, wthn_not, els_len, mixL_len, Nat.zero_add, List.length_set, List.length_take, Int.ofNat_eq_natCast] at *; omega)))
                  · rename_i h3 h4
                    refine Ob.mk ?_
                    simp only [bif_and, Bool.and_eq_true, leI_iff, ltI_iff] at h4
                    rw [List.length_map, List.length_range]; omega
                  · rename_i h3 h4
                    rw [ltI_iff, List.length_map, Int.toNat_natCast] at h3
                    simp only [bif_and, Bool.and_eq_true, leI_iff, ltI_iff, Int.toNat_natCast] at h4
                    conv => whnf
                    refine ⟨(nthD g.blocks b).code.length - (i + 1), by omega, i + 1, _, ?_, congrArg (fun z => [gvar g, .var 29 [.t (.int .i64 0), .t .nsl, .t (.int .i64 0), .t (.int .i64 0), .t (.int .i64 0)], SObj.row 67 1 z]) bitsR_set, by omega, rfl, (hB.set _).to fun j hj => ?_⟩
                    · rw [addI_i64 (by omega) (by omega)]; rfl
                    · rw [setsTo_succ (by omega), or_assoc, or_assoc, or_assoc, Int.toNat_natCast, Int.toNat_natCast]
                      refine or_congr Iff.rfl (or_congr Iff.rfl (or_congr Iff.rfl (or_congr Iff.rfl ?_)))
                      omega
                  · rename_i h3 h4
                    rw [ltI_iff, List.length_map, Int.toNat_natCast] at h3
                    simp only [bif_and, Bool.and_eq_false_iff, leI_not, ltI_not, Int.toNat_natCast] at h4
                    conv => whnf
                    refine ⟨(nthD g.blocks b).code.length - (i + 1), by omega, i + 1, p, ?_, rfl, by omega, rfl, hB.to fun j hj => ?_⟩
                    · rw [addI_i64 (by omega) (by omega)]; rfl
                    · rw [setsTo_succ (by omega)]
                      refine or_congr Iff.rfl (or_congr Iff.rfl (or_congr Iff.rfl ⟨.inl, fun h => h.elim id fun h => ?_⟩))
                      omega
                  · rename_i h3
                    rw [ltI_not, List.length_map, Int.toNat_natCast] at h3
                    have hie : i = (nthD g.blocks b).code.length := by omega
                    subst hie
                    conv => whnf
                    refine ⟨g.blocks.length - (b + 1), by omega, b + 1, p, ?_, rfl, by omega, rfl, hB.to fun j hj => ?_⟩
                    · rw [addI_i64 (by omega) (by omega)]; rfl
                    · rw [setsB_succ h2]
              all_goals
                rename_i h2 h3 _
                rw [ltI_not, List.length_map] at h2
                have hbe : b = g.blocks.length := by omega
                subst hbe
              all_goals
                have ea : addI .i64 ((g.params.map fun n => T.int .i64 n).length : Int) (mulI .i64 2 (parsF g.arrays)) = argsF g := argsF_eq ha
                have es : maxI (subI .i64 g.temps 9) 0 = slotsF g := slotsF_eq ha
              · have hq : MarksB (fun j => if j = 0 + Int.toNat 0 then true else p j) (keptF g (wordsF g.arrays) (theA g 0)) := (hB.set _).to fun j hj => by
                  unfold keptF
                  rw [or_assoc, or_assoc]
                  refine or_congr Iff.rfl (or_congr Iff.rfl (or_congr Iff.rfl ?_))
                  have := ltI_iff.1 h3
                  have e : 0 + Int.toNat 0 = 0 := rfl
                  rw [e]
                  omega
                have hr : (bitsR 9 p).set (0 + Int.toNat 0) (.bool true) = bitsR 9 (fun j => if j = 0 + Int.toNat 0 then true else p j) := bitsR_set
                generalize (fun j => if j = 0 + Int.toNat 0 then true else p j) = q at *
                conv => whnf
                rw [ea, es]
                refine LoopVC.mkA [16] [] [(3, 1, 3, 1)] [] (fun m vals σ => ∃ i : Nat, vals = [.t (.int .i64 i)] ∧ σ = lay9V g q ++ [.var 29 [.t (.int .i64 (argsF g)), .osl 4 0 (liveN i q).length, .t (.int .i64 (slotsF g)), .t (.int .i64 (wordsF g.arrays)), .t (.int .i64 0)], .row 3 1 ((liveN i q).map fun n => .int .i64 n)] ∧ i ≤ 9 ∧ m = 9 - i) ?_ ?_
                · repeat' ((conv => whnf); first | (with_reducible first | refine onBool_intro (fun _ => ?_) (fun _ => ?_) | refine And.intro (Ob.mk (Nat.le_of_ble_eq_true rfl)) ?_ | refine And.intro (Ob.mk rfl) ?_ | exact ⟨rfl, rfl⟩ | refine And.intro (Ob.mk (fun h => h)) ?_) | (with_reducible refine Or.inl (And.intro (Ob.mk (Flat.map ?_)) ?_); exact fun _ => rfl) | (refine Or.inl (And.intro (Ob.mk (flat_of rfl)) ?_)) | (refine Or.inl (And.intro (Ob.mk ⟨rfl, rfl, rfl, rfl⟩) ?_)) | (refine Or.inl (And.intro (Ob.mk ⟨rfl, rfl, rfl⟩) ?_)) | (refine And.intro (Ob.mk ⟨rfl, rfl⟩) ?_) | (with_reducible refine Or.inr ?_) | (refine And.intro (Ob.mk (flat_of rfl)) ?_) | (with_reducible refine And.intro (Ob.mk (Flat.map ?_)) ?_; exact fun _ => rfl) | (with_reducible first | exact Ob.mk (Flat.map fun _ => rfl) | refine And.intro ?_ ?_ | apply exG.mk | apply exGS.mk | exact Dd.nil) | (refine Dd.same _ ?_) | (refine Dd.dead _ ?_) | (with_reducible first | apply exQ.mk | apply exP.mk) | (refine EqP.mk rfl rfl) | (with_reducible apply exW.mk) | (refine EqW.mk rfl) | (with_reducible first | intro _ | refine Dn.mk ?_) | (refine exS.full (by first | rfl | (simp; done) | (simp; omega)) ?_) | (refine And.intro (Ob.mk ⟨rfl, rfl, by first | rfl | (simp; done) | (simp; omega)⟩) ?_) | (with_reducible refine exE.mapD ?_) | (refine exL.int ?_) | (with_reducible first | refine Up0.mk rfl ?_ | refine Up0i.mk rfl ?_ | refine Up1.mk rfl ?_ | refine Up1i.mk rfl ?_ | refine Up2.mk rfl ?_ | refine Up2i.mk rfl ?_) | (refine Col.mk rfl rfl rfl ?_) | (refine Coli.mk rfl rfl rfl rfl ?_))
                  refine ⟨_, 0, rfl, ?_, by omega, rfl⟩
                  exact congrArg (fun z => [gvar g, .var 29 [.t (.int .i64 0), .t .nsl, .t (.int .i64 0), .t (.int .i64 0), .t (.int .i64 0)], SObj.row 67 1 z, .var 29 [.t (.int .i64 (argsF g)), .osl 4 0 0, .t (.int .i64 (slotsF g)), .t (.int .i64 (wordsF g.arrays)), .t (.int .i64 0)], .row 3 1 []]) hr
                · rintro m vals σ ⟨i, rfl, rfl, hi, rfl⟩
                  have hl := liveN_len (n := i) (f := q)
                  repeat' ((conv => whnf); first | (with_reducible first | refine onBool_intro (fun _ => ?_) (fun _ => ?_) | refine And.intro (Ob.mk (Nat.le_of_ble_eq_true rfl)) ?_ | refine And.intro (Ob.mk rfl) ?_ | exact ⟨rfl, rfl⟩ | refine And.intro (Ob.mk (fun h => h)) ?_) | (with_reducible refine Or.inl (And.intro (Ob.mk (Flat.map ?_)) ?_); exact fun _ => rfl) | (refine Or.inl (And.intro (Ob.mk (flat_of rfl)) ?_)) | (refine Or.inl (And.intro (Ob.mk ⟨rfl, rfl, rfl, rfl⟩) ?_)) | (refine Or.inl (And.intro (Ob.mk ⟨rfl, rfl, rfl⟩) ?_)) | (refine And.intro (Ob.mk ⟨rfl, rfl⟩) ?_) | (with_reducible refine Or.inr ?_) | (refine And.intro (Ob.mk (flat_of rfl)) ?_) | (with_reducible refine And.intro (Ob.mk (Flat.map ?_)) ?_; exact fun _ => rfl) | (with_reducible first | exact Ob.mk (Flat.map fun _ => rfl) | refine And.intro ?_ ?_ | apply exG.mk | apply exGS.mk | exact Dd.nil) | (refine Dd.same _ ?_) | (refine Dd.dead _ ?_) | (with_reducible first | apply exQ.mk | apply exP.mk) | (refine EqP.mk rfl rfl) | (with_reducible apply exW.mk) | (refine EqW.mk rfl) | (with_reducible first | intro _ | refine Dn.mk ?_) | (refine exS.full (by first | rfl | (simp; done) | (simp; omega)) ?_) | (refine And.intro (Ob.mk ⟨rfl, rfl, by first | rfl | (simp; done) | (simp; omega)⟩) ?_) | (with_reducible refine exE.mapD ?_) | (refine exL.int ?_) | (with_reducible first | refine Up0.mk rfl ?_ | refine Up0i.mk rfl ?_ | refine Up1.mk rfl ?_ | refine Up1i.mk rfl ?_ | refine Up2.mk rfl ?_ | refine Up2i.mk rfl ?_) | (refine Col.mk rfl rfl rfl ?_) | (refine Coli.mk rfl rfl rfl rfl ?_))
                  all_goals (try (refine Ob.mk ?_; first | assumption | exact ⟨rfl, rfl⟩ | exact ⟨rfl, rfl, rfl⟩ | (refine ⟨rfl, rfl, ?_⟩; simp only [List.length_map, List.length_take, List.length_append, els_len, List.length_replicate]; omega) | (intro h; exact h) | (intro h; rw [h]; rfl) | (intro h; simp_all; done) | (refine bytes_le (n := 1048577) ?_ rfl; simp only [ltI_iff, ltI_not, leI_iff, leI_not, eqI_iff, eqI_not, List.length_map, bif_and, bif_or, Bool.and_eq_true, Bool.and_eq_false_iff, Bool.or_eq_true, Bool.or_eq_false_iff, Bool.not_eq_true', Bool.not_eq_false', Int.toNat_natCast, beq_iff_eq, beq_eq_false_iff_ne, decide_eq_true_eq, decide_eq_false_iff_not, bel_iff, bel_not, wthn_iff, wthn_not, els_len, mixL_len, Nat.zero_add, List.length_set, List.length_take] at *; omega) | (simp only [ltI_iff, ltI_not, leI_iff, leI_not, eqI_iff, eqI_not, List.length_map, bif_and, bif_or, Bool.and_eq_true, Bool.and_eq_false_iff, Bool.or_eq_true, Bool.or_eq_false_iff, Bool.not_eq_true', Bool.not_eq_false', Int.toNat_natCast, beq_iff_eq, beq_eq_false_iff_ne, decide_eq_true_eq, decide_eq_false_iff_not, bel_iff, bel_not, wthn_iff, wthn_not, els_len, mixL_len, Nat.zero_add, List.length_set, List.length_take, Int.ofNat_eq_natCast] at *; omega)))
                  all_goals (try (rename_i h4; refine Ob.mk ?_; have := ltI_iff.1 h4; simp only [List.length_map, List.length_range]; omega))
                  · rename_i h4 h5
                    have h4 : i < 9 := by have := ltI_iff.1 h4; omega
                    rw [nthD_range (by omega), show 0 + (i : Int).toNat = i by omega] at h5
                    conv => whnf
                    refine ⟨9 - (i + 1), by omega, i + 1, ?_, ?_, h4, rfl⟩
                    · rw [addI_i64 (by omega) (by omega)]; rfl
                    · rw [liveN_succ, if_pos h5, List.map_append, List.length_append]
                      rfl
                  · rename_i h4 h5
                    have h4 : i < 9 := by have := ltI_iff.1 h4; omega
                    rw [nthD_range (by omega), show 0 + (i : Int).toNat = i by omega] at h5
                    conv => whnf
                    refine ⟨9 - (i + 1), by omega, i + 1, ?_, ?_, h4, rfl⟩
                    · rw [addI_i64 (by omega) (by omega)]; rfl
                    · rw [liveN_succ, if_neg (by simp [h5]), List.append_nil]; rfl
                  · rename_i h4 _
                    have h4 : i = 9 := by have := ltI_not.1 h4; omega
                    subst h4
                    have hs : liveN 9 q = savedF g := by
                      unfold savedF
                      refine liveN_congr fun t ht => ?_
                      rw [Bool.eq_iff_iff, tr_iff, hq t ht]
                    have hsl : slotsF g ≤ 8000 ∧ 0 ≤ slotsF g := by unfold slotsF; split <;> omega
                    have hal : argsF g ≤ 24 ∧ 0 ≤ argsF g := by unfold argsF; omega
                    refine Ob.mk (.inr ⟨ha, ?_⟩)
                    rw [hs] at hl ⊢
                    rw [addI_i64 (x := argsF g) (by omega) (by omega), addI_i64 (x := argsF g + _) (by omega) (by omega), addI_i64 (x := argsF g + _ + _) (by omega) (by omega)]
                    rfl
              · have hq : MarksB p (keptF g (wordsF g.arrays) (theA g 0)) := hB.to fun j hj => by
                  unfold keptF
                  refine or_congr Iff.rfl (or_congr Iff.rfl ⟨.inl, fun h => h.elim id fun h => ?_⟩)
                  have := ltI_not.1 h3
                  omega
                generalize p = q at *
                conv => whnf
                rw [ea, es]
                refine LoopVC.mkA [16] [] [(3, 1, 3, 1)] [] (fun m vals σ => ∃ i : Nat, vals = [.t (.int .i64 i)] ∧ σ = lay9V g q ++ [.var 29 [.t (.int .i64 (argsF g)), .osl 4 0 (liveN i q).length, .t (.int .i64 (slotsF g)), .t (.int .i64 (wordsF g.arrays)), .t (.int .i64 0)], .row 3 1 ((liveN i q).map fun n => .int .i64 n)] ∧ i ≤ 9 ∧ m = 9 - i) ?_ ?_
                · repeat' ((conv => whnf); first | (with_reducible first | refine onBool_intro (fun _ => ?_) (fun _ => ?_) | refine And.intro (Ob.mk (Nat.le_of_ble_eq_true rfl)) ?_ | refine And.intro (Ob.mk rfl) ?_ | exact ⟨rfl, rfl⟩ | refine And.intro (Ob.mk (fun h => h)) ?_) | (with_reducible refine Or.inl (And.intro (Ob.mk (Flat.map ?_)) ?_); exact fun _ => rfl) | (refine Or.inl (And.intro (Ob.mk (flat_of rfl)) ?_)) | (refine Or.inl (And.intro (Ob.mk ⟨rfl, rfl, rfl, rfl⟩) ?_)) | (refine Or.inl (And.intro (Ob.mk ⟨rfl, rfl, rfl⟩) ?_)) | (refine And.intro (Ob.mk ⟨rfl, rfl⟩) ?_) | (with_reducible refine Or.inr ?_) | (refine And.intro (Ob.mk (flat_of rfl)) ?_) | (with_reducible refine And.intro (Ob.mk (Flat.map ?_)) ?_; exact fun _ => rfl) | (with_reducible first | exact Ob.mk (Flat.map fun _ => rfl) | refine And.intro ?_ ?_ | apply exG.mk | apply exGS.mk | exact Dd.nil) | (refine Dd.same _ ?_) | (refine Dd.dead _ ?_) | (with_reducible first | apply exQ.mk | apply exP.mk) | (refine EqP.mk rfl rfl) | (with_reducible apply exW.mk) | (refine EqW.mk rfl) | (with_reducible first | intro _ | refine Dn.mk ?_) | (refine exS.full (by first | rfl | (simp; done) | (simp; omega)) ?_) | (refine And.intro (Ob.mk ⟨rfl, rfl, by first | rfl | (simp; done) | (simp; omega)⟩) ?_) | (with_reducible refine exE.mapD ?_) | (refine exL.int ?_) | (with_reducible first | refine Up0.mk rfl ?_ | refine Up0i.mk rfl ?_ | refine Up1.mk rfl ?_ | refine Up1i.mk rfl ?_ | refine Up2.mk rfl ?_ | refine Up2i.mk rfl ?_) | (refine Col.mk rfl rfl rfl ?_) | (refine Coli.mk rfl rfl rfl rfl ?_))
                  exact ⟨_, 0, rfl, rfl, by omega, rfl⟩
                · rintro m vals σ ⟨i, rfl, rfl, hi, rfl⟩
                  have hl := liveN_len (n := i) (f := q)
                  repeat' ((conv => whnf); first | (with_reducible first | refine onBool_intro (fun _ => ?_) (fun _ => ?_) | refine And.intro (Ob.mk (Nat.le_of_ble_eq_true rfl)) ?_ | refine And.intro (Ob.mk rfl) ?_ | exact ⟨rfl, rfl⟩ | refine And.intro (Ob.mk (fun h => h)) ?_) | (with_reducible refine Or.inl (And.intro (Ob.mk (Flat.map ?_)) ?_); exact fun _ => rfl) | (refine Or.inl (And.intro (Ob.mk (flat_of rfl)) ?_)) | (refine Or.inl (And.intro (Ob.mk ⟨rfl, rfl, rfl, rfl⟩) ?_)) | (refine Or.inl (And.intro (Ob.mk ⟨rfl, rfl, rfl⟩) ?_)) | (refine And.intro (Ob.mk ⟨rfl, rfl⟩) ?_) | (with_reducible refine Or.inr ?_) | (refine And.intro (Ob.mk (flat_of rfl)) ?_) | (with_reducible refine And.intro (Ob.mk (Flat.map ?_)) ?_; exact fun _ => rfl) | (with_reducible first | exact Ob.mk (Flat.map fun _ => rfl) | refine And.intro ?_ ?_ | apply exG.mk | apply exGS.mk | exact Dd.nil) | (refine Dd.same _ ?_) | (refine Dd.dead _ ?_) | (with_reducible first | apply exQ.mk | apply exP.mk) | (refine EqP.mk rfl rfl) | (with_reducible apply exW.mk) | (refine EqW.mk rfl) | (with_reducible first | intro _ | refine Dn.mk ?_) | (refine exS.full (by first | rfl | (simp; done) | (simp; omega)) ?_) | (refine And.intro (Ob.mk ⟨rfl, rfl, by first | rfl | (simp; done) | (simp; omega)⟩) ?_) | (with_reducible refine exE.mapD ?_) | (refine exL.int ?_) | (with_reducible first | refine Up0.mk rfl ?_ | refine Up0i.mk rfl ?_ | refine Up1.mk rfl ?_ | refine Up1i.mk rfl ?_ | refine Up2.mk rfl ?_ | refine Up2i.mk rfl ?_) | (refine Col.mk rfl rfl rfl ?_) | (refine Coli.mk rfl rfl rfl rfl ?_))
                  all_goals (try (refine Ob.mk ?_; first | assumption | exact ⟨rfl, rfl⟩ | exact ⟨rfl, rfl, rfl⟩ | (refine ⟨rfl, rfl, ?_⟩; simp only [List.length_map, List.length_take, List.length_append, els_len, List.length_replicate]; omega) | (intro h; exact h) | (intro h; rw [h]; rfl) | (intro h; simp_all; done) | (refine bytes_le (n := 1048577) ?_ rfl; simp only [ltI_iff, ltI_not, leI_iff, leI_not, eqI_iff, eqI_not, List.length_map, bif_and, bif_or, Bool.and_eq_true, Bool.and_eq_false_iff, Bool.or_eq_true, Bool.or_eq_false_iff, Bool.not_eq_true', Bool.not_eq_false', Int.toNat_natCast, beq_iff_eq, beq_eq_false_iff_ne, decide_eq_true_eq, decide_eq_false_iff_not, bel_iff, bel_not, wthn_iff, wthn_not, els_len, mixL_len, Nat.zero_add, List.length_set, List.length_take] at *; omega) | (simp only [ltI_iff, ltI_not, leI_iff, leI_not, eqI_iff, eqI_not, List.length_map, bif_and, bif_or, Bool.and_eq_true, Bool.and_eq_false_iff, Bool.or_eq_true, Bool.or_eq_false_iff, Bool.not_eq_true', Bool.not_eq_false', Int.toNat_natCast, beq_iff_eq, beq_eq_false_iff_ne, decide_eq_true_eq, decide_eq_false_iff_not, bel_iff, bel_not, wthn_iff, wthn_not, els_len, mixL_len, Nat.zero_add, List.length_set, List.length_take, Int.ofNat_eq_natCast] at *; omega)))
                  all_goals (try (rename_i h4; refine Ob.mk ?_; have := ltI_iff.1 h4; simp only [List.length_map, List.length_range]; omega))
                  · rename_i h4 h5
                    have h4 : i < 9 := by have := ltI_iff.1 h4; omega
                    rw [nthD_range (by omega), show 0 + (i : Int).toNat = i by omega] at h5
                    conv => whnf
                    refine ⟨9 - (i + 1), by omega, i + 1, ?_, ?_, h4, rfl⟩
                    · rw [addI_i64 (by omega) (by omega)]; rfl
                    · rw [liveN_succ, if_pos h5, List.map_append, List.length_append]
                      rfl
                  · rename_i h4 h5
                    have h4 : i < 9 := by have := ltI_iff.1 h4; omega
                    rw [nthD_range (by omega), show 0 + (i : Int).toNat = i by omega] at h5
                    conv => whnf
                    refine ⟨9 - (i + 1), by omega, i + 1, ?_, ?_, h4, rfl⟩
                    · rw [addI_i64 (by omega) (by omega)]; rfl
                    · rw [liveN_succ, if_neg (by simp [h5]), List.append_nil]; rfl
                  · rename_i h4 _
                    have h4 : i = 9 := by have := ltI_not.1 h4; omega
                    subst h4
                    have hs : liveN 9 q = savedF g := by
                      unfold savedF
                      refine liveN_congr fun t ht => ?_
                      rw [Bool.eq_iff_iff, tr_iff, hq t ht]
                    have hsl : slotsF g ≤ 8000 ∧ 0 ≤ slotsF g := by unfold slotsF; split <;> omega
                    have hal : argsF g ≤ 24 ∧ 0 ≤ argsF g := by unfold argsF; omega
                    refine Ob.mk (.inr ⟨ha, ?_⟩)
                    rw [hs] at hl ⊢
                    rw [addI_i64 (x := argsF g) (by omega) (by omega), addI_i64 (x := argsF g + _) (by omega) (by omega), addI_i64 (x := argsF g + _ + _) (by omega) (by omega)]
                    rfl
  · exact Ob.mk (.inl ⟨ha, rfl⟩)
end Go.Proofs.YtgnafgebenlffaaDoor.Am

/- Are two graphs the same? (By the functions of the laws of layer 10.) -/
namespace Go.Proofs.YtgnafgebenlffaaDoor.Am
open Go Go.Proofs
set_option maxRecDepth 10000
set_option maxHeartbeats 2000000
set_option linter.unusedVariables false
set_option linter.unusedSimpArgs false
theorem ne_of_nthD {α : Type} [Inhabited α] {a b : List α} {i : Nat} (h : nthD a i ≠ nthD b i) : a ≠ b := by
  rintro rfl; exact h rfl
theorem take_succ_eq {α : Type} [Inhabited α] {a b : List α} {i : Nat} (ha : i < a.length) (hb : i < b.length) (h : a.take i = b.take i) (h1 : nthD a i = nthD b i) : a.take (i + 1) = b.take (i + 1) := by
  rw [take_succ_nthD ha, take_succ_nthD hb, h, h1]
theorem eq_of_take {α : Type} {a b : List α} {i : Nat} (ha : a.length ≤ i) (hl : a.length = b.length) (h : a.take i = b.take i) : a = b := by
  rwa [List.take_of_length_le ha, List.take_of_length_le (by omega)] at h
theorem bool_no {p : Prop} [Decidable p] (h : ¬ p) : T.bool false = T.bool (decide p) := by rw [decide_eq_false h]
theorem bool_yes {p : Prop} [Decidable p] (h : p) : T.bool true = T.bool (decide p) := by rw [decide_eq_true h]
theorem sameInts (a b : List Int) : PCalls Tryd.prog 25 [ilist a, ilist b] (fun r => r = .bool (a == b)) := by
  refine PCalls.of_body ttOk Tryd.func25 rfl ?_
  repeat' ((conv => whnf); first | (with_reducible first | refine onBool_intro (fun _ => ?_) (fun _ => ?_) | refine And.intro (Ob.mk (Nat.le_of_ble_eq_true rfl)) ?_ | refine And.intro (Ob.mk rfl) ?_ | exact ⟨rfl, rfl⟩ | refine And.intro (Ob.mk (fun h => h)) ?_) | (with_reducible refine Or.inl (And.intro (Ob.mk (Flat.map ?_)) ?_); exact fun _ => rfl) | (refine Or.inl (And.intro (Ob.mk (flat_of rfl)) ?_)) | (refine Or.inl (And.intro (Ob.mk ⟨rfl, rfl, rfl, rfl⟩) ?_)) | (refine Or.inl (And.intro (Ob.mk ⟨rfl, rfl, rfl⟩) ?_)) | (refine And.intro (Ob.mk ⟨rfl, rfl⟩) ?_) | (with_reducible refine Or.inr ?_) | (refine And.intro (Ob.mk (flat_of rfl)) ?_) | (with_reducible refine And.intro (Ob.mk (Flat.map ?_)) ?_; exact fun _ => rfl) | (with_reducible first | exact Ob.mk (Flat.map fun _ => rfl) | refine And.intro ?_ ?_ | apply exG.mk | apply exGS.mk | exact Dd.nil) | (refine Dd.same _ ?_) | (refine Dd.dead _ ?_) | (with_reducible first | apply exQ.mk | apply exP.mk) | (refine EqP.mk rfl rfl) | (with_reducible apply exW.mk) | (refine EqW.mk rfl) | (with_reducible first | intro _ | refine Dn.mk ?_) | (refine exS.full (by first | rfl | (simp; done) | (simp; omega)) ?_) | (refine And.intro (Ob.mk ⟨rfl, rfl, by first | rfl | (simp; done) | (simp; omega)⟩) ?_) | (with_reducible refine exE.mapD ?_) | (refine exL.int ?_) | (with_reducible first | refine Up0.mk rfl ?_ | refine Up0i.mk rfl ?_ | refine Up1.mk rfl ?_ | refine Up1i.mk rfl ?_ | refine Up2.mk rfl ?_ | refine Up2i.mk rfl ?_) | (refine Col.mk rfl rfl rfl ?_) | (refine Coli.mk rfl rfl rfl rfl ?_))
  · rename_i h
    simp only [ltI_iff, ltI_not, leI_iff, leI_not, eqI_iff, eqI_not, List.length_map, bif_and, bif_or, Bool.and_eq_true, Bool.and_eq_false_iff, Bool.or_eq_true, Bool.or_eq_false_iff, Bool.not_eq_true', Bool.not_eq_false', Int.toNat_natCast, beq_iff_eq, beq_eq_false_iff_ne, decide_eq_true_eq, decide_eq_false_iff_not] at *
    show T.bool false = T.bool (a == b)
    rw [Eq.comm (a := T.bool false), T.bool.injEq, beq_eq_false_iff_ne]
    rintro rfl
    exact h rfl
  · conv => whnf
    rename_i h
    simp only [ltI_iff, ltI_not, leI_iff, leI_not, eqI_iff, eqI_not, List.length_map, bif_and, bif_or, Bool.and_eq_true, Bool.and_eq_false_iff, Bool.or_eq_true, Bool.or_eq_false_iff, Bool.not_eq_true', Bool.not_eq_false', Int.toNat_natCast, beq_iff_eq, beq_eq_false_iff_ne, decide_eq_true_eq, decide_eq_false_iff_not] at *
    have hl : a.length = b.length := by omega
    refine LoopVC.up0 5 a.length (fun i => a.take i = b.take i) ?_ ?_
    · repeat' ((conv => whnf); first | (with_reducible first | refine onBool_intro (fun _ => ?_) (fun _ => ?_) | refine And.intro (Ob.mk (Nat.le_of_ble_eq_true rfl)) ?_ | refine And.intro (Ob.mk rfl) ?_ | exact ⟨rfl, rfl⟩ | refine And.intro (Ob.mk (fun h => h)) ?_) | (with_reducible refine Or.inl (And.intro (Ob.mk (Flat.map ?_)) ?_); exact fun _ => rfl) | (refine Or.inl (And.intro (Ob.mk (flat_of rfl)) ?_)) | (refine Or.inl (And.intro (Ob.mk ⟨rfl, rfl, rfl, rfl⟩) ?_)) | (refine Or.inl (And.intro (Ob.mk ⟨rfl, rfl, rfl⟩) ?_)) | (refine And.intro (Ob.mk ⟨rfl, rfl⟩) ?_) | (with_reducible refine Or.inr ?_) | (refine And.intro (Ob.mk (flat_of rfl)) ?_) | (with_reducible refine And.intro (Ob.mk (Flat.map ?_)) ?_; exact fun _ => rfl) | (with_reducible first | exact Ob.mk (Flat.map fun _ => rfl) | refine And.intro ?_ ?_ | apply exG.mk | apply exGS.mk | exact Dd.nil) | (refine Dd.same _ ?_) | (refine Dd.dead _ ?_) | (with_reducible first | apply exQ.mk | apply exP.mk) | (refine EqP.mk rfl rfl) | (with_reducible apply exW.mk) | (refine EqW.mk rfl) | (with_reducible first | intro _ | refine Dn.mk ?_) | (refine exS.full (by first | rfl | (simp; done) | (simp; omega)) ?_) | (refine And.intro (Ob.mk ⟨rfl, rfl, by first | rfl | (simp; done) | (simp; omega)⟩) ?_) | (with_reducible refine exE.mapD ?_) | (refine exL.int ?_) | (with_reducible first | refine Up0.mk rfl ?_ | refine Up0i.mk rfl ?_ | refine Up1.mk rfl ?_ | refine Up1i.mk rfl ?_ | refine Up2.mk rfl ?_ | refine Up2i.mk rfl ?_) | (refine Col.mk rfl rfl rfl ?_) | (refine Coli.mk rfl rfl rfl rfl ?_))
      exact Ob.mk rfl
    · intro i hi he
      repeat' ((conv => whnf); first | (with_reducible first | refine onBool_intro (fun _ => ?_) (fun _ => ?_) | refine And.intro (Ob.mk (Nat.le_of_ble_eq_true rfl)) ?_ | refine And.intro (Ob.mk rfl) ?_ | exact ⟨rfl, rfl⟩ | refine And.intro (Ob.mk (fun h => h)) ?_) | (with_reducible refine Or.inl (And.intro (Ob.mk (Flat.map ?_)) ?_); exact fun _ => rfl) | (refine Or.inl (And.intro (Ob.mk (flat_of rfl)) ?_)) | (refine Or.inl (And.intro (Ob.mk ⟨rfl, rfl, rfl, rfl⟩) ?_)) | (refine Or.inl (And.intro (Ob.mk ⟨rfl, rfl, rfl⟩) ?_)) | (refine And.intro (Ob.mk ⟨rfl, rfl⟩) ?_) | (with_reducible refine Or.inr ?_) | (refine And.intro (Ob.mk (flat_of rfl)) ?_) | (with_reducible refine And.intro (Ob.mk (Flat.map ?_)) ?_; exact fun _ => rfl) | (with_reducible first | exact Ob.mk (Flat.map fun _ => rfl) | refine And.intro ?_ ?_ | apply exG.mk | apply exGS.mk | exact Dd.nil) | (refine Dd.same _ ?_) | (refine Dd.dead _ ?_) | (with_reducible first | apply exQ.mk | apply exP.mk) | (refine EqP.mk rfl rfl) | (with_reducible apply exW.mk) | (refine EqW.mk rfl) | (with_reducible first | intro _ | refine Dn.mk ?_) | (refine exS.full (by first | rfl | (simp; done) | (simp; omega)) ?_) | (refine And.intro (Ob.mk ⟨rfl, rfl, by first | rfl | (simp; done) | (simp; omega)⟩) ?_) | (with_reducible refine exE.mapD ?_) | (refine exL.int ?_) | (with_reducible first | refine Up0.mk rfl ?_ | refine Up0i.mk rfl ?_ | refine Up1.mk rfl ?_ | refine Up1i.mk rfl ?_ | refine Up2.mk rfl ?_ | refine Up2i.mk rfl ?_) | (refine Col.mk rfl rfl rfl ?_) | (refine Coli.mk rfl rfl rfl rfl ?_) | (refine drawVC.all _ _ (by kernel_rfl) ?_))
      all_goals (try (refine Ob.mk ?_; first | assumption | exact ⟨rfl, rfl⟩ | exact ⟨rfl, rfl, rfl⟩ | (refine ⟨rfl, rfl, ?_⟩; simp only [List.length_map, List.length_take, List.length_append, els_len, List.length_replicate]; omega) | (intro h; exact h) | (intro h; rw [h]; rfl) | (intro h; simp_all; done) | (refine bytes_le (n := 1048577) ?_ rfl; simp only [ltI_iff, ltI_not, leI_iff, leI_not, eqI_iff, eqI_not, List.length_map, bif_and, bif_or, Bool.and_eq_true, Bool.and_eq_false_iff, Bool.or_eq_true, Bool.or_eq_false_iff, Bool.not_eq_true', Bool.not_eq_false', Int.toNat_natCast, beq_iff_eq, beq_eq_false_iff_ne, decide_eq_true_eq, decide_eq_false_iff_not, bel_iff, bel_not, wthn_iff, wthn_not, els_len, mixL_len, Nat.zero_add, List.length_set, List.length_take] at *; omega) | (simp only [ltI_iff, ltI_not, leI_iff, leI_not, eqI_iff, eqI_not, List.length_map, bif_and, bif_or, Bool.and_eq_true, Bool.and_eq_false_iff, Bool.or_eq_true, Bool.or_eq_false_iff, Bool.not_eq_true', Bool.not_eq_false', Int.toNat_natCast, beq_iff_eq, beq_eq_false_iff_ne, decide_eq_true_eq, decide_eq_false_iff_not, bel_iff, bel_not, wthn_iff, wthn_not, els_len, mixL_len, Nat.zero_add, List.length_set, List.length_take, Int.ofNat_eq_natCast] at *; omega)))
      · rename_i h1 h2
        simp only [ltI_iff, ltI_not, leI_iff, leI_not, eqI_iff, eqI_not, List.length_map, bif_and, bif_or, Bool.and_eq_true, Bool.and_eq_false_iff, Bool.or_eq_true, Bool.or_eq_false_iff, Bool.not_eq_true', Bool.not_eq_false', Int.toNat_natCast, beq_iff_eq, beq_eq_false_iff_ne, decide_eq_true_eq, decide_eq_false_iff_not] at *
        show T.bool false = T.bool (a == b)
        rw [Eq.comm (a := T.bool false), T.bool.injEq, beq_eq_false_iff_ne]
        rintro rfl
        exact h2 rfl
      · rename_i h1 h2
        simp only [ltI_iff, ltI_not, leI_iff, leI_not, eqI_iff, eqI_not, List.length_map, bif_and, bif_or, Bool.and_eq_true, Bool.and_eq_false_iff, Bool.or_eq_true, Bool.or_eq_false_iff, Bool.not_eq_true', Bool.not_eq_false', Int.toNat_natCast, beq_iff_eq, beq_eq_false_iff_ne, decide_eq_true_eq, decide_eq_false_iff_not] at *
        exact Ob.mk ⟨by omega, addI_i64 (by omega) (by omega), take_succ_eq (by omega) (by omega) he h2⟩
      · rename_i h1
        simp only [ltI_iff, ltI_not, leI_iff, leI_not, eqI_iff, eqI_not, List.length_map, bif_and, bif_or, Bool.and_eq_true, Bool.and_eq_false_iff, Bool.or_eq_true, Bool.or_eq_false_iff, Bool.not_eq_true', Bool.not_eq_false', Int.toNat_natCast, beq_iff_eq, beq_eq_false_iff_ne, decide_eq_true_eq, decide_eq_false_iff_not] at *
        show T.bool true = T.bool (a == b)
        rw [Eq.comm (a := T.bool true), T.bool.injEq, beq_iff_eq]
        exact eq_of_take (by omega) hl he
theorem sameIns (a b : Ins) : PCalls Tryd.prog 45 [a.t, b.t] (fun r => r = .bool (decide (a = b))) := by
  refine PCalls.of_body ttOk Tryd.func45 rfl ?_
  repeat' ((conv => whnf); first | (with_reducible first | refine onBool_intro (fun _ => ?_) (fun _ => ?_) | refine And.intro (Ob.mk (Nat.le_of_ble_eq_true rfl)) ?_ | refine And.intro (Ob.mk rfl) ?_ | exact ⟨rfl, rfl⟩ | refine And.intro (Ob.mk (fun h => h)) ?_) | (with_reducible refine Or.inl (And.intro (Ob.mk (Flat.map ?_)) ?_); exact fun _ => rfl) | (refine Or.inl (And.intro (Ob.mk (flat_of rfl)) ?_)) | (refine Or.inl (And.intro (Ob.mk ⟨rfl, rfl, rfl, rfl⟩) ?_)) | (refine Or.inl (And.intro (Ob.mk ⟨rfl, rfl, rfl⟩) ?_)) | (refine And.intro (Ob.mk ⟨rfl, rfl⟩) ?_) | (with_reducible refine Or.inr ?_) | (refine And.intro (Ob.mk (flat_of rfl)) ?_) | (with_reducible refine And.intro (Ob.mk (Flat.map ?_)) ?_; exact fun _ => rfl) | (with_reducible first | exact Ob.mk (Flat.map fun _ => rfl) | refine And.intro ?_ ?_ | apply exG.mk | apply exGS.mk | exact Dd.nil) | (refine Dd.same _ ?_) | (refine Dd.dead _ ?_) | (with_reducible first | apply exQ.mk | apply exP.mk) | (refine EqP.mk rfl rfl) | (with_reducible apply exW.mk) | (refine EqW.mk rfl) | (with_reducible first | intro _ | refine Dn.mk ?_) | (refine exS.full (by first | rfl | (simp; done) | (simp; omega)) ?_) | (refine And.intro (Ob.mk ⟨rfl, rfl, by first | rfl | (simp; done) | (simp; omega)⟩) ?_) | (with_reducible refine exE.mapD ?_) | (refine exL.int ?_) | (with_reducible first | refine Up0.mk rfl ?_ | refine Up0i.mk rfl ?_ | refine Up1.mk rfl ?_ | refine Up1i.mk rfl ?_ | refine Up2.mk rfl ?_ | refine Up2i.mk rfl ?_) | (refine Col.mk rfl rfl rfl ?_) | (refine Coli.mk rfl rfl rfl rfl ?_) | (refine PCalls.mono (sameInts _ _) ?_; rintro _ rfl))
  all_goals (try (refine Ob.mk ?_; first | assumption | exact ⟨rfl, rfl⟩ | exact ⟨rfl, rfl, rfl⟩ | (refine ⟨rfl, rfl, ?_⟩; simp only [List.length_map, List.length_take, List.length_append, els_len, List.length_replicate]; omega) | (intro h; exact h) | (intro h; rw [h]; rfl) | (intro h; simp_all; done) | (refine bytes_le (n := 1048577) ?_ rfl; simp only [ltI_iff, ltI_not, leI_iff, leI_not, eqI_iff, eqI_not, List.length_map, bif_and, bif_or, Bool.and_eq_true, Bool.and_eq_false_iff, Bool.or_eq_true, Bool.or_eq_false_iff, Bool.not_eq_true', Bool.not_eq_false', Int.toNat_natCast, beq_iff_eq, beq_eq_false_iff_ne, decide_eq_true_eq, decide_eq_false_iff_not, bel_iff, bel_not, wthn_iff, wthn_not, els_len, mixL_len, Nat.zero_add, List.length_set, List.length_take] at *; omega) | (simp only [ltI_iff, ltI_not, leI_iff, leI_not, eqI_iff, eqI_not, List.length_map, bif_and, bif_or, Bool.and_eq_true, Bool.and_eq_false_iff, Bool.or_eq_true, Bool.or_eq_false_iff, Bool.not_eq_true', Bool.not_eq_false', Int.toNat_natCast, beq_iff_eq, beq_eq_false_iff_ne, decide_eq_true_eq, decide_eq_false_iff_not, bel_iff, bel_not, wthn_iff, wthn_not, els_len, mixL_len, Nat.zero_add, List.length_set, List.length_take, Int.ofNat_eq_natCast] at *; omega)))
  all_goals
    refine congrArg T.bool (?_ : _ = decide (a = b))
    rw [Bool.eq_iff_iff]
    cases a
    cases b
    simp only [bif_and, Bool.and_eq_true, eqI_iff, decide_eq_true_eq, beq_iff_eq, Ins.mk.injEq]
    grind
theorem sameEnd (a b : End) : PCalls Tryd.prog 44 [a.t, b.t] (fun r => r = .bool (decide (a = b))) := by
  refine PCalls.of_body ttOk Tryd.func44 rfl ?_
  repeat' ((conv => whnf); first | (with_reducible first | refine onBool_intro (fun _ => ?_) (fun _ => ?_) | refine And.intro (Ob.mk (Nat.le_of_ble_eq_true rfl)) ?_ | refine And.intro (Ob.mk rfl) ?_ | exact ⟨rfl, rfl⟩ | refine And.intro (Ob.mk (fun h => h)) ?_) | (with_reducible refine Or.inl (And.intro (Ob.mk (Flat.map ?_)) ?_); exact fun _ => rfl) | (refine Or.inl (And.intro (Ob.mk (flat_of rfl)) ?_)) | (refine Or.inl (And.intro (Ob.mk ⟨rfl, rfl, rfl, rfl⟩) ?_)) | (refine Or.inl (And.intro (Ob.mk ⟨rfl, rfl, rfl⟩) ?_)) | (refine And.intro (Ob.mk ⟨rfl, rfl⟩) ?_) | (with_reducible refine Or.inr ?_) | (refine And.intro (Ob.mk (flat_of rfl)) ?_) | (with_reducible refine And.intro (Ob.mk (Flat.map ?_)) ?_; exact fun _ => rfl) | (with_reducible first | exact Ob.mk (Flat.map fun _ => rfl) | refine And.intro ?_ ?_ | apply exG.mk | apply exGS.mk | exact Dd.nil) | (refine Dd.same _ ?_) | (refine Dd.dead _ ?_) | (with_reducible first | apply exQ.mk | apply exP.mk) | (refine EqP.mk rfl rfl) | (with_reducible apply exW.mk) | (refine EqW.mk rfl) | (with_reducible first | intro _ | refine Dn.mk ?_) | (refine exS.full (by first | rfl | (simp; done) | (simp; omega)) ?_) | (refine And.intro (Ob.mk ⟨rfl, rfl, by first | rfl | (simp; done) | (simp; omega)⟩) ?_) | (with_reducible refine exE.mapD ?_) | (refine exL.int ?_) | (with_reducible first | refine Up0.mk rfl ?_ | refine Up0i.mk rfl ?_ | refine Up1.mk rfl ?_ | refine Up1i.mk rfl ?_ | refine Up2.mk rfl ?_ | refine Up2i.mk rfl ?_) | (refine Col.mk rfl rfl rfl ?_) | (refine Coli.mk rfl rfl rfl rfl ?_) | (refine PCalls.mono (sameInts _ _) ?_; rintro _ rfl))
  all_goals (try (refine Ob.mk ?_; first | assumption | exact ⟨rfl, rfl⟩ | exact ⟨rfl, rfl, rfl⟩ | (refine ⟨rfl, rfl, ?_⟩; simp only [List.length_map, List.length_take, List.length_append, els_len, List.length_replicate]; omega) | (intro h; exact h) | (intro h; rw [h]; rfl) | (intro h; simp_all; done) | (refine bytes_le (n := 1048577) ?_ rfl; simp only [ltI_iff, ltI_not, leI_iff, leI_not, eqI_iff, eqI_not, List.length_map, bif_and, bif_or, Bool.and_eq_true, Bool.and_eq_false_iff, Bool.or_eq_true, Bool.or_eq_false_iff, Bool.not_eq_true', Bool.not_eq_false', Int.toNat_natCast, beq_iff_eq, beq_eq_false_iff_ne, decide_eq_true_eq, decide_eq_false_iff_not, bel_iff, bel_not, wthn_iff, wthn_not, els_len, mixL_len, Nat.zero_add, List.length_set, List.length_take] at *; omega) | (simp only [ltI_iff, ltI_not, leI_iff, leI_not, eqI_iff, eqI_not, List.length_map, bif_and, bif_or, Bool.and_eq_true, Bool.and_eq_false_iff, Bool.or_eq_true, Bool.or_eq_false_iff, Bool.not_eq_true', Bool.not_eq_false', Int.toNat_natCast, beq_iff_eq, beq_eq_false_iff_ne, decide_eq_true_eq, decide_eq_false_iff_not, bel_iff, bel_not, wthn_iff, wthn_not, els_len, mixL_len, Nat.zero_add, List.length_set, List.length_take, Int.ofNat_eq_natCast] at *; omega)))
  · rename_i h
    refine bool_no ?_
    rintro rfl
    simp [eqI] at h
  · conv => whnf
    rename_i h
    simp only [bif_or, Bool.or_eq_false_iff, Bool.not_eq_false', eqI_iff, beq_iff_eq, List.length_map] at h
    have hl : a.cases.length = b.cases.length := by omega
    refine LoopVC.up0 5 a.cases.length (fun i => a.cases.take i = b.cases.take i) ?_ ?_
    · repeat' ((conv => whnf); first | (with_reducible first | refine onBool_intro (fun _ => ?_) (fun _ => ?_) | refine And.intro (Ob.mk (Nat.le_of_ble_eq_true rfl)) ?_ | refine And.intro (Ob.mk rfl) ?_ | exact ⟨rfl, rfl⟩ | refine And.intro (Ob.mk (fun h => h)) ?_) | (with_reducible refine Or.inl (And.intro (Ob.mk (Flat.map ?_)) ?_); exact fun _ => rfl) | (refine Or.inl (And.intro (Ob.mk (flat_of rfl)) ?_)) | (refine Or.inl (And.intro (Ob.mk ⟨rfl, rfl, rfl, rfl⟩) ?_)) | (refine Or.inl (And.intro (Ob.mk ⟨rfl, rfl, rfl⟩) ?_)) | (refine And.intro (Ob.mk ⟨rfl, rfl⟩) ?_) | (with_reducible refine Or.inr ?_) | (refine And.intro (Ob.mk (flat_of rfl)) ?_) | (with_reducible refine And.intro (Ob.mk (Flat.map ?_)) ?_; exact fun _ => rfl) | (with_reducible first | exact Ob.mk (Flat.map fun _ => rfl) | refine And.intro ?_ ?_ | apply exG.mk | apply exGS.mk | exact Dd.nil) | (refine Dd.same _ ?_) | (refine Dd.dead _ ?_) | (with_reducible first | apply exQ.mk | apply exP.mk) | (refine EqP.mk rfl rfl) | (with_reducible apply exW.mk) | (refine EqW.mk rfl) | (with_reducible first | intro _ | refine Dn.mk ?_) | (refine exS.full (by first | rfl | (simp; done) | (simp; omega)) ?_) | (refine And.intro (Ob.mk ⟨rfl, rfl, by first | rfl | (simp; done) | (simp; omega)⟩) ?_) | (with_reducible refine exE.mapD ?_) | (refine exL.int ?_) | (with_reducible first | refine Up0.mk rfl ?_ | refine Up0i.mk rfl ?_ | refine Up1.mk rfl ?_ | refine Up1i.mk rfl ?_ | refine Up2.mk rfl ?_ | refine Up2i.mk rfl ?_) | (refine Col.mk rfl rfl rfl ?_) | (refine Coli.mk rfl rfl rfl rfl ?_))
      exact Ob.mk rfl
    · intro i hi he
      repeat' ((conv => whnf); first | (with_reducible first | refine onBool_intro (fun _ => ?_) (fun _ => ?_) | refine And.intro (Ob.mk (Nat.le_of_ble_eq_true rfl)) ?_ | refine And.intro (Ob.mk rfl) ?_ | exact ⟨rfl, rfl⟩ | refine And.intro (Ob.mk (fun h => h)) ?_) | (with_reducible refine Or.inl (And.intro (Ob.mk (Flat.map ?_)) ?_); exact fun _ => rfl) | (refine Or.inl (And.intro (Ob.mk (flat_of rfl)) ?_)) | (refine Or.inl (And.intro (Ob.mk ⟨rfl, rfl, rfl, rfl⟩) ?_)) | (refine Or.inl (And.intro (Ob.mk ⟨rfl, rfl, rfl⟩) ?_)) | (refine And.intro (Ob.mk ⟨rfl, rfl⟩) ?_) | (with_reducible refine Or.inr ?_) | (refine And.intro (Ob.mk (flat_of rfl)) ?_) | (with_reducible refine And.intro (Ob.mk (Flat.map ?_)) ?_; exact fun _ => rfl) | (with_reducible first | exact Ob.mk (Flat.map fun _ => rfl) | refine And.intro ?_ ?_ | apply exG.mk | apply exGS.mk | exact Dd.nil) | (refine Dd.same _ ?_) | (refine Dd.dead _ ?_) | (with_reducible first | apply exQ.mk | apply exP.mk) | (refine EqP.mk rfl rfl) | (with_reducible apply exW.mk) | (refine EqW.mk rfl) | (with_reducible first | intro _ | refine Dn.mk ?_) | (refine exS.full (by first | rfl | (simp; done) | (simp; omega)) ?_) | (refine And.intro (Ob.mk ⟨rfl, rfl, by first | rfl | (simp; done) | (simp; omega)⟩) ?_) | (with_reducible refine exE.mapD ?_) | (refine exL.int ?_) | (with_reducible first | refine Up0.mk rfl ?_ | refine Up0i.mk rfl ?_ | refine Up1.mk rfl ?_ | refine Up1i.mk rfl ?_ | refine Up2.mk rfl ?_ | refine Up2i.mk rfl ?_) | (refine Col.mk rfl rfl rfl ?_) | (refine Coli.mk rfl rfl rfl rfl ?_) | (refine drawVC.all _ _ (by kernel_rfl) ?_))
      all_goals (try (refine Ob.mk ?_; first | assumption | exact ⟨rfl, rfl⟩ | exact ⟨rfl, rfl, rfl⟩ | (refine ⟨rfl, rfl, ?_⟩; simp only [List.length_map, List.length_take, List.length_append, els_len, List.length_replicate]; omega) | (intro h; exact h) | (intro h; rw [h]; rfl) | (intro h; simp_all; done) | (refine bytes_le (n := 1048577) ?_ rfl; simp only [ltI_iff, ltI_not, leI_iff, leI_not, eqI_iff, eqI_not, List.length_map, bif_and, bif_or, Bool.and_eq_true, Bool.and_eq_false_iff, Bool.or_eq_true, Bool.or_eq_false_iff, Bool.not_eq_true', Bool.not_eq_false', Int.toNat_natCast, beq_iff_eq, beq_eq_false_iff_ne, decide_eq_true_eq, decide_eq_false_iff_not, bel_iff, bel_not, wthn_iff, wthn_not, els_len, mixL_len, Nat.zero_add, List.length_set, List.length_take] at *; omega) | (simp only [ltI_iff, ltI_not, leI_iff, leI_not, eqI_iff, eqI_not, List.length_map, bif_and, bif_or, Bool.and_eq_true, Bool.and_eq_false_iff, Bool.or_eq_true, Bool.or_eq_false_iff, Bool.not_eq_true', Bool.not_eq_false', Int.toNat_natCast, beq_iff_eq, beq_eq_false_iff_ne, decide_eq_true_eq, decide_eq_false_iff_not, bel_iff, bel_not, wthn_iff, wthn_not, els_len, mixL_len, Nat.zero_add, List.length_set, List.length_take, Int.ofNat_eq_natCast] at *; omega)))
      · rename_i h1 h2
        simp only [Int.toNat_natCast] at h2
        have hne : nthD a.cases i ≠ nthD b.cases i := fun e => by rw [e] at h2; simp [eqI] at h2
        exact bool_no fun e => ne_of_nthD hne (by rw [e])
      · rename_i h1 h2
        have hlt : i < a.cases.length := by simp only [ltI_iff, ltI_not, leI_iff, leI_not, eqI_iff, eqI_not, List.length_map, bif_and, bif_or, Bool.and_eq_true, Bool.and_eq_false_iff, Bool.or_eq_true, Bool.or_eq_false_iff, Bool.not_eq_true', Bool.not_eq_false', Int.toNat_natCast, beq_iff_eq, beq_eq_false_iff_ne, decide_eq_true_eq, decide_eq_false_iff_not] at *; omega
        simp only [Int.toNat_natCast, Bool.not_eq_false', Bool.and_eq_true, eqI_iff] at h2
        refine Ob.mk ⟨hlt, addI_i64 (by simp only [ltI_iff, ltI_not, leI_iff, leI_not, eqI_iff, eqI_not, List.length_map, bif_and, bif_or, Bool.and_eq_true, Bool.and_eq_false_iff, Bool.or_eq_true, Bool.or_eq_false_iff, Bool.not_eq_true', Bool.not_eq_false', Int.toNat_natCast, beq_iff_eq, beq_eq_false_iff_ne, decide_eq_true_eq, decide_eq_false_iff_not] at *; omega) (by simp only [ltI_iff, ltI_not, leI_iff, leI_not, eqI_iff, eqI_not, List.length_map, bif_and, bif_or, Bool.and_eq_true, Bool.and_eq_false_iff, Bool.or_eq_true, Bool.or_eq_false_iff, Bool.not_eq_true', Bool.not_eq_false', Int.toNat_natCast, beq_iff_eq, beq_eq_false_iff_ne, decide_eq_true_eq, decide_eq_false_iff_not] at *; omega), take_succ_eq hlt (by omega) he ?_⟩
        cases hx : nthD a.cases i
        cases hy : nthD b.cases i
        simp [hx, hy] at h2 ⊢
        exact h2
      · rename_i h1
        have hge : a.cases.length ≤ i := by simp only [ltI_iff, ltI_not, leI_iff, leI_not, eqI_iff, eqI_not, List.length_map, bif_and, bif_or, Bool.and_eq_true, Bool.and_eq_false_iff, Bool.or_eq_true, Bool.or_eq_false_iff, Bool.not_eq_true', Bool.not_eq_false', Int.toNat_natCast, beq_iff_eq, beq_eq_false_iff_ne, decide_eq_true_eq, decide_eq_false_iff_not] at *; omega
        have hcs := eq_of_take hge hl he
        refine bool_yes ?_
        cases a
        cases b
        simp only [End.mk.injEq] at *
        grind
theorem sameBlock (a b : Block) : PCalls Tryd.prog 26 [a.t, b.t] (fun r => r = .bool (decide (a = b))) := by
  refine PCalls.of_body ttOk Tryd.func26 rfl ?_
  repeat' ((conv => whnf); first | (with_reducible first | refine onBool_intro (fun _ => ?_) (fun _ => ?_) | refine And.intro (Ob.mk (Nat.le_of_ble_eq_true rfl)) ?_ | refine And.intro (Ob.mk rfl) ?_ | exact ⟨rfl, rfl⟩ | refine And.intro (Ob.mk (fun h => h)) ?_) | (with_reducible refine Or.inl (And.intro (Ob.mk (Flat.map ?_)) ?_); exact fun _ => rfl) | (refine Or.inl (And.intro (Ob.mk (flat_of rfl)) ?_)) | (refine Or.inl (And.intro (Ob.mk ⟨rfl, rfl, rfl, rfl⟩) ?_)) | (refine Or.inl (And.intro (Ob.mk ⟨rfl, rfl, rfl⟩) ?_)) | (refine And.intro (Ob.mk ⟨rfl, rfl⟩) ?_) | (with_reducible refine Or.inr ?_) | (refine And.intro (Ob.mk (flat_of rfl)) ?_) | (with_reducible refine And.intro (Ob.mk (Flat.map ?_)) ?_; exact fun _ => rfl) | (with_reducible first | exact Ob.mk (Flat.map fun _ => rfl) | refine And.intro ?_ ?_ | apply exG.mk | apply exGS.mk | exact Dd.nil) | (refine Dd.same _ ?_) | (refine Dd.dead _ ?_) | (with_reducible first | apply exQ.mk | apply exP.mk) | (refine EqP.mk rfl rfl) | (with_reducible apply exW.mk) | (refine EqW.mk rfl) | (with_reducible first | intro _ | refine Dn.mk ?_) | (refine exS.full (by first | rfl | (simp; done) | (simp; omega)) ?_) | (refine And.intro (Ob.mk ⟨rfl, rfl, by first | rfl | (simp; done) | (simp; omega)⟩) ?_) | (with_reducible refine exE.mapD ?_) | (refine exL.int ?_) | (with_reducible first | refine Up0.mk rfl ?_ | refine Up0i.mk rfl ?_ | refine Up1.mk rfl ?_ | refine Up1i.mk rfl ?_ | refine Up2.mk rfl ?_ | refine Up2i.mk rfl ?_) | (refine Col.mk rfl rfl rfl ?_) | (refine Coli.mk rfl rfl rfl rfl ?_) | (refine PCalls.mono (sameEnd (Block.fin _) (Block.fin _)) ?_; rintro _ rfl))
  all_goals (try (refine Ob.mk ?_; first | assumption | exact ⟨rfl, rfl⟩ | exact ⟨rfl, rfl, rfl⟩ | (refine ⟨rfl, rfl, ?_⟩; simp only [List.length_map, List.length_take, List.length_append, els_len, List.length_replicate]; omega) | (intro h; exact h) | (intro h; rw [h]; rfl) | (intro h; simp_all; done) | (refine bytes_le (n := 1048577) ?_ rfl; simp only [ltI_iff, ltI_not, leI_iff, leI_not, eqI_iff, eqI_not, List.length_map, bif_and, bif_or, Bool.and_eq_true, Bool.and_eq_false_iff, Bool.or_eq_true, Bool.or_eq_false_iff, Bool.not_eq_true', Bool.not_eq_false', Int.toNat_natCast, beq_iff_eq, beq_eq_false_iff_ne, decide_eq_true_eq, decide_eq_false_iff_not, bel_iff, bel_not, wthn_iff, wthn_not, els_len, mixL_len, Nat.zero_add, List.length_set, List.length_take] at *; omega) | (simp only [ltI_iff, ltI_not, leI_iff, leI_not, eqI_iff, eqI_not, List.length_map, bif_and, bif_or, Bool.and_eq_true, Bool.and_eq_false_iff, Bool.or_eq_true, Bool.or_eq_false_iff, Bool.not_eq_true', Bool.not_eq_false', Int.toNat_natCast, beq_iff_eq, beq_eq_false_iff_ne, decide_eq_true_eq, decide_eq_false_iff_not, bel_iff, bel_not, wthn_iff, wthn_not, els_len, mixL_len, Nat.zero_add, List.length_set, List.length_take, Int.ofNat_eq_natCast] at *; omega)))
  · rename_i h
    refine bool_no ?_
    rintro rfl
    simp [eqI] at h
  · conv => whnf
    rename_i h
    simp only [bif_or, Bool.or_eq_false_iff, Bool.not_eq_false', eqI_iff, decide_eq_true_eq, List.length_map] at h
    obtain ⟨h3, h4⟩ := h
    have hl : a.code.length = b.code.length := by omega
    refine LoopVC.up0 5 a.code.length (fun i => a.code.take i = b.code.take i) ?_ ?_
    · repeat' ((conv => whnf); first | (with_reducible first | refine onBool_intro (fun _ => ?_) (fun _ => ?_) | refine And.intro (Ob.mk (Nat.le_of_ble_eq_true rfl)) ?_ | refine And.intro (Ob.mk rfl) ?_ | exact ⟨rfl, rfl⟩ | refine And.intro (Ob.mk (fun h => h)) ?_) | (with_reducible refine Or.inl (And.intro (Ob.mk (Flat.map ?_)) ?_); exact fun _ => rfl) | (refine Or.inl (And.intro (Ob.mk (flat_of rfl)) ?_)) | (refine Or.inl (And.intro (Ob.mk ⟨rfl, rfl, rfl, rfl⟩) ?_)) | (refine Or.inl (And.intro (Ob.mk ⟨rfl, rfl, rfl⟩) ?_)) | (refine And.intro (Ob.mk ⟨rfl, rfl⟩) ?_) | (with_reducible refine Or.inr ?_) | (refine And.intro (Ob.mk (flat_of rfl)) ?_) | (with_reducible refine And.intro (Ob.mk (Flat.map ?_)) ?_; exact fun _ => rfl) | (with_reducible first | exact Ob.mk (Flat.map fun _ => rfl) | refine And.intro ?_ ?_ | apply exG.mk | apply exGS.mk | exact Dd.nil) | (refine Dd.same _ ?_) | (refine Dd.dead _ ?_) | (with_reducible first | apply exQ.mk | apply exP.mk) | (refine EqP.mk rfl rfl) | (with_reducible apply exW.mk) | (refine EqW.mk rfl) | (with_reducible first | intro _ | refine Dn.mk ?_) | (refine exS.full (by first | rfl | (simp; done) | (simp; omega)) ?_) | (refine And.intro (Ob.mk ⟨rfl, rfl, by first | rfl | (simp; done) | (simp; omega)⟩) ?_) | (with_reducible refine exE.mapD ?_) | (refine exL.int ?_) | (with_reducible first | refine Up0.mk rfl ?_ | refine Up0i.mk rfl ?_ | refine Up1.mk rfl ?_ | refine Up1i.mk rfl ?_ | refine Up2.mk rfl ?_ | refine Up2i.mk rfl ?_) | (refine Col.mk rfl rfl rfl ?_) | (refine Coli.mk rfl rfl rfl rfl ?_))
      exact Ob.mk rfl
    · intro i hi he
      repeat' ((conv => whnf); first | (with_reducible first | refine onBool_intro (fun _ => ?_) (fun _ => ?_) | refine And.intro (Ob.mk (Nat.le_of_ble_eq_true rfl)) ?_ | refine And.intro (Ob.mk rfl) ?_ | exact ⟨rfl, rfl⟩ | refine And.intro (Ob.mk (fun h => h)) ?_) | (with_reducible refine Or.inl (And.intro (Ob.mk (Flat.map ?_)) ?_); exact fun _ => rfl) | (refine Or.inl (And.intro (Ob.mk (flat_of rfl)) ?_)) | (refine Or.inl (And.intro (Ob.mk ⟨rfl, rfl, rfl, rfl⟩) ?_)) | (refine Or.inl (And.intro (Ob.mk ⟨rfl, rfl, rfl⟩) ?_)) | (refine And.intro (Ob.mk ⟨rfl, rfl⟩) ?_) | (with_reducible refine Or.inr ?_) | (refine And.intro (Ob.mk (flat_of rfl)) ?_) | (with_reducible refine And.intro (Ob.mk (Flat.map ?_)) ?_; exact fun _ => rfl) | (with_reducible first | exact Ob.mk (Flat.map fun _ => rfl) | refine And.intro ?_ ?_ | apply exG.mk | apply exGS.mk | exact Dd.nil) | (refine Dd.same _ ?_) | (refine Dd.dead _ ?_) | (with_reducible first | apply exQ.mk | apply exP.mk) | (refine EqP.mk rfl rfl) | (with_reducible apply exW.mk) | (refine EqW.mk rfl) | (with_reducible first | intro _ | refine Dn.mk ?_) | (refine exS.full (by first | rfl | (simp; done) | (simp; omega)) ?_) | (refine And.intro (Ob.mk ⟨rfl, rfl, by first | rfl | (simp; done) | (simp; omega)⟩) ?_) | (with_reducible refine exE.mapD ?_) | (refine exL.int ?_) | (with_reducible first | refine Up0.mk rfl ?_ | refine Up0i.mk rfl ?_ | refine Up1.mk rfl ?_ | refine Up1i.mk rfl ?_ | refine Up2.mk rfl ?_ | refine Up2i.mk rfl ?_) | (refine Col.mk rfl rfl rfl ?_) | (refine Coli.mk rfl rfl rfl rfl ?_) | (refine drawVC.all _ _ (by kernel_rfl) ?_) | (refine PCalls.mono (sameIns _ _) ?_; rintro _ rfl))
      all_goals (try (refine Ob.mk ?_; first | assumption | exact ⟨rfl, rfl⟩ | exact ⟨rfl, rfl, rfl⟩ | (refine ⟨rfl, rfl, ?_⟩; simp only [List.length_map, List.length_take, List.length_append, els_len, List.length_replicate]; omega) | (intro h; exact h) | (intro h; rw [h]; rfl) | (intro h; simp_all; done) | (refine bytes_le (n := 1048577) ?_ rfl; simp only [ltI_iff, ltI_not, leI_iff, leI_not, eqI_iff, eqI_not, List.length_map, bif_and, bif_or, Bool.and_eq_true, Bool.and_eq_false_iff, Bool.or_eq_true, Bool.or_eq_false_iff, Bool.not_eq_true', Bool.not_eq_false', Int.toNat_natCast, beq_iff_eq, beq_eq_false_iff_ne, decide_eq_true_eq, decide_eq_false_iff_not, bel_iff, bel_not, wthn_iff, wthn_not, els_len, mixL_len, Nat.zero_add, List.length_set, List.length_take] at *; omega) | (simp only [ltI_iff, ltI_not, leI_iff, leI_not, eqI_iff, eqI_not, List.length_map, bif_and, bif_or, Bool.and_eq_true, Bool.and_eq_false_iff, Bool.or_eq_true, Bool.or_eq_false_iff, Bool.not_eq_true', Bool.not_eq_false', Int.toNat_natCast, beq_iff_eq, beq_eq_false_iff_ne, decide_eq_true_eq, decide_eq_false_iff_not, bel_iff, bel_not, wthn_iff, wthn_not, els_len, mixL_len, Nat.zero_add, List.length_set, List.length_take, Int.ofNat_eq_natCast] at *; omega)))
      · rename_i h1 h2
        simp only [Int.toNat_natCast, Bool.not_eq_true', decide_eq_false_iff_not] at h2
        exact bool_no fun e => ne_of_nthD h2 (by rw [e])
      · rename_i h1 h2
        have hlt : i < a.code.length := by simp only [ltI_iff, ltI_not, leI_iff, leI_not, eqI_iff, eqI_not, List.length_map, bif_and, bif_or, Bool.and_eq_true, Bool.and_eq_false_iff, Bool.or_eq_true, Bool.or_eq_false_iff, Bool.not_eq_true', Bool.not_eq_false', Int.toNat_natCast, beq_iff_eq, beq_eq_false_iff_ne, decide_eq_true_eq, decide_eq_false_iff_not] at *; omega
        simp only [Int.toNat_natCast, Bool.not_eq_false', decide_eq_true_eq] at h2
        exact Ob.mk ⟨hlt, addI_i64 (by simp only [ltI_iff, ltI_not, leI_iff, leI_not, eqI_iff, eqI_not, List.length_map, bif_and, bif_or, Bool.and_eq_true, Bool.and_eq_false_iff, Bool.or_eq_true, Bool.or_eq_false_iff, Bool.not_eq_true', Bool.not_eq_false', Int.toNat_natCast, beq_iff_eq, beq_eq_false_iff_ne, decide_eq_true_eq, decide_eq_false_iff_not] at *; omega) (by simp only [ltI_iff, ltI_not, leI_iff, leI_not, eqI_iff, eqI_not, List.length_map, bif_and, bif_or, Bool.and_eq_true, Bool.and_eq_false_iff, Bool.or_eq_true, Bool.or_eq_false_iff, Bool.not_eq_true', Bool.not_eq_false', Int.toNat_natCast, beq_iff_eq, beq_eq_false_iff_ne, decide_eq_true_eq, decide_eq_false_iff_not] at *; omega), take_succ_eq hlt (by omega) he h2⟩
      · rename_i h1
        have hge : a.code.length ≤ i := by simp only [ltI_iff, ltI_not, leI_iff, leI_not, eqI_iff, eqI_not, List.length_map, bif_and, bif_or, Bool.and_eq_true, Bool.and_eq_false_iff, Bool.or_eq_true, Bool.or_eq_false_iff, Bool.not_eq_true', Bool.not_eq_false', Int.toNat_natCast, beq_iff_eq, beq_eq_false_iff_ne, decide_eq_true_eq, decide_eq_false_iff_not] at *; omega
        have hcs := eq_of_take hge hl he
        refine bool_yes ?_
        cases a
        cases b
        simp only [Block.mk.injEq] at *
        exact ⟨hcs, h4⟩
theorem sameGraph (a b : Graph) : PCalls Tryd.prog 14 [a.t, b.t] (fun r => r = .bool (decide (a = b))) := by
  refine PCalls.of_body ttOk Tryd.func14 rfl ?_
  repeat' ((conv => whnf); first | (with_reducible first | refine onBool_intro (fun _ => ?_) (fun _ => ?_) | refine And.intro (Ob.mk (Nat.le_of_ble_eq_true rfl)) ?_ | refine And.intro (Ob.mk rfl) ?_ | exact ⟨rfl, rfl⟩ | refine And.intro (Ob.mk (fun h => h)) ?_) | (with_reducible refine Or.inl (And.intro (Ob.mk (Flat.map ?_)) ?_); exact fun _ => rfl) | (refine Or.inl (And.intro (Ob.mk (flat_of rfl)) ?_)) | (refine Or.inl (And.intro (Ob.mk ⟨rfl, rfl, rfl, rfl⟩) ?_)) | (refine Or.inl (And.intro (Ob.mk ⟨rfl, rfl, rfl⟩) ?_)) | (refine And.intro (Ob.mk ⟨rfl, rfl⟩) ?_) | (with_reducible refine Or.inr ?_) | (refine And.intro (Ob.mk (flat_of rfl)) ?_) | (with_reducible refine And.intro (Ob.mk (Flat.map ?_)) ?_; exact fun _ => rfl) | (with_reducible first | exact Ob.mk (Flat.map fun _ => rfl) | refine And.intro ?_ ?_ | apply exG.mk | apply exGS.mk | exact Dd.nil) | (refine Dd.same _ ?_) | (refine Dd.dead _ ?_) | (with_reducible first | apply exQ.mk | apply exP.mk) | (refine EqP.mk rfl rfl) | (with_reducible apply exW.mk) | (refine EqW.mk rfl) | (with_reducible first | intro _ | refine Dn.mk ?_) | (refine exS.full (by first | rfl | (simp; done) | (simp; omega)) ?_) | (refine And.intro (Ob.mk ⟨rfl, rfl, by first | rfl | (simp; done) | (simp; omega)⟩) ?_) | (with_reducible refine exE.mapD ?_) | (refine exL.int ?_) | (with_reducible first | refine Up0.mk rfl ?_ | refine Up0i.mk rfl ?_ | refine Up1.mk rfl ?_ | refine Up1i.mk rfl ?_ | refine Up2.mk rfl ?_ | refine Up2i.mk rfl ?_) | (refine Col.mk rfl rfl rfl ?_) | (refine Coli.mk rfl rfl rfl rfl ?_) | (refine PCalls.mono (sameInts _ _) ?_; rintro _ rfl))
  all_goals (try (refine Ob.mk ?_; first | assumption | exact ⟨rfl, rfl⟩ | exact ⟨rfl, rfl, rfl⟩ | (refine ⟨rfl, rfl, ?_⟩; simp only [List.length_map, List.length_take, List.length_append, els_len, List.length_replicate]; omega) | (intro h; exact h) | (intro h; rw [h]; rfl) | (intro h; simp_all; done) | (refine bytes_le (n := 1048577) ?_ rfl; simp only [ltI_iff, ltI_not, leI_iff, leI_not, eqI_iff, eqI_not, List.length_map, bif_and, bif_or, Bool.and_eq_true, Bool.and_eq_false_iff, Bool.or_eq_true, Bool.or_eq_false_iff, Bool.not_eq_true', Bool.not_eq_false', Int.toNat_natCast, beq_iff_eq, beq_eq_false_iff_ne, decide_eq_true_eq, decide_eq_false_iff_not, bel_iff, bel_not, wthn_iff, wthn_not, els_len, mixL_len, Nat.zero_add, List.length_set, List.length_take] at *; omega) | (simp only [ltI_iff, ltI_not, leI_iff, leI_not, eqI_iff, eqI_not, List.length_map, bif_and, bif_or, Bool.and_eq_true, Bool.and_eq_false_iff, Bool.or_eq_true, Bool.or_eq_false_iff, Bool.not_eq_true', Bool.not_eq_false', Int.toNat_natCast, beq_iff_eq, beq_eq_false_iff_ne, decide_eq_true_eq, decide_eq_false_iff_not, bel_iff, bel_not, wthn_iff, wthn_not, els_len, mixL_len, Nat.zero_add, List.length_set, List.length_take, Int.ofNat_eq_natCast] at *; omega)))
  · rename_i h
    refine bool_no ?_
    rintro rfl
    simp [eqI] at h
  · conv => whnf
    rename_i h
    simp only [bif_or, Bool.or_eq_false_iff, Bool.not_eq_false', eqI_iff, beq_iff_eq, List.length_map] at h
    obtain ⟨⟨⟨g1, g2⟩, g3⟩, g4⟩ := h
    have hl : a.arrays.length = b.arrays.length := by omega
    have hl2 : a.blocks.length = b.blocks.length := by omega
    refine LoopVC.up0 5 a.arrays.length (fun i => a.arrays.take i = b.arrays.take i) ?_ ?_
    · repeat' ((conv => whnf); first | (with_reducible first | refine onBool_intro (fun _ => ?_) (fun _ => ?_) | refine And.intro (Ob.mk (Nat.le_of_ble_eq_true rfl)) ?_ | refine And.intro (Ob.mk rfl) ?_ | exact ⟨rfl, rfl⟩ | refine And.intro (Ob.mk (fun h => h)) ?_) | (with_reducible refine Or.inl (And.intro (Ob.mk (Flat.map ?_)) ?_); exact fun _ => rfl) | (refine Or.inl (And.intro (Ob.mk (flat_of rfl)) ?_)) | (refine Or.inl (And.intro (Ob.mk ⟨rfl, rfl, rfl, rfl⟩) ?_)) | (refine Or.inl (And.intro (Ob.mk ⟨rfl, rfl, rfl⟩) ?_)) | (refine And.intro (Ob.mk ⟨rfl, rfl⟩) ?_) | (with_reducible refine Or.inr ?_) | (refine And.intro (Ob.mk (flat_of rfl)) ?_) | (with_reducible refine And.intro (Ob.mk (Flat.map ?_)) ?_; exact fun _ => rfl) | (with_reducible first | exact Ob.mk (Flat.map fun _ => rfl) | refine And.intro ?_ ?_ | apply exG.mk | apply exGS.mk | exact Dd.nil) | (refine Dd.same _ ?_) | (refine Dd.dead _ ?_) | (with_reducible first | apply exQ.mk | apply exP.mk) | (refine EqP.mk rfl rfl) | (with_reducible apply exW.mk) | (refine EqW.mk rfl) | (with_reducible first | intro _ | refine Dn.mk ?_) | (refine exS.full (by first | rfl | (simp; done) | (simp; omega)) ?_) | (refine And.intro (Ob.mk ⟨rfl, rfl, by first | rfl | (simp; done) | (simp; omega)⟩) ?_) | (with_reducible refine exE.mapD ?_) | (refine exL.int ?_) | (with_reducible first | refine Up0.mk rfl ?_ | refine Up0i.mk rfl ?_ | refine Up1.mk rfl ?_ | refine Up1i.mk rfl ?_ | refine Up2.mk rfl ?_ | refine Up2i.mk rfl ?_) | (refine Col.mk rfl rfl rfl ?_) | (refine Coli.mk rfl rfl rfl rfl ?_))
      exact Ob.mk rfl
    · intro i hi he
      repeat' ((conv => whnf); first | (with_reducible first | refine onBool_intro (fun _ => ?_) (fun _ => ?_) | refine And.intro (Ob.mk (Nat.le_of_ble_eq_true rfl)) ?_ | refine And.intro (Ob.mk rfl) ?_ | exact ⟨rfl, rfl⟩ | refine And.intro (Ob.mk (fun h => h)) ?_) | (with_reducible refine Or.inl (And.intro (Ob.mk (Flat.map ?_)) ?_); exact fun _ => rfl) | (refine Or.inl (And.intro (Ob.mk (flat_of rfl)) ?_)) | (refine Or.inl (And.intro (Ob.mk ⟨rfl, rfl, rfl, rfl⟩) ?_)) | (refine Or.inl (And.intro (Ob.mk ⟨rfl, rfl, rfl⟩) ?_)) | (refine And.intro (Ob.mk ⟨rfl, rfl⟩) ?_) | (with_reducible refine Or.inr ?_) | (refine And.intro (Ob.mk (flat_of rfl)) ?_) | (with_reducible refine And.intro (Ob.mk (Flat.map ?_)) ?_; exact fun _ => rfl) | (with_reducible first | exact Ob.mk (Flat.map fun _ => rfl) | refine And.intro ?_ ?_ | apply exG.mk | apply exGS.mk | exact Dd.nil) | (refine Dd.same _ ?_) | (refine Dd.dead _ ?_) | (with_reducible first | apply exQ.mk | apply exP.mk) | (refine EqP.mk rfl rfl) | (with_reducible apply exW.mk) | (refine EqW.mk rfl) | (with_reducible first | intro _ | refine Dn.mk ?_) | (refine exS.full (by first | rfl | (simp; done) | (simp; omega)) ?_) | (refine And.intro (Ob.mk ⟨rfl, rfl, by first | rfl | (simp; done) | (simp; omega)⟩) ?_) | (with_reducible refine exE.mapD ?_) | (refine exL.int ?_) | (with_reducible first | refine Up0.mk rfl ?_ | refine Up0i.mk rfl ?_ | refine Up1.mk rfl ?_ | refine Up1i.mk rfl ?_ | refine Up2.mk rfl ?_ | refine Up2i.mk rfl ?_) | (refine Col.mk rfl rfl rfl ?_) | (refine Coli.mk rfl rfl rfl rfl ?_) | (refine drawVC.all _ _ (by kernel_rfl) ?_))
      all_goals (try (refine Ob.mk ?_; first | assumption | exact ⟨rfl, rfl⟩ | exact ⟨rfl, rfl, rfl⟩ | (refine ⟨rfl, rfl, ?_⟩; simp only [List.length_map, List.length_take, List.length_append, els_len, List.length_replicate]; omega) | (intro h; exact h) | (intro h; rw [h]; rfl) | (intro h; simp_all; done) | (refine bytes_le (n := 1048577) ?_ rfl; simp only [ltI_iff, ltI_not, leI_iff, leI_not, eqI_iff, eqI_not, List.length_map, bif_and, bif_or, Bool.and_eq_true, Bool.and_eq_false_iff, Bool.or_eq_true, Bool.or_eq_false_iff, Bool.not_eq_true', Bool.not_eq_false', Int.toNat_natCast, beq_iff_eq, beq_eq_false_iff_ne, decide_eq_true_eq, decide_eq_false_iff_not, bel_iff, bel_not, wthn_iff, wthn_not, els_len, mixL_len, Nat.zero_add, List.length_set, List.length_take] at *; omega) | (simp only [ltI_iff, ltI_not, leI_iff, leI_not, eqI_iff, eqI_not, List.length_map, bif_and, bif_or, Bool.and_eq_true, Bool.and_eq_false_iff, Bool.or_eq_true, Bool.or_eq_false_iff, Bool.not_eq_true', Bool.not_eq_false', Int.toNat_natCast, beq_iff_eq, beq_eq_false_iff_ne, decide_eq_true_eq, decide_eq_false_iff_not, bel_iff, bel_not, wthn_iff, wthn_not, els_len, mixL_len, Nat.zero_add, List.length_set, List.length_take, Int.ofNat_eq_natCast] at *; omega)))
      · rename_i h1 h2
        simp only [Int.toNat_natCast] at h2
        have hne : nthD a.arrays i ≠ nthD b.arrays i := fun e => by rw [e] at h2; simp [eqI] at h2
        exact bool_no fun e => ne_of_nthD hne (by rw [e])
      · rename_i h1 h2
        have hlt : i < a.arrays.length := by simp only [ltI_iff, ltI_not, leI_iff, leI_not, eqI_iff, eqI_not, List.length_map, bif_and, bif_or, Bool.and_eq_true, Bool.and_eq_false_iff, Bool.or_eq_true, Bool.or_eq_false_iff, Bool.not_eq_true', Bool.not_eq_false', Int.toNat_natCast, beq_iff_eq, beq_eq_false_iff_ne, decide_eq_true_eq, decide_eq_false_iff_not] at *; omega
        simp only [Int.toNat_natCast, Bool.not_eq_false', Bool.and_eq_true, eqI_iff] at h2
        refine Ob.mk ⟨hlt, addI_i64 (by simp only [ltI_iff, ltI_not, leI_iff, leI_not, eqI_iff, eqI_not, List.length_map, bif_and, bif_or, Bool.and_eq_true, Bool.and_eq_false_iff, Bool.or_eq_true, Bool.or_eq_false_iff, Bool.not_eq_true', Bool.not_eq_false', Int.toNat_natCast, beq_iff_eq, beq_eq_false_iff_ne, decide_eq_true_eq, decide_eq_false_iff_not] at *; omega) (by simp only [ltI_iff, ltI_not, leI_iff, leI_not, eqI_iff, eqI_not, List.length_map, bif_and, bif_or, Bool.and_eq_true, Bool.and_eq_false_iff, Bool.or_eq_true, Bool.or_eq_false_iff, Bool.not_eq_true', Bool.not_eq_false', Int.toNat_natCast, beq_iff_eq, beq_eq_false_iff_ne, decide_eq_true_eq, decide_eq_false_iff_not] at *; omega), take_succ_eq hlt (by omega) he ?_⟩
        cases hx : nthD a.arrays i
        cases hy : nthD b.arrays i
        simp [hx, hy] at h2 ⊢
        exact h2
      · conv => whnf
        rename_i h1
        have hge : a.arrays.length ≤ i := by simp only [ltI_iff, ltI_not, leI_iff, leI_not, eqI_iff, eqI_not, List.length_map, bif_and, bif_or, Bool.and_eq_true, Bool.and_eq_false_iff, Bool.or_eq_true, Bool.or_eq_false_iff, Bool.not_eq_true', Bool.not_eq_false', Int.toNat_natCast, beq_iff_eq, beq_eq_false_iff_ne, decide_eq_true_eq, decide_eq_false_iff_not] at *; omega
        have hars := eq_of_take hge hl he
        clear he
        refine LoopVC.up0 6 a.blocks.length (fun i => a.blocks.take i = b.blocks.take i) ?_ ?_
        · repeat' ((conv => whnf); first | (with_reducible first | refine onBool_intro (fun _ => ?_) (fun _ => ?_) | refine And.intro (Ob.mk (Nat.le_of_ble_eq_true rfl)) ?_ | refine And.intro (Ob.mk rfl) ?_ | exact ⟨rfl, rfl⟩ | refine And.intro (Ob.mk (fun h => h)) ?_) | (with_reducible refine Or.inl (And.intro (Ob.mk (Flat.map ?_)) ?_); exact fun _ => rfl) | (refine Or.inl (And.intro (Ob.mk (flat_of rfl)) ?_)) | (refine Or.inl (And.intro (Ob.mk ⟨rfl, rfl, rfl, rfl⟩) ?_)) | (refine Or.inl (And.intro (Ob.mk ⟨rfl, rfl, rfl⟩) ?_)) | (refine And.intro (Ob.mk ⟨rfl, rfl⟩) ?_) | (with_reducible refine Or.inr ?_) | (refine And.intro (Ob.mk (flat_of rfl)) ?_) | (with_reducible refine And.intro (Ob.mk (Flat.map ?_)) ?_; exact fun _ => rfl) | (with_reducible first | exact Ob.mk (Flat.map fun _ => rfl) | refine And.intro ?_ ?_ | apply exG.mk | apply exGS.mk | exact Dd.nil) | (refine Dd.same _ ?_) | (refine Dd.dead _ ?_) | (with_reducible first | apply exQ.mk | apply exP.mk) | (refine EqP.mk rfl rfl) | (with_reducible apply exW.mk) | (refine EqW.mk rfl) | (with_reducible first | intro _ | refine Dn.mk ?_) | (refine exS.full (by first | rfl | (simp; done) | (simp; omega)) ?_) | (refine And.intro (Ob.mk ⟨rfl, rfl, by first | rfl | (simp; done) | (simp; omega)⟩) ?_) | (with_reducible refine exE.mapD ?_) | (refine exL.int ?_) | (with_reducible first | refine Up0.mk rfl ?_ | refine Up0i.mk rfl ?_ | refine Up1.mk rfl ?_ | refine Up1i.mk rfl ?_ | refine Up2.mk rfl ?_ | refine Up2i.mk rfl ?_) | (refine Col.mk rfl rfl rfl ?_) | (refine Coli.mk rfl rfl rfl rfl ?_))
          exact Ob.mk rfl
        · intro j hj he
          repeat' ((conv => whnf); first | (with_reducible first | refine onBool_intro (fun _ => ?_) (fun _ => ?_) | refine And.intro (Ob.mk (Nat.le_of_ble_eq_true rfl)) ?_ | refine And.intro (Ob.mk rfl) ?_ | exact ⟨rfl, rfl⟩ | refine And.intro (Ob.mk (fun h => h)) ?_) | (with_reducible refine Or.inl (And.intro (Ob.mk (Flat.map ?_)) ?_); exact fun _ => rfl) | (refine Or.inl (And.intro (Ob.mk (flat_of rfl)) ?_)) | (refine Or.inl (And.intro (Ob.mk ⟨rfl, rfl, rfl, rfl⟩) ?_)) | (refine Or.inl (And.intro (Ob.mk ⟨rfl, rfl, rfl⟩) ?_)) | (refine And.intro (Ob.mk ⟨rfl, rfl⟩) ?_) | (with_reducible refine Or.inr ?_) | (refine And.intro (Ob.mk (flat_of rfl)) ?_) | (with_reducible refine And.intro (Ob.mk (Flat.map ?_)) ?_; exact fun _ => rfl) | (with_reducible first | exact Ob.mk (Flat.map fun _ => rfl) | refine And.intro ?_ ?_ | apply exG.mk | apply exGS.mk | exact Dd.nil) | (refine Dd.same _ ?_) | (refine Dd.dead _ ?_) | (with_reducible first | apply exQ.mk | apply exP.mk) | (refine EqP.mk rfl rfl) | (with_reducible apply exW.mk) | (refine EqW.mk rfl) | (with_reducible first | intro _ | refine Dn.mk ?_) | (refine exS.full (by first | rfl | (simp; done) | (simp; omega)) ?_) | (refine And.intro (Ob.mk ⟨rfl, rfl, by first | rfl | (simp; done) | (simp; omega)⟩) ?_) | (with_reducible refine exE.mapD ?_) | (refine exL.int ?_) | (with_reducible first | refine Up0.mk rfl ?_ | refine Up0i.mk rfl ?_ | refine Up1.mk rfl ?_ | refine Up1i.mk rfl ?_ | refine Up2.mk rfl ?_ | refine Up2i.mk rfl ?_) | (refine Col.mk rfl rfl rfl ?_) | (refine Coli.mk rfl rfl rfl rfl ?_) | (refine drawVC.all _ _ (by kernel_rfl) ?_) | (refine PCalls.mono (sameBlock _ _) ?_; rintro _ rfl))
          all_goals (try (refine Ob.mk ?_; first | assumption | exact ⟨rfl, rfl⟩ | exact ⟨rfl, rfl, rfl⟩ | (refine ⟨rfl, rfl, ?_⟩; simp only [List.length_map, List.length_take, List.length_append, els_len, List.length_replicate]; omega) | (intro h; exact h) | (intro h; rw [h]; rfl) | (intro h; simp_all; done) | (refine bytes_le (n := 1048577) ?_ rfl; simp only [ltI_iff, ltI_not, leI_iff, leI_not, eqI_iff, eqI_not, List.length_map, bif_and, bif_or, Bool.and_eq_true, Bool.and_eq_false_iff, Bool.or_eq_true, Bool.or_eq_false_iff, Bool.not_eq_true', Bool.not_eq_false', Int.toNat_natCast, beq_iff_eq, beq_eq_false_iff_ne, decide_eq_true_eq, decide_eq_false_iff_not, bel_iff, bel_not, wthn_iff, wthn_not, els_len, mixL_len, Nat.zero_add, List.length_set, List.length_take] at *; omega) | (simp only [ltI_iff, ltI_not, leI_iff, leI_not, eqI_iff, eqI_not, List.length_map, bif_and, bif_or, Bool.and_eq_true, Bool.and_eq_false_iff, Bool.or_eq_true, Bool.or_eq_false_iff, Bool.not_eq_true', Bool.not_eq_false', Int.toNat_natCast, beq_iff_eq, beq_eq_false_iff_ne, decide_eq_true_eq, decide_eq_false_iff_not, bel_iff, bel_not, wthn_iff, wthn_not, els_len, mixL_len, Nat.zero_add, List.length_set, List.length_take, Int.ofNat_eq_natCast] at *; omega)))
          · rename_i h2 h3
            simp only [Int.toNat_natCast, Bool.not_eq_true', decide_eq_false_iff_not] at h3
            exact bool_no fun e => ne_of_nthD h3 (by rw [e])
          · rename_i h2 h3
            have hlt : j < a.blocks.length := by simp only [ltI_iff, ltI_not, leI_iff, leI_not, eqI_iff, eqI_not, List.length_map, bif_and, bif_or, Bool.and_eq_true, Bool.and_eq_false_iff, Bool.or_eq_true, Bool.or_eq_false_iff, Bool.not_eq_true', Bool.not_eq_false', Int.toNat_natCast, beq_iff_eq, beq_eq_false_iff_ne, decide_eq_true_eq, decide_eq_false_iff_not] at *; omega
            simp only [Int.toNat_natCast, Bool.not_eq_false', decide_eq_true_eq] at h3
            exact Ob.mk ⟨hlt, addI_i64 (by simp only [ltI_iff, ltI_not, leI_iff, leI_not, eqI_iff, eqI_not, List.length_map, bif_and, bif_or, Bool.and_eq_true, Bool.and_eq_false_iff, Bool.or_eq_true, Bool.or_eq_false_iff, Bool.not_eq_true', Bool.not_eq_false', Int.toNat_natCast, beq_iff_eq, beq_eq_false_iff_ne, decide_eq_true_eq, decide_eq_false_iff_not] at *; omega) (by simp only [ltI_iff, ltI_not, leI_iff, leI_not, eqI_iff, eqI_not, List.length_map, bif_and, bif_or, Bool.and_eq_true, Bool.and_eq_false_iff, Bool.or_eq_true, Bool.or_eq_false_iff, Bool.not_eq_true', Bool.not_eq_false', Int.toNat_natCast, beq_iff_eq, beq_eq_false_iff_ne, decide_eq_true_eq, decide_eq_false_iff_not] at *; omega), take_succ_eq hlt (by omega) he h3⟩
          · rename_i h2
            have hge2 : a.blocks.length ≤ j := by simp only [ltI_iff, ltI_not, leI_iff, leI_not, eqI_iff, eqI_not, List.length_map, bif_and, bif_or, Bool.and_eq_true, Bool.and_eq_false_iff, Bool.or_eq_true, Bool.or_eq_false_iff, Bool.not_eq_true', Bool.not_eq_false', Int.toNat_natCast, beq_iff_eq, beq_eq_false_iff_ne, decide_eq_true_eq, decide_eq_false_iff_not] at *; omega
            have hbs := eq_of_take hge2 hl2 he
            refine bool_yes ?_
            cases a
            cases b
            simp only [Graph.mk.injEq] at *
            exact ⟨g2, g1, hars, hbs⟩
end Go.Proofs.YtgnafgebenlffaaDoor.Am

/- Frames: the laws' own functions. -/
namespace Go.Proofs.YtgnafgebenlffaaDoor.Am
open Go Go.Proofs
set_option maxRecDepth 10000
set_option maxHeartbeats 2000000
set_option linter.unusedVariables false
set_option linter.unusedSimpArgs false
theorem lay9k (g : Graph) (hg : g.tiny) {q : T → Prop} (h1 : ¬ g.okF → ∀ e, e = 1 → q (.tup [layZ, .int .i64 e])) (h2 : g.okF → ∀ e, e = 0 → q (.tup [layT g, .int .i64 e])) : PCalls Tryd.prog 9 [g.t] q :=
  PCalls.mono (lay9 g hg) fun r h => by
    rcases h.out with ⟨h3, rfl⟩ | ⟨h3, rfl⟩
    · exact h1 h3 1 rfl
    · exact h2 h3 0 rfl
theorem weight11 (g : Graph) (hg : g.tiny) : PCalls Tryd.prog 11 [g.t] (fun r => Ob ((¬ g.okF ∧ r = .tup [.int .i64 0, .int .i64 1]) ∨ (g.okF ∧ r = .tup [.int .i64 (wgtF g), .int .i64 0]))) := by
  refine PCalls.of_body ttOk Tryd.func11 rfl ?_
  repeat' ((conv => whnf); first | (with_reducible first | refine onBool_intro (fun _ => ?_) (fun _ => ?_) | refine And.intro (Ob.mk (Nat.le_of_ble_eq_true rfl)) ?_ | refine And.intro (Ob.mk rfl) ?_ | exact ⟨rfl, rfl⟩ | refine And.intro (Ob.mk (fun h => h)) ?_) | (with_reducible refine Or.inl (And.intro (Ob.mk (Flat.map ?_)) ?_); exact fun _ => rfl) | (refine Or.inl (And.intro (Ob.mk (flat_of rfl)) ?_)) | (refine Or.inl (And.intro (Ob.mk ⟨rfl, rfl, rfl, rfl⟩) ?_)) | (refine Or.inl (And.intro (Ob.mk ⟨rfl, rfl, rfl⟩) ?_)) | (refine And.intro (Ob.mk ⟨rfl, rfl⟩) ?_) | (with_reducible refine Or.inr ?_) | (refine And.intro (Ob.mk (flat_of rfl)) ?_) | (with_reducible refine And.intro (Ob.mk (Flat.map ?_)) ?_; exact fun _ => rfl) | (with_reducible first | exact Ob.mk (Flat.map fun _ => rfl) | refine And.intro ?_ ?_ | apply exG.mk | apply exGS.mk | exact Dd.nil) | (refine Dd.same _ ?_) | (refine Dd.dead _ ?_) | (with_reducible first | apply exQ.mk | apply exP.mk) | (refine EqP.mk rfl rfl) | (with_reducible apply exW.mk) | (refine EqW.mk rfl) | (with_reducible first | intro _ | refine Dn.mk ?_) | (refine exS.full (by first | rfl | (simp; done) | (simp; omega)) ?_) | (refine And.intro (Ob.mk ⟨rfl, rfl, by first | rfl | (simp; done) | (simp; omega)⟩) ?_) | (with_reducible refine exE.mapD ?_) | (refine exL.int ?_) | (with_reducible first | refine Up0.mk rfl ?_ | refine Up0i.mk rfl ?_ | refine Up1.mk rfl ?_ | refine Up1i.mk rfl ?_ | refine Up2.mk rfl ?_ | refine Up2i.mk rfl ?_) | (refine Col.mk rfl rfl rfl ?_) | (refine Coli.mk rfl rfl rfl rfl ?_) | (refine lay9k g hg (fun h e he => ?_) (fun h e he => ?_)))
  all_goals (try (refine Ob.mk ?_; first | assumption | exact ⟨rfl, rfl⟩ | exact ⟨rfl, rfl, rfl⟩ | (refine ⟨rfl, rfl, ?_⟩; simp only [List.length_map, List.length_take, List.length_append, els_len, List.length_replicate]; omega) | (intro h; exact h) | (intro h; rw [h]; rfl) | (intro h; simp_all; done) | (refine bytes_le (n := 1048577) ?_ rfl; simp only [ltI_iff, ltI_not, leI_iff, leI_not, eqI_iff, eqI_not, List.length_map, bif_and, bif_or, Bool.and_eq_true, Bool.and_eq_false_iff, Bool.or_eq_true, Bool.or_eq_false_iff, Bool.not_eq_true', Bool.not_eq_false', Int.toNat_natCast, beq_iff_eq, beq_eq_false_iff_ne, decide_eq_true_eq, decide_eq_false_iff_not, bel_iff, bel_not, wthn_iff, wthn_not, els_len, mixL_len, Nat.zero_add, List.length_set, List.length_take] at *; omega) | (simp only [ltI_iff, ltI_not, leI_iff, leI_not, eqI_iff, eqI_not, List.length_map, bif_and, bif_or, Bool.and_eq_true, Bool.and_eq_false_iff, Bool.or_eq_true, Bool.or_eq_false_iff, Bool.not_eq_true', Bool.not_eq_false', Int.toNat_natCast, beq_iff_eq, beq_eq_false_iff_ne, decide_eq_true_eq, decide_eq_false_iff_not, bel_iff, bel_not, wthn_iff, wthn_not, els_len, mixL_len, Nat.zero_add, List.length_set, List.length_take, Int.ofNat_eq_natCast] at *; omega)))
  · subst he
    rw [mul4 (by omega) (by omega)]
    exact Ob.mk (.inl ⟨h, rfl⟩)
  · subst he
    have := okF_rng h
    rw [mul4 this.1 this.2]
    exact Ob.mk (.inr ⟨h, rfl⟩)
structure Lay where
  args : Int
  saved : List Int
  slots : Int
  arrays : Int
  words : Int
  deriving DecidableEq
def Lay.t (l : Lay) : T := .agg [.int .i64 l.args, ilist l.saved, .int .i64 l.slots, .int .i64 l.arrays, .int .i64 l.words]
noncomputable def layN (g : Graph) : Lay := ⟨argsF g, savedF g, slotsF g, wordsF g.arrays, wdF g⟩
theorem same13 (a b : Lay) : PCalls Tryd.prog 13 [a.t, b.t] (fun r => r = .bool (decide (a = b))) := by
  refine PCalls.of_body ttOk Tryd.func13 rfl ?_
  repeat' ((conv => whnf); first | (with_reducible first | refine onBool_intro (fun _ => ?_) (fun _ => ?_) | refine And.intro (Ob.mk (Nat.le_of_ble_eq_true rfl)) ?_ | refine And.intro (Ob.mk rfl) ?_ | exact ⟨rfl, rfl⟩ | refine And.intro (Ob.mk (fun h => h)) ?_) | (with_reducible refine Or.inl (And.intro (Ob.mk (Flat.map ?_)) ?_); exact fun _ => rfl) | (refine Or.inl (And.intro (Ob.mk (flat_of rfl)) ?_)) | (refine Or.inl (And.intro (Ob.mk ⟨rfl, rfl, rfl, rfl⟩) ?_)) | (refine Or.inl (And.intro (Ob.mk ⟨rfl, rfl, rfl⟩) ?_)) | (refine And.intro (Ob.mk ⟨rfl, rfl⟩) ?_) | (with_reducible refine Or.inr ?_) | (refine And.intro (Ob.mk (flat_of rfl)) ?_) | (with_reducible refine And.intro (Ob.mk (Flat.map ?_)) ?_; exact fun _ => rfl) | (with_reducible first | exact Ob.mk (Flat.map fun _ => rfl) | refine And.intro ?_ ?_ | apply exG.mk | apply exGS.mk | exact Dd.nil) | (refine Dd.same _ ?_) | (refine Dd.dead _ ?_) | (with_reducible first | apply exQ.mk | apply exP.mk) | (refine EqP.mk rfl rfl) | (with_reducible apply exW.mk) | (refine EqW.mk rfl) | (with_reducible first | intro _ | refine Dn.mk ?_) | (refine exS.full (by first | rfl | (simp; done) | (simp; omega)) ?_) | (refine And.intro (Ob.mk ⟨rfl, rfl, by first | rfl | (simp; done) | (simp; omega)⟩) ?_) | (with_reducible refine exE.mapD ?_) | (refine exL.int ?_) | (with_reducible first | refine Up0.mk rfl ?_ | refine Up0i.mk rfl ?_ | refine Up1.mk rfl ?_ | refine Up1i.mk rfl ?_ | refine Up2.mk rfl ?_ | refine Up2i.mk rfl ?_) | (refine Col.mk rfl rfl rfl ?_) | (refine Coli.mk rfl rfl rfl rfl ?_) | (refine PCalls.mono (sameInts _ _) ?_; rintro _ rfl))
  all_goals (try (refine Ob.mk ?_; first | assumption | exact ⟨rfl, rfl⟩ | exact ⟨rfl, rfl, rfl⟩ | (refine ⟨rfl, rfl, ?_⟩; simp only [List.length_map, List.length_take, List.length_append, els_len, List.length_replicate]; omega) | (intro h; exact h) | (intro h; rw [h]; rfl) | (intro h; simp_all; done) | (refine bytes_le (n := 1048577) ?_ rfl; simp only [ltI_iff, ltI_not, leI_iff, leI_not, eqI_iff, eqI_not, List.length_map, bif_and, bif_or, Bool.and_eq_true, Bool.and_eq_false_iff, Bool.or_eq_true, Bool.or_eq_false_iff, Bool.not_eq_true', Bool.not_eq_false', Int.toNat_natCast, beq_iff_eq, beq_eq_false_iff_ne, decide_eq_true_eq, decide_eq_false_iff_not, bel_iff, bel_not, wthn_iff, wthn_not, els_len, mixL_len, Nat.zero_add, List.length_set, List.length_take] at *; omega) | (simp only [ltI_iff, ltI_not, leI_iff, leI_not, eqI_iff, eqI_not, List.length_map, bif_and, bif_or, Bool.and_eq_true, Bool.and_eq_false_iff, Bool.or_eq_true, Bool.or_eq_false_iff, Bool.not_eq_true', Bool.not_eq_false', Int.toNat_natCast, beq_iff_eq, beq_eq_false_iff_ne, decide_eq_true_eq, decide_eq_false_iff_not, bel_iff, bel_not, wthn_iff, wthn_not, els_len, mixL_len, Nat.zero_add, List.length_set, List.length_take, Int.ofNat_eq_natCast] at *; omega)))
  all_goals
    refine congrArg T.bool (?_ : _ = decide (a = b))
    rw [Bool.eq_iff_iff]
    cases a
    cases b
    simp only [bif_and, Bool.and_eq_true, eqI_iff, decide_eq_true_eq, beq_iff_eq, Lay.mk.injEq]
    grind
theorem same13j (a b : Lay) {x y : T} (hx : Ob (Le x a.t)) (hy : Ob (Le y b.t)) {q : T → Prop} (hq : q (.bool (decide (a = b)))) : PCalls Tryd.prog 13 [x, y] q :=
  PCalls.argsL (.cons hx.out (.cons hy.out .nil)) (PCalls.mono (same13 a b) fun _ h => h ▸ hq)
def frG : Graph := ⟨[2, 0], 12, [⟨3, 0⟩, ⟨2, 5⟩], [⟨[⟨1, 1, 0, 0, 0, 0, [], []⟩, ⟨2, 11, 4, 0, 0, 0, [], []⟩], ⟨5, 0, -1, 0, 0, 0, 0, [], []⟩⟩]⟩
abbrev frB : Block := ⟨[⟨1, 1, 0, 0, 0, 0, [], []⟩, ⟨2, 11, 4, 0, 0, 0, [], []⟩], ⟨5, 0, -1, 0, 0, 0, 0, [], []⟩⟩
theorem fr_one {b : Block} (h : b ∈ frG.blocks) : b = frB := by simpa [frG] using h
theorem fr_tiny : frG.tiny := by
  refine ⟨by simp [frG], by simp [frG], by simp [frG], fun b hb => ?_⟩
  rw [fr_one hb]
  exact ⟨by simp, by simp, by simp, Nat.zero_le _, Nat.zero_le _⟩
theorem fr_next {b : Int} : nextN frG b = [] := by
  unfold nextN
  split
  · have : (nthD frG.blocks b.toNat).fin = frB.fin ∨ (nthD frG.blocks b.toNat).fin = default := by
      rcases nthD_cases frG.blocks b.toNat with h | h
      · left; rw [fr_one h]
      · right; rw [h]; rfl
    rcases this with h | h
    · rw [h]; exact srt_nil
    · rw [h]; exact srt_nil
  · rfl
theorem fr_wide : ∀ b ∈ frG.blocks, ∀ x ∈ allN b.fin, I64 x := by
  intro b hb x hx
  rw [fr_one hb] at hx
  exact nomatch hx
theorem fr_fits : frG.fits := by
  refine ⟨⟨by simp [frG], by simp [frG], fun b hb s hs => ?_⟩, ⟨by decide, by decide⟩, fun b hb x hx => ?_, fun b hb => ?_⟩
  · rw [fr_next] at hs; exact nomatch hs
  · rw [fr_one hb] at hx
    simp only [List.mem_cons, List.not_mem_nil, or_false] at hx
    rcases hx with rfl | rfl <;> simp [insOk, usesN, kindN, frG, bel_iff]
  · rw [fr_one hb]
    simp [endOk, eUsesN]
theorem fr_okF : frG.okF := by
  refine ⟨⟨fr_fits, by simp [frG], fun t ht => ?_, by simp [frG]⟩, ?_⟩
  · simp [frG] at ht ⊢
    omega
  · simp [arrsF, frG, arrF, wordsF, parsF, wthn]
theorem fr_step {a : Nat → Nat → Bool} {t : Nat} : stepF frG a 0 t = (t == 4) := by
  have eb : nthD frG.blocks 0 = frB := nthD_get (l := frG.blocks) (i := 0) (by simp [frG])
  have es : stepF frG a 0 t = backF ⟨1, 1, 0, 0, 0, 0, [], []⟩ (backF ⟨2, 11, 4, 0, 0, 0, [], []⟩ (endF frG a 0)) t := by
    unfold stepF
    rw [eb]
    rfl
  rw [es]
  unfold backF endF
  rw [fr_next, eb]
  have e1 : usesN ⟨1, 1, 0, 0, 0, 0, [], []⟩ = [] := by simp [usesN, kindN]
  have e2 : setsN ⟨1, 1, 0, 0, 0, 0, [], []⟩ = 1 := by simp [setsN, kindN]
  have e3 : usesN ⟨2, 11, 4, 0, 0, 0, [], []⟩ = [4] := by simp [usesN, kindN]
  have e4 : setsN ⟨2, 11, 4, 0, 0, 0, [], []⟩ = 11 := by simp [setsN, kindN]
  have e5 : eUsesN frB.fin = [] := by simp [eUsesN]
  rw [e1, e2, e3, e4, e5, Bool.eq_iff_iff]
  simp
  omega
theorem fr_least : Least frG 8000 (fun _ t => t == 4) ∧ Inside frG fun _ t => t == 4 := by
  have hl : frG.blocks.length = 1 := rfl
  refine ⟨⟨⟨fun b hb t ht h => ?_, fun p hp b hb t ht h => ?_⟩, fun b hb t ht h => ?_⟩, fun b hb t ht h => ?_⟩
  · obtain rfl : b = 0 := by omega
    rw [fr_step]; exact h
  · obtain rfl : b = 0 := by omega
    exact hp 0 hb t ht (by rw [fr_step]; exact h)
  · obtain rfl : b = 0 := by omega
    rw [fr_step] at h; exact h
  · have : t = 4 := by simpa using h
    subst this
    decide
theorem fr_lay : layN frG = ⟨4, [0, 1, 2, 4], 3, 5, 16⟩ := by
  have hs : savedF frG = [0, 1, 2, 4] := by
    have : savedF frG = liveN 9 fun t => t == 0 || t == 1 || t == 2 || t == 4 := by
      unfold savedF
      refine liveN_congr fun t ht => ?_
      rw [Bool.eq_iff_iff, tr_iff]
      unfold keptF
      rw [← theA_eq fr_least.1 fr_least.2 (by decide) (by omega)]
      have e1 : setsB frG.blocks frG.blocks.length t ↔ t = 1 ∨ t = 11 := by
        unfold setsB
        rw [List.take_length]
        constructor
        · rintro ⟨b, hb, y, hy, e⟩
          rw [fr_one hb] at hy
          simp only [List.mem_cons, List.not_mem_nil, or_false] at hy
          rcases hy with rfl | rfl
          · simp [setsN, kindN] at e; omega
          · simp [setsN, kindN] at e; omega
        · rintro (rfl | rfl)
          · exact ⟨frB, by simp [frG], ⟨1, 1, 0, 0, 0, 0, [], []⟩, by simp, by simp [setsN, kindN]⟩
          · exact ⟨frB, by simp [frG], ⟨2, 11, 4, 0, 0, 0, [], []⟩, by simp, by simp [setsN, kindN]⟩
      have e2 : (t : Int) ∈ frG.params ↔ t = 2 ∨ t = 0 := by simp [frG]; omega
      have e3 : wordsF frG.arrays = 5 := by simp [wordsF, frG]
      rw [e1, e2, e3]
      simp
      omega
    rw [this]
    decide
  unfold layN wdF argsF slotsF
  rw [hs]
  simp [frG, parsF, wordsF]
abbrev frGT : T := .agg [.sl 1 [.int .i64 2, .int .i64 0], .int .i64 12, .sl 2 [.agg [.int .i64 3, .int .i64 0], .agg [.int .i64 2, .int .i64 5]], .sl 10 [.agg [.nst 57 8 [.agg [.int .i64 1, .int .i64 1, .int .i64 0, .int .i64 0, .int .i64 0, .int .u32 0, .nsl, .nsl], .agg [.int .i64 2, .int .i64 11, .int .i64 4, .int .i64 0, .int .i64 0, .int .u32 0, .nsl, .nsl]], .int .i64 5, .int .i64 0, .int .i64 (-1), .int .i64 0, .int .u32 0, .int .i64 0, .int .i64 0, .nsl, .nsl]]]
theorem frLe : LeL [frGT] [frG.t] := by
  refine .cons (Le.aggL (.cons (.refl _) (.cons (.refl _) (.cons (.refl _) (.cons ?_ .nil))))) .nil
  refine Le.slmap (l := [()]) (f := fun _ => T.agg [.nst 57 8 [.agg [.int .i64 1, .int .i64 1, .int .i64 0, .int .i64 0, .int .i64 0, .int .u32 0, .nsl, .nsl], .agg [.int .i64 2, .int .i64 11, .int .i64 4, .int .i64 0, .int .i64 0, .int .u32 0, .nsl, .nsl]], .int .i64 5, .int .i64 0, .int .i64 (-1), .int .i64 0, .int .u32 0, .int .i64 0, .int .i64 0, .nsl, .nsl]) (g := fun _ => frB.t) (fun _ => ?_) (fun _ => rfl)
  refine .cons (.nst _ _ _ _ ?_) (.cons (.refl _) (.cons (.refl _) (.cons (.refl _) (.cons (.refl _) (.cons (.refl _) (.cons (.refl _) (.cons (.refl _) (.cons (.nsl 2) (.cons (.nsl 1) .nil)))))))))
  exact Le.slmap (l := [(⟨1, 1, 0, 0, 0, 0, [], []⟩ : Ins), ⟨2, 11, 4, 0, 0, 0, [], []⟩]) (f := fun x : Ins => T.agg [.int .i64 x.op, .int .i64 x.d, .int .i64 x.a, .int .i64 x.b, .int .i64 x.f, .int .u32 x.n, .nsl, .nsl]) (g := fun x : Ins => T.agg [.int .i64 x.op, .int .i64 x.d, .int .i64 x.a, .int .i64 x.b, .int .i64 x.f, .int .u32 x.n, .sl 1 [], .sl 1 []]) (fun _ => .cons (.refl _) (.cons (.refl _) (.cons (.refl _) (.cons (.refl _) (.cons (.refl _) (.cons (.refl _) (.cons (.nsl 1) (.cons (.nsl 1) .nil)))))))) (fun _ => rfl)
theorem frK {q : T → Prop} (h : ∀ e, e = 0 → q (.own (.tup [layO frG, .int .i64 e]))) : PCalls Tryd.prog 8 [frGT] q :=
  PCalls.argsL frLe (lay8k frG fr_tiny fr_wide (fun h1 => absurd fr_okF h1) fun _ => h)
theorem weight10k (g : Graph) (hg : g.tiny) (hw : ∀ b ∈ g.blocks, ∀ x ∈ allN b.fin, I64 x) {q : T → Prop} (h1 : ¬ g.okF → ∀ e, e = 1 → q (.tup [.int .i64 0, .int .i64 e])) (h2 : g.okF → ∀ e, e = 0 → q (.tup [.int .i64 (wgtF g), .int .i64 e])) : PCalls Tryd.prog 10 [g.t] q :=
  PCalls.mono (weight10 g hg hw) fun r h => by
    rcases h.out with ⟨h3, rfl⟩ | ⟨h3, rfl⟩
    · exact h1 h3 1 rfl
    · exact h2 h3 0 rfl
theorem frWK {q : T → Prop} (h : ∀ e, e = 0 → q (.tup [.int .i64 (wgtF frG), .int .i64 e])) : PCalls Tryd.prog 10 [frGT] q :=
  PCalls.argsL frLe (weight10k frG fr_tiny fr_wide (fun h1 => absurd fr_okF h1) fun _ => h)
theorem fr_wgt : wgtF frG = 64 := by
  have : wdF frG = 16 := congrArg Lay.words fr_lay
  unfold wgtF
  rw [this]
  rfl
theorem live12 : PCalls Tryd.prog 12 [] (fun r => r = .bool true) := by
  refine PCalls.of_body ttOk Tryd.func12 rfl ?_
  repeat' ((conv => whnf); first | (with_reducible first | refine onBool_intro (fun _ => ?_) (fun _ => ?_) | refine And.intro (Ob.mk (Nat.le_of_ble_eq_true rfl)) ?_ | refine And.intro (Ob.mk rfl) ?_ | exact ⟨rfl, rfl⟩ | refine And.intro (Ob.mk (fun h => h)) ?_) | (with_reducible refine Or.inl (And.intro (Ob.mk (Flat.map ?_)) ?_); exact fun _ => rfl) | (refine Or.inl (And.intro (Ob.mk (flat_of rfl)) ?_)) | (refine Or.inl (And.intro (Ob.mk ⟨rfl, rfl, rfl, rfl⟩) ?_)) | (refine Or.inl (And.intro (Ob.mk ⟨rfl, rfl, rfl⟩) ?_)) | (refine And.intro (Ob.mk ⟨rfl, rfl⟩) ?_) | (with_reducible refine Or.inr ?_) | (refine And.intro (Ob.mk (flat_of rfl)) ?_) | (with_reducible refine And.intro (Ob.mk (Flat.map ?_)) ?_; exact fun _ => rfl) | (with_reducible first | exact Ob.mk (Flat.map fun _ => rfl) | refine And.intro ?_ ?_ | apply exG.mk | apply exGS.mk | exact Dd.nil) | (refine Dd.same _ ?_) | (refine Dd.dead _ ?_) | (with_reducible first | apply exQ.mk | apply exP.mk) | (refine EqP.mk rfl rfl) | (with_reducible apply exW.mk) | (refine EqW.mk rfl) | (with_reducible first | intro _ | refine Dn.mk ?_) | (refine exS.full (by first | rfl | (simp; done) | (simp; omega)) ?_) | (refine And.intro (Ob.mk ⟨rfl, rfl, by first | rfl | (simp; done) | (simp; omega)⟩) ?_) | (with_reducible refine exE.mapD ?_) | (refine exL.int ?_) | (with_reducible first | refine Up0.mk rfl ?_ | refine Up0i.mk rfl ?_ | refine Up1.mk rfl ?_ | refine Up1i.mk rfl ?_ | refine Up2.mk rfl ?_ | refine Up2i.mk rfl ?_) | (refine Col.mk rfl rfl rfl ?_) | (refine Coli.mk rfl rfl rfl rfl ?_) | (refine frK fun e he => ?_) | (refine frWK fun e he => ?_) | (refine same13j (layN frG) ⟨4, [0, 1, 2, 4], 3, 5, 16⟩ ?_ ?_ ?_))
  all_goals (try exact Ob.mk ⟨rfl, rfl, rfl⟩)
  all_goals (try exact Ob.mk (Le.refl _))
  · exfalso
    rename_i e1 h1 h3
    subst h1 he
    rw [fr_wgt] at h3
    simp [eqI_beq] at h3
  · rename_i e1 h1
    subst h1 he
    rw [fr_wgt, fr_lay]
    simp [eqI_beq]
end Go.Proofs.YtgnafgebenlffaaDoor.Am
