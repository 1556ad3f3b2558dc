/- Loops: the law's own answers; LoopsTells. -/
import Derived.Test.YtgladinljapmkaaUS
import Derived.Test.YtgladinljapmkaaUR
/- Loops: is a graph reducible? by the document's answer. -/
namespace Go.Proofs.Ytgladinljapmkaa.Am
open Go Go.Proofs
set_option maxRecDepth 10000
set_option maxHeartbeats 2000000
set_option linter.unusedVariables false
set_option linter.unusedSimpArgs false
noncomputable def fL (to : List (List Int)) (a : Nat) : List Int := (nthD to a).filter fun c => !domB to c.toNat a
noncomputable def fLL (to : List (List Int)) : List (List Int) := (List.range to.length).map (fL to)
variable {to : List (List Int)}
theorem fLL_len : (fLL to).length = to.length := by unfold fLL; simp
theorem fLL_at {a : Nat} (h : a < to.length) : nthD (fLL to) a = fL to a := by
  rw [nthD_get (by rw [fLL_len]; exact h)]
  unfold fLL
  simp
theorem fL_len {a : Nat} : (fL to a).length ≤ (nthD to a).length := List.length_filter_le ..
theorem fL_mem (hw : WalkL to) {a : Nat} (ha : Rch (EdgeL to) a) {b : Nat} : (b : Int) ∈ fL to a ↔ Forth (EdgeL to) a b := by
  unfold fL
  rw [List.mem_filter, Int.toNat_natCast]
  constructor
  · rintro ⟨h1, h2⟩
    refine ⟨ha, ⟨hw.rch ha, h1⟩, fun hd => ?_⟩
    rw [domB_iff.2 hd] at h2; cases h2
  · rintro ⟨_, h1, h2⟩
    refine ⟨h1.2, ?_⟩
    cases h : domB to b a with
    | true => exact absurd (domB_iff.1 h) h2
    | false => rfl
theorem fLL_rng (hw : WalkL to) : RngL (fLL to) := fun a ha s hs => by
  rw [fLL_len] at ha ⊢
  rw [fLL_at ha] at hs
  exact hw.rng a ha s (List.mem_filter.1 hs).1
theorem fLL_edge (hw : WalkL to) {a b : Nat} (ha : Rch (EdgeL to) a) : EdgeL (fLL to) a b ↔ Forth (EdgeL to) a b := by
  unfold EdgeL
  rw [fLL_len]
  have h := hw.rch ha
  rw [fLL_at h, fL_mem hw ha]
  exact ⟨fun h => h.2, fun h2 => ⟨h, h2⟩⟩
theorem TC.head {f : Nat → Nat → Prop} {a b : Nat} (h : TC f a b) : ∃ c, f a c ∧ (c = b ∨ TC f c b) := by
  induction h with
  | one h => exact ⟨_, h, .inl rfl⟩
  | step _ h ih =>
    obtain ⟨c, h1, h2⟩ := ih
    rcases h2 with rfl | h2
    · exact ⟨c, h1, .inr (.one h)⟩
    · exact ⟨c, h1, .inr (.step h2 h)⟩
theorem ring_iff (hw : WalkL to) {a c : Nat} (hf : Forth (EdgeL to) a c) : wayF (fLL to) c (-1) a = true ↔ (c = a ∨ TC (Forth (EdgeL to)) c a) := by
  rw [wayF_iff]
  constructor
  · intro h
    have : ∀ {b}, RF (EdgeL (fLL to)) (fun x => (x : Int) ≠ -1) c b → Rch (EdgeL to) b ∧ (c = b ∨ TC (Forth (EdgeL to)) c b) := by
      intro b h
      induction h with
      | base _ => exact ⟨hf.rch, .inl rfl⟩
      | step _ he _ ih =>
        have h1 := (fLL_edge hw ih.1).1 he
        refine ⟨h1.rch, .inr ?_⟩
        rcases ih.2 with rfl | h2
        · exact .one h1
        · exact .step h2 h1
    exact (this h).2
  · rintro (rfl | h)
    · exact .base (by omega)
    · have : ∀ {b}, TC (Forth (EdgeL to)) c b → RF (EdgeL (fLL to)) (fun x => (x : Int) ≠ -1) c b := by
        intro b h
        induction h with
        | one h1 => exact .step (.base (by omega)) ((fLL_edge hw h1.1).2 h1) (by omega)
        | step _ h1 ih => exact .step ih ((fLL_edge hw h1.1).2 h1) (by omega)
      exact this h
def NoR (to : List (List Int)) (i k : Nat) : Prop := (∀ a, a < i → Rch (EdgeL to) a → ∀ c ∈ fL to a, wayF (fLL to) c.toNat (-1) a = false) ∧ (Rch (EdgeL to) i → ∀ c ∈ (fL to i).take k, wayF (fLL to) c.toNat (-1) i = false)
theorem NoR.last (hw : WalkL to) (h : NoR to to.length 0) : redB to = true := by
  rw [redB_iff]
  intro a ha
  obtain ⟨c, h1, h2⟩ := ha.head
  have h3 := h.1 a (hw.rch h1.1) h1.1 (c : Nat) ((fL_mem hw h1.1).2 h1)
  rw [Int.toNat_natCast, (ring_iff hw h1).2 h2] at h3
  cases h3
theorem NoR.not (hw : WalkL to) {a : Nat} (ha : Rch (EdgeL to) a) {c : Int} (hc : c ∈ fL to a) (h : wayF (fLL to) c.toNat (-1) a = true) : redB to = false := by
  rw [Bool.eq_false_iff]
  intro hr
  have hal := hw.rch ha
  have hcr := hw.rng a hal c (List.mem_filter.1 hc).1
  have ec : ((c.toNat : Nat) : Int) = c := Int.toNat_of_nonneg hcr.1
  have hf : Forth (EdgeL to) a c.toNat := (fL_mem hw ha).1 (by rw [ec]; exact hc)
  rw [redB_iff] at hr
  rcases (ring_iff hw hf).1 h with e | h1
  · rw [e] at hf
    exact hr a (.one hf)
  · exact hr a ((TC.one hf).trans h1)
noncomputable abbrev fRow (to : List (List Int)) (a k : Nat) : List Int := ((nthD to a).take k).filter fun c => !domB to c.toNat a
noncomputable abbrev fCell (to : List (List Int)) (a : Nat) : T := .nst 3 1 ((fL to a).map fun n => .int .i64 n)
noncomputable abbrev fRows (to : List (List Int)) (m : Nat) : List T := (List.range m).map (fCell to)
theorem fRows_succ {m : Nat} : fRows to (m + 1) = fRows to m ++ [fCell to m] := by
  unfold fRows
  rw [List.range_succ, List.map_append]; rfl
theorem fRow_succ {a k : Nat} (hk : k < (nthD to a).length) : fRow to a (k + 1) = fRow to a k ++ (if domB to (nthD (nthD to a) k).toNat a then [] else [nthD (nthD to a) k]) := by
  unfold fRow
  rw [take_succN hk, List.filter_append]
  congr 1
  rw [List.filter_cons]
  cases domB to (nthD (nthD to a) k).toNat a <;> rfl
theorem fRow_full {a : Nat} : fRow to a (nthD to a).length = fL to a := by
  unfold fRow fL
  rw [List.take_length]
theorem fRows_le : Le (.sl 1 (fRows to to.length)) (listsL (fLL to)) := by
  unfold listsL fLL
  rw [List.map_map]
  exact Le.slmap (f := fCell to) (g := ilist ∘ fL to) (fun a => .cons (nst_le _ _ _) .nil) fun _ => rfl
theorem ways21f (hw : WalkL to) (hl : to.length ≤ 20000) (hr : ∀ l ∈ to, l.length ≤ 2 ^ 20) (s : Int) (h : Ob (0 ≤ s ∧ s < to.length)) {q : T → Prop} (hq : q (.own (.nst 4 1 (bitsR to.length (wayF (fLL to) s.toNat (-1)))))) :
    PCalls Try.prog 21 [.sl 1 (fRows to to.length), .int .i64 s, .int .i64 (-1)] q := by
  obtain ⟨h1, h2⟩ := h.out
  have hr2 : ∀ l ∈ fLL to, l.length ≤ 2 ^ 20 := fun l hl => by
    obtain ⟨a, ha, rfl⟩ := List.mem_map.1 hl
    exact Nat.le_trans fL_len (hr _ (nthD_mem (List.mem_range.1 ha)))
  have := ways21o (fLL to) (fLL_rng hw) (by rw [fLL_len]; exact hl) hr2 s.toNat (by rw [fLL_len]; omega) (-1)
  rw [Int.toNat_of_nonneg h1, fLL_len] at this
  exact PCalls.argsL (.cons fRows_le (.cons (.refl _) (.cons (.refl _) .nil))) (PCalls.mono this fun r h => by rw [h.out]; exact hq)
theorem reducible18 (g : Graph) (hg : g.tiny) : PCalls Try.prog 18 [g.t] (fun r => Ob ((g.leads ∧ r = .bool (redB (toL g))) ∨ (¬ g.leads ∧ r = .bool false))) := by
  by_cases hl : g.leads
  · have hlen : (toL g).length ≤ 20000 := by rw [toL_len]; exact hl.most
    have hw := hl.walk
    have hr := hl.small
    have hr2 := hl.short
    have h1 := hw.one
    refine PCalls.of_body ttOk Try.func18 rfl ?_
    repeat' ((conv => whnf); first | (with_reducible first | refine onBool_intro (fun _ => ?_) (fun _ => ?_) | refine And.intro (Ob.mk (Nat.le_of_ble_eq_true rfl)) ?_ | refine And.intro (Ob.mk rfl) ?_ | exact ⟨rfl, rfl⟩ | refine And.intro (Ob.mk (fun h => h)) ?_) | (with_reducible refine Or.inl (And.intro (Ob.mk (Flat.map ?_)) ?_); exact fun _ => rfl) | (refine Or.inl (And.intro (Ob.mk (flat_of rfl)) ?_)) | (refine Or.inl (And.intro (Ob.mk ⟨rfl, rfl, rfl, rfl⟩) ?_)) | (refine Or.inl (And.intro (Ob.mk ⟨rfl, rfl, rfl⟩) ?_)) | (refine And.intro (Ob.mk ⟨rfl, rfl⟩) ?_) | (with_reducible refine Or.inr ?_) | (refine And.intro (Ob.mk (flat_of rfl)) ?_) | (with_reducible refine And.intro (Ob.mk (Flat.map ?_)) ?_; exact fun _ => rfl) | (with_reducible first | exact Ob.mk (Flat.map fun _ => rfl) | refine And.intro ?_ ?_ | apply exG.mk | apply exGS.mk | exact Dd.nil) | (refine Dd.same _ ?_) | (refine Dd.dead _ ?_) | (with_reducible first | apply exQ.mk | apply exP.mk) | (refine EqP.mk rfl rfl) | (with_reducible apply exW.mk) | (refine EqW.mk rfl) | (with_reducible first | intro _ | refine Dn.mk ?_) | (refine exS.full (by first | rfl | (simp; done) | (simp; omega)) ?_) | (refine And.intro (Ob.mk ⟨rfl, rfl, by first | rfl | (simp; done) | (simp; omega)⟩) ?_) | (with_reducible refine exE.mapD ?_) | (refine exL.int ?_) | (with_reducible first | refine Up0.mk rfl ?_ | refine Up0i.mk rfl ?_ | refine Up1.mk rfl ?_ | refine Up1i.mk rfl ?_ | refine Up2.mk rfl ?_ | refine Up2i.mk rfl ?_) | (refine Col.mk rfl rfl rfl ?_) | (refine Coli.mk rfl rfl rfl rfl ?_) | (refine edges20y g hg hl ?_) | (refine around30k (toL g) hl.walk hlen hl.short ?_) | (refine ways21k (toL g) hl.walk.rng hlen hr2 _ _ ?_ ?_))
    all_goals (try (refine Ob.mk ?_; first | assumption | exact ⟨rfl, rfl⟩ | exact ⟨rfl, rfl, rfl⟩ | (refine ⟨rfl, rfl, ?_⟩; simp only [List.length_map, List.length_take, List.length_append, els_len, List.length_replicate]; omega) | (intro h; exact h) | (intro h; rw [h]; rfl) | (intro h; simp_all; done) | (refine bytes_le (n := 1048577) ?_ rfl; simp only [ltI_iff, ltI_not, leI_iff, leI_not, eqI_iff, eqI_not, List.length_map, bif_and, bif_or, Bool.and_eq_true, Bool.and_eq_false_iff, Bool.or_eq_true, Bool.or_eq_false_iff, Bool.not_eq_true', Bool.not_eq_false', Int.toNat_natCast, beq_iff_eq, beq_eq_false_iff_ne, decide_eq_true_eq, decide_eq_false_iff_not, bel_iff, bel_not, wthn_iff, wthn_not, els_len, mixL_len, Nat.zero_add, List.length_set, List.length_take] at *; omega) | (simp only [ltI_iff, ltI_not, leI_iff, leI_not, eqI_iff, eqI_not, List.length_map, bif_and, bif_or, Bool.and_eq_true, Bool.and_eq_false_iff, Bool.or_eq_true, Bool.or_eq_false_iff, Bool.not_eq_true', Bool.not_eq_false', Int.toNat_natCast, beq_iff_eq, beq_eq_false_iff_ne, decide_eq_true_eq, decide_eq_false_iff_not, bel_iff, bel_not, wthn_iff, wthn_not, els_len, mixL_len, Nat.zero_add, List.length_set, List.length_take, Int.ofNat_eq_natCast] at *; omega)))
    · exact Ob.mk ⟨Int.le_refl _, by omega⟩
    generalize toL g = to at *
    conv => whnf
    refine LoopVC.mk [8, 7] [(7, 22, 1)] (fun m vals σ => ∃ a : Nat, vals = [.t (.int .i64 a), .osl 1 0 a] ∧ σ = [gvar g, .row 22 1 (fRows to a)] ∧ a ≤ to.length ∧ m = to.length - a) ?_ ?_
    · conv => whnf
      exact ⟨_, 0, rfl, rfl, Nat.zero_le _, rfl⟩
    · rintro m vals σ ⟨a, rfl, rfl, ha, rfl⟩
      have hlt : ltI (a : Int) (((to.map ilist).length : Nat) : Int) = true → a < to.length := fun h => by
        rw [ltI_iff, List.length_map] at h; omega
      repeat' ((conv => whnf); first | (with_reducible first | refine onBool_intro (fun _ => ?_) (fun _ => ?_) | refine And.intro (Ob.mk (Nat.le_of_ble_eq_true rfl)) ?_ | refine And.intro (Ob.mk rfl) ?_ | exact ⟨rfl, rfl⟩ | refine And.intro (Ob.mk (fun h => h)) ?_) | (with_reducible refine Or.inl (And.intro (Ob.mk (Flat.map ?_)) ?_); exact fun _ => rfl) | (refine Or.inl (And.intro (Ob.mk (flat_of rfl)) ?_)) | (refine Or.inl (And.intro (Ob.mk ⟨rfl, rfl, rfl, rfl⟩) ?_)) | (refine Or.inl (And.intro (Ob.mk ⟨rfl, rfl, rfl⟩) ?_)) | (refine And.intro (Ob.mk ⟨rfl, rfl⟩) ?_) | (with_reducible refine Or.inr ?_) | (refine And.intro (Ob.mk (flat_of rfl)) ?_) | (with_reducible refine And.intro (Ob.mk (Flat.map ?_)) ?_; exact fun _ => rfl) | (with_reducible first | exact Ob.mk (Flat.map fun _ => rfl) | refine And.intro ?_ ?_ | apply exG.mk | apply exGS.mk | exact Dd.nil) | (refine Dd.same _ ?_) | (refine Dd.dead _ ?_) | (with_reducible first | apply exQ.mk | apply exP.mk) | (refine EqP.mk rfl rfl) | (with_reducible apply exW.mk) | (refine EqW.mk rfl) | (with_reducible first | intro _ | refine Dn.mk ?_) | (refine exS.full (by first | rfl | (simp; done) | (simp; omega)) ?_) | (refine And.intro (Ob.mk ⟨rfl, rfl, by first | rfl | (simp; done) | (simp; omega)⟩) ?_) | (with_reducible refine exE.mapD ?_) | (refine exL.int ?_) | (with_reducible first | refine Up0.mk rfl ?_ | refine Up0i.mk rfl ?_ | refine Up1.mk rfl ?_ | refine Up1i.mk rfl ?_ | refine Up2.mk rfl ?_ | refine Up2i.mk rfl ?_) | (refine Col.mk rfl rfl rfl ?_) | (refine Coli.mk rfl rfl rfl rfl ?_))
      all_goals (try (refine Ob.mk ?_; first | assumption | exact ⟨rfl, rfl⟩ | exact ⟨rfl, rfl, rfl⟩ | (refine ⟨rfl, rfl, ?_⟩; simp only [List.length_map, List.length_take, List.length_append, els_len, List.length_replicate]; omega) | (intro h; exact h) | (intro h; rw [h]; rfl) | (intro h; simp_all; done) | (refine bytes_le (n := 1048577) ?_ rfl; simp only [ltI_iff, ltI_not, leI_iff, leI_not, eqI_iff, eqI_not, List.length_map, bif_and, bif_or, Bool.and_eq_true, Bool.and_eq_false_iff, Bool.or_eq_true, Bool.or_eq_false_iff, Bool.not_eq_true', Bool.not_eq_false', Int.toNat_natCast, beq_iff_eq, beq_eq_false_iff_ne, decide_eq_true_eq, decide_eq_false_iff_not, bel_iff, bel_not, wthn_iff, wthn_not, els_len, mixL_len, Nat.zero_add, List.length_set, List.length_take] at *; omega) | (simp only [ltI_iff, ltI_not, leI_iff, leI_not, eqI_iff, eqI_not, List.length_map, bif_and, bif_or, Bool.and_eq_true, Bool.and_eq_false_iff, Bool.or_eq_true, Bool.or_eq_false_iff, Bool.not_eq_true', Bool.not_eq_false', Int.toNat_natCast, beq_iff_eq, beq_eq_false_iff_ne, decide_eq_true_eq, decide_eq_false_iff_not, bel_iff, bel_not, wthn_iff, wthn_not, els_len, mixL_len, Nat.zero_add, List.length_set, List.length_take, Int.ofNat_eq_natCast] at *; omega)))
      · have ha2 := hlt (by assumption)
        have hrl := hr _ (nthD_mem ha2)
        conv => whnf
        refine LoopVC.mk [10, 9] [(9, 3, 1)] (fun m vals σ => ∃ k : Nat, vals = [.t (.int .i64 k), .osl 2 0 (fRow to a k).length] ∧ σ = [gvar g, .row 22 1 (fRows to a), .row 3 1 ((fRow to a k).map fun n => .int .i64 n)] ∧ k ≤ (nthD to a).length ∧ m = (nthD to a).length - k) ?_ ?_
        · conv => whnf
          exact ⟨_, 0, rfl, rfl, Nat.zero_le _, rfl⟩
        · rintro m2 vals σ ⟨k, rfl, rfl, hk, rfl⟩
          have hel : (fRow to a k).length ≤ 20000 := by
            refine Nat.le_trans (List.length_filter_le ..) ?_
            rw [List.length_take]; omega
          have hkk : ltI (k : Int) ((((nthD to ((a : Int)).toNat).map fun n => T.int .i64 n).length : Nat) : Int) = true → k < (nthD to a).length := fun h => by
            rw [ltI_iff, List.length_map, Int.toNat_natCast] at h; omega
          have hrg : k < (nthD to a).length → 0 ≤ nthD (nthD to a) k ∧ nthD (nthD to a) k < to.length := fun h => hw.rng a ha2 _ (nthD_mem h)
          have ebk : nthD (nthD to ((a : Int)).toNat) ((k : Int)).toNat = nthD (nthD to a) k := by rw [Int.toNat_natCast, Int.toNat_natCast]
          have hdd : k < (nthD to a).length → (!domB to (nthD (List.range to.length) (nthD (nthD to ((a : Int)).toNat) ((k : Int)).toNat).toNat) (nthD (List.range to.length) ((a : Int)).toNat)) = !domB to (nthD (nthD to a) k).toNat a := fun h => by
            have := hrg h
            rw [ebk, nthD_range (by omega), Int.toNat_natCast, nthD_range ha2]
          repeat' ((conv => whnf); first | (with_reducible first | refine onBool_intro (fun _ => ?_) (fun _ => ?_) | refine And.intro (Ob.mk (Nat.le_of_ble_eq_true rfl)) ?_ | refine And.intro (Ob.mk rfl) ?_ | exact ⟨rfl, rfl⟩ | refine And.intro (Ob.mk (fun h => h)) ?_) | (with_reducible refine Or.inl (And.intro (Ob.mk (Flat.map ?_)) ?_); exact fun _ => rfl) | (refine Or.inl (And.intro (Ob.mk (flat_of rfl)) ?_)) | (refine Or.inl (And.intro (Ob.mk ⟨rfl, rfl, rfl, rfl⟩) ?_)) | (refine Or.inl (And.intro (Ob.mk ⟨rfl, rfl, rfl⟩) ?_)) | (refine And.intro (Ob.mk ⟨rfl, rfl⟩) ?_) | (with_reducible refine Or.inr ?_) | (refine And.intro (Ob.mk (flat_of rfl)) ?_) | (with_reducible refine And.intro (Ob.mk (Flat.map ?_)) ?_; exact fun _ => rfl) | (with_reducible first | exact Ob.mk (Flat.map fun _ => rfl) | refine And.intro ?_ ?_ | apply exG.mk | apply exGS.mk | exact Dd.nil) | (refine Dd.same _ ?_) | (refine Dd.dead _ ?_) | (with_reducible first | apply exQ.mk | apply exP.mk) | (refine EqP.mk rfl rfl) | (with_reducible apply exW.mk) | (refine EqW.mk rfl) | (with_reducible first | intro _ | refine Dn.mk ?_) | (refine exS.full (by first | rfl | (simp; done) | (simp; omega)) ?_) | (refine And.intro (Ob.mk ⟨rfl, rfl, by first | rfl | (simp; done) | (simp; omega)⟩) ?_) | (with_reducible refine exE.mapD ?_) | (refine exL.int ?_) | (with_reducible first | refine Up0.mk rfl ?_ | refine Up0i.mk rfl ?_ | refine Up1.mk rfl ?_ | refine Up1i.mk rfl ?_ | refine Up2.mk rfl ?_ | refine Up2i.mk rfl ?_) | (refine Col.mk rfl rfl rfl ?_) | (refine Coli.mk rfl rfl rfl rfl ?_))
          all_goals (try (refine Ob.mk ?_; first | assumption | exact ⟨rfl, rfl⟩ | exact ⟨rfl, rfl, rfl⟩ | (refine ⟨rfl, rfl, ?_⟩; simp only [List.length_map, List.length_take, List.length_append, els_len, List.length_replicate]; omega) | (intro h; exact h) | (intro h; rw [h]; rfl) | (intro h; simp_all; done) | (refine bytes_le (n := 1048577) ?_ rfl; simp only [ltI_iff, ltI_not, leI_iff, leI_not, eqI_iff, eqI_not, List.length_map, bif_and, bif_or, Bool.and_eq_true, Bool.and_eq_false_iff, Bool.or_eq_true, Bool.or_eq_false_iff, Bool.not_eq_true', Bool.not_eq_false', Int.toNat_natCast, beq_iff_eq, beq_eq_false_iff_ne, decide_eq_true_eq, decide_eq_false_iff_not, bel_iff, bel_not, wthn_iff, wthn_not, els_len, mixL_len, Nat.zero_add, List.length_set, List.length_take] at *; omega) | (simp only [ltI_iff, ltI_not, leI_iff, leI_not, eqI_iff, eqI_not, List.length_map, bif_and, bif_or, Bool.and_eq_true, Bool.and_eq_false_iff, Bool.or_eq_true, Bool.or_eq_false_iff, Bool.not_eq_true', Bool.not_eq_false', Int.toNat_natCast, beq_iff_eq, beq_eq_false_iff_ne, decide_eq_true_eq, decide_eq_false_iff_not, bel_iff, bel_not, wthn_iff, wthn_not, els_len, mixL_len, Nat.zero_add, List.length_set, List.length_take, Int.ofNat_eq_natCast] at *; omega)))
          all_goals (try have hk3 := hkk (by assumption))
          all_goals (try (refine Ob.mk ?_; rw [ebk]; have := hrg hk3; simp; omega))
          all_goals (try (refine Ob.mk ?_; simp; omega))
          · conv => whnf
            have hd : (!domB to (nthD (nthD to a) k).toNat a) = true := (hdd hk3).symm.trans (by assumption)
            have hd : domB to (nthD (nthD to a) k).toNat a = false := by simpa using hd
            have ef : fRow to a (k + 1) = fRow to a k ++ [nthD (nthD to a) k] := by
              rw [fRow_succ hk3, hd]; rfl
            refine ⟨(nthD to a).length - (k + 1), by omega, k + 1, ?_, ?_, by omega, rfl⟩
            · have eL : (fRow to a k ++ [nthD (nthD to a) k]).length = (fRow to a k).length + 1 := by rw [List.length_append]; rfl
              rw [addI_i64 (by omega) (by omega), ef, eL]; rfl
            · rw [ef, List.map_append, ← ebk]; rfl
          · conv => whnf
            have hd : (!domB to (nthD (nthD to a) k).toNat a) = false := (hdd hk3).symm.trans (by assumption)
            have hd : domB to (nthD (nthD to a) k).toNat a = true := by simpa using hd
            have ef : fRow to a (k + 1) = fRow to a k := by
              rw [fRow_succ hk3, hd]
              exact List.append_nil _
            refine ⟨(nthD to a).length - (k + 1), by omega, k + 1, ?_, ?_, by omega, rfl⟩
            · rw [addI_i64 (by omega) (by omega), ef]; rfl
            · rw [ef]
          · exact Ob.mk ⟨rfl, rfl, (List.length_map ..).symm⟩
          · have hk4 : k = (nthD to a).length := by
              have h3 : ltI (k : Int) ((((nthD to ((a : Int)).toNat).map (fun n => T.int .i64 n)).length : Nat) : Int) = false := by assumption
              rw [ltI_not, List.length_map, Int.toNat_natCast] at h3; omega
            subst hk4
            rw [fRow_full]
            conv => whnf
            refine ⟨to.length - (a + 1), by omega, a + 1, ?_, ?_, ha2, rfl⟩
            · rw [addI_i64 (by omega) (by omega)]
              simp
            · rw [fRows_succ]; rfl
      · have ha2 : a = to.length := by
          have h3 : ltI (a : Int) (((to.map ilist).length : Nat) : Int) = false := by assumption
          rw [ltI_not, List.length_map] at h3; omega
        subst ha2
        conv => whnf
        refine LoopVC.mk [11] [] (fun m vals σ => ∃ a : Nat, vals = [.t (.int .i64 a)] ∧ σ = [gvar g, .row 22 1 (fRows to to.length)] ∧ a ≤ to.length ∧ NoR to a 0 ∧ m = to.length - a) ?_ ?_
        · conv => whnf
          exact ⟨_, 0, rfl, rfl, Nat.zero_le _, ⟨fun a ha => absurd ha (Nat.not_lt_zero _), fun _ c hc => by simp at hc⟩, rfl⟩
        · rintro m vals σ ⟨a, rfl, rfl, ha, hN, rfl⟩
          have hlt : ltI (a : Int) (((to.map ilist).length : Nat) : Int) = true → a < to.length := fun h => by
            rw [ltI_iff, List.length_map] at h; omega
          repeat' ((conv => whnf); first | (with_reducible first | refine onBool_intro (fun _ => ?_) (fun _ => ?_) | refine And.intro (Ob.mk (Nat.le_of_ble_eq_true rfl)) ?_ | refine And.intro (Ob.mk rfl) ?_ | exact ⟨rfl, rfl⟩ | refine And.intro (Ob.mk (fun h => h)) ?_) | (with_reducible refine Or.inl (And.intro (Ob.mk (Flat.map ?_)) ?_); exact fun _ => rfl) | (refine Or.inl (And.intro (Ob.mk (flat_of rfl)) ?_)) | (refine Or.inl (And.intro (Ob.mk ⟨rfl, rfl, rfl, rfl⟩) ?_)) | (refine Or.inl (And.intro (Ob.mk ⟨rfl, rfl, rfl⟩) ?_)) | (refine And.intro (Ob.mk ⟨rfl, rfl⟩) ?_) | (with_reducible refine Or.inr ?_) | (refine And.intro (Ob.mk (flat_of rfl)) ?_) | (with_reducible refine And.intro (Ob.mk (Flat.map ?_)) ?_; exact fun _ => rfl) | (with_reducible first | exact Ob.mk (Flat.map fun _ => rfl) | refine And.intro ?_ ?_ | apply exG.mk | apply exGS.mk | exact Dd.nil) | (refine Dd.same _ ?_) | (refine Dd.dead _ ?_) | (with_reducible first | apply exQ.mk | apply exP.mk) | (refine EqP.mk rfl rfl) | (with_reducible apply exW.mk) | (refine EqW.mk rfl) | (with_reducible first | intro _ | refine Dn.mk ?_) | (refine exS.full (by first | rfl | (simp; done) | (simp; omega)) ?_) | (refine And.intro (Ob.mk ⟨rfl, rfl, by first | rfl | (simp; done) | (simp; omega)⟩) ?_) | (with_reducible refine exE.mapD ?_) | (refine exL.int ?_) | (with_reducible first | refine Up0.mk rfl ?_ | refine Up0i.mk rfl ?_ | refine Up1.mk rfl ?_ | refine Up1i.mk rfl ?_ | refine Up2.mk rfl ?_ | refine Up2i.mk rfl ?_) | (refine Col.mk rfl rfl rfl ?_) | (refine Coli.mk rfl rfl rfl rfl ?_))
          all_goals (try (refine Ob.mk ?_; first | assumption | exact ⟨rfl, rfl⟩ | exact ⟨rfl, rfl, rfl⟩ | (refine ⟨rfl, rfl, ?_⟩; simp only [List.length_map, List.length_take, List.length_append, els_len, List.length_replicate]; omega) | (intro h; exact h) | (intro h; rw [h]; rfl) | (intro h; simp_all; done) | (refine bytes_le (n := 1048577) ?_ rfl; simp only [ltI_iff, ltI_not, leI_iff, leI_not, eqI_iff, eqI_not, List.length_map, bif_and, bif_or, Bool.and_eq_true, Bool.and_eq_false_iff, Bool.or_eq_true, Bool.or_eq_false_iff, Bool.not_eq_true', Bool.not_eq_false', Int.toNat_natCast, beq_iff_eq, beq_eq_false_iff_ne, decide_eq_true_eq, decide_eq_false_iff_not, bel_iff, bel_not, wthn_iff, wthn_not, els_len, mixL_len, Nat.zero_add, List.length_set, List.length_take] at *; omega) | (simp only [ltI_iff, ltI_not, leI_iff, leI_not, eqI_iff, eqI_not, List.length_map, bif_and, bif_or, Bool.and_eq_true, Bool.and_eq_false_iff, Bool.or_eq_true, Bool.or_eq_false_iff, Bool.not_eq_true', Bool.not_eq_false', Int.toNat_natCast, beq_iff_eq, beq_eq_false_iff_ne, decide_eq_true_eq, decide_eq_false_iff_not, bel_iff, bel_not, wthn_iff, wthn_not, els_len, mixL_len, Nat.zero_add, List.length_set, List.length_take, Int.ofNat_eq_natCast] at *; omega)))
          · have ha2 := hlt (by assumption)
            have hrl := hr _ (nthD_mem ha2)
            have hfl := fL_len (to := to) (a := a)
            conv => whnf
            refine LoopVC.mk [12] [] (fun m vals σ => ∃ k : Nat, vals = [.t (.int .i64 k)] ∧ σ = [gvar g, .row 22 1 (fRows to to.length)] ∧ k ≤ (fL to a).length ∧ NoR to a k ∧ m = (fL to a).length - k) ?_ ?_
            · conv => whnf
              exact ⟨_, 0, rfl, rfl, Nat.zero_le _, hN, rfl⟩
            · rintro m2 vals σ ⟨k, rfl, rfl, hk, hN2, rfl⟩
              have e1 : nthD (List.range to.length) (0 + ((a : Int)).toNat) = a := by rw [Int.toNat_natCast, Nat.zero_add, nthD_range ha2]
              have e2 : nthD (fL to (nthD (List.range to.length) (0 + ((a : Int)).toNat))) (0 + ((k : Int)).toNat) = nthD (fL to a) k := by rw [e1, Int.toNat_natCast, Nat.zero_add]
              have hyes : (bif ltI (k : Int) ((((fL to (nthD (List.range to.length) (0 + ((a : Int)).toNat))).map fun n => T.int .i64 n).length : Nat) : Int) then wayF to (Int.toNat 0) (-1) (nthD (List.range to.length) ((a : Int)).toNat) else false) = true → k < (fL to a).length ∧ Rch (EdgeL to) a := fun h => by
                rw [e1, List.length_map, Int.toNat_natCast, nthD_range ha2] at h
                cases h3 : ltI (k : Int) ((fL to a).length : Nat) with
                | false => rw [h3] at h; cases h
                | true =>
                  rw [h3] at h
                  exact ⟨by have := ltI_iff.1 h3; omega, wayF_rch.1 h⟩
              have hno : (bif ltI (k : Int) ((((fL to (nthD (List.range to.length) (0 + ((a : Int)).toNat))).map fun n => T.int .i64 n).length : Nat) : Int) then wayF to (Int.toNat 0) (-1) (nthD (List.range to.length) ((a : Int)).toNat) else false) = false → k = (fL to a).length ∨ ¬ Rch (EdgeL to) a := fun h => by
                rw [e1, List.length_map, Int.toNat_natCast, nthD_range ha2] at h
                cases h3 : ltI (k : Int) ((fL to a).length : Nat) with
                | false => exact .inl (by have := ltI_not.1 h3; omega)
                | true =>
                  rw [h3] at h
                  refine .inr fun hr => ?_
                  have := wayF_rch.2 hr
                  have h : wayF to 0 (-1) a = false := h
                  rw [this] at h; cases h
              have hrg : k < (fL to a).length → 0 ≤ nthD (fL to a) k ∧ nthD (fL to a) k < to.length := fun h => hw.rng a ha2 _ (List.mem_filter.1 (nthD_mem h)).1
              repeat' ((conv => whnf); first | (with_reducible first | refine onBool_intro (fun _ => ?_) (fun _ => ?_) | refine And.intro (Ob.mk (Nat.le_of_ble_eq_true rfl)) ?_ | refine And.intro (Ob.mk rfl) ?_ | exact ⟨rfl, rfl⟩ | refine And.intro (Ob.mk (fun h => h)) ?_) | (with_reducible refine Or.inl (And.intro (Ob.mk (Flat.map ?_)) ?_); exact fun _ => rfl) | (refine Or.inl (And.intro (Ob.mk (flat_of rfl)) ?_)) | (refine Or.inl (And.intro (Ob.mk ⟨rfl, rfl, rfl, rfl⟩) ?_)) | (refine Or.inl (And.intro (Ob.mk ⟨rfl, rfl, rfl⟩) ?_)) | (refine And.intro (Ob.mk ⟨rfl, rfl⟩) ?_) | (with_reducible refine Or.inr ?_) | (refine And.intro (Ob.mk (flat_of rfl)) ?_) | (with_reducible refine And.intro (Ob.mk (Flat.map ?_)) ?_; exact fun _ => rfl) | (with_reducible first | exact Ob.mk (Flat.map fun _ => rfl) | refine And.intro ?_ ?_ | apply exG.mk | apply exGS.mk | exact Dd.nil) | (refine Dd.same _ ?_) | (refine Dd.dead _ ?_) | (with_reducible first | apply exQ.mk | apply exP.mk) | (refine EqP.mk rfl rfl) | (with_reducible apply exW.mk) | (refine EqW.mk rfl) | (with_reducible first | intro _ | refine Dn.mk ?_) | (refine exS.full (by first | rfl | (simp; done) | (simp; omega)) ?_) | (refine And.intro (Ob.mk ⟨rfl, rfl, by first | rfl | (simp; done) | (simp; omega)⟩) ?_) | (with_reducible refine exE.mapD ?_) | (refine exL.int ?_) | (with_reducible first | refine Up0.mk rfl ?_ | refine Up0i.mk rfl ?_ | refine Up1.mk rfl ?_ | refine Up1i.mk rfl ?_ | refine Up2.mk rfl ?_ | refine Up2i.mk rfl ?_) | (refine Col.mk rfl rfl rfl ?_) | (refine Coli.mk rfl rfl rfl rfl ?_) | (refine ways21f hw hlen hr2 _ ?_ ?_))
              all_goals (try (refine Ob.mk ?_; first | assumption | exact ⟨rfl, rfl⟩ | exact ⟨rfl, rfl, rfl⟩ | (refine ⟨rfl, rfl, ?_⟩; simp only [List.length_map, List.length_take, List.length_append, els_len, List.length_replicate]; omega) | (intro h; exact h) | (intro h; rw [h]; rfl) | (intro h; simp_all; done) | (refine bytes_le (n := 1048577) ?_ rfl; simp only [ltI_iff, ltI_not, leI_iff, leI_not, eqI_iff, eqI_not, List.length_map, bif_and, bif_or, Bool.and_eq_true, Bool.and_eq_false_iff, Bool.or_eq_true, Bool.or_eq_false_iff, Bool.not_eq_true', Bool.not_eq_false', Int.toNat_natCast, beq_iff_eq, beq_eq_false_iff_ne, decide_eq_true_eq, decide_eq_false_iff_not, bel_iff, bel_not, wthn_iff, wthn_not, els_len, mixL_len, Nat.zero_add, List.length_set, List.length_take] at *; omega) | (simp only [ltI_iff, ltI_not, leI_iff, leI_not, eqI_iff, eqI_not, List.length_map, bif_and, bif_or, Bool.and_eq_true, Bool.and_eq_false_iff, Bool.or_eq_true, Bool.or_eq_false_iff, Bool.not_eq_true', Bool.not_eq_false', Int.toNat_natCast, beq_iff_eq, beq_eq_false_iff_ne, decide_eq_true_eq, decide_eq_false_iff_not, bel_iff, bel_not, wthn_iff, wthn_not, els_len, mixL_len, Nat.zero_add, List.length_set, List.length_take, Int.ofNat_eq_natCast] at *; omega)))
              all_goals (try (refine Ob.mk ?_; simp; omega))
              · have h5 := hyes (by assumption)
                refine Ob.mk ?_
                rw [e2]; exact hrg h5.1
              · obtain ⟨h5, h6⟩ := hyes (by assumption)
                rename_i h7
                rw [e2, e1] at h7
                exact Ob.mk (.inl ⟨hl, by rw [NoR.not hw h6 (nthD_mem h5) h7]⟩)
              · obtain ⟨h5, h6⟩ := hyes (by assumption)
                rename_i h7
                rw [e2, e1] at h7
                conv => whnf
                refine ⟨(fL to a).length - (k + 1), by omega, k + 1, ?_, rfl, h5, ⟨hN2.1, fun hr c hc => ?_⟩, rfl⟩
                · rw [addI_i64 (by omega) (by omega)]; rfl
                · rw [take_succN h5] at hc
                  rcases List.mem_append.1 hc with hc | hc
                  · exact hN2.2 hr c hc
                  · rw [List.mem_singleton] at hc
                    subst hc; exact h7
              · have h5 := hno (by assumption)
                conv => whnf
                refine ⟨to.length - (a + 1), by omega, a + 1, ?_, rfl, ha2, ⟨fun b hb hr c hc => ?_, fun _ c hc => by simp at hc⟩, rfl⟩
                · rw [addI_i64 (by omega) (by omega)]; rfl
                · rcases Nat.lt_or_ge b a with h6 | h6
                  · exact hN2.1 b h6 hr c hc
                  · have : b = a := by omega
                    subst this
                    rcases h5 with h5 | h5
                    · rw [h5] at hN2
                      refine hN2.2 hr c ?_
                      rw [List.take_length]; exact hc
                    · exact absurd hr h5
          · have ha2 : a = to.length := by
              have h3 : ltI (a : Int) (((to.map ilist).length : Nat) : Int) = false := by assumption
              rw [ltI_not, List.length_map] at h3; omega
            subst ha2
            exact Ob.mk (.inl ⟨hl, by rw [hN.last hw]⟩)
  · refine PCalls.of_body ttOk Try.func18 rfl ?_
    repeat' ((conv => whnf); first | (with_reducible first | refine onBool_intro (fun _ => ?_) (fun _ => ?_) | refine And.intro (Ob.mk (Nat.le_of_ble_eq_true rfl)) ?_ | refine And.intro (Ob.mk rfl) ?_ | exact ⟨rfl, rfl⟩ | refine And.intro (Ob.mk (fun h => h)) ?_) | (with_reducible refine Or.inl (And.intro (Ob.mk (Flat.map ?_)) ?_); exact fun _ => rfl) | (refine Or.inl (And.intro (Ob.mk (flat_of rfl)) ?_)) | (refine Or.inl (And.intro (Ob.mk ⟨rfl, rfl, rfl, rfl⟩) ?_)) | (refine Or.inl (And.intro (Ob.mk ⟨rfl, rfl, rfl⟩) ?_)) | (refine And.intro (Ob.mk ⟨rfl, rfl⟩) ?_) | (with_reducible refine Or.inr ?_) | (refine And.intro (Ob.mk (flat_of rfl)) ?_) | (with_reducible refine And.intro (Ob.mk (Flat.map ?_)) ?_; exact fun _ => rfl) | (with_reducible first | exact Ob.mk (Flat.map fun _ => rfl) | refine And.intro ?_ ?_ | apply exG.mk | apply exGS.mk | exact Dd.nil) | (refine Dd.same _ ?_) | (refine Dd.dead _ ?_) | (with_reducible first | apply exQ.mk | apply exP.mk) | (refine EqP.mk rfl rfl) | (with_reducible apply exW.mk) | (refine EqW.mk rfl) | (with_reducible first | intro _ | refine Dn.mk ?_) | (refine exS.full (by first | rfl | (simp; done) | (simp; omega)) ?_) | (refine And.intro (Ob.mk ⟨rfl, rfl, by first | rfl | (simp; done) | (simp; omega)⟩) ?_) | (with_reducible refine exE.mapD ?_) | (refine exL.int ?_) | (with_reducible first | refine Up0.mk rfl ?_ | refine Up0i.mk rfl ?_ | refine Up1.mk rfl ?_ | refine Up1i.mk rfl ?_ | refine Up2.mk rfl ?_ | refine Up2i.mk rfl ?_) | (refine Col.mk rfl rfl rfl ?_) | (refine Coli.mk rfl rfl rfl rfl ?_) | (refine edges20n g hg hl ?_))
    exact Ob.mk (.inr ⟨hl, rfl⟩)
end Go.Proofs.Ytgladinljapmkaa.Am

/- Loops: the law's own answers; LoopsTells. -/
namespace Go.Proofs.Ytgladinljapmkaa.Am
open Go Go.Proofs
set_option maxRecDepth 10000
set_option maxHeartbeats 2000000
set_option linter.unusedVariables false
set_option linter.unusedSimpArgs false
def cellE (l : List Int) : T := match l with
  | [] => .esl
  | x :: l => .nst 3 1 ((x :: l).map fun n => .int .i64 n)
theorem cellE_le {l : List Int} : LeL (cellE l).cells (ilist l).cells := by
  cases l with
  | nil => exact .cons (.esl 1) .nil
  | cons x l => exact .cons (nst_le _ _ _) .nil
theorem cellE_all {to : List (List Int)} : Le (.sl 1 (to.map cellE)) (listsL to) := Le.slmap (f := cellE) (g := ilist) (fun l => cellE_le) fun _ => rfl
theorem leadA {q : T → Prop} (hq : q (leadG gA).t) : PCalls Try.prog 31 [.sl 1 [.nst 3 1 [.int .i64 1], .nst 3 1 [.int .i64 2, .int .i64 3], .nst 3 1 [.int .i64 1], .esl]] q :=
  PCalls.argsL (.cons (cellE_all (to := gA)) .nil) (PCalls.mono (lead31 gA (by simp) gA_len) fun _ h => h ▸ hq)
theorem leadB' {q : T → Prop} (hq : q (leadG gB).t) : PCalls Try.prog 31 [.sl 1 [.nst 3 1 [.int .i64 1, .int .i64 2], .nst 3 1 [.int .i64 2], .nst 3 1 [.int .i64 1]]] q :=
  PCalls.argsL (.cons (cellE_all (to := gB)) .nil) (PCalls.mono (lead31 gB (by simp) gB_len) fun _ h => h ▸ hq)
theorem gA_ok : (leadG gA).tiny ∧ (∀ b ∈ (leadG gA).blocks, ∀ x ∈ allN b.fin, I64 x) ∧ (leadG gA).leads :=
  ⟨lead_tiny (by simp) gA_len, lead_wide fun l hl x hx => i64_small (gA_rng l hl x hx).1 (by have := (gA_rng l hl x hx).2; simp at this; omega), lead_leads (by simp) (by simp) gA_rng⟩
theorem gB_ok : (leadG gB).tiny ∧ (∀ b ∈ (leadG gB).blocks, ∀ x ∈ allN b.fin, I64 x) ∧ (leadG gB).leads :=
  ⟨lead_tiny (by simp) gB_len, lead_wide fun l hl x hx => i64_small (gB_rng l hl x hx).1 (by have := (gB_rng l hl x hx).2; simp at this; omega), lead_leads (by simp) (by simp) gB_rng⟩
theorem domA {q : T → Prop} (hq : q (.own (.nst 3 1 [.int .i64 (-1), .int .i64 0, .int .i64 1, .int .i64 1]))) : PCalls Try.prog 10 [(leadG gA).t] q :=
  PCalls.mono (dominators10 _ gA_ok.1 gA_ok.2.1) fun r h => by
    rcases h.out with ⟨_, rfl⟩ | ⟨h, _⟩
    · rw [gA_L, gA_doms]; exact hq
    · exact absurd gA_ok.2.2 h
theorem backA {q : T → Prop} (hq : q (.own (.nst 35 2 [.arr [.int .i64 2, .int .i64 1]]))) : PCalls Try.prog 11 [(leadG gA).t] q :=
  PCalls.mono (back11 _ gA_ok.1 gA_ok.2.1) fun r h => by
    rcases h.out with ⟨_, rfl⟩ | ⟨h, _⟩
    · rw [gA_L, gA_back]; exact hq
    · exact absurd gA_ok.2.2 h
theorem redA {q : T → Prop} (hq : q (.bool true)) : PCalls Try.prog 17 [(leadG gA).t] q :=
  PCalls.mono (reducible17 _ gA_ok.1 gA_ok.2.1) fun r h => by
    rcases h.out with ⟨_, rfl⟩ | ⟨h, _⟩
    · rw [gA_L, gA_red]; exact hq
    · exact absurd gA_ok.2.2 h
theorem redB' {q : T → Prop} (hq : q (.bool false)) : PCalls Try.prog 17 [(leadG gB).t] q :=
  PCalls.mono (reducible17 _ gB_ok.1 gB_ok.2.1) fun r h => by
    rcases h.out with ⟨_, rfl⟩ | ⟨h, _⟩
    · rw [gB_L, gB_red]; exact hq
    · exact absurd gB_ok.2.2 h
theorem sameA {q : T → Prop} (hq : q (.bool true)) : PCalls Try.prog 15 [.sl 1 [.int .i64 (-1), .int .i64 0, .int .i64 1, .int .i64 1], .sl 1 [.int .i64 (-1), .int .i64 0, .int .i64 1, .int .i64 1]] q :=
  PCalls.mono (same15 [-1, 0, 1, 1] [-1, 0, 1, 1]) fun _ h => h ▸ hq
theorem sameEA {q : T → Prop} (hq : q (.bool true)) : PCalls Try.prog 16 [.sl 2 [.arr [.int .i64 2, .int .i64 1]], .sl 2 [.arr [.int .i64 2, .int .i64 1]]] q :=
  PCalls.mono (sameEdges16 [(2, 1)] [(2, 1)]) fun _ h => h ▸ hq
theorem live14 : PCalls Try.prog 14 [] (fun r => r = .bool true) := by
  refine PCalls.of_body ttOk Try.func14 rfl ?_
  repeat' ((conv => whnf); first | (with_reducible first | refine onBool_intro (fun _ => ?_) (fun _ => ?_) | refine And.intro (Ob.mk (Nat.le_of_ble_eq_true rfl)) ?_ | refine And.intro (Ob.mk rfl) ?_ | exact ⟨rfl, rfl⟩ | refine And.intro (Ob.mk (fun h => h)) ?_) | (with_reducible refine Or.inl (And.intro (Ob.mk (Flat.map ?_)) ?_); exact fun _ => rfl) | (refine Or.inl (And.intro (Ob.mk (flat_of rfl)) ?_)) | (refine Or.inl (And.intro (Ob.mk ⟨rfl, rfl, rfl, rfl⟩) ?_)) | (refine Or.inl (And.intro (Ob.mk ⟨rfl, rfl, rfl⟩) ?_)) | (refine And.intro (Ob.mk ⟨rfl, rfl⟩) ?_) | (with_reducible refine Or.inr ?_) | (refine And.intro (Ob.mk (flat_of rfl)) ?_) | (with_reducible refine And.intro (Ob.mk (Flat.map ?_)) ?_; exact fun _ => rfl) | (with_reducible first | exact Ob.mk (Flat.map fun _ => rfl) | refine And.intro ?_ ?_ | apply exG.mk | apply exGS.mk | exact Dd.nil) | (refine Dd.same _ ?_) | (refine Dd.dead _ ?_) | (with_reducible first | apply exQ.mk | apply exP.mk) | (refine EqP.mk rfl rfl) | (with_reducible apply exW.mk) | (refine EqW.mk rfl) | (with_reducible first | intro _ | refine Dn.mk ?_) | (refine exS.full (by first | rfl | (simp; done) | (simp; omega)) ?_) | (refine And.intro (Ob.mk ⟨rfl, rfl, by first | rfl | (simp; done) | (simp; omega)⟩) ?_) | (with_reducible refine exE.mapD ?_) | (refine exL.int ?_) | (with_reducible first | refine Up0.mk rfl ?_ | refine Up0i.mk rfl ?_ | refine Up1.mk rfl ?_ | refine Up1i.mk rfl ?_ | refine Up2.mk rfl ?_ | refine Up2i.mk rfl ?_) | (refine Col.mk rfl rfl rfl ?_) | (refine Coli.mk rfl rfl rfl rfl ?_) | (refine leadA ?_) | (refine leadB' ?_) | (refine domA ?_) | (refine sameA ?_) | (refine backA ?_) | (refine sameEA ?_) | (refine redA ?_) | (refine redB' ?_))
  all_goals (try (refine Ob.mk ?_; first | assumption | exact ⟨rfl, rfl⟩ | exact ⟨rfl, rfl, rfl⟩ | (refine ⟨rfl, rfl, ?_⟩; simp only [List.length_map, List.length_take, List.length_append, els_len, List.length_replicate]; omega) | (intro h; exact h) | (intro h; rw [h]; rfl) | (intro h; simp_all; done) | (refine bytes_le (n := 1048577) ?_ rfl; simp only [ltI_iff, ltI_not, leI_iff, leI_not, eqI_iff, eqI_not, List.length_map, bif_and, bif_or, Bool.and_eq_true, Bool.and_eq_false_iff, Bool.or_eq_true, Bool.or_eq_false_iff, Bool.not_eq_true', Bool.not_eq_false', Int.toNat_natCast, beq_iff_eq, beq_eq_false_iff_ne, decide_eq_true_eq, decide_eq_false_iff_not, bel_iff, bel_not, wthn_iff, wthn_not, els_len, mixL_len, Nat.zero_add, List.length_set, List.length_take] at *; omega) | (simp only [ltI_iff, ltI_not, leI_iff, leI_not, eqI_iff, eqI_not, List.length_map, bif_and, bif_or, Bool.and_eq_true, Bool.and_eq_false_iff, Bool.or_eq_true, Bool.or_eq_false_iff, Bool.not_eq_true', Bool.not_eq_false', Int.toNat_natCast, beq_iff_eq, beq_eq_false_iff_ne, decide_eq_true_eq, decide_eq_false_iff_not, bel_iff, bel_not, wthn_iff, wthn_not, els_len, mixL_len, Nat.zero_add, List.length_set, List.length_take, Int.ofNat_eq_natCast] at *; omega)))
  all_goals (try (exfalso; rename_i h; simp at h; done))
  · exact Ob.mk flatA2
  · rfl
/-! LoopsTells -/
theorem copied9k (g : Graph) (hg : g.tiny) {q : T → Prop} (hq : q g.t) : PCalls Try.prog 9 [g.t] q := PCalls.mono (copied9 g hg) fun _ h => h ▸ hq
theorem dominators10k (g : Graph) (hg : g.tiny) (hw : ∀ b ∈ g.blocks, ∀ x ∈ allN b.fin, I64 x) (hl : g.leads) {q : T → Prop} (hq : q (.own (.nst 3 1 (domsR (toL g))))) : PCalls Try.prog 10 [g.t] q :=
  PCalls.mono (dominators10 g hg hw) fun r h => by
    rcases h.out with ⟨_, rfl⟩ | ⟨h, _⟩
    · exact hq
    · exact absurd hl h
theorem back11k (g : Graph) (hg : g.tiny) (hw : ∀ b ∈ g.blocks, ∀ x ∈ allN b.fin, I64 x) (hl : g.leads) {q : T → Prop} (hq : q (.own (.nst 35 2 (pairsR (backL (toL g)))))) : PCalls Try.prog 11 [g.t] q :=
  PCalls.mono (back11 g hg hw) fun r h => by
    rcases h.out with ⟨_, rfl⟩ | ⟨h, _⟩
    · exact hq
    · exact absurd hl h
theorem reducible17k (g : Graph) (hg : g.tiny) (hw : ∀ b ∈ g.blocks, ∀ x ∈ allN b.fin, I64 x) (hl : g.leads) {q : T → Prop} (hq : q (.bool (redB (toL g)))) : PCalls Try.prog 17 [g.t] q :=
  PCalls.mono (reducible17 g hg hw) fun r h => by
    rcases h.out with ⟨_, rfl⟩ | ⟨h, _⟩
    · exact hq
    · exact absurd hl h
theorem dominators12k (g : Graph) (hg : g.tiny) (hl : g.leads) {q : T → Prop} (hq : q (.sl 1 (domsR (toL g)))) : PCalls Try.prog 12 [g.t] q :=
  PCalls.mono (dominators12 g hg) fun r h => by
    rcases h.out with ⟨_, rfl⟩ | ⟨h, _⟩
    · exact hq
    · exact absurd hl h
theorem back13k (g : Graph) (hg : g.tiny) (hl : g.leads) {q : T → Prop} (hq : q (.sl 2 (pairsR (backL (toL g))))) : PCalls Try.prog 13 [g.t] q :=
  PCalls.mono (back13 g hg) fun r h => by
    rcases h.out with ⟨_, rfl⟩ | ⟨h, _⟩
    · exact hq
    · exact absurd hl h
theorem reducible18k (g : Graph) (hg : g.tiny) (hl : g.leads) {q : T → Prop} (hq : q (.bool (redB (toL g)))) : PCalls Try.prog 18 [g.t] q :=
  PCalls.mono (reducible18 g hg) fun r h => by
    rcases h.out with ⟨_, rfl⟩ | ⟨h, _⟩
    · exact hq
    · exact absurd hl h
theorem sameS {n : Nat} {f : Nat → Int} {q : T → Prop} (hq : q (.bool true)) : PCalls Try.prog 15 [.sl 1 (tellR n f), .sl 1 (tellR n f)] q := by
  have h := same15 ((List.range n).map f) ((List.range n).map f)
  have e : ilist ((List.range n).map f) = .sl 1 (tellR n f) := by
    show T.sl 1 (List.map _ (List.map _ _)) = _
    rw [List.map_map]; rfl
  rw [e] at h
  refine PCalls.mono h fun r hr => ?_
  rw [hr, beq_self_eq_true]; exact hq
theorem sameES {l : List (Int × Int)} {q : T → Prop} (hq : q (.bool true)) : PCalls Try.prog 16 [.sl 2 (pairsR l), .sl 2 (pairsR l)] q :=
  PCalls.mono (sameEdges16 l l) fun r hr => by
    rw [hr, beq_self_eq_true]; exact hq
abbrev cutG (g : Graph) : Graph := { g with blocks := g.blocks.take 200 }
theorem law3lead (g h : Graph) (hg : h.tiny) (hw : ∀ b ∈ h.blocks, ∀ x ∈ allN b.fin, I64 x) (hl : h.leads) (hc : (g.blocks.length ≤ 200 ∧ h = g) ∨ (200 < g.blocks.length ∧ h = cutG g)) : PCalls Try.prog 3 [g.t] (fun r => r = .bool true) := by
  refine PCalls.of_body ttOk Try.func3 rfl ?_
  rcases hc with ⟨hn, rfl⟩ | ⟨hn, rfl⟩
  · repeat' ((conv => whnf); first | (with_reducible first | refine onBool_intro (fun _ => ?_) (fun _ => ?_) | refine And.intro (Ob.mk (Nat.le_of_ble_eq_true rfl)) ?_ | refine And.intro (Ob.mk rfl) ?_ | exact ⟨rfl, rfl⟩ | refine And.intro (Ob.mk (fun h => h)) ?_) | (with_reducible refine Or.inl (And.intro (Ob.mk (Flat.map ?_)) ?_); exact fun _ => rfl) | (refine Or.inl (And.intro (Ob.mk (flat_of rfl)) ?_)) | (refine Or.inl (And.intro (Ob.mk ⟨rfl, rfl, rfl, rfl⟩) ?_)) | (refine Or.inl (And.intro (Ob.mk ⟨rfl, rfl, rfl⟩) ?_)) | (refine And.intro (Ob.mk ⟨rfl, rfl⟩) ?_) | (with_reducible refine Or.inr ?_) | (refine And.intro (Ob.mk (flat_of rfl)) ?_) | (with_reducible refine And.intro (Ob.mk (Flat.map ?_)) ?_; exact fun _ => rfl) | (with_reducible first | exact Ob.mk (Flat.map fun _ => rfl) | refine And.intro ?_ ?_ | apply exG.mk | apply exGS.mk | exact Dd.nil) | (refine Dd.same _ ?_) | (refine Dd.dead _ ?_) | (with_reducible first | apply exQ.mk | apply exP.mk) | (refine EqP.mk rfl rfl) | (with_reducible apply exW.mk) | (refine EqW.mk rfl) | (with_reducible first | intro _ | refine Dn.mk ?_) | (refine exS.full (by first | rfl | (simp; done) | (simp; omega)) ?_) | (refine And.intro (Ob.mk ⟨rfl, rfl, by first | rfl | (simp; done) | (simp; omega)⟩) ?_) | (with_reducible refine exE.mapD ?_) | (refine exL.int ?_) | (with_reducible first | refine Up0.mk rfl ?_ | refine Up0i.mk rfl ?_ | refine Up1.mk rfl ?_ | refine Up1i.mk rfl ?_ | refine Up2.mk rfl ?_ | refine Up2i.mk rfl ?_) | (refine Col.mk rfl rfl rfl ?_) | (refine Coli.mk rfl rfl rfl rfl ?_) | (refine exS.are (ys := (g.blocks.take 200).map Block.t) ?_ ?_) | (refine copied9k _ hg ?_) | (refine dominators10k _ hg hw hl ?_) | (refine back11k _ hg hw hl ?_) | (refine dominators12k _ hg hl ?_) | (refine back13k _ hg hl ?_) | (refine reducible17k _ hg hw hl ?_) | (refine reducible18k _ hg hl ?_) | (refine sameS ?_) | (refine sameES ?_) | (refine PCalls.mono live14 ?_; rintro _ rfl) | (refine drawVC.mkM _ _ 21 21 [] [[], [0], [0, 1], [0, 1, 2], [0, 1, 2], [0, 1, 2, 3, 4], [0, 1, 2, 3, 4, 5], [0, 1, 2, 3, 4, 5, 6], [0, 1, 2, 3, 4, 5, 6, 7], [0, 1, 2, 3, 4, 5, 6, 7, 8], [0, 1, 2, 3, 4, 5, 6, 7, 8], [0, 1, 2, 3, 4, 5, 6, 7, 8, 9, 10], [0, 1, 2, 3, 4, 5, 6, 7, 8, 9, 10, 11], [0, 1, 2, 3, 4, 5, 6, 7, 8, 9, 10, 11, 12], [0, 1, 2, 3, 4, 5, 6, 7, 8, 9, 10, 11, 12, 13], [0, 1, 2, 3, 4, 5, 6, 7, 8, 9, 10, 11, 12, 13, 14], [0, 1, 2, 3, 4, 5, 6, 7, 8, 9, 10, 11, 12, 13, 14, 15], [0, 1, 2, 3, 4, 5, 6, 7, 8, 9, 10, 11, 12, 13, 14], [0, 1, 2, 3, 4, 5, 6, 7, 8, 9, 10, 11, 12, 13, 14, 15, 16, 17], [0, 1, 2, 3, 4, 5, 6, 7, 8, 9, 10, 11, 12, 13, 14, 15, 16, 17, 18], [0, 1, 2, 3, 4, 5, 6, 7, 8, 9, 10, 11, 12, 13, 14, 15, 16, 17, 18, 19]] rfl (by kernel_rfl) ?_))
    all_goals (try (refine Ob.mk ?_; first | assumption | exact ⟨rfl, rfl⟩ | exact ⟨rfl, rfl, rfl⟩ | (refine ⟨rfl, rfl, ?_⟩; simp only [List.length_map, List.length_take, List.length_append, els_len, List.length_replicate]; omega) | (intro h; exact h) | (intro h; rw [h]; rfl) | (intro h; simp_all; done) | (refine bytes_le (n := 1048577) ?_ rfl; simp only [ltI_iff, ltI_not, leI_iff, leI_not, eqI_iff, eqI_not, List.length_map, bif_and, bif_or, Bool.and_eq_true, Bool.and_eq_false_iff, Bool.or_eq_true, Bool.or_eq_false_iff, Bool.not_eq_true', Bool.not_eq_false', Int.toNat_natCast, beq_iff_eq, beq_eq_false_iff_ne, decide_eq_true_eq, decide_eq_false_iff_not, bel_iff, bel_not, wthn_iff, wthn_not, els_len, mixL_len, Nat.zero_add, List.length_set, List.length_take] at *; omega) | (simp only [ltI_iff, ltI_not, leI_iff, leI_not, eqI_iff, eqI_not, List.length_map, bif_and, bif_or, Bool.and_eq_true, Bool.and_eq_false_iff, Bool.or_eq_true, Bool.or_eq_false_iff, Bool.not_eq_true', Bool.not_eq_false', Int.toNat_natCast, beq_iff_eq, beq_eq_false_iff_ne, decide_eq_true_eq, decide_eq_false_iff_not, bel_iff, bel_not, wthn_iff, wthn_not, els_len, mixL_len, Nat.zero_add, List.length_set, List.length_take, Int.ofNat_eq_natCast] at *; omega)))
    all_goals (try (exfalso; have h3 : ltI 200 _ = true := (by assumption); rw [ltI_iff, List.length_map] at h3; omega))
    all_goals (try (exfalso; have h3 : ltI 200 _ = false := (by assumption); rw [ltI_not, List.length_map] at h3; omega))
    all_goals (try (refine Ob.mk ?_; exact List.map_take.symm))
    all_goals (try (exfalso; rename_i h3; simp at h3; done))
    have hlen : (toL (h)).length ≤ 20000 := by rw [toL_len]; exact hl.most
    have hbl : (backL (toL (h))).length ≤ 20000 * 2 ^ 20 := Nat.le_trans (backP_len hl.short (Nat.le_refl _)) (Nat.mul_le_mul_right _ hlen)
    conv => whnf
    refine LoopVC.mk [8] [] (fun m vals σ => ∃ (i : Nat) (f : Nat → Int), vals = [.t (.int .i64 i)] ∧ σ = [gvar (h), gvar (h), .row 3 1 (tellR (toL (h)).length f), .row 35 2 (pairsR (backL (toL (h))))] ∧ i ≤ (toL (h)).length ∧ m = (toL (h)).length - i) ?_ ?_
    · conv => whnf
      exact ⟨_, 0, domF (toL (h)), rfl, rfl, Nat.zero_le _, rfl⟩
    · rintro m vals σ ⟨i, f, rfl, rfl, hi, rfl⟩
      have hi3 : ltI (i : Int) (((domsR (toL (h))).length : Nat) : Int) = true → i < (toL (h)).length := fun h => by rw [ltI_iff] at h; simp at h; omega
      repeat' ((conv => whnf); first | (with_reducible first | refine onBool_intro (fun _ => ?_) (fun _ => ?_) | refine And.intro (Ob.mk (Nat.le_of_ble_eq_true rfl)) ?_ | refine And.intro (Ob.mk rfl) ?_ | exact ⟨rfl, rfl⟩ | refine And.intro (Ob.mk (fun h => h)) ?_) | (with_reducible refine Or.inl (And.intro (Ob.mk (Flat.map ?_)) ?_); exact fun _ => rfl) | (refine Or.inl (And.intro (Ob.mk (flat_of rfl)) ?_)) | (refine Or.inl (And.intro (Ob.mk ⟨rfl, rfl, rfl, rfl⟩) ?_)) | (refine Or.inl (And.intro (Ob.mk ⟨rfl, rfl, rfl⟩) ?_)) | (refine And.intro (Ob.mk ⟨rfl, rfl⟩) ?_) | (with_reducible refine Or.inr ?_) | (refine And.intro (Ob.mk (flat_of rfl)) ?_) | (with_reducible refine And.intro (Ob.mk (Flat.map ?_)) ?_; exact fun _ => rfl) | (with_reducible first | exact Ob.mk (Flat.map fun _ => rfl) | refine And.intro ?_ ?_ | apply exG.mk | apply exGS.mk | exact Dd.nil) | (refine Dd.same _ ?_) | (refine Dd.dead _ ?_) | (with_reducible first | apply exQ.mk | apply exP.mk) | (refine EqP.mk rfl rfl) | (with_reducible apply exW.mk) | (refine EqW.mk rfl) | (with_reducible first | intro _ | refine Dn.mk ?_) | (refine exS.full (by first | rfl | (simp; done) | (simp; omega)) ?_) | (refine And.intro (Ob.mk ⟨rfl, rfl, by first | rfl | (simp; done) | (simp; omega)⟩) ?_) | (with_reducible refine exE.mapD ?_) | (refine exL.int ?_) | (with_reducible first | refine Up0.mk rfl ?_ | refine Up0i.mk rfl ?_ | refine Up1.mk rfl ?_ | refine Up1i.mk rfl ?_ | refine Up2.mk rfl ?_ | refine Up2i.mk rfl ?_) | (refine Col.mk rfl rfl rfl ?_) | (refine Coli.mk rfl rfl rfl rfl ?_))
      all_goals (try (refine Ob.mk ?_; first | assumption | exact ⟨rfl, rfl⟩ | exact ⟨rfl, rfl, rfl⟩ | (refine ⟨rfl, rfl, ?_⟩; simp only [List.length_map, List.length_take, List.length_append, els_len, List.length_replicate]; omega) | (intro h; exact h) | (intro h; rw [h]; rfl) | (intro h; simp_all; done) | (refine bytes_le (n := 1048577) ?_ rfl; simp only [ltI_iff, ltI_not, leI_iff, leI_not, eqI_iff, eqI_not, List.length_map, bif_and, bif_or, Bool.and_eq_true, Bool.and_eq_false_iff, Bool.or_eq_true, Bool.or_eq_false_iff, Bool.not_eq_true', Bool.not_eq_false', Int.toNat_natCast, beq_iff_eq, beq_eq_false_iff_ne, decide_eq_true_eq, decide_eq_false_iff_not, bel_iff, bel_not, wthn_iff, wthn_not, els_len, mixL_len, Nat.zero_add, List.length_set, List.length_take] at *; omega) | (simp only [ltI_iff, ltI_not, leI_iff, leI_not, eqI_iff, eqI_not, List.length_map, bif_and, bif_or, Bool.and_eq_true, Bool.and_eq_false_iff, Bool.or_eq_true, Bool.or_eq_false_iff, Bool.not_eq_true', Bool.not_eq_false', Int.toNat_natCast, beq_iff_eq, beq_eq_false_iff_ne, decide_eq_true_eq, decide_eq_false_iff_not, bel_iff, bel_not, wthn_iff, wthn_not, els_len, mixL_len, Nat.zero_add, List.length_set, List.length_take, Int.ofNat_eq_natCast] at *; omega)))
      all_goals (try (refine Ob.mk ?_; simp; omega))
      · conv => whnf
        have hi2 := hi3 (by assumption)
        refine ⟨(toL (h)).length - (i + 1), by omega, i + 1, _, ?_, congrArg (fun z => [gvar (h), gvar (h), .row 3 1 z, .row 35 2 (pairsR (backL (toL (h))))]) (tellR_set rfl), hi2, rfl⟩
        rw [addI_i64 (by omega) (by omega)]; rfl
      · conv => whnf
        refine LoopVC.mk [9] [] (fun m vals σ => ∃ (i : Nat) (l : List (Int × Int)), vals = [.t (.int .i64 i)] ∧ σ = [gvar (h), gvar (h), .row 3 1 (tellR (toL (h)).length f), .row 35 2 (pairsR l)] ∧ l.length = (backL (toL (h))).length ∧ i ≤ l.length ∧ m = l.length - i) ?_ ?_
        · conv => whnf
          exact ⟨_, 0, backL (toL (h)), rfl, rfl, rfl, Nat.zero_le _, rfl⟩
        · rintro m2 vals σ ⟨k, l, rfl, rfl, hll, hk, rfl⟩
          have hk3 : ltI (k : Int) (((pairsR (backL (toL (h)))).length : Nat) : Int) = true → k < l.length := fun h => by rw [ltI_iff, List.length_map] at h; omega
          repeat' ((conv => whnf); first | (with_reducible first | refine onBool_intro (fun _ => ?_) (fun _ => ?_) | refine And.intro (Ob.mk (Nat.le_of_ble_eq_true rfl)) ?_ | refine And.intro (Ob.mk rfl) ?_ | exact ⟨rfl, rfl⟩ | refine And.intro (Ob.mk (fun h => h)) ?_) | (with_reducible refine Or.inl (And.intro (Ob.mk (Flat.map ?_)) ?_); exact fun _ => rfl) | (refine Or.inl (And.intro (Ob.mk (flat_of rfl)) ?_)) | (refine Or.inl (And.intro (Ob.mk ⟨rfl, rfl, rfl, rfl⟩) ?_)) | (refine Or.inl (And.intro (Ob.mk ⟨rfl, rfl, rfl⟩) ?_)) | (refine And.intro (Ob.mk ⟨rfl, rfl⟩) ?_) | (with_reducible refine Or.inr ?_) | (refine And.intro (Ob.mk (flat_of rfl)) ?_) | (with_reducible refine And.intro (Ob.mk (Flat.map ?_)) ?_; exact fun _ => rfl) | (with_reducible first | exact Ob.mk (Flat.map fun _ => rfl) | refine And.intro ?_ ?_ | apply exG.mk | apply exGS.mk | exact Dd.nil) | (refine Dd.same _ ?_) | (refine Dd.dead _ ?_) | (with_reducible first | apply exQ.mk | apply exP.mk) | (refine EqP.mk rfl rfl) | (with_reducible apply exW.mk) | (refine EqW.mk rfl) | (with_reducible first | intro _ | refine Dn.mk ?_) | (refine exS.full (by first | rfl | (simp; done) | (simp; omega)) ?_) | (refine And.intro (Ob.mk ⟨rfl, rfl, by first | rfl | (simp; done) | (simp; omega)⟩) ?_) | (with_reducible refine exE.mapD ?_) | (refine exL.int ?_) | (with_reducible first | refine Up0.mk rfl ?_ | refine Up0i.mk rfl ?_ | refine Up1.mk rfl ?_ | refine Up1i.mk rfl ?_ | refine Up2.mk rfl ?_ | refine Up2i.mk rfl ?_) | (refine Col.mk rfl rfl rfl ?_) | (refine Coli.mk rfl rfl rfl rfl ?_) | (refine dominators10k _ hg hw hl ?_) | (refine back11k _ hg hw hl ?_) | (refine sameS ?_) | (refine sameES ?_))
          all_goals (try (refine Ob.mk ?_; first | assumption | exact ⟨rfl, rfl⟩ | exact ⟨rfl, rfl, rfl⟩ | (refine ⟨rfl, rfl, ?_⟩; simp only [List.length_map, List.length_take, List.length_append, els_len, List.length_replicate]; omega) | (intro h; exact h) | (intro h; rw [h]; rfl) | (intro h; simp_all; done) | (refine bytes_le (n := 1048577) ?_ rfl; simp only [ltI_iff, ltI_not, leI_iff, leI_not, eqI_iff, eqI_not, List.length_map, bif_and, bif_or, Bool.and_eq_true, Bool.and_eq_false_iff, Bool.or_eq_true, Bool.or_eq_false_iff, Bool.not_eq_true', Bool.not_eq_false', Int.toNat_natCast, beq_iff_eq, beq_eq_false_iff_ne, decide_eq_true_eq, decide_eq_false_iff_not, bel_iff, bel_not, wthn_iff, wthn_not, els_len, mixL_len, Nat.zero_add, List.length_set, List.length_take] at *; omega) | (simp only [ltI_iff, ltI_not, leI_iff, leI_not, eqI_iff, eqI_not, List.length_map, bif_and, bif_or, Bool.and_eq_true, Bool.and_eq_false_iff, Bool.or_eq_true, Bool.or_eq_false_iff, Bool.not_eq_true', Bool.not_eq_false', Int.toNat_natCast, beq_iff_eq, beq_eq_false_iff_ne, decide_eq_true_eq, decide_eq_false_iff_not, bel_iff, bel_not, wthn_iff, wthn_not, els_len, mixL_len, Nat.zero_add, List.length_set, List.length_take, Int.ofNat_eq_natCast] at *; omega)))
          all_goals (try (refine Ob.mk ?_; simp; omega))
          · exact Ob.mk flatA2
          · conv => whnf
            have hk2 := hk3 (by assumption)
            refine ⟨l.length - (k + 1), by omega, k + 1, l.set k (-7, -7), ?_, ?_, by rw [List.length_set]; exact hll, by rw [List.length_set]; exact hk2, by rw [List.length_set]⟩
            · rw [addI_i64 (by omega) (by omega)]; rfl
            · refine congrArg (fun z => [gvar (h), gvar (h), .row 3 1 (tellR (toL (h)).length f), .row 35 2 z]) ?_
              rw [Nat.zero_add, Int.toNat_natCast]
              show (List.map pairT l).set k (pairT (-7, -7)) = List.map pairT (l.set k (-7, -7))
              exact List.map_set.symm
          · rename_i h3
            exact nomatch h3
          · rfl
  · repeat' ((conv => whnf); first | (with_reducible first | refine onBool_intro (fun _ => ?_) (fun _ => ?_) | refine And.intro (Ob.mk (Nat.le_of_ble_eq_true rfl)) ?_ | refine And.intro (Ob.mk rfl) ?_ | exact ⟨rfl, rfl⟩ | refine And.intro (Ob.mk (fun h => h)) ?_) | (with_reducible refine Or.inl (And.intro (Ob.mk (Flat.map ?_)) ?_); exact fun _ => rfl) | (refine Or.inl (And.intro (Ob.mk (flat_of rfl)) ?_)) | (refine Or.inl (And.intro (Ob.mk ⟨rfl, rfl, rfl, rfl⟩) ?_)) | (refine Or.inl (And.intro (Ob.mk ⟨rfl, rfl, rfl⟩) ?_)) | (refine And.intro (Ob.mk ⟨rfl, rfl⟩) ?_) | (with_reducible refine Or.inr ?_) | (refine And.intro (Ob.mk (flat_of rfl)) ?_) | (with_reducible refine And.intro (Ob.mk (Flat.map ?_)) ?_; exact fun _ => rfl) | (with_reducible first | exact Ob.mk (Flat.map fun _ => rfl) | refine And.intro ?_ ?_ | apply exG.mk | apply exGS.mk | exact Dd.nil) | (refine Dd.same _ ?_) | (refine Dd.dead _ ?_) | (with_reducible first | apply exQ.mk | apply exP.mk) | (refine EqP.mk rfl rfl) | (with_reducible apply exW.mk) | (refine EqW.mk rfl) | (with_reducible first | intro _ | refine Dn.mk ?_) | (refine exS.full (by first | rfl | (simp; done) | (simp; omega)) ?_) | (refine And.intro (Ob.mk ⟨rfl, rfl, by first | rfl | (simp; done) | (simp; omega)⟩) ?_) | (with_reducible refine exE.mapD ?_) | (refine exL.int ?_) | (with_reducible first | refine Up0.mk rfl ?_ | refine Up0i.mk rfl ?_ | refine Up1.mk rfl ?_ | refine Up1i.mk rfl ?_ | refine Up2.mk rfl ?_ | refine Up2i.mk rfl ?_) | (refine Col.mk rfl rfl rfl ?_) | (refine Coli.mk rfl rfl rfl rfl ?_) | (refine exS.are (ys := (g.blocks.take 200).map Block.t) ?_ ?_) | (refine copied9k _ hg ?_) | (refine dominators10k _ hg hw hl ?_) | (refine back11k _ hg hw hl ?_) | (refine dominators12k _ hg hl ?_) | (refine back13k _ hg hl ?_) | (refine reducible17k _ hg hw hl ?_) | (refine reducible18k _ hg hl ?_) | (refine sameS ?_) | (refine sameES ?_) | (refine PCalls.mono live14 ?_; rintro _ rfl) | (refine drawVC.mkM _ _ 21 21 [] [[], [0], [0, 1], [0, 1, 2], [0, 1, 2], [0, 1, 2, 3, 4], [0, 1, 2, 3, 4, 5], [0, 1, 2, 3, 4, 5, 6], [0, 1, 2, 3, 4, 5, 6, 7], [0, 1, 2, 3, 4, 5, 6, 7, 8], [0, 1, 2, 3, 4, 5, 6, 7, 8], [0, 1, 2, 3, 4, 5, 6, 7, 8, 9, 10], [0, 1, 2, 3, 4, 5, 6, 7, 8, 9, 10, 11], [0, 1, 2, 3, 4, 5, 6, 7, 8, 9, 10, 11, 12], [0, 1, 2, 3, 4, 5, 6, 7, 8, 9, 10, 11, 12, 13], [0, 1, 2, 3, 4, 5, 6, 7, 8, 9, 10, 11, 12, 13, 14], [0, 1, 2, 3, 4, 5, 6, 7, 8, 9, 10, 11, 12, 13, 14, 15], [0, 1, 2, 3, 4, 5, 6, 7, 8, 9, 10, 11, 12, 13, 14], [0, 1, 2, 3, 4, 5, 6, 7, 8, 9, 10, 11, 12, 13, 14, 15, 16, 17], [0, 1, 2, 3, 4, 5, 6, 7, 8, 9, 10, 11, 12, 13, 14, 15, 16, 17, 18], [0, 1, 2, 3, 4, 5, 6, 7, 8, 9, 10, 11, 12, 13, 14, 15, 16, 17, 18, 19]] rfl (by kernel_rfl) ?_))
    all_goals (try (refine Ob.mk ?_; first | assumption | exact ⟨rfl, rfl⟩ | exact ⟨rfl, rfl, rfl⟩ | (refine ⟨rfl, rfl, ?_⟩; simp only [List.length_map, List.length_take, List.length_append, els_len, List.length_replicate]; omega) | (intro h; exact h) | (intro h; rw [h]; rfl) | (intro h; simp_all; done) | (refine bytes_le (n := 1048577) ?_ rfl; simp only [ltI_iff, ltI_not, leI_iff, leI_not, eqI_iff, eqI_not, List.length_map, bif_and, bif_or, Bool.and_eq_true, Bool.and_eq_false_iff, Bool.or_eq_true, Bool.or_eq_false_iff, Bool.not_eq_true', Bool.not_eq_false', Int.toNat_natCast, beq_iff_eq, beq_eq_false_iff_ne, decide_eq_true_eq, decide_eq_false_iff_not, bel_iff, bel_not, wthn_iff, wthn_not, els_len, mixL_len, Nat.zero_add, List.length_set, List.length_take] at *; omega) | (simp only [ltI_iff, ltI_not, leI_iff, leI_not, eqI_iff, eqI_not, List.length_map, bif_and, bif_or, Bool.and_eq_true, Bool.and_eq_false_iff, Bool.or_eq_true, Bool.or_eq_false_iff, Bool.not_eq_true', Bool.not_eq_false', Int.toNat_natCast, beq_iff_eq, beq_eq_false_iff_ne, decide_eq_true_eq, decide_eq_false_iff_not, bel_iff, bel_not, wthn_iff, wthn_not, els_len, mixL_len, Nat.zero_add, List.length_set, List.length_take, Int.ofNat_eq_natCast] at *; omega)))
    all_goals (try (exfalso; have h3 : ltI 200 _ = true := (by assumption); rw [ltI_iff, List.length_map] at h3; omega))
    all_goals (try (exfalso; have h3 : ltI 200 _ = false := (by assumption); rw [ltI_not, List.length_map] at h3; omega))
    all_goals (try (refine Ob.mk ?_; exact List.map_take.symm))
    all_goals (try (exfalso; rename_i h3; simp at h3; done))
    have hlen : (toL (cutG g)).length ≤ 20000 := by rw [toL_len]; exact hl.most
    have hbl : (backL (toL (cutG g))).length ≤ 20000 * 2 ^ 20 := Nat.le_trans (backP_len hl.short (Nat.le_refl _)) (Nat.mul_le_mul_right _ hlen)
    conv => whnf
    refine LoopVC.mk [8] [] (fun m vals σ => ∃ (i : Nat) (f : Nat → Int), vals = [.t (.int .i64 i)] ∧ σ = [gvar (cutG g), gvar (cutG g), .row 3 1 (tellR (toL (cutG g)).length f), .row 35 2 (pairsR (backL (toL (cutG g))))] ∧ i ≤ (toL (cutG g)).length ∧ m = (toL (cutG g)).length - i) ?_ ?_
    · conv => whnf
      exact ⟨_, 0, domF (toL (cutG g)), rfl, rfl, Nat.zero_le _, rfl⟩
    · rintro m vals σ ⟨i, f, rfl, rfl, hi, rfl⟩
      have hi3 : ltI (i : Int) (((domsR (toL (cutG g))).length : Nat) : Int) = true → i < (toL (cutG g)).length := fun h => by rw [ltI_iff] at h; simp at h; omega
      repeat' ((conv => whnf); first | (with_reducible first | refine onBool_intro (fun _ => ?_) (fun _ => ?_) | refine And.intro (Ob.mk (Nat.le_of_ble_eq_true rfl)) ?_ | refine And.intro (Ob.mk rfl) ?_ | exact ⟨rfl, rfl⟩ | refine And.intro (Ob.mk (fun h => h)) ?_) | (with_reducible refine Or.inl (And.intro (Ob.mk (Flat.map ?_)) ?_); exact fun _ => rfl) | (refine Or.inl (And.intro (Ob.mk (flat_of rfl)) ?_)) | (refine Or.inl (And.intro (Ob.mk ⟨rfl, rfl, rfl, rfl⟩) ?_)) | (refine Or.inl (And.intro (Ob.mk ⟨rfl, rfl, rfl⟩) ?_)) | (refine And.intro (Ob.mk ⟨rfl, rfl⟩) ?_) | (with_reducible refine Or.inr ?_) | (refine And.intro (Ob.mk (flat_of rfl)) ?_) | (with_reducible refine And.intro (Ob.mk (Flat.map ?_)) ?_; exact fun _ => rfl) | (with_reducible first | exact Ob.mk (Flat.map fun _ => rfl) | refine And.intro ?_ ?_ | apply exG.mk | apply exGS.mk | exact Dd.nil) | (refine Dd.same _ ?_) | (refine Dd.dead _ ?_) | (with_reducible first | apply exQ.mk | apply exP.mk) | (refine EqP.mk rfl rfl) | (with_reducible apply exW.mk) | (refine EqW.mk rfl) | (with_reducible first | intro _ | refine Dn.mk ?_) | (refine exS.full (by first | rfl | (simp; done) | (simp; omega)) ?_) | (refine And.intro (Ob.mk ⟨rfl, rfl, by first | rfl | (simp; done) | (simp; omega)⟩) ?_) | (with_reducible refine exE.mapD ?_) | (refine exL.int ?_) | (with_reducible first | refine Up0.mk rfl ?_ | refine Up0i.mk rfl ?_ | refine Up1.mk rfl ?_ | refine Up1i.mk rfl ?_ | refine Up2.mk rfl ?_ | refine Up2i.mk rfl ?_) | (refine Col.mk rfl rfl rfl ?_) | (refine Coli.mk rfl rfl rfl rfl ?_))
      all_goals (try (refine Ob.mk ?_; first | assumption | exact ⟨rfl, rfl⟩ | exact ⟨rfl, rfl, rfl⟩ | (refine ⟨rfl, rfl, ?_⟩; simp only [List.length_map, List.length_take, List.length_append, els_len, List.length_replicate]; omega) | (intro h; exact h) | (intro h; rw [h]; rfl) | (intro h; simp_all; done) | (refine bytes_le (n := 1048577) ?_ rfl; simp only [ltI_iff, ltI_not, leI_iff, leI_not, eqI_iff, eqI_not, List.length_map, bif_and, bif_or, Bool.and_eq_true, Bool.and_eq_false_iff, Bool.or_eq_true, Bool.or_eq_false_iff, Bool.not_eq_true', Bool.not_eq_false', Int.toNat_natCast, beq_iff_eq, beq_eq_false_iff_ne, decide_eq_true_eq, decide_eq_false_iff_not, bel_iff, bel_not, wthn_iff, wthn_not, els_len, mixL_len, Nat.zero_add, List.length_set, List.length_take] at *; omega) | (simp only [ltI_iff, ltI_not, leI_iff, leI_not, eqI_iff, eqI_not, List.length_map, bif_and, bif_or, Bool.and_eq_true, Bool.and_eq_false_iff, Bool.or_eq_true, Bool.or_eq_false_iff, Bool.not_eq_true', Bool.not_eq_false', Int.toNat_natCast, beq_iff_eq, beq_eq_false_iff_ne, decide_eq_true_eq, decide_eq_false_iff_not, bel_iff, bel_not, wthn_iff, wthn_not, els_len, mixL_len, Nat.zero_add, List.length_set, List.length_take, Int.ofNat_eq_natCast] at *; omega)))
      all_goals (try (refine Ob.mk ?_; simp; omega))
      · conv => whnf
        have hi2 := hi3 (by assumption)
        refine ⟨(toL (cutG g)).length - (i + 1), by omega, i + 1, _, ?_, congrArg (fun z => [gvar (cutG g), gvar (cutG g), .row 3 1 z, .row 35 2 (pairsR (backL (toL (cutG g))))]) (tellR_set rfl), hi2, rfl⟩
        rw [addI_i64 (by omega) (by omega)]; rfl
      · conv => whnf
        refine LoopVC.mk [9] [] (fun m vals σ => ∃ (i : Nat) (l : List (Int × Int)), vals = [.t (.int .i64 i)] ∧ σ = [gvar (cutG g), gvar (cutG g), .row 3 1 (tellR (toL (cutG g)).length f), .row 35 2 (pairsR l)] ∧ l.length = (backL (toL (cutG g))).length ∧ i ≤ l.length ∧ m = l.length - i) ?_ ?_
        · conv => whnf
          exact ⟨_, 0, backL (toL (cutG g)), rfl, rfl, rfl, Nat.zero_le _, rfl⟩
        · rintro m2 vals σ ⟨k, l, rfl, rfl, hll, hk, rfl⟩
          have hk3 : ltI (k : Int) (((pairsR (backL (toL (cutG g)))).length : Nat) : Int) = true → k < l.length := fun h => by rw [ltI_iff, List.length_map] at h; omega
          repeat' ((conv => whnf); first | (with_reducible first | refine onBool_intro (fun _ => ?_) (fun _ => ?_) | refine And.intro (Ob.mk (Nat.le_of_ble_eq_true rfl)) ?_ | refine And.intro (Ob.mk rfl) ?_ | exact ⟨rfl, rfl⟩ | refine And.intro (Ob.mk (fun h => h)) ?_) | (with_reducible refine Or.inl (And.intro (Ob.mk (Flat.map ?_)) ?_); exact fun _ => rfl) | (refine Or.inl (And.intro (Ob.mk (flat_of rfl)) ?_)) | (refine Or.inl (And.intro (Ob.mk ⟨rfl, rfl, rfl, rfl⟩) ?_)) | (refine Or.inl (And.intro (Ob.mk ⟨rfl, rfl, rfl⟩) ?_)) | (refine And.intro (Ob.mk ⟨rfl, rfl⟩) ?_) | (with_reducible refine Or.inr ?_) | (refine And.intro (Ob.mk (flat_of rfl)) ?_) | (with_reducible refine And.intro (Ob.mk (Flat.map ?_)) ?_; exact fun _ => rfl) | (with_reducible first | exact Ob.mk (Flat.map fun _ => rfl) | refine And.intro ?_ ?_ | apply exG.mk | apply exGS.mk | exact Dd.nil) | (refine Dd.same _ ?_) | (refine Dd.dead _ ?_) | (with_reducible first | apply exQ.mk | apply exP.mk) | (refine EqP.mk rfl rfl) | (with_reducible apply exW.mk) | (refine EqW.mk rfl) | (with_reducible first | intro _ | refine Dn.mk ?_) | (refine exS.full (by first | rfl | (simp; done) | (simp; omega)) ?_) | (refine And.intro (Ob.mk ⟨rfl, rfl, by first | rfl | (simp; done) | (simp; omega)⟩) ?_) | (with_reducible refine exE.mapD ?_) | (refine exL.int ?_) | (with_reducible first | refine Up0.mk rfl ?_ | refine Up0i.mk rfl ?_ | refine Up1.mk rfl ?_ | refine Up1i.mk rfl ?_ | refine Up2.mk rfl ?_ | refine Up2i.mk rfl ?_) | (refine Col.mk rfl rfl rfl ?_) | (refine Coli.mk rfl rfl rfl rfl ?_) | (refine dominators10k _ hg hw hl ?_) | (refine back11k _ hg hw hl ?_) | (refine sameS ?_) | (refine sameES ?_))
          all_goals (try (refine Ob.mk ?_; first | assumption | exact ⟨rfl, rfl⟩ | exact ⟨rfl, rfl, rfl⟩ | (refine ⟨rfl, rfl, ?_⟩; simp only [List.length_map, List.length_take, List.length_append, els_len, List.length_replicate]; omega) | (intro h; exact h) | (intro h; rw [h]; rfl) | (intro h; simp_all; done) | (refine bytes_le (n := 1048577) ?_ rfl; simp only [ltI_iff, ltI_not, leI_iff, leI_not, eqI_iff, eqI_not, List.length_map, bif_and, bif_or, Bool.and_eq_true, Bool.and_eq_false_iff, Bool.or_eq_true, Bool.or_eq_false_iff, Bool.not_eq_true', Bool.not_eq_false', Int.toNat_natCast, beq_iff_eq, beq_eq_false_iff_ne, decide_eq_true_eq, decide_eq_false_iff_not, bel_iff, bel_not, wthn_iff, wthn_not, els_len, mixL_len, Nat.zero_add, List.length_set, List.length_take] at *; omega) | (simp only [ltI_iff, ltI_not, leI_iff, leI_not, eqI_iff, eqI_not, List.length_map, bif_and, bif_or, Bool.and_eq_true, Bool.and_eq_false_iff, Bool.or_eq_true, Bool.or_eq_false_iff, Bool.not_eq_true', Bool.not_eq_false', Int.toNat_natCast, beq_iff_eq, beq_eq_false_iff_ne, decide_eq_true_eq, decide_eq_false_iff_not, bel_iff, bel_not, wthn_iff, wthn_not, els_len, mixL_len, Nat.zero_add, List.length_set, List.length_take, Int.ofNat_eq_natCast] at *; omega)))
          all_goals (try (refine Ob.mk ?_; simp; omega))
          · exact Ob.mk flatA2
          · conv => whnf
            have hk2 := hk3 (by assumption)
            refine ⟨l.length - (k + 1), by omega, k + 1, l.set k (-7, -7), ?_, ?_, by rw [List.length_set]; exact hll, by rw [List.length_set]; exact hk2, by rw [List.length_set]⟩
            · rw [addI_i64 (by omega) (by omega)]; rfl
            · refine congrArg (fun z => [gvar (cutG g), gvar (cutG g), .row 3 1 (tellR (toL (cutG g)).length f), .row 35 2 z]) ?_
              rw [Nat.zero_add, Int.toNat_natCast]
              show (List.map pairT l).set k (pairT (-7, -7)) = List.map pairT (l.set k (-7, -7))
              exact List.map_set.symm
          · rename_i h3
            exact nomatch h3
          · rfl
theorem sameN {q : T → Prop} (hq : q (.bool true)) : PCalls Try.prog 15 [.nsl, .nsl] q :=
  PCalls.argsL (ts' := [ilist [], ilist []]) (.cons (.nsl 1) (.cons (.nsl 1) .nil)) (PCalls.mono (same15 [] []) fun _ h => h ▸ hq)
theorem sameEN {q : T → Prop} (hq : q (.bool true)) : PCalls Try.prog 16 [.nsl, .nsl] q :=
  PCalls.argsL (ts' := [.sl 2 (pairsR []), .sl 2 (pairsR [])]) (.cons (.nsl 2) (.cons (.nsl 2) .nil)) (PCalls.mono (sameEdges16 [] []) fun _ h => h ▸ hq)
theorem dominators10n (g : Graph) (hg : g.tiny) (hw : ∀ b ∈ g.blocks, ∀ x ∈ allN b.fin, I64 x) (hl : ¬ g.leads) {q : T → Prop} (hq : q (.own .nsl)) : PCalls Try.prog 10 [g.t] q :=
  PCalls.mono (dominators10 g hg hw) fun r h => by
    rcases h.out with ⟨h, _⟩ | ⟨_, rfl⟩
    · exact absurd h hl
    · exact hq
theorem back11n (g : Graph) (hg : g.tiny) (hw : ∀ b ∈ g.blocks, ∀ x ∈ allN b.fin, I64 x) (hl : ¬ g.leads) {q : T → Prop} (hq : q (.own .nsl)) : PCalls Try.prog 11 [g.t] q :=
  PCalls.mono (back11 g hg hw) fun r h => by
    rcases h.out with ⟨h, _⟩ | ⟨_, rfl⟩
    · exact absurd h hl
    · exact hq
theorem reducible17n (g : Graph) (hg : g.tiny) (hw : ∀ b ∈ g.blocks, ∀ x ∈ allN b.fin, I64 x) (hl : ¬ g.leads) {q : T → Prop} (hq : q (.bool false)) : PCalls Try.prog 17 [g.t] q :=
  PCalls.mono (reducible17 g hg hw) fun r h => by
    rcases h.out with ⟨h, _⟩ | ⟨_, rfl⟩
    · exact absurd h hl
    · exact hq
theorem dominators12n (g : Graph) (hg : g.tiny) (hl : ¬ g.leads) {q : T → Prop} (hq : q .nsl) : PCalls Try.prog 12 [g.t] q :=
  PCalls.mono (dominators12 g hg) fun r h => by
    rcases h.out with ⟨h, _⟩ | ⟨_, rfl⟩
    · exact absurd h hl
    · exact hq
theorem back13n (g : Graph) (hg : g.tiny) (hl : ¬ g.leads) {q : T → Prop} (hq : q .nsl) : PCalls Try.prog 13 [g.t] q :=
  PCalls.mono (back13 g hg) fun r h => by
    rcases h.out with ⟨h, _⟩ | ⟨_, rfl⟩
    · exact absurd h hl
    · exact hq
theorem reducible18n (g : Graph) (hg : g.tiny) (hl : ¬ g.leads) {q : T → Prop} (hq : q (.bool false)) : PCalls Try.prog 18 [g.t] q :=
  PCalls.mono (reducible18 g hg) fun r h => by
    rcases h.out with ⟨h, _⟩ | ⟨_, rfl⟩
    · exact absurd h hl
    · exact hq
theorem law3not (g h : Graph) (hg : h.tiny) (hw : ∀ b ∈ h.blocks, ∀ x ∈ allN b.fin, I64 x) (hl : ¬ h.leads) (hc : (g.blocks.length ≤ 200 ∧ h = g) ∨ (200 < g.blocks.length ∧ h = cutG g)) : PCalls Try.prog 3 [g.t] (fun r => r = .bool true) := by
  refine PCalls.of_body ttOk Try.func3 rfl ?_
  rcases hc with ⟨hn, rfl⟩ | ⟨hn, rfl⟩
  · repeat' ((conv => whnf); first | (with_reducible first | refine onBool_intro (fun _ => ?_) (fun _ => ?_) | refine And.intro (Ob.mk (Nat.le_of_ble_eq_true rfl)) ?_ | refine And.intro (Ob.mk rfl) ?_ | exact ⟨rfl, rfl⟩ | refine And.intro (Ob.mk (fun h => h)) ?_) | (with_reducible refine Or.inl (And.intro (Ob.mk (Flat.map ?_)) ?_); exact fun _ => rfl) | (refine Or.inl (And.intro (Ob.mk (flat_of rfl)) ?_)) | (refine Or.inl (And.intro (Ob.mk ⟨rfl, rfl, rfl, rfl⟩) ?_)) | (refine Or.inl (And.intro (Ob.mk ⟨rfl, rfl, rfl⟩) ?_)) | (refine And.intro (Ob.mk ⟨rfl, rfl⟩) ?_) | (with_reducible refine Or.inr ?_) | (refine And.intro (Ob.mk (flat_of rfl)) ?_) | (with_reducible refine And.intro (Ob.mk (Flat.map ?_)) ?_; exact fun _ => rfl) | (with_reducible first | exact Ob.mk (Flat.map fun _ => rfl) | refine And.intro ?_ ?_ | apply exG.mk | apply exGS.mk | exact Dd.nil) | (refine Dd.same _ ?_) | (refine Dd.dead _ ?_) | (with_reducible first | apply exQ.mk | apply exP.mk) | (refine EqP.mk rfl rfl) | (with_reducible apply exW.mk) | (refine EqW.mk rfl) | (with_reducible first | intro _ | refine Dn.mk ?_) | (refine exS.full (by first | rfl | (simp; done) | (simp; omega)) ?_) | (refine And.intro (Ob.mk ⟨rfl, rfl, by first | rfl | (simp; done) | (simp; omega)⟩) ?_) | (with_reducible refine exE.mapD ?_) | (refine exL.int ?_) | (with_reducible first | refine Up0.mk rfl ?_ | refine Up0i.mk rfl ?_ | refine Up1.mk rfl ?_ | refine Up1i.mk rfl ?_ | refine Up2.mk rfl ?_ | refine Up2i.mk rfl ?_) | (refine Col.mk rfl rfl rfl ?_) | (refine Coli.mk rfl rfl rfl rfl ?_) | (refine exS.are (ys := (g.blocks.take 200).map Block.t) ?_ ?_) | (refine copied9k _ hg ?_) | (refine dominators10n _ hg hw hl ?_) | (refine back11n _ hg hw hl ?_) | (refine dominators12n _ hg hl ?_) | (refine back13n _ hg hl ?_) | (refine reducible17n _ hg hw hl ?_) | (refine reducible18n _ hg hl ?_) | (refine sameN ?_) | (refine sameEN ?_) | (refine PCalls.mono live14 ?_; rintro _ rfl) | (refine drawVC.mkM _ _ 21 21 [] [[], [0], [0, 1], [0, 1, 2], [0, 1, 2], [0, 1, 2, 3, 4], [0, 1, 2, 3, 4, 5], [0, 1, 2, 3, 4, 5, 6], [0, 1, 2, 3, 4, 5, 6, 7], [0, 1, 2, 3, 4, 5, 6, 7, 8], [0, 1, 2, 3, 4, 5, 6, 7, 8], [0, 1, 2, 3, 4, 5, 6, 7, 8, 9, 10], [0, 1, 2, 3, 4, 5, 6, 7, 8, 9, 10, 11], [0, 1, 2, 3, 4, 5, 6, 7, 8, 9, 10, 11, 12], [0, 1, 2, 3, 4, 5, 6, 7, 8, 9, 10, 11, 12, 13], [0, 1, 2, 3, 4, 5, 6, 7, 8, 9, 10, 11, 12, 13, 14], [0, 1, 2, 3, 4, 5, 6, 7, 8, 9, 10, 11, 12, 13, 14, 15], [0, 1, 2, 3, 4, 5, 6, 7, 8, 9, 10, 11, 12, 13, 14], [0, 1, 2, 3, 4, 5, 6, 7, 8, 9, 10, 11, 12, 13, 14, 15, 16, 17], [0, 1, 2, 3, 4, 5, 6, 7, 8, 9, 10, 11, 12, 13, 14, 15, 16, 17, 18], [0, 1, 2, 3, 4, 5, 6, 7, 8, 9, 10, 11, 12, 13, 14, 15, 16, 17, 18, 19]] rfl (by kernel_rfl) ?_))
    all_goals (try (refine Ob.mk ?_; first | assumption | exact ⟨rfl, rfl⟩ | exact ⟨rfl, rfl, rfl⟩ | (refine ⟨rfl, rfl, ?_⟩; simp only [List.length_map, List.length_take, List.length_append, els_len, List.length_replicate]; omega) | (intro h; exact h) | (intro h; rw [h]; rfl) | (intro h; simp_all; done) | (refine bytes_le (n := 1048577) ?_ rfl; simp only [ltI_iff, ltI_not, leI_iff, leI_not, eqI_iff, eqI_not, List.length_map, bif_and, bif_or, Bool.and_eq_true, Bool.and_eq_false_iff, Bool.or_eq_true, Bool.or_eq_false_iff, Bool.not_eq_true', Bool.not_eq_false', Int.toNat_natCast, beq_iff_eq, beq_eq_false_iff_ne, decide_eq_true_eq, decide_eq_false_iff_not, bel_iff, bel_not, wthn_iff, wthn_not, els_len, mixL_len, Nat.zero_add, List.length_set, List.length_take] at *; omega) | (simp only [ltI_iff, ltI_not, leI_iff, leI_not, eqI_iff, eqI_not, List.length_map, bif_and, bif_or, Bool.and_eq_true, Bool.and_eq_false_iff, Bool.or_eq_true, Bool.or_eq_false_iff, Bool.not_eq_true', Bool.not_eq_false', Int.toNat_natCast, beq_iff_eq, beq_eq_false_iff_ne, decide_eq_true_eq, decide_eq_false_iff_not, bel_iff, bel_not, wthn_iff, wthn_not, els_len, mixL_len, Nat.zero_add, List.length_set, List.length_take, Int.ofNat_eq_natCast] at *; omega)))
    all_goals (try (exfalso; have h3 : ltI 200 _ = true := (by assumption); rw [ltI_iff, List.length_map] at h3; omega))
    all_goals (try (exfalso; have h3 : ltI 200 _ = false := (by assumption); rw [ltI_not, List.length_map] at h3; omega))
    all_goals (try (refine Ob.mk ?_; exact List.map_take.symm))
    all_goals (try (exfalso; rename_i h3; simp at h3; done))
    conv => whnf
    refine LoopVC.mk [8] [] (fun m vals σ => vals = [.t (.int .i64 0)] ∧ σ = [gvar (h), gvar (h)] ∧ m = 0) ?_ ?_
    · conv => whnf
      exact ⟨0, rfl, rfl, rfl⟩
    · rintro m vals σ ⟨rfl, rfl, rfl⟩
      repeat' ((conv => whnf); first | (with_reducible first | refine onBool_intro (fun _ => ?_) (fun _ => ?_) | refine And.intro (Ob.mk (Nat.le_of_ble_eq_true rfl)) ?_ | refine And.intro (Ob.mk rfl) ?_ | exact ⟨rfl, rfl⟩ | refine And.intro (Ob.mk (fun h => h)) ?_) | (with_reducible refine Or.inl (And.intro (Ob.mk (Flat.map ?_)) ?_); exact fun _ => rfl) | (refine Or.inl (And.intro (Ob.mk (flat_of rfl)) ?_)) | (refine Or.inl (And.intro (Ob.mk ⟨rfl, rfl, rfl, rfl⟩) ?_)) | (refine Or.inl (And.intro (Ob.mk ⟨rfl, rfl, rfl⟩) ?_)) | (refine And.intro (Ob.mk ⟨rfl, rfl⟩) ?_) | (with_reducible refine Or.inr ?_) | (refine And.intro (Ob.mk (flat_of rfl)) ?_) | (with_reducible refine And.intro (Ob.mk (Flat.map ?_)) ?_; exact fun _ => rfl) | (with_reducible first | exact Ob.mk (Flat.map fun _ => rfl) | refine And.intro ?_ ?_ | apply exG.mk | apply exGS.mk | exact Dd.nil) | (refine Dd.same _ ?_) | (refine Dd.dead _ ?_) | (with_reducible first | apply exQ.mk | apply exP.mk) | (refine EqP.mk rfl rfl) | (with_reducible apply exW.mk) | (refine EqW.mk rfl) | (with_reducible first | intro _ | refine Dn.mk ?_) | (refine exS.full (by first | rfl | (simp; done) | (simp; omega)) ?_) | (refine And.intro (Ob.mk ⟨rfl, rfl, by first | rfl | (simp; done) | (simp; omega)⟩) ?_) | (with_reducible refine exE.mapD ?_) | (refine exL.int ?_) | (with_reducible first | refine Up0.mk rfl ?_ | refine Up0i.mk rfl ?_ | refine Up1.mk rfl ?_ | refine Up1i.mk rfl ?_ | refine Up2.mk rfl ?_ | refine Up2i.mk rfl ?_) | (refine Col.mk rfl rfl rfl ?_) | (refine Coli.mk rfl rfl rfl rfl ?_))
      all_goals (try (exfalso; have h3 : ltI 0 _ = true := (by assumption); rw [ltI_iff] at h3; exact absurd h3 (Int.lt_irrefl _)))
      conv => whnf
      refine LoopVC.mk [9] [] (fun m vals σ => vals = [.t (.int .i64 0)] ∧ σ = [gvar (h), gvar (h)] ∧ m = 0) ?_ ?_
      · conv => whnf
        exact ⟨0, rfl, rfl, rfl⟩
      · rintro m2 vals σ ⟨rfl, rfl, rfl⟩
        repeat' ((conv => whnf); first | (with_reducible first | refine onBool_intro (fun _ => ?_) (fun _ => ?_) | refine And.intro (Ob.mk (Nat.le_of_ble_eq_true rfl)) ?_ | refine And.intro (Ob.mk rfl) ?_ | exact ⟨rfl, rfl⟩ | refine And.intro (Ob.mk (fun h => h)) ?_) | (with_reducible refine Or.inl (And.intro (Ob.mk (Flat.map ?_)) ?_); exact fun _ => rfl) | (refine Or.inl (And.intro (Ob.mk (flat_of rfl)) ?_)) | (refine Or.inl (And.intro (Ob.mk ⟨rfl, rfl, rfl, rfl⟩) ?_)) | (refine Or.inl (And.intro (Ob.mk ⟨rfl, rfl, rfl⟩) ?_)) | (refine And.intro (Ob.mk ⟨rfl, rfl⟩) ?_) | (with_reducible refine Or.inr ?_) | (refine And.intro (Ob.mk (flat_of rfl)) ?_) | (with_reducible refine And.intro (Ob.mk (Flat.map ?_)) ?_; exact fun _ => rfl) | (with_reducible first | exact Ob.mk (Flat.map fun _ => rfl) | refine And.intro ?_ ?_ | apply exG.mk | apply exGS.mk | exact Dd.nil) | (refine Dd.same _ ?_) | (refine Dd.dead _ ?_) | (with_reducible first | apply exQ.mk | apply exP.mk) | (refine EqP.mk rfl rfl) | (with_reducible apply exW.mk) | (refine EqW.mk rfl) | (with_reducible first | intro _ | refine Dn.mk ?_) | (refine exS.full (by first | rfl | (simp; done) | (simp; omega)) ?_) | (refine And.intro (Ob.mk ⟨rfl, rfl, by first | rfl | (simp; done) | (simp; omega)⟩) ?_) | (with_reducible refine exE.mapD ?_) | (refine exL.int ?_) | (with_reducible first | refine Up0.mk rfl ?_ | refine Up0i.mk rfl ?_ | refine Up1.mk rfl ?_ | refine Up1i.mk rfl ?_ | refine Up2.mk rfl ?_ | refine Up2i.mk rfl ?_) | (refine Col.mk rfl rfl rfl ?_) | (refine Coli.mk rfl rfl rfl rfl ?_) | (refine dominators10n _ hg hw hl ?_) | (refine back11n _ hg hw hl ?_) | (refine sameN ?_) | (refine sameEN ?_))
        all_goals (try (exfalso; have h3 : ltI 0 _ = true := (by assumption); rw [ltI_iff] at h3; exact absurd h3 (Int.lt_irrefl _)))
        rfl
  · repeat' ((conv => whnf); first | (with_reducible first | refine onBool_intro (fun _ => ?_) (fun _ => ?_) | refine And.intro (Ob.mk (Nat.le_of_ble_eq_true rfl)) ?_ | refine And.intro (Ob.mk rfl) ?_ | exact ⟨rfl, rfl⟩ | refine And.intro (Ob.mk (fun h => h)) ?_) | (with_reducible refine Or.inl (And.intro (Ob.mk (Flat.map ?_)) ?_); exact fun _ => rfl) | (refine Or.inl (And.intro (Ob.mk (flat_of rfl)) ?_)) | (refine Or.inl (And.intro (Ob.mk ⟨rfl, rfl, rfl, rfl⟩) ?_)) | (refine Or.inl (And.intro (Ob.mk ⟨rfl, rfl, rfl⟩) ?_)) | (refine And.intro (Ob.mk ⟨rfl, rfl⟩) ?_) | (with_reducible refine Or.inr ?_) | (refine And.intro (Ob.mk (flat_of rfl)) ?_) | (with_reducible refine And.intro (Ob.mk (Flat.map ?_)) ?_; exact fun _ => rfl) | (with_reducible first | exact Ob.mk (Flat.map fun _ => rfl) | refine And.intro ?_ ?_ | apply exG.mk | apply exGS.mk | exact Dd.nil) | (refine Dd.same _ ?_) | (refine Dd.dead _ ?_) | (with_reducible first | apply exQ.mk | apply exP.mk) | (refine EqP.mk rfl rfl) | (with_reducible apply exW.mk) | (refine EqW.mk rfl) | (with_reducible first | intro _ | refine Dn.mk ?_) | (refine exS.full (by first | rfl | (simp; done) | (simp; omega)) ?_) | (refine And.intro (Ob.mk ⟨rfl, rfl, by first | rfl | (simp; done) | (simp; omega)⟩) ?_) | (with_reducible refine exE.mapD ?_) | (refine exL.int ?_) | (with_reducible first | refine Up0.mk rfl ?_ | refine Up0i.mk rfl ?_ | refine Up1.mk rfl ?_ | refine Up1i.mk rfl ?_ | refine Up2.mk rfl ?_ | refine Up2i.mk rfl ?_) | (refine Col.mk rfl rfl rfl ?_) | (refine Coli.mk rfl rfl rfl rfl ?_) | (refine exS.are (ys := (g.blocks.take 200).map Block.t) ?_ ?_) | (refine copied9k _ hg ?_) | (refine dominators10n _ hg hw hl ?_) | (refine back11n _ hg hw hl ?_) | (refine dominators12n _ hg hl ?_) | (refine back13n _ hg hl ?_) | (refine reducible17n _ hg hw hl ?_) | (refine reducible18n _ hg hl ?_) | (refine sameN ?_) | (refine sameEN ?_) | (refine PCalls.mono live14 ?_; rintro _ rfl) | (refine drawVC.mkM _ _ 21 21 [] [[], [0], [0, 1], [0, 1, 2], [0, 1, 2], [0, 1, 2, 3, 4], [0, 1, 2, 3, 4, 5], [0, 1, 2, 3, 4, 5, 6], [0, 1, 2, 3, 4, 5, 6, 7], [0, 1, 2, 3, 4, 5, 6, 7, 8], [0, 1, 2, 3, 4, 5, 6, 7, 8], [0, 1, 2, 3, 4, 5, 6, 7, 8, 9, 10], [0, 1, 2, 3, 4, 5, 6, 7, 8, 9, 10, 11], [0, 1, 2, 3, 4, 5, 6, 7, 8, 9, 10, 11, 12], [0, 1, 2, 3, 4, 5, 6, 7, 8, 9, 10, 11, 12, 13], [0, 1, 2, 3, 4, 5, 6, 7, 8, 9, 10, 11, 12, 13, 14], [0, 1, 2, 3, 4, 5, 6, 7, 8, 9, 10, 11, 12, 13, 14, 15], [0, 1, 2, 3, 4, 5, 6, 7, 8, 9, 10, 11, 12, 13, 14], [0, 1, 2, 3, 4, 5, 6, 7, 8, 9, 10, 11, 12, 13, 14, 15, 16, 17], [0, 1, 2, 3, 4, 5, 6, 7, 8, 9, 10, 11, 12, 13, 14, 15, 16, 17, 18], [0, 1, 2, 3, 4, 5, 6, 7, 8, 9, 10, 11, 12, 13, 14, 15, 16, 17, 18, 19]] rfl (by kernel_rfl) ?_))
    all_goals (try (refine Ob.mk ?_; first | assumption | exact ⟨rfl, rfl⟩ | exact ⟨rfl, rfl, rfl⟩ | (refine ⟨rfl, rfl, ?_⟩; simp only [List.length_map, List.length_take, List.length_append, els_len, List.length_replicate]; omega) | (intro h; exact h) | (intro h; rw [h]; rfl) | (intro h; simp_all; done) | (refine bytes_le (n := 1048577) ?_ rfl; simp only [ltI_iff, ltI_not, leI_iff, leI_not, eqI_iff, eqI_not, List.length_map, bif_and, bif_or, Bool.and_eq_true, Bool.and_eq_false_iff, Bool.or_eq_true, Bool.or_eq_false_iff, Bool.not_eq_true', Bool.not_eq_false', Int.toNat_natCast, beq_iff_eq, beq_eq_false_iff_ne, decide_eq_true_eq, decide_eq_false_iff_not, bel_iff, bel_not, wthn_iff, wthn_not, els_len, mixL_len, Nat.zero_add, List.length_set, List.length_take] at *; omega) | (simp only [ltI_iff, ltI_not, leI_iff, leI_not, eqI_iff, eqI_not, List.length_map, bif_and, bif_or, Bool.and_eq_true, Bool.and_eq_false_iff, Bool.or_eq_true, Bool.or_eq_false_iff, Bool.not_eq_true', Bool.not_eq_false', Int.toNat_natCast, beq_iff_eq, beq_eq_false_iff_ne, decide_eq_true_eq, decide_eq_false_iff_not, bel_iff, bel_not, wthn_iff, wthn_not, els_len, mixL_len, Nat.zero_add, List.length_set, List.length_take, Int.ofNat_eq_natCast] at *; omega)))
    all_goals (try (exfalso; have h3 : ltI 200 _ = true := (by assumption); rw [ltI_iff, List.length_map] at h3; omega))
    all_goals (try (exfalso; have h3 : ltI 200 _ = false := (by assumption); rw [ltI_not, List.length_map] at h3; omega))
    all_goals (try (refine Ob.mk ?_; exact List.map_take.symm))
    all_goals (try (exfalso; rename_i h3; simp at h3; done))
    conv => whnf
    refine LoopVC.mk [8] [] (fun m vals σ => vals = [.t (.int .i64 0)] ∧ σ = [gvar (cutG g), gvar (cutG g)] ∧ m = 0) ?_ ?_
    · conv => whnf
      exact ⟨0, rfl, rfl, rfl⟩
    · rintro m vals σ ⟨rfl, rfl, rfl⟩
      repeat' ((conv => whnf); first | (with_reducible first | refine onBool_intro (fun _ => ?_) (fun _ => ?_) | refine And.intro (Ob.mk (Nat.le_of_ble_eq_true rfl)) ?_ | refine And.intro (Ob.mk rfl) ?_ | exact ⟨rfl, rfl⟩ | refine And.intro (Ob.mk (fun h => h)) ?_) | (with_reducible refine Or.inl (And.intro (Ob.mk (Flat.map ?_)) ?_); exact fun _ => rfl) | (refine Or.inl (And.intro (Ob.mk (flat_of rfl)) ?_)) | (refine Or.inl (And.intro (Ob.mk ⟨rfl, rfl, rfl, rfl⟩) ?_)) | (refine Or.inl (And.intro (Ob.mk ⟨rfl, rfl, rfl⟩) ?_)) | (refine And.intro (Ob.mk ⟨rfl, rfl⟩) ?_) | (with_reducible refine Or.inr ?_) | (refine And.intro (Ob.mk (flat_of rfl)) ?_) | (with_reducible refine And.intro (Ob.mk (Flat.map ?_)) ?_; exact fun _ => rfl) | (with_reducible first | exact Ob.mk (Flat.map fun _ => rfl) | refine And.intro ?_ ?_ | apply exG.mk | apply exGS.mk | exact Dd.nil) | (refine Dd.same _ ?_) | (refine Dd.dead _ ?_) | (with_reducible first | apply exQ.mk | apply exP.mk) | (refine EqP.mk rfl rfl) | (with_reducible apply exW.mk) | (refine EqW.mk rfl) | (with_reducible first | intro _ | refine Dn.mk ?_) | (refine exS.full (by first | rfl | (simp; done) | (simp; omega)) ?_) | (refine And.intro (Ob.mk ⟨rfl, rfl, by first | rfl | (simp; done) | (simp; omega)⟩) ?_) | (with_reducible refine exE.mapD ?_) | (refine exL.int ?_) | (with_reducible first | refine Up0.mk rfl ?_ | refine Up0i.mk rfl ?_ | refine Up1.mk rfl ?_ | refine Up1i.mk rfl ?_ | refine Up2.mk rfl ?_ | refine Up2i.mk rfl ?_) | (refine Col.mk rfl rfl rfl ?_) | (refine Coli.mk rfl rfl rfl rfl ?_))
      all_goals (try (exfalso; have h3 : ltI 0 _ = true := (by assumption); rw [ltI_iff] at h3; exact absurd h3 (Int.lt_irrefl _)))
      conv => whnf
      refine LoopVC.mk [9] [] (fun m vals σ => vals = [.t (.int .i64 0)] ∧ σ = [gvar (cutG g), gvar (cutG g)] ∧ m = 0) ?_ ?_
      · conv => whnf
        exact ⟨0, rfl, rfl, rfl⟩
      · rintro m2 vals σ ⟨rfl, rfl, rfl⟩
        repeat' ((conv => whnf); first | (with_reducible first | refine onBool_intro (fun _ => ?_) (fun _ => ?_) | refine And.intro (Ob.mk (Nat.le_of_ble_eq_true rfl)) ?_ | refine And.intro (Ob.mk rfl) ?_ | exact ⟨rfl, rfl⟩ | refine And.intro (Ob.mk (fun h => h)) ?_) | (with_reducible refine Or.inl (And.intro (Ob.mk (Flat.map ?_)) ?_); exact fun _ => rfl) | (refine Or.inl (And.intro (Ob.mk (flat_of rfl)) ?_)) | (refine Or.inl (And.intro (Ob.mk ⟨rfl, rfl, rfl, rfl⟩) ?_)) | (refine Or.inl (And.intro (Ob.mk ⟨rfl, rfl, rfl⟩) ?_)) | (refine And.intro (Ob.mk ⟨rfl, rfl⟩) ?_) | (with_reducible refine Or.inr ?_) | (refine And.intro (Ob.mk (flat_of rfl)) ?_) | (with_reducible refine And.intro (Ob.mk (Flat.map ?_)) ?_; exact fun _ => rfl) | (with_reducible first | exact Ob.mk (Flat.map fun _ => rfl) | refine And.intro ?_ ?_ | apply exG.mk | apply exGS.mk | exact Dd.nil) | (refine Dd.same _ ?_) | (refine Dd.dead _ ?_) | (with_reducible first | apply exQ.mk | apply exP.mk) | (refine EqP.mk rfl rfl) | (with_reducible apply exW.mk) | (refine EqW.mk rfl) | (with_reducible first | intro _ | refine Dn.mk ?_) | (refine exS.full (by first | rfl | (simp; done) | (simp; omega)) ?_) | (refine And.intro (Ob.mk ⟨rfl, rfl, by first | rfl | (simp; done) | (simp; omega)⟩) ?_) | (with_reducible refine exE.mapD ?_) | (refine exL.int ?_) | (with_reducible first | refine Up0.mk rfl ?_ | refine Up0i.mk rfl ?_ | refine Up1.mk rfl ?_ | refine Up1i.mk rfl ?_ | refine Up2.mk rfl ?_ | refine Up2i.mk rfl ?_) | (refine Col.mk rfl rfl rfl ?_) | (refine Coli.mk rfl rfl rfl rfl ?_) | (refine dominators10n _ hg hw hl ?_) | (refine back11n _ hg hw hl ?_) | (refine sameN ?_) | (refine sameEN ?_))
        all_goals (try (exfalso; have h3 : ltI 0 _ = true := (by assumption); rw [ltI_iff] at h3; exact absurd h3 (Int.lt_irrefl _)))
        rfl
theorem cut_tiny {g : Graph} (hg : g.tiny) : (cutG g).tiny := ⟨hg.params, hg.arrays, Nat.le_trans (by rw [List.length_take]; omega) hg.blocks, fun b hb => hg.all b (List.mem_of_mem_take hb)⟩
theorem law3 (g : Graph) (hg : g.tiny) (hw : ∀ b ∈ g.blocks, ∀ x ∈ allN b.fin, I64 x) : PCalls Try.prog 3 [g.t] (fun r => r = .bool true) := by
  rcases Nat.lt_or_ge 200 g.blocks.length with h | h
  · rcases Classical.em (cutG g).leads with h1 | h1
    · exact law3lead g (cutG g) (cut_tiny hg) (fun b hb => hw b (List.mem_of_mem_take hb)) h1 (.inr ⟨h, rfl⟩)
    · exact law3not g (cutG g) (cut_tiny hg) (fun b hb => hw b (List.mem_of_mem_take hb)) h1 (.inr ⟨h, rfl⟩)
  · rcases Classical.em g.leads with h1 | h1
    · exact law3lead g g hg hw h1 (.inl ⟨h, rfl⟩)
    · exact law3not g g hg hw h1 (.inl ⟨h, rfl⟩)
end Go.Proofs.Ytgladinljapmkaa.Am
