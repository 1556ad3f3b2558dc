/- Loops: LoopsMore. -/
import Derived.Test.YtgladinljapmkaaXS
/- Loops: graphs that walk, made of any lists. -/
namespace Go.Proofs.Ytgladinljapmkaa.Am
open Go Go.Proofs
set_option maxRecDepth 10000
set_option maxHeartbeats 2000000
set_option linter.unusedVariables false
set_option linter.unusedSimpArgs false
def pickN (c n : Int) : Int := (if c < 0 then -(c + 1) else c) % n
theorem pickN_rng {c n : Int} (h : 0 < n) : 0 ≤ pickN c n ∧ pickN c n < n := ⟨Int.emod_nonneg _ (by omega), Int.emod_lt_of_pos _ h⟩
theorem i64_rng {x : Int} (h : I64 x) : -9223372036854775808 ≤ x ∧ x ≤ 9223372036854775807 := by
  unfold I64 Lit.wf at h
  simp [IntKind.min, IntKind.max, IntKind.signed, IntKind.bits] at h
  omega
theorem pick22 (c n : Int) (hc : I64 c) (hn : 0 < n) : PCalls Try.prog 22 [.int .i64 c, .int .i64 n] (fun r => r = .int .i64 (pickN c n)) := by
  have := i64_rng hc
  refine PCalls.of_body ttOk Try.func22 rfl ?_
  repeat' ((conv => whnf); first | (with_reducible first | refine onBool_intro (fun _ => ?_) (fun _ => ?_) | refine And.intro (Ob.mk (Nat.le_of_ble_eq_true rfl)) ?_ | refine And.intro (Ob.mk rfl) ?_ | exact ⟨rfl, rfl⟩ | refine And.intro (Ob.mk (fun h => h)) ?_) | (with_reducible refine Or.inl (And.intro (Ob.mk (Flat.map ?_)) ?_); exact fun _ => rfl) | (refine Or.inl (And.intro (Ob.mk (flat_of rfl)) ?_)) | (refine Or.inl (And.intro (Ob.mk ⟨rfl, rfl, rfl, rfl⟩) ?_)) | (refine Or.inl (And.intro (Ob.mk ⟨rfl, rfl, rfl⟩) ?_)) | (refine And.intro (Ob.mk ⟨rfl, rfl⟩) ?_) | (with_reducible refine Or.inr ?_) | (refine And.intro (Ob.mk (flat_of rfl)) ?_) | (with_reducible refine And.intro (Ob.mk (Flat.map ?_)) ?_; exact fun _ => rfl) | (with_reducible first | exact Ob.mk (Flat.map fun _ => rfl) | refine And.intro ?_ ?_ | apply exG.mk | apply exGS.mk | exact Dd.nil) | (refine Dd.same _ ?_) | (refine Dd.dead _ ?_) | (with_reducible first | apply exQ.mk | apply exP.mk) | (refine EqP.mk rfl rfl) | (with_reducible apply exW.mk) | (refine EqW.mk rfl) | (with_reducible first | intro _ | refine Dn.mk ?_) | (refine exS.full (by first | rfl | (simp; done) | (simp; omega)) ?_) | (refine And.intro (Ob.mk ⟨rfl, rfl, by first | rfl | (simp; done) | (simp; omega)⟩) ?_) | (with_reducible refine exE.mapD ?_) | (refine exL.int ?_) | (with_reducible first | refine Up0.mk rfl ?_ | refine Up0i.mk rfl ?_ | refine Up1.mk rfl ?_ | refine Up1i.mk rfl ?_ | refine Up2.mk rfl ?_ | refine Up2i.mk rfl ?_) | (refine Col.mk rfl rfl rfl ?_) | (refine Coli.mk rfl rfl rfl rfl ?_))
  all_goals (try (refine Ob.mk ?_; first | assumption | exact ⟨rfl, rfl⟩ | exact ⟨rfl, rfl, rfl⟩ | (refine ⟨rfl, rfl, ?_⟩; simp only [List.length_map, List.length_take, List.length_append, els_len, List.length_replicate]; omega) | (intro h; exact h) | (intro h; rw [h]; rfl) | (intro h; simp_all; done) | (refine bytes_le (n := 1048577) ?_ rfl; simp only [ltI_iff, ltI_not, leI_iff, leI_not, eqI_iff, eqI_not, List.length_map, bif_and, bif_or, Bool.and_eq_true, Bool.and_eq_false_iff, Bool.or_eq_true, Bool.or_eq_false_iff, Bool.not_eq_true', Bool.not_eq_false', Int.toNat_natCast, beq_iff_eq, beq_eq_false_iff_ne, decide_eq_true_eq, decide_eq_false_iff_not, bel_iff, bel_not, wthn_iff, wthn_not, els_len, mixL_len, Nat.zero_add, List.length_set, List.length_take] at *; omega) | (simp only [ltI_iff, ltI_not, leI_iff, leI_not, eqI_iff, eqI_not, List.length_map, bif_and, bif_or, Bool.and_eq_true, Bool.and_eq_false_iff, Bool.or_eq_true, Bool.or_eq_false_iff, Bool.not_eq_true', Bool.not_eq_false', Int.toNat_natCast, beq_iff_eq, beq_eq_false_iff_ne, decide_eq_true_eq, decide_eq_false_iff_not, bel_iff, bel_not, wthn_iff, wthn_not, els_len, mixL_len, Nat.zero_add, List.length_set, List.length_take, Int.ofNat_eq_natCast] at *; omega)))
  all_goals (try (refine Ob.mk ?_; omega))
  · rename_i h
    rw [ltI_iff] at h
    show T.int .i64 _ = _
    congr 1
    unfold pickN
    rw [if_pos h, addI_i64 (by omega) (by omega), subI_i64 (by omega) (by omega)]
    unfold remI
    rw [Int.tmod_eq_emod_of_nonneg (by omega)]
    congr 1; omega
  · rename_i h
    rw [ltI_not] at h
    show T.int .i64 _ = _
    congr 1
    unfold pickN
    rw [if_neg (by omega)]
    unfold remI
    rw [Int.tmod_eq_emod_of_nonneg h]
theorem pick22k (c n : Int) (h : Ob (I64 c ∧ 0 < n)) {q : T → Prop} (hq : q (.int .i64 (pickN c n))) : PCalls Try.prog 22 [.int .i64 c, .int .i64 n] q :=
  PCalls.mono (pick22 c n h.out.1 h.out.2) fun _ h => h ▸ hq
def walkR (raw : List (List Int)) : List (List Int) := raw.map fun l => (l.take 9).map fun c => pickN c raw.length
def walkL (raw : List (List Int)) : List (List Int) := if (raw.take 200).length = 0 then [[0]] else walkR (raw.take 200)
abbrev nstC (l : List Int) : T := .nst 3 1 (l.map fun n => .int .i64 n)
theorem lead31w (L : List (List Int)) (hl : L.length ≤ 20000) (hr : ∀ l ∈ L, l.length ≤ 2 ^ 20) {q : T → Prop} (hq : q (leadG L).t) : PCalls Try.prog 31 [.sl 1 (L.map nstC)] q :=
  PCalls.argsL (.cons (Le.slmap (f := nstC) (g := ilist) (fun l => .cons (nst_le _ _ _) .nil) fun _ => rfl) .nil) (PCalls.mono (lead31 L hl hr) fun _ h => h ▸ hq)
theorem lead31z (xs : List T) (h : Ob (xs = [])) {q : T → Prop} (hq : q (leadG [[0]]).t) : PCalls Try.prog 31 [.sl 1 (xs ++ [.nst 3 1 [.int .i64 0]])] q := by
  rw [h.out]
  exact lead31w [[0]] (by simp) (by simp) hq
theorem walkR_len {raw : List (List Int)} : ∀ l ∈ walkR raw, l.length ≤ 2 ^ 20 := fun l hl => by
  obtain ⟨x, _, rfl⟩ := List.mem_map.1 hl
  rw [List.length_map, List.length_take]; omega
theorem walkR_at {raw : List (List Int)} {b : Nat} (hb : b < raw.length) : nthD (walkR raw) b = ((nthD raw b).take 9).map fun c => pickN c raw.length := by
  unfold walkR
  rw [nthD_get (by rw [List.length_map]; exact hb), List.getElem_map, nthD_get hb]
theorem walks19 (raw : List (List Int)) (hw : ∀ l ∈ raw, ∀ x ∈ l, I64 x) (hn : raw.length ≤ 2 ^ 20) (hr : ∀ l ∈ raw, l.length ≤ 2 ^ 20) : PCalls Try.prog 19 [listsL raw] (fun r => r = (leadG (walkL raw)).t) := by
  refine PCalls.of_body ttOk Try.func19 rfl ?_
  rcases Nat.lt_or_ge 200 raw.length with hc | hc
  · repeat' ((conv => whnf); first | (with_reducible first | refine onBool_intro (fun _ => ?_) (fun _ => ?_) | refine And.intro (Ob.mk (Nat.le_of_ble_eq_true rfl)) ?_ | refine And.intro (Ob.mk rfl) ?_ | exact ⟨rfl, rfl⟩ | refine And.intro (Ob.mk (fun h => h)) ?_) | (with_reducible refine Or.inl (And.intro (Ob.mk (Flat.map ?_)) ?_); exact fun _ => rfl) | (refine Or.inl (And.intro (Ob.mk (flat_of rfl)) ?_)) | (refine Or.inl (And.intro (Ob.mk ⟨rfl, rfl, rfl, rfl⟩) ?_)) | (refine Or.inl (And.intro (Ob.mk ⟨rfl, rfl, rfl⟩) ?_)) | (refine And.intro (Ob.mk ⟨rfl, rfl⟩) ?_) | (with_reducible refine Or.inr ?_) | (refine And.intro (Ob.mk (flat_of rfl)) ?_) | (with_reducible refine And.intro (Ob.mk (Flat.map ?_)) ?_; exact fun _ => rfl) | (with_reducible first | exact Ob.mk (Flat.map fun _ => rfl) | refine And.intro ?_ ?_ | apply exG.mk | apply exGS.mk | exact Dd.nil) | (refine Dd.same _ ?_) | (refine Dd.dead _ ?_) | (with_reducible first | apply exQ.mk | apply exP.mk) | (refine EqP.mk rfl rfl) | (with_reducible apply exW.mk) | (refine EqW.mk rfl) | (with_reducible first | intro _ | refine Dn.mk ?_) | (refine exS.full (by first | rfl | (simp; done) | (simp; omega)) ?_) | (refine And.intro (Ob.mk ⟨rfl, rfl, by first | rfl | (simp; done) | (simp; omega)⟩) ?_) | (with_reducible refine exE.mapD ?_) | (refine exL.int ?_) | (with_reducible first | refine Up0.mk rfl ?_ | refine Up0i.mk rfl ?_ | refine Up1.mk rfl ?_ | refine Up1i.mk rfl ?_ | refine Up2.mk rfl ?_ | refine Up2i.mk rfl ?_) | (refine Col.mk rfl rfl rfl ?_) | (refine Coli.mk rfl rfl rfl rfl ?_) | (refine exS.are (ys := (raw.take 200).map ilist) ?_ ?_))
    all_goals (try (refine Ob.mk ?_; first | assumption | exact ⟨rfl, rfl⟩ | exact ⟨rfl, rfl, rfl⟩ | (refine ⟨rfl, rfl, ?_⟩; simp only [List.length_map, List.length_take, List.length_append, els_len, List.length_replicate]; omega) | (intro h; exact h) | (intro h; rw [h]; rfl) | (intro h; simp_all; done) | (refine bytes_le (n := 1048577) ?_ rfl; simp only [ltI_iff, ltI_not, leI_iff, leI_not, eqI_iff, eqI_not, List.length_map, bif_and, bif_or, Bool.and_eq_true, Bool.and_eq_false_iff, Bool.or_eq_true, Bool.or_eq_false_iff, Bool.not_eq_true', Bool.not_eq_false', Int.toNat_natCast, beq_iff_eq, beq_eq_false_iff_ne, decide_eq_true_eq, decide_eq_false_iff_not, bel_iff, bel_not, wthn_iff, wthn_not, els_len, mixL_len, Nat.zero_add, List.length_set, List.length_take] at *; omega) | (simp only [ltI_iff, ltI_not, leI_iff, leI_not, eqI_iff, eqI_not, List.length_map, bif_and, bif_or, Bool.and_eq_true, Bool.and_eq_false_iff, Bool.or_eq_true, Bool.or_eq_false_iff, Bool.not_eq_true', Bool.not_eq_false', Int.toNat_natCast, beq_iff_eq, beq_eq_false_iff_ne, decide_eq_true_eq, decide_eq_false_iff_not, bel_iff, bel_not, wthn_iff, wthn_not, els_len, mixL_len, Nat.zero_add, List.length_set, List.length_take, Int.ofNat_eq_natCast] at *; omega)))
    all_goals (try (exfalso; have h3 : ltI 200 _ = true := (by assumption); rw [ltI_iff, List.length_map] at h3; omega))
    all_goals (try (exfalso; have h3 : ltI 200 _ = false := (by assumption); rw [ltI_not, List.length_map] at h3; omega))
    all_goals (try (refine Ob.mk ?_; exact List.map_take.symm))
    conv => whnf
    have hRl : (raw.take 200).length ≤ 200 := by rw [List.length_take]; omega
    have hRr : ∀ l ∈ raw.take 200, l.length ≤ 2 ^ 20 := fun l hl => hr l (List.mem_of_mem_take hl)
    have hRw : ∀ l ∈ raw.take 200, ∀ x ∈ l, I64 x := fun l hl => hw l (List.mem_of_mem_take hl)
    have hWl : (walkR (raw.take 200)).length = (raw.take 200).length := by unfold walkR; simp
    refine LoopVC.mk [4, 3] [(3, 22, 1)] (fun m vals σ => ∃ b : Nat, vals = [.t (.int .i64 b), .osl 1 0 ((walkR (raw.take 200)).take b).length] ∧ σ = [gzero, .row 22 1 (((walkR (raw.take 200)).take b).map nstC)] ∧ b ≤ (raw.take 200).length ∧ m = (raw.take 200).length - b) ?_ ?_
    · conv => whnf
      exact ⟨_, 0, rfl, rfl, Nat.zero_le _, rfl⟩
    · rintro m vals σ ⟨b, rfl, rfl, hb, rfl⟩
      have hlt : ltI (b : Int) ((((raw.take 200).map ilist).length : Nat) : Int) = true → b < (raw.take 200).length := fun h => by
        rw [ltI_iff, List.length_map] at h; omega
      repeat' ((conv => whnf); first | (with_reducible first | refine onBool_intro (fun _ => ?_) (fun _ => ?_) | refine And.intro (Ob.mk (Nat.le_of_ble_eq_true rfl)) ?_ | refine And.intro (Ob.mk rfl) ?_ | exact ⟨rfl, rfl⟩ | refine And.intro (Ob.mk (fun h => h)) ?_) | (with_reducible refine Or.inl (And.intro (Ob.mk (Flat.map ?_)) ?_); exact fun _ => rfl) | (refine Or.inl (And.intro (Ob.mk (flat_of rfl)) ?_)) | (refine Or.inl (And.intro (Ob.mk ⟨rfl, rfl, rfl, rfl⟩) ?_)) | (refine Or.inl (And.intro (Ob.mk ⟨rfl, rfl, rfl⟩) ?_)) | (refine And.intro (Ob.mk ⟨rfl, rfl⟩) ?_) | (with_reducible refine Or.inr ?_) | (refine And.intro (Ob.mk (flat_of rfl)) ?_) | (with_reducible refine And.intro (Ob.mk (Flat.map ?_)) ?_; exact fun _ => rfl) | (with_reducible first | exact Ob.mk (Flat.map fun _ => rfl) | refine And.intro ?_ ?_ | apply exG.mk | apply exGS.mk | exact Dd.nil) | (refine Dd.same _ ?_) | (refine Dd.dead _ ?_) | (with_reducible first | apply exQ.mk | apply exP.mk) | (refine EqP.mk rfl rfl) | (with_reducible apply exW.mk) | (refine EqW.mk rfl) | (with_reducible first | intro _ | refine Dn.mk ?_) | (refine exS.full (by first | rfl | (simp; done) | (simp; omega)) ?_) | (refine And.intro (Ob.mk ⟨rfl, rfl, by first | rfl | (simp; done) | (simp; omega)⟩) ?_) | (with_reducible refine exE.mapD ?_) | (refine exL.int ?_) | (with_reducible first | refine Up0.mk rfl ?_ | refine Up0i.mk rfl ?_ | refine Up1.mk rfl ?_ | refine Up1i.mk rfl ?_ | refine Up2.mk rfl ?_ | refine Up2i.mk rfl ?_) | (refine Col.mk rfl rfl rfl ?_) | (refine Coli.mk rfl rfl rfl rfl ?_) | (refine lead31w ((walkR (raw.take 200)).take b) (by rw [List.length_take]; omega) (fun l hl => walkR_len l (List.mem_of_mem_take hl)) ?_) | (refine lead31z _ ?_ ?_))
      all_goals (try (refine Ob.mk ?_; first | assumption | exact ⟨rfl, rfl⟩ | exact ⟨rfl, rfl, rfl⟩ | (refine ⟨rfl, rfl, ?_⟩; simp only [List.length_map, List.length_take, List.length_append, els_len, List.length_replicate]; omega) | (intro h; exact h) | (intro h; rw [h]; rfl) | (intro h; simp_all; done) | (refine bytes_le (n := 1048577) ?_ rfl; simp only [ltI_iff, ltI_not, leI_iff, leI_not, eqI_iff, eqI_not, List.length_map, bif_and, bif_or, Bool.and_eq_true, Bool.and_eq_false_iff, Bool.or_eq_true, Bool.or_eq_false_iff, Bool.not_eq_true', Bool.not_eq_false', Int.toNat_natCast, beq_iff_eq, beq_eq_false_iff_ne, decide_eq_true_eq, decide_eq_false_iff_not, bel_iff, bel_not, wthn_iff, wthn_not, els_len, mixL_len, Nat.zero_add, List.length_set, List.length_take] at *; omega) | (simp only [ltI_iff, ltI_not, leI_iff, leI_not, eqI_iff, eqI_not, List.length_map, bif_and, bif_or, Bool.and_eq_true, Bool.and_eq_false_iff, Bool.or_eq_true, Bool.or_eq_false_iff, Bool.not_eq_true', Bool.not_eq_false', Int.toNat_natCast, beq_iff_eq, beq_eq_false_iff_ne, decide_eq_true_eq, decide_eq_false_iff_not, bel_iff, bel_not, wthn_iff, wthn_not, els_len, mixL_len, Nat.zero_add, List.length_set, List.length_take, Int.ofNat_eq_natCast] at *; omega)))
      · have hb2 := hlt (by assumption)
        have hbr := hRr _ (nthD_mem hb2)
        have hat := walkR_at hb2
        conv => whnf
        refine LoopVC.mk [6, 5] [(5, 3, 1)] (fun m vals σ => ∃ k : Nat, vals = [.t (.int .i64 k), .osl 2 0 ((nthD (walkR (raw.take 200)) b).take k).length] ∧ σ = [gzero, .row 22 1 (((walkR (raw.take 200)).take b).map nstC), .row 3 1 (((nthD (walkR (raw.take 200)) b).take k).map fun n => .int .i64 n)] ∧ k ≤ (nthD (raw.take 200) b).length ∧ k ≤ 9 ∧ m = 9 - k) ?_ ?_
        · conv => whnf
          exact ⟨_, 0, rfl, rfl, Nat.zero_le _, Nat.zero_le _, rfl⟩
        · rintro m2 vals σ ⟨k, rfl, rfl, hk, hk9, rfl⟩
          have hyes : (bif ltI (k : Int) ((((nthD (raw.take 200) ((b : Int)).toNat).map fun n => T.int .i64 n).length : Nat) : Int) then ltI (k : Int) 9 else false) = true → k < (nthD (raw.take 200) b).length ∧ k < 9 := fun h => by
            rw [List.length_map, Int.toNat_natCast] at h
            cases h3 : ltI (k : Int) ((nthD (raw.take 200) b).length : Nat) with
            | false => rw [h3] at h; cases h
            | true =>
              rw [h3] at h
              have h : ltI (k : Int) 9 = true := h
              rw [ltI_iff] at h h3
              omega
          have hno : (bif ltI (k : Int) ((((nthD (raw.take 200) ((b : Int)).toNat).map fun n => T.int .i64 n).length : Nat) : Int) then ltI (k : Int) 9 else false) = false → k = (nthD (raw.take 200) b).length ∨ k = 9 := fun h => by
            rw [List.length_map, Int.toNat_natCast] at h
            cases h3 : ltI (k : Int) ((nthD (raw.take 200) b).length : Nat) with
            | false => rw [ltI_not] at h3; omega
            | true =>
              rw [h3] at h
              have h : ltI (k : Int) 9 = false := h
              rw [ltI_not] at h
              omega
          repeat' ((conv => whnf); first | (with_reducible first | refine onBool_intro (fun _ => ?_) (fun _ => ?_) | refine And.intro (Ob.mk (Nat.le_of_ble_eq_true rfl)) ?_ | refine And.intro (Ob.mk rfl) ?_ | exact ⟨rfl, rfl⟩ | refine And.intro (Ob.mk (fun h => h)) ?_) | (with_reducible refine Or.inl (And.intro (Ob.mk (Flat.map ?_)) ?_); exact fun _ => rfl) | (refine Or.inl (And.intro (Ob.mk (flat_of rfl)) ?_)) | (refine Or.inl (And.intro (Ob.mk ⟨rfl, rfl, rfl, rfl⟩) ?_)) | (refine Or.inl (And.intro (Ob.mk ⟨rfl, rfl, rfl⟩) ?_)) | (refine And.intro (Ob.mk ⟨rfl, rfl⟩) ?_) | (with_reducible refine Or.inr ?_) | (refine And.intro (Ob.mk (flat_of rfl)) ?_) | (with_reducible refine And.intro (Ob.mk (Flat.map ?_)) ?_; exact fun _ => rfl) | (with_reducible first | exact Ob.mk (Flat.map fun _ => rfl) | refine And.intro ?_ ?_ | apply exG.mk | apply exGS.mk | exact Dd.nil) | (refine Dd.same _ ?_) | (refine Dd.dead _ ?_) | (with_reducible first | apply exQ.mk | apply exP.mk) | (refine EqP.mk rfl rfl) | (with_reducible apply exW.mk) | (refine EqW.mk rfl) | (with_reducible first | intro _ | refine Dn.mk ?_) | (refine exS.full (by first | rfl | (simp; done) | (simp; omega)) ?_) | (refine And.intro (Ob.mk ⟨rfl, rfl, by first | rfl | (simp; done) | (simp; omega)⟩) ?_) | (with_reducible refine exE.mapD ?_) | (refine exL.int ?_) | (with_reducible first | refine Up0.mk rfl ?_ | refine Up0i.mk rfl ?_ | refine Up1.mk rfl ?_ | refine Up1i.mk rfl ?_ | refine Up2.mk rfl ?_ | refine Up2i.mk rfl ?_) | (refine Col.mk rfl rfl rfl ?_) | (refine Coli.mk rfl rfl rfl rfl ?_) | (refine pick22k _ _ ?_ ?_))
          all_goals (try (refine Ob.mk ?_; first | assumption | exact ⟨rfl, rfl⟩ | exact ⟨rfl, rfl, rfl⟩ | (refine ⟨rfl, rfl, ?_⟩; simp only [List.length_map, List.length_take, List.length_append, els_len, List.length_replicate]; omega) | (intro h; exact h) | (intro h; rw [h]; rfl) | (intro h; simp_all; done) | (refine bytes_le (n := 1048577) ?_ rfl; simp only [ltI_iff, ltI_not, leI_iff, leI_not, eqI_iff, eqI_not, List.length_map, bif_and, bif_or, Bool.and_eq_true, Bool.and_eq_false_iff, Bool.or_eq_true, Bool.or_eq_false_iff, Bool.not_eq_true', Bool.not_eq_false', Int.toNat_natCast, beq_iff_eq, beq_eq_false_iff_ne, decide_eq_true_eq, decide_eq_false_iff_not, bel_iff, bel_not, wthn_iff, wthn_not, els_len, mixL_len, Nat.zero_add, List.length_set, List.length_take] at *; omega) | (simp only [ltI_iff, ltI_not, leI_iff, leI_not, eqI_iff, eqI_not, List.length_map, bif_and, bif_or, Bool.and_eq_true, Bool.and_eq_false_iff, Bool.or_eq_true, Bool.or_eq_false_iff, Bool.not_eq_true', Bool.not_eq_false', Int.toNat_natCast, beq_iff_eq, beq_eq_false_iff_ne, decide_eq_true_eq, decide_eq_false_iff_not, bel_iff, bel_not, wthn_iff, wthn_not, els_len, mixL_len, Nat.zero_add, List.length_set, List.length_take, Int.ofNat_eq_natCast] at *; omega)))
          all_goals (try have hkk := hyes (by assumption))
          all_goals (try (refine Ob.mk ?_; rw [List.length_map, Int.toNat_natCast]; omega))
          · refine Ob.mk ⟨?_, ?_⟩
            · rw [Int.toNat_natCast, Int.toNat_natCast]
              exact hRw _ (nthD_mem hb2) _ (nthD_mem hkk.1)
            · rw [List.length_map]; omega
          · conv => whnf
            have et : (nthD (walkR (raw.take 200)) b).take (k + 1) = (nthD (walkR (raw.take 200)) b).take k ++ [pickN (nthD (nthD (raw.take 200) b) k) (raw.take 200).length] := by
              have hkl : k < (nthD (walkR (raw.take 200)) b).length := by rw [hat, List.length_map, List.length_take]; omega
              rw [take_succN hkl]
              congr 1
              rw [nthD_get hkl]
              simp only [hat, List.getElem_map, List.getElem_take]
              rw [nthD_get hkk.1]
            refine ⟨9 - (k + 1), by omega, k + 1, ?_, ?_, by omega, by omega, rfl⟩
            · have eL : ((nthD (walkR (raw.take 200)) b).take k ++ [pickN (nthD (nthD (raw.take 200) b) k) (raw.take 200).length]).length = ((nthD (walkR (raw.take 200)) b).take k).length + 1 := by rw [List.length_append]; rfl
              rw [addI_i64 (by omega) (by omega), et, eL]; rfl
            · rw [et, List.map_append, List.length_map, Int.toNat_natCast, Int.toNat_natCast]; rfl
          · exact Ob.mk ⟨rfl, rfl, (List.length_map ..).symm⟩
          · conv => whnf
            have hkn := hno (by assumption)
            have ef : (nthD (walkR (raw.take 200)) b).take k = nthD (walkR (raw.take 200)) b := by
              rw [List.take_of_length_le]
              rw [hat, List.length_map, List.length_take]; omega
            have eb : (walkR (raw.take 200)).take (b + 1) = (walkR (raw.take 200)).take b ++ [nthD (walkR (raw.take 200)) b] := take_succD (by rw [hWl]; exact hb2)
            refine ⟨(raw.take 200).length - (b + 1), by omega, b + 1, ?_, ?_, hb2, rfl⟩
            · have eL : ((walkR (raw.take 200)).take b ++ [nthD (walkR (raw.take 200)) b]).length = ((walkR (raw.take 200)).take b).length + 1 := by rw [List.length_append]; rfl
              rw [addI_i64 (by omega) (by omega), eb, eL]; rfl
            · rw [ef, eb, List.map_append]; rfl
      · have hb2 : b = (raw.take 200).length := by
          have h3 : ltI (b : Int) ((((raw.take 200).map ilist).length : Nat) : Int) = false := by assumption
          rw [ltI_not, List.length_map] at h3; omega
        have h3 : eqI ((((walkR (raw.take 200)).take b).length : Nat) : Int) 0 = true := by assumption
        rw [eqI_iff, List.length_take, hWl] at h3
        have e : walkL raw = [[0]] := by
          unfold walkL
          rw [if_pos]
          omega
        rw [e]; rfl
      · have hb2 : b = (raw.take 200).length := by
          have h3 : ltI (b : Int) ((((raw.take 200).map ilist).length : Nat) : Int) = false := by assumption
          rw [ltI_not, List.length_map] at h3; omega
        have h3 : eqI ((((walkR (raw.take 200)).take b).length : Nat) : Int) 0 = false := by assumption
        rw [eqI_not, List.length_take, hWl] at h3
        have e : walkL raw = (walkR (raw.take 200)).take b := by
          rw [hb2, ← hWl, List.take_length]
          unfold walkL
          rw [if_neg (by omega)]
        rw [e]; rfl
  · repeat' ((conv => whnf); first | (with_reducible first | refine onBool_intro (fun _ => ?_) (fun _ => ?_) | refine And.intro (Ob.mk (Nat.le_of_ble_eq_true rfl)) ?_ | refine And.intro (Ob.mk rfl) ?_ | exact ⟨rfl, rfl⟩ | refine And.intro (Ob.mk (fun h => h)) ?_) | (with_reducible refine Or.inl (And.intro (Ob.mk (Flat.map ?_)) ?_); exact fun _ => rfl) | (refine Or.inl (And.intro (Ob.mk (flat_of rfl)) ?_)) | (refine Or.inl (And.intro (Ob.mk ⟨rfl, rfl, rfl, rfl⟩) ?_)) | (refine Or.inl (And.intro (Ob.mk ⟨rfl, rfl, rfl⟩) ?_)) | (refine And.intro (Ob.mk ⟨rfl, rfl⟩) ?_) | (with_reducible refine Or.inr ?_) | (refine And.intro (Ob.mk (flat_of rfl)) ?_) | (with_reducible refine And.intro (Ob.mk (Flat.map ?_)) ?_; exact fun _ => rfl) | (with_reducible first | exact Ob.mk (Flat.map fun _ => rfl) | refine And.intro ?_ ?_ | apply exG.mk | apply exGS.mk | exact Dd.nil) | (refine Dd.same _ ?_) | (refine Dd.dead _ ?_) | (with_reducible first | apply exQ.mk | apply exP.mk) | (refine EqP.mk rfl rfl) | (with_reducible apply exW.mk) | (refine EqW.mk rfl) | (with_reducible first | intro _ | refine Dn.mk ?_) | (refine exS.full (by first | rfl | (simp; done) | (simp; omega)) ?_) | (refine And.intro (Ob.mk ⟨rfl, rfl, by first | rfl | (simp; done) | (simp; omega)⟩) ?_) | (with_reducible refine exE.mapD ?_) | (refine exL.int ?_) | (with_reducible first | refine Up0.mk rfl ?_ | refine Up0i.mk rfl ?_ | refine Up1.mk rfl ?_ | refine Up1i.mk rfl ?_ | refine Up2.mk rfl ?_ | refine Up2i.mk rfl ?_) | (refine Col.mk rfl rfl rfl ?_) | (refine Coli.mk rfl rfl rfl rfl ?_) | (refine exS.are (ys := (raw.take 200).map ilist) ?_ ?_))
    all_goals (try (refine Ob.mk ?_; first | assumption | exact ⟨rfl, rfl⟩ | exact ⟨rfl, rfl, rfl⟩ | (refine ⟨rfl, rfl, ?_⟩; simp only [List.length_map, List.length_take, List.length_append, els_len, List.length_replicate]; omega) | (intro h; exact h) | (intro h; rw [h]; rfl) | (intro h; simp_all; done) | (refine bytes_le (n := 1048577) ?_ rfl; simp only [ltI_iff, ltI_not, leI_iff, leI_not, eqI_iff, eqI_not, List.length_map, bif_and, bif_or, Bool.and_eq_true, Bool.and_eq_false_iff, Bool.or_eq_true, Bool.or_eq_false_iff, Bool.not_eq_true', Bool.not_eq_false', Int.toNat_natCast, beq_iff_eq, beq_eq_false_iff_ne, decide_eq_true_eq, decide_eq_false_iff_not, bel_iff, bel_not, wthn_iff, wthn_not, els_len, mixL_len, Nat.zero_add, List.length_set, List.length_take] at *; omega) | (simp only [ltI_iff, ltI_not, leI_iff, leI_not, eqI_iff, eqI_not, List.length_map, bif_and, bif_or, Bool.and_eq_true, Bool.and_eq_false_iff, Bool.or_eq_true, Bool.or_eq_false_iff, Bool.not_eq_true', Bool.not_eq_false', Int.toNat_natCast, beq_iff_eq, beq_eq_false_iff_ne, decide_eq_true_eq, decide_eq_false_iff_not, bel_iff, bel_not, wthn_iff, wthn_not, els_len, mixL_len, Nat.zero_add, List.length_set, List.length_take, Int.ofNat_eq_natCast] at *; omega)))
    all_goals (try (exfalso; have h3 : ltI 200 _ = true := (by assumption); rw [ltI_iff, List.length_map] at h3; omega))
    all_goals (try (exfalso; have h3 : ltI 200 _ = false := (by assumption); rw [ltI_not, List.length_map] at h3; omega))
    all_goals (try (refine Ob.mk ?_; exact List.map_take.symm))
    conv => whnf
    have hRl : (raw).length ≤ 200 := hc
    have hRr : ∀ l ∈ raw, l.length ≤ 2 ^ 20 := fun l hl => hr l hl
    have hRw : ∀ l ∈ raw, ∀ x ∈ l, I64 x := fun l hl => hw l hl
    have hWl : (walkR (raw)).length = (raw).length := by unfold walkR; simp
    refine LoopVC.mk [4, 3] [(3, 22, 1)] (fun m vals σ => ∃ b : Nat, vals = [.t (.int .i64 b), .osl 1 0 ((walkR (raw)).take b).length] ∧ σ = [gzero, .row 22 1 (((walkR (raw)).take b).map nstC)] ∧ b ≤ (raw).length ∧ m = (raw).length - b) ?_ ?_
    · conv => whnf
      exact ⟨_, 0, rfl, rfl, Nat.zero_le _, rfl⟩
    · rintro m vals σ ⟨b, rfl, rfl, hb, rfl⟩
      have hlt : ltI (b : Int) ((((raw).map ilist).length : Nat) : Int) = true → b < (raw).length := fun h => by
        rw [ltI_iff, List.length_map] at h; omega
      repeat' ((conv => whnf); first | (with_reducible first | refine onBool_intro (fun _ => ?_) (fun _ => ?_) | refine And.intro (Ob.mk (Nat.le_of_ble_eq_true rfl)) ?_ | refine And.intro (Ob.mk rfl) ?_ | exact ⟨rfl, rfl⟩ | refine And.intro (Ob.mk (fun h => h)) ?_) | (with_reducible refine Or.inl (And.intro (Ob.mk (Flat.map ?_)) ?_); exact fun _ => rfl) | (refine Or.inl (And.intro (Ob.mk (flat_of rfl)) ?_)) | (refine Or.inl (And.intro (Ob.mk ⟨rfl, rfl, rfl, rfl⟩) ?_)) | (refine Or.inl (And.intro (Ob.mk ⟨rfl, rfl, rfl⟩) ?_)) | (refine And.intro (Ob.mk ⟨rfl, rfl⟩) ?_) | (with_reducible refine Or.inr ?_) | (refine And.intro (Ob.mk (flat_of rfl)) ?_) | (with_reducible refine And.intro (Ob.mk (Flat.map ?_)) ?_; exact fun _ => rfl) | (with_reducible first | exact Ob.mk (Flat.map fun _ => rfl) | refine And.intro ?_ ?_ | apply exG.mk | apply exGS.mk | exact Dd.nil) | (refine Dd.same _ ?_) | (refine Dd.dead _ ?_) | (with_reducible first | apply exQ.mk | apply exP.mk) | (refine EqP.mk rfl rfl) | (with_reducible apply exW.mk) | (refine EqW.mk rfl) | (with_reducible first | intro _ | refine Dn.mk ?_) | (refine exS.full (by first | rfl | (simp; done) | (simp; omega)) ?_) | (refine And.intro (Ob.mk ⟨rfl, rfl, by first | rfl | (simp; done) | (simp; omega)⟩) ?_) | (with_reducible refine exE.mapD ?_) | (refine exL.int ?_) | (with_reducible first | refine Up0.mk rfl ?_ | refine Up0i.mk rfl ?_ | refine Up1.mk rfl ?_ | refine Up1i.mk rfl ?_ | refine Up2.mk rfl ?_ | refine Up2i.mk rfl ?_) | (refine Col.mk rfl rfl rfl ?_) | (refine Coli.mk rfl rfl rfl rfl ?_) | (refine lead31w ((walkR (raw)).take b) (by rw [List.length_take]; omega) (fun l hl => walkR_len l (List.mem_of_mem_take hl)) ?_) | (refine lead31z _ ?_ ?_))
      all_goals (try (refine Ob.mk ?_; first | assumption | exact ⟨rfl, rfl⟩ | exact ⟨rfl, rfl, rfl⟩ | (refine ⟨rfl, rfl, ?_⟩; simp only [List.length_map, List.length_take, List.length_append, els_len, List.length_replicate]; omega) | (intro h; exact h) | (intro h; rw [h]; rfl) | (intro h; simp_all; done) | (refine bytes_le (n := 1048577) ?_ rfl; simp only [ltI_iff, ltI_not, leI_iff, leI_not, eqI_iff, eqI_not, List.length_map, bif_and, bif_or, Bool.and_eq_true, Bool.and_eq_false_iff, Bool.or_eq_true, Bool.or_eq_false_iff, Bool.not_eq_true', Bool.not_eq_false', Int.toNat_natCast, beq_iff_eq, beq_eq_false_iff_ne, decide_eq_true_eq, decide_eq_false_iff_not, bel_iff, bel_not, wthn_iff, wthn_not, els_len, mixL_len, Nat.zero_add, List.length_set, List.length_take] at *; omega) | (simp only [ltI_iff, ltI_not, leI_iff, leI_not, eqI_iff, eqI_not, List.length_map, bif_and, bif_or, Bool.and_eq_true, Bool.and_eq_false_iff, Bool.or_eq_true, Bool.or_eq_false_iff, Bool.not_eq_true', Bool.not_eq_false', Int.toNat_natCast, beq_iff_eq, beq_eq_false_iff_ne, decide_eq_true_eq, decide_eq_false_iff_not, bel_iff, bel_not, wthn_iff, wthn_not, els_len, mixL_len, Nat.zero_add, List.length_set, List.length_take, Int.ofNat_eq_natCast] at *; omega)))
      · have hb2 := hlt (by assumption)
        have hbr := hRr _ (nthD_mem hb2)
        have hat := walkR_at hb2
        conv => whnf
        refine LoopVC.mk [6, 5] [(5, 3, 1)] (fun m vals σ => ∃ k : Nat, vals = [.t (.int .i64 k), .osl 2 0 ((nthD (walkR (raw)) b).take k).length] ∧ σ = [gzero, .row 22 1 (((walkR (raw)).take b).map nstC), .row 3 1 (((nthD (walkR (raw)) b).take k).map fun n => .int .i64 n)] ∧ k ≤ (nthD (raw) b).length ∧ k ≤ 9 ∧ m = 9 - k) ?_ ?_
        · conv => whnf
          exact ⟨_, 0, rfl, rfl, Nat.zero_le _, Nat.zero_le _, rfl⟩
        · rintro m2 vals σ ⟨k, rfl, rfl, hk, hk9, rfl⟩
          have hyes : (bif ltI (k : Int) ((((nthD (raw) ((b : Int)).toNat).map fun n => T.int .i64 n).length : Nat) : Int) then ltI (k : Int) 9 else false) = true → k < (nthD (raw) b).length ∧ k < 9 := fun h => by
            rw [List.length_map, Int.toNat_natCast] at h
            cases h3 : ltI (k : Int) ((nthD (raw) b).length : Nat) with
            | false => rw [h3] at h; cases h
            | true =>
              rw [h3] at h
              have h : ltI (k : Int) 9 = true := h
              rw [ltI_iff] at h h3
              omega
          have hno : (bif ltI (k : Int) ((((nthD (raw) ((b : Int)).toNat).map fun n => T.int .i64 n).length : Nat) : Int) then ltI (k : Int) 9 else false) = false → k = (nthD (raw) b).length ∨ k = 9 := fun h => by
            rw [List.length_map, Int.toNat_natCast] at h
            cases h3 : ltI (k : Int) ((nthD (raw) b).length : Nat) with
            | false => rw [ltI_not] at h3; omega
            | true =>
              rw [h3] at h
              have h : ltI (k : Int) 9 = false := h
              rw [ltI_not] at h
              omega
          repeat' ((conv => whnf); first | (with_reducible first | refine onBool_intro (fun _ => ?_) (fun _ => ?_) | refine And.intro (Ob.mk (Nat.le_of_ble_eq_true rfl)) ?_ | refine And.intro (Ob.mk rfl) ?_ | exact ⟨rfl, rfl⟩ | refine And.intro (Ob.mk (fun h => h)) ?_) | (with_reducible refine Or.inl (And.intro (Ob.mk (Flat.map ?_)) ?_); exact fun _ => rfl) | (refine Or.inl (And.intro (Ob.mk (flat_of rfl)) ?_)) | (refine Or.inl (And.intro (Ob.mk ⟨rfl, rfl, rfl, rfl⟩) ?_)) | (refine Or.inl (And.intro (Ob.mk ⟨rfl, rfl, rfl⟩) ?_)) | (refine And.intro (Ob.mk ⟨rfl, rfl⟩) ?_) | (with_reducible refine Or.inr ?_) | (refine And.intro (Ob.mk (flat_of rfl)) ?_) | (with_reducible refine And.intro (Ob.mk (Flat.map ?_)) ?_; exact fun _ => rfl) | (with_reducible first | exact Ob.mk (Flat.map fun _ => rfl) | refine And.intro ?_ ?_ | apply exG.mk | apply exGS.mk | exact Dd.nil) | (refine Dd.same _ ?_) | (refine Dd.dead _ ?_) | (with_reducible first | apply exQ.mk | apply exP.mk) | (refine EqP.mk rfl rfl) | (with_reducible apply exW.mk) | (refine EqW.mk rfl) | (with_reducible first | intro _ | refine Dn.mk ?_) | (refine exS.full (by first | rfl | (simp; done) | (simp; omega)) ?_) | (refine And.intro (Ob.mk ⟨rfl, rfl, by first | rfl | (simp; done) | (simp; omega)⟩) ?_) | (with_reducible refine exE.mapD ?_) | (refine exL.int ?_) | (with_reducible first | refine Up0.mk rfl ?_ | refine Up0i.mk rfl ?_ | refine Up1.mk rfl ?_ | refine Up1i.mk rfl ?_ | refine Up2.mk rfl ?_ | refine Up2i.mk rfl ?_) | (refine Col.mk rfl rfl rfl ?_) | (refine Coli.mk rfl rfl rfl rfl ?_) | (refine pick22k _ _ ?_ ?_))
          all_goals (try (refine Ob.mk ?_; first | assumption | exact ⟨rfl, rfl⟩ | exact ⟨rfl, rfl, rfl⟩ | (refine ⟨rfl, rfl, ?_⟩; simp only [List.length_map, List.length_take, List.length_append, els_len, List.length_replicate]; omega) | (intro h; exact h) | (intro h; rw [h]; rfl) | (intro h; simp_all; done) | (refine bytes_le (n := 1048577) ?_ rfl; simp only [ltI_iff, ltI_not, leI_iff, leI_not, eqI_iff, eqI_not, List.length_map, bif_and, bif_or, Bool.and_eq_true, Bool.and_eq_false_iff, Bool.or_eq_true, Bool.or_eq_false_iff, Bool.not_eq_true', Bool.not_eq_false', Int.toNat_natCast, beq_iff_eq, beq_eq_false_iff_ne, decide_eq_true_eq, decide_eq_false_iff_not, bel_iff, bel_not, wthn_iff, wthn_not, els_len, mixL_len, Nat.zero_add, List.length_set, List.length_take] at *; omega) | (simp only [ltI_iff, ltI_not, leI_iff, leI_not, eqI_iff, eqI_not, List.length_map, bif_and, bif_or, Bool.and_eq_true, Bool.and_eq_false_iff, Bool.or_eq_true, Bool.or_eq_false_iff, Bool.not_eq_true', Bool.not_eq_false', Int.toNat_natCast, beq_iff_eq, beq_eq_false_iff_ne, decide_eq_true_eq, decide_eq_false_iff_not, bel_iff, bel_not, wthn_iff, wthn_not, els_len, mixL_len, Nat.zero_add, List.length_set, List.length_take, Int.ofNat_eq_natCast] at *; omega)))
          all_goals (try have hkk := hyes (by assumption))
          all_goals (try (refine Ob.mk ?_; rw [List.length_map, Int.toNat_natCast]; omega))
          · refine Ob.mk ⟨?_, ?_⟩
            · rw [Int.toNat_natCast, Int.toNat_natCast]
              exact hRw _ (nthD_mem hb2) _ (nthD_mem hkk.1)
            · rw [List.length_map]; omega
          · conv => whnf
            have et : (nthD (walkR (raw)) b).take (k + 1) = (nthD (walkR (raw)) b).take k ++ [pickN (nthD (nthD (raw) b) k) (raw).length] := by
              have hkl : k < (nthD (walkR (raw)) b).length := by rw [hat, List.length_map, List.length_take]; omega
              rw [take_succN hkl]
              congr 1
              rw [nthD_get hkl]
              simp only [hat, List.getElem_map, List.getElem_take]
              rw [nthD_get hkk.1]
            refine ⟨9 - (k + 1), by omega, k + 1, ?_, ?_, by omega, by omega, rfl⟩
            · have eL : ((nthD (walkR (raw)) b).take k ++ [pickN (nthD (nthD (raw) b) k) (raw).length]).length = ((nthD (walkR (raw)) b).take k).length + 1 := by rw [List.length_append]; rfl
              rw [addI_i64 (by omega) (by omega), et, eL]; rfl
            · rw [et, List.map_append, List.length_map, Int.toNat_natCast, Int.toNat_natCast]; rfl
          · exact Ob.mk ⟨rfl, rfl, (List.length_map ..).symm⟩
          · conv => whnf
            have hkn := hno (by assumption)
            have ef : (nthD (walkR (raw)) b).take k = nthD (walkR (raw)) b := by
              rw [List.take_of_length_le]
              rw [hat, List.length_map, List.length_take]; omega
            have eb : (walkR (raw)).take (b + 1) = (walkR (raw)).take b ++ [nthD (walkR (raw)) b] := take_succD (by rw [hWl]; exact hb2)
            refine ⟨(raw).length - (b + 1), by omega, b + 1, ?_, ?_, hb2, rfl⟩
            · have eL : ((walkR (raw)).take b ++ [nthD (walkR (raw)) b]).length = ((walkR (raw)).take b).length + 1 := by rw [List.length_append]; rfl
              rw [addI_i64 (by omega) (by omega), eb, eL]; rfl
            · rw [ef, eb, List.map_append]; rfl
      · refine Ob.mk ?_
        have h3 : eqI ((((walkR (raw)).take b).length : Nat) : Int) 0 = true := by assumption
        rw [eqI_iff] at h3
        rw [List.length_eq_zero_iff.1 (show ((walkR (raw)).take b).length = 0 by omega)]
        rfl
      · have hb2 : b = (raw).length := by
          have h3 : ltI (b : Int) ((((raw).map ilist).length : Nat) : Int) = false := by assumption
          rw [ltI_not, List.length_map] at h3; omega
        have h3 : eqI ((((walkR (raw)).take b).length : Nat) : Int) 0 = true := by assumption
        rw [eqI_iff, List.length_take, hWl] at h3
        have e : walkL raw = [[0]] := by
          unfold walkL
          rw [if_pos]
          rw [List.length_take]; omega
        rw [e]; rfl
      · have hb2 : b = (raw).length := by
          have h3 : ltI (b : Int) ((((raw).map ilist).length : Nat) : Int) = false := by assumption
          rw [ltI_not, List.length_map] at h3; omega
        have h3 : eqI ((((walkR (raw)).take b).length : Nat) : Int) 0 = false := by assumption
        rw [eqI_not, List.length_take, hWl] at h3
        have e : walkL raw = (walkR (raw)).take b := by
          rw [hb2, ← hWl, List.take_length]
          unfold walkL
          rw [if_neg (by rw [List.length_take]; omega), List.take_of_length_le hc]
        rw [e]; rfl
end Go.Proofs.Ytgladinljapmkaa.Am

/- Loops: the tree of those around a block; LoopsTree. -/
namespace Go.Proofs.Ytgladinljapmkaa.Am
open Go Go.Proofs
set_option maxRecDepth 10000
set_option maxHeartbeats 2000000
set_option linter.unusedVariables false
set_option linter.unusedSimpArgs false
theorem walkL_one {raw : List (List Int)} : 1 ≤ (walkL raw).length := by
  unfold walkL
  split
  · exact Nat.le_refl _
  · unfold walkR; rw [List.length_map]; omega
theorem walkL_len {raw : List (List Int)} : (walkL raw).length ≤ 200 := by
  unfold walkL
  split
  · simp
  · unfold walkR; rw [List.length_map, List.length_take]; omega
theorem walkL_short {raw : List (List Int)} : ∀ l ∈ walkL raw, l.length ≤ 2 ^ 20 := by
  unfold walkL
  split
  · intro l hl; simp at hl; subst hl; simp
  · exact walkR_len
theorem walkL_rng {raw : List (List Int)} : ∀ l ∈ walkL raw, ∀ x ∈ l, 0 ≤ x ∧ x < (walkL raw).length := by
  unfold walkL
  split
  · intro l hl x hx; simp at hl; subst hl; simp at hx; subst hx; simp
  · rename_i h
    unfold walkR
    intro l hl x hx
    obtain ⟨y, _, rfl⟩ := List.mem_map.1 hl
    obtain ⟨c, _, rfl⟩ := List.mem_map.1 hx
    rw [List.length_map]
    exact pickN_rng (by omega)
theorem walk_ok (raw : List (List Int)) : (leadG (walkL raw)).tiny ∧ (∀ b ∈ (leadG (walkL raw)).blocks, ∀ x ∈ allN b.fin, I64 x) ∧ (leadG (walkL raw)).leads := by
  have h1 := walkL_one (raw := raw)
  have h2 := walkL_len (raw := raw)
  exact ⟨lead_tiny (by omega) walkL_short, lead_wide fun l hl x hx => i64_small (walkL_rng l hl x hx).1 (by have := (walkL_rng l hl x hx).2; omega), lead_leads h1 (by omega) walkL_rng⟩
theorem walks19k (raw : List (List Int)) (hw : ∀ l ∈ raw, ∀ x ∈ l, I64 x) (hn : raw.length ≤ 2 ^ 20) (hr : ∀ l ∈ raw, l.length ≤ 2 ^ 20) {q : T → Prop} (hq : q (leadG (walkL raw)).t) : PCalls Try.prog 19 [listsL raw] q :=
  PCalls.mono (walks19 raw hw hn hr) fun _ h => h ▸ hq
noncomputable def upR (to : List (List Int)) (b : Nat) (cur : T) : List T := (List.range to.length).map fun j => if j < b then .nst 4 1 (bitsR to.length fun x => domB to x j) else if j = b then cur else .nsl
@[simp] theorem upR_len {to : List (List Int)} {b : Nat} {cur : T} : (upR to b cur).length = to.length := by unfold upR; simp
end Go.Proofs.Ytgladinljapmkaa.Am

/- Loops: blocks that nothing leads to, set behind the others, change no answer. -/
namespace Go.Proofs.Ytgladinljapmkaa.Am
open Go Go.Proofs
set_option maxRecDepth 10000
set_option maxHeartbeats 2000000
set_option linter.unusedVariables false
set_option linter.unusedSimpArgs false
structure ExtL (to to2 : List (List Int)) : Prop where
  walk : WalkL to
  len : to.length ≤ to2.length
  at' : ∀ a, a < to.length → nthD to2 a = nthD to a
variable {to to2 : List (List Int)}
theorem ExtL.edge (h : ExtL to to2) {a b : Nat} (ha : a < to.length) : EdgeL to2 a b ↔ EdgeL to a b := by
  unfold EdgeL
  rw [h.at' a ha]
  exact ⟨fun h1 => ⟨ha, h1.2⟩, fun h1 => ⟨Nat.lt_of_lt_of_le ha h.len, h1.2⟩⟩
theorem ExtL.ra (h : ExtL to to2) {p : Nat → Prop} {b : Nat} : RA (EdgeL to2) p b ↔ RA (EdgeL to) p b := by
  constructor
  · intro r
    induction r with
    | base h0 => exact .base h0
    | step _ he hb ih => exact .step ih ((h.edge (h.walk.rch ih.rch)).1 he) hb
  · intro r
    induction r with
    | base h0 => exact .base h0
    | step r1 he hb ih => exact .step ih ((h.edge (h.walk.rch r1.rch)).2 he) hb
theorem ExtL.dom (h : ExtL to to2) {a b : Nat} : Dom (EdgeL to2) a b ↔ Dom (EdgeL to) a b := by
  unfold Dom Rch
  rw [h.ra, h.ra]
theorem ExtL.domB (h : ExtL to to2) : domB to2 = Am.domB to := by
  funext a b
  rw [Bool.eq_iff_iff, domB_iff, domB_iff, h.dom]
theorem ExtL.idom (h : ExtL to to2) {m b : Nat} : Idom (EdgeL to2) m b ↔ Idom (EdgeL to) m b := by
  unfold Idom
  simp only [h.dom]
theorem ExtL.domF (h : ExtL to to2) : domF to2 = Am.domF to := by
  funext b
  by_cases e : ∃ m, Idom (EdgeL to) m b
  · obtain ⟨m, hm⟩ := e
    rw [domF_eq hm, domF_eq (h.idom.2 hm)]
  · have e2 : ¬ ∃ m, Idom (EdgeL to2) m b := fun ⟨m, hm⟩ => e ⟨m, h.idom.1 hm⟩
    unfold Am.domF
    rw [dif_neg e, dif_neg e2]
theorem ExtL.far (h : ExtL to to2) {b : Nat} (hb : to.length ≤ b) : Am.domF to b = -1 := domF_not fun h1 => by
  have := h.walk.rch h1.1
  omega
theorem ExtL.backE (h : ExtL to to2) {a : Nat} : backE to2 a (nthD to2 a).length = if a < to.length then Am.backE to a (nthD to a).length else [] := by
  unfold Am.backE
  rw [h.domB]
  split
  · rename_i ha
    rw [h.at' a ha]
  · rename_i ha
    have : ((nthD to2 a).take (nthD to2 a).length).filter (fun b => Am.domB to b.toNat a) = [] := by
      rw [List.filter_eq_nil_iff]
      intro b _ hb
      have := h.walk.rch (domB_iff.1 hb).1
      omega
    rw [this]; rfl
theorem ExtL.backL (h : ExtL to to2) : backL to2 = Am.backL to := by
  unfold Am.backL
  obtain ⟨k, hk⟩ : ∃ k, to2.length = to.length + k := ⟨to2.length - to.length, by have := h.len; omega⟩
  rw [hk]
  clear hk
  have key : ∀ m, m ≤ to.length → backP to2 m = backP to m := by
    intro m
    induction m with
    | zero => exact fun _ => rfl
    | succ m ih =>
      intro hm
      rw [backP_succ, backP_succ, ih (by omega), h.backE, if_pos (by omega)]
  induction k with
  | zero => exact key _ (Nat.le_refl _)
  | succ k ih => rw [← Nat.add_assoc, backP_succ, ih, h.backE, if_neg (by omega), List.append_nil]
theorem ExtL.redB (h : ExtL to to2) : redB to2 = Am.redB to := by
  have hf : Forth (EdgeL to2) = Forth (EdgeL to) := by
    funext a b
    unfold Forth Rch
    rw [h.ra, h.dom]
    refine propext ⟨fun h1 => ⟨h1.1, (h.edge (h.walk.rch h1.1)).1 h1.2.1, h1.2.2⟩, fun h1 => ⟨h1.1, (h.edge (h.walk.rch h1.1)).2 h1.2.1, h1.2.2⟩⟩
  rw [Bool.eq_iff_iff, redB_iff, redB_iff, hf]
def moreL (n : Int) (more : List (List Int)) : List (List Int) := more.map fun l => match l with
  | [] => []
  | c :: _ => [pickN c n]
theorem more_ext {W M : List (List Int)} (h : WalkL (W.map srt)) : ExtL (W.map srt) ((W ++ M).map srt) where
  walk := h
  len := by simp
  at' := fun a ha => by
    have ha2 : a < W.length := by simpa using ha
    rw [nthD_get ha, nthD_get (by simp; omega)]
    simp only [List.getElem_map]
    rw [List.getElem_append_left ha2]
theorem copied9o (g : Graph) (hg : g.tiny) : PCalls Try.prog 9 [g.t] (fun r => r = .own g.o) := by
  refine PCalls.of_bodyO ttOk Try.func9 rfl ?_
  repeat' ((conv => whnf); first | (with_reducible first | refine onBool_intro (fun _ => ?_) (fun _ => ?_) | refine And.intro (Ob.mk (Nat.le_of_ble_eq_true rfl)) ?_ | refine And.intro (Ob.mk rfl) ?_ | exact ⟨rfl, rfl⟩ | refine And.intro (Ob.mk (fun h => h)) ?_) | (with_reducible refine Or.inl (And.intro (Ob.mk (Flat.map ?_)) ?_); exact fun _ => rfl) | (refine Or.inl (And.intro (Ob.mk (flat_of rfl)) ?_)) | (refine Or.inl (And.intro (Ob.mk ⟨rfl, rfl, rfl, rfl⟩) ?_)) | (refine Or.inl (And.intro (Ob.mk ⟨rfl, rfl, rfl⟩) ?_)) | (refine And.intro (Ob.mk ⟨rfl, rfl⟩) ?_) | (with_reducible refine Or.inr ?_) | (refine And.intro (Ob.mk (flat_of rfl)) ?_) | (with_reducible refine And.intro (Ob.mk (Flat.map ?_)) ?_; exact fun _ => rfl) | (with_reducible first | exact Ob.mk (Flat.map fun _ => rfl) | refine And.intro ?_ ?_ | apply exG.mk | apply exGS.mk | exact Dd.nil) | (refine Dd.same _ ?_) | (refine Dd.dead _ ?_) | (with_reducible first | apply exQ.mk | apply exP.mk) | (refine EqP.mk rfl rfl) | (with_reducible apply exW.mk) | (refine EqW.mk rfl) | (with_reducible first | intro _ | refine Dn.mk ?_) | (refine exS.full (by first | rfl | (simp; done) | (simp; omega)) ?_) | (refine And.intro (Ob.mk ⟨rfl, rfl, by first | rfl | (simp; done) | (simp; omega)⟩) ?_) | (with_reducible refine exE.mapD ?_) | (refine exL.int ?_) | (with_reducible first | refine Up0.mk rfl ?_ | refine Up0i.mk rfl ?_ | refine Up1.mk rfl ?_ | refine Up1i.mk rfl ?_ | refine Up2.mk rfl ?_ | refine Up2i.mk rfl ?_) | (refine Col.mk rfl rfl rfl ?_) | (refine Coli.mk rfl rfl rfl rfl ?_) | (refine copy26k g hg ?_) | (refine exE.setSame (by simp) ?_))
  all_goals (try exact Ob.mk (Int.le_refl _))
  all_goals (try exact Ob.mk (by show (0 : Int) < ((1 : Nat) : Int); omega))
  all_goals (try exact Ob.mk ⟨rfl, rfl, rfl⟩)
  all_goals (try exact Ob.mk clean_ints)
  all_goals (try exact Ob.mk clean_arr)
  all_goals (try exact Ob.mk clean_block)
  have e : nthD (Module.mk [] [] [g] 0).funcs (0 + Int.toNat 0) = g := nthD_get (l := [g]) (i := 0) (by simp)
  rw [e]
  rfl
theorem copied9ok (g : Graph) (hg : g.tiny) {q : T → Prop} (hq : q (.own g.o)) : PCalls Try.prog 9 [g.t] q := PCalls.mono (copied9o g hg) fun _ h => h ▸ hq
end Go.Proofs.Ytgladinljapmkaa.Am

/- Loops: LoopsMore. -/
namespace Go.Proofs.Ytgladinljapmkaa.Am
open Go Go.Proofs
set_option maxRecDepth 10000
set_option maxHeartbeats 2000000
set_option linter.unusedVariables false
set_option linter.unusedSimpArgs false
abbrev moreT (W X : List (List Int)) : List T := (leadG W).blocks.map Block.o ++ X.map leadB
abbrev moreS (W X : List (List Int)) : Sto := [gvar (leadG W), .dead, .dead, .dead, .var 26 [.osl 5 0 0, .t (.int .i64 1), .osl 6 0 0, .osl 7 0 (W.length + X.length)], .row 3 1 [], .row 130 2 [], .row 51 10 (moreT W X)]
theorem moreL_len {n : Int} {M : List (List Int)} : (moreL n M).length = M.length := by unfold moreL; simp
theorem moreL_at {n : Int} {M : List (List Int)} {b : Nat} (h : b < M.length) : nthD (moreL n M) b = match nthD M b with
    | [] => []
    | c :: _ => [pickN c n] := by
  unfold moreL
  rw [nthD_get (by simpa using h), List.getElem_map, nthD_get h] <;> rfl
theorem exS.more {W X : List (List Int)} {K : List T → Prop} (hk : K (moreT W X)) : exS (moreT W X) 0 (W.length + X.length) K := exS.are (Ob.mk (by
  rw [List.drop_zero, List.take_of_length_le]
  simp [lead_len])) hk
theorem more_key {W M : List (List Int)} {n : Int} {b : Nat} {X : T} (hb : b < M.length) (h : leadB (nthD (moreL n M) b) = X) : moreT W ((moreL n M).take b) ++ [X] = moreT W ((moreL n M).take (b + 1)) := by
  unfold moreT
  rw [take_succD (by rw [moreL_len]; exact hb), List.map_append, ← h, List.append_assoc]; rfl
theorem more_st {W Y : List (List Int)} {ys : List T} {k : Nat} (h1 : ys = moreT W Y) (h2 : k = W.length + Y.length) : [gvar (leadG W), .dead, .dead, .dead, .var 26 [.osl 5 0 0, .t (.int .i64 1), .osl 6 0 0, .osl 7 0 k], .row 3 1 [], .row 130 2 [], .row 51 10 ys] = moreS W Y := by
  subst h1 h2
  rfl
noncomputable abbrev moreS2 (W M X : List (List Int)) : Sto := [gvar (leadG W), .dead, .dead, .dead, .var 26 [.osl 10 0 0, .t (.int .i64 1), .osl 11 0 0, .osl 12 0 (W.length + X.length)], .dead, .dead, .dead, .nd e0 (.row 3 1 (domsR (toL (leadG W)))), .nd e0 (.row 3 1 (tellR (W.length + M.length) (domF (toL (leadG W))))), .row 3 1 [], .row 130 2 [], .row 51 10 (moreT W X)]
abbrev moreG (W M : List (List Int)) : Graph := leadG (W ++ moreL (W.length + M.length) M)
structure MoreOk (W M : List (List Int)) : Prop where
  tiny : (moreG W M).tiny
  wide : ∀ b ∈ (moreG W M).blocks, ∀ x ∈ allN b.fin, I64 x
  leads : (moreG W M).leads
  ext : ExtL (toL (leadG W)) (toL (moreG W M))
theorem moreOk {W M : List (List Int)} (h1 : 1 ≤ W.length) (h2 : W.length ≤ 200) (h3 : ∀ l ∈ W, ∀ x ∈ l, 0 ≤ x ∧ x < W.length) (h4 : ∀ l ∈ W, l.length ≤ 2 ^ 20) (hM : M.length ≤ 200) : MoreOk W M := by
  have hl : (W ++ moreL (W.length + M.length) M).length = W.length + M.length := by rw [List.length_append, moreL_len]
  have hr : ∀ l ∈ W ++ moreL (W.length + M.length) M, ∀ x ∈ l, 0 ≤ x ∧ x < (W ++ moreL (W.length + M.length) M).length := by
    rw [hl]
    intro l hl2 x hx
    rcases List.mem_append.1 hl2 with h | h
    · have := h3 l h x hx
      omega
    · obtain ⟨y, _, rfl⟩ := List.mem_map.1 h
      cases y with
      | nil => exact nomatch hx
      | cons c y =>
        have hx : x ∈ [pickN c (W.length + M.length)] := hx
        rw [List.mem_singleton] at hx
        subst hx
        have := pickN_rng (c := c) (n := (W.length : Int) + M.length) (by omega)
        omega
  have hs : ∀ l ∈ W ++ moreL (W.length + M.length) M, l.length ≤ 2 ^ 20 := by
    intro l hl2
    rcases List.mem_append.1 hl2 with h | h
    · exact h4 l h
    · obtain ⟨y, _, rfl⟩ := List.mem_map.1 h
      cases y <;> simp
  have hL := lead_leads (to := W ++ moreL (W.length + M.length) M) (by omega) (by omega) hr
  refine ⟨lead_tiny (by omega) hs, lead_wide fun l hl2 x hx => i64_small (hr l hl2 x hx).1 (by have := (hr l hl2 x hx).2; omega), hL, ?_⟩
  rw [toL_lead, toL_lead]
  refine more_ext ?_
  rw [← toL_lead]
  exact (lead_leads h1 (by omega) h3).walk
theorem more_le {W X : List (List Int)} : Le (T.agg [.sl 1 [], .int .i64 1, .sl 2 [], .sl 10 (moreT W X)]) (leadG (W ++ X)).t := by
  have e1 : moreT W X = (W.map Sum.inl ++ X.map Sum.inr).map (fun s : List Int ⊕ List Int => match s with
      | .inl l => (Block.mk [] (leadE l)).o
      | .inr l => leadB l) := by
    unfold moreT
    rw [List.map_append, List.map_map, List.map_map]
    show (W.map fun l => Block.mk [] (leadE l)).map Block.o ++ _ = _
    rw [List.map_map]; rfl
  have e2 : (leadG (W ++ X)).t = .agg [.sl 1 [], .int .i64 1, .sl 2 [], .sl 10 ((W.map Sum.inl ++ X.map Sum.inr).map (fun s : List Int ⊕ List Int => match s with
      | .inl l => (Block.mk [] (leadE l)).t
      | .inr l => (Block.mk [] (leadE l)).t))] := by
    show T.agg [.sl 1 [], .int .i64 1, .sl 2 [], .sl 10 (((W ++ X).map fun l => Block.mk [] (leadE l)).map Block.t)] = _
    rw [List.map_append, List.map_append, List.map_append, List.map_map, List.map_map, List.map_map, List.map_map]; rfl
  rw [e1, e2]
  exact Le.aggL (.cons (.refl _) (.cons (.refl _) (.cons (.refl _) (.cons (Le.slmap (fun s => by
    cases s with
    | inl l => exact Block.o_le _
    | inr l => exact leadB_le l) fun s => by cases s <;> rfl) .nil))))
theorem moreArg {W M : List (List Int)} {b : Nat} (hb : Ob (M.length ≤ b)) {q : T → Prop} {f : FuncId} (h : PCalls Try.prog f [(moreG W M).t] q) : PCalls Try.prog f [T.agg [.sl 1 [], .int .i64 1, .sl 2 [], .sl 10 (moreT W ((moreL (W.length + M.length) M).take b))]] q := by
  rw [List.take_of_length_le (by rw [moreL_len]; exact hb.out)]
  exact PCalls.argsL (.cons more_le .nil) h
section
variable {W M : List (List Int)} (hk : MoreOk W M) {b : Nat} (hb : Ob (M.length ≤ b)) {q : T → Prop}
include hk hb
theorem dominators10m (hq : q (.own (.nst 3 1 (tellR (W.length + M.length) (domF (toL (leadG W))))))) : PCalls Try.prog 10 [T.agg [.sl 1 [], .int .i64 1, .sl 2 [], .sl 10 (moreT W ((moreL (W.length + M.length) M).take b))]] q := by
  refine moreArg hb (dominators10k _ hk.tiny hk.wide hk.leads ?_)
  unfold domsR
  rw [hk.ext.domF, toL_len, lead_len, List.length_append, moreL_len]
  exact hq
theorem back11m (hq : q (.own (.nst 35 2 (pairsR (backL (toL (leadG W))))))) : PCalls Try.prog 11 [T.agg [.sl 1 [], .int .i64 1, .sl 2 [], .sl 10 (moreT W ((moreL (W.length + M.length) M).take b))]] q := by
  refine moreArg hb (back11k _ hk.tiny hk.wide hk.leads ?_)
  rw [hk.ext.backL]
  exact hq
theorem reducible17m (hq : q (.bool (redB (toL (leadG W))))) : PCalls Try.prog 17 [T.agg [.sl 1 [], .int .i64 1, .sl 2 [], .sl 10 (moreT W ((moreL (W.length + M.length) M).take b))]] q := by
  refine moreArg hb (reducible17k _ hk.tiny hk.wide hk.leads ?_)
  rw [hk.ext.redB]
  exact hq
end
theorem exS.tellTo {N : Nat} (n : Nat) {j : Nat} {f : Nat → Int} {K : List T → Prop} (h : Ob (j = n ∧ n ≤ N)) (hk : K (tellR n f)) : exS (tellR N f) 0 j K := exS.are (Ob.mk (by
  obtain ⟨rfl, h⟩ := h.out
  rw [List.drop_zero]
  unfold tellR
  rw [← List.map_take, List.take_range, Nat.min_eq_left h])) hk
theorem domF_far {W : List (List Int)} (hl : (leadG W).leads) {c : Nat} (hc : W.length ≤ c) : domF (toL (leadG W)) c = -1 := domF_not fun h => by
  have := hl.walk.rch h.1
  rw [toL_len, lead_len] at this
  omega
theorem law5 (raw more : List (List Int)) (hw : ∀ l ∈ raw, ∀ x ∈ l, I64 x) (hn : raw.length ≤ 2 ^ 20) (hr : ∀ l ∈ raw, l.length ≤ 2 ^ 20) (hw2 : ∀ l ∈ more, ∀ x ∈ l, I64 x) (hn2 : more.length ≤ 2 ^ 20) (hr2 : ∀ l ∈ more, l.length ≤ 2 ^ 20) : PCalls Try.prog 5 [listsL raw, listsL more] (fun r => r = .bool true) := by
  obtain ⟨hg, hwd, hl⟩ := walk_ok raw
  have hwk := fun (q : T → Prop) hq => walks19k raw hw hn hr (q := q) hq
  have h1 := walkL_one (raw := raw)
  have h2 := walkL_len (raw := raw)
  have h3 := walkL_rng (raw := raw)
  have h5 := walkL_short (raw := raw)
  generalize walkL raw = W at *
  refine PCalls.of_body ttOk Try.func5 rfl ?_
  rcases Nat.lt_or_ge 200 more.length with hc | hc
  · repeat' ((conv => whnf); first | (with_reducible first | refine onBool_intro (fun _ => ?_) (fun _ => ?_) | refine And.intro (Ob.mk (Nat.le_of_ble_eq_true rfl)) ?_ | refine And.intro (Ob.mk rfl) ?_ | exact ⟨rfl, rfl⟩ | refine And.intro (Ob.mk (fun h => h)) ?_) | (with_reducible refine Or.inl (And.intro (Ob.mk (Flat.map ?_)) ?_); exact fun _ => rfl) | (refine Or.inl (And.intro (Ob.mk (flat_of rfl)) ?_)) | (refine Or.inl (And.intro (Ob.mk ⟨rfl, rfl, rfl, rfl⟩) ?_)) | (refine Or.inl (And.intro (Ob.mk ⟨rfl, rfl, rfl⟩) ?_)) | (refine And.intro (Ob.mk ⟨rfl, rfl⟩) ?_) | (with_reducible refine Or.inr ?_) | (refine And.intro (Ob.mk (flat_of rfl)) ?_) | (with_reducible refine And.intro (Ob.mk (Flat.map ?_)) ?_; exact fun _ => rfl) | (with_reducible first | exact Ob.mk (Flat.map fun _ => rfl) | refine And.intro ?_ ?_ | apply exG.mk | apply exGS.mk | exact Dd.nil) | (refine Dd.same _ ?_) | (refine Dd.dead _ ?_) | (with_reducible first | apply exQ.mk | apply exP.mk) | (refine EqP.mk rfl rfl) | (with_reducible apply exW.mk) | (refine EqW.mk rfl) | (with_reducible first | intro _ | refine Dn.mk ?_) | (refine exS.full (by first | rfl | (simp; done) | (simp; omega)) ?_) | (refine And.intro (Ob.mk ⟨rfl, rfl, by first | rfl | (simp; done) | (simp; omega)⟩) ?_) | (with_reducible refine exE.mapD ?_) | (refine exL.int ?_) | (with_reducible first | refine Up0.mk rfl ?_ | refine Up0i.mk rfl ?_ | refine Up1.mk rfl ?_ | refine Up1i.mk rfl ?_ | refine Up2.mk rfl ?_ | refine Up2i.mk rfl ?_) | (refine Col.mk rfl rfl rfl ?_) | (refine Coli.mk rfl rfl rfl rfl ?_) | (refine exS.are (ys := (more.take 200).map ilist) ?_ ?_) | (refine hwk _ ?_) | (refine copied9ok _ hg ?_))
    all_goals (try (refine Ob.mk ?_; first | assumption | exact ⟨rfl, rfl⟩ | exact ⟨rfl, rfl, rfl⟩ | (refine ⟨rfl, rfl, ?_⟩; simp only [List.length_map, List.length_take, List.length_append, els_len, List.length_replicate]; omega) | (intro h; exact h) | (intro h; rw [h]; rfl) | (intro h; simp_all; done) | (refine bytes_le (n := 1048577) ?_ rfl; simp only [ltI_iff, ltI_not, leI_iff, leI_not, eqI_iff, eqI_not, List.length_map, bif_and, bif_or, Bool.and_eq_true, Bool.and_eq_false_iff, Bool.or_eq_true, Bool.or_eq_false_iff, Bool.not_eq_true', Bool.not_eq_false', Int.toNat_natCast, beq_iff_eq, beq_eq_false_iff_ne, decide_eq_true_eq, decide_eq_false_iff_not, bel_iff, bel_not, wthn_iff, wthn_not, els_len, mixL_len, Nat.zero_add, List.length_set, List.length_take] at *; omega) | (simp only [ltI_iff, ltI_not, leI_iff, leI_not, eqI_iff, eqI_not, List.length_map, bif_and, bif_or, Bool.and_eq_true, Bool.and_eq_false_iff, Bool.or_eq_true, Bool.or_eq_false_iff, Bool.not_eq_true', Bool.not_eq_false', Int.toNat_natCast, beq_iff_eq, beq_eq_false_iff_ne, decide_eq_true_eq, decide_eq_false_iff_not, bel_iff, bel_not, wthn_iff, wthn_not, els_len, mixL_len, Nat.zero_add, List.length_set, List.length_take, Int.ofNat_eq_natCast] at *; omega)))
    all_goals (try (exfalso; have h3 : ltI 200 _ = true := (by assumption); rw [ltI_iff, List.length_map] at h3; omega))
    all_goals (try (exfalso; have h3 : ltI 200 _ = false := (by assumption); rw [ltI_not, List.length_map] at h3; omega))
    all_goals (try (refine Ob.mk ?_; exact List.map_take.symm))
    conv => whnf
    have hML : (more.take 200).length ≤ 200 := by rw [List.length_take]; omega
    have hMw : ∀ l ∈ more.take 200, ∀ x ∈ l, I64 x := fun l hl => hw2 l (List.mem_of_mem_take hl)
    have hMr : ∀ l ∈ more.take 200, l.length ≤ 2 ^ 20 := fun l hl => hr2 l (List.mem_of_mem_take hl)
    generalize more.take 200 = M at *
    have hk := moreOk h1 h2 h3 h5 hML
    refine LoopVC.mk [8] [] (fun m vals σ => ∃ b : Nat, vals = [.t (.int .i64 b)] ∧ σ = moreS W ((moreL (W.length + M.length) M).take b) ∧ b ≤ M.length ∧ m = M.length - b) ?_ ?_
    · conv => whnf
      refine ⟨_, 0, rfl, ?_, Nat.zero_le _, rfl⟩
      show [gvar (leadG W), .dead, .dead, .dead, .var 26 [.osl 5 0 0, .t (.int .i64 1), .osl 6 0 0, .osl 7 0 ((leadG W).blocks.map Block.o).length], .row 3 1 [], .row 130 2 [], .row 51 10 ((leadG W).blocks.map Block.o)] = _
      simp [lead_len]
    · rintro m vals σ ⟨b, rfl, rfl, hb, rfl⟩
      have hlt : ltI (b : Int) (((M.map ilist).length : Nat) : Int) = true → b < M.length := fun h => by
        rw [ltI_iff, List.length_map] at h; omega
      have hge : ltI (b : Int) (((M.map ilist).length : Nat) : Int) = false → b = M.length := fun h => by
        rw [ltI_not, List.length_map] at h; omega
      repeat' ((conv => whnf); first | (with_reducible first | refine onBool_intro (fun _ => ?_) (fun _ => ?_) | refine And.intro (Ob.mk (Nat.le_of_ble_eq_true rfl)) ?_ | refine And.intro (Ob.mk rfl) ?_ | exact ⟨rfl, rfl⟩ | refine And.intro (Ob.mk (fun h => h)) ?_) | (with_reducible refine Or.inl (And.intro (Ob.mk (Flat.map ?_)) ?_); exact fun _ => rfl) | (refine Or.inl (And.intro (Ob.mk (flat_of rfl)) ?_)) | (refine Or.inl (And.intro (Ob.mk ⟨rfl, rfl, rfl, rfl⟩) ?_)) | (refine Or.inl (And.intro (Ob.mk ⟨rfl, rfl, rfl⟩) ?_)) | (refine And.intro (Ob.mk ⟨rfl, rfl⟩) ?_) | (with_reducible refine Or.inr ?_) | (refine And.intro (Ob.mk (flat_of rfl)) ?_) | (with_reducible refine And.intro (Ob.mk (Flat.map ?_)) ?_; exact fun _ => rfl) | (with_reducible first | exact Ob.mk (Flat.map fun _ => rfl) | refine And.intro ?_ ?_ | apply exG.mk | apply exGS.mk | exact Dd.nil) | (refine Dd.same _ ?_) | (refine Dd.dead _ ?_) | (with_reducible first | apply exQ.mk | apply exP.mk) | (refine EqP.mk rfl rfl) | (with_reducible apply exW.mk) | (refine EqW.mk rfl) | (with_reducible first | intro _ | refine Dn.mk ?_) | (refine exS.full (by first | rfl | (simp; done) | (simp; omega)) ?_) | (refine And.intro (Ob.mk ⟨rfl, rfl, by first | rfl | (simp; done) | (simp; omega)⟩) ?_) | (with_reducible refine exE.mapD ?_) | (refine exL.int ?_) | (with_reducible first | refine Up0.mk rfl ?_ | refine Up0i.mk rfl ?_ | refine Up1.mk rfl ?_ | refine Up1i.mk rfl ?_ | refine Up2.mk rfl ?_ | refine Up2i.mk rfl ?_) | (refine Col.mk rfl rfl rfl ?_) | (refine Coli.mk rfl rfl rfl rfl ?_) | (refine pick22k _ _ ?_ ?_) | (refine exS.more ?_) | (refine dominators10k _ hg hwd hl ?_) | (refine back11k _ hg hwd hl ?_) | (refine reducible17k _ hg hwd hl ?_) | (refine PCalls.mono live14 ?_; rintro _ rfl) | (refine dominators10m hk ?_ ?_) | (refine exS.tellTo (toL (leadG W)).length ?_ ?_) | (refine sameS ?_))
      all_goals (try (refine Ob.mk ?_; first | assumption | exact ⟨rfl, rfl⟩ | exact ⟨rfl, rfl, rfl⟩ | (refine ⟨rfl, rfl, ?_⟩; simp only [List.length_map, List.length_take, List.length_append, els_len, List.length_replicate]; omega) | (intro h; exact h) | (intro h; rw [h]; rfl) | (intro h; simp_all; done) | (refine bytes_le (n := 1048577) ?_ rfl; simp only [ltI_iff, ltI_not, leI_iff, leI_not, eqI_iff, eqI_not, List.length_map, bif_and, bif_or, Bool.and_eq_true, Bool.and_eq_false_iff, Bool.or_eq_true, Bool.or_eq_false_iff, Bool.not_eq_true', Bool.not_eq_false', Int.toNat_natCast, beq_iff_eq, beq_eq_false_iff_ne, decide_eq_true_eq, decide_eq_false_iff_not, bel_iff, bel_not, wthn_iff, wthn_not, els_len, mixL_len, Nat.zero_add, List.length_set, List.length_take] at *; omega) | (simp only [ltI_iff, ltI_not, leI_iff, leI_not, eqI_iff, eqI_not, List.length_map, bif_and, bif_or, Bool.and_eq_true, Bool.and_eq_false_iff, Bool.or_eq_true, Bool.or_eq_false_iff, Bool.not_eq_true', Bool.not_eq_false', Int.toNat_natCast, beq_iff_eq, beq_eq_false_iff_ne, decide_eq_true_eq, decide_eq_false_iff_not, bel_iff, bel_not, wthn_iff, wthn_not, els_len, mixL_len, Nat.zero_add, List.length_set, List.length_take, Int.ofNat_eq_natCast] at *; omega)))
      all_goals (try have hb2 := hlt (by assumption))
      · refine Ob.mk ⟨?_, ?_⟩
        · rw [Int.toNat_natCast]
          refine hMw _ (nthD_mem hb2) _ (nthD_mem ?_)
          have h4 : ltI 0 (((((nthD M ((b : Int)).toNat).map fun n => T.int .i64 n).length : Nat)) : Int) = true := by assumption
          rw [ltI_iff, List.length_map, Int.toNat_natCast] at h4
          show 0 < _
          omega
        · rw [List.length_map, List.length_map, lead_len, addI_i64 (by omega) (by omega)]; omega
      · conv => whnf
        refine ⟨M.length - (b + 1), by omega, b + 1, ?_, ?_, hb2, rfl⟩
        · rw [addI_i64 (by omega) (by omega)]; rfl
        · refine more_st (more_key hb2 ?_) ?_
          · rw [moreL_at hb2, Int.toNat_natCast, List.length_map, List.length_map, lead_len, addI_i64 (by omega) (by omega)]
            have h4 : ltI 0 (((((nthD M ((b : Int)).toNat).map fun n => T.int .i64 n).length : Nat)) : Int) = true := by assumption
            rw [ltI_iff, List.length_map, Int.toNat_natCast] at h4
            generalize nthD M b = l at *
            cases l with
            | nil => simp at h4
            | cons c l =>
              rw [show nthD (c :: l) (Int.toNat 0) = c from nthD_eq rfl]
              rfl
          · rw [take_succD (by rw [moreL_len]; exact hb2), List.length_append]; rfl
      · conv => whnf
        refine ⟨M.length - (b + 1), by omega, b + 1, ?_, ?_, hb2, rfl⟩
        · rw [addI_i64 (by omega) (by omega)]; rfl
        · refine more_st (more_key hb2 ?_) ?_
          · rw [moreL_at hb2]
            have h4 : ltI 0 (((((nthD M ((b : Int)).toNat).map fun n => T.int .i64 n).length : Nat)) : Int) = false := by assumption
            rw [ltI_not, List.length_map, Int.toNat_natCast] at h4
            generalize nthD M b = l at *
            cases l with
            | nil => rfl
            | cons c l => exfalso; simp at h4; omega
          · rw [take_succD (by rw [moreL_len]; exact hb2), List.length_append]; rfl
      all_goals have hbM := hge (by assumption)
      all_goals (try (refine Ob.mk ⟨Int.le_refl _, ?_, ?_⟩ <;> simp [lead_len] <;> omega))
      all_goals (try (refine Ob.mk ⟨?_, ?_⟩ <;> simp [lead_len, toL_len] <;> omega))
      all_goals have e1 : eqI (((tellR (W.length + M.length) (domF (toL (leadG W)))).length : Nat) : Int) ((W.length + ((moreL (W.length + M.length) M).take b).length : Nat) : Int) = true := eqI_iff.2 (by simp [moreL_len]; omega)
      all_goals have e2 : eqI (((domsR (toL (leadG W))).length : Nat) : Int) (((leadG W).blocks.map Block.t).length : Nat) = true := eqI_iff.2 (by simp [toL_len])
      · rename_i h
        exfalso
        rw [e1, e2] at h
        cases h
      · conv => whnf
        refine LoopVC.mk [12] [] (fun m vals σ => ∃ c : Nat, vals = [.t (.int .i64 c)] ∧ σ = moreS2 W M ((moreL (W.length + M.length) M).take b) ∧ W.length ≤ c ∧ c ≤ W.length + M.length ∧ m = W.length + M.length - c) ?_ ?_
        · conv => whnf
          refine ⟨_, W.length, ?_, rfl, Nat.le_refl _, Nat.le_add_right _ _, rfl⟩
          rw [List.length_map, lead_len]
        · rintro m2 vals σ ⟨c, rfl, rfl, hc1, hc2, rfl⟩
          have hlt3 : ltI (c : Int) (((tellR (W.length + M.length) (domF (toL (leadG W)))).length : Nat) : Int) = true → c < W.length + M.length := fun h => by
            rw [ltI_iff] at h; simp at h; omega
          repeat' ((conv => whnf); first | (with_reducible first | refine onBool_intro (fun _ => ?_) (fun _ => ?_) | refine And.intro (Ob.mk (Nat.le_of_ble_eq_true rfl)) ?_ | refine And.intro (Ob.mk rfl) ?_ | exact ⟨rfl, rfl⟩ | refine And.intro (Ob.mk (fun h => h)) ?_) | (with_reducible refine Or.inl (And.intro (Ob.mk (Flat.map ?_)) ?_); exact fun _ => rfl) | (refine Or.inl (And.intro (Ob.mk (flat_of rfl)) ?_)) | (refine Or.inl (And.intro (Ob.mk ⟨rfl, rfl, rfl, rfl⟩) ?_)) | (refine Or.inl (And.intro (Ob.mk ⟨rfl, rfl, rfl⟩) ?_)) | (refine And.intro (Ob.mk ⟨rfl, rfl⟩) ?_) | (with_reducible refine Or.inr ?_) | (refine And.intro (Ob.mk (flat_of rfl)) ?_) | (with_reducible refine And.intro (Ob.mk (Flat.map ?_)) ?_; exact fun _ => rfl) | (with_reducible first | exact Ob.mk (Flat.map fun _ => rfl) | refine And.intro ?_ ?_ | apply exG.mk | apply exGS.mk | exact Dd.nil) | (refine Dd.same _ ?_) | (refine Dd.dead _ ?_) | (with_reducible first | apply exQ.mk | apply exP.mk) | (refine EqP.mk rfl rfl) | (with_reducible apply exW.mk) | (refine EqW.mk rfl) | (with_reducible first | intro _ | refine Dn.mk ?_) | (refine exS.full (by first | rfl | (simp; done) | (simp; omega)) ?_) | (refine And.intro (Ob.mk ⟨rfl, rfl, by first | rfl | (simp; done) | (simp; omega)⟩) ?_) | (with_reducible refine exE.mapD ?_) | (refine exL.int ?_) | (with_reducible first | refine Up0.mk rfl ?_ | refine Up0i.mk rfl ?_ | refine Up1.mk rfl ?_ | refine Up1i.mk rfl ?_ | refine Up2.mk rfl ?_ | refine Up2i.mk rfl ?_) | (refine Col.mk rfl rfl rfl ?_) | (refine Coli.mk rfl rfl rfl rfl ?_) | (refine exS.more ?_) | (refine back11k _ hg hwd hl ?_) | (refine back11m hk ?_ ?_) | (refine sameES ?_) | (refine reducible17k _ hg hwd hl ?_) | (refine reducible17m hk ?_ ?_) | (refine drawVC.mkM _ _ 13 13 [] [[], [0], [], [0, 1, 2], [0, 1, 2, 3], [0, 1, 2, 3, 4], [0, 1, 2, 3, 4, 5], [0, 1, 2, 3, 4, 5, 6], [0, 1, 2, 3, 4, 5], [0, 1, 2, 3, 4, 5, 6, 7, 8], [0, 1, 2, 3, 4, 5, 6, 7, 8, 9], [0, 1, 2, 3, 4, 5, 6, 7, 8, 9, 10], [0, 1, 2, 3, 4, 5, 6, 7, 8, 9, 10, 11]] rfl (by kernel_rfl) ?_))
          all_goals (try (refine Ob.mk ?_; first | assumption | exact ⟨rfl, rfl⟩ | exact ⟨rfl, rfl, rfl⟩ | (refine ⟨rfl, rfl, ?_⟩; simp only [List.length_map, List.length_take, List.length_append, els_len, List.length_replicate]; omega) | (intro h; exact h) | (intro h; rw [h]; rfl) | (intro h; simp_all; done) | (refine bytes_le (n := 1048577) ?_ rfl; simp only [ltI_iff, ltI_not, leI_iff, leI_not, eqI_iff, eqI_not, List.length_map, bif_and, bif_or, Bool.and_eq_true, Bool.and_eq_false_iff, Bool.or_eq_true, Bool.or_eq_false_iff, Bool.not_eq_true', Bool.not_eq_false', Int.toNat_natCast, beq_iff_eq, beq_eq_false_iff_ne, decide_eq_true_eq, decide_eq_false_iff_not, bel_iff, bel_not, wthn_iff, wthn_not, els_len, mixL_len, Nat.zero_add, List.length_set, List.length_take] at *; omega) | (simp only [ltI_iff, ltI_not, leI_iff, leI_not, eqI_iff, eqI_not, List.length_map, bif_and, bif_or, Bool.and_eq_true, Bool.and_eq_false_iff, Bool.or_eq_true, Bool.or_eq_false_iff, Bool.not_eq_true', Bool.not_eq_false', Int.toNat_natCast, beq_iff_eq, beq_eq_false_iff_ne, decide_eq_true_eq, decide_eq_false_iff_not, bel_iff, bel_not, wthn_iff, wthn_not, els_len, mixL_len, Nat.zero_add, List.length_set, List.length_take, Int.ofNat_eq_natCast] at *; omega)))
          all_goals (try exact Ob.mk (by omega))
          all_goals (try have hc3 := hlt3 (by assumption))
          · rename_i h
            exfalso
            rw [Nat.zero_add, Int.toNat_natCast, nthD_range hc3, domF_far hl hc1, show eqI (-1) (-1) = true from eqI_iff.2 rfl] at h
            cases h
          · conv => whnf
            refine ⟨W.length + M.length - (c + 1), by omega, c + 1, ?_, rfl, by omega, hc3, rfl⟩
            rw [addI_i64 (by omega) (by omega)]; rfl
          · show T.bool (_ == _) = T.bool true
            rw [beq_self_eq_true]
  · repeat' ((conv => whnf); first | (with_reducible first | refine onBool_intro (fun _ => ?_) (fun _ => ?_) | refine And.intro (Ob.mk (Nat.le_of_ble_eq_true rfl)) ?_ | refine And.intro (Ob.mk rfl) ?_ | exact ⟨rfl, rfl⟩ | refine And.intro (Ob.mk (fun h => h)) ?_) | (with_reducible refine Or.inl (And.intro (Ob.mk (Flat.map ?_)) ?_); exact fun _ => rfl) | (refine Or.inl (And.intro (Ob.mk (flat_of rfl)) ?_)) | (refine Or.inl (And.intro (Ob.mk ⟨rfl, rfl, rfl, rfl⟩) ?_)) | (refine Or.inl (And.intro (Ob.mk ⟨rfl, rfl, rfl⟩) ?_)) | (refine And.intro (Ob.mk ⟨rfl, rfl⟩) ?_) | (with_reducible refine Or.inr ?_) | (refine And.intro (Ob.mk (flat_of rfl)) ?_) | (with_reducible refine And.intro (Ob.mk (Flat.map ?_)) ?_; exact fun _ => rfl) | (with_reducible first | exact Ob.mk (Flat.map fun _ => rfl) | refine And.intro ?_ ?_ | apply exG.mk | apply exGS.mk | exact Dd.nil) | (refine Dd.same _ ?_) | (refine Dd.dead _ ?_) | (with_reducible first | apply exQ.mk | apply exP.mk) | (refine EqP.mk rfl rfl) | (with_reducible apply exW.mk) | (refine EqW.mk rfl) | (with_reducible first | intro _ | refine Dn.mk ?_) | (refine exS.full (by first | rfl | (simp; done) | (simp; omega)) ?_) | (refine And.intro (Ob.mk ⟨rfl, rfl, by first | rfl | (simp; done) | (simp; omega)⟩) ?_) | (with_reducible refine exE.mapD ?_) | (refine exL.int ?_) | (with_reducible first | refine Up0.mk rfl ?_ | refine Up0i.mk rfl ?_ | refine Up1.mk rfl ?_ | refine Up1i.mk rfl ?_ | refine Up2.mk rfl ?_ | refine Up2i.mk rfl ?_) | (refine Col.mk rfl rfl rfl ?_) | (refine Coli.mk rfl rfl rfl rfl ?_) | (refine exS.are (ys := (more.take 200).map ilist) ?_ ?_) | (refine hwk _ ?_) | (refine copied9ok _ hg ?_))
    all_goals (try (refine Ob.mk ?_; first | assumption | exact ⟨rfl, rfl⟩ | exact ⟨rfl, rfl, rfl⟩ | (refine ⟨rfl, rfl, ?_⟩; simp only [List.length_map, List.length_take, List.length_append, els_len, List.length_replicate]; omega) | (intro h; exact h) | (intro h; rw [h]; rfl) | (intro h; simp_all; done) | (refine bytes_le (n := 1048577) ?_ rfl; simp only [ltI_iff, ltI_not, leI_iff, leI_not, eqI_iff, eqI_not, List.length_map, bif_and, bif_or, Bool.and_eq_true, Bool.and_eq_false_iff, Bool.or_eq_true, Bool.or_eq_false_iff, Bool.not_eq_true', Bool.not_eq_false', Int.toNat_natCast, beq_iff_eq, beq_eq_false_iff_ne, decide_eq_true_eq, decide_eq_false_iff_not, bel_iff, bel_not, wthn_iff, wthn_not, els_len, mixL_len, Nat.zero_add, List.length_set, List.length_take] at *; omega) | (simp only [ltI_iff, ltI_not, leI_iff, leI_not, eqI_iff, eqI_not, List.length_map, bif_and, bif_or, Bool.and_eq_true, Bool.and_eq_false_iff, Bool.or_eq_true, Bool.or_eq_false_iff, Bool.not_eq_true', Bool.not_eq_false', Int.toNat_natCast, beq_iff_eq, beq_eq_false_iff_ne, decide_eq_true_eq, decide_eq_false_iff_not, bel_iff, bel_not, wthn_iff, wthn_not, els_len, mixL_len, Nat.zero_add, List.length_set, List.length_take, Int.ofNat_eq_natCast] at *; omega)))
    all_goals (try (exfalso; have h3 : ltI 200 _ = true := (by assumption); rw [ltI_iff, List.length_map] at h3; omega))
    all_goals (try (exfalso; have h3 : ltI 200 _ = false := (by assumption); rw [ltI_not, List.length_map] at h3; omega))
    all_goals (try (refine Ob.mk ?_; exact List.map_take.symm))
    conv => whnf
    have hML : more.length ≤ 200 := hc
    have hMw := hw2
    have hMr := hr2
    have hk := moreOk h1 h2 h3 h5 hML
    refine LoopVC.mk [8] [] (fun m vals σ => ∃ b : Nat, vals = [.t (.int .i64 b)] ∧ σ = moreS W ((moreL (W.length + more.length) more).take b) ∧ b ≤ more.length ∧ m = more.length - b) ?_ ?_
    · conv => whnf
      refine ⟨_, 0, rfl, ?_, Nat.zero_le _, rfl⟩
      show [gvar (leadG W), .dead, .dead, .dead, .var 26 [.osl 5 0 0, .t (.int .i64 1), .osl 6 0 0, .osl 7 0 ((leadG W).blocks.map Block.o).length], .row 3 1 [], .row 130 2 [], .row 51 10 ((leadG W).blocks.map Block.o)] = _
      simp [lead_len]
    · rintro m vals σ ⟨b, rfl, rfl, hb, rfl⟩
      have hlt : ltI (b : Int) (((more.map ilist).length : Nat) : Int) = true → b < more.length := fun h => by
        rw [ltI_iff, List.length_map] at h; omega
      have hge : ltI (b : Int) (((more.map ilist).length : Nat) : Int) = false → b = more.length := fun h => by
        rw [ltI_not, List.length_map] at h; omega
      repeat' ((conv => whnf); first | (with_reducible first | refine onBool_intro (fun _ => ?_) (fun _ => ?_) | refine And.intro (Ob.mk (Nat.le_of_ble_eq_true rfl)) ?_ | refine And.intro (Ob.mk rfl) ?_ | exact ⟨rfl, rfl⟩ | refine And.intro (Ob.mk (fun h => h)) ?_) | (with_reducible refine Or.inl (And.intro (Ob.mk (Flat.map ?_)) ?_); exact fun _ => rfl) | (refine Or.inl (And.intro (Ob.mk (flat_of rfl)) ?_)) | (refine Or.inl (And.intro (Ob.mk ⟨rfl, rfl, rfl, rfl⟩) ?_)) | (refine Or.inl (And.intro (Ob.mk ⟨rfl, rfl, rfl⟩) ?_)) | (refine And.intro (Ob.mk ⟨rfl, rfl⟩) ?_) | (with_reducible refine Or.inr ?_) | (refine And.intro (Ob.mk (flat_of rfl)) ?_) | (with_reducible refine And.intro (Ob.mk (Flat.map ?_)) ?_; exact fun _ => rfl) | (with_reducible first | exact Ob.mk (Flat.map fun _ => rfl) | refine And.intro ?_ ?_ | apply exG.mk | apply exGS.mk | exact Dd.nil) | (refine Dd.same _ ?_) | (refine Dd.dead _ ?_) | (with_reducible first | apply exQ.mk | apply exP.mk) | (refine EqP.mk rfl rfl) | (with_reducible apply exW.mk) | (refine EqW.mk rfl) | (with_reducible first | intro _ | refine Dn.mk ?_) | (refine exS.full (by first | rfl | (simp; done) | (simp; omega)) ?_) | (refine And.intro (Ob.mk ⟨rfl, rfl, by first | rfl | (simp; done) | (simp; omega)⟩) ?_) | (with_reducible refine exE.mapD ?_) | (refine exL.int ?_) | (with_reducible first | refine Up0.mk rfl ?_ | refine Up0i.mk rfl ?_ | refine Up1.mk rfl ?_ | refine Up1i.mk rfl ?_ | refine Up2.mk rfl ?_ | refine Up2i.mk rfl ?_) | (refine Col.mk rfl rfl rfl ?_) | (refine Coli.mk rfl rfl rfl rfl ?_) | (refine pick22k _ _ ?_ ?_) | (refine exS.more ?_) | (refine dominators10k _ hg hwd hl ?_) | (refine back11k _ hg hwd hl ?_) | (refine reducible17k _ hg hwd hl ?_) | (refine PCalls.mono live14 ?_; rintro _ rfl) | (refine dominators10m hk ?_ ?_) | (refine exS.tellTo (toL (leadG W)).length ?_ ?_) | (refine sameS ?_))
      all_goals (try (refine Ob.mk ?_; first | assumption | exact ⟨rfl, rfl⟩ | exact ⟨rfl, rfl, rfl⟩ | (refine ⟨rfl, rfl, ?_⟩; simp only [List.length_map, List.length_take, List.length_append, els_len, List.length_replicate]; omega) | (intro h; exact h) | (intro h; rw [h]; rfl) | (intro h; simp_all; done) | (refine bytes_le (n := 1048577) ?_ rfl; simp only [ltI_iff, ltI_not, leI_iff, leI_not, eqI_iff, eqI_not, List.length_map, bif_and, bif_or, Bool.and_eq_true, Bool.and_eq_false_iff, Bool.or_eq_true, Bool.or_eq_false_iff, Bool.not_eq_true', Bool.not_eq_false', Int.toNat_natCast, beq_iff_eq, beq_eq_false_iff_ne, decide_eq_true_eq, decide_eq_false_iff_not, bel_iff, bel_not, wthn_iff, wthn_not, els_len, mixL_len, Nat.zero_add, List.length_set, List.length_take] at *; omega) | (simp only [ltI_iff, ltI_not, leI_iff, leI_not, eqI_iff, eqI_not, List.length_map, bif_and, bif_or, Bool.and_eq_true, Bool.and_eq_false_iff, Bool.or_eq_true, Bool.or_eq_false_iff, Bool.not_eq_true', Bool.not_eq_false', Int.toNat_natCast, beq_iff_eq, beq_eq_false_iff_ne, decide_eq_true_eq, decide_eq_false_iff_not, bel_iff, bel_not, wthn_iff, wthn_not, els_len, mixL_len, Nat.zero_add, List.length_set, List.length_take, Int.ofNat_eq_natCast] at *; omega)))
      all_goals (try have hb2 := hlt (by assumption))
      · refine Ob.mk ⟨?_, ?_⟩
        · rw [Int.toNat_natCast]
          refine hMw _ (nthD_mem hb2) _ (nthD_mem ?_)
          have h4 : ltI 0 (((((nthD more ((b : Int)).toNat).map fun n => T.int .i64 n).length : Nat)) : Int) = true := by assumption
          rw [ltI_iff, List.length_map, Int.toNat_natCast] at h4
          show 0 < _
          omega
        · rw [List.length_map, List.length_map, lead_len, addI_i64 (by omega) (by omega)]; omega
      · conv => whnf
        refine ⟨more.length - (b + 1), by omega, b + 1, ?_, ?_, hb2, rfl⟩
        · rw [addI_i64 (by omega) (by omega)]; rfl
        · refine more_st (more_key hb2 ?_) ?_
          · rw [moreL_at hb2, Int.toNat_natCast, List.length_map, List.length_map, lead_len, addI_i64 (by omega) (by omega)]
            have h4 : ltI 0 (((((nthD more ((b : Int)).toNat).map fun n => T.int .i64 n).length : Nat)) : Int) = true := by assumption
            rw [ltI_iff, List.length_map, Int.toNat_natCast] at h4
            generalize nthD more b = l at *
            cases l with
            | nil => simp at h4
            | cons c l =>
              rw [show nthD (c :: l) (Int.toNat 0) = c from nthD_eq rfl]
              rfl
          · rw [take_succD (by rw [moreL_len]; exact hb2), List.length_append]; rfl
      · conv => whnf
        refine ⟨more.length - (b + 1), by omega, b + 1, ?_, ?_, hb2, rfl⟩
        · rw [addI_i64 (by omega) (by omega)]; rfl
        · refine more_st (more_key hb2 ?_) ?_
          · rw [moreL_at hb2]
            have h4 : ltI 0 (((((nthD more ((b : Int)).toNat).map fun n => T.int .i64 n).length : Nat)) : Int) = false := by assumption
            rw [ltI_not, List.length_map, Int.toNat_natCast] at h4
            generalize nthD more b = l at *
            cases l with
            | nil => rfl
            | cons c l => exfalso; simp at h4; omega
          · rw [take_succD (by rw [moreL_len]; exact hb2), List.length_append]; rfl
      all_goals have hbM := hge (by assumption)
      all_goals (try (refine Ob.mk ⟨Int.le_refl _, ?_, ?_⟩ <;> simp [lead_len] <;> omega))
      all_goals (try (refine Ob.mk ⟨?_, ?_⟩ <;> simp [lead_len, toL_len] <;> omega))
      all_goals have e1 : eqI (((tellR (W.length + more.length) (domF (toL (leadG W)))).length : Nat) : Int) ((W.length + ((moreL (W.length + more.length) more).take b).length : Nat) : Int) = true := eqI_iff.2 (by simp [moreL_len]; omega)
      all_goals have e2 : eqI (((domsR (toL (leadG W))).length : Nat) : Int) (((leadG W).blocks.map Block.t).length : Nat) = true := eqI_iff.2 (by simp [toL_len])
      · rename_i h
        exfalso
        rw [e1, e2] at h
        cases h
      · conv => whnf
        refine LoopVC.mk [12] [] (fun m vals σ => ∃ c : Nat, vals = [.t (.int .i64 c)] ∧ σ = moreS2 W more ((moreL (W.length + more.length) more).take b) ∧ W.length ≤ c ∧ c ≤ W.length + more.length ∧ m = W.length + more.length - c) ?_ ?_
        · conv => whnf
          refine ⟨_, W.length, ?_, rfl, Nat.le_refl _, Nat.le_add_right _ _, rfl⟩
          rw [List.length_map, lead_len]
        · rintro m2 vals σ ⟨c, rfl, rfl, hc1, hc2, rfl⟩
          have hlt3 : ltI (c : Int) (((tellR (W.length + more.length) (domF (toL (leadG W)))).length : Nat) : Int) = true → c < W.length + more.length := fun h => by
            rw [ltI_iff] at h; simp at h; omega
          repeat' ((conv => whnf); first | (with_reducible first | refine onBool_intro (fun _ => ?_) (fun _ => ?_) | refine And.intro (Ob.mk (Nat.le_of_ble_eq_true rfl)) ?_ | refine And.intro (Ob.mk rfl) ?_ | exact ⟨rfl, rfl⟩ | refine And.intro (Ob.mk (fun h => h)) ?_) | (with_reducible refine Or.inl (And.intro (Ob.mk (Flat.map ?_)) ?_); exact fun _ => rfl) | (refine Or.inl (And.intro (Ob.mk (flat_of rfl)) ?_)) | (refine Or.inl (And.intro (Ob.mk ⟨rfl, rfl, rfl, rfl⟩) ?_)) | (refine Or.inl (And.intro (Ob.mk ⟨rfl, rfl, rfl⟩) ?_)) | (refine And.intro (Ob.mk ⟨rfl, rfl⟩) ?_) | (with_reducible refine Or.inr ?_) | (refine And.intro (Ob.mk (flat_of rfl)) ?_) | (with_reducible refine And.intro (Ob.mk (Flat.map ?_)) ?_; exact fun _ => rfl) | (with_reducible first | exact Ob.mk (Flat.map fun _ => rfl) | refine And.intro ?_ ?_ | apply exG.mk | apply exGS.mk | exact Dd.nil) | (refine Dd.same _ ?_) | (refine Dd.dead _ ?_) | (with_reducible first | apply exQ.mk | apply exP.mk) | (refine EqP.mk rfl rfl) | (with_reducible apply exW.mk) | (refine EqW.mk rfl) | (with_reducible first | intro _ | refine Dn.mk ?_) | (refine exS.full (by first | rfl | (simp; done) | (simp; omega)) ?_) | (refine And.intro (Ob.mk ⟨rfl, rfl, by first | rfl | (simp; done) | (simp; omega)⟩) ?_) | (with_reducible refine exE.mapD ?_) | (refine exL.int ?_) | (with_reducible first | refine Up0.mk rfl ?_ | refine Up0i.mk rfl ?_ | refine Up1.mk rfl ?_ | refine Up1i.mk rfl ?_ | refine Up2.mk rfl ?_ | refine Up2i.mk rfl ?_) | (refine Col.mk rfl rfl rfl ?_) | (refine Coli.mk rfl rfl rfl rfl ?_) | (refine exS.more ?_) | (refine back11k _ hg hwd hl ?_) | (refine back11m hk ?_ ?_) | (refine sameES ?_) | (refine reducible17k _ hg hwd hl ?_) | (refine reducible17m hk ?_ ?_) | (refine drawVC.mkM _ _ 13 13 [] [[], [0], [], [0, 1, 2], [0, 1, 2, 3], [0, 1, 2, 3, 4], [0, 1, 2, 3, 4, 5], [0, 1, 2, 3, 4, 5, 6], [0, 1, 2, 3, 4, 5], [0, 1, 2, 3, 4, 5, 6, 7, 8], [0, 1, 2, 3, 4, 5, 6, 7, 8, 9], [0, 1, 2, 3, 4, 5, 6, 7, 8, 9, 10], [0, 1, 2, 3, 4, 5, 6, 7, 8, 9, 10, 11]] rfl (by kernel_rfl) ?_))
          all_goals (try (refine Ob.mk ?_; first | assumption | exact ⟨rfl, rfl⟩ | exact ⟨rfl, rfl, rfl⟩ | (refine ⟨rfl, rfl, ?_⟩; simp only [List.length_map, List.length_take, List.length_append, els_len, List.length_replicate]; omega) | (intro h; exact h) | (intro h; rw [h]; rfl) | (intro h; simp_all; done) | (refine bytes_le (n := 1048577) ?_ rfl; simp only [ltI_iff, ltI_not, leI_iff, leI_not, eqI_iff, eqI_not, List.length_map, bif_and, bif_or, Bool.and_eq_true, Bool.and_eq_false_iff, Bool.or_eq_true, Bool.or_eq_false_iff, Bool.not_eq_true', Bool.not_eq_false', Int.toNat_natCast, beq_iff_eq, beq_eq_false_iff_ne, decide_eq_true_eq, decide_eq_false_iff_not, bel_iff, bel_not, wthn_iff, wthn_not, els_len, mixL_len, Nat.zero_add, List.length_set, List.length_take] at *; omega) | (simp only [ltI_iff, ltI_not, leI_iff, leI_not, eqI_iff, eqI_not, List.length_map, bif_and, bif_or, Bool.and_eq_true, Bool.and_eq_false_iff, Bool.or_eq_true, Bool.or_eq_false_iff, Bool.not_eq_true', Bool.not_eq_false', Int.toNat_natCast, beq_iff_eq, beq_eq_false_iff_ne, decide_eq_true_eq, decide_eq_false_iff_not, bel_iff, bel_not, wthn_iff, wthn_not, els_len, mixL_len, Nat.zero_add, List.length_set, List.length_take, Int.ofNat_eq_natCast] at *; omega)))
          all_goals (try exact Ob.mk (by omega))
          all_goals (try have hc3 := hlt3 (by assumption))
          · rename_i h
            exfalso
            rw [Nat.zero_add, Int.toNat_natCast, nthD_range hc3, domF_far hl hc1, show eqI (-1) (-1) = true from eqI_iff.2 rfl] at h
            cases h
          · conv => whnf
            refine ⟨W.length + more.length - (c + 1), by omega, c + 1, ?_, rfl, by omega, hc3, rfl⟩
            rw [addI_i64 (by omega) (by omega)]; rfl
          · show T.bool (_ == _) = T.bool true
            rw [beq_self_eq_true]
theorem law5k (raw : List (List Int)) (hn : raw.length ≤ 2 ^ 20) (hr : ∀ l ∈ raw, l.length ≤ 2 ^ 20 ∧ ∀ x ∈ l, I64 x) (more : List (List Int)) (hn2 : more.length ≤ 2 ^ 20) (hr2 : ∀ l ∈ more, l.length ≤ 2 ^ 20 ∧ ∀ x ∈ l, I64 x) : PCalls Try.prog 5 [listsL raw, listsL more] (fun r => r = .bool true) :=
  law5 raw more (fun l hl => (hr l hl).2) hn (fun l hl => (hr l hl).1) (fun l hl => (hr2 l hl).2) hn2 fun l hl => (hr2 l hl).1
end Go.Proofs.Ytgladinljapmkaa.Am
