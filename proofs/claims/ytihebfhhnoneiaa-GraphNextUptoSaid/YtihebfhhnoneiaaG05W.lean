/- Where a block leads, by the program. -/
import Derived.Test.YtihebfhhnoneiaaG05V
import Derived.Test.YtihebfhhnoneiaaG05T
namespace Go.Proofs.Ytihebfhhnoneiaa.Am
open Go Go.Proofs
set_option maxRecDepth 10000
set_option linter.unusedVariables false
set_option linter.unusedSimpArgs false

theorem putE_keys (n : Int) (v : T) : ∀ es : List (Int × T), (∀ x, x ∈ (putE n v es).map (·.1) ↔ x = n ∨ x ∈ es.map (·.1)) ∧ ((es.map (·.1)).Nodup → ((putE n v es).map (·.1)).Nodup) ∧ (putE n v es).length ≤ es.length + 1
  | [] => ⟨by simp [putE], by simp [putE], by simp [putE]⟩
  | (m, u) :: es => by
    obtain ⟨h1, h2, h3⟩ := putE_keys n v es
    simp only [putE]
    by_cases hm : m = n
    · rw [if_pos hm]
      subst hm
      refine ⟨fun x => ?_, fun h => h, by simp⟩
      simp
    · rw [if_neg hm]
      refine ⟨fun x => ?_, fun h => ?_, by simp; omega⟩
      · simp only [List.map_cons, List.mem_cons, h1]
        constructor
        · rintro (h | h | h)
          · exact .inr (.inl h)
          · exact .inl h
          · exact .inr (.inr h)
        · rintro (h | h | h)
          · exact .inr (.inl h)
          · exact .inl h
          · exact .inr (.inr h)
      · simp only [List.map_cons, List.nodup_cons] at h ⊢
        refine ⟨fun hx => ?_, h2 h.2⟩
        rcases (h1 m).1 hx with e | hx
        · exact hm e
        · exact h.1 hx
theorem putE_int' {k : IntKind} {n c : Int} {kc : List (Int × Int)} : ∃ kc' : List (Int × Int), putE n (.int k c) (kc.map fun p => (p.1, T.int k p.2)) = kc'.map (fun p => (p.1, T.int k p.2)) := by
  obtain ⟨kc', h, _⟩ := putE_int (k := k) (n := n) (c := c) (kc := kc)
  exact ⟨kc', h⟩
theorem exL.put {k : IntKind} {n m c : Int} {kc : List (Int × Int)} {K : T → Prop} (h : ∀ d, K (.int k d)) : exL (putE m (.int k c) (kc.map fun p => (p.1, .int k p.2))) n (.int k 0) K := by
  obtain ⟨kc', e⟩ := putE_int' (k := k) (n := m) (c := c) (kc := kc)
  rw [e]
  exact exL.int (h _)
theorem exL.put0 {k : IntKind} {n m c : Int} {K : T → Prop} (h : ∀ d, K (.int k d)) : exL (putE m (.int k c) []) n (.int k 0) K := exL.put (kc := []) h
theorem exL.none {k : IntKind} {n : Int} {K : T → Prop} (h : K (.int k 0)) : exL [] n (.int k 0) K := ⟨h⟩
theorem exL.none' {k : IntKind} {n : Int} {K : T → Prop} (h : ∀ d, K (.int k d)) : exL [] n (.int k 0) K := exL.none (h 0)

theorem sorted39k {es : List (Int × T)} (hw : Ob (∀ x ∈ es.map (·.1), I64 x)) (hl : Ob (es.length ≤ 2 ^ 21)) (hnd : Ob ((es.map (·.1)).Nodup)) {q : T → Prop} (hq : q (.own 3 (ilist (srt (es.map (·.1)))))) : PCalls Try.prog 39 [.fn 69 [.box (.map .i64 es)]] q :=
  PCalls.mono (sorted39 es (fun p hp => hw.out _ (List.mem_map.2 ⟨p, hp, rfl⟩)) hl.out hnd.out) fun _ h => h ▸ hq

theorem one_keys {n : Int} {u : T} : (∀ {x : Int}, x ∈ (putE n u []).map (·.1) ↔ x ∈ [n]) ∧ ((putE n u []).map (·.1)).Nodup ∧ (putE n u []).length ≤ 1 := by
  refine ⟨fun {x} => ?_, (putE_keys n u []).2.1 List.nodup_nil, (putE_keys n u []).2.2⟩
  rw [(putE_keys n u []).1]
  simp
theorem more_keys {n : Int} {u : T} {es : List (Int × T)} {l : List Int} (h : ∀ x, x ∈ es.map (·.1) ↔ x ∈ l) (hn : (es.map (·.1)).Nodup) : (∀ {x : Int}, x ∈ (putE n u es).map (·.1) ↔ x ∈ n :: l) ∧ ((putE n u es).map (·.1)).Nodup ∧ (putE n u es).length ≤ es.length + 1 := by
  refine ⟨fun {x} => ?_, (putE_keys n u es).2.1 hn, (putE_keys n u es).2.2⟩
  rw [(putE_keys n u es).1, h, List.mem_cons]
theorem two_keys {n m : Int} {u v : T} : (∀ {x : Int}, x ∈ (putE n u (putE m v [])).map (·.1) ↔ x ∈ [n, m]) ∧ ((putE n u (putE m v [])).map (·.1)).Nodup ∧ (putE n u (putE m v [])).length ≤ 2 := by
  obtain ⟨h1, h2, h3⟩ := more_keys (n := n) (u := u) (es := putE m v []) (l := [m]) (fun x => one_keys.1) one_keys.2.1
  exact ⟨h1, h2, Nat.le_trans h3 (Nat.succ_le_succ one_keys.2.2)⟩

theorem int_keys {kc : List (Int × Int)} (x : Int) : x ∈ (kc.map fun p => (p.1, T.int .i64 p.2)).map (·.1) ↔ x ∈ kc.map (·.1) := by rw [List.map_map]; rfl
theorem int_nodup {kc : List (Int × Int)} (h : (kc.map (·.1)).Nodup) : ((kc.map fun p => (p.1, T.int .i64 p.2)).map (·.1)).Nodup := by rw [List.map_map]; exact h
theorem putE_int2 {n c : Int} {kc : List (Int × Int)} (hn : (kc.map (·.1)).Nodup) : ∃ kc' : List (Int × Int), putE n (.int .i64 c) (kc.map fun p => (p.1, T.int .i64 p.2)) = kc'.map (fun p => (p.1, T.int .i64 p.2)) ∧
    (∀ m, m ∈ kc'.map (·.1) ↔ m = n ∨ m ∈ kc.map (·.1)) ∧ (kc'.map (·.1)).Nodup ∧ kc'.length ≤ kc.length + 1 := by
  obtain ⟨kc', e, h1, _⟩ := putE_int (k := .i64) (n := n) (c := c) (kc := kc)
  obtain ⟨_, h2, h3⟩ := putE_keys n (.int .i64 c) (kc.map fun p => (p.1, T.int .i64 p.2))
  refine ⟨kc', e, h1, ?_, ?_⟩
  · have := h2 (int_nodup hn)
    rw [e, List.map_map] at this
    exact this
  · rw [e] at h3
    simpa using h3

theorem next13 (g : Graph) (b : Int) (hg : g.tiny) (hw : ∀ x ∈ allN (nthD g.blocks b.toNat).fin, I64 x) : PCalls Try.prog 13 [g.t, .int .i64 b] (fun r => r = .own 3 (ilist (nextN g b))) := by
  refine PCalls.of_bodyO ttOk 3 1 Try.func13 rfl ?_
  have hbt := block_tiny g hg b.toNat
  have hlen := all_len hbt
  have hcs := hbt.cases
  have hts := hbt.targets
  repeat' ((conv => whnf); first
    | (with_reducible refine onBool_intro (fun _ => ?_) (fun _ => ?_))
    | (with_reducible refine And.intro (Ob.mk (Nat.le_of_ble_eq_true rfl)) ?_)
    | (with_reducible refine And.intro (Ob.mk rfl) ?_)
    | (with_reducible exact ⟨rfl, rfl⟩)
    | (with_reducible refine And.intro (Ob.mk (fun h => h)) ?_)
    | (with_reducible refine And.intro ?_ ?_)
    | (with_reducible apply exG.mk) | (with_reducible apply exGS.mk) | (with_reducible exact Dd.nil) | (refine Dd.same _ ?_) | (refine Dd.dead _ ?_) | (with_reducible apply exQ.mk)
    | (with_reducible intro _) | (with_reducible refine Dn.mk ?_)
    | (with_reducible refine exE.mapD ?_) | (refine exL.int ?_)
    | (with_reducible refine Up0.mk rfl ?_) | (with_reducible refine Up0i.mk rfl ?_) | (with_reducible refine Up1.mk rfl ?_) | (with_reducible refine Up1i.mk rfl ?_) | (with_reducible refine Up2.mk rfl ?_) | (with_reducible refine Up2i.mk rfl ?_)
    | (refine Col.mk rfl rfl rfl ?_) | (refine Coli.mk rfl rfl rfl rfl ?_)
    | (refine PCalls.mono (below38 _ _) ?_; rintro _ rfl)
    | (refine exL.put0 ?_)
    | (refine exL.none' ?_)
    | (refine PCalls.mono (keys40 _) ?_; rintro _ rfl)
    | (refine sorted39k ?_ ?_ ?_ ?_))
  all_goals (try (refine Ob.mk ?_; first | assumption | (intro h; exact h) | (intro h; rw [h]; rfl) | (intro h; simp_all; done) | (refine bytes_le (n := 1048577) ?_ rfl; simp only [ltI_iff, ltI_not, leI_iff, leI_not, eqI_iff, eqI_not, List.length_map, bif_and, bif_or, Bool.and_eq_true, Bool.and_eq_false_iff, Bool.or_eq_true, Bool.or_eq_false_iff, Bool.not_eq_true', Bool.not_eq_false', Int.toNat_natCast, beq_iff_eq, beq_eq_false_iff_ne, decide_eq_true_eq, decide_eq_false_iff_not, bel_iff, bel_not, wthn_iff, wthn_not] at *; omega) | (simp only [ltI_iff, ltI_not, leI_iff, leI_not, eqI_iff, eqI_not, List.length_map, bif_and, bif_or, Bool.and_eq_true, Bool.and_eq_false_iff, Bool.or_eq_true, Bool.or_eq_false_iff, Bool.not_eq_true', Bool.not_eq_false', Int.toNat_natCast, beq_iff_eq, beq_eq_false_iff_ne, decide_eq_true_eq, decide_eq_false_iff_not, bel_iff, bel_not, wthn_iff, wthn_not, Int.ofNat_eq_natCast] at *; omega)))
  all_goals (try exact Ob.mk ⟨rfl, rfl, rfl, rfl⟩)
  · rename_i h1
    exact congrArg (fun l => T.own 3 (ilist l)) (nextN_out h1).symm
  · rename_i h1 _ _
    refine Ob.mk fun x hx => hw x ?_
    rw [allN_2 h1]
    exact two_keys.1.1 hx
  · exact Ob.mk (Nat.le_trans two_keys.2.2 (by omega))
  · exact Ob.mk two_keys.2.1
  · rename_i h0 h1 _ _
    refine congrArg (fun l => T.own 3 (ilist l)) ?_
    rw [nextN_in h0, allN_2 h1]
    exact srt_congr fun x => two_keys.1
  · rename_i h0 _ h1 _
    conv => whnf
    refine LoopVC.mk [38] [] (fun m vals σ => ∃ (i : Nat) (kc : List (Int × Int)), vals = [.t (.int .i64 i)] ∧ σ = [gvar g, evar (nthD g.blocks b.toNat).fin, .map .i64 (kc.map fun p => (p.1, T.int .i64 p.2))] ∧ i ≤ (nthD g.blocks b.toNat).fin.cases.length ∧ m = (nthD g.blocks b.toNat).fin.cases.length - i ∧
      (∀ x, x ∈ kc.map (·.1) ↔ x ∈ ((nthD g.blocks b.toNat).fin.cases.take i).map (·.to)) ∧ (kc.map (·.1)).Nodup ∧ kc.length ≤ i) ?_ ?_
    · conv => whnf
      exact ⟨(nthD g.blocks b.toNat).fin.cases.length, 0, [], rfl, rfl, Nat.zero_le _, rfl, by simp, List.nodup_nil, Nat.le_refl _⟩
    · rintro m vals σ ⟨i, kc, rfl, rfl, hi, rfl, hk1, hk2, hk3⟩
      repeat' ((conv => whnf); first
    | (with_reducible refine onBool_intro (fun _ => ?_) (fun _ => ?_))
    | (with_reducible refine And.intro (Ob.mk (Nat.le_of_ble_eq_true rfl)) ?_)
    | (with_reducible refine And.intro (Ob.mk rfl) ?_)
    | (with_reducible exact ⟨rfl, rfl⟩)
    | (with_reducible refine And.intro (Ob.mk (fun h => h)) ?_)
    | (with_reducible refine And.intro ?_ ?_)
    | (with_reducible apply exG.mk) | (with_reducible apply exGS.mk) | (with_reducible exact Dd.nil) | (refine Dd.same _ ?_) | (refine Dd.dead _ ?_) | (with_reducible apply exQ.mk)
    | (with_reducible intro _) | (with_reducible refine Dn.mk ?_)
    | (with_reducible refine exE.mapD ?_) | (refine exL.int ?_)
    | (with_reducible refine Up0.mk rfl ?_) | (with_reducible refine Up0i.mk rfl ?_) | (with_reducible refine Up1.mk rfl ?_) | (with_reducible refine Up1i.mk rfl ?_) | (with_reducible refine Up2.mk rfl ?_) | (with_reducible refine Up2i.mk rfl ?_)
    | (refine Col.mk rfl rfl rfl ?_) | (refine Coli.mk rfl rfl rfl rfl ?_)
    | (refine PCalls.mono (keys40 _) ?_; rintro _ rfl)
    | (refine sorted39k ?_ ?_ ?_ ?_))
      all_goals (try (refine Ob.mk ?_; first | assumption | (intro h; exact h) | (intro h; rw [h]; rfl) | (intro h; simp_all; done) | (refine bytes_le (n := 1048577) ?_ rfl; simp only [ltI_iff, ltI_not, leI_iff, leI_not, eqI_iff, eqI_not, List.length_map, bif_and, bif_or, Bool.and_eq_true, Bool.and_eq_false_iff, Bool.or_eq_true, Bool.or_eq_false_iff, Bool.not_eq_true', Bool.not_eq_false', Int.toNat_natCast, beq_iff_eq, beq_eq_false_iff_ne, decide_eq_true_eq, decide_eq_false_iff_not, bel_iff, bel_not, wthn_iff, wthn_not] at *; omega) | (simp only [ltI_iff, ltI_not, leI_iff, leI_not, eqI_iff, eqI_not, List.length_map, bif_and, bif_or, Bool.and_eq_true, Bool.and_eq_false_iff, Bool.or_eq_true, Bool.or_eq_false_iff, Bool.not_eq_true', Bool.not_eq_false', Int.toNat_natCast, beq_iff_eq, beq_eq_false_iff_ne, decide_eq_true_eq, decide_eq_false_iff_not, bel_iff, bel_not, wthn_iff, wthn_not, Int.ofNat_eq_natCast] at *; omega)))
      · rename_i h2
        have hlt : i < (nthD g.blocks b.toNat).fin.cases.length := by simp only [ltI_iff, ltI_not, leI_iff, leI_not, eqI_iff, eqI_not, List.length_map, bif_and, bif_or, Bool.and_eq_true, Bool.and_eq_false_iff, Bool.or_eq_true, Bool.or_eq_false_iff, Bool.not_eq_true', Bool.not_eq_false', Int.toNat_natCast, beq_iff_eq, beq_eq_false_iff_ne, decide_eq_true_eq, decide_eq_false_iff_not] at *; omega
        conv => whnf
        obtain ⟨kc', e, k1, k2, k3⟩ := putE_int2 (n := (nthD (nthD g.blocks b.toNat).fin.cases i).to) (c := addI .i64 (lookC ((nthD (nthD g.blocks b.toNat).fin.cases i).to) kc) 1) hk2
        refine ⟨(nthD g.blocks b.toNat).fin.cases.length - (i + 1), by omega, i + 1, kc', ?_, ?_, hlt, rfl, ?_, k2, by omega⟩
        · rw [addI_i64 (by omega) (by omega)]; rfl
        · rw [← e]; rfl
        · intro x
          rw [k1, hk1, take_succ_nthD hlt, List.map_append, List.mem_append]
          simp
          exact Or.comm
      · rename_i h2
        have hge : (nthD g.blocks b.toNat).fin.cases.length ≤ i := by simp only [ltI_iff, ltI_not, leI_iff, leI_not, eqI_iff, eqI_not, List.length_map, bif_and, bif_or, Bool.and_eq_true, Bool.and_eq_false_iff, Bool.or_eq_true, Bool.or_eq_false_iff, Bool.not_eq_true', Bool.not_eq_false', Int.toNat_natCast, beq_iff_eq, beq_eq_false_iff_ne, decide_eq_true_eq, decide_eq_false_iff_not] at *; omega
        refine Ob.mk fun x hx => hw x ?_
        rw [List.take_of_length_le hge] at hk1
        rw [allN_3 h1]
        exact (more_keys (fun x => (int_keys x).trans (hk1 x)) (int_nodup hk2)).1.1 hx
      · refine Ob.mk (Nat.le_trans (putE_keys _ _ _).2.2 ?_)
        rw [List.length_map]
        omega
      · exact Ob.mk ((putE_keys _ _ _).2.1 (int_nodup hk2))
      · exact Ob.mk ⟨rfl, rfl, rfl, rfl⟩
      · rename_i h2
        have hge : (nthD g.blocks b.toNat).fin.cases.length ≤ i := by simp only [ltI_iff, ltI_not, leI_iff, leI_not, eqI_iff, eqI_not, List.length_map, bif_and, bif_or, Bool.and_eq_true, Bool.and_eq_false_iff, Bool.or_eq_true, Bool.or_eq_false_iff, Bool.not_eq_true', Bool.not_eq_false', Int.toNat_natCast, beq_iff_eq, beq_eq_false_iff_ne, decide_eq_true_eq, decide_eq_false_iff_not] at *; omega
        rw [List.take_of_length_le hge] at hk1
        refine congrArg (fun l => T.own 3 (ilist l)) ?_
        rw [nextN_in h0, allN_3 h1]
        exact srt_congr fun x => (more_keys (fun x => (int_keys x).trans (hk1 x)) (int_nodup hk2)).1
  · rename_i h0 _ _ h1 _
    conv => whnf
    refine LoopVC.mk [53] [] (fun m vals σ => ∃ (i : Nat) (kc : List (Int × Int)), vals = [.t (.int .i64 i)] ∧ σ = [gvar g, evar (nthD g.blocks b.toNat).fin, .map .i64 (kc.map fun p => (p.1, T.int .i64 p.2))] ∧ i ≤ (nthD g.blocks b.toNat).fin.targets.length ∧ m = (nthD g.blocks b.toNat).fin.targets.length - i ∧
      (∀ x, x ∈ kc.map (·.1) ↔ x ∈ (nthD g.blocks b.toNat).fin.targets.take i) ∧ (kc.map (·.1)).Nodup ∧ kc.length ≤ i) ?_ ?_
    · conv => whnf
      exact ⟨(nthD g.blocks b.toNat).fin.targets.length, 0, [], rfl, rfl, Nat.zero_le _, rfl, by simp, List.nodup_nil, Nat.le_refl _⟩
    · rintro m vals σ ⟨i, kc, rfl, rfl, hi, rfl, hk1, hk2, hk3⟩
      repeat' ((conv => whnf); first
    | (with_reducible refine onBool_intro (fun _ => ?_) (fun _ => ?_))
    | (with_reducible refine And.intro (Ob.mk (Nat.le_of_ble_eq_true rfl)) ?_)
    | (with_reducible refine And.intro (Ob.mk rfl) ?_)
    | (with_reducible exact ⟨rfl, rfl⟩)
    | (with_reducible refine And.intro (Ob.mk (fun h => h)) ?_)
    | (with_reducible refine And.intro ?_ ?_)
    | (with_reducible apply exG.mk) | (with_reducible apply exGS.mk) | (with_reducible exact Dd.nil) | (refine Dd.same _ ?_) | (refine Dd.dead _ ?_) | (with_reducible apply exQ.mk)
    | (with_reducible intro _) | (with_reducible refine Dn.mk ?_)
    | (with_reducible refine exE.mapD ?_) | (refine exL.int ?_)
    | (with_reducible refine Up0.mk rfl ?_) | (with_reducible refine Up0i.mk rfl ?_) | (with_reducible refine Up1.mk rfl ?_) | (with_reducible refine Up1i.mk rfl ?_) | (with_reducible refine Up2.mk rfl ?_) | (with_reducible refine Up2i.mk rfl ?_)
    | (refine Col.mk rfl rfl rfl ?_) | (refine Coli.mk rfl rfl rfl rfl ?_)
    | (refine PCalls.mono (keys40 _) ?_; rintro _ rfl)
    | (refine sorted39k ?_ ?_ ?_ ?_))
      all_goals (try (refine Ob.mk ?_; first | assumption | (intro h; exact h) | (intro h; rw [h]; rfl) | (intro h; simp_all; done) | (refine bytes_le (n := 1048577) ?_ rfl; simp only [ltI_iff, ltI_not, leI_iff, leI_not, eqI_iff, eqI_not, List.length_map, bif_and, bif_or, Bool.and_eq_true, Bool.and_eq_false_iff, Bool.or_eq_true, Bool.or_eq_false_iff, Bool.not_eq_true', Bool.not_eq_false', Int.toNat_natCast, beq_iff_eq, beq_eq_false_iff_ne, decide_eq_true_eq, decide_eq_false_iff_not, bel_iff, bel_not, wthn_iff, wthn_not] at *; omega) | (simp only [ltI_iff, ltI_not, leI_iff, leI_not, eqI_iff, eqI_not, List.length_map, bif_and, bif_or, Bool.and_eq_true, Bool.and_eq_false_iff, Bool.or_eq_true, Bool.or_eq_false_iff, Bool.not_eq_true', Bool.not_eq_false', Int.toNat_natCast, beq_iff_eq, beq_eq_false_iff_ne, decide_eq_true_eq, decide_eq_false_iff_not, bel_iff, bel_not, wthn_iff, wthn_not, Int.ofNat_eq_natCast] at *; omega)))
      · rename_i h2
        have hlt : i < (nthD g.blocks b.toNat).fin.targets.length := by simp only [ltI_iff, ltI_not, leI_iff, leI_not, eqI_iff, eqI_not, List.length_map, bif_and, bif_or, Bool.and_eq_true, Bool.and_eq_false_iff, Bool.or_eq_true, Bool.or_eq_false_iff, Bool.not_eq_true', Bool.not_eq_false', Int.toNat_natCast, beq_iff_eq, beq_eq_false_iff_ne, decide_eq_true_eq, decide_eq_false_iff_not] at *; omega
        conv => whnf
        obtain ⟨kc', e, k1, k2, k3⟩ := putE_int2 (n := nthD (nthD g.blocks b.toNat).fin.targets i) (c := addI .i64 (lookC (nthD (nthD g.blocks b.toNat).fin.targets i) kc) 1) hk2
        refine ⟨(nthD g.blocks b.toNat).fin.targets.length - (i + 1), by omega, i + 1, kc', ?_, ?_, hlt, rfl, ?_, k2, by omega⟩
        · rw [addI_i64 (by omega) (by omega)]; rfl
        · rw [← e]; rfl
        · intro x
          rw [k1, hk1, take_succ_nthD hlt,  List.mem_append]
          simp
          exact Or.comm
      · rename_i h2
        have hge : (nthD g.blocks b.toNat).fin.targets.length ≤ i := by simp only [ltI_iff, ltI_not, leI_iff, leI_not, eqI_iff, eqI_not, List.length_map, bif_and, bif_or, Bool.and_eq_true, Bool.and_eq_false_iff, Bool.or_eq_true, Bool.or_eq_false_iff, Bool.not_eq_true', Bool.not_eq_false', Int.toNat_natCast, beq_iff_eq, beq_eq_false_iff_ne, decide_eq_true_eq, decide_eq_false_iff_not] at *; omega
        refine Ob.mk fun x hx => hw x ?_
        rw [List.take_of_length_le hge] at hk1
        rw [allN_4 h1]
        exact (more_keys (fun x => (int_keys x).trans (hk1 x)) (int_nodup hk2)).1.1 hx
      · refine Ob.mk (Nat.le_trans (putE_keys _ _ _).2.2 ?_)
        rw [List.length_map]
        omega
      · exact Ob.mk ((putE_keys _ _ _).2.1 (int_nodup hk2))
      · exact Ob.mk ⟨rfl, rfl, rfl, rfl⟩
      · rename_i h2
        have hge : (nthD g.blocks b.toNat).fin.targets.length ≤ i := by simp only [ltI_iff, ltI_not, leI_iff, leI_not, eqI_iff, eqI_not, List.length_map, bif_and, bif_or, Bool.and_eq_true, Bool.and_eq_false_iff, Bool.or_eq_true, Bool.or_eq_false_iff, Bool.not_eq_true', Bool.not_eq_false', Int.toNat_natCast, beq_iff_eq, beq_eq_false_iff_ne, decide_eq_true_eq, decide_eq_false_iff_not] at *; omega
        rw [List.take_of_length_le hge] at hk1
        refine congrArg (fun l => T.own 3 (ilist l)) ?_
        rw [nextN_in h0, allN_4 h1]
        exact srt_congr fun x => (more_keys (fun x => (int_keys x).trans (hk1 x)) (int_nodup hk2)).1
  · rename_i h1 _
    refine Ob.mk fun x hx => hw x ?_
    rw [allN_1 h1]
    exact one_keys.1.1 hx
  · exact Ob.mk (Nat.le_trans one_keys.2.2 (by omega))
  · exact Ob.mk one_keys.2.1
  · rename_i h0 _ _ _ h1 _
    refine congrArg (fun l => T.own 3 (ilist l)) ?_
    rw [nextN_in h0, allN_1 h1]
    exact srt_congr fun x => one_keys.1
  · rename_i h0 h2 h3 h4 h1
    exact congrArg (fun l => T.own 3 (ilist l)) ((nextN_in h0).trans (by rw [allN_5 h1 h2 h3 h4, srt_nil])).symm
end Go.Proofs.Ytihebfhhnoneiaa.Am
