/- Loops: back edges, by the document's answer. -/
import Derived.Test.YtgladinljapmkaaUR
/- Loops: is a graph reducible? by the program. -/
namespace Go.Proofs.Ytgladinljapmkaa.Am
open Go Go.Proofs
set_option maxRecDepth 10000
set_option maxHeartbeats 2000000
set_option linter.unusedVariables false
set_option linter.unusedSimpArgs false
def MapC (es : List (Int × T)) (f : Int → Int) : Prop := ∀ n, (look n es).getD (.int .i64 0) = .int .i64 (f n)
theorem MapC.nil : MapC [] fun _ => 0 := fun n => rfl
theorem MapC.ent {es : List (Int × T)} {f : Int → Int} {n : Int} (h : MapC es f) : MapC (entE n (.int .i64 0) es) f := fun m => by
  unfold entE
  rw [look_ent]; exact h m
theorem MapC.put {es : List (Int × T)} {f : Int → Int} {n v : Int} (h : MapC es f) : MapC (putE n (.int .i64 v) es) fun m => if n = m then v else f m := fun m => by
  rw [look_putE]
  by_cases e : n = m
  · rw [if_pos e]
    show _ = T.int .i64 (if n = m then v else f m)
    rw [if_pos e]; rfl
  · rw [if_neg e]
    show _ = T.int .i64 (if n = m then v else f m)
    rw [if_neg e]; exact h m
theorem exL.mapC {es : List (Int × T)} (f : Int → Int) {n : Int} {K : T → Prop} (h : Ob (MapC es f)) (hk : K (.int .i64 (f n))) : exL es n (.int .i64 0) K := ⟨by rw [h.out n]; exact hk⟩
noncomputable def cntF (l : List (Int × Int)) (n : Int) : Int := ((l.countP fun p => decide (codeL [p.1, p.2] = n) : Nat) : Int)
theorem cntF_succ {l : List (Int × Int)} {i : Nat} (hi : i < l.length) : (fun m => if codeL [(nthD l i).1, (nthD l i).2] = m then cntF (l.take i) (codeL [(nthD l i).1, (nthD l i).2]) + 1 else cntF (l.take i) m) = cntF (l.take (i + 1)) := by
  funext m
  have e : l.take (i + 1) = l.take i ++ [nthD l i] := by rw [List.take_add_one, List.getElem?_eq_getElem hi, nthD_get hi]; rfl
  unfold cntF
  rw [e, List.countP_append, List.countP_cons, List.countP_nil]
  by_cases h : codeL [(nthD l i).1, (nthD l i).2] = m
  · rw [if_pos h, h]
    simp
  · rw [if_neg h]
    simp [h]
theorem cntF_le {l : List (Int × Int)} {n : Int} : 0 ≤ cntF l n ∧ cntF l n ≤ l.length := by
  unfold cntF
  have := List.countP_le_length (l := l) (p := fun p => decide (codeL [p.1, p.2] = n))
  omega
theorem backL_mem {to : List (List Int)} {a : Nat} {b : Int} (ha : a < to.length) (hb : b ∈ nthD to a) : ((a : Int), b) ∈ backL to ↔ domB to b.toNat a = true := by
  unfold backL backP backE
  rw [List.mem_flatMap]
  constructor
  · rintro ⟨x, hx, h⟩
    obtain ⟨y, hy, e⟩ := List.mem_map.1 h
    rw [List.mem_filter] at hy
    injection e with e1 e2
    have : x = a := by omega
    subst this e2
    exact hy.2
  · intro h
    refine ⟨a, List.mem_range.2 ha, List.mem_map.2 ⟨b, List.mem_filter.2 ⟨?_, h⟩, rfl⟩⟩
    rw [List.take_length]; exact hb
theorem cnt_back {to : List (List Int)} {a : Nat} {b : Int} (ha : a < to.length) (hb : b ∈ nthD to a) : 0 < cntF (backL to) (codeL [(a : Int), b]) ↔ domB to b.toNat a = true := by
  rw [← backL_mem ha hb]
  unfold cntF
  constructor
  · intro h
    have h : 0 < (backL to).countP fun p => decide (codeL [p.1, p.2] = codeL [(a : Int), b]) := by omega
    obtain ⟨p, hp, he⟩ := List.countP_pos_iff.1 h
    have := codeL_inj (of_decide_eq_true he)
    injection this with e1 e2
    injection e2 with e2 _
    rw [← e1, ← e2]; exact hp
  · intro h
    have : 0 < (backL to).countP fun p => decide (codeL [p.1, p.2] = codeL [(a : Int), b]) := List.countP_pos_iff.2 ⟨_, h, by simp⟩
    omega
theorem flatP {p : Int × Int} : FlatA (pairT p).cells := fun z hz => by
  have hz : z ∈ [T.int .i64 p.1, T.int .i64 p.2] := hz
  simp at hz
  rcases hz with rfl | rfl <;> rfl
theorem fR_take {to : List (List Int)} {a k : Nat} {l : List Int} (hk : k < l.length) : fR to a (l.take (k + 1)) = fR to a (l.take k) ++ (if domB to (nthD l k).toNat a then [] else [(nthD l k).toNat]) := by
  rw [take_succN hk, fR_append]
  congr 1
  rw [fR_cons, fR_nil, List.append_nil]
theorem fAll_take {to : List (List Int)} {o : List Nat} {i : Nat} (hi : i < o.length) : fAll to (o.take (i + 1)) = fAll to (o.take i) ++ fR to (nthD o i) (nthD to (nthD o i)) := by
  have e : o.take (i + 1) = o.take i ++ [nthD o i] := by rw [List.take_add_one, List.getElem?_eq_getElem hi, nthD_get hi]; rfl
  rw [e, fAll_append, fAll_one]
abbrev clO (es : List (Int × T)) : SObj := .nd e0 (.map (.arr .i64 2) es)
theorem congr_rows3 {g : Graph} {es : List (Int × T)} {pr A A' B B' : List T} {t t1 t2 n n1 n2 : Nat} (h1 : A = A') (h2 : B = B') :
    [gvar g, clO es, .row t n pr, SObj.row t1 n1 A, .dead, .dead, .row t2 n2 B] = [gvar g, clO es, .row t n pr, SObj.row t1 n1 A', .dead, .dead, .row t2 n2 B'] := by rw [h1, h2]
theorem reducible17 (g : Graph) (hg : g.tiny) (hw : ∀ b ∈ g.blocks, ∀ x ∈ allN b.fin, I64 x) : PCalls Try.prog 17 [g.t] (fun r => Ob ((g.leads ∧ r = .bool (redB (toL g))) ∨ (¬ g.leads ∧ r = .bool false))) := by
  by_cases hl : g.leads
  · have hlen : (toL g).length ≤ 20000 := by rw [toL_len]; exact hl.most
    have hW := hl.walk
    have hr := hl.small
    have hr2 := hl.short
    have h1 := hW.one
    refine PCalls.of_body ttOk Try.func17 rfl ?_
    repeat' ((conv => whnf); first | (with_reducible first | refine onBool_intro (fun _ => ?_) (fun _ => ?_) | refine And.intro (Ob.mk (Nat.le_of_ble_eq_true rfl)) ?_ | refine And.intro (Ob.mk rfl) ?_ | exact ⟨rfl, rfl⟩ | refine And.intro (Ob.mk (fun h => h)) ?_) | (with_reducible refine Or.inl (And.intro (Ob.mk (Flat.map ?_)) ?_); exact fun _ => rfl) | (refine Or.inl (And.intro (Ob.mk (flat_of rfl)) ?_)) | (refine Or.inl (And.intro (Ob.mk ⟨rfl, rfl, rfl, rfl⟩) ?_)) | (refine Or.inl (And.intro (Ob.mk ⟨rfl, rfl, rfl⟩) ?_)) | (refine And.intro (Ob.mk ⟨rfl, rfl⟩) ?_) | (with_reducible refine Or.inr ?_) | (refine And.intro (Ob.mk (flat_of rfl)) ?_) | (with_reducible refine And.intro (Ob.mk (Flat.map ?_)) ?_; exact fun _ => rfl) | (with_reducible first | exact Ob.mk (Flat.map fun _ => rfl) | refine And.intro ?_ ?_ | apply exG.mk | apply exGS.mk | exact Dd.nil) | (refine Dd.same _ ?_) | (refine Dd.dead _ ?_) | (with_reducible first | apply exQ.mk | apply exP.mk) | (refine EqP.mk rfl rfl) | (with_reducible apply exW.mk) | (refine EqW.mk rfl) | (with_reducible first | intro _ | refine Dn.mk ?_) | (refine exS.full (by first | rfl | (simp; done) | (simp; omega)) ?_) | (refine And.intro (Ob.mk ⟨rfl, rfl, by first | rfl | (simp; done) | (simp; omega)⟩) ?_) | (with_reducible refine exE.mapD ?_) | (refine exL.int ?_) | (with_reducible first | refine Up0.mk rfl ?_ | refine Up0i.mk rfl ?_ | refine Up1.mk rfl ?_ | refine Up1i.mk rfl ?_ | refine Up2.mk rfl ?_ | refine Up2i.mk rfl ?_) | (refine Col.mk rfl rfl rfl ?_) | (refine Coli.mk rfl rfl rfl rfl ?_) | (refine edges27k g hg hw hl ?_) | (refine back29k (toL g) hW hlen hr2 ?_))
    all_goals (try (refine Ob.mk ?_; first | assumption | exact ⟨rfl, rfl⟩ | exact ⟨rfl, rfl, rfl⟩ | (refine ⟨rfl, rfl, ?_⟩; simp only [List.length_map, List.length_take, List.length_append, els_len, List.length_replicate]; omega) | (intro h; exact h) | (intro h; rw [h]; rfl) | (intro h; simp_all; done) | (refine bytes_le (n := 1048577) ?_ rfl; simp only [ltI_iff, ltI_not, leI_iff, leI_not, eqI_iff, eqI_not, List.length_map, bif_and, bif_or, Bool.and_eq_true, Bool.and_eq_false_iff, Bool.or_eq_true, Bool.or_eq_false_iff, Bool.not_eq_true', Bool.not_eq_false', Int.toNat_natCast, beq_iff_eq, beq_eq_false_iff_ne, decide_eq_true_eq, decide_eq_false_iff_not, bel_iff, bel_not, wthn_iff, wthn_not, els_len, mixL_len, Nat.zero_add, List.length_set, List.length_take] at *; omega) | (simp only [ltI_iff, ltI_not, leI_iff, leI_not, eqI_iff, eqI_not, List.length_map, bif_and, bif_or, Bool.and_eq_true, Bool.and_eq_false_iff, Bool.or_eq_true, Bool.or_eq_false_iff, Bool.not_eq_true', Bool.not_eq_false', Int.toNat_natCast, beq_iff_eq, beq_eq_false_iff_ne, decide_eq_true_eq, decide_eq_false_iff_not, bel_iff, bel_not, wthn_iff, wthn_not, els_len, mixL_len, Nat.zero_add, List.length_set, List.length_take, Int.ofNat_eq_natCast] at *; omega)))
    all_goals (try (exfalso; rename_i h3 h4; rw [h3 (toL_ne hl)] at h4; cases h4; done))
    generalize toL g = to at *
    have hbl : (backL to).length ≤ 20000 * 2 ^ 20 := Nat.le_trans (backP_len hr2 (Nat.le_refl _)) (Nat.mul_le_mul_right _ hlen)
    conv => whnf
    refine LoopVC.mk [26] [] (fun m vals σ => ∃ (i : Nat) (es : List (Int × T)), vals = [.t (.int .i64 i)] ∧ σ = [gvar g, clO es, .row 35 2 (pairsR (backL to))] ∧ i ≤ (backL to).length ∧ MapC es (cntF ((backL to).take i)) ∧ m = (backL to).length - i) ?_ ?_
    · conv => whnf
      exact ⟨_, 0, [], rfl, rfl, Nat.zero_le _, .nil, rfl⟩
    · rintro m vals σ ⟨i, es, rfl, rfl, hi, hM, rfl⟩
      repeat' ((conv => whnf); first | (with_reducible first | refine onBool_intro (fun _ => ?_) (fun _ => ?_) | refine And.intro (Ob.mk (Nat.le_of_ble_eq_true rfl)) ?_ | refine And.intro (Ob.mk rfl) ?_ | exact ⟨rfl, rfl⟩ | refine And.intro (Ob.mk (fun h => h)) ?_) | (with_reducible refine Or.inl (And.intro (Ob.mk (Flat.map ?_)) ?_); exact fun _ => rfl) | (refine Or.inl (And.intro (Ob.mk (flat_of rfl)) ?_)) | (refine Or.inl (And.intro (Ob.mk ⟨rfl, rfl, rfl, rfl⟩) ?_)) | (refine Or.inl (And.intro (Ob.mk ⟨rfl, rfl, rfl⟩) ?_)) | (refine And.intro (Ob.mk ⟨rfl, rfl⟩) ?_) | (with_reducible refine Or.inr ?_) | (refine And.intro (Ob.mk (flat_of rfl)) ?_) | (with_reducible refine And.intro (Ob.mk (Flat.map ?_)) ?_; exact fun _ => rfl) | (with_reducible first | exact Ob.mk (Flat.map fun _ => rfl) | refine And.intro ?_ ?_ | apply exG.mk | apply exGS.mk | exact Dd.nil) | (refine Dd.same _ ?_) | (refine Dd.dead _ ?_) | (with_reducible first | apply exQ.mk | apply exP.mk) | (refine EqP.mk rfl rfl) | (with_reducible apply exW.mk) | (refine EqW.mk rfl) | (with_reducible first | intro _ | refine Dn.mk ?_) | (refine exS.full (by first | rfl | (simp; done) | (simp; omega)) ?_) | (refine And.intro (Ob.mk ⟨rfl, rfl, by first | rfl | (simp; done) | (simp; omega)⟩) ?_) | (with_reducible refine exE.mapD ?_) | (refine exL.int ?_) | (with_reducible first | refine Up0.mk rfl ?_ | refine Up0i.mk rfl ?_ | refine Up1.mk rfl ?_ | refine Up1i.mk rfl ?_ | refine Up2.mk rfl ?_ | refine Up2i.mk rfl ?_) | (refine Col.mk rfl rfl rfl ?_) | (refine Coli.mk rfl rfl rfl rfl ?_) | (refine drawVC.mkM _ _ 7 7 [(4, [2, 3]), (5, [2, 3]), (6, [])] [[], [], [0, 1], [0, 1, 2], [0, 1], [0, 1, 4], [0, 1, 2, 3, 4, 5]] rfl (by kernel_rfl) ?_) | (refine exL.mapC (cntF ((backL to).take i)) ?_ ?_) | (refine exSt.put ?_) | (with_reducible apply exV.mk) | (refine EqV.mk rfl rfl))
      all_goals (try (refine Ob.mk ?_; first | assumption | exact ⟨rfl, rfl⟩ | exact ⟨rfl, rfl, rfl⟩ | (refine ⟨rfl, rfl, ?_⟩; simp only [List.length_map, List.length_take, List.length_append, els_len, List.length_replicate]; omega) | (intro h; exact h) | (intro h; rw [h]; rfl) | (intro h; simp_all; done) | (refine bytes_le (n := 1048577) ?_ rfl; simp only [ltI_iff, ltI_not, leI_iff, leI_not, eqI_iff, eqI_not, List.length_map, bif_and, bif_or, Bool.and_eq_true, Bool.and_eq_false_iff, Bool.or_eq_true, Bool.or_eq_false_iff, Bool.not_eq_true', Bool.not_eq_false', Int.toNat_natCast, beq_iff_eq, beq_eq_false_iff_ne, decide_eq_true_eq, decide_eq_false_iff_not, bel_iff, bel_not, wthn_iff, wthn_not, els_len, mixL_len, Nat.zero_add, List.length_set, List.length_take] at *; omega) | (simp only [ltI_iff, ltI_not, leI_iff, leI_not, eqI_iff, eqI_not, List.length_map, bif_and, bif_or, Bool.and_eq_true, Bool.and_eq_false_iff, Bool.or_eq_true, Bool.or_eq_false_iff, Bool.not_eq_true', Bool.not_eq_false', Int.toNat_natCast, beq_iff_eq, beq_eq_false_iff_ne, decide_eq_true_eq, decide_eq_false_iff_not, bel_iff, bel_not, wthn_iff, wthn_not, els_len, mixL_len, Nat.zero_add, List.length_set, List.length_take, Int.ofNat_eq_natCast] at *; omega)))
      all_goals (try exact Ob.mk flatP)
      all_goals (try exact Ob.mk hM.ent)
      · conv => whnf
        have hi2 : i < (backL to).length := by
          have h3 : ltI (i : Int) (((pairsR (backL to)).length : Nat) : Int) = true := by assumption
          rw [ltI_iff, List.length_map] at h3; omega
        have ei : 0 + ((i : Int)).toNat = i := by simp
        have hc := cntF_le (l := (backL to).take i) (n := codeL [(nthD (backL to) i).1, (nthD (backL to) i).2])
        have hcl : ((backL to).take i).length ≤ (backL to).length := by rw [List.length_take]; omega
        refine ⟨(backL to).length - (i + 1), by omega, i + 1, _, ?_, rfl, hi2, ?_, rfl⟩
        · rw [addI_i64 (by omega) (by omega)]; rfl
        · rw [ei, addI_i64 (by omega) (by omega), ← cntF_succ hi2]
          exact hM.put
      · refine Ob.mk ?_
        show (_ : Int) * ((8 : Nat) : Int) ≤ _
        rw [List.length_map]; omega
      · rename_i h3 _
        have hi3 : i = (backL to).length := by
          rw [ltI_not, List.length_map] at h3; omega
        subst hi3
        rw [List.take_length] at hM
        repeat' ((conv => whnf); first | (with_reducible first | refine onBool_intro (fun _ => ?_) (fun _ => ?_) | refine And.intro (Ob.mk (Nat.le_of_ble_eq_true rfl)) ?_ | refine And.intro (Ob.mk rfl) ?_ | exact ⟨rfl, rfl⟩ | refine And.intro (Ob.mk (fun h => h)) ?_) | (with_reducible refine Or.inl (And.intro (Ob.mk (Flat.map ?_)) ?_); exact fun _ => rfl) | (refine Or.inl (And.intro (Ob.mk (flat_of rfl)) ?_)) | (refine Or.inl (And.intro (Ob.mk ⟨rfl, rfl, rfl, rfl⟩) ?_)) | (refine Or.inl (And.intro (Ob.mk ⟨rfl, rfl, rfl⟩) ?_)) | (refine And.intro (Ob.mk ⟨rfl, rfl⟩) ?_) | (with_reducible refine Or.inr ?_) | (refine And.intro (Ob.mk (flat_of rfl)) ?_) | (with_reducible refine And.intro (Ob.mk (Flat.map ?_)) ?_; exact fun _ => rfl) | (with_reducible first | exact Ob.mk (Flat.map fun _ => rfl) | refine And.intro ?_ ?_ | apply exG.mk | apply exGS.mk | exact Dd.nil) | (refine Dd.same _ ?_) | (refine Dd.dead _ ?_) | (with_reducible first | apply exQ.mk | apply exP.mk) | (refine EqP.mk rfl rfl) | (with_reducible apply exW.mk) | (refine EqW.mk rfl) | (with_reducible first | intro _ | refine Dn.mk ?_) | (refine exS.full (by first | rfl | (simp; done) | (simp; omega)) ?_) | (refine And.intro (Ob.mk ⟨rfl, rfl, by first | rfl | (simp; done) | (simp; omega)⟩) ?_) | (with_reducible refine exE.mapD ?_) | (refine exL.int ?_) | (with_reducible first | refine Up0.mk rfl ?_ | refine Up0i.mk rfl ?_ | refine Up1.mk rfl ?_ | refine Up1i.mk rfl ?_ | refine Up2.mk rfl ?_ | refine Up2i.mk rfl ?_) | (refine Col.mk rfl rfl rfl ?_) | (refine Coli.mk rfl rfl rfl rfl ?_) | (refine behind40k to hW hlen hr2 ?_))
        rename_i o hL _
        have hol := nodup_lt_len hL.nodup fun x hx => hW.rch ((hL.mem x).1 hx)
        have hfl : ∀ L : List Nat, L.length ≤ 20000 → (∀ a ∈ L, a < to.length) → (fAll to L).length ≤ 20000 * 20000 := fun L hLl hLm =>
          Nat.le_trans (fAll_len (m := 20000) fun a ha => hr _ (nthD_mem (hLm a ha))) (Nat.mul_le_mul_right _ hLl)
        have hom : ∀ a ∈ o, a < to.length := fun a ha => hW.rch ((hL.mem a).1 ha)
        conv => whnf
        refine LoopVC.mk [44] [] (fun m vals σ => ∃ i : Nat, vals = [.t (.int .i64 i)] ∧ σ = [gvar g, clO es, .row 35 2 (pairsR (backL to)), .row 3 1 (tellR to.length fun b => ((fAll to (o.take i)).count b : Nat))] ∧ i ≤ o.length ∧ m = o.length - i) ?_ ?_
        · conv => whnf
          refine ⟨_, 0, rfl, ?_, Nat.zero_le _, rfl⟩
          rw [List.length_map, Int.toNat_natCast]
          exact congrArg (fun z => [gvar g, clO es, .row 35 2 (pairsR (backL to)), SObj.row 3 1 z]) tellR_zero
        · rintro m vals σ ⟨i, rfl, rfl, hi, rfl⟩
          have hit : i < o.length → nthD o i < to.length := fun h => hom _ (nthD_mem h)
          repeat' ((conv => whnf); first | (with_reducible first | refine onBool_intro (fun _ => ?_) (fun _ => ?_) | refine And.intro (Ob.mk (Nat.le_of_ble_eq_true rfl)) ?_ | refine And.intro (Ob.mk rfl) ?_ | exact ⟨rfl, rfl⟩ | refine And.intro (Ob.mk (fun h => h)) ?_) | (with_reducible refine Or.inl (And.intro (Ob.mk (Flat.map ?_)) ?_); exact fun _ => rfl) | (refine Or.inl (And.intro (Ob.mk (flat_of rfl)) ?_)) | (refine Or.inl (And.intro (Ob.mk ⟨rfl, rfl, rfl, rfl⟩) ?_)) | (refine Or.inl (And.intro (Ob.mk ⟨rfl, rfl, rfl⟩) ?_)) | (refine And.intro (Ob.mk ⟨rfl, rfl⟩) ?_) | (with_reducible refine Or.inr ?_) | (refine And.intro (Ob.mk (flat_of rfl)) ?_) | (with_reducible refine And.intro (Ob.mk (Flat.map ?_)) ?_; exact fun _ => rfl) | (with_reducible first | exact Ob.mk (Flat.map fun _ => rfl) | refine And.intro ?_ ?_ | apply exG.mk | apply exGS.mk | exact Dd.nil) | (refine Dd.same _ ?_) | (refine Dd.dead _ ?_) | (with_reducible first | apply exQ.mk | apply exP.mk) | (refine EqP.mk rfl rfl) | (with_reducible apply exW.mk) | (refine EqW.mk rfl) | (with_reducible first | intro _ | refine Dn.mk ?_) | (refine exS.full (by first | rfl | (simp; done) | (simp; omega)) ?_) | (refine And.intro (Ob.mk ⟨rfl, rfl, by first | rfl | (simp; done) | (simp; omega)⟩) ?_) | (with_reducible refine exE.mapD ?_) | (refine exL.int ?_) | (with_reducible first | refine Up0.mk rfl ?_ | refine Up0i.mk rfl ?_ | refine Up1.mk rfl ?_ | refine Up1i.mk rfl ?_ | refine Up2.mk rfl ?_ | refine Up2i.mk rfl ?_) | (refine Col.mk rfl rfl rfl ?_) | (refine Coli.mk rfl rfl rfl rfl ?_))
          all_goals (try (refine Ob.mk ?_; first | assumption | exact ⟨rfl, rfl⟩ | exact ⟨rfl, rfl, rfl⟩ | (refine ⟨rfl, rfl, ?_⟩; simp only [List.length_map, List.length_take, List.length_append, els_len, List.length_replicate]; omega) | (intro h; exact h) | (intro h; rw [h]; rfl) | (intro h; simp_all; done) | (refine bytes_le (n := 1048577) ?_ rfl; simp only [ltI_iff, ltI_not, leI_iff, leI_not, eqI_iff, eqI_not, List.length_map, bif_and, bif_or, Bool.and_eq_true, Bool.and_eq_false_iff, Bool.or_eq_true, Bool.or_eq_false_iff, Bool.not_eq_true', Bool.not_eq_false', Int.toNat_natCast, beq_iff_eq, beq_eq_false_iff_ne, decide_eq_true_eq, decide_eq_false_iff_not, bel_iff, bel_not, wthn_iff, wthn_not, els_len, mixL_len, Nat.zero_add, List.length_set, List.length_take] at *; omega) | (simp only [ltI_iff, ltI_not, leI_iff, leI_not, eqI_iff, eqI_not, List.length_map, bif_and, bif_or, Bool.and_eq_true, Bool.and_eq_false_iff, Bool.or_eq_true, Bool.or_eq_false_iff, Bool.not_eq_true', Bool.not_eq_false', Int.toNat_natCast, beq_iff_eq, beq_eq_false_iff_ne, decide_eq_true_eq, decide_eq_false_iff_not, bel_iff, bel_not, wthn_iff, wthn_not, els_len, mixL_len, Nat.zero_add, List.length_set, List.length_take, Int.ofNat_eq_natCast] at *; omega)))
          · have hi2 : i < o.length := by
              have h3 : ltI (i : Int) (((numsR o).length : Nat) : Int) = true := by assumption
              rw [ltI_iff, List.length_map] at h3; omega
            have hal := hit hi2
            have har : Rch (EdgeL to) (nthD o i) := (hL.mem _).1 (nthD_mem hi2)
            have hrl := hr _ (nthD_mem hal)
            have hb1 := hfl (o.take i) (by rw [List.length_take]; omega) fun a ha => hom a (List.mem_of_mem_take ha)
            conv => whnf
            refine LoopVC.mk [53] [] (fun m vals σ => ∃ k : Nat, vals = [.t (.int .i64 k)] ∧ σ = [gvar g, clO es, .row 35 2 (pairsR (backL to)), .row 3 1 (tellR to.length fun b => ((fAll to (o.take i) ++ fR to (nthD o i) ((nthD to (nthD o i)).take k)).count b : Nat))] ∧ k ≤ (nthD to (nthD o i)).length ∧ m = (nthD to (nthD o i)).length - k) ?_ ?_
            · conv => whnf
              refine ⟨_, 0, rfl, ?_, Nat.zero_le _, rfl⟩
              rw [List.take_zero, fR_nil, List.append_nil]
            · rintro m2 vals σ ⟨k, rfl, rfl, hk, rfl⟩
              have hb2 := fR_len (to := to) (a := nthD o i) (l := (nthD to (nthD o i)).take k)
              have hkk : ltI (k : Int) ((((nthD to (((nthD o ((i : Int)).toNat : Nat) : Int)).toNat).map fun n => T.int .i64 n).length : Nat) : Int) = true → k < (nthD to (nthD o i)).length := fun h => by
                rw [ltI_iff, List.length_map, Int.toNat_natCast, Int.toNat_natCast] at h; omega
              have hrg : k < (nthD to (nthD o i)).length → 0 ≤ nthD (nthD to (nthD o i)) k ∧ nthD (nthD to (nthD o i)) k < to.length := fun h => hW.rng _ hal _ (nthD_mem h)
              have ebk : nthD (nthD to (((nthD o ((i : Int)).toNat : Nat) : Int)).toNat) ((k : Int)).toNat = nthD (nthD to (nthD o i)) k := by rw [Int.toNat_natCast, Int.toNat_natCast, Int.toNat_natCast]
              have eoi : nthD o ((i : Int)).toNat = nthD o i := by rw [Int.toNat_natCast]
              repeat' ((conv => whnf); first | (with_reducible first | refine onBool_intro (fun _ => ?_) (fun _ => ?_) | refine And.intro (Ob.mk (Nat.le_of_ble_eq_true rfl)) ?_ | refine And.intro (Ob.mk rfl) ?_ | exact ⟨rfl, rfl⟩ | refine And.intro (Ob.mk (fun h => h)) ?_) | (with_reducible refine Or.inl (And.intro (Ob.mk (Flat.map ?_)) ?_); exact fun _ => rfl) | (refine Or.inl (And.intro (Ob.mk (flat_of rfl)) ?_)) | (refine Or.inl (And.intro (Ob.mk ⟨rfl, rfl, rfl, rfl⟩) ?_)) | (refine Or.inl (And.intro (Ob.mk ⟨rfl, rfl, rfl⟩) ?_)) | (refine And.intro (Ob.mk ⟨rfl, rfl⟩) ?_) | (with_reducible refine Or.inr ?_) | (refine And.intro (Ob.mk (flat_of rfl)) ?_) | (with_reducible refine And.intro (Ob.mk (Flat.map ?_)) ?_; exact fun _ => rfl) | (with_reducible first | exact Ob.mk (Flat.map fun _ => rfl) | refine And.intro ?_ ?_ | apply exG.mk | apply exGS.mk | exact Dd.nil) | (refine Dd.same _ ?_) | (refine Dd.dead _ ?_) | (with_reducible first | apply exQ.mk | apply exP.mk) | (refine EqP.mk rfl rfl) | (with_reducible apply exW.mk) | (refine EqW.mk rfl) | (with_reducible first | intro _ | refine Dn.mk ?_) | (refine exS.full (by first | rfl | (simp; done) | (simp; omega)) ?_) | (refine And.intro (Ob.mk ⟨rfl, rfl, by first | rfl | (simp; done) | (simp; omega)⟩) ?_) | (with_reducible refine exE.mapD ?_) | (refine exL.int ?_) | (with_reducible first | refine Up0.mk rfl ?_ | refine Up0i.mk rfl ?_ | refine Up1.mk rfl ?_ | refine Up1i.mk rfl ?_ | refine Up2.mk rfl ?_ | refine Up2i.mk rfl ?_) | (refine Col.mk rfl rfl rfl ?_) | (refine Coli.mk rfl rfl rfl rfl ?_) | (refine exL.mapC (cntF (backL to)) ?_ ?_))
              all_goals (try (refine Ob.mk ?_; first | assumption | exact ⟨rfl, rfl⟩ | exact ⟨rfl, rfl, rfl⟩ | (refine ⟨rfl, rfl, ?_⟩; simp only [List.length_map, List.length_take, List.length_append, els_len, List.length_replicate]; omega) | (intro h; exact h) | (intro h; rw [h]; rfl) | (intro h; simp_all; done) | (refine bytes_le (n := 1048577) ?_ rfl; simp only [ltI_iff, ltI_not, leI_iff, leI_not, eqI_iff, eqI_not, List.length_map, bif_and, bif_or, Bool.and_eq_true, Bool.and_eq_false_iff, Bool.or_eq_true, Bool.or_eq_false_iff, Bool.not_eq_true', Bool.not_eq_false', Int.toNat_natCast, beq_iff_eq, beq_eq_false_iff_ne, decide_eq_true_eq, decide_eq_false_iff_not, bel_iff, bel_not, wthn_iff, wthn_not, els_len, mixL_len, Nat.zero_add, List.length_set, List.length_take] at *; omega) | (simp only [ltI_iff, ltI_not, leI_iff, leI_not, eqI_iff, eqI_not, List.length_map, bif_and, bif_or, Bool.and_eq_true, Bool.and_eq_false_iff, Bool.or_eq_true, Bool.or_eq_false_iff, Bool.not_eq_true', Bool.not_eq_false', Int.toNat_natCast, beq_iff_eq, beq_eq_false_iff_ne, decide_eq_true_eq, decide_eq_false_iff_not, bel_iff, bel_not, wthn_iff, wthn_not, els_len, mixL_len, Nat.zero_add, List.length_set, List.length_take, Int.ofNat_eq_natCast] at *; omega)))
              all_goals (try exact Ob.mk hM)
              all_goals (try have hk3 := hkk (by assumption))
              all_goals (try (refine Ob.mk ?_; rw [ebk]; have := hrg hk3; simp; omega))
              all_goals (try (refine Ob.mk ?_; rw [ebk]; have := hrg hk3; omega))
              · conv => whnf
                have hd : domB to (nthD (nthD to (nthD o i)) k).toNat (nthD o i) = false := by
                  have h4 : eqI (cntF (backL to) (codeL [((nthD o ((i : Int)).toNat : Nat) : Int), nthD (nthD to (((nthD o ((i : Int)).toNat : Nat) : Int)).toNat) ((k : Int)).toNat])) 0 = true := by assumption
                  rw [ebk, eoi, eqI_iff] at h4
                  rw [Bool.eq_false_iff]
                  intro h5
                  have := (cnt_back hal (nthD_mem hk3)).2 h5
                  omega
                have hr3 := hrg hk3
                refine ⟨(nthD to (nthD o i)).length - (k + 1), by omega, k + 1, ?_, ?_, by omega, rfl⟩
                · rw [addI_i64 (by omega) (by omega)]; rfl
                · refine congrArg (fun z => [gvar g, clO es, .row 35 2 (pairsR (backL to)), SObj.row 3 1 z]) ?_
                  refine (tellR_set rfl).trans (tellR_congr fun j hj => ?_)
                  have et := fR_take (to := to) (a := nthD o i) hk3
                  rw [hd] at et
                  have et : fR to (nthD o i) ((nthD to (nthD o i)).take (k + 1)) = fR to (nthD o i) ((nthD to (nthD o i)).take k) ++ [(nthD (nthD to (nthD o i)) k).toNat] := et
                  have hlt : ((nthD to (nthD o i)).take k).length ≤ 20000 := by rw [List.length_take]; omega
                  have hXl : (fAll to (o.take i) ++ fR to (nthD o i) ((nthD to (nthD o i)).take k)).length ≤ 400020000 := by rw [List.length_append]; omega
                  rw [ebk, Nat.zero_add, nthD_range (by omega), et, ← List.append_assoc]
                  generalize fAll to (o.take i) ++ fR to (nthD o i) ((nthD to (nthD o i)).take k) = X at *
                  have hcl := List.count_le_length (a := (nthD (nthD to (nthD o i)) k).toNat) (l := X)
                  rw [List.count_append]
                  dsimp only
                  by_cases e : j = (nthD (nthD to (nthD o i)) k).toNat
                  · rw [if_pos e, e, addI_i64 (by omega) (by omega)]
                    simp
                  · rw [if_neg e]
                    have : ¬ (nthD (nthD to (nthD o i)) k).toNat = j := fun h => e h.symm
                    simp [List.count_cons, this]
              · conv => whnf
                have hd : domB to (nthD (nthD to (nthD o i)) k).toNat (nthD o i) = true := by
                  have h4 : eqI (cntF (backL to) (codeL [((nthD o ((i : Int)).toNat : Nat) : Int), nthD (nthD to (((nthD o ((i : Int)).toNat : Nat) : Int)).toNat) ((k : Int)).toNat])) 0 = false := by assumption
                  rw [ebk, eoi, eqI_not] at h4
                  have := cntF_le (l := backL to) (n := codeL [((nthD o i : Nat) : Int), nthD (nthD to (nthD o i)) k])
                  exact (cnt_back hal (nthD_mem hk3)).1 (by omega)
                refine ⟨(nthD to (nthD o i)).length - (k + 1), by omega, k + 1, ?_, ?_, by omega, rfl⟩
                · rw [addI_i64 (by omega) (by omega)]; rfl
                · rw [fR_take hk3, if_pos hd, List.append_nil]
              · conv => whnf
                have hk4 : k = (nthD to (nthD o i)).length := by
                  have h3 : ltI (k : Int) ((((nthD to (((nthD o ((i : Int)).toNat : Nat) : Int)).toNat).map fun n => T.int .i64 n).length : Nat) : Int) = false := by assumption
                  rw [ltI_not, List.length_map, Int.toNat_natCast, Int.toNat_natCast] at h3
                  omega
                refine ⟨o.length - (i + 1), by omega, i + 1, ?_, ?_, hi2, rfl⟩
                · rw [addI_i64 (by omega) (by omega)]; rfl
                · rw [fAll_take hi2, hk4, List.take_length]
          · exact Ob.mk (by simp; omega)
          · exfalso
            rename_i h3 h4
            have hi4 : i = o.length := by
              rw [ltI_not, List.length_map] at h3; omega
            subst hi4
            rw [ltI_iff] at h4
            have h4 : (0 : Int) < ((fAll to (o.take o.length)).count (nthD (List.range to.length) (0 + Int.toNat 0)) : Nat) := h4
            rw [List.take_length, show 0 + Int.toNat 0 = 0 from rfl, nthD_range (by omega)] at h4
            have h5 : 0 < (fAll to o).count 0 := by omega
            obtain ⟨a, _, h6⟩ := (fAll_mem hW fun a ha => (hL.mem a).1 ha).1 (List.count_pos_iff.1 h5)
            exact Forth.zero h6
          · rename_i h3 _
            have hi4 : i = o.length := by
              rw [ltI_not, List.length_map] at h3; omega
            subst hi4
            rw [List.take_length]
            conv => whnf
            refine LoopVC.mk [13, 14] [] (fun m vals σ => ∃ (P l : List Nat) (u : Nat → Int) (junk : List T), vals = [.t (.int .i64 (P.length : Nat)), .osl 5 0 l.length] ∧ σ = [gvar g, clO es, .row 35 2 (pairsR (backL to)), .row 3 1 (tellR to.length u), .dead, .row 3 1 (numsR l ++ junk)] ∧ Kn to o P l u [] 0 ∧ m = o.length - P.length) ?_ ?_
            · conv => whnf
              exact ⟨_, [], [0], _, [], rfl, rfl, .init hW hL fun b => rfl, rfl⟩
            · rintro m vals σ ⟨P, l, u, junk, rfl, rfl, hK, rfl⟩
              have hPl := hK.len
              rcases List.eq_nil_or_concat l with rfl | ⟨L, a, e0⟩
              · repeat' ((conv => whnf); first | (with_reducible first | refine onBool_intro (fun _ => ?_) (fun _ => ?_) | refine And.intro (Ob.mk (Nat.le_of_ble_eq_true rfl)) ?_ | refine And.intro (Ob.mk rfl) ?_ | exact ⟨rfl, rfl⟩ | refine And.intro (Ob.mk (fun h => h)) ?_) | (with_reducible refine Or.inl (And.intro (Ob.mk (Flat.map ?_)) ?_); exact fun _ => rfl) | (refine Or.inl (And.intro (Ob.mk (flat_of rfl)) ?_)) | (refine Or.inl (And.intro (Ob.mk ⟨rfl, rfl, rfl, rfl⟩) ?_)) | (refine Or.inl (And.intro (Ob.mk ⟨rfl, rfl, rfl⟩) ?_)) | (refine And.intro (Ob.mk ⟨rfl, rfl⟩) ?_) | (with_reducible refine Or.inr ?_) | (refine And.intro (Ob.mk (flat_of rfl)) ?_) | (with_reducible refine And.intro (Ob.mk (Flat.map ?_)) ?_; exact fun _ => rfl) | (with_reducible first | exact Ob.mk (Flat.map fun _ => rfl) | refine And.intro ?_ ?_ | apply exG.mk | apply exGS.mk | exact Dd.nil) | (refine Dd.same _ ?_) | (refine Dd.dead _ ?_) | (with_reducible first | apply exQ.mk | apply exP.mk) | (refine EqP.mk rfl rfl) | (with_reducible apply exW.mk) | (refine EqW.mk rfl) | (with_reducible first | intro _ | refine Dn.mk ?_) | (refine exS.full (by first | rfl | (simp; done) | (simp; omega)) ?_) | (refine And.intro (Ob.mk ⟨rfl, rfl, by first | rfl | (simp; done) | (simp; omega)⟩) ?_) | (with_reducible refine exE.mapD ?_) | (refine exL.int ?_) | (with_reducible first | refine Up0.mk rfl ?_ | refine Up0i.mk rfl ?_ | refine Up1.mk rfl ?_ | refine Up1i.mk rfl ?_ | refine Up2.mk rfl ?_ | refine Up2i.mk rfl ?_) | (refine Col.mk rfl rfl rfl ?_) | (refine Coli.mk rfl rfl rfl rfl ?_))
                all_goals (try (refine Ob.mk ?_; first | assumption | exact ⟨rfl, rfl⟩ | exact ⟨rfl, rfl, rfl⟩ | (refine ⟨rfl, rfl, ?_⟩; simp only [List.length_map, List.length_take, List.length_append, els_len, List.length_replicate]; omega) | (intro h; exact h) | (intro h; rw [h]; rfl) | (intro h; simp_all; done) | (refine bytes_le (n := 1048577) ?_ rfl; simp only [ltI_iff, ltI_not, leI_iff, leI_not, eqI_iff, eqI_not, List.length_map, bif_and, bif_or, Bool.and_eq_true, Bool.and_eq_false_iff, Bool.or_eq_true, Bool.or_eq_false_iff, Bool.not_eq_true', Bool.not_eq_false', Int.toNat_natCast, beq_iff_eq, beq_eq_false_iff_ne, decide_eq_true_eq, decide_eq_false_iff_not, bel_iff, bel_not, wthn_iff, wthn_not, els_len, mixL_len, Nat.zero_add, List.length_set, List.length_take] at *; omega) | (simp only [ltI_iff, ltI_not, leI_iff, leI_not, eqI_iff, eqI_not, List.length_map, bif_and, bif_or, Bool.and_eq_true, Bool.and_eq_false_iff, Bool.or_eq_true, Bool.or_eq_false_iff, Bool.not_eq_true', Bool.not_eq_false', Int.toNat_natCast, beq_iff_eq, beq_eq_false_iff_ne, decide_eq_true_eq, decide_eq_false_iff_not, bel_iff, bel_not, wthn_iff, wthn_not, els_len, mixL_len, Nat.zero_add, List.length_set, List.length_take, Int.ofNat_eq_natCast] at *; omega)))
                all_goals (try (exfalso; have h3 : ltI 0 _ = true := (by assumption); have := ltI_iff.1 h3; simp at this; done))
                refine Ob.mk (.inl ⟨hl, ?_⟩)
                congr 1
                rw [Bool.eq_iff_iff, redB_iff, eqI_iff, ← hK.last hW hL, List.length_map]
                omega
              · rw [List.concat_eq_append] at e0
                subst e0
                have hL1 : (L ++ [a]).length = L.length + 1 := by simp
                have hao : a ∈ o := hK.sub a (by simp)
                have har := (hL.mem a).1 hao
                have hal := hom a hao
                have hrl := hr _ (nthD_mem hal)
                have esub : subI .i64 (((L ++ [a]).length : Nat) : Int) 1 = (L.length : Int) := by
                  rw [hL1, subI_i64 (by omega) (by omega)]; omega
                have hKp := hK.pop hW hL
                repeat' ((conv => whnf); first | (with_reducible first | refine onBool_intro (fun _ => ?_) (fun _ => ?_) | refine And.intro (Ob.mk (Nat.le_of_ble_eq_true rfl)) ?_ | refine And.intro (Ob.mk rfl) ?_ | exact ⟨rfl, rfl⟩ | refine And.intro (Ob.mk (fun h => h)) ?_) | (with_reducible refine Or.inl (And.intro (Ob.mk (Flat.map ?_)) ?_); exact fun _ => rfl) | (refine Or.inl (And.intro (Ob.mk (flat_of rfl)) ?_)) | (refine Or.inl (And.intro (Ob.mk ⟨rfl, rfl, rfl, rfl⟩) ?_)) | (refine Or.inl (And.intro (Ob.mk ⟨rfl, rfl, rfl⟩) ?_)) | (refine And.intro (Ob.mk ⟨rfl, rfl⟩) ?_) | (with_reducible refine Or.inr ?_) | (refine And.intro (Ob.mk (flat_of rfl)) ?_) | (with_reducible refine And.intro (Ob.mk (Flat.map ?_)) ?_; exact fun _ => rfl) | (with_reducible first | exact Ob.mk (Flat.map fun _ => rfl) | refine And.intro ?_ ?_ | apply exG.mk | apply exGS.mk | exact Dd.nil) | (refine Dd.same _ ?_) | (refine Dd.dead _ ?_) | (with_reducible first | apply exQ.mk | apply exP.mk) | (refine EqP.mk rfl rfl) | (with_reducible apply exW.mk) | (refine EqW.mk rfl) | (with_reducible first | intro _ | refine Dn.mk ?_) | (refine exS.full (by first | rfl | (simp; done) | (simp; omega)) ?_) | (refine And.intro (Ob.mk ⟨rfl, rfl, by first | rfl | (simp; done) | (simp; omega)⟩) ?_) | (with_reducible refine exE.mapD ?_) | (refine exL.int ?_) | (with_reducible first | refine Up0.mk rfl ?_ | refine Up0i.mk rfl ?_ | refine Up1.mk rfl ?_ | refine Up1i.mk rfl ?_ | refine Up2.mk rfl ?_ | refine Up2i.mk rfl ?_) | (refine Col.mk rfl rfl rfl ?_) | (refine Coli.mk rfl rfl rfl rfl ?_) | (refine exE.top ?_ ?_))
                all_goals (try (refine Ob.mk ?_; first | assumption | exact ⟨rfl, rfl⟩ | exact ⟨rfl, rfl, rfl⟩ | (refine ⟨rfl, rfl, ?_⟩; simp only [List.length_map, List.length_take, List.length_append, els_len, List.length_replicate]; omega) | (intro h; exact h) | (intro h; rw [h]; rfl) | (intro h; simp_all; done) | (refine bytes_le (n := 1048577) ?_ rfl; simp only [ltI_iff, ltI_not, leI_iff, leI_not, eqI_iff, eqI_not, List.length_map, bif_and, bif_or, Bool.and_eq_true, Bool.and_eq_false_iff, Bool.or_eq_true, Bool.or_eq_false_iff, Bool.not_eq_true', Bool.not_eq_false', Int.toNat_natCast, beq_iff_eq, beq_eq_false_iff_ne, decide_eq_true_eq, decide_eq_false_iff_not, bel_iff, bel_not, wthn_iff, wthn_not, els_len, mixL_len, Nat.zero_add, List.length_set, List.length_take] at *; omega) | (simp only [ltI_iff, ltI_not, leI_iff, leI_not, eqI_iff, eqI_not, List.length_map, bif_and, bif_or, Bool.and_eq_true, Bool.and_eq_false_iff, Bool.or_eq_true, Bool.or_eq_false_iff, Bool.not_eq_true', Bool.not_eq_false', Int.toNat_natCast, beq_iff_eq, beq_eq_false_iff_ne, decide_eq_true_eq, decide_eq_false_iff_not, bel_iff, bel_not, wthn_iff, wthn_not, els_len, mixL_len, Nat.zero_add, List.length_set, List.length_take, Int.ofNat_eq_natCast] at *; omega)))
                all_goals (try rw [esub])
                all_goals (try (refine Ob.mk ?_; simp; omega))
                all_goals (try (exfalso; have h3 : ltI 0 _ = false := (by assumption); have := ltI_not.1 h3; simp at this; omega))
                · refine Ob.mk ?_
                  rw [Int.toNat_natCast, List.length_append, List.length_map, hL1]; omega
                conv => whnf
                refine LoopVC.mk [97, 14] [] (fun m vals σ => ∃ (k : Nat) (l : List Nat) (u : Nat → Int) (junk : List T), vals = [.t (.int .i64 k), .osl 6 0 l.length] ∧ σ = [gvar g, clO es, .row 35 2 (pairsR (backL to)), .row 3 1 (tellR to.length u), .dead, .dead, .row 3 1 (numsR l ++ junk)] ∧ Kn to o (P ++ [a]) l u ((nthD to a).drop k) a ∧ k ≤ (nthD to a).length ∧ m = (nthD to a).length - k) ?_ ?_
                · conv => whnf
                  refine ⟨_, 0, L, u, .int .i64 (a : Nat) :: junk, ?_, ?_, hKp, Nat.zero_le _, rfl⟩
                  · simp
                  · refine congrArg (fun z => [gvar g, clO es, .row 35 2 (pairsR (backL to)), .row 3 1 (tellR to.length u), .dead, .dead, SObj.row 3 1 z]) ?_
                    simp
                · rintro m2 vals σ ⟨k, l, u2, junk2, rfl, rfl, hK2, hk, rfl⟩
                  have hll := hK2.len
                  have hub : ∀ b, u2 b ≤ 400020000 := fun b => by
                    have h5 := hK2.cnt b
                    have h6 := List.count_le_length (a := b) (l := fAll to (o.filter fun y => !(P ++ [a]).contains y))
                    have h7 := List.count_le_length (a := b) (l := fR to a ((nthD to a).drop k))
                    have h8 := fR_len (to := to) (a := a) (l := (nthD to a).drop k)
                    have h9 : ((nthD to a).drop k).length ≤ 20000 := by rw [List.length_drop]; omega
                    have h10 := hfl (o.filter fun y => !(P ++ [a]).contains y) (Nat.le_trans (List.length_filter_le ..) (by omega)) fun x hx => hom x (List.mem_filter.1 hx).1
                    omega
                  have hkk : ltI (k : Int) ((((nthD to ((a : Int)).toNat).map fun n => T.int .i64 n).length : Nat) : Int) = true → k < (nthD to a).length := fun h => by
                    rw [ltI_iff, List.length_map, Int.toNat_natCast] at h; omega
                  have hrg : k < (nthD to a).length → 0 ≤ nthD (nthD to a) k ∧ nthD (nthD to a) k < to.length := fun h => hW.rng _ hal _ (nthD_mem h)
                  have ebk : nthD (nthD to ((a : Int)).toNat) ((k : Int)).toNat = nthD (nthD to a) k := by rw [Int.toNat_natCast, Int.toNat_natCast]
                  have hK3 : k < (nthD to a).length → Kn to o (P ++ [a]) l u2 (nthD (nthD to a) k :: (nthD to a).drop (k + 1)) a := fun h => by
                    have := List.drop_eq_getElem_cons h
                    rw [← nthD_get h] at this
                    rw [← this]; exact hK2
                  have hdf : k < (nthD to a).length → ltI 0 (cntF (backL to) (codeL [(a : Int), nthD (nthD to ((a : Int)).toNat) ((k : Int)).toNat])) = false → domB to (nthD (nthD to a) k).toNat a = false := fun h h4 => by
                    rw [ebk, ltI_not] at h4
                    rw [Bool.eq_false_iff]
                    intro h5
                    have := (cnt_back hal (nthD_mem h)).2 h5
                    omega
                  have hset : k < (nthD to a).length → domB to (nthD (nthD to a) k).toNat a = false → (tellR to.length u2).set (0 + (nthD (nthD to ((a : Int)).toNat) ((k : Int)).toNat).toNat) (setT 1 (T.int .i64 (u2 (nthD (List.range to.length) (0 + (nthD (nthD to ((a : Int)).toNat) ((k : Int)).toNat).toNat)))) 0 [T.int .i64 (subI .i64 (u2 (nthD (List.range to.length) (0 + (nthD (nthD to ((a : Int)).toNat) ((k : Int)).toNat).toNat))) 1)]) = tellR to.length fun b => if b = (nthD (nthD to a) k).toNat then u2 b - 1 else u2 b := fun h hd => by
                    have hr3 := hrg h
                    have hp := (hK3 h).pos hd
                    have hu := hub (nthD (nthD to a) k).toNat
                    rw [ebk, Nat.zero_add, nthD_range (by omega), subI_i64 (by omega) (by omega)]
                    refine (tellR_set rfl).trans (tellR_congr fun j _ => ?_)
                    by_cases e : j = (nthD (nthD to a) k).toNat
                    · rw [if_pos e, if_pos e, e]
                    · rw [if_neg e, if_neg e]
                  repeat' ((conv => whnf); first | (with_reducible first | refine onBool_intro (fun _ => ?_) (fun _ => ?_) | refine And.intro (Ob.mk (Nat.le_of_ble_eq_true rfl)) ?_ | refine And.intro (Ob.mk rfl) ?_ | exact ⟨rfl, rfl⟩ | refine And.intro (Ob.mk (fun h => h)) ?_) | (with_reducible refine Or.inl (And.intro (Ob.mk (Flat.map ?_)) ?_); exact fun _ => rfl) | (refine Or.inl (And.intro (Ob.mk (flat_of rfl)) ?_)) | (refine Or.inl (And.intro (Ob.mk ⟨rfl, rfl, rfl, rfl⟩) ?_)) | (refine Or.inl (And.intro (Ob.mk ⟨rfl, rfl, rfl⟩) ?_)) | (refine And.intro (Ob.mk ⟨rfl, rfl⟩) ?_) | (with_reducible refine Or.inr ?_) | (refine And.intro (Ob.mk (flat_of rfl)) ?_) | (with_reducible refine And.intro (Ob.mk (Flat.map ?_)) ?_; exact fun _ => rfl) | (with_reducible first | exact Ob.mk (Flat.map fun _ => rfl) | refine And.intro ?_ ?_ | apply exG.mk | apply exGS.mk | exact Dd.nil) | (refine Dd.same _ ?_) | (refine Dd.dead _ ?_) | (with_reducible first | apply exQ.mk | apply exP.mk) | (refine EqP.mk rfl rfl) | (with_reducible apply exW.mk) | (refine EqW.mk rfl) | (with_reducible first | intro _ | refine Dn.mk ?_) | (refine exS.full (by first | rfl | (simp; done) | (simp; omega)) ?_) | (refine And.intro (Ob.mk ⟨rfl, rfl, by first | rfl | (simp; done) | (simp; omega)⟩) ?_) | (with_reducible refine exE.mapD ?_) | (refine exL.int ?_) | (with_reducible first | refine Up0.mk rfl ?_ | refine Up0i.mk rfl ?_ | refine Up1.mk rfl ?_ | refine Up1i.mk rfl ?_ | refine Up2.mk rfl ?_ | refine Up2i.mk rfl ?_) | (refine Col.mk rfl rfl rfl ?_) | (refine Coli.mk rfl rfl rfl rfl ?_) | (refine exL.mapC (cntF (backL to)) ?_ ?_) | (refine exS.nums ?_) | (refine exE.setSameO ?_ ?_))
                  all_goals (try (refine Ob.mk ?_; first | assumption | exact ⟨rfl, rfl⟩ | exact ⟨rfl, rfl, rfl⟩ | (refine ⟨rfl, rfl, ?_⟩; simp only [List.length_map, List.length_take, List.length_append, els_len, List.length_replicate]; omega) | (intro h; exact h) | (intro h; rw [h]; rfl) | (intro h; simp_all; done) | (refine bytes_le (n := 1048577) ?_ rfl; simp only [ltI_iff, ltI_not, leI_iff, leI_not, eqI_iff, eqI_not, List.length_map, bif_and, bif_or, Bool.and_eq_true, Bool.and_eq_false_iff, Bool.or_eq_true, Bool.or_eq_false_iff, Bool.not_eq_true', Bool.not_eq_false', Int.toNat_natCast, beq_iff_eq, beq_eq_false_iff_ne, decide_eq_true_eq, decide_eq_false_iff_not, bel_iff, bel_not, wthn_iff, wthn_not, els_len, mixL_len, Nat.zero_add, List.length_set, List.length_take] at *; omega) | (simp only [ltI_iff, ltI_not, leI_iff, leI_not, eqI_iff, eqI_not, List.length_map, bif_and, bif_or, Bool.and_eq_true, Bool.and_eq_false_iff, Bool.or_eq_true, Bool.or_eq_false_iff, Bool.not_eq_true', Bool.not_eq_false', Int.toNat_natCast, beq_iff_eq, beq_eq_false_iff_ne, decide_eq_true_eq, decide_eq_false_iff_not, bel_iff, bel_not, wthn_iff, wthn_not, els_len, mixL_len, Nat.zero_add, List.length_set, List.length_take, Int.ofNat_eq_natCast] at *; omega)))
                  all_goals (try exact Ob.mk hM)
                  all_goals (try have hk3 := hkk (by assumption))
                  all_goals (try (refine Ob.mk ?_; rw [ebk]; have := hrg hk3; simp; omega))
                  all_goals (try (refine Ob.mk ?_; rw [ebk]; have := hrg hk3; omega))
                  all_goals (try (refine Ob.mk ?_; simp; omega))
                  · conv => whnf
                    have hd : domB to (nthD (nthD to a) k).toNat a = true := by
                      have h4 : ltI 0 (cntF (backL to) (codeL [(a : Int), nthD (nthD to ((a : Int)).toNat) ((k : Int)).toNat])) = true := by assumption
                      rw [ebk, ltI_iff] at h4
                      exact (cnt_back hal (nthD_mem hk3)).1 h4
                    refine ⟨(nthD to a).length - (k + 1), by omega, k + 1, l, u2, junk2, ?_, rfl, (hK3 hk3).skip hd, by omega, rfl⟩
                    rw [addI_i64 (by omega) (by omega)]; rfl
                  · have hd := hdf hk3 (by assumption)
                    have hr3 := hrg hk3
                    have hp := (hK3 hk3).pos hd
                    have hu := hub (nthD (nthD to a) k).toNat
                    have h0 : u2 (nthD (nthD to a) k).toNat - 1 = 0 := by
                      have h4 : eqI (subI .i64 (u2 (nthD (List.range to.length) (0 + (nthD (nthD to ((a : Int)).toNat) ((k : Int)).toNat).toNat))) 1) 0 = true := by assumption
                      rw [ebk, Nat.zero_add, nthD_range (by omega), subI_i64 (by omega) (by omega), eqI_iff] at h4
                      exact h4
                    conv => whnf
                    refine ⟨(nthD to a).length - (k + 1), by omega, k + 1, l ++ [(nthD (nthD to a) k).toNat], _, [], ?_, ?_, (hK3 hk3).push hd ((hL.mem _).2 (Forth.rch ((fR_mem hW har).1 ?_))) h0, by omega, rfl⟩
                    · have eL : (l ++ [(nthD (nthD to a) k).toNat]).length = l.length + 1 := by rw [List.length_append]; rfl
                      rw [addI_i64 (by omega) (by omega), eL]; rfl
                    · refine congr_rows3 (hset hk3 hd) ?_
                      have ec : (((nthD (nthD to a) k).toNat : Nat) : Int) = nthD (nthD to a) k := Int.toNat_of_nonneg hr3.1
                      unfold numsR
                      rw [List.map_append, List.append_nil, List.map_cons, ec, ← ebk]; rfl
                    · unfold fR
                      refine List.mem_map.2 ⟨nthD (nthD to a) k, List.mem_filter.2 ⟨nthD_mem hk3, ?_⟩, rfl⟩
                      rw [hd]; rfl
                  · have hd := hdf hk3 (by assumption)
                    have hr3 := hrg hk3
                    have hp := (hK3 hk3).pos hd
                    have hu := hub (nthD (nthD to a) k).toNat
                    have h0 : u2 (nthD (nthD to a) k).toNat - 1 ≠ 0 := by
                      have h4 : eqI (subI .i64 (u2 (nthD (List.range to.length) (0 + (nthD (nthD to ((a : Int)).toNat) ((k : Int)).toNat).toNat))) 1) 0 = false := by assumption
                      rw [ebk, Nat.zero_add, nthD_range (by omega), subI_i64 (by omega) (by omega), eqI_not] at h4
                      exact h4
                    conv => whnf
                    refine ⟨(nthD to a).length - (k + 1), by omega, k + 1, l, _, junk2, ?_, ?_, (hK3 hk3).less hd h0, by omega, rfl⟩
                    · rw [addI_i64 (by omega) (by omega)]; rfl
                    · exact congr_rows3 (hset hk3 hd) rfl
                  · conv => whnf
                    have hk4 : k = (nthD to a).length := by
                      have h3 : ltI (k : Int) ((((nthD to ((a : Int)).toNat).map fun n => T.int .i64 n).length : Nat) : Int) = false := by assumption
                      rw [ltI_not, List.length_map, Int.toNat_natCast] at h3
                      omega
                    subst hk4
                    rw [List.drop_length] at hK2
                    have hPa : (P ++ [a]).length = P.length + 1 := by rw [List.length_append]; rfl
                    have hlen2 := hK2.len
                    rw [hPa] at hlen2
                    refine ⟨o.length - (P ++ [a]).length, by rw [hPa]; omega, P ++ [a], l, u2, junk2, ?_, rfl, hK2.next 0, rfl⟩
                    rw [addI_i64 (by omega) (by omega), hPa]; rfl
  · refine PCalls.of_body ttOk Try.func17 rfl ?_
    repeat' ((conv => whnf); first | (with_reducible first | refine onBool_intro (fun _ => ?_) (fun _ => ?_) | refine And.intro (Ob.mk (Nat.le_of_ble_eq_true rfl)) ?_ | refine And.intro (Ob.mk rfl) ?_ | exact ⟨rfl, rfl⟩ | refine And.intro (Ob.mk (fun h => h)) ?_) | (with_reducible refine Or.inl (And.intro (Ob.mk (Flat.map ?_)) ?_); exact fun _ => rfl) | (refine Or.inl (And.intro (Ob.mk (flat_of rfl)) ?_)) | (refine Or.inl (And.intro (Ob.mk ⟨rfl, rfl, rfl, rfl⟩) ?_)) | (refine Or.inl (And.intro (Ob.mk ⟨rfl, rfl, rfl⟩) ?_)) | (refine And.intro (Ob.mk ⟨rfl, rfl⟩) ?_) | (with_reducible refine Or.inr ?_) | (refine And.intro (Ob.mk (flat_of rfl)) ?_) | (with_reducible refine And.intro (Ob.mk (Flat.map ?_)) ?_; exact fun _ => rfl) | (with_reducible first | exact Ob.mk (Flat.map fun _ => rfl) | refine And.intro ?_ ?_ | apply exG.mk | apply exGS.mk | exact Dd.nil) | (refine Dd.same _ ?_) | (refine Dd.dead _ ?_) | (with_reducible first | apply exQ.mk | apply exP.mk) | (refine EqP.mk rfl rfl) | (with_reducible apply exW.mk) | (refine EqW.mk rfl) | (with_reducible first | intro _ | refine Dn.mk ?_) | (refine exS.full (by first | rfl | (simp; done) | (simp; omega)) ?_) | (refine And.intro (Ob.mk ⟨rfl, rfl, by first | rfl | (simp; done) | (simp; omega)⟩) ?_) | (with_reducible refine exE.mapD ?_) | (refine exL.int ?_) | (with_reducible first | refine Up0.mk rfl ?_ | refine Up0i.mk rfl ?_ | refine Up1.mk rfl ?_ | refine Up1i.mk rfl ?_ | refine Up2.mk rfl ?_ | refine Up2i.mk rfl ?_) | (refine Col.mk rfl rfl rfl ?_) | (refine Coli.mk rfl rfl rfl rfl ?_) | (refine edges27n g hg hw hl ?_))
    exact Ob.mk (.inr ⟨hl, rfl⟩)
end Go.Proofs.Ytgladinljapmkaa.Am

/- Loops: answers that the document gives. -/
namespace Go.Proofs.Ytgladinljapmkaa.Am
open Go Go.Proofs
set_option maxRecDepth 10000
set_option maxHeartbeats 2000000
set_option linter.unusedVariables false
set_option linter.unusedSimpArgs false
theorem allN_lead (l : List Int) : allN (leadE l) = l := by
  rcases l with _ | ⟨x, _ | ⟨y, _ | ⟨z, l⟩⟩⟩ <;> simp [leadE, allN]
theorem lead_fin {to : List (List Int)} {b : Nat} (h : b < to.length) : (nthD (leadG to).blocks b).fin = leadE (nthD to b) := by
  show (nthD (to.map fun l => Block.mk [] (leadE l)) b).fin = _
  rw [nthD_get (by rw [List.length_map]; exact h), List.getElem_map, nthD_get h]
theorem lead_len {to : List (List Int)} : (leadG to).blocks.length = to.length := by
  show (to.map _).length = _
  rw [List.length_map]
theorem lead_next {to : List (List Int)} {b : Nat} (h : b < to.length) : nextN (leadG to) b = srt (nthD to b) := by
  unfold nextN
  rw [if_pos (by rw [lead_len, bel_iff]; omega), Int.toNat_natCast, lead_fin h, allN_lead]
theorem toL_lead {to : List (List Int)} : toL (leadG to) = to.map srt := by
  unfold toL
  rw [lead_len]
  apply List.ext_getElem
  · simp
  · intro i h1 h2
    have h : i < to.length := by simpa using h1
    rw [List.getElem_map, List.getElem_map, List.getElem_range, lead_next h, nthD_get h]
theorem srt_id {l : List Int} (h : l.Pairwise fun x y => x < y) : srt l = l := (srt_unique h fun _ => Iff.rfl).symm
theorem lead_tiny {to : List (List Int)} (hl : to.length ≤ 2 ^ 20) (hr : ∀ l ∈ to, l.length ≤ 2 ^ 20) : (leadG to).tiny := by
  refine ⟨Nat.zero_le _, Nat.zero_le _, by rw [lead_len]; exact hl, fun b hb => ?_⟩
  obtain ⟨l, hm, rfl⟩ := List.mem_map.1 hb
  refine ⟨Nat.zero_le _, (fun x hx => nomatch hx), (fun x hx => nomatch hx), ?_, ?_⟩
  · rcases l with _ | ⟨x, _ | ⟨y, _ | ⟨z, l⟩⟩⟩ <;> exact Nat.zero_le _
  · have := hr l hm
    rcases l with _ | ⟨x, _ | ⟨y, _ | ⟨z, l⟩⟩⟩ <;> simp [leadE] at this ⊢
    omega
theorem lead_wide {to : List (List Int)} (hw : ∀ l ∈ to, ∀ x ∈ l, I64 x) : ∀ b ∈ (leadG to).blocks, ∀ x ∈ allN b.fin, I64 x := by
  intro b hb x hx
  obtain ⟨l, hm, rfl⟩ := List.mem_map.1 hb
  rw [show allN (Block.mk [] (leadE l)).fin = l from allN_lead l] at hx
  exact hw l hm x hx
theorem lead_leads {to : List (List Int)} (h1 : 1 ≤ to.length) (hl : to.length ≤ 20000) (hw : ∀ l ∈ to, ∀ x ∈ l, 0 ≤ x ∧ x < to.length) : (leadG to).leads := by
  refine ⟨by rw [lead_len]; exact h1, by rw [lead_len]; exact hl, fun b hb s hs => ?_⟩
  rw [lead_len] at hb ⊢
  rw [lead_next hb, srt_mem] at hs
  rw [bel_iff]
  exact hw _ (nthD_mem hb) s hs
abbrev gA : List (List Int) := [[1], [2, 3], [1], []]
abbrev gB : List (List Int) := [[1, 2], [2], [1]]
theorem gA_L : toL (leadG gA) = gA := by
  rw [toL_lead]
  show [srt [1], srt [2, 3], srt [1], srt []] = _
  rw [srt_id (l := [1]) (by simp), srt_id (l := [2, 3]) (by simp), srt_nil]
theorem gB_L : toL (leadG gB) = gB := by
  rw [toL_lead]
  show [srt [1, 2], srt [2], srt [1]] = _
  rw [srt_id (l := [1, 2]) (by simp), srt_id (l := [2]) (by simp), srt_id (l := [1]) (by simp)]
theorem gA0 : nthD gA 0 = [1] := nthD_eq rfl
theorem gA1 : nthD gA 1 = [2, 3] := nthD_eq rfl
theorem gA2 : nthD gA 2 = [1] := nthD_eq rfl
theorem gA3 : nthD gA 3 = [] := nthD_eq rfl
theorem gA_edge {a b : Nat} : EdgeL gA a b ↔ (a = 0 ∧ b = 1) ∨ (a = 1 ∧ (b = 2 ∨ b = 3)) ∨ (a = 2 ∧ b = 1) := by
  unfold EdgeL
  have h : a = 0 ∨ a = 1 ∨ a = 2 ∨ a = 3 ∨ 4 ≤ a := by omega
  rcases h with rfl | rfl | rfl | rfl | h
  · rw [gA0]; simp; omega
  · rw [gA1]; simp; omega
  · rw [gA2]; simp; omega
  · rw [gA3]; simp
  · simp; omega
theorem gA_r1 : Rch (EdgeL gA) 1 := .step (.base trivial) (gA_edge.2 (.inl ⟨rfl, rfl⟩)) trivial
theorem gA_r2 : Rch (EdgeL gA) 2 := .step gA_r1 (gA_edge.2 (.inr (.inl ⟨rfl, .inl rfl⟩))) trivial
theorem gA_r3 : Rch (EdgeL gA) 3 := .step gA_r1 (gA_edge.2 (.inr (.inl ⟨rfl, .inr rfl⟩))) trivial
theorem gA_d {b : Nat} (hb : b = 2 ∨ b = 3) : Dom (EdgeL gA) 1 b := by
  refine ⟨by rcases hb with rfl | rfl; exact gA_r2; exact gA_r3, fun r => ?_⟩
  cases r with
  | base _ => omega
  | step r he _ =>
    rcases gA_edge.1 he with h | h | h
    · omega
    · exact r.ok h.1
    · omega
theorem gA_f0 : domF gA 0 = -1 := domF_not fun h => h.2 rfl
theorem gA_f1 : domF gA 1 = (0 : Nat) := domF_eq ⟨.zero gA_r1, by omega, fun a ha hab => ha.pred hab (.base trivial) (gA_edge.2 (.inl ⟨rfl, rfl⟩))⟩
theorem gA_f2 : domF gA 2 = (1 : Nat) := domF_eq ⟨gA_d (.inl rfl), by omega, fun a ha hab => ha.pred hab gA_r1 (gA_edge.2 (.inr (.inl ⟨rfl, .inl rfl⟩)))⟩
theorem gA_f3 : domF gA 3 = (1 : Nat) := domF_eq ⟨gA_d (.inr rfl), by omega, fun a ha hab => ha.pred hab gA_r1 (gA_edge.2 (.inr (.inl ⟨rfl, .inr rfl⟩)))⟩
theorem gA_doms : domsR gA = [.int .i64 (-1), .int .i64 0, .int .i64 1, .int .i64 1] := by
  show [T.int .i64 (domF gA 0), T.int .i64 (domF gA 1), T.int .i64 (domF gA 2), T.int .i64 (domF gA 3)] = _
  rw [gA_f0, gA_f1, gA_f2, gA_f3]; rfl
theorem gA_not {b : Nat} (hb : b = 2 ∨ b = 3) : domB gA b 1 = false := by
  rw [Bool.eq_false_iff]
  intro h
  refine (domB_iff.1 h).2 (.step (.base fun e => by omega) (gA_edge.2 (.inl ⟨rfl, rfl⟩)) fun e => by omega)
theorem gA_back : backL gA = [(2, 1)] := by
  show ([0, 1, 2, 3] : List Nat).flatMap (fun a => backE gA a (nthD gA a).length) = _
  simp only [List.flatMap_cons, List.flatMap_nil]
  unfold backE
  rw [gA0, gA1, gA2, gA3]
  have d0 : domB gA 1 0 = false := by
    rw [Bool.eq_false_iff]
    intro h
    have := (domB_iff.1 h).one
    omega
  have d2 : domB gA 2 1 = false := gA_not (.inl rfl)
  have d3 : domB gA 3 1 = false := gA_not (.inr rfl)
  have d1 : domB gA 1 2 = true := domB_iff.2 (gA_d (.inl rfl))
  simp [d0, d1, d2, d3]
theorem gA_red : redB gA = true := by
  rw [redB_iff]
  refine .rank id fun a b h => ?_
  rcases gA_edge.1 h.2.1 with h1 | h1 | h1
  · show a < b; omega
  · show a < b; omega
  · exfalso
    refine h.2.2 ?_
    rw [h1.1, h1.2]; exact gA_d (.inl rfl)
theorem gB0 : nthD gB 0 = [1, 2] := nthD_eq rfl
theorem gB1 : nthD gB 1 = [2] := nthD_eq rfl
theorem gB2 : nthD gB 2 = [1] := nthD_eq rfl
theorem gB_e {a b : Nat} (ha : a < 3) (h : (b : Int) ∈ nthD gB a) : EdgeL gB a b := ⟨ha, h⟩
theorem gB_red : redB gB = false := by
  rw [Bool.eq_false_iff]
  intro h
  rw [redB_iff] at h
  have e01 : EdgeL gB 0 1 := gB_e (by omega) (by rw [gB0]; simp)
  have e02 : EdgeL gB 0 2 := gB_e (by omega) (by rw [gB0]; simp)
  have e12 : EdgeL gB 1 2 := gB_e (by omega) (by rw [gB1]; simp)
  have e21 : EdgeL gB 2 1 := gB_e (by omega) (by rw [gB2]; simp)
  have f12 : Forth (EdgeL gB) 1 2 := ⟨.step (.base trivial) e01 trivial, e12, fun hd => hd.2 (.step (.base (by omega)) e01 (by omega))⟩
  have f21 : Forth (EdgeL gB) 2 1 := ⟨.step (.base trivial) e02 trivial, e21, fun hd => hd.2 (.step (.base (by omega)) e02 (by omega))⟩
  exact h 1 (.step (.one f12) f21)
theorem gA_len : ∀ l ∈ gA, l.length ≤ 2 ^ 20 := by intro l hl; simp at hl; rcases hl with rfl | rfl | rfl | rfl <;> simp
theorem gB_len : ∀ l ∈ gB, l.length ≤ 2 ^ 20 := by intro l hl; simp at hl; rcases hl with rfl | rfl | rfl <;> simp
theorem gA_rng : ∀ l ∈ gA, ∀ x ∈ l, 0 ≤ x ∧ x < gA.length := by intro l hl x hx; simp at hl; rcases hl with rfl | rfl | rfl | rfl <;> simp at hx ⊢ <;> omega
theorem gB_rng : ∀ l ∈ gB, ∀ x ∈ l, 0 ≤ x ∧ x < gB.length := by intro l hl x hx; simp at hl; rcases hl with rfl | rfl | rfl <;> simp at hx ⊢ <;> omega
theorem i64_small {x : Int} (h0 : 0 ≤ x) (h : x < 2 ^ 40) : I64 x := by
  unfold I64 Lit.wf
  simp [IntKind.min, IntKind.max, IntKind.signed, IntKind.bits]
  omega
end Go.Proofs.Ytgladinljapmkaa.Am

/- Loops: who is around whom, by the document's answer. -/
namespace Go.Proofs.Ytgladinljapmkaa.Am
open Go Go.Proofs
set_option maxRecDepth 10000
set_option maxHeartbeats 2000000
set_option linter.unusedVariables false
set_option linter.unusedSimpArgs false
theorem ways21k (to : List (List Int)) (hw : RngL to) (hl : to.length ≤ 20000) (hr : ∀ l ∈ to, l.length ≤ 2 ^ 20) (s w : Int) (h : Ob (0 ≤ s ∧ s < to.length)) {q : T → Prop} (hq : q (.sl 1 (bitsR to.length (wayF to s.toNat w)))) :
    PCalls Try.prog 21 [listsL to, .int .i64 s, .int .i64 w] q := by
  obtain ⟨h1, h2⟩ := h.out
  have := ways21 to hw hl hr s.toNat (by omega) w
  rw [Int.toNat_of_nonneg h1] at this
  exact PCalls.mono this fun r h => by rw [h.out]; exact hq
theorem wayF_rch {to : List (List Int)} {b : Nat} : wayF to 0 (-1) b = true ↔ Rch (EdgeL to) b := by
  rw [wayF_iff, RF.ra]
  exact ⟨fun h => h.mono fun _ _ => trivial, fun h => h.mono fun x _ => by omega⟩
theorem wayF_ra {to : List (List Int)} {a b : Nat} : wayF to 0 (a : Nat) b = true ↔ RA (EdgeL to) (fun x => x ≠ a) b := by
  rw [wayF_iff, RF.ra]
  exact ⟨fun h => h.mono fun x h => by omega, fun h => h.mono fun x h => by omega⟩
theorem around_dom {to : List (List Int)} {a b : Nat} : (wayF to 0 (-1) b && !wayF to 0 (a : Nat) b) = domB to a b := by
  rw [Bool.eq_iff_iff, Bool.and_eq_true, Bool.not_eq_true', Bool.eq_false_iff, wayF_rch, domB_iff]
  exact ⟨fun h => ⟨h.1, fun h2 => h.2 (wayF_ra.2 h2)⟩, fun h => ⟨h.1, fun h2 => h.2 (wayF_ra.1 h2)⟩⟩
theorem domB_not {to : List (List Int)} {a b : Nat} (h : ¬ Rch (EdgeL to) a) : domB to a b = false := by
  rw [Bool.eq_false_iff]
  exact fun h2 => h (domB_iff.1 h2).left
theorem rowsR_succ {m n : Nat} {a : Nat → Nat → Bool} : rowsR (m + 1) n a = rowsR m n a ++ [.nst 4 1 (bitsR n (a m))] := by
  unfold rowsR
  rw [List.range_succ, List.map_append]; rfl
theorem around30 (to : List (List Int)) (hw : WalkL to) (hl : to.length ≤ 20000) (hr : ∀ l ∈ to, l.length ≤ 2 ^ 20) :
    PCalls Try.prog 30 [listsL to] (fun r => Ob (r = .sl 1 (rowsR to.length to.length (domB to)))) := by
  have h1 := hw.one
  refine PCalls.of_body ttOk Try.func30 rfl ?_
  repeat' ((conv => whnf); first | (with_reducible first | refine onBool_intro (fun _ => ?_) (fun _ => ?_) | refine And.intro (Ob.mk (Nat.le_of_ble_eq_true rfl)) ?_ | refine And.intro (Ob.mk rfl) ?_ | exact ⟨rfl, rfl⟩ | refine And.intro (Ob.mk (fun h => h)) ?_) | (with_reducible refine Or.inl (And.intro (Ob.mk (Flat.map ?_)) ?_); exact fun _ => rfl) | (refine Or.inl (And.intro (Ob.mk (flat_of rfl)) ?_)) | (refine Or.inl (And.intro (Ob.mk ⟨rfl, rfl, rfl, rfl⟩) ?_)) | (refine Or.inl (And.intro (Ob.mk ⟨rfl, rfl, rfl⟩) ?_)) | (refine And.intro (Ob.mk ⟨rfl, rfl⟩) ?_) | (with_reducible refine Or.inr ?_) | (refine And.intro (Ob.mk (flat_of rfl)) ?_) | (with_reducible refine And.intro (Ob.mk (Flat.map ?_)) ?_; exact fun _ => rfl) | (with_reducible first | exact Ob.mk (Flat.map fun _ => rfl) | refine And.intro ?_ ?_ | apply exG.mk | apply exGS.mk | exact Dd.nil) | (refine Dd.same _ ?_) | (refine Dd.dead _ ?_) | (with_reducible first | apply exQ.mk | apply exP.mk) | (refine EqP.mk rfl rfl) | (with_reducible apply exW.mk) | (refine EqW.mk rfl) | (with_reducible first | intro _ | refine Dn.mk ?_) | (refine exS.full (by first | rfl | (simp; done) | (simp; omega)) ?_) | (refine And.intro (Ob.mk ⟨rfl, rfl, by first | rfl | (simp; done) | (simp; omega)⟩) ?_) | (with_reducible refine exE.mapD ?_) | (refine exL.int ?_) | (with_reducible first | refine Up0.mk rfl ?_ | refine Up0i.mk rfl ?_ | refine Up1.mk rfl ?_ | refine Up1i.mk rfl ?_ | refine Up2.mk rfl ?_ | refine Up2i.mk rfl ?_) | (refine Col.mk rfl rfl rfl ?_) | (refine Coli.mk rfl rfl rfl rfl ?_) | (refine ways21k to hw.rng hl hr _ _ ?_ ?_))
  all_goals (try (refine Ob.mk ?_; first | assumption | exact ⟨rfl, rfl⟩ | exact ⟨rfl, rfl, rfl⟩ | (refine ⟨rfl, rfl, ?_⟩; simp only [List.length_map, List.length_take, List.length_append, els_len, List.length_replicate]; omega) | (intro h; exact h) | (intro h; rw [h]; rfl) | (intro h; simp_all; done) | (refine bytes_le (n := 1048577) ?_ rfl; simp only [ltI_iff, ltI_not, leI_iff, leI_not, eqI_iff, eqI_not, List.length_map, bif_and, bif_or, Bool.and_eq_true, Bool.and_eq_false_iff, Bool.or_eq_true, Bool.or_eq_false_iff, Bool.not_eq_true', Bool.not_eq_false', Int.toNat_natCast, beq_iff_eq, beq_eq_false_iff_ne, decide_eq_true_eq, decide_eq_false_iff_not, bel_iff, bel_not, wthn_iff, wthn_not, els_len, mixL_len, Nat.zero_add, List.length_set, List.length_take] at *; omega) | (simp only [ltI_iff, ltI_not, leI_iff, leI_not, eqI_iff, eqI_not, List.length_map, bif_and, bif_or, Bool.and_eq_true, Bool.and_eq_false_iff, Bool.or_eq_true, Bool.or_eq_false_iff, Bool.not_eq_true', Bool.not_eq_false', Int.toNat_natCast, beq_iff_eq, beq_eq_false_iff_ne, decide_eq_true_eq, decide_eq_false_iff_not, bel_iff, bel_not, wthn_iff, wthn_not, els_len, mixL_len, Nat.zero_add, List.length_set, List.length_take, Int.ofNat_eq_natCast] at *; omega)))
  · exact Ob.mk ⟨Int.le_refl _, by omega⟩
  conv => whnf
  refine LoopVC.mk [5, 4] [(4, 40, 1)] (fun m vals σ => ∃ a : Nat, vals = [.t (.int .i64 a), .osl 0 0 a] ∧ σ = [.row 40 1 (rowsR a to.length (domB to))] ∧ a ≤ to.length ∧ m = to.length - a) ?_ ?_
  · conv => whnf
    exact ⟨_, 0, rfl, rfl, Nat.zero_le _, rfl⟩
  · rintro m vals σ ⟨a, rfl, rfl, ha, rfl⟩
    have hlt : ltI (a : Int) (((to.map ilist).length : Nat) : Int) = true → a < to.length := fun h => by
      rw [ltI_iff, List.length_map] at h; omega
    repeat' ((conv => whnf); first | (with_reducible first | refine onBool_intro (fun _ => ?_) (fun _ => ?_) | refine And.intro (Ob.mk (Nat.le_of_ble_eq_true rfl)) ?_ | refine And.intro (Ob.mk rfl) ?_ | exact ⟨rfl, rfl⟩ | refine And.intro (Ob.mk (fun h => h)) ?_) | (with_reducible refine Or.inl (And.intro (Ob.mk (Flat.map ?_)) ?_); exact fun _ => rfl) | (refine Or.inl (And.intro (Ob.mk (flat_of rfl)) ?_)) | (refine Or.inl (And.intro (Ob.mk ⟨rfl, rfl, rfl, rfl⟩) ?_)) | (refine Or.inl (And.intro (Ob.mk ⟨rfl, rfl, rfl⟩) ?_)) | (refine And.intro (Ob.mk ⟨rfl, rfl⟩) ?_) | (with_reducible refine Or.inr ?_) | (refine And.intro (Ob.mk (flat_of rfl)) ?_) | (with_reducible refine And.intro (Ob.mk (Flat.map ?_)) ?_; exact fun _ => rfl) | (with_reducible first | exact Ob.mk (Flat.map fun _ => rfl) | refine And.intro ?_ ?_ | apply exG.mk | apply exGS.mk | exact Dd.nil) | (refine Dd.same _ ?_) | (refine Dd.dead _ ?_) | (with_reducible first | apply exQ.mk | apply exP.mk) | (refine EqP.mk rfl rfl) | (with_reducible apply exW.mk) | (refine EqW.mk rfl) | (with_reducible first | intro _ | refine Dn.mk ?_) | (refine exS.full (by first | rfl | (simp; done) | (simp; omega)) ?_) | (refine And.intro (Ob.mk ⟨rfl, rfl, by first | rfl | (simp; done) | (simp; omega)⟩) ?_) | (with_reducible refine exE.mapD ?_) | (refine exL.int ?_) | (with_reducible first | refine Up0.mk rfl ?_ | refine Up0i.mk rfl ?_ | refine Up1.mk rfl ?_ | refine Up1i.mk rfl ?_ | refine Up2.mk rfl ?_ | refine Up2i.mk rfl ?_) | (refine Col.mk rfl rfl rfl ?_) | (refine Coli.mk rfl rfl rfl rfl ?_) | (refine ways21k to hw.rng hl hr _ _ ?_ ?_))
    all_goals (try (refine Ob.mk ?_; first | assumption | exact ⟨rfl, rfl⟩ | exact ⟨rfl, rfl, rfl⟩ | (refine ⟨rfl, rfl, ?_⟩; simp only [List.length_map, List.length_take, List.length_append, els_len, List.length_replicate]; omega) | (intro h; exact h) | (intro h; rw [h]; rfl) | (intro h; simp_all; done) | (refine bytes_le (n := 1048577) ?_ rfl; simp only [ltI_iff, ltI_not, leI_iff, leI_not, eqI_iff, eqI_not, List.length_map, bif_and, bif_or, Bool.and_eq_true, Bool.and_eq_false_iff, Bool.or_eq_true, Bool.or_eq_false_iff, Bool.not_eq_true', Bool.not_eq_false', Int.toNat_natCast, beq_iff_eq, beq_eq_false_iff_ne, decide_eq_true_eq, decide_eq_false_iff_not, bel_iff, bel_not, wthn_iff, wthn_not, els_len, mixL_len, Nat.zero_add, List.length_set, List.length_take] at *; omega) | (simp only [ltI_iff, ltI_not, leI_iff, leI_not, eqI_iff, eqI_not, List.length_map, bif_and, bif_or, Bool.and_eq_true, Bool.and_eq_false_iff, Bool.or_eq_true, Bool.or_eq_false_iff, Bool.not_eq_true', Bool.not_eq_false', Int.toNat_natCast, beq_iff_eq, beq_eq_false_iff_ne, decide_eq_true_eq, decide_eq_false_iff_not, bel_iff, bel_not, wthn_iff, wthn_not, els_len, mixL_len, Nat.zero_add, List.length_set, List.length_take, Int.ofNat_eq_natCast] at *; omega)))
    all_goals (try (refine Ob.mk ?_; show (_ : Int) * ((1 : Nat) : Int) ≤ _; rw [List.length_map]; omega))
    all_goals (try exact Ob.mk ⟨Int.le_refl _, by omega⟩)
    all_goals (try (refine Ob.mk ?_; have := hlt (by assumption); simp; omega))
    · have ha2 := hlt (by assumption)
      have hra : Rch (EdgeL to) a := by
        rename_i h3
        rw [Int.toNat_natCast, nthD_range ha2] at h3
        exact wayF_rch.1 h3
      conv => whnf
      refine LoopVC.mk [8] [] (fun m vals σ => ∃ b : Nat, vals = [.t (.int .i64 b)] ∧ σ = [.row 40 1 (rowsR a to.length (domB to)), .row 4 1 (bitsR to.length fun j => if j < b then domB to a j else false)] ∧ b ≤ to.length ∧ m = to.length - b) ?_ ?_
      · conv => whnf
        refine ⟨_, 0, rfl, ?_, Nat.zero_le _, rfl⟩
        rw [List.length_map, Int.toNat_natCast]
        refine congrArg (fun z => [SObj.row 40 1 (rowsR a to.length (domB to)), .row 4 1 z]) ?_
        exact (bitsR_zero _).trans (bitsR_congr fun j _ => (if_neg (Nat.not_lt_zero j)).symm)
      · rintro m vals σ ⟨b, rfl, rfl, hb, rfl⟩
        have hlt2 : ltI (b : Int) (((to.map ilist).length : Nat) : Int) = true → b < to.length := fun h => by
          rw [ltI_iff, List.length_map] at h; omega
        repeat' ((conv => whnf); first | (with_reducible first | refine onBool_intro (fun _ => ?_) (fun _ => ?_) | refine And.intro (Ob.mk (Nat.le_of_ble_eq_true rfl)) ?_ | refine And.intro (Ob.mk rfl) ?_ | exact ⟨rfl, rfl⟩ | refine And.intro (Ob.mk (fun h => h)) ?_) | (with_reducible refine Or.inl (And.intro (Ob.mk (Flat.map ?_)) ?_); exact fun _ => rfl) | (refine Or.inl (And.intro (Ob.mk (flat_of rfl)) ?_)) | (refine Or.inl (And.intro (Ob.mk ⟨rfl, rfl, rfl, rfl⟩) ?_)) | (refine Or.inl (And.intro (Ob.mk ⟨rfl, rfl, rfl⟩) ?_)) | (refine And.intro (Ob.mk ⟨rfl, rfl⟩) ?_) | (with_reducible refine Or.inr ?_) | (refine And.intro (Ob.mk (flat_of rfl)) ?_) | (with_reducible refine And.intro (Ob.mk (Flat.map ?_)) ?_; exact fun _ => rfl) | (with_reducible first | exact Ob.mk (Flat.map fun _ => rfl) | refine And.intro ?_ ?_ | apply exG.mk | apply exGS.mk | exact Dd.nil) | (refine Dd.same _ ?_) | (refine Dd.dead _ ?_) | (with_reducible first | apply exQ.mk | apply exP.mk) | (refine EqP.mk rfl rfl) | (with_reducible apply exW.mk) | (refine EqW.mk rfl) | (with_reducible first | intro _ | refine Dn.mk ?_) | (refine exS.full (by first | rfl | (simp; done) | (simp; omega)) ?_) | (refine And.intro (Ob.mk ⟨rfl, rfl, by first | rfl | (simp; done) | (simp; omega)⟩) ?_) | (with_reducible refine exE.mapD ?_) | (refine exL.int ?_) | (with_reducible first | refine Up0.mk rfl ?_ | refine Up0i.mk rfl ?_ | refine Up1.mk rfl ?_ | refine Up1i.mk rfl ?_ | refine Up2.mk rfl ?_ | refine Up2i.mk rfl ?_) | (refine Col.mk rfl rfl rfl ?_) | (refine Coli.mk rfl rfl rfl rfl ?_))
        all_goals (try (refine Ob.mk ?_; first | assumption | exact ⟨rfl, rfl⟩ | exact ⟨rfl, rfl, rfl⟩ | (refine ⟨rfl, rfl, ?_⟩; simp only [List.length_map, List.length_take, List.length_append, els_len, List.length_replicate]; omega) | (intro h; exact h) | (intro h; rw [h]; rfl) | (intro h; simp_all; done) | (refine bytes_le (n := 1048577) ?_ rfl; simp only [ltI_iff, ltI_not, leI_iff, leI_not, eqI_iff, eqI_not, List.length_map, bif_and, bif_or, Bool.and_eq_true, Bool.and_eq_false_iff, Bool.or_eq_true, Bool.or_eq_false_iff, Bool.not_eq_true', Bool.not_eq_false', Int.toNat_natCast, beq_iff_eq, beq_eq_false_iff_ne, decide_eq_true_eq, decide_eq_false_iff_not, bel_iff, bel_not, wthn_iff, wthn_not, els_len, mixL_len, Nat.zero_add, List.length_set, List.length_take] at *; omega) | (simp only [ltI_iff, ltI_not, leI_iff, leI_not, eqI_iff, eqI_not, List.length_map, bif_and, bif_or, Bool.and_eq_true, Bool.and_eq_false_iff, Bool.or_eq_true, Bool.or_eq_false_iff, Bool.not_eq_true', Bool.not_eq_false', Int.toNat_natCast, beq_iff_eq, beq_eq_false_iff_ne, decide_eq_true_eq, decide_eq_false_iff_not, bel_iff, bel_not, wthn_iff, wthn_not, els_len, mixL_len, Nat.zero_add, List.length_set, List.length_take, Int.ofNat_eq_natCast] at *; omega)))
        all_goals (try (refine Ob.mk ?_; have := hlt2 (by assumption); simp; omega))
        · have hb2 := hlt2 (by assumption)
          conv => whnf
          refine ⟨to.length - (b + 1), by omega, b + 1, ?_, ?_, hb2, rfl⟩
          · rw [addI_i64 (by omega) (by omega)]; rfl
          · refine congrArg (fun z => [SObj.row 40 1 (rowsR a to.length (domB to)), .row 4 1 z]) ?_
            have ev : (bif wayF to (Int.toNat 0) (-1) (nthD (List.range to.length) ((b : Int)).toNat) then !wayF to (Int.toNat 0) (a : Int) (nthD (List.range to.length) ((b : Int)).toNat) else false) = domB to a b := by
              rw [Int.toNat_natCast, nthD_range hb2, ← around_dom]
              show (bif wayF to 0 (-1) b then !wayF to 0 (a : Int) b else false) = _
              cases wayF to 0 (-1) b <;> rfl
            refine (congrArg (fun z => List.set _ (0 + ((b : Int)).toNat) (T.bool z)) ev).trans (bitsR_set.trans (bitsR_congr fun j _ => ?_))
            rw [Int.toNat_natCast, Nat.zero_add]
            by_cases e : j = b
            · rw [if_pos e, if_pos (by omega), e]
            · rw [if_neg e]
              by_cases e2 : j < b
              · rw [if_pos e2, if_pos (by omega)]
              · rw [if_neg e2, if_neg (by omega)]
        · exact Ob.mk ⟨rfl, rfl, by simp⟩
        · have hb2 : b = to.length := by
            have h3 : ltI (b : Int) (((to.map ilist).length : Nat) : Int) = false := by assumption
            rw [ltI_not, List.length_map] at h3; omega
          subst hb2
          conv => whnf
          refine ⟨to.length - (a + 1), by omega, a + 1, ?_, ?_, ha2, rfl⟩
          · rw [addI_i64 (by omega) (by omega)]
            have : (rowsR a to.length (domB to)).length = a := by simp
            simp
          · rw [rowsR_succ, bitsR_congr (f := domB to a) (g := fun j => if j < to.length then domB to a j else false) fun j hj => (if_pos hj).symm]
            rfl
    · exact Ob.mk ⟨rfl, rfl, by simp⟩
    · have ha2 := hlt (by assumption)
      have hra : ¬ Rch (EdgeL to) a := by
        rename_i h3
        rw [Int.toNat_natCast, nthD_range ha2] at h3
        intro h
        have := wayF_rch.2 h
        have h4 : wayF to 0 (-1) a = false := h3
        rw [this] at h4; cases h4
      conv => whnf
      refine ⟨to.length - (a + 1), by omega, a + 1, ?_, ?_, ha2, rfl⟩
      · rw [addI_i64 (by omega) (by omega)]
        have : (rowsR a to.length (domB to)).length = a := by simp
        simp
      · rw [rowsR_succ, bitsR_congr (f := domB to a) (g := fun _ => false) fun j hj => domB_not hra, ← bitsR_zero, List.length_map, Int.toNat_natCast]
        rfl
    · have ha2 : a = to.length := by
        have h3 : ltI (a : Int) (((to.map ilist).length : Nat) : Int) = false := by assumption
        rw [ltI_not, List.length_map] at h3; omega
      subst ha2
      exact Ob.mk rfl
end Go.Proofs.Ytgladinljapmkaa.Am

/- Loops: dominators and back edges, by the document's answer. -/
namespace Go.Proofs.Ytgladinljapmkaa.Am
open Go Go.Proofs
set_option maxRecDepth 10000
set_option maxHeartbeats 2000000
set_option linter.unusedVariables false
set_option linter.unusedSimpArgs false
theorem around30k (to : List (List Int)) (hw : WalkL to) (hl : to.length ≤ 20000) (hr : ∀ l ∈ to, l.length ≤ 2 ^ 20) {q : T → Prop} (hq : q (bitsT to.length to.length (domB to))) :
    PCalls Try.prog 30 [listsL to] q :=
  PCalls.le (around30 to hw hl hr) fun r h => ⟨_, by rw [h.out]; exact rowsR_le, hq⟩
theorem edges20y (g : Graph) (hg : g.tiny) (hl : g.leads) {q : T → Prop} (hq : q (.tup [listsL (toL g), .bool true])) : PCalls Try.prog 20 [g.t] q :=
  PCalls.mono (edges36 g hg) fun r h => by
    rcases h.out with ⟨_, rfl⟩ | ⟨h, _⟩
    · rw [toL_R]; exact hq
    · exact absurd hl h
theorem edges20n (g : Graph) (hg : g.tiny) (hl : ¬ g.leads) {q : T → Prop} (hq : q (.tup [.nsl, .bool false])) : PCalls Try.prog 20 [g.t] q :=
  PCalls.mono (edges36 g hg) fun r h => by
    rcases h.out with ⟨h, _⟩ | ⟨_, rfl⟩
    · exact absurd h hl
    · exact hq
def BestI (to : List (List Int)) (b i : Nat) (best most : Int) : Prop :=
  (best = -1 ∧ most = 0 ∧ ∀ a, a < i → a ≠ b → ¬ Dom (EdgeL to) a b) ∨
  ∃ m : Nat, best = m ∧ m < i ∧ m ≠ b ∧ Dom (EdgeL to) m b ∧ most = (domN (EdgeL to) to.length m : Nat) ∧ ∀ a, a < i → a ≠ b → Dom (EdgeL to) a b → domN (EdgeL to) to.length a ≤ domN (EdgeL to) to.length m
variable {to : List (List Int)} {b i : Nat} {best most : Int}
theorem BestI.zero : BestI to b 0 (-1) 0 := .inl ⟨rfl, rfl, fun a ha => absurd ha (Nat.not_lt_zero _)⟩
theorem BestI.skip (h : BestI to b i best most) (hs : i = b ∨ ¬ Dom (EdgeL to) i b) : BestI to b (i + 1) best most := by
  have lt : ∀ a, a < i + 1 → a ≠ b → Dom (EdgeL to) a b → a < i := fun a ha hab hd => by
    rcases Nat.lt_or_ge a i with h1 | h1
    · exact h1
    · have : a = i := by omega
      subst this
      exact (hs.elim (fun e => absurd e hab) fun h => absurd hd h)
  rcases h with ⟨h1, h2, h3⟩ | ⟨m, h1, h2, h3, h4, h5, h6⟩
  · exact .inl ⟨h1, h2, fun a ha hab hd => h3 a (lt a ha hab hd) hab hd⟩
  · exact .inr ⟨m, h1, by omega, h3, h4, h5, fun a ha hab hd => h6 a (lt a ha hab hd) hab hd⟩
theorem BestI.take (h : BestI to b i best most) (hb : i ≠ b) (hd : Dom (EdgeL to) i b) (hlt : most < (domN (EdgeL to) to.length i : Nat)) : BestI to b (i + 1) (i : Nat) (domN (EdgeL to) to.length i : Nat) := by
  refine .inr ⟨i, rfl, Nat.lt_succ_self _, hb, hd, rfl, fun a ha hab hda => ?_⟩
  rcases Nat.lt_or_ge a i with h1 | h1
  · rcases h with ⟨h2, h3, h4⟩ | ⟨m, h2, h3, h4, h5, h6, h7⟩
    · exact absurd hda (h4 a h1 hab)
    · have := h7 a h1 hab hda; omega
  · rw [show a = i by omega]; exact Nat.le_refl _
theorem BestI.keep (hw : WalkL to) (h : BestI to b i best most) (hb : i ≠ b) (hd : Dom (EdgeL to) i b) (hlt : (domN (EdgeL to) to.length i : Nat) ≤ most) : BestI to b (i + 1) best most := by
  rcases h with ⟨h2, h3, h4⟩ | ⟨m, h2, h3, h4, h5, h6, h7⟩
  · have := domN_pos hd.left (hw.rch hd.left)
    omega
  · refine .inr ⟨m, h2, by omega, h4, h5, h6, fun a ha hab hda => ?_⟩
    rcases Nat.lt_or_ge a i with h1 | h1
    · exact h7 a h1 hab hda
    · rw [show a = i by omega]; omega
theorem BestI.last (hw : WalkL to) (h : BestI to b to.length best most) : best = domF to b := by
  rcases h with ⟨h2, h3, h4⟩ | ⟨m, h2, h3, h4, h5, h6, h7⟩
  · rw [h2, domF_not]
    rintro ⟨h5, h6⟩
    exact h4 0 hw.one (fun e => h6 e.symm) (.zero h5)
  · rw [h2]
    exact (domF_eq (.most h5 h4 (fun a ha => hw.rch ha) fun a ha hab => h7 a (hw.rch ha.left) hab ha)).symm
noncomputable def cntD (to : List (List Int)) (a k : Nat) : Nat := (List.range k).countP fun c => domB to c a
theorem cntD_full {a : Nat} : cntD to a to.length = domN (EdgeL to) to.length a := rfl
theorem cntD_succ {a k : Nat} : cntD to a (k + 1) = cntD to a k + (if domB to k a then 1 else 0) := by
  unfold cntD
  rw [List.range_succ, List.countP_append, List.countP_cons, List.countP_nil]
  simp
theorem cntD_le {a k : Nat} : cntD to a k ≤ k := by
  have := List.countP_le_length (l := List.range k) (p := fun c => domB to c a)
  rw [List.length_range] at this
  exact this
theorem tellR_succ {n : Nat} {f : Nat → Int} : tellR (n + 1) f = tellR n f ++ [.int .i64 (f n)] := by
  unfold tellR
  rw [List.range_succ, List.map_append]; rfl
theorem dominators12 (g : Graph) (hg : g.tiny) : PCalls Try.prog 12 [g.t] (fun r => Ob ((g.leads ∧ r = .sl 1 (domsR (toL g))) ∨ (¬ g.leads ∧ r = .nsl))) := by
  by_cases hl : g.leads
  · have hlen : (toL g).length ≤ 20000 := by rw [toL_len]; exact hl.most
    have hw := hl.walk
    have h1 := hw.one
    refine PCalls.of_body ttOk Try.func12 rfl ?_
    repeat' ((conv => whnf); first | (with_reducible first | refine onBool_intro (fun _ => ?_) (fun _ => ?_) | refine And.intro (Ob.mk (Nat.le_of_ble_eq_true rfl)) ?_ | refine And.intro (Ob.mk rfl) ?_ | exact ⟨rfl, rfl⟩ | refine And.intro (Ob.mk (fun h => h)) ?_) | (with_reducible refine Or.inl (And.intro (Ob.mk (Flat.map ?_)) ?_); exact fun _ => rfl) | (refine Or.inl (And.intro (Ob.mk (flat_of rfl)) ?_)) | (refine Or.inl (And.intro (Ob.mk ⟨rfl, rfl, rfl, rfl⟩) ?_)) | (refine Or.inl (And.intro (Ob.mk ⟨rfl, rfl, rfl⟩) ?_)) | (refine And.intro (Ob.mk ⟨rfl, rfl⟩) ?_) | (with_reducible refine Or.inr ?_) | (refine And.intro (Ob.mk (flat_of rfl)) ?_) | (with_reducible refine And.intro (Ob.mk (Flat.map ?_)) ?_; exact fun _ => rfl) | (with_reducible first | exact Ob.mk (Flat.map fun _ => rfl) | refine And.intro ?_ ?_ | apply exG.mk | apply exGS.mk | exact Dd.nil) | (refine Dd.same _ ?_) | (refine Dd.dead _ ?_) | (with_reducible first | apply exQ.mk | apply exP.mk) | (refine EqP.mk rfl rfl) | (with_reducible apply exW.mk) | (refine EqW.mk rfl) | (with_reducible first | intro _ | refine Dn.mk ?_) | (refine exS.full (by first | rfl | (simp; done) | (simp; omega)) ?_) | (refine And.intro (Ob.mk ⟨rfl, rfl, by first | rfl | (simp; done) | (simp; omega)⟩) ?_) | (with_reducible refine exE.mapD ?_) | (refine exL.int ?_) | (with_reducible first | refine Up0.mk rfl ?_ | refine Up0i.mk rfl ?_ | refine Up1.mk rfl ?_ | refine Up1i.mk rfl ?_ | refine Up2.mk rfl ?_ | refine Up2i.mk rfl ?_) | (refine Col.mk rfl rfl rfl ?_) | (refine Coli.mk rfl rfl rfl rfl ?_) | (refine edges20y g hg hl ?_) | (refine around30k (toL g) hl.walk hlen hl.short ?_))
    all_goals (try (refine Ob.mk ?_; first | assumption | exact ⟨rfl, rfl⟩ | exact ⟨rfl, rfl, rfl⟩ | (refine ⟨rfl, rfl, ?_⟩; simp only [List.length_map, List.length_take, List.length_append, els_len, List.length_replicate]; omega) | (intro h; exact h) | (intro h; rw [h]; rfl) | (intro h; simp_all; done) | (refine bytes_le (n := 1048577) ?_ rfl; simp only [ltI_iff, ltI_not, leI_iff, leI_not, eqI_iff, eqI_not, List.length_map, bif_and, bif_or, Bool.and_eq_true, Bool.and_eq_false_iff, Bool.or_eq_true, Bool.or_eq_false_iff, Bool.not_eq_true', Bool.not_eq_false', Int.toNat_natCast, beq_iff_eq, beq_eq_false_iff_ne, decide_eq_true_eq, decide_eq_false_iff_not, bel_iff, bel_not, wthn_iff, wthn_not, els_len, mixL_len, Nat.zero_add, List.length_set, List.length_take] at *; omega) | (simp only [ltI_iff, ltI_not, leI_iff, leI_not, eqI_iff, eqI_not, List.length_map, bif_and, bif_or, Bool.and_eq_true, Bool.and_eq_false_iff, Bool.or_eq_true, Bool.or_eq_false_iff, Bool.not_eq_true', Bool.not_eq_false', Int.toNat_natCast, beq_iff_eq, beq_eq_false_iff_ne, decide_eq_true_eq, decide_eq_false_iff_not, bel_iff, bel_not, wthn_iff, wthn_not, els_len, mixL_len, Nat.zero_add, List.length_set, List.length_take, Int.ofNat_eq_natCast] at *; omega)))
    generalize toL g = to at *
    conv => whnf
    refine LoopVC.mk [7, 6] [(6, 3, 1)] (fun m vals σ => ∃ b : Nat, vals = [.t (.int .i64 b), .osl 1 0 b] ∧ σ = [gvar g, .row 3 1 (tellR b (domF to))] ∧ b ≤ to.length ∧ m = to.length - b) ?_ ?_
    · conv => whnf
      exact ⟨_, 0, rfl, rfl, Nat.zero_le _, rfl⟩
    · rintro m vals σ ⟨b, rfl, rfl, hb, rfl⟩
      have hlt : ltI (b : Int) (((to.map ilist).length : Nat) : Int) = true → b < to.length := fun h => by
        rw [ltI_iff, List.length_map] at h; omega
      repeat' ((conv => whnf); first | (with_reducible first | refine onBool_intro (fun _ => ?_) (fun _ => ?_) | refine And.intro (Ob.mk (Nat.le_of_ble_eq_true rfl)) ?_ | refine And.intro (Ob.mk rfl) ?_ | exact ⟨rfl, rfl⟩ | refine And.intro (Ob.mk (fun h => h)) ?_) | (with_reducible refine Or.inl (And.intro (Ob.mk (Flat.map ?_)) ?_); exact fun _ => rfl) | (refine Or.inl (And.intro (Ob.mk (flat_of rfl)) ?_)) | (refine Or.inl (And.intro (Ob.mk ⟨rfl, rfl, rfl, rfl⟩) ?_)) | (refine Or.inl (And.intro (Ob.mk ⟨rfl, rfl, rfl⟩) ?_)) | (refine And.intro (Ob.mk ⟨rfl, rfl⟩) ?_) | (with_reducible refine Or.inr ?_) | (refine And.intro (Ob.mk (flat_of rfl)) ?_) | (with_reducible refine And.intro (Ob.mk (Flat.map ?_)) ?_; exact fun _ => rfl) | (with_reducible first | exact Ob.mk (Flat.map fun _ => rfl) | refine And.intro ?_ ?_ | apply exG.mk | apply exGS.mk | exact Dd.nil) | (refine Dd.same _ ?_) | (refine Dd.dead _ ?_) | (with_reducible first | apply exQ.mk | apply exP.mk) | (refine EqP.mk rfl rfl) | (with_reducible apply exW.mk) | (refine EqW.mk rfl) | (with_reducible first | intro _ | refine Dn.mk ?_) | (refine exS.full (by first | rfl | (simp; done) | (simp; omega)) ?_) | (refine And.intro (Ob.mk ⟨rfl, rfl, by first | rfl | (simp; done) | (simp; omega)⟩) ?_) | (with_reducible refine exE.mapD ?_) | (refine exL.int ?_) | (with_reducible first | refine Up0.mk rfl ?_ | refine Up0i.mk rfl ?_ | refine Up1.mk rfl ?_ | refine Up1i.mk rfl ?_ | refine Up2.mk rfl ?_ | refine Up2i.mk rfl ?_) | (refine Col.mk rfl rfl rfl ?_) | (refine Coli.mk rfl rfl rfl rfl ?_))
      all_goals (try (refine Ob.mk ?_; first | assumption | exact ⟨rfl, rfl⟩ | exact ⟨rfl, rfl, rfl⟩ | (refine ⟨rfl, rfl, ?_⟩; simp only [List.length_map, List.length_take, List.length_append, els_len, List.length_replicate]; omega) | (intro h; exact h) | (intro h; rw [h]; rfl) | (intro h; simp_all; done) | (refine bytes_le (n := 1048577) ?_ rfl; simp only [ltI_iff, ltI_not, leI_iff, leI_not, eqI_iff, eqI_not, List.length_map, bif_and, bif_or, Bool.and_eq_true, Bool.and_eq_false_iff, Bool.or_eq_true, Bool.or_eq_false_iff, Bool.not_eq_true', Bool.not_eq_false', Int.toNat_natCast, beq_iff_eq, beq_eq_false_iff_ne, decide_eq_true_eq, decide_eq_false_iff_not, bel_iff, bel_not, wthn_iff, wthn_not, els_len, mixL_len, Nat.zero_add, List.length_set, List.length_take] at *; omega) | (simp only [ltI_iff, ltI_not, leI_iff, leI_not, eqI_iff, eqI_not, List.length_map, bif_and, bif_or, Bool.and_eq_true, Bool.and_eq_false_iff, Bool.or_eq_true, Bool.or_eq_false_iff, Bool.not_eq_true', Bool.not_eq_false', Int.toNat_natCast, beq_iff_eq, beq_eq_false_iff_ne, decide_eq_true_eq, decide_eq_false_iff_not, bel_iff, bel_not, wthn_iff, wthn_not, els_len, mixL_len, Nat.zero_add, List.length_set, List.length_take, Int.ofNat_eq_natCast] at *; omega)))
      · have hb2 := hlt (by assumption)
        conv => whnf
        refine LoopVC.mk [10, 8, 9] [] (fun m vals σ => ∃ (a : Nat) (best most : Int), vals = [.t (.int .i64 a), .t (.int .i64 best), .t (.int .i64 most)] ∧ σ = [gvar g, .row 3 1 (tellR b (domF to))] ∧ a ≤ to.length ∧ BestI to b a best most ∧ m = to.length - a) ?_ ?_
        · conv => whnf
          exact ⟨_, 0, _, _, rfl, rfl, Nat.zero_le _, .zero, rfl⟩
        · rintro m2 vals σ ⟨a, best, most, rfl, rfl, ha, hB, rfl⟩
          have hlt2 : ltI (a : Int) (((to.map ilist).length : Nat) : Int) = true → a < to.length := fun h => by
            rw [ltI_iff, List.length_map] at h; omega
          repeat' ((conv => whnf); first | (with_reducible first | refine onBool_intro (fun _ => ?_) (fun _ => ?_) | refine And.intro (Ob.mk (Nat.le_of_ble_eq_true rfl)) ?_ | refine And.intro (Ob.mk rfl) ?_ | exact ⟨rfl, rfl⟩ | refine And.intro (Ob.mk (fun h => h)) ?_) | (with_reducible refine Or.inl (And.intro (Ob.mk (Flat.map ?_)) ?_); exact fun _ => rfl) | (refine Or.inl (And.intro (Ob.mk (flat_of rfl)) ?_)) | (refine Or.inl (And.intro (Ob.mk ⟨rfl, rfl, rfl, rfl⟩) ?_)) | (refine Or.inl (And.intro (Ob.mk ⟨rfl, rfl, rfl⟩) ?_)) | (refine And.intro (Ob.mk ⟨rfl, rfl⟩) ?_) | (with_reducible refine Or.inr ?_) | (refine And.intro (Ob.mk (flat_of rfl)) ?_) | (with_reducible refine And.intro (Ob.mk (Flat.map ?_)) ?_; exact fun _ => rfl) | (with_reducible first | exact Ob.mk (Flat.map fun _ => rfl) | refine And.intro ?_ ?_ | apply exG.mk | apply exGS.mk | exact Dd.nil) | (refine Dd.same _ ?_) | (refine Dd.dead _ ?_) | (with_reducible first | apply exQ.mk | apply exP.mk) | (refine EqP.mk rfl rfl) | (with_reducible apply exW.mk) | (refine EqW.mk rfl) | (with_reducible first | intro _ | refine Dn.mk ?_) | (refine exS.full (by first | rfl | (simp; done) | (simp; omega)) ?_) | (refine And.intro (Ob.mk ⟨rfl, rfl, by first | rfl | (simp; done) | (simp; omega)⟩) ?_) | (with_reducible refine exE.mapD ?_) | (refine exL.int ?_) | (with_reducible first | refine Up0.mk rfl ?_ | refine Up0i.mk rfl ?_ | refine Up1.mk rfl ?_ | refine Up1i.mk rfl ?_ | refine Up2.mk rfl ?_ | refine Up2i.mk rfl ?_) | (refine Col.mk rfl rfl rfl ?_) | (refine Coli.mk rfl rfl rfl rfl ?_))
          all_goals (try (refine Ob.mk ?_; first | assumption | exact ⟨rfl, rfl⟩ | exact ⟨rfl, rfl, rfl⟩ | (refine ⟨rfl, rfl, ?_⟩; simp only [List.length_map, List.length_take, List.length_append, els_len, List.length_replicate]; omega) | (intro h; exact h) | (intro h; rw [h]; rfl) | (intro h; simp_all; done) | (refine bytes_le (n := 1048577) ?_ rfl; simp only [ltI_iff, ltI_not, leI_iff, leI_not, eqI_iff, eqI_not, List.length_map, bif_and, bif_or, Bool.and_eq_true, Bool.and_eq_false_iff, Bool.or_eq_true, Bool.or_eq_false_iff, Bool.not_eq_true', Bool.not_eq_false', Int.toNat_natCast, beq_iff_eq, beq_eq_false_iff_ne, decide_eq_true_eq, decide_eq_false_iff_not, bel_iff, bel_not, wthn_iff, wthn_not, els_len, mixL_len, Nat.zero_add, List.length_set, List.length_take] at *; omega) | (simp only [ltI_iff, ltI_not, leI_iff, leI_not, eqI_iff, eqI_not, List.length_map, bif_and, bif_or, Bool.and_eq_true, Bool.and_eq_false_iff, Bool.or_eq_true, Bool.or_eq_false_iff, Bool.not_eq_true', Bool.not_eq_false', Int.toNat_natCast, beq_iff_eq, beq_eq_false_iff_ne, decide_eq_true_eq, decide_eq_false_iff_not, bel_iff, bel_not, wthn_iff, wthn_not, els_len, mixL_len, Nat.zero_add, List.length_set, List.length_take, Int.ofNat_eq_natCast] at *; omega)))
          all_goals (try (refine Ob.mk ?_; have := hlt2 (by assumption); simp; omega))
          all_goals (try have ha2 := hlt2 (by assumption))
          · conv => whnf
            rename_i h3
            rw [Int.toNat_natCast, Int.toNat_natCast, nthD_range ha2, nthD_range hb2] at h3
            refine ⟨to.length - (a + 1), by omega, a + 1, best, most, ?_, rfl, ha2, hB.skip ?_, rfl⟩
            · rw [addI_i64 (by omega) (by omega)]; rfl
            · cases h4 : eqI (a : Int) (b : Int) with
              | true => exact .inl (by have := eqI_iff.1 h4; omega)
              | false =>
                rw [h4] at h3
                refine .inr fun hd => ?_
                rw [domB_iff.2 hd] at h3
                cases h3
          · rename_i h3
            rw [Int.toNat_natCast, Int.toNat_natCast, nthD_range ha2, nthD_range hb2] at h3
            have hab : a ≠ b := fun e => by
              rw [eqI_iff.2 (by omega)] at h3; cases h3
            have hd : Dom (EdgeL to) a b := by
              rw [eqI_not.2 (by omega)] at h3
              have h3 : (!domB to a b) = false := h3
              exact domB_iff.1 (by simpa using h3)
            conv => whnf
            refine LoopVC.mk [12, 11] [] (fun m vals σ => ∃ k : Nat, vals = [.t (.int .i64 k), .t (.int .i64 (cntD to a k : Nat))] ∧ σ = [gvar g, .row 3 1 (tellR b (domF to))] ∧ k ≤ to.length ∧ m = to.length - k) ?_ ?_
            · conv => whnf
              exact ⟨_, 0, rfl, rfl, Nat.zero_le _, rfl⟩
            · rintro m3 vals σ ⟨k, rfl, rfl, hk, rfl⟩
              have hcl := cntD_le (to := to) (a := a) (k := k)
              have hlt3 : ltI (k : Int) (((to.map ilist).length : Nat) : Int) = true → k < to.length := fun h => by
                rw [ltI_iff, List.length_map] at h; omega
              repeat' ((conv => whnf); first | (with_reducible first | refine onBool_intro (fun _ => ?_) (fun _ => ?_) | refine And.intro (Ob.mk (Nat.le_of_ble_eq_true rfl)) ?_ | refine And.intro (Ob.mk rfl) ?_ | exact ⟨rfl, rfl⟩ | refine And.intro (Ob.mk (fun h => h)) ?_) | (with_reducible refine Or.inl (And.intro (Ob.mk (Flat.map ?_)) ?_); exact fun _ => rfl) | (refine Or.inl (And.intro (Ob.mk (flat_of rfl)) ?_)) | (refine Or.inl (And.intro (Ob.mk ⟨rfl, rfl, rfl, rfl⟩) ?_)) | (refine Or.inl (And.intro (Ob.mk ⟨rfl, rfl, rfl⟩) ?_)) | (refine And.intro (Ob.mk ⟨rfl, rfl⟩) ?_) | (with_reducible refine Or.inr ?_) | (refine And.intro (Ob.mk (flat_of rfl)) ?_) | (with_reducible refine And.intro (Ob.mk (Flat.map ?_)) ?_; exact fun _ => rfl) | (with_reducible first | exact Ob.mk (Flat.map fun _ => rfl) | refine And.intro ?_ ?_ | apply exG.mk | apply exGS.mk | exact Dd.nil) | (refine Dd.same _ ?_) | (refine Dd.dead _ ?_) | (with_reducible first | apply exQ.mk | apply exP.mk) | (refine EqP.mk rfl rfl) | (with_reducible apply exW.mk) | (refine EqW.mk rfl) | (with_reducible first | intro _ | refine Dn.mk ?_) | (refine exS.full (by first | rfl | (simp; done) | (simp; omega)) ?_) | (refine And.intro (Ob.mk ⟨rfl, rfl, by first | rfl | (simp; done) | (simp; omega)⟩) ?_) | (with_reducible refine exE.mapD ?_) | (refine exL.int ?_) | (with_reducible first | refine Up0.mk rfl ?_ | refine Up0i.mk rfl ?_ | refine Up1.mk rfl ?_ | refine Up1i.mk rfl ?_ | refine Up2.mk rfl ?_ | refine Up2i.mk rfl ?_) | (refine Col.mk rfl rfl rfl ?_) | (refine Coli.mk rfl rfl rfl rfl ?_))
              all_goals (try (refine Ob.mk ?_; first | assumption | exact ⟨rfl, rfl⟩ | exact ⟨rfl, rfl, rfl⟩ | (refine ⟨rfl, rfl, ?_⟩; simp only [List.length_map, List.length_take, List.length_append, els_len, List.length_replicate]; omega) | (intro h; exact h) | (intro h; rw [h]; rfl) | (intro h; simp_all; done) | (refine bytes_le (n := 1048577) ?_ rfl; simp only [ltI_iff, ltI_not, leI_iff, leI_not, eqI_iff, eqI_not, List.length_map, bif_and, bif_or, Bool.and_eq_true, Bool.and_eq_false_iff, Bool.or_eq_true, Bool.or_eq_false_iff, Bool.not_eq_true', Bool.not_eq_false', Int.toNat_natCast, beq_iff_eq, beq_eq_false_iff_ne, decide_eq_true_eq, decide_eq_false_iff_not, bel_iff, bel_not, wthn_iff, wthn_not, els_len, mixL_len, Nat.zero_add, List.length_set, List.length_take] at *; omega) | (simp only [ltI_iff, ltI_not, leI_iff, leI_not, eqI_iff, eqI_not, List.length_map, bif_and, bif_or, Bool.and_eq_true, Bool.and_eq_false_iff, Bool.or_eq_true, Bool.or_eq_false_iff, Bool.not_eq_true', Bool.not_eq_false', Int.toNat_natCast, beq_iff_eq, beq_eq_false_iff_ne, decide_eq_true_eq, decide_eq_false_iff_not, bel_iff, bel_not, wthn_iff, wthn_not, els_len, mixL_len, Nat.zero_add, List.length_set, List.length_take, Int.ofNat_eq_natCast] at *; omega)))
              all_goals (try (refine Ob.mk ?_; have := hlt3 (by assumption); simp; omega))
              all_goals (try have hk2 := hlt3 (by assumption))
              · conv => whnf
                rename_i h4
                rw [Int.toNat_natCast, Int.toNat_natCast, nthD_range hk2, nthD_range ha2] at h4
                refine ⟨to.length - (k + 1), by omega, k + 1, ?_, rfl, hk2, rfl⟩
                rw [addI_i64 (by omega) (by omega), addI_i64 (by omega) (by omega), cntD_succ, if_pos h4]; rfl
              · conv => whnf
                rename_i h4
                rw [Int.toNat_natCast, Int.toNat_natCast, nthD_range hk2, nthD_range ha2] at h4
                refine ⟨to.length - (k + 1), by omega, k + 1, ?_, rfl, hk2, rfl⟩
                rw [addI_i64 (by omega) (by omega), cntD_succ, if_neg (by rw [h4]; simp)]; rfl
              all_goals
                have hk3 : k = to.length := by
                  have h4 : ltI (k : Int) (((to.map ilist).length : Nat) : Int) = false := by assumption
                  rw [ltI_not, List.length_map] at h4; omega
                subst hk3
                conv => whnf
              · have h5 : ltI most ((cntD to a to.length : Nat) : Int) = true := by assumption
                rw [ltI_iff, cntD_full] at h5
                refine ⟨to.length - (a + 1), by omega, a + 1, _, _, ?_, rfl, ha2, hB.take hab hd h5, rfl⟩
                rw [addI_i64 (by omega) (by omega)]; rfl
              · have h5 : ltI most ((cntD to a to.length : Nat) : Int) = false := by assumption
                rw [ltI_not, cntD_full] at h5
                refine ⟨to.length - (a + 1), by omega, a + 1, _, _, ?_, rfl, ha2, hB.keep hw hab hd h5, rfl⟩
                rw [addI_i64 (by omega) (by omega)]; rfl
          · conv => whnf
            have ha2 : a = to.length := by
              have h3 : ltI (a : Int) (((to.map ilist).length : Nat) : Int) = false := by assumption
              rw [ltI_not, List.length_map] at h3; omega
            subst ha2
            have hbest := hB.last hw
            subst hbest
            refine ⟨to.length - (b + 1), by omega, b + 1, ?_, ?_, hb2, rfl⟩
            · rw [addI_i64 (by omega) (by omega)]; rfl
            · rw [tellR_succ]; rfl
      · have hb2 : b = to.length := by
          have h3 : ltI (b : Int) (((to.map ilist).length : Nat) : Int) = false := by assumption
          rw [ltI_not, List.length_map] at h3; omega
        subst hb2
        exact Ob.mk (.inl ⟨hl, rfl⟩)
  · refine PCalls.of_body ttOk Try.func12 rfl ?_
    repeat' ((conv => whnf); first | (with_reducible first | refine onBool_intro (fun _ => ?_) (fun _ => ?_) | refine And.intro (Ob.mk (Nat.le_of_ble_eq_true rfl)) ?_ | refine And.intro (Ob.mk rfl) ?_ | exact ⟨rfl, rfl⟩ | refine And.intro (Ob.mk (fun h => h)) ?_) | (with_reducible refine Or.inl (And.intro (Ob.mk (Flat.map ?_)) ?_); exact fun _ => rfl) | (refine Or.inl (And.intro (Ob.mk (flat_of rfl)) ?_)) | (refine Or.inl (And.intro (Ob.mk ⟨rfl, rfl, rfl, rfl⟩) ?_)) | (refine Or.inl (And.intro (Ob.mk ⟨rfl, rfl, rfl⟩) ?_)) | (refine And.intro (Ob.mk ⟨rfl, rfl⟩) ?_) | (with_reducible refine Or.inr ?_) | (refine And.intro (Ob.mk (flat_of rfl)) ?_) | (with_reducible refine And.intro (Ob.mk (Flat.map ?_)) ?_; exact fun _ => rfl) | (with_reducible first | exact Ob.mk (Flat.map fun _ => rfl) | refine And.intro ?_ ?_ | apply exG.mk | apply exGS.mk | exact Dd.nil) | (refine Dd.same _ ?_) | (refine Dd.dead _ ?_) | (with_reducible first | apply exQ.mk | apply exP.mk) | (refine EqP.mk rfl rfl) | (with_reducible apply exW.mk) | (refine EqW.mk rfl) | (with_reducible first | intro _ | refine Dn.mk ?_) | (refine exS.full (by first | rfl | (simp; done) | (simp; omega)) ?_) | (refine And.intro (Ob.mk ⟨rfl, rfl, by first | rfl | (simp; done) | (simp; omega)⟩) ?_) | (with_reducible refine exE.mapD ?_) | (refine exL.int ?_) | (with_reducible first | refine Up0.mk rfl ?_ | refine Up0i.mk rfl ?_ | refine Up1.mk rfl ?_ | refine Up1i.mk rfl ?_ | refine Up2.mk rfl ?_ | refine Up2i.mk rfl ?_) | (refine Col.mk rfl rfl rfl ?_) | (refine Coli.mk rfl rfl rfl rfl ?_) | (refine edges20n g hg hl ?_))
    exact Ob.mk (.inr ⟨hl, rfl⟩)
end Go.Proofs.Ytgladinljapmkaa.Am

/- Loops: back edges, by the document's answer. -/
namespace Go.Proofs.Ytgladinljapmkaa.Am
open Go Go.Proofs
set_option maxRecDepth 10000
set_option maxHeartbeats 2000000
set_option linter.unusedVariables false
set_option linter.unusedSimpArgs false
theorem backR_succ {to : List (List Int)} {a k : Nat} {A : List (Int × Int)} (hk : k < (nthD to a).length) (h : domB to (nthD (nthD to a) k).toNat a = true) : pairsR (A ++ backE to a (k + 1)) = pairsR (A ++ backE to a k) ++ [pairT ((a : Int), nthD (nthD to a) k)] := by
  rw [backE_succ hk, if_pos h, ← List.append_assoc]; exact List.map_append
theorem backR_len {to : List (List Int)} {a k : Nat} {A : List (Int × Int)} (hk : k < (nthD to a).length) (h : domB to (nthD (nthD to a) k).toNat a = true) : (A ++ backE to a (k + 1)).length = (A ++ backE to a k).length + 1 := by
  rw [backE_succ hk, if_pos h, ← List.append_assoc]; exact List.length_append
theorem flatA2 {x y : Int} : FlatA [.int .i64 x, .int .i64 y] := fun z hz => by
  simp at hz
  rcases hz with rfl | rfl <;> rfl
theorem back13 (g : Graph) (hg : g.tiny) : PCalls Try.prog 13 [g.t] (fun r => Ob ((g.leads ∧ r = .sl 2 (pairsR (backL (toL g)))) ∨ (¬ g.leads ∧ r = .nsl))) := by
  by_cases hl : g.leads
  · have hlen : (toL g).length ≤ 20000 := by rw [toL_len]; exact hl.most
    have hw := hl.walk
    have hr := hl.short
    have h1 := hw.one
    refine PCalls.of_body ttOk Try.func13 rfl ?_
    repeat' ((conv => whnf); first | (with_reducible first | refine onBool_intro (fun _ => ?_) (fun _ => ?_) | refine And.intro (Ob.mk (Nat.le_of_ble_eq_true rfl)) ?_ | refine And.intro (Ob.mk rfl) ?_ | exact ⟨rfl, rfl⟩ | refine And.intro (Ob.mk (fun h => h)) ?_) | (with_reducible refine Or.inl (And.intro (Ob.mk (Flat.map ?_)) ?_); exact fun _ => rfl) | (refine Or.inl (And.intro (Ob.mk (flat_of rfl)) ?_)) | (refine Or.inl (And.intro (Ob.mk ⟨rfl, rfl, rfl, rfl⟩) ?_)) | (refine Or.inl (And.intro (Ob.mk ⟨rfl, rfl, rfl⟩) ?_)) | (refine And.intro (Ob.mk ⟨rfl, rfl⟩) ?_) | (with_reducible refine Or.inr ?_) | (refine And.intro (Ob.mk (flat_of rfl)) ?_) | (with_reducible refine And.intro (Ob.mk (Flat.map ?_)) ?_; exact fun _ => rfl) | (with_reducible first | exact Ob.mk (Flat.map fun _ => rfl) | refine And.intro ?_ ?_ | apply exG.mk | apply exGS.mk | exact Dd.nil) | (refine Dd.same _ ?_) | (refine Dd.dead _ ?_) | (with_reducible first | apply exQ.mk | apply exP.mk) | (refine EqP.mk rfl rfl) | (with_reducible apply exW.mk) | (refine EqW.mk rfl) | (with_reducible first | intro _ | refine Dn.mk ?_) | (refine exS.full (by first | rfl | (simp; done) | (simp; omega)) ?_) | (refine And.intro (Ob.mk ⟨rfl, rfl, by first | rfl | (simp; done) | (simp; omega)⟩) ?_) | (with_reducible refine exE.mapD ?_) | (refine exL.int ?_) | (with_reducible first | refine Up0.mk rfl ?_ | refine Up0i.mk rfl ?_ | refine Up1.mk rfl ?_ | refine Up1i.mk rfl ?_ | refine Up2.mk rfl ?_ | refine Up2i.mk rfl ?_) | (refine Col.mk rfl rfl rfl ?_) | (refine Coli.mk rfl rfl rfl rfl ?_) | (refine edges20y g hg hl ?_) | (refine around30k (toL g) hl.walk hlen hl.short ?_))
    all_goals (try (refine Ob.mk ?_; first | assumption | exact ⟨rfl, rfl⟩ | exact ⟨rfl, rfl, rfl⟩ | (refine ⟨rfl, rfl, ?_⟩; simp only [List.length_map, List.length_take, List.length_append, els_len, List.length_replicate]; omega) | (intro h; exact h) | (intro h; rw [h]; rfl) | (intro h; simp_all; done) | (refine bytes_le (n := 1048577) ?_ rfl; simp only [ltI_iff, ltI_not, leI_iff, leI_not, eqI_iff, eqI_not, List.length_map, bif_and, bif_or, Bool.and_eq_true, Bool.and_eq_false_iff, Bool.or_eq_true, Bool.or_eq_false_iff, Bool.not_eq_true', Bool.not_eq_false', Int.toNat_natCast, beq_iff_eq, beq_eq_false_iff_ne, decide_eq_true_eq, decide_eq_false_iff_not, bel_iff, bel_not, wthn_iff, wthn_not, els_len, mixL_len, Nat.zero_add, List.length_set, List.length_take] at *; omega) | (simp only [ltI_iff, ltI_not, leI_iff, leI_not, eqI_iff, eqI_not, List.length_map, bif_and, bif_or, Bool.and_eq_true, Bool.and_eq_false_iff, Bool.or_eq_true, Bool.or_eq_false_iff, Bool.not_eq_true', Bool.not_eq_false', Int.toNat_natCast, beq_iff_eq, beq_eq_false_iff_ne, decide_eq_true_eq, decide_eq_false_iff_not, bel_iff, bel_not, wthn_iff, wthn_not, els_len, mixL_len, Nat.zero_add, List.length_set, List.length_take, Int.ofNat_eq_natCast] at *; omega)))
    generalize toL g = to at *
    conv => whnf
    refine LoopVC.mk [7, 6] [(6, 35, 2)] (fun m vals σ => ∃ a : Nat, vals = [.t (.int .i64 a), .osl 1 0 (backP to a).length] ∧ σ = [gvar g, .row 35 2 (pairsR (backP to a))] ∧ a ≤ to.length ∧ m = to.length - a) ?_ ?_
    · conv => whnf
      exact ⟨_, 0, rfl, rfl, Nat.zero_le _, rfl⟩
    · rintro m vals σ ⟨a, rfl, rfl, ha, rfl⟩
      have hbl := backP_len hr ha
      have hlt : ltI (a : Int) (((to.map ilist).length : Nat) : Int) = true → a < to.length := fun h => by
        rw [ltI_iff, List.length_map] at h; omega
      repeat' ((conv => whnf); first | (with_reducible first | refine onBool_intro (fun _ => ?_) (fun _ => ?_) | refine And.intro (Ob.mk (Nat.le_of_ble_eq_true rfl)) ?_ | refine And.intro (Ob.mk rfl) ?_ | exact ⟨rfl, rfl⟩ | refine And.intro (Ob.mk (fun h => h)) ?_) | (with_reducible refine Or.inl (And.intro (Ob.mk (Flat.map ?_)) ?_); exact fun _ => rfl) | (refine Or.inl (And.intro (Ob.mk (flat_of rfl)) ?_)) | (refine Or.inl (And.intro (Ob.mk ⟨rfl, rfl, rfl, rfl⟩) ?_)) | (refine Or.inl (And.intro (Ob.mk ⟨rfl, rfl, rfl⟩) ?_)) | (refine And.intro (Ob.mk ⟨rfl, rfl⟩) ?_) | (with_reducible refine Or.inr ?_) | (refine And.intro (Ob.mk (flat_of rfl)) ?_) | (with_reducible refine And.intro (Ob.mk (Flat.map ?_)) ?_; exact fun _ => rfl) | (with_reducible first | exact Ob.mk (Flat.map fun _ => rfl) | refine And.intro ?_ ?_ | apply exG.mk | apply exGS.mk | exact Dd.nil) | (refine Dd.same _ ?_) | (refine Dd.dead _ ?_) | (with_reducible first | apply exQ.mk | apply exP.mk) | (refine EqP.mk rfl rfl) | (with_reducible apply exW.mk) | (refine EqW.mk rfl) | (with_reducible first | intro _ | refine Dn.mk ?_) | (refine exS.full (by first | rfl | (simp; done) | (simp; omega)) ?_) | (refine And.intro (Ob.mk ⟨rfl, rfl, by first | rfl | (simp; done) | (simp; omega)⟩) ?_) | (with_reducible refine exE.mapD ?_) | (refine exL.int ?_) | (with_reducible first | refine Up0.mk rfl ?_ | refine Up0i.mk rfl ?_ | refine Up1.mk rfl ?_ | refine Up1i.mk rfl ?_ | refine Up2.mk rfl ?_ | refine Up2i.mk rfl ?_) | (refine Col.mk rfl rfl rfl ?_) | (refine Coli.mk rfl rfl rfl rfl ?_))
      all_goals (try (refine Ob.mk ?_; first | assumption | exact ⟨rfl, rfl⟩ | exact ⟨rfl, rfl, rfl⟩ | (refine ⟨rfl, rfl, ?_⟩; simp only [List.length_map, List.length_take, List.length_append, els_len, List.length_replicate]; omega) | (intro h; exact h) | (intro h; rw [h]; rfl) | (intro h; simp_all; done) | (refine bytes_le (n := 1048577) ?_ rfl; simp only [ltI_iff, ltI_not, leI_iff, leI_not, eqI_iff, eqI_not, List.length_map, bif_and, bif_or, Bool.and_eq_true, Bool.and_eq_false_iff, Bool.or_eq_true, Bool.or_eq_false_iff, Bool.not_eq_true', Bool.not_eq_false', Int.toNat_natCast, beq_iff_eq, beq_eq_false_iff_ne, decide_eq_true_eq, decide_eq_false_iff_not, bel_iff, bel_not, wthn_iff, wthn_not, els_len, mixL_len, Nat.zero_add, List.length_set, List.length_take] at *; omega) | (simp only [ltI_iff, ltI_not, leI_iff, leI_not, eqI_iff, eqI_not, List.length_map, bif_and, bif_or, Bool.and_eq_true, Bool.and_eq_false_iff, Bool.or_eq_true, Bool.or_eq_false_iff, Bool.not_eq_true', Bool.not_eq_false', Int.toNat_natCast, beq_iff_eq, beq_eq_false_iff_ne, decide_eq_true_eq, decide_eq_false_iff_not, bel_iff, bel_not, wthn_iff, wthn_not, els_len, mixL_len, Nat.zero_add, List.length_set, List.length_take, Int.ofNat_eq_natCast] at *; omega)))
      · have ha2 := hlt (by assumption)
        have hrl := hr _ (nthD_mem ha2)
        conv => whnf
        refine LoopVC.mk [8, 6] [] (fun m vals σ => ∃ k : Nat, vals = [.t (.int .i64 k), .osl 2 0 (backP to a ++ backE to a k).length] ∧ σ = [gvar g, .dead, .row 35 2 (pairsR (backP to a ++ backE to a k))] ∧ k ≤ (nthD to a).length ∧ m = (nthD to a).length - k) ?_ ?_
        · conv => whnf
          refine ⟨_, 0, ?_, ?_, Nat.zero_le _, rfl⟩
          · rw [backE_zero, List.append_nil]; rfl
          · rw [backE_zero, List.append_nil]
        · rintro m2 vals σ ⟨k, rfl, rfl, hk, rfl⟩
          have hel := backE_len (to := to) (a := a) (k := k)
          have hab : (backP to a ++ backE to a k).length ≤ 20001 * 1048576 := by rw [List.length_append]; omega
          have hkk : ltI (k : Int) ((((nthD to ((a : Int)).toNat).map fun n => T.int .i64 n).length : Nat) : Int) = true → k < (nthD to a).length := fun h => by
            rw [ltI_iff, List.length_map, Int.toNat_natCast] at h; omega
          have hrg : k < (nthD to a).length → 0 ≤ nthD (nthD to a) k ∧ nthD (nthD to a) k < to.length := fun h => hw.rng a ha2 _ (nthD_mem h)
          have ebk : nthD (nthD to ((a : Int)).toNat) ((k : Int)).toNat = nthD (nthD to a) k := by rw [Int.toNat_natCast, Int.toNat_natCast]
          have hdd : k < (nthD to a).length → domB to (nthD (List.range to.length) (nthD (nthD to ((a : Int)).toNat) ((k : Int)).toNat).toNat) (nthD (List.range to.length) ((a : Int)).toNat) = domB to (nthD (nthD to a) k).toNat a := fun h => by
            have := hrg h
            rw [ebk, nthD_range (by omega), Int.toNat_natCast, nthD_range ha2]
          repeat' ((conv => whnf); first | (with_reducible first | refine onBool_intro (fun _ => ?_) (fun _ => ?_) | refine And.intro (Ob.mk (Nat.le_of_ble_eq_true rfl)) ?_ | refine And.intro (Ob.mk rfl) ?_ | exact ⟨rfl, rfl⟩ | refine And.intro (Ob.mk (fun h => h)) ?_) | (with_reducible refine Or.inl (And.intro (Ob.mk (Flat.map ?_)) ?_); exact fun _ => rfl) | (refine Or.inl (And.intro (Ob.mk (flat_of rfl)) ?_)) | (refine Or.inl (And.intro (Ob.mk ⟨rfl, rfl, rfl, rfl⟩) ?_)) | (refine Or.inl (And.intro (Ob.mk ⟨rfl, rfl, rfl⟩) ?_)) | (refine And.intro (Ob.mk ⟨rfl, rfl⟩) ?_) | (with_reducible refine Or.inr ?_) | (refine And.intro (Ob.mk (flat_of rfl)) ?_) | (with_reducible refine And.intro (Ob.mk (Flat.map ?_)) ?_; exact fun _ => rfl) | (with_reducible first | exact Ob.mk (Flat.map fun _ => rfl) | refine And.intro ?_ ?_ | apply exG.mk | apply exGS.mk | exact Dd.nil) | (refine Dd.same _ ?_) | (refine Dd.dead _ ?_) | (with_reducible first | apply exQ.mk | apply exP.mk) | (refine EqP.mk rfl rfl) | (with_reducible apply exW.mk) | (refine EqW.mk rfl) | (with_reducible first | intro _ | refine Dn.mk ?_) | (refine exS.full (by first | rfl | (simp; done) | (simp; omega)) ?_) | (refine And.intro (Ob.mk ⟨rfl, rfl, by first | rfl | (simp; done) | (simp; omega)⟩) ?_) | (with_reducible refine exE.mapD ?_) | (refine exL.int ?_) | (with_reducible first | refine Up0.mk rfl ?_ | refine Up0i.mk rfl ?_ | refine Up1.mk rfl ?_ | refine Up1i.mk rfl ?_ | refine Up2.mk rfl ?_ | refine Up2i.mk rfl ?_) | (refine Col.mk rfl rfl rfl ?_) | (refine Coli.mk rfl rfl rfl rfl ?_))
          all_goals (try (refine Ob.mk ?_; first | assumption | exact ⟨rfl, rfl⟩ | exact ⟨rfl, rfl, rfl⟩ | (refine ⟨rfl, rfl, ?_⟩; simp only [List.length_map, List.length_take, List.length_append, els_len, List.length_replicate]; omega) | (intro h; exact h) | (intro h; rw [h]; rfl) | (intro h; simp_all; done) | (refine bytes_le (n := 1048577) ?_ rfl; simp only [ltI_iff, ltI_not, leI_iff, leI_not, eqI_iff, eqI_not, List.length_map, bif_and, bif_or, Bool.and_eq_true, Bool.and_eq_false_iff, Bool.or_eq_true, Bool.or_eq_false_iff, Bool.not_eq_true', Bool.not_eq_false', Int.toNat_natCast, beq_iff_eq, beq_eq_false_iff_ne, decide_eq_true_eq, decide_eq_false_iff_not, bel_iff, bel_not, wthn_iff, wthn_not, els_len, mixL_len, Nat.zero_add, List.length_set, List.length_take] at *; omega) | (simp only [ltI_iff, ltI_not, leI_iff, leI_not, eqI_iff, eqI_not, List.length_map, bif_and, bif_or, Bool.and_eq_true, Bool.and_eq_false_iff, Bool.or_eq_true, Bool.or_eq_false_iff, Bool.not_eq_true', Bool.not_eq_false', Int.toNat_natCast, beq_iff_eq, beq_eq_false_iff_ne, decide_eq_true_eq, decide_eq_false_iff_not, bel_iff, bel_not, wthn_iff, wthn_not, els_len, mixL_len, Nat.zero_add, List.length_set, List.length_take, Int.ofNat_eq_natCast] at *; omega)))
          all_goals (try have hk3 := hkk (by assumption))
          all_goals (try (refine Ob.mk ?_; rw [ebk]; have := hrg hk3; simp; omega))
          all_goals (try (refine Ob.mk ?_; rw [ebk]; have := hrg hk3; omega))
          all_goals (try (refine Ob.mk ?_; simp; omega))
          all_goals (try exact Ob.mk flatA2)
          · refine Ob.mk ?_
            show ((backP to a ++ backE to a k).length + 1) * 16 ≤ 2 ^ 47
            omega
          · conv => whnf
            have hd : domB to (nthD (nthD to a) k).toNat a = true := (hdd hk3).symm.trans (by assumption)
            refine ⟨(nthD to a).length - (k + 1), by omega, k + 1, ?_, ?_, by omega, rfl⟩
            · rw [addI_i64 (by omega) (by omega), backR_len hk3 hd]; rfl
            · refine Eq.trans ?_ (congrArg (fun z => [gvar g, .dead, SObj.row 35 2 z]) (backR_succ hk3 hd).symm)
              exact rfl
          · conv => whnf
            have hd : domB to (nthD (nthD to a) k).toNat a = false := (hdd hk3).symm.trans (by assumption)
            refine ⟨(nthD to a).length - (k + 1), by omega, k + 1, ?_, ?_, by omega, rfl⟩
            · rw [addI_i64 (by omega) (by omega), backE_succ hk3, if_neg (by rw [hd]; simp), List.append_nil]; rfl
            · rw [backE_succ hk3, if_neg (by rw [hd]; simp), List.append_nil]
          · conv => whnf
            have hk4 : k = (nthD to a).length := by
              have h3 : ltI (k : Int) ((((nthD to ((a : Int)).toNat).map (fun n => T.int .i64 n)).length : Nat) : Int) = false := by assumption
              rw [ltI_not, List.length_map, Int.toNat_natCast] at h3; omega
            refine ⟨to.length - (a + 1), by omega, a + 1, ?_, ?_, ha2, rfl⟩
            · rw [addI_i64 (by omega) (by omega), backP_succ, hk4]; rfl
            · rw [backP_succ, hk4]
      · have ha2 : a = to.length := by
          have h3 : ltI (a : Int) (((to.map ilist).length : Nat) : Int) = false := by assumption
          rw [ltI_not, List.length_map] at h3; omega
        subst ha2
        exact Ob.mk (.inl ⟨hl, rfl⟩)
  · refine PCalls.of_body ttOk Try.func13 rfl ?_
    repeat' ((conv => whnf); first | (with_reducible first | refine onBool_intro (fun _ => ?_) (fun _ => ?_) | refine And.intro (Ob.mk (Nat.le_of_ble_eq_true rfl)) ?_ | refine And.intro (Ob.mk rfl) ?_ | exact ⟨rfl, rfl⟩ | refine And.intro (Ob.mk (fun h => h)) ?_) | (with_reducible refine Or.inl (And.intro (Ob.mk (Flat.map ?_)) ?_); exact fun _ => rfl) | (refine Or.inl (And.intro (Ob.mk (flat_of rfl)) ?_)) | (refine Or.inl (And.intro (Ob.mk ⟨rfl, rfl, rfl, rfl⟩) ?_)) | (refine Or.inl (And.intro (Ob.mk ⟨rfl, rfl, rfl⟩) ?_)) | (refine And.intro (Ob.mk ⟨rfl, rfl⟩) ?_) | (with_reducible refine Or.inr ?_) | (refine And.intro (Ob.mk (flat_of rfl)) ?_) | (with_reducible refine And.intro (Ob.mk (Flat.map ?_)) ?_; exact fun _ => rfl) | (with_reducible first | exact Ob.mk (Flat.map fun _ => rfl) | refine And.intro ?_ ?_ | apply exG.mk | apply exGS.mk | exact Dd.nil) | (refine Dd.same _ ?_) | (refine Dd.dead _ ?_) | (with_reducible first | apply exQ.mk | apply exP.mk) | (refine EqP.mk rfl rfl) | (with_reducible apply exW.mk) | (refine EqW.mk rfl) | (with_reducible first | intro _ | refine Dn.mk ?_) | (refine exS.full (by first | rfl | (simp; done) | (simp; omega)) ?_) | (refine And.intro (Ob.mk ⟨rfl, rfl, by first | rfl | (simp; done) | (simp; omega)⟩) ?_) | (with_reducible refine exE.mapD ?_) | (refine exL.int ?_) | (with_reducible first | refine Up0.mk rfl ?_ | refine Up0i.mk rfl ?_ | refine Up1.mk rfl ?_ | refine Up1i.mk rfl ?_ | refine Up2.mk rfl ?_ | refine Up2i.mk rfl ?_) | (refine Col.mk rfl rfl rfl ?_) | (refine Coli.mk rfl rfl rfl rfl ?_) | (refine edges20n g hg hl ?_))
    exact Ob.mk (.inr ⟨hl, rfl⟩)
end Go.Proofs.Ytgladinljapmkaa.Am
