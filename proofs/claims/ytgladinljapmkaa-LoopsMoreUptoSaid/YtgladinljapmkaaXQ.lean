/- Loops: dominators and back edges of graphs, by the program. -/
import Derived.Test.YtgladinljapmkaaXP
/- Loops: dominators, by the program. -/
namespace Go.Proofs.Ytgladinljapmkaa.Am
open Go Go.Proofs
set_option maxRecDepth 10000
set_option maxHeartbeats 2000000
set_option linter.unusedVariables false
set_option linter.unusedSimpArgs false
structure Doms (to : List (List Int)) (g : Nat → Int) : Prop where
  zero : g 0 = 0
  not : ∀ b, ¬ Rch (EdgeL to) b → g b = -1
  yes : ∃ (num par ov : Nat → Nat), (∀ b, Rch (EdgeL to) b → g b = ov b) ∧ Nums (EdgeL to) num par ∧ Tree (EdgeL to) num par (Rch (EdgeL to)) ov ∧ ∀ a b, Rch (EdgeL to) b → (Up ov a b ↔ Dom (EdgeL to) a b)
def listR (n : Nat) (A : Nat → List Int) : List T := (List.range n).map fun c => cellL (A c)
theorem exE.lst {n i : Nat} {A : Nat → List Int} {K : T → Prop} (y : T) (h : Ob (i < n ∧ cellL (A i) = y)) (hk : K y) : exE (listR n A) i K := by
  unfold listR
  refine exE.mapD ?_
  rw [nthD_range h.out.1, h.out.2]; exact hk
theorem listR_len {n : Nat} {A : Nat → List Int} : (listR n A).length = n := by unfold listR; simp
theorem listR_set {n i : Nat} {A : Nat → List Int} {y : T} {l : List Int} (h : y = cellL l) : (listR n A).set i y = listR n (fun j => if j = i then l else A j) := by
  subst h
  unfold listR
  apply List.ext_getElem
  · simp
  · intro j h1 h2
    rw [List.getElem_set]
    simp only [List.getElem_map, List.getElem_range]
    by_cases e : i = j
    · subst e; simp
    · rw [if_neg e, if_neg fun h => e h.symm]
abbrev dmS (n : Nat) (F A G : List T) : Sto := [.dead, .var 22 [.osl 6 0 n], .dead, .var 36 [.osl 7 0 n], .dead, .var 22 [.osl 8 0 n], .row 3 1 F, .row 22 1 A, .row 3 1 G]
abbrev dmA (n : Nat) (F : Nat → Int) (A : Nat → List Int) (ep : Nat → Nat) (G : Nat → Int) : Sto := [.dead, .var 22 [.osl 9 0 n], .dead, .var 36 [.osl 10 0 n], .dead, .var 22 [.osl 11 0 n], .dead, .dead, .dead, .row 3 1 (tellR n F), .nd ep (.row 22 1 (listR n A)), .row 3 1 (tellR n G)]
abbrev dmB' (n : Nat) (F : Nat → Int) (xs : List T) (ep : Nat → Nat) (G : Nat → Int) : Sto := [.dead, .var 22 [.osl 12 0 n], .dead, .var 36 [.osl 13 0 n], .dead, .var 22 [.osl 14 0 n], .dead, .dead, .dead, .dead, .dead, .dead, .row 3 1 (tellR n F), .nd ep (.row 22 1 xs), .row 3 1 (tellR n G)]
abbrev dmB (n : Nat) (F : Nat → Int) (A : Nat → List Int) (ep : Nat → Nat) (G : Nat → Int) : Sto := dmB' n F (listR n A) ep G
theorem mem_take_succ {l : List Int} {k : Nat} {x : Int} (hk : k < l.length) : x ∈ l.take (k + 1) ↔ x ∈ l.take k ∨ x = nthD l k := by
  have e : l.take (k + 1) = l.take k ++ [l[k]] := by rw [List.take_add_one, List.getElem?_eq_getElem hk]; rfl
  rw [e, nthD_get hk, List.mem_append, List.mem_singleton]
theorem mem_takeN_succ {l : List Nat} {k : Nat} {x : Nat} (hk : k < l.length) : x ∈ l.take (k + 1) ↔ x ∈ l.take k ∨ x = nthD l k := by
  have e : l.take (k + 1) = l.take k ++ [l[k]] := by rw [List.take_add_one, List.getElem?_eq_getElem hk]; rfl
  rw [e, nthD_get hk, List.mem_append, List.mem_singleton]
theorem nthD_inj {l : List Nat} (h : l.Nodup) {i j : Nat} (hi : i < l.length) (hj : j < l.length) (e : nthD l i = nthD l j) : i = j := by
  rw [nthD_get hi, nthD_get hj] at e
  have h1 := List.pairwise_iff_getElem.1 h
  rcases Nat.lt_trichotomy i j with h2 | h2 | h2
  · exact absurd e (h1 i j hi hj h2)
  · exact h2
  · exact absurd e.symm (h1 j i hj hi h2)
theorem ahead_step {to : List (List Int)} {P : Nat → Int → Prop} {A : Nat → List Int} {b k : Nat} (hk : k < (nthD to b).length) (h0 : 0 ≤ nthD (nthD to b) k)
    (hA : ∀ c p, p ∈ A c ↔ P c p ∨ (p = (b : Nat) ∧ (c : Int) ∈ (nthD to b).take k)) (c : Nat) (p : Int) :
    p ∈ (if c = (nthD (nthD to b) k).toNat then A (nthD (nthD to b) k).toNat ++ [(b : Int)] else A c) ↔ P c p ∨ (p = (b : Nat) ∧ (c : Int) ∈ (nthD to b).take (k + 1)) := by
  rw [mem_take_succ hk]
  by_cases e : c = (nthD (nthD to b) k).toNat
  · rw [if_pos e, ← e, List.mem_append, hA, List.mem_singleton]
    have : (c : Int) = nthD (nthD to b) k := by omega
    constructor
    · rintro ((h | h) | h)
      · exact .inl h
      · exact .inr ⟨h.1, .inl h.2⟩
      · exact .inr ⟨h, .inr this⟩
    · rintro (h | ⟨h, h1⟩)
      · exact .inl (.inl h)
      · exact .inr h
  · rw [if_neg e, hA]
    have : ¬ (c : Int) = nthD (nthD to b) k := by omega
    constructor
    · rintro (h | h)
      · exact .inl h
      · exact .inr ⟨h.1, .inl h.2⟩
    · rintro (h | ⟨h, h1 | h1⟩)
      · exact .inl h
      · exact .inr ⟨h, h1⟩
      · exact absurd h1 this
abbrev dmC' (n : Nat) (F : Nat → Int) (A : Nat → List Int) (ep : Nat → Nat) (G : List T) (ch : Bool) : Sto := [.dead, .var 22 [.osl 15 0 n], .dead, .var 36 [.osl 16 0 n], .dead, .var 22 [.osl 17 0 n], .dead, .dead, .dead, .dead, .dead, .dead, .var 48 [.fn 39 [.pl 1 0 [] 0 0, .pl 5 0 [] 0 0]], .dead, .var 4 [.t (.bool ch)], .row 3 1 (tellR n F), .nd ep (.row 22 1 (listR n A)), .row 3 1 G]
abbrev dmC (n : Nat) (F : Nat → Int) (A : Nat → List Int) (ep : Nat → Nat) (g : Nat → Int) (ch : Bool) : Sto := dmC' n F A ep (tellR n g) ch
abbrev dmD' (n : Nat) (F : Nat → Int) (A : Nat → List Int) (ep : Nat → Nat) (G : List T) (ch : Bool) : Sto := [.dead, .var 22 [.osl 18 0 n], .dead, .var 36 [.osl 19 0 n], .dead, .var 22 [.osl 20 0 n], .dead, .dead, .dead, .dead, .dead, .dead, .var 48 [.fn 39 [.pl 1 0 [] 0 0, .pl 5 0 [] 0 0]], .dead, .var 4 [.t (.bool ch)], .dead, .dead, .dead, .row 3 1 (tellR n F), .nd ep (.row 22 1 (listR n A)), .row 3 1 G]
abbrev dmD (n : Nat) (F : Nat → Int) (A : Nat → List Int) (ep : Nat → Nat) (g : Nat → Int) (ch : Bool) : Sto := dmD' n F A ep (tellR n g) ch
theorem exS.are {xs ys : List T} {off len : Nat} {K : List T → Prop} (h : Ob ((xs.drop off).take len = ys)) (hk : K ys) : exS xs off len K := exS.part (h.out.symm ▸ hk)
theorem backward60 (xs : List T) {q : T → Prop} (hq : q (.fn 48 [.ptr [.sl 1 xs]])) : PCalls Try.prog 40 [.sl 1 xs] q := by
  refine PCalls.of_body ttOk Try.func40 rfl ?_
  repeat' ((conv => whnf); first | (with_reducible first | refine onBool_intro (fun _ => ?_) (fun _ => ?_) | refine And.intro (Ob.mk (Nat.le_of_ble_eq_true rfl)) ?_ | refine And.intro (Ob.mk rfl) ?_ | exact ⟨rfl, rfl⟩ | refine And.intro (Ob.mk (fun h => h)) ?_) | (with_reducible refine Or.inl (And.intro (Ob.mk (Flat.map ?_)) ?_); exact fun _ => rfl) | (refine Or.inl (And.intro (Ob.mk (flat_of rfl)) ?_)) | (refine Or.inl (And.intro (Ob.mk ⟨rfl, rfl, rfl, rfl⟩) ?_)) | (refine Or.inl (And.intro (Ob.mk ⟨rfl, rfl, rfl⟩) ?_)) | (refine And.intro (Ob.mk ⟨rfl, rfl⟩) ?_) | (with_reducible refine Or.inr ?_) | (refine And.intro (Ob.mk (flat_of rfl)) ?_) | (with_reducible refine And.intro (Ob.mk (Flat.map ?_)) ?_; exact fun _ => rfl) | (with_reducible first | exact Ob.mk (Flat.map fun _ => rfl) | refine And.intro ?_ ?_ | apply exG.mk | apply exGS.mk | exact Dd.nil) | (refine Dd.same _ ?_) | (refine Dd.dead _ ?_) | (with_reducible first | apply exQ.mk | apply exP.mk) | (refine EqP.mk rfl rfl) | (with_reducible apply exW.mk) | (refine EqW.mk rfl) | (with_reducible first | intro _ | refine Dn.mk ?_) | (refine exS.full (by first | rfl | (simp; done) | (simp; omega)) ?_) | (refine And.intro (Ob.mk ⟨rfl, rfl, by first | rfl | (simp; done) | (simp; omega)⟩) ?_) | (with_reducible refine exE.mapD ?_) | (refine exL.int ?_) | (with_reducible first | refine Up0.mk rfl ?_ | refine Up0i.mk rfl ?_ | refine Up1.mk rfl ?_ | refine Up1i.mk rfl ?_ | refine Up2.mk rfl ?_ | refine Up2i.mk rfl ?_) | (refine Col.mk rfl rfl rfl ?_) | (refine Coli.mk rfl rfl rfl rfl ?_))
  exact hq
theorem clean_tellR {n : Nat} {f : Nat → Int} : ∀ x ∈ tellR n f, ∀ c ∈ x.cells, Clean c := by
  have h := clean_ints (k := .i64) (l := (List.range n).map f)
  rw [List.map_map] at h
  exact h
theorem tellR_zero {n : Nat} : List.replicate n (T.int .i64 0) = tellR n fun _ => 0 := by
  apply List.ext_getElem
  · simp
  · intro j h1 h2; simp
abbrev dmE (n : Nat) (F : Nat → Int) (A : Nat → List Int) (ep : Nat → Nat) (g : Nat → Int) (ch : Bool) : Sto := [.dead, .var 22 [.osl 21 0 n], .dead, .var 36 [.osl 22 0 n], .dead, .var 22 [.osl 23 0 n], .dead, .dead, .dead, .dead, .dead, .dead, .var 48 [.fn 39 [.pl 1 0 [] 0 0, .pl 5 0 [] 0 0]], .dead, .var 4 [.t (.bool ch)], .dead, .dead, .dead, .dead, .dead, .dead, .row 3 1 (tellR n F), .nd ep (.row 22 1 (listR n A)), .row 3 1 (tellR n g)]
theorem meet59k (n : Nat) (hn : n ≤ 20000) {e : Nat → Nat → Prop} {num par : Nat → Nat} {S : Nat → Prop} {ov : Nat → Nat} (hN : Nums e num par) (t : Tree e num par S ov) (hl : ∀ b, S b → b < n) (f g : Nat → Int)
    (hf : ∀ b, S b → f b = num b) (hg : ∀ b, S b → g b = ov b) (a b : Int) (h : Ob (0 ≤ a ∧ 0 ≤ b ∧ S a.toNat ∧ S b.toNat)) {q : T → Prop} (hq : ∀ m : Nat, S m → (∀ z, Up ov z m ↔ Up ov z a.toNat ∧ Up ov z b.toNat) → q (.int .i64 m)) :
    PCalls Try.prog 39 [.int .i64 a, .int .i64 b, .ptr [.sl 1 (tellR n f)], .ptr [.sl 1 (tellR n g)]] q := by
  obtain ⟨h1, h2, h3, h4⟩ := h.out
  have := meet59 n hn hN t hl f g hf hg a.toNat b.toNat h3 h4
  rw [Int.toNat_of_nonneg h1, Int.toNat_of_nonneg h2] at this
  exact PCalls.mono this fun r h => by
    obtain ⟨m, h5, h6, rfl⟩ := h.out
    exact hq m h5 h6
theorem behind40k (to : List (List Int)) (hw : WalkL to) (hl : to.length ≤ 20000) (hr : ∀ l ∈ to, l.length ≤ 2 ^ 20) {q : T → Prop} (hq : ∀ o, Left to o → q (.sl 1 (numsR o))) : PCalls Try.prog 32 [listsL to] q :=
  PCalls.mono (behind40 to hw hl hr) fun r h => by
    obtain ⟨o, h1, h2⟩ := h.out
    subst h2
    exact hq o h1
theorem dominators38 (to : List (List Int)) (hw : WalkL to) (hl : to.length ≤ 20000) (hr : ∀ l ∈ to, l.length ≤ 2 ^ 20) : PCalls Try.prog 28 [listsL to] (fun r => Ob (∃ g, Doms to g ∧ r = .own (.nst 3 1 (tellR to.length g)))) := by
  have h1 := hw.one
  refine PCalls.of_bodyO ttOk Try.func28 rfl ?_
  repeat' ((conv => whnf); first | (with_reducible first | refine onBool_intro (fun _ => ?_) (fun _ => ?_) | refine And.intro (Ob.mk (Nat.le_of_ble_eq_true rfl)) ?_ | refine And.intro (Ob.mk rfl) ?_ | exact ⟨rfl, rfl⟩ | refine And.intro (Ob.mk (fun h => h)) ?_) | (with_reducible refine Or.inl (And.intro (Ob.mk (Flat.map ?_)) ?_); exact fun _ => rfl) | (refine Or.inl (And.intro (Ob.mk (flat_of rfl)) ?_)) | (refine Or.inl (And.intro (Ob.mk ⟨rfl, rfl, rfl, rfl⟩) ?_)) | (refine Or.inl (And.intro (Ob.mk ⟨rfl, rfl, rfl⟩) ?_)) | (refine And.intro (Ob.mk ⟨rfl, rfl⟩) ?_) | (with_reducible refine Or.inr ?_) | (refine And.intro (Ob.mk (flat_of rfl)) ?_) | (with_reducible refine And.intro (Ob.mk (Flat.map ?_)) ?_; exact fun _ => rfl) | (with_reducible first | exact Ob.mk (Flat.map fun _ => rfl) | refine And.intro ?_ ?_ | apply exG.mk | apply exGS.mk | exact Dd.nil) | (refine Dd.same _ ?_) | (refine Dd.dead _ ?_) | (with_reducible first | apply exQ.mk | apply exP.mk) | (refine EqP.mk rfl rfl) | (with_reducible apply exW.mk) | (refine EqW.mk rfl) | (with_reducible first | intro _ | refine Dn.mk ?_) | (refine exS.full (by first | rfl | (simp; done) | (simp; omega)) ?_) | (refine And.intro (Ob.mk ⟨rfl, rfl, by first | rfl | (simp; done) | (simp; omega)⟩) ?_) | (with_reducible refine exE.mapD ?_) | (refine exL.int ?_) | (with_reducible first | refine Up0.mk rfl ?_ | refine Up0i.mk rfl ?_ | refine Up1.mk rfl ?_ | refine Up1i.mk rfl ?_ | refine Up2.mk rfl ?_ | refine Up2i.mk rfl ?_) | (refine Col.mk rfl rfl rfl ?_) | (refine Coli.mk rfl rfl rfl rfl ?_) | (refine behind40k to hw hl hr ?_) | (refine exE.setSame ?_ ?_))
  all_goals (try (refine Ob.mk ?_; first | assumption | exact ⟨rfl, rfl⟩ | exact ⟨rfl, rfl, rfl⟩ | (refine ⟨rfl, rfl, ?_⟩; simp only [List.length_map, List.length_take, List.length_append, els_len, List.length_replicate]; omega) | (intro h; exact h) | (intro h; rw [h]; rfl) | (intro h; simp_all; done) | (refine bytes_le (n := 1048577) ?_ rfl; simp only [ltI_iff, ltI_not, leI_iff, leI_not, eqI_iff, eqI_not, List.length_map, bif_and, bif_or, Bool.and_eq_true, Bool.and_eq_false_iff, Bool.or_eq_true, Bool.or_eq_false_iff, Bool.not_eq_true', Bool.not_eq_false', Int.toNat_natCast, beq_iff_eq, beq_eq_false_iff_ne, decide_eq_true_eq, decide_eq_false_iff_not, bel_iff, bel_not, wthn_iff, wthn_not, els_len, mixL_len, Nat.zero_add, List.length_set, List.length_take] at *; omega) | (simp only [ltI_iff, ltI_not, leI_iff, leI_not, eqI_iff, eqI_not, List.length_map, bif_and, bif_or, Bool.and_eq_true, Bool.and_eq_false_iff, Bool.or_eq_true, Bool.or_eq_false_iff, Bool.not_eq_true', Bool.not_eq_false', Int.toNat_natCast, beq_iff_eq, beq_eq_false_iff_ne, decide_eq_true_eq, decide_eq_false_iff_not, bel_iff, bel_not, wthn_iff, wthn_not, els_len, mixL_len, Nat.zero_add, List.length_set, List.length_take, Int.ofNat_eq_natCast] at *; omega)))
  · refine Ob.mk ?_
    show (_ : Int) * ((8 : Nat) : Int) ≤ _
    rw [List.length_map]; omega
  · refine Ob.mk ?_
    show (_ : Int) * ((24 : Nat) : Int) ≤ _
    rw [List.length_map]; omega
  · refine Ob.mk ?_
    show (_ : Int) * ((8 : Nat) : Int) ≤ _
    rw [List.length_map]; omega
  rename_i o hL _ _ _ _
  conv => whnf
  refine LoopVC.mk [32] [] (fun m vals σ => ∃ i : Nat, vals = [.t (.int .i64 i)] ∧ σ = dmS to.length (tellR to.length fun _ => 0) (List.replicate to.length .nsl) (tellR to.length fun b => if b < i then -1 else 0) ∧ i ≤ to.length ∧ m = to.length - i) ?_ ?_
  · conv => whnf
    refine ⟨_, 0, rfl, ?_, Nat.zero_le _, rfl⟩
    rw [List.length_map, Int.toNat_natCast]
    refine (?_ : dmS to.length (List.replicate to.length (.int .i64 0)) (List.replicate to.length .nsl) (List.replicate to.length (.int .i64 0)) = _)
    rw [tellR_zero]
    exact congrArg _ (tellR_congr fun j _ => (if_neg (Nat.not_lt_zero _)).symm)
  · rintro m vals σ ⟨i, rfl, rfl, hi, rfl⟩
    repeat' ((conv => whnf); first | (with_reducible first | refine onBool_intro (fun _ => ?_) (fun _ => ?_) | refine And.intro (Ob.mk (Nat.le_of_ble_eq_true rfl)) ?_ | refine And.intro (Ob.mk rfl) ?_ | exact ⟨rfl, rfl⟩ | refine And.intro (Ob.mk (fun h => h)) ?_) | (with_reducible refine Or.inl (And.intro (Ob.mk (Flat.map ?_)) ?_); exact fun _ => rfl) | (refine Or.inl (And.intro (Ob.mk (flat_of rfl)) ?_)) | (refine Or.inl (And.intro (Ob.mk ⟨rfl, rfl, rfl, rfl⟩) ?_)) | (refine Or.inl (And.intro (Ob.mk ⟨rfl, rfl, rfl⟩) ?_)) | (refine And.intro (Ob.mk ⟨rfl, rfl⟩) ?_) | (with_reducible refine Or.inr ?_) | (refine And.intro (Ob.mk (flat_of rfl)) ?_) | (with_reducible refine And.intro (Ob.mk (Flat.map ?_)) ?_; exact fun _ => rfl) | (with_reducible first | exact Ob.mk (Flat.map fun _ => rfl) | refine And.intro ?_ ?_ | apply exG.mk | apply exGS.mk | exact Dd.nil) | (refine Dd.same _ ?_) | (refine Dd.dead _ ?_) | (with_reducible first | apply exQ.mk | apply exP.mk) | (refine EqP.mk rfl rfl) | (with_reducible apply exW.mk) | (refine EqW.mk rfl) | (with_reducible first | intro _ | refine Dn.mk ?_) | (refine exS.full (by first | rfl | (simp; done) | (simp; omega)) ?_) | (refine And.intro (Ob.mk ⟨rfl, rfl, by first | rfl | (simp; done) | (simp; omega)⟩) ?_) | (with_reducible refine exE.mapD ?_) | (refine exL.int ?_) | (with_reducible first | refine Up0.mk rfl ?_ | refine Up0i.mk rfl ?_ | refine Up1.mk rfl ?_ | refine Up1i.mk rfl ?_ | refine Up2.mk rfl ?_ | refine Up2i.mk rfl ?_) | (refine Col.mk rfl rfl rfl ?_) | (refine Coli.mk rfl rfl rfl rfl ?_))
    all_goals (try (refine Ob.mk ?_; first | assumption | exact ⟨rfl, rfl⟩ | exact ⟨rfl, rfl, rfl⟩ | (refine ⟨rfl, rfl, ?_⟩; simp only [List.length_map, List.length_take, List.length_append, els_len, List.length_replicate]; omega) | (intro h; exact h) | (intro h; rw [h]; rfl) | (intro h; simp_all; done) | (refine bytes_le (n := 1048577) ?_ rfl; simp only [ltI_iff, ltI_not, leI_iff, leI_not, eqI_iff, eqI_not, List.length_map, bif_and, bif_or, Bool.and_eq_true, Bool.and_eq_false_iff, Bool.or_eq_true, Bool.or_eq_false_iff, Bool.not_eq_true', Bool.not_eq_false', Int.toNat_natCast, beq_iff_eq, beq_eq_false_iff_ne, decide_eq_true_eq, decide_eq_false_iff_not, bel_iff, bel_not, wthn_iff, wthn_not, els_len, mixL_len, Nat.zero_add, List.length_set, List.length_take] at *; omega) | (simp only [ltI_iff, ltI_not, leI_iff, leI_not, eqI_iff, eqI_not, List.length_map, bif_and, bif_or, Bool.and_eq_true, Bool.and_eq_false_iff, Bool.or_eq_true, Bool.or_eq_false_iff, Bool.not_eq_true', Bool.not_eq_false', Int.toNat_natCast, beq_iff_eq, beq_eq_false_iff_ne, decide_eq_true_eq, decide_eq_false_iff_not, bel_iff, bel_not, wthn_iff, wthn_not, els_len, mixL_len, Nat.zero_add, List.length_set, List.length_take, Int.ofNat_eq_natCast] at *; omega)))
    · refine Ob.mk ?_
      rename_i h
      rw [List.length_map, ltI_iff] at h
      simp at h ⊢
      omega
    · rename_i h
      rw [List.length_map, ltI_iff] at h
      have hi2 : i < to.length := by simp at h; omega
      conv => whnf
      refine ⟨to.length - (i + 1), by omega, i + 1, ?_, ?_, by omega, rfl⟩
      · rw [addI_i64 (by omega) (by omega)]; rfl
      · refine (congrArg (dmS to.length _ _) (tellR_set (x := -1) rfl)).trans (congrArg (dmS to.length _ _) (tellR_congr fun j _ => ?_))
        show (if j = 0 + i then (-1 : Int) else if j < i then -1 else 0) = if j < i + 1 then -1 else 0
        by_cases e : j = i
        · rw [if_pos (by omega), if_pos (by omega)]
        · rw [if_neg (by omega)]
          by_cases e2 : j < i
          · rw [if_pos e2, if_pos (by omega)]
          · rw [if_neg e2, if_neg (by omega)]
    · rename_i h _
      rw [List.length_map, ltI_not] at h
      have hi2 : i = to.length := by simp at h; omega
      subst hi2
      rw [tellR_congr (g := fun _ => -1) fun j hj => if_pos hj]
      conv => whnf
      have ho : o.length ≤ to.length := nodup_lt_len hL.nodup fun x hx => hw.rch ((hL.mem x).1 hx)
      refine LoopVC.mk [41] [] (fun m vals σ => ∃ (i : Nat) (F : Nat → Int) (A : Nat → List Int) (ep : Nat → Nat), vals = [.t (.int .i64 i)] ∧ σ = dmA to.length F A ep (fun _ => -1) ∧ ep 0 = 0 ∧ i ≤ o.length ∧ (∀ j, j < i → F (nthD o j) = j) ∧ (∀ c p, p ∈ A c ↔ ∃ b ∈ o.take i, p = (b : Int) ∧ (c : Int) ∈ nthD to b) ∧ (∀ c, (A c).length ≤ i * 1048576) ∧ m = o.length - i) ?_ ?_
      · conv => whnf
        refine ⟨_, 0, fun _ => 0, fun _ => [], e0, rfl, ?_, rfl, Nat.zero_le _, fun j hj => absurd hj (Nat.not_lt_zero _), fun c p => by simp, fun c => Nat.zero_le _, rfl⟩
        have e2 : List.replicate to.length T.nsl = listR to.length fun _ => [] := by
          unfold listR
          apply List.ext_getElem
          · simp
          · intro j h1 h2; simp [cellL]
        rw [e2]
        exact rfl
      · rintro m vals σ ⟨i, F, A, ep, rfl, rfl, hep, hi, hF, hA, hAl, rfl⟩
        have hok : i < o.length → nthD o i < to.length := fun h => hw.rch ((hL.mem _).1 (nthD_mem h))
        repeat' ((conv => whnf); first | (with_reducible first | refine onBool_intro (fun _ => ?_) (fun _ => ?_) | refine And.intro (Ob.mk (Nat.le_of_ble_eq_true rfl)) ?_ | refine And.intro (Ob.mk rfl) ?_ | exact ⟨rfl, rfl⟩ | refine And.intro (Ob.mk (fun h => h)) ?_) | (with_reducible refine Or.inl (And.intro (Ob.mk (Flat.map ?_)) ?_); exact fun _ => rfl) | (refine Or.inl (And.intro (Ob.mk (flat_of rfl)) ?_)) | (refine Or.inl (And.intro (Ob.mk ⟨rfl, rfl, rfl, rfl⟩) ?_)) | (refine Or.inl (And.intro (Ob.mk ⟨rfl, rfl, rfl⟩) ?_)) | (refine And.intro (Ob.mk ⟨rfl, rfl⟩) ?_) | (with_reducible refine Or.inr ?_) | (refine And.intro (Ob.mk (flat_of rfl)) ?_) | (with_reducible refine And.intro (Ob.mk (Flat.map ?_)) ?_; exact fun _ => rfl) | (with_reducible first | exact Ob.mk (Flat.map fun _ => rfl) | refine And.intro ?_ ?_ | apply exG.mk | apply exGS.mk | exact Dd.nil) | (refine Dd.same _ ?_) | (refine Dd.dead _ ?_) | (with_reducible first | apply exQ.mk | apply exP.mk) | (refine EqP.mk rfl rfl) | (with_reducible apply exW.mk) | (refine EqW.mk rfl) | (with_reducible first | intro _ | refine Dn.mk ?_) | (refine exS.full (by first | rfl | (simp; done) | (simp; omega)) ?_) | (refine And.intro (Ob.mk ⟨rfl, rfl, by first | rfl | (simp; done) | (simp; omega)⟩) ?_) | (with_reducible refine exE.mapD ?_) | (refine exL.int ?_) | (with_reducible first | refine Up0.mk rfl ?_ | refine Up0i.mk rfl ?_ | refine Up1.mk rfl ?_ | refine Up1i.mk rfl ?_ | refine Up2.mk rfl ?_ | refine Up2i.mk rfl ?_) | (refine Col.mk rfl rfl rfl ?_) | (refine Coli.mk rfl rfl rfl rfl ?_))
        all_goals (try (refine Ob.mk ?_; first | assumption | exact ⟨rfl, rfl⟩ | exact ⟨rfl, rfl, rfl⟩ | (refine ⟨rfl, rfl, ?_⟩; simp only [List.length_map, List.length_take, List.length_append, els_len, List.length_replicate]; omega) | (intro h; exact h) | (intro h; rw [h]; rfl) | (intro h; simp_all; done) | (refine bytes_le (n := 1048577) ?_ rfl; simp only [ltI_iff, ltI_not, leI_iff, leI_not, eqI_iff, eqI_not, List.length_map, bif_and, bif_or, Bool.and_eq_true, Bool.and_eq_false_iff, Bool.or_eq_true, Bool.or_eq_false_iff, Bool.not_eq_true', Bool.not_eq_false', Int.toNat_natCast, beq_iff_eq, beq_eq_false_iff_ne, decide_eq_true_eq, decide_eq_false_iff_not, bel_iff, bel_not, wthn_iff, wthn_not, els_len, mixL_len, Nat.zero_add, List.length_set, List.length_take] at *; omega) | (simp only [ltI_iff, ltI_not, leI_iff, leI_not, eqI_iff, eqI_not, List.length_map, bif_and, bif_or, Bool.and_eq_true, Bool.and_eq_false_iff, Bool.or_eq_true, Bool.or_eq_false_iff, Bool.not_eq_true', Bool.not_eq_false', Int.toNat_natCast, beq_iff_eq, beq_eq_false_iff_ne, decide_eq_true_eq, decide_eq_false_iff_not, bel_iff, bel_not, wthn_iff, wthn_not, els_len, mixL_len, Nat.zero_add, List.length_set, List.length_take, Int.ofNat_eq_natCast] at *; omega)))
        all_goals (try have hi2 : i < o.length := by (rename_i h3 _; rw [ltI_iff, List.length_map] at h3; omega))
        all_goals (try have hi2 : i < o.length := by (rename_i h3; rw [ltI_iff, List.length_map] at h3; omega))
        all_goals (try (have hbl := hok hi2; refine Ob.mk ?_; simp; done))
        all_goals (try (have hbl := hok hi2; refine Ob.mk ?_; simp; omega))
        · --<A
          have hbl := hok hi2
          conv => whnf
          refine LoopVC.mk [55] [] (fun m vals σ => ∃ (k : Nat) (A : Nat → List Int) (ep : Nat → Nat), vals = [.t (.int .i64 k)] ∧ σ = dmB to.length (fun b => if b = nthD o i then i else F b) A ep (fun _ => -1) ∧ ep 0 = 0 ∧ k ≤ (nthD to (nthD o i)).length ∧ (∀ c p, p ∈ A c ↔ (∃ b ∈ o.take i, p = (b : Int) ∧ (c : Int) ∈ nthD to b) ∨ (p = (nthD o i : Nat) ∧ (c : Int) ∈ (nthD to (nthD o i)).take k)) ∧ (∀ c, (A c).length ≤ i * 1048576 + k) ∧ m = (nthD to (nthD o i)).length - k) ?_ ?_
          · conv => whnf
            refine ⟨_, 0, A, ep, rfl, ?_, hep, Nat.zero_le _, fun c p => (hA c p).trans ⟨.inl, fun h => h.elim id fun h => absurd h.2 (by rw [List.take_zero]; exact List.not_mem_nil)⟩, fun c => Nat.le_add_right_of_le (hAl c), rfl⟩
            have e3 : (tellR to.length F).set (0 + (nthD o i)) (.int .i64 i) = tellR to.length fun b => if b = nthD o i then i else F b := by
              rw [Nat.zero_add]; exact tellR_set rfl
            unfold dmB dmB'
            rw [← e3]
            exact rfl
          · rintro m2 vals σ ⟨k, A2, ep2, rfl, rfl, hep2, hk, hA2, hAl2, rfl⟩
            have hrl : (nthD to (nthD o i)).length ≤ 1048576 := hr _ (nthD_mem hbl)
            have hck : k < (nthD to (nthD o i)).length → 0 ≤ nthD (nthD to (nthD o i)) k ∧ nthD (nthD to (nthD o i)) k < to.length := fun h => hw.rng _ hbl _ (nthD_mem h)
            have hO1 : k < (nthD to (nthD o i)).length → 0 + (nthD (nthD to (nthD o i)) k).toNat < to.length := fun h => by have := hck h; omega
            have hO2 : cellL (A2 (0 + (nthD (nthD to (nthD o i)) k).toNat)) = cellL (A2 (nthD (nthD to (nthD o i)) k).toNat) := by rw [Nat.zero_add]
            generalize hl2 : A2 (nthD (nthD to (nthD o i)) k).toNat = ll at hO2
            rcases ll with _ | ⟨y, l⟩
            · repeat' ((conv => whnf); first | (with_reducible first | refine onBool_intro (fun _ => ?_) (fun _ => ?_) | refine And.intro (Ob.mk (Nat.le_of_ble_eq_true rfl)) ?_ | refine And.intro (Ob.mk rfl) ?_ | exact ⟨rfl, rfl⟩ | refine And.intro (Ob.mk (fun h => h)) ?_) | (with_reducible refine Or.inl (And.intro (Ob.mk (Flat.map ?_)) ?_); exact fun _ => rfl) | (refine Or.inl (And.intro (Ob.mk (flat_of rfl)) ?_)) | (refine Or.inl (And.intro (Ob.mk ⟨rfl, rfl, rfl, rfl⟩) ?_)) | (refine Or.inl (And.intro (Ob.mk ⟨rfl, rfl, rfl⟩) ?_)) | (refine And.intro (Ob.mk ⟨rfl, rfl⟩) ?_) | (with_reducible refine Or.inr ?_) | (refine And.intro (Ob.mk (flat_of rfl)) ?_) | (with_reducible refine And.intro (Ob.mk (Flat.map ?_)) ?_; exact fun _ => rfl) | (with_reducible first | exact Ob.mk (Flat.map fun _ => rfl) | refine And.intro ?_ ?_ | apply exG.mk | apply exGS.mk | exact Dd.nil) | (refine Dd.same _ ?_) | (refine Dd.dead _ ?_) | (with_reducible first | apply exQ.mk | apply exP.mk) | (refine EqP.mk rfl rfl) | (with_reducible apply exW.mk) | (refine EqW.mk rfl) | (with_reducible first | intro _ | refine Dn.mk ?_) | (refine exS.full (by first | rfl | (simp; done) | (simp; omega)) ?_) | (refine And.intro (Ob.mk ⟨rfl, rfl, by first | rfl | (simp; done) | (simp; omega)⟩) ?_) | (with_reducible refine exE.mapD ?_) | (refine exL.int ?_) | (with_reducible first | refine Up0.mk rfl ?_ | refine Up0i.mk rfl ?_ | refine Up1.mk rfl ?_ | refine Up1i.mk rfl ?_ | refine Up2.mk rfl ?_ | refine Up2i.mk rfl ?_) | (refine Col.mk rfl rfl rfl ?_) | (refine Coli.mk rfl rfl rfl rfl ?_) | (refine drawVC.mkM _ _ 11 11 [(8, [0, 1, 9]), (10, [])] [[], [], [], [], [2, 3], [2, 3, 4], [], [6], [2, 3, 4, 5, 6, 7], [0, 1, 2, 3, 4, 5, 6, 7, 8], [0, 1, 2, 3, 4, 5, 6, 7, 8, 9]] rfl (by kernel_rfl) ?_) | (refine exE.lst (cellL []) ?_ ?_) | (refine exE.setSameO ?_ ?_) | (with_reducible apply exV.mk) | (refine EqV.mk rfl rfl))
              all_goals (try (refine Ob.mk ?_; first | assumption | exact ⟨rfl, rfl⟩ | exact ⟨rfl, rfl, rfl⟩ | (refine ⟨rfl, rfl, ?_⟩; simp only [List.length_map, List.length_take, List.length_append, els_len, List.length_replicate]; omega) | (intro h; exact h) | (intro h; rw [h]; rfl) | (intro h; simp_all; done) | (refine bytes_le (n := 1048577) ?_ rfl; simp only [ltI_iff, ltI_not, leI_iff, leI_not, eqI_iff, eqI_not, List.length_map, bif_and, bif_or, Bool.and_eq_true, Bool.and_eq_false_iff, Bool.or_eq_true, Bool.or_eq_false_iff, Bool.not_eq_true', Bool.not_eq_false', Int.toNat_natCast, beq_iff_eq, beq_eq_false_iff_ne, decide_eq_true_eq, decide_eq_false_iff_not, bel_iff, bel_not, wthn_iff, wthn_not, els_len, mixL_len, Nat.zero_add, List.length_set, List.length_take] at *; omega) | (simp only [ltI_iff, ltI_not, leI_iff, leI_not, eqI_iff, eqI_not, List.length_map, bif_and, bif_or, Bool.and_eq_true, Bool.and_eq_false_iff, Bool.or_eq_true, Bool.or_eq_false_iff, Bool.not_eq_true', Bool.not_eq_false', Int.toNat_natCast, beq_iff_eq, beq_eq_false_iff_ne, decide_eq_true_eq, decide_eq_false_iff_not, bel_iff, bel_not, wthn_iff, wthn_not, els_len, mixL_len, Nat.zero_add, List.length_set, List.length_take, Int.ofNat_eq_natCast] at *; omega)))
              all_goals (try exact Ob.mk hep2.symm)
              all_goals (try (refine Ob.mk ?_; have h8 := hAl2 (nthD (nthD to (nthD o i)) k).toNat; rw [hl2] at h8; show ((List.map _ (y :: l)).length + 1) * 8 ≤ 2 ^ 47; rw [List.length_map]; omega))
              all_goals (try have hk2 : k < (nthD to (nthD o i)).length := by (rename_i h3; rw [ltI_iff, List.length_map] at h3; exact Int.ofNat_lt.1 h3))
              all_goals (try exact Ob.mk ⟨hO1 hk2, hO2⟩)
              all_goals (try exact Ob.mk (listR_len ▸ hO1 hk2))
              all_goals (try exact Ob.mk ((List.length_set ..).symm ▸ listR_len ▸ hO1 hk2))
              all_goals (try (refine Ob.mk ?_; have h8 := hAl2 (nthD (nthD to (nthD o i)) k).toNat; rw [hl2] at h8; show (List.map _ (y :: l)).length + 1 ≤ 2 ^ 48; rw [List.length_map]; omega))
              all_goals (try exact Ob.mk ⟨rfl, listR_len ▸ hO1 hk2⟩)
              all_goals (try exact Ob.mk ⟨rfl, rfl, (List.length_append ..).symm⟩)
              · conv => whnf
                refine ⟨(nthD to (nthD o i)).length - (k + 1), by omega, k + 1, fun j => if j = (nthD (nthD to (nthD o i)) k).toNat then A2 (nthD (nthD to (nthD o i)) k).toNat ++ [((nthD o i : Nat) : Int)] else A2 j, bumpE 1 ep2, ?_, ?_, hep2, hk2, fun c p => ahead_step hk2 (hck hk2).1 hA2 c p, fun c => ?_, rfl⟩
                · rw [addI_i64 (by omega) (by omega)]; rfl
                · have e4 : (listR to.length A2).set (0 + (nthD (nthD to (nthD o i)) k).toNat) (.nst 3 1 ([.int .i64 ((nthD o i : Nat) : Int)])) = listR to.length (fun j => if j = (nthD (nthD to (nthD o i)) k).toNat then A2 (nthD (nthD to (nthD o i)) k).toNat ++ [((nthD o i : Nat) : Int)] else A2 j) := by
                    rw [Nat.zero_add]
                    exact listR_set (by rw [hl2]; rfl)
                  refine Eq.trans ?_ (congrArg (fun z => dmB' to.length (fun b => if b = nthD o i then (i : Int) else F b) z (bumpE 1 ep2) fun _ => -1) e4)
                  exact rfl
                · have h7 := hAl2 c
                  have h8 := hAl2 (nthD (nthD to (nthD o i)) k).toNat
                  show (if c = _ then _ else A2 c).length ≤ _
                  split
                  · rw [List.length_append, List.length_singleton]; omega
                  · omega
              · rename_i h3
                have hke : k = (nthD to (nthD o i)).length := by
                  rw [ltI_not, List.length_map] at h3
                  have h4 : ((nthD to (nthD o i)).length : Int) ≤ k := h3
                  omega
                conv => whnf
                refine ⟨o.length - (i + 1), by omega, i + 1, fun b => if b = nthD o i then i else F b, A2, ep2, ?_, rfl, hep2, hi2, fun j hj => ?_, fun c p => ?_, fun c => ?_, rfl⟩
                · rw [addI_i64 (by omega) (by omega)]; rfl
                · by_cases e5 : j = i
                  · rw [e5]; exact if_pos rfl
                  · refine (if_neg fun e6 => e5 (nthD_inj hL.nodup (by omega) hi2 e6)).trans (hF j (by omega))
                · rw [hA2, hke, List.take_length]
                  constructor
                  · rintro (⟨b, h5, h6⟩ | h5)
                    · exact ⟨b, (mem_takeN_succ hi2).2 (.inl h5), h6⟩
                    · exact ⟨_, (mem_takeN_succ hi2).2 (.inr rfl), h5⟩
                  · rintro ⟨b, h5, h6⟩
                    rcases (mem_takeN_succ hi2).1 h5 with h5 | rfl
                    · exact .inl ⟨b, h5, h6⟩
                    · exact .inr h6
                · have := hAl2 c; rw [Nat.add_mul]; omega
            · repeat' ((conv => whnf); first | (with_reducible first | refine onBool_intro (fun _ => ?_) (fun _ => ?_) | refine And.intro (Ob.mk (Nat.le_of_ble_eq_true rfl)) ?_ | refine And.intro (Ob.mk rfl) ?_ | exact ⟨rfl, rfl⟩ | refine And.intro (Ob.mk (fun h => h)) ?_) | (with_reducible refine Or.inl (And.intro (Ob.mk (Flat.map ?_)) ?_); exact fun _ => rfl) | (refine Or.inl (And.intro (Ob.mk (flat_of rfl)) ?_)) | (refine Or.inl (And.intro (Ob.mk ⟨rfl, rfl, rfl, rfl⟩) ?_)) | (refine Or.inl (And.intro (Ob.mk ⟨rfl, rfl, rfl⟩) ?_)) | (refine And.intro (Ob.mk ⟨rfl, rfl⟩) ?_) | (with_reducible refine Or.inr ?_) | (refine And.intro (Ob.mk (flat_of rfl)) ?_) | (with_reducible refine And.intro (Ob.mk (Flat.map ?_)) ?_; exact fun _ => rfl) | (with_reducible first | exact Ob.mk (Flat.map fun _ => rfl) | refine And.intro ?_ ?_ | apply exG.mk | apply exGS.mk | exact Dd.nil) | (refine Dd.same _ ?_) | (refine Dd.dead _ ?_) | (with_reducible first | apply exQ.mk | apply exP.mk) | (refine EqP.mk rfl rfl) | (with_reducible apply exW.mk) | (refine EqW.mk rfl) | (with_reducible first | intro _ | refine Dn.mk ?_) | (refine exS.full (by first | rfl | (simp; done) | (simp; omega)) ?_) | (refine And.intro (Ob.mk ⟨rfl, rfl, by first | rfl | (simp; done) | (simp; omega)⟩) ?_) | (with_reducible refine exE.mapD ?_) | (refine exL.int ?_) | (with_reducible first | refine Up0.mk rfl ?_ | refine Up0i.mk rfl ?_ | refine Up1.mk rfl ?_ | refine Up1i.mk rfl ?_ | refine Up2.mk rfl ?_ | refine Up2i.mk rfl ?_) | (refine Col.mk rfl rfl rfl ?_) | (refine Coli.mk rfl rfl rfl rfl ?_) | (refine drawVC.mkM _ _ 11 11 [(8, [0, 1, 9]), (10, [])] [[], [], [], [], [2, 3], [2, 3, 4], [], [6], [2, 3, 4, 5, 6, 7], [0, 1, 2, 3, 4, 5, 6, 7, 8], [0, 1, 2, 3, 4, 5, 6, 7, 8, 9]] rfl (by kernel_rfl) ?_) | (refine exE.lst (cellL (y :: l)) ?_ ?_) | (refine exE.setSameO ?_ ?_) | (with_reducible apply exV.mk) | (refine EqV.mk rfl rfl))
              all_goals (try (refine Ob.mk ?_; first | assumption | exact ⟨rfl, rfl⟩ | exact ⟨rfl, rfl, rfl⟩ | (refine ⟨rfl, rfl, ?_⟩; simp only [List.length_map, List.length_take, List.length_append, els_len, List.length_replicate]; omega) | (intro h; exact h) | (intro h; rw [h]; rfl) | (intro h; simp_all; done) | (refine bytes_le (n := 1048577) ?_ rfl; simp only [ltI_iff, ltI_not, leI_iff, leI_not, eqI_iff, eqI_not, List.length_map, bif_and, bif_or, Bool.and_eq_true, Bool.and_eq_false_iff, Bool.or_eq_true, Bool.or_eq_false_iff, Bool.not_eq_true', Bool.not_eq_false', Int.toNat_natCast, beq_iff_eq, beq_eq_false_iff_ne, decide_eq_true_eq, decide_eq_false_iff_not, bel_iff, bel_not, wthn_iff, wthn_not, els_len, mixL_len, Nat.zero_add, List.length_set, List.length_take] at *; omega) | (simp only [ltI_iff, ltI_not, leI_iff, leI_not, eqI_iff, eqI_not, List.length_map, bif_and, bif_or, Bool.and_eq_true, Bool.and_eq_false_iff, Bool.or_eq_true, Bool.or_eq_false_iff, Bool.not_eq_true', Bool.not_eq_false', Int.toNat_natCast, beq_iff_eq, beq_eq_false_iff_ne, decide_eq_true_eq, decide_eq_false_iff_not, bel_iff, bel_not, wthn_iff, wthn_not, els_len, mixL_len, Nat.zero_add, List.length_set, List.length_take, Int.ofNat_eq_natCast] at *; omega)))
              all_goals (try exact Ob.mk hep2.symm)
              all_goals (try (refine Ob.mk ?_; have h8 := hAl2 (nthD (nthD to (nthD o i)) k).toNat; rw [hl2] at h8; show ((List.map _ (y :: l)).length + 1) * 8 ≤ 2 ^ 47; rw [List.length_map]; omega))
              all_goals (try have hk2 : k < (nthD to (nthD o i)).length := by (rename_i h3; rw [ltI_iff, List.length_map] at h3; exact Int.ofNat_lt.1 h3))
              all_goals (try exact Ob.mk ⟨hO1 hk2, hO2⟩)
              all_goals (try exact Ob.mk (listR_len ▸ hO1 hk2))
              all_goals (try exact Ob.mk ((List.length_set ..).symm ▸ listR_len ▸ hO1 hk2))
              all_goals (try (refine Ob.mk ?_; have h8 := hAl2 (nthD (nthD to (nthD o i)) k).toNat; rw [hl2] at h8; show (List.map _ (y :: l)).length + 1 ≤ 2 ^ 48; rw [List.length_map]; omega))
              all_goals (try exact Ob.mk ⟨rfl, listR_len ▸ hO1 hk2⟩)
              all_goals (try exact Ob.mk ⟨rfl, rfl, (List.length_append ..).symm⟩)
              · conv => whnf
                refine ⟨(nthD to (nthD o i)).length - (k + 1), by omega, k + 1, fun j => if j = (nthD (nthD to (nthD o i)) k).toNat then A2 (nthD (nthD to (nthD o i)) k).toNat ++ [((nthD o i : Nat) : Int)] else A2 j, bumpE 1 ep2, ?_, ?_, hep2, hk2, fun c p => ahead_step hk2 (hck hk2).1 hA2 c p, fun c => ?_, rfl⟩
                · rw [addI_i64 (by omega) (by omega)]; rfl
                · have e4 : (listR to.length A2).set (0 + (nthD (nthD to (nthD o i)) k).toNat) (.nst 3 1 ((y :: l).map (fun n => .int .i64 n) ++ [.int .i64 ((nthD o i : Nat) : Int)])) = listR to.length (fun j => if j = (nthD (nthD to (nthD o i)) k).toNat then A2 (nthD (nthD to (nthD o i)) k).toNat ++ [((nthD o i : Nat) : Int)] else A2 j) := by
                    rw [Nat.zero_add]
                    exact listR_set (by rw [hl2]; simp [cellL])
                  refine Eq.trans ?_ (congrArg (fun z => dmB' to.length (fun b => if b = nthD o i then (i : Int) else F b) z (bumpE 1 ep2) fun _ => -1) e4)
                  refine Eq.trans ?_ (congrArg (fun z => dmB' to.length (fun b => if b = nthD o i then (i : Int) else F b) z (bumpE 1 ep2) fun _ => -1) (List.set_set (a := T.any) ..))
                  exact rfl
                · have h7 := hAl2 c
                  have h8 := hAl2 (nthD (nthD to (nthD o i)) k).toNat
                  show (if c = _ then _ else A2 c).length ≤ _
                  split
                  · rw [List.length_append, List.length_singleton]; omega
                  · omega
              · rename_i h3
                have hke : k = (nthD to (nthD o i)).length := by
                  rw [ltI_not, List.length_map] at h3
                  have h4 : ((nthD to (nthD o i)).length : Int) ≤ k := h3
                  omega
                conv => whnf
                refine ⟨o.length - (i + 1), by omega, i + 1, fun b => if b = nthD o i then i else F b, A2, ep2, ?_, rfl, hep2, hi2, fun j hj => ?_, fun c p => ?_, fun c => ?_, rfl⟩
                · rw [addI_i64 (by omega) (by omega)]; rfl
                · by_cases e5 : j = i
                  · rw [e5]; exact if_pos rfl
                  · refine (if_neg fun e6 => e5 (nthD_inj hL.nodup (by omega) hi2 e6)).trans (hF j (by omega))
                · rw [hA2, hke, List.take_length]
                  constructor
                  · rintro (⟨b, h5, h6⟩ | h5)
                    · exact ⟨b, (mem_takeN_succ hi2).2 (.inl h5), h6⟩
                    · exact ⟨_, (mem_takeN_succ hi2).2 (.inr rfl), h5⟩
                  · rintro ⟨b, h5, h6⟩
                    rcases (mem_takeN_succ hi2).1 h5 with h5 | rfl
                    · exact .inl ⟨b, h5, h6⟩
                    · exact .inr h6
                · have := hAl2 c; rw [Nat.add_mul]; omega
          --A>
        · refine Ob.mk ?_
          simp; omega
        · rename_i h3
          have hi3 : i = o.length := by
            rw [ltI_not, List.length_map] at h3
            have h4 : (o.length : Int) ≤ i := h3
            omega
          subst hi3
          rw [List.take_length] at hA
          have e6 : ∀ y, y = T.int .i64 0 → (tellR to.length fun _ => (-1 : Int)).set (0 + Int.toNat 0) y = tellR to.length fun j => if j = 0 then 0 else -1 := fun y hy => tellR_set hy
          conv => whnf
          obtain ⟨par, hN⟩ := hL.nums
          have hol : 1 ≤ o.length := List.length_pos_of_mem (List.mem_of_getLast? hL.last)
          have el : subI .i64 (((numsR o).length : Nat) : Int) 1 = ((o.length - 1 : Nat) : Int) := by
            rw [List.length_map, subI_i64 (by omega) (by omega)]; omega
          have hnn : ∀ b, numL o b ≤ to.length := fun b => Nat.le_trans List.idxOf_le_length ho
          refine LoopVC.mk [13] [] (fun m vals σ => ∃ (ch : Bool) (g : Nat → Int) (S : Nat → Prop) (ov : Nat → Nat), vals = [.pl 14 0 [] 0 0] ∧ σ = dmC to.length F A ep g ch ∧ Told S ov g ∧ Round (EdgeL to) (numL o) par S ov (numL o 0) ∧ (ch = false → ∀ b, Rch (EdgeL to) b → S b ∧ (b ≠ 0 → Best (EdgeL to) S ov b (ov b))) ∧ m = 2 * (to.length * (to.length + 1) - valG to.length (numL o) g) + ch.toNat) ?_ ?_
          · conv => whnf
            refine ⟨_, true, fun j => if j = 0 then 0 else -1, fun b => b = 0, fun _ => 0, rfl, ?_, ⟨rfl, fun b hb => if_pos hb, fun b hb => if_neg hb⟩, .start hN, (fun h => nomatch h), rfl⟩
            refine Eq.trans ?_ (congrArg (fun z => dmC' to.length F A ep z true) (e6 _ rfl))
            exact rfl
          · rintro m vals σ ⟨ch, g, S, ov, rfl, rfl, hT, hR, hch, rfl⟩
            repeat' ((conv => whnf); first | (with_reducible first | refine onBool_intro (fun _ => ?_) (fun _ => ?_) | refine And.intro (Ob.mk (Nat.le_of_ble_eq_true rfl)) ?_ | refine And.intro (Ob.mk rfl) ?_ | exact ⟨rfl, rfl⟩ | refine And.intro (Ob.mk (fun h => h)) ?_) | (with_reducible refine Or.inl (And.intro (Ob.mk (Flat.map ?_)) ?_); exact fun _ => rfl) | (refine Or.inl (And.intro (Ob.mk (flat_of rfl)) ?_)) | (refine Or.inl (And.intro (Ob.mk ⟨rfl, rfl, rfl, rfl⟩) ?_)) | (refine Or.inl (And.intro (Ob.mk ⟨rfl, rfl, rfl⟩) ?_)) | (refine And.intro (Ob.mk ⟨rfl, rfl⟩) ?_) | (with_reducible refine Or.inr ?_) | (refine And.intro (Ob.mk (flat_of rfl)) ?_) | (with_reducible refine And.intro (Ob.mk (Flat.map ?_)) ?_; exact fun _ => rfl) | (with_reducible first | exact Ob.mk (Flat.map fun _ => rfl) | refine And.intro ?_ ?_ | apply exG.mk | apply exGS.mk | exact Dd.nil) | (refine Dd.same _ ?_) | (refine Dd.dead _ ?_) | (with_reducible first | apply exQ.mk | apply exP.mk) | (refine EqP.mk rfl rfl) | (with_reducible apply exW.mk) | (refine EqW.mk rfl) | (with_reducible first | intro _ | refine Dn.mk ?_) | (refine exS.full (by first | rfl | (simp; done) | (simp; omega)) ?_) | (refine And.intro (Ob.mk ⟨rfl, rfl, by first | rfl | (simp; done) | (simp; omega)⟩) ?_) | (with_reducible refine exE.mapD ?_) | (refine exL.int ?_) | (with_reducible first | refine Up0.mk rfl ?_ | refine Up0i.mk rfl ?_ | refine Up1.mk rfl ?_ | refine Up1i.mk rfl ?_ | refine Up2.mk rfl ?_ | refine Up2i.mk rfl ?_) | (refine Col.mk rfl rfl rfl ?_) | (refine Coli.mk rfl rfl rfl rfl ?_) | (refine exS.are (ys := numsR o.dropLast) ?_ ?_) | (refine backward60 _ ?_))
            all_goals (try (refine Ob.mk ?_; first | assumption | exact ⟨rfl, rfl⟩ | exact ⟨rfl, rfl, rfl⟩ | (refine ⟨rfl, rfl, ?_⟩; simp only [List.length_map, List.length_take, List.length_append, els_len, List.length_replicate]; omega) | (intro h; exact h) | (intro h; rw [h]; rfl) | (intro h; simp_all; done) | (refine bytes_le (n := 1048577) ?_ rfl; simp only [ltI_iff, ltI_not, leI_iff, leI_not, eqI_iff, eqI_not, List.length_map, bif_and, bif_or, Bool.and_eq_true, Bool.and_eq_false_iff, Bool.or_eq_true, Bool.or_eq_false_iff, Bool.not_eq_true', Bool.not_eq_false', Int.toNat_natCast, beq_iff_eq, beq_eq_false_iff_ne, decide_eq_true_eq, decide_eq_false_iff_not, bel_iff, bel_not, wthn_iff, wthn_not, els_len, mixL_len, Nat.zero_add, List.length_set, List.length_take] at *; omega) | (simp only [ltI_iff, ltI_not, leI_iff, leI_not, eqI_iff, eqI_not, List.length_map, bif_and, bif_or, Bool.and_eq_true, Bool.and_eq_false_iff, Bool.or_eq_true, Bool.or_eq_false_iff, Bool.not_eq_true', Bool.not_eq_false', Int.toNat_natCast, beq_iff_eq, beq_eq_false_iff_ne, decide_eq_true_eq, decide_eq_false_iff_not, bel_iff, bel_not, wthn_iff, wthn_not, els_len, mixL_len, Nat.zero_add, List.length_set, List.length_take, Int.ofNat_eq_natCast] at *; omega)))
            all_goals (try exact Ob.mk clean_tellR)
            all_goals (try exact Ob.mk ⟨rfl, rfl, by simp⟩)
            all_goals (try rw [el])
            all_goals (try exact Ob.mk ⟨Int.le_refl _, by omega, by rw [List.length_map]; omega⟩)
            · refine Ob.mk ?_
              rw [List.dropLast_eq_take]
              exact (List.map_take ..).symm
            · conv => whnf
              refine RCalls.inline (fun _ => false) ttOk Try.func48 rfl ?_
              intro l
              repeat' ((conv => whnf); first | (with_reducible first | refine onBool_intro (fun _ => ?_) (fun _ => ?_) | refine And.intro (Ob.mk (Nat.le_of_ble_eq_true rfl)) ?_ | refine And.intro (Ob.mk rfl) ?_ | exact ⟨rfl, rfl⟩ | refine And.intro (Ob.mk (fun h => h)) ?_) | (with_reducible refine Or.inl (And.intro (Ob.mk (Flat.map ?_)) ?_); exact fun _ => rfl) | (refine Or.inl (And.intro (Ob.mk (flat_of rfl)) ?_)) | (refine Or.inl (And.intro (Ob.mk ⟨rfl, rfl, rfl, rfl⟩) ?_)) | (refine Or.inl (And.intro (Ob.mk ⟨rfl, rfl, rfl⟩) ?_)) | (refine And.intro (Ob.mk ⟨rfl, rfl⟩) ?_) | (with_reducible refine Or.inr ?_) | (refine And.intro (Ob.mk (flat_of rfl)) ?_) | (with_reducible refine And.intro (Ob.mk (Flat.map ?_)) ?_; exact fun _ => rfl) | (with_reducible first | exact Ob.mk (Flat.map fun _ => rfl) | refine And.intro ?_ ?_ | apply exG.mk | apply exGS.mk | exact Dd.nil) | (refine Dd.same _ ?_) | (refine Dd.dead _ ?_) | (with_reducible first | apply exQ.mk | apply exP.mk) | (refine EqP.mk rfl rfl) | (with_reducible apply exW.mk) | (refine EqW.mk rfl) | (with_reducible first | intro _ | refine Dn.mk ?_) | (refine exS.full (by first | rfl | (simp; done) | (simp; omega)) ?_) | (refine And.intro (Ob.mk ⟨rfl, rfl, by first | rfl | (simp; done) | (simp; omega)⟩) ?_) | (with_reducible refine exE.mapD ?_) | (refine exL.int ?_) | (with_reducible first | refine Up0.mk rfl ?_ | refine Up0i.mk rfl ?_ | refine Up1.mk rfl ?_ | refine Up1i.mk rfl ?_ | refine Up2.mk rfl ?_ | refine Up2i.mk rfl ?_) | (refine Col.mk rfl rfl rfl ?_) | (refine Coli.mk rfl rfl rfl rfl ?_))
              conv => whnf
              refine LoopVC.mk [3] [] (fun m vals σ => ∃ (i : Nat) (c2 : Bool) (g2 : Nat → Int) (S2 : Nat → Prop) (ov2 : Nat → Nat), vals = [.t (.int .i64 ((i : Int) - 1))] ∧ σ = dmD to.length F A ep g2 c2 ∧ i ≤ o.length - 1 ∧ Told S2 ov2 g2 ∧ Round (EdgeL to) (numL o) par S2 ov2 i ∧ (c2 = false → g2 = g ∧ ∀ b, Rch (EdgeL to) b → b ≠ 0 → i ≤ numL o b → S2 b ∧ Best (EdgeL to) S2 ov2 b (ov2 b)) ∧ (c2 = true → valG to.length (numL o) g < valG to.length (numL o) g2) ∧ m = i) ?_ ?_
              · conv => whnf
                refine ⟨_, o.length - 1, false, g, S, ov, ?_, rfl, Nat.le_refl _, hT, ?_, fun _ => ⟨rfl, fun b hb h0 hk => ?_⟩, (fun h => nomatch h), rfl⟩
                · rw [List.length_map, List.length_dropLast, subI_i64 (by omega) (by omega)]
                · rw [← hL.top]; exact hR
                · rw [← hL.top] at hk
                  exact absurd (hN.inj b 0 hb (.base trivial) (Nat.le_antisymm (hN.top b hb) hk)) h0
              · rintro m2 vals σ ⟨i, c2, g2, S2, ov2, rfl, rfl, hi2, hT2, hR2, hc2, hc3, hmi⟩
                cases i with
                | zero =>
                  repeat' ((conv => whnf); first | (with_reducible first | refine onBool_intro (fun _ => ?_) (fun _ => ?_) | refine And.intro (Ob.mk (Nat.le_of_ble_eq_true rfl)) ?_ | refine And.intro (Ob.mk rfl) ?_ | exact ⟨rfl, rfl⟩ | refine And.intro (Ob.mk (fun h => h)) ?_) | (with_reducible refine Or.inl (And.intro (Ob.mk (Flat.map ?_)) ?_); exact fun _ => rfl) | (refine Or.inl (And.intro (Ob.mk (flat_of rfl)) ?_)) | (refine Or.inl (And.intro (Ob.mk ⟨rfl, rfl, rfl, rfl⟩) ?_)) | (refine Or.inl (And.intro (Ob.mk ⟨rfl, rfl, rfl⟩) ?_)) | (refine And.intro (Ob.mk ⟨rfl, rfl⟩) ?_) | (with_reducible refine Or.inr ?_) | (refine And.intro (Ob.mk (flat_of rfl)) ?_) | (with_reducible refine And.intro (Ob.mk (Flat.map ?_)) ?_; exact fun _ => rfl) | (with_reducible first | exact Ob.mk (Flat.map fun _ => rfl) | refine And.intro ?_ ?_ | apply exG.mk | apply exGS.mk | exact Dd.nil) | (refine Dd.same _ ?_) | (refine Dd.dead _ ?_) | (with_reducible first | apply exQ.mk | apply exP.mk) | (refine EqP.mk rfl rfl) | (with_reducible apply exW.mk) | (refine EqW.mk rfl) | (with_reducible first | intro _ | refine Dn.mk ?_) | (refine exS.full (by first | rfl | (simp; done) | (simp; omega)) ?_) | (refine And.intro (Ob.mk ⟨rfl, rfl, by first | rfl | (simp; done) | (simp; omega)⟩) ?_) | (with_reducible refine exE.mapD ?_) | (refine exL.int ?_) | (with_reducible first | refine Up0.mk rfl ?_ | refine Up0i.mk rfl ?_ | refine Up1.mk rfl ?_ | refine Up1i.mk rfl ?_ | refine Up2.mk rfl ?_ | refine Up2i.mk rfl ?_) | (refine Col.mk rfl rfl rfl ?_) | (refine Coli.mk rfl rfl rfl rfl ?_))
                  all_goals (try (refine Ob.mk ?_; first | assumption | exact ⟨rfl, rfl⟩ | exact ⟨rfl, rfl, rfl⟩ | (refine ⟨rfl, rfl, ?_⟩; simp only [List.length_map, List.length_take, List.length_append, els_len, List.length_replicate]; omega) | (intro h; exact h) | (intro h; rw [h]; rfl) | (intro h; simp_all; done) | (refine bytes_le (n := 1048577) ?_ rfl; simp only [ltI_iff, ltI_not, leI_iff, leI_not, eqI_iff, eqI_not, List.length_map, bif_and, bif_or, Bool.and_eq_true, Bool.and_eq_false_iff, Bool.or_eq_true, Bool.or_eq_false_iff, Bool.not_eq_true', Bool.not_eq_false', Int.toNat_natCast, beq_iff_eq, beq_eq_false_iff_ne, decide_eq_true_eq, decide_eq_false_iff_not, bel_iff, bel_not, wthn_iff, wthn_not, els_len, mixL_len, Nat.zero_add, List.length_set, List.length_take] at *; omega) | (simp only [ltI_iff, ltI_not, leI_iff, leI_not, eqI_iff, eqI_not, List.length_map, bif_and, bif_or, Bool.and_eq_true, Bool.and_eq_false_iff, Bool.or_eq_true, Bool.or_eq_false_iff, Bool.not_eq_true', Bool.not_eq_false', Int.toNat_natCast, beq_iff_eq, beq_eq_false_iff_ne, decide_eq_true_eq, decide_eq_false_iff_not, bel_iff, bel_not, wthn_iff, wthn_not, els_len, mixL_len, Nat.zero_add, List.length_set, List.length_take, Int.ofNat_eq_natCast] at *; omega)))
                  all_goals (try (exfalso; rename_i h6; have h7 := leI_iff.1 h6; revert h7; decide))
                  have hc1 : ch = true := by assumption
                  have hall : ∀ b, Rch (EdgeL to) b → S2 b := fun b hb => hR2.big b hb (Nat.zero_le _)
                  refine ⟨_, ?_, c2, g2, S2, ov2, rfl, rfl, hT2, hR2.next _ hall fun b hb h0 => ?_, fun hc => ?_, rfl⟩
                  · subst hc1
                    have hv := valG_le (g := g2) hnn
                    cases c2 with
                    | true => have := hc3 rfl; simp; omega
                    | false => rw [(hc2 rfl).1]; simp
                  · have h6 := hN.top b hb
                    rcases Nat.lt_or_ge (numL o b) (numL o 0) with h7 | h7
                    · exact h7
                    · exact absurd (hN.inj b 0 hb (.base trivial) (by omega)) h0
                  · intro b hb
                    refine ⟨hall b hb, fun h0 => ((hc2 hc).2 b hb h0 (Nat.zero_le _)).2⟩
                | succ i =>
                  have ei : (((i + 1 : Nat) : Int) - 1) = (i : Int) := by omega
                  rw [ei]
                  have ev1 : nthD o.dropLast i = nthD o i := nthD_dropLast (by omega)
                  have hnv := numL_nthD hL.nodup (j := i) (by omega)
                  have hvr : Rch (EdgeL to) (nthD o i) := (hL.mem _).1 (nthD_mem (by omega))
                  have hvl : nthD o i < to.length := hw.rch hvr
                  generalize hv : nthD o i = v at *
                  have hv0 : v ≠ 0 := fun e0 => by rw [e0, hL.top] at hnv; omega
                  obtain ⟨q1, q2, q3⟩ := hN.par v hvr hv0
                  have hpA : ((par v : Nat) : Int) ∈ A v := (hA v _).2 ⟨par v, (hL.mem _).2 q1, rfl, q2.2⟩
                  obtain ⟨y, l2, hAv⟩ : ∃ y l2, A v = y :: l2 := by
                    cases hAv : A v with
                    | nil => rw [hAv] at hpA; exact nomatch hpA
                    | cons y l2 => exact ⟨y, l2, rfl⟩
                  have esub : subI .i64 (i : Int) 1 = (i : Int) - 1 := subI_i64 (by omega) (by omega)
                  have hi4 : i ≤ o.length - 1 := by omega
                  have hkk : i + 1 = numL o v + 1 := by omega
                  have hlt4 : i < i + 1 := Nat.lt_succ_self i
                  have ev2 : nthD o.dropLast ((i : Int)).toNat = v := ev1
                  repeat' ((conv => whnf); first | (with_reducible first | refine onBool_intro (fun _ => ?_) (fun _ => ?_) | refine And.intro (Ob.mk (Nat.le_of_ble_eq_true rfl)) ?_ | refine And.intro (Ob.mk rfl) ?_ | exact ⟨rfl, rfl⟩ | refine And.intro (Ob.mk (fun h => h)) ?_) | (with_reducible refine Or.inl (And.intro (Ob.mk (Flat.map ?_)) ?_); exact fun _ => rfl) | (refine Or.inl (And.intro (Ob.mk (flat_of rfl)) ?_)) | (refine Or.inl (And.intro (Ob.mk ⟨rfl, rfl, rfl, rfl⟩) ?_)) | (refine Or.inl (And.intro (Ob.mk ⟨rfl, rfl, rfl⟩) ?_)) | (refine And.intro (Ob.mk ⟨rfl, rfl⟩) ?_) | (with_reducible refine Or.inr ?_) | (refine And.intro (Ob.mk (flat_of rfl)) ?_) | (with_reducible refine And.intro (Ob.mk (Flat.map ?_)) ?_; exact fun _ => rfl) | (with_reducible first | exact Ob.mk (Flat.map fun _ => rfl) | refine And.intro ?_ ?_ | apply exG.mk | apply exGS.mk | exact Dd.nil) | (refine Dd.same _ ?_) | (refine Dd.dead _ ?_) | (with_reducible first | apply exQ.mk | apply exP.mk) | (refine EqP.mk rfl rfl) | (with_reducible apply exW.mk) | (refine EqW.mk rfl) | (with_reducible first | intro _ | refine Dn.mk ?_) | (refine exS.full (by first | rfl | (simp; done) | (simp; omega)) ?_) | (refine And.intro (Ob.mk ⟨rfl, rfl, by first | rfl | (simp; done) | (simp; omega)⟩) ?_) | (with_reducible refine exE.mapD ?_) | (refine exL.int ?_) | (with_reducible first | refine Up0.mk rfl ?_ | refine Up0i.mk rfl ?_ | refine Up1.mk rfl ?_ | refine Up1i.mk rfl ?_ | refine Up2.mk rfl ?_ | refine Up2i.mk rfl ?_) | (refine Col.mk rfl rfl rfl ?_) | (refine Coli.mk rfl rfl rfl rfl ?_) | (refine exE.lst (cellL (y :: l2)) ?_ ?_))
                  all_goals (try (refine Ob.mk ?_; first | assumption | exact ⟨rfl, rfl⟩ | exact ⟨rfl, rfl, rfl⟩ | (refine ⟨rfl, rfl, ?_⟩; simp only [List.length_map, List.length_take, List.length_append, els_len, List.length_replicate]; omega) | (intro h; exact h) | (intro h; rw [h]; rfl) | (intro h; simp_all; done) | (refine bytes_le (n := 1048577) ?_ rfl; simp only [ltI_iff, ltI_not, leI_iff, leI_not, eqI_iff, eqI_not, List.length_map, bif_and, bif_or, Bool.and_eq_true, Bool.and_eq_false_iff, Bool.or_eq_true, Bool.or_eq_false_iff, Bool.not_eq_true', Bool.not_eq_false', Int.toNat_natCast, beq_iff_eq, beq_eq_false_iff_ne, decide_eq_true_eq, decide_eq_false_iff_not, bel_iff, bel_not, wthn_iff, wthn_not, els_len, mixL_len, Nat.zero_add, List.length_set, List.length_take] at *; omega) | (simp only [ltI_iff, ltI_not, leI_iff, leI_not, eqI_iff, eqI_not, List.length_map, bif_and, bif_or, Bool.and_eq_true, Bool.and_eq_false_iff, Bool.or_eq_true, Bool.or_eq_false_iff, Bool.not_eq_true', Bool.not_eq_false', Int.toNat_natCast, beq_iff_eq, beq_eq_false_iff_ne, decide_eq_true_eq, decide_eq_false_iff_not, bel_iff, bel_not, wthn_iff, wthn_not, els_len, mixL_len, Nat.zero_add, List.length_set, List.length_take, Int.ofNat_eq_natCast] at *; omega)))
                  all_goals (try exact Ob.mk hep.symm)
                  all_goals (try exact Nat.beq_refl _)
                  all_goals (try (refine Ob.mk ?_; rw [ev2, listR_len]; simp; omega))
                  all_goals (try (refine Ob.mk ?_; rw [ev2, ← hAv]; refine ⟨by simp; omega, by simp⟩))
                  all_goals (try (exfalso; rename_i h6; have h7 := leI_not.1 h6; omega))
                  all_goals (try (refine Ob.mk ?_; rw [List.length_map, List.length_dropLast]; omega))
                  conv => whnf
                  have hSl : ∀ b, S2 b → b < to.length := fun b hb => hw.rch (hR2.rch b hb)
                  have hFn : ∀ b, S2 b → F b = (numL o b : Nat) := fun b hb => by
                    have hm := (hL.mem b).2 (hR2.rch b hb)
                    have hj := List.idxOf_lt_length_iff.2 hm
                    have h7 := hF _ hj
                    rw [nthD_get hj, List.getElem_idxOf hj] at h7
                    exact h7
                  have hmem : ∀ j, j < (y :: l2).length → ∃ b : Nat, nthD (y :: l2) j = b ∧ Rch (EdgeL to) b ∧ EdgeL to b v ∧ b < to.length := fun j hj => by
                    have h7 : nthD (y :: l2) j ∈ A v := by rw [hAv]; exact nthD_mem hj
                    obtain ⟨b, h8, h9, h10⟩ := (hA v _).1 h7
                    have h11 := (hL.mem b).1 h8
                    have h12 := hw.rch h11
                    exact ⟨b, h9, h11, ⟨h12, h10⟩, h12⟩
                  have hlen : (y :: l2).length ≤ 20971520000 := by
                    have := hAl v
                    rw [hAv] at this
                    omega
                  refine LoopVC.mk [86, 88, 16] [] (fun m vals σ => ∃ (t : Nat) (best : Int), vals = [.ref 22 (ep 1) [(v, 0)] 0 (y :: l2).length, .t (.int .i64 t), .t (.int .i64 best)] ∧ σ = dmE to.length F A ep g2 c2 ∧ t ≤ (y :: l2).length ∧ Met S2 ov2 (y :: l2) t best ∧ m = (y :: l2).length - t) ?_ ?_
                  · conv => whnf
                    refine ⟨_, 0, -1, ?_, rfl, Nat.zero_le _, Met.zero, rfl⟩
                    rw [ev2]
                    simp
                  · rintro m3 vals σ ⟨t, best, rfl, rfl, ht, hM, rfl⟩
                    have hbest : -1 ≤ best ∧ best < to.length := by
                      rcases hM with ⟨h7, _⟩ | ⟨m, h7, h8, _⟩
                      · omega
                      · have := hSl m h8; omega
                    have e9 : 0 + ((t : Int)).toNat = t := by simp
                    have hg11 : g2 (nthD (List.range to.length) (0 + (((nthD o.dropLast ((i : Int)).toNat : Nat) : Int)).toNat)) = g2 v := by
                      rw [ev2, Int.toNat_natCast, Nat.zero_add, nthD_range hvl]
                    have ht3 : ltI (t : Int) (((y :: l2).map (fun n => T.int IntKind.i64 n)).length : Nat) = false → t = (y :: l2).length := fun h => by
                      have h := ltI_not.1 h
                      rw [List.length_map] at h
                      have := Int.ofNat_le.1 h
                      omega
                    have hBest : t = (y :: l2).length → ∃ m : Nat, best = m ∧ Best (EdgeL to) S2 ov2 v m := fun h => by
                      subst h
                      refine hM.nearest (p := par v) (hR2.big _ q1 (by omega)) q2 (fun p hp => ?_) fun x hx => ?_
                      · rw [← hAv, hA]
                        constructor
                        · rintro ⟨b, h7, h8, h9⟩
                          have : p = b := by omega
                          subst this
                          exact ⟨hSl p hp, h9⟩
                        · rintro ⟨h7, h8⟩
                          exact ⟨p, (hL.mem p).2 (hR2.rch p hp), rfl, h8⟩
                      · obtain ⟨j, hj, e1⟩ := List.mem_iff_getElem.1 hx
                        obtain ⟨b, h7, _⟩ := hmem j hj
                        rw [nthD_get hj, e1] at h7
                        omega
                    have ht2 : ltI (t : Int) (((y :: l2).map (fun n => T.int IntKind.i64 n)).length : Nat) = true → t < (y :: l2).length := fun h => by
                      have h := ltI_iff.1 h
                      rw [List.length_map] at h; exact Int.ofNat_lt.1 h
                    repeat' ((conv => whnf); first | (with_reducible first | refine onBool_intro (fun _ => ?_) (fun _ => ?_) | refine And.intro (Ob.mk (Nat.le_of_ble_eq_true rfl)) ?_ | refine And.intro (Ob.mk rfl) ?_ | exact ⟨rfl, rfl⟩ | refine And.intro (Ob.mk (fun h => h)) ?_) | (with_reducible refine Or.inl (And.intro (Ob.mk (Flat.map ?_)) ?_); exact fun _ => rfl) | (refine Or.inl (And.intro (Ob.mk (flat_of rfl)) ?_)) | (refine Or.inl (And.intro (Ob.mk ⟨rfl, rfl, rfl, rfl⟩) ?_)) | (refine Or.inl (And.intro (Ob.mk ⟨rfl, rfl, rfl⟩) ?_)) | (refine And.intro (Ob.mk ⟨rfl, rfl⟩) ?_) | (with_reducible refine Or.inr ?_) | (refine And.intro (Ob.mk (flat_of rfl)) ?_) | (with_reducible refine And.intro (Ob.mk (Flat.map ?_)) ?_; exact fun _ => rfl) | (with_reducible first | exact Ob.mk (Flat.map fun _ => rfl) | refine And.intro ?_ ?_ | apply exG.mk | apply exGS.mk | exact Dd.nil) | (refine Dd.same _ ?_) | (refine Dd.dead _ ?_) | (with_reducible first | apply exQ.mk | apply exP.mk) | (refine EqP.mk rfl rfl) | (with_reducible apply exW.mk) | (refine EqW.mk rfl) | (with_reducible first | intro _ | refine Dn.mk ?_) | (refine exS.full (by first | rfl | (simp; done) | (simp; omega)) ?_) | (refine And.intro (Ob.mk ⟨rfl, rfl, by first | rfl | (simp; done) | (simp; omega)⟩) ?_) | (with_reducible refine exE.mapD ?_) | (refine exL.int ?_) | (with_reducible first | refine Up0.mk rfl ?_ | refine Up0i.mk rfl ?_ | refine Up1.mk rfl ?_ | refine Up1i.mk rfl ?_ | refine Up2.mk rfl ?_ | refine Up2i.mk rfl ?_) | (refine Col.mk rfl rfl rfl ?_) | (refine Coli.mk rfl rfl rfl rfl ?_) | (refine exE.lst (cellL (y :: l2)) ?_ ?_) | (refine exE.tell ?_ ?_) | (refine meet59k to.length hl hN hR2.toTree hSl F g2 hFn (fun b hb => hT2.yes b hb) _ _ ?_ ?_))
                    all_goals (try (refine Ob.mk ?_; first | assumption | exact ⟨rfl, rfl⟩ | exact ⟨rfl, rfl, rfl⟩ | (refine ⟨rfl, rfl, ?_⟩; simp only [List.length_map, List.length_take, List.length_append, els_len, List.length_replicate]; omega) | (intro h; exact h) | (intro h; rw [h]; rfl) | (intro h; simp_all; done) | (refine bytes_le (n := 1048577) ?_ rfl; simp only [ltI_iff, ltI_not, leI_iff, leI_not, eqI_iff, eqI_not, List.length_map, bif_and, bif_or, Bool.and_eq_true, Bool.and_eq_false_iff, Bool.or_eq_true, Bool.or_eq_false_iff, Bool.not_eq_true', Bool.not_eq_false', Int.toNat_natCast, beq_iff_eq, beq_eq_false_iff_ne, decide_eq_true_eq, decide_eq_false_iff_not, bel_iff, bel_not, wthn_iff, wthn_not, els_len, mixL_len, Nat.zero_add, List.length_set, List.length_take] at *; omega) | (simp only [ltI_iff, ltI_not, leI_iff, leI_not, eqI_iff, eqI_not, List.length_map, bif_and, bif_or, Bool.and_eq_true, Bool.and_eq_false_iff, Bool.or_eq_true, Bool.or_eq_false_iff, Bool.not_eq_true', Bool.not_eq_false', Int.toNat_natCast, beq_iff_eq, beq_eq_false_iff_ne, decide_eq_true_eq, decide_eq_false_iff_not, bel_iff, bel_not, wthn_iff, wthn_not, els_len, mixL_len, Nat.zero_add, List.length_set, List.length_take, Int.ofNat_eq_natCast] at *; omega)))
                    all_goals (try exact Ob.mk (by rw [listR_len]; exact hvl))
                    all_goals (try exact Ob.mk ⟨hvl, by rw [hAv]⟩)
                    all_goals (try (refine Ob.mk ?_; obtain ⟨b, h8, _, _, h9⟩ := hmem t (ht2 (by assumption)); rw [e9, h8]; simp; done))
                    all_goals (try (refine Ob.mk ?_; obtain ⟨b, h8, _, _, h9⟩ := hmem t (ht2 (by assumption)); rw [e9, h8]; simp; omega))
                    all_goals (try (refine Ob.mk ?_; rw [ev2]; simp; omega))
                    · conv => whnf
                      rename_i h10 h11
                      obtain ⟨b, h8, _, _, h9⟩ := hmem t (ht2 h10)
                      refine ⟨(y :: l2).length - (t + 1), ?_, t + 1, best, ?_, rfl, ht2 h10, hM.skip fun hs => ?_, rfl⟩
                      · have := ht2 h10; omega
                      · rw [addI_i64 (by omega) (by omega)]; rfl
                      · rw [e9, h8, Int.toNat_natCast, Nat.zero_add, nthD_range h9, ltI_iff] at h11
                        rw [h8, Int.toNat_natCast] at hs
                        have := hT2.yes b hs
                        omega
                    · conv => whnf
                      rename_i h10 h11 h12
                      obtain ⟨b, h8, _, _, h9⟩ := hmem t (ht2 h10)
                      refine ⟨(y :: l2).length - (t + 1), ?_, t + 1, _, ?_, rfl, ht2 h10, hM.first (ltI_iff.1 h12) ?_, rfl⟩
                      · have := ht2 h10; omega
                      · rw [addI_i64 (by omega) (by omega), e9, h8]; rfl
                      · rw [e9, h8, Int.toNat_natCast, Nat.zero_add, nthD_range h9, ltI_not] at h11
                        rw [h8, Int.toNat_natCast]
                        exact Classical.byContradiction fun hn => by have := hT2.no b hn; omega
                    · refine Ob.mk ?_
                      rename_i h10 h11 h12
                      obtain ⟨b, h8, _, _, h9⟩ := hmem t (ht2 h10)
                      rw [ltI_not] at h12
                      rw [e9, h8, Int.toNat_natCast]
                      rw [e9, h8, Int.toNat_natCast, Nat.zero_add, nthD_range h9, ltI_not] at h11
                      exact ⟨h12, by omega, hM.set h12, Classical.byContradiction fun hn => by have := hT2.no b hn; omega⟩
                    · conv => whnf
                      rename_i h10 h11 h12 m hm hz
                      obtain ⟨b, h8, _, _, h9⟩ := hmem t (ht2 h10)
                      rw [ltI_not] at h12
                      rw [e9] at hz
                      refine ⟨(y :: l2).length - (t + 1), ?_, t + 1, (m : Nat), ?_, rfl, ht2 h10, hM.meets h12 ?_ hm hz, rfl⟩
                      · have := ht2 h10; omega
                      · rw [addI_i64 (by omega) (by omega)]; rfl
                      · rw [e9, h8, Int.toNat_natCast, Nat.zero_add, nthD_range h9, ltI_not] at h11
                        rw [h8, Int.toNat_natCast]
                        exact Classical.byContradiction fun hn => by have := hT2.no b hn; omega
                    · conv => whnf
                      rename_i h10 h11
                      obtain ⟨m, hm1, hB⟩ := hBest (ht3 h10)
                      subst hm1
                      have hne : g2 v ≠ m := fun e0 => by
                        rw [hg11, e0, eqI_beq] at h11
                        simp at h11
                      obtain ⟨S', ov', t1, t2, t3⟩ := Round.turned hN hR2 hT2 hkk hvr hv0 hB hne
                      rw [hnv] at t2
                      have hvlt := valG_lt (n := to.length) (num := numL o) (g := g2) (m := m) hvl t3
                      have e7 : ∀ y, y = T.int .i64 (m : Nat) → (tellR to.length g2).set (0 + (((nthD o.dropLast ((i : Int)).toNat : Nat) : Int)).toNat) y = tellR to.length fun b => if b = v then ((m : Nat) : Int) else g2 b := fun y hy => by
                        rw [ev2, Int.toNat_natCast, Nat.zero_add]; exact tellR_set hy
                      refine ⟨i, hmi ▸ hlt4, i, true, _, S', ov', ?_, ?_, hi4, t1, t2, (fun h => nomatch h), fun _ => ?_, rfl⟩
                      · rw [esub]
                      · refine Eq.trans ?_ (congrArg (fun z => dmD' to.length F A ep z true) (e7 _ rfl))
                        exact rfl
                      · cases c2 with
                        | true => exact Nat.lt_trans (hc3 rfl) hvlt
                        | false => rw [← (hc2 rfl).1]; exact hvlt
                    · conv => whnf
                      rename_i h10 h11
                      obtain ⟨m, hm1, hB⟩ := hBest (ht3 h10)
                      subst hm1
                      have heq : g2 v = m := by
                        rw [hg11, eqI_beq] at h11
                        simpa using h11
                      obtain ⟨t1, t2, t3⟩ := Round.same hN hR2 hT2 hkk hv0 hB heq
                      rw [hnv] at t1
                      refine ⟨i, hmi ▸ hlt4, i, c2, g2, S2, ov2, ?_, rfl, hi4, hT2, t1, fun h => ⟨(hc2 h).1, fun b hb hb0 hk => ?_⟩, hc3, rfl⟩
                      · rw [esub]
                      · rcases Nat.lt_or_ge i (numL o b) with h12 | h12
                        · exact (hc2 h).2 b hb hb0 (by omega)
                        · have : b = v := hN.inj b v hb hvr (by omega)
                          subst this
                          exact ⟨t2, t3⟩
            · rename_i h3
              have h4 := hch h3
              have e7 : S = Rch (EdgeL to) := funext fun b => propext ⟨hR.rch b, fun h => (h4 b h).1⟩
              subst e7
              exact Ob.mk ⟨g, ⟨hT.zero, hT.no, _, par, ov, hT.yes, hN, hR.toTree, fun a b h => hR.toTree.last (fun _ h => h) (fun b h h0 => (h4 b h).2 h0) h⟩, rfl⟩
end Go.Proofs.Ytgladinljapmkaa.Am

/- Loops: is a block around another one? by the program. -/
namespace Go.Proofs.Ytgladinljapmkaa.Am
open Go Go.Proofs
set_option maxRecDepth 10000
set_option maxHeartbeats 2000000
set_option linter.unusedVariables false
set_option linter.unusedSimpArgs false
noncomputable def upB (ov : Nat → Nat) (a b : Nat) : Bool := @decide (Up ov a b) (Classical.propDecidable _)
theorem upB_iff {ov : Nat → Nat} {a b : Nat} : upB ov a b = true ↔ Up ov a b := by
  unfold upB
  exact @decide_eq_true_iff _ (Classical.propDecidable _)
theorem upB_step {ov : Nat → Nat} {a b : Nat} (h : a ≠ b) (h0 : b ≠ 0) : upB ov a b = upB ov a (ov b) := by
  rw [Bool.eq_iff_iff, upB_iff, upB_iff]
  exact ⟨fun h1 => (h1.over h).2, fun h1 => .step h0 h1⟩
abbrev arS (n : Nat) (g : Nat → Int) : Sto := [.var 74 [.fn 41 [.pl 0 0 [] 0 0, .pl 1 0 [] 0 0]], .var 22 [.osl 2 0 n], .row 3 1 (tellR n g)]
theorem around41 (n : Nat) (hn : n ≤ 20000) {e : Nat → Nat → Prop} {num par : Nat → Nat} {ov : Nat → Nat} (hN : Nums e num par) (t : Tree e num par (Rch e) ov) (hl : ∀ b, Rch e b → b < n) (g : Nat → Int) (hg : ∀ b, Rch e b → g b = ov b) :
    ∀ (d a b : Nat), Rch e b → num 0 - num b ≤ d → ∀ q : SV → Sto → Prop, q (.t (.bool (upB ov a b))) (arS n g) →
      ICalls Try.prog 41 [.t (.int .i64 a), .t (.int .i64 b), .pl 0 0 [] 0 0, .pl 1 0 [] 0 0] (arS n g) q := by
  intro d
  induction d using Nat.strongRecOn with
  | _ d ih =>
  intro a b hb hd q hq
  have hbn := hl b hb
  have ih2 : ∀ (a : Nat) (c : Int), Ob (0 ≤ c ∧ Rch e c.toNat ∧ num 0 - num c.toNat < d) → ∀ q : SV → Sto → Prop, q (.t (.bool (upB ov a c.toNat))) (arS n g) →
      ICalls Try.prog 41 [.t (.int .i64 a), .t (.int .i64 c), .pl 0 0 [] 0 0, .pl 1 0 [] 0 0] (arS n g) q := fun a c h q hq => by
    obtain ⟨h1, h2, h3⟩ := h.out
    have := ih _ h3 a c.toNat h2 (Nat.le_refl _) q hq
    rw [Int.toNat_of_nonneg h1] at this
    exact this
  have hgb : g (nthD (List.range n) (0 + ((b : Int)).toNat)) = (ov b : Nat) := by
    rw [Int.toNat_natCast, Nat.zero_add, nthD_range hbn, hg b hb]
  refine ICalls.inline (I := fun f => Nat.beq f 41) ttOk Try.func41 rfl ?_
  repeat' ((conv => whnf); first | (with_reducible first | refine onBool_intro (fun _ => ?_) (fun _ => ?_) | refine And.intro (Ob.mk (Nat.le_of_ble_eq_true rfl)) ?_ | refine And.intro (Ob.mk rfl) ?_ | exact ⟨rfl, rfl⟩ | refine And.intro (Ob.mk (fun h => h)) ?_) | (with_reducible refine Or.inl (And.intro (Ob.mk (Flat.map ?_)) ?_); exact fun _ => rfl) | (refine Or.inl (And.intro (Ob.mk (flat_of rfl)) ?_)) | (refine Or.inl (And.intro (Ob.mk ⟨rfl, rfl, rfl, rfl⟩) ?_)) | (refine Or.inl (And.intro (Ob.mk ⟨rfl, rfl, rfl⟩) ?_)) | (refine And.intro (Ob.mk ⟨rfl, rfl⟩) ?_) | (with_reducible refine Or.inr ?_) | (refine And.intro (Ob.mk (flat_of rfl)) ?_) | (with_reducible refine And.intro (Ob.mk (Flat.map ?_)) ?_; exact fun _ => rfl) | (with_reducible first | exact Ob.mk (Flat.map fun _ => rfl) | refine And.intro ?_ ?_ | apply exG.mk | apply exGS.mk | exact Dd.nil) | (refine Dd.same _ ?_) | (refine Dd.dead _ ?_) | (with_reducible first | apply exQ.mk | apply exP.mk) | (refine EqP.mk rfl rfl) | (with_reducible apply exW.mk) | (refine EqW.mk rfl) | (with_reducible first | intro _ | refine Dn.mk ?_) | (refine exS.full (by first | rfl | (simp; done) | (simp; omega)) ?_) | (refine And.intro (Ob.mk ⟨rfl, rfl, by first | rfl | (simp; done) | (simp; omega)⟩) ?_) | (with_reducible refine exE.mapD ?_) | (refine exL.int ?_) | (with_reducible first | refine Up0.mk rfl ?_ | refine Up0i.mk rfl ?_ | refine Up1.mk rfl ?_ | refine Up1i.mk rfl ?_ | refine Up2.mk rfl ?_ | refine Up2i.mk rfl ?_) | (refine Col.mk rfl rfl rfl ?_) | (refine Coli.mk rfl rfl rfl rfl ?_) | (refine drawVC.mkM _ _ 17 13 [] [[], [], [0, 1], [0, 1, 2], [0, 1, 2, 3], [0, 1, 2, 3, 4], [0, 1, 2, 3, 4, 5], [0, 1, 2, 3, 4, 5, 6], [0, 1, 2, 3, 4, 5, 6], [0, 1, 2, 3, 4, 5, 6], [0, 1, 2, 3, 4, 5, 6], [0, 1, 2, 3, 4, 5, 6, 9, 10], [0, 1, 2, 3, 4, 5, 6, 9, 10, 11], [0, 1, 2, 3, 4, 5, 6, 7, 8, 9, 10, 11, 12], [0, 1, 2, 3, 4, 5, 6, 7, 8, 9, 10, 11, 12, 13], [0, 1, 2, 3, 4, 5, 6, 7, 8, 9, 10, 11, 12, 13, 14], [0, 1, 2, 3, 4, 5, 6, 7, 8, 9, 10, 11, 12, 13, 14, 15]] rfl (by kernel_rfl) ?_) | (refine exE.tell ?_ ?_) | (refine ih2 _ _ ?_ _ ?_))
  all_goals (try (refine Ob.mk ?_; first | assumption | exact ⟨rfl, rfl⟩ | exact ⟨rfl, rfl, rfl⟩ | (refine ⟨rfl, rfl, ?_⟩; simp only [List.length_map, List.length_take, List.length_append, els_len, List.length_replicate]; omega) | (intro h; exact h) | (intro h; rw [h]; rfl) | (intro h; simp_all; done) | (refine bytes_le (n := 1048577) ?_ rfl; simp only [ltI_iff, ltI_not, leI_iff, leI_not, eqI_iff, eqI_not, List.length_map, bif_and, bif_or, Bool.and_eq_true, Bool.and_eq_false_iff, Bool.or_eq_true, Bool.or_eq_false_iff, Bool.not_eq_true', Bool.not_eq_false', Int.toNat_natCast, beq_iff_eq, beq_eq_false_iff_ne, decide_eq_true_eq, decide_eq_false_iff_not, bel_iff, bel_not, wthn_iff, wthn_not, els_len, mixL_len, Nat.zero_add, List.length_set, List.length_take] at *; omega) | (simp only [ltI_iff, ltI_not, leI_iff, leI_not, eqI_iff, eqI_not, List.length_map, bif_and, bif_or, Bool.and_eq_true, Bool.and_eq_false_iff, Bool.or_eq_true, Bool.or_eq_false_iff, Bool.not_eq_true', Bool.not_eq_false', Int.toNat_natCast, beq_iff_eq, beq_eq_false_iff_ne, decide_eq_true_eq, decide_eq_false_iff_not, bel_iff, bel_not, wthn_iff, wthn_not, els_len, mixL_len, Nat.zero_add, List.length_set, List.length_take, Int.ofNat_eq_natCast] at *; omega)))
  all_goals (try (refine Ob.mk ?_; simp; omega))
  · refine Ob.mk ?_
    rename_i h1
    rw [hgb]
    simp only [Bool.and_eq_true, Bool.not_eq_true', eqI_not] at h1
    have h0 : b ≠ 0 := by omega
    have h2 := t.set b hb h0
    have h3 := hN.top _ h2.1
    exact ⟨by omega, by rw [Int.toNat_natCast]; exact h2.1, by rw [Int.toNat_natCast]; omega⟩
  · have key : ∀ v, v = SV.t (.bool (upB ov a b)) → q v (arS n g) := fun v hv => hv ▸ hq
    conv => whnf
    refine key _ ?_
    conv => lhs; whnf
    congr 2
    rw [hgb, Int.toNat_natCast]
    cases h1 : eqI (a : Int) (b : Int) with
    | true =>
      have : a = b := by have := eqI_iff.1 h1; omega
      subst this
      exact (upB_iff.2 .refl).symm
    | false =>
      have h2 : a ≠ b := by have := eqI_not.1 h1; omega
      cases h3 : eqI (b : Int) 0 with
      | true =>
        have h4 : b = 0 := by have := eqI_iff.1 h3; omega
        subst h4
        show false = _
        symm
        rw [Bool.eq_false_iff]
        exact fun h => h2 (upB_iff.1 h).zero
      | false =>
        have h4 : b ≠ 0 := by have := eqI_not.1 h3; omega
        exact (upB_step h2 h4).symm
theorem around41k (n : Nat) (hn : n ≤ 20000) {e : Nat → Nat → Prop} {num par : Nat → Nat} {ov : Nat → Nat} (hN : Nums e num par) (t : Tree e num par (Rch e) ov) (hl : ∀ b, Rch e b → b < n) (g : Nat → Int) (hg : ∀ b, Rch e b → g b = ov b)
    (a b : Int) (h : Ob (0 ≤ a ∧ 0 ≤ b ∧ Rch e b.toNat)) {q : SV → Sto → Prop} (hq : q (.t (.bool (upB ov a.toNat b.toNat))) (arS n g)) :
      ICalls Try.prog 41 [.t (.int .i64 a), .t (.int .i64 b), .pl 0 0 [] 0 0, .pl 1 0 [] 0 0] (arS n g) q := by
  obtain ⟨h1, h2, h3⟩ := h.out
  have := around41 n hn hN t hl g hg _ a.toNat b.toNat h3 (Nat.le_refl _) q hq
  rw [Int.toNat_of_nonneg h1, Int.toNat_of_nonneg h2] at this
  exact this
noncomputable def domB (to : List (List Int)) (a b : Nat) : Bool := @decide (Dom (EdgeL to) a b) (Classical.propDecidable _)
theorem domB_iff {to : List (List Int)} {a b : Nat} : domB to a b = true ↔ Dom (EdgeL to) a b := by
  unfold domB
  exact @decide_eq_true_iff _ (Classical.propDecidable _)
noncomputable def backE (to : List (List Int)) (a k : Nat) : List (Int × Int) := (((nthD to a).take k).filter fun b => domB to b.toNat a).map fun b => ((a : Int), b)
noncomputable def backP (to : List (List Int)) (a : Nat) : List (Int × Int) := (List.range a).flatMap fun a => backE to a (nthD to a).length
noncomputable abbrev backL (to : List (List Int)) : List (Int × Int) := backP to to.length
abbrev pairT (p : Int × Int) : T := .arr [.int .i64 p.1, .int .i64 p.2]
abbrev pairsR (l : List (Int × Int)) : List T := l.map pairT
theorem backE_zero {to : List (List Int)} {a : Nat} : backE to a 0 = [] := rfl
theorem take_succN {l : List Int} {k : Nat} (hk : k < l.length) : l.take (k + 1) = l.take k ++ [nthD l k] := by
  rw [List.take_add_one, List.getElem?_eq_getElem hk, nthD_get hk]; rfl
theorem backE_succ {to : List (List Int)} {a k : Nat} (hk : k < (nthD to a).length) : backE to a (k + 1) = backE to a k ++ (if domB to (nthD (nthD to a) k).toNat a then [((a : Int), nthD (nthD to a) k)] else []) := by
  unfold backE
  rw [take_succN hk, List.filter_append, List.map_append]
  congr 1
  rw [List.filter_cons]
  split <;> rfl
theorem backP_succ {to : List (List Int)} {a : Nat} : backP to (a + 1) = backP to a ++ backE to a (nthD to a).length := by
  unfold backP
  rw [List.range_succ, List.flatMap_append]
  simp
theorem backE_len {to : List (List Int)} {a k : Nat} : (backE to a k).length ≤ k := by
  unfold backE
  rw [List.length_map]
  refine Nat.le_trans (List.length_filter_le ..) ?_
  rw [List.length_take]; omega
theorem backP_len {to : List (List Int)} (hr : ∀ l ∈ to, l.length ≤ 2 ^ 20) : ∀ {a : Nat}, a ≤ to.length → (backP to a).length ≤ a * 2 ^ 20
  | 0, _ => by simp [backP]
  | a + 1, h => by
    rw [backP_succ, List.length_append]
    have h1 := backP_len hr (a := a) (by omega)
    have h2 := backE_len (to := to) (a := a) (k := (nthD to a).length)
    have h3 := hr _ (nthD_mem (l := to) (i := a) (by omega))
    omega
theorem dominators38k (to : List (List Int)) (hw : WalkL to) (hl : to.length ≤ 20000) (hr : ∀ l ∈ to, l.length ≤ 2 ^ 20) {q : T → Prop} (hq : ∀ g, Doms to g → q (.own (.nst 3 1 (tellR to.length g)))) : PCalls Try.prog 28 [listsL to] q :=
  PCalls.mono (dominators38 to hw hl hr) fun r h => by
    obtain ⟨g, h1, rfl⟩ := h.out
    exact hq g h1
abbrev bkS0 (n m : Nat) : Sto := [.dead, .var 22 [.osl m 0 n], .var 74 [.fn 41 [.pl 2 0 [] 0 0, .pl 1 0 [] 0 0]]]
abbrev bkS (n : Nat) (g : Nat → Int) (out : List T) : Sto := bkS0 n 4 ++ [.row 35 2 out, .row 3 1 (tellR n g)]
abbrev bkT (n : Nat) (g : Nat → Int) (out : List T) : Sto := bkS0 n 6 ++ [.dead, .dead, .row 35 2 out, .row 3 1 (tellR n g)]
theorem back29 (to : List (List Int)) (hw : WalkL to) (hl : to.length ≤ 20000) (hr : ∀ l ∈ to, l.length ≤ 2 ^ 20) : PCalls Try.prog 29 [listsL to] (fun r => Ob (r = .own (.nst 35 2 (pairsR (backL to))))) := by
  have h1 := hw.one
  refine PCalls.of_bodyOI (fun f => Nat.beq f 41) ttOk Try.func29 rfl ?_
  repeat' ((conv => whnf); first | (with_reducible first | refine onBool_intro (fun _ => ?_) (fun _ => ?_) | refine And.intro (Ob.mk (Nat.le_of_ble_eq_true rfl)) ?_ | refine And.intro (Ob.mk rfl) ?_ | exact ⟨rfl, rfl⟩ | refine And.intro (Ob.mk (fun h => h)) ?_) | (with_reducible refine Or.inl (And.intro (Ob.mk (Flat.map ?_)) ?_); exact fun _ => rfl) | (refine Or.inl (And.intro (Ob.mk (flat_of rfl)) ?_)) | (refine Or.inl (And.intro (Ob.mk ⟨rfl, rfl, rfl, rfl⟩) ?_)) | (refine Or.inl (And.intro (Ob.mk ⟨rfl, rfl, rfl⟩) ?_)) | (refine And.intro (Ob.mk ⟨rfl, rfl⟩) ?_) | (with_reducible refine Or.inr ?_) | (refine And.intro (Ob.mk (flat_of rfl)) ?_) | (with_reducible refine And.intro (Ob.mk (Flat.map ?_)) ?_; exact fun _ => rfl) | (with_reducible first | exact Ob.mk (Flat.map fun _ => rfl) | refine And.intro ?_ ?_ | apply exG.mk | apply exGS.mk | exact Dd.nil) | (refine Dd.same _ ?_) | (refine Dd.dead _ ?_) | (with_reducible first | apply exQ.mk | apply exP.mk) | (refine EqP.mk rfl rfl) | (with_reducible apply exW.mk) | (refine EqW.mk rfl) | (with_reducible first | intro _ | refine Dn.mk ?_) | (refine exS.full (by first | rfl | (simp; done) | (simp; omega)) ?_) | (refine And.intro (Ob.mk ⟨rfl, rfl, by first | rfl | (simp; done) | (simp; omega)⟩) ?_) | (with_reducible refine exE.mapD ?_) | (refine exL.int ?_) | (with_reducible first | refine Up0.mk rfl ?_ | refine Up0i.mk rfl ?_ | refine Up1.mk rfl ?_ | refine Up1i.mk rfl ?_ | refine Up2.mk rfl ?_ | refine Up2i.mk rfl ?_) | (refine Col.mk rfl rfl rfl ?_) | (refine Coli.mk rfl rfl rfl rfl ?_) | (refine dominators38k to hw hl hr ?_))
  all_goals (try (refine Ob.mk ?_; first | assumption | exact ⟨rfl, rfl⟩ | exact ⟨rfl, rfl, rfl⟩ | (refine ⟨rfl, rfl, ?_⟩; simp only [List.length_map, List.length_take, List.length_append, els_len, List.length_replicate]; omega) | (intro h; exact h) | (intro h; rw [h]; rfl) | (intro h; simp_all; done) | (refine bytes_le (n := 1048577) ?_ rfl; simp only [ltI_iff, ltI_not, leI_iff, leI_not, eqI_iff, eqI_not, List.length_map, bif_and, bif_or, Bool.and_eq_true, Bool.and_eq_false_iff, Bool.or_eq_true, Bool.or_eq_false_iff, Bool.not_eq_true', Bool.not_eq_false', Int.toNat_natCast, beq_iff_eq, beq_eq_false_iff_ne, decide_eq_true_eq, decide_eq_false_iff_not, bel_iff, bel_not, wthn_iff, wthn_not, els_len, mixL_len, Nat.zero_add, List.length_set, List.length_take] at *; omega) | (simp only [ltI_iff, ltI_not, leI_iff, leI_not, eqI_iff, eqI_not, List.length_map, bif_and, bif_or, Bool.and_eq_true, Bool.and_eq_false_iff, Bool.or_eq_true, Bool.or_eq_false_iff, Bool.not_eq_true', Bool.not_eq_false', Int.toNat_natCast, beq_iff_eq, beq_eq_false_iff_ne, decide_eq_true_eq, decide_eq_false_iff_not, bel_iff, bel_not, wthn_iff, wthn_not, els_len, mixL_len, Nat.zero_add, List.length_set, List.length_take, Int.ofNat_eq_natCast] at *; omega)))
  rename_i g hD _
  obtain ⟨num, par, ov, hg, hN, hT, hU⟩ := hD.yes
  conv => whnf
  have hgL : ∀ a, a < to.length → (g a < 0 ↔ ¬ Rch (EdgeL to) a) := fun a ha => by
    by_cases h : Rch (EdgeL to) a
    · have := hg a h
      exact ⟨fun h2 => by omega, fun h2 => absurd h h2⟩
    · have := hD.not a h
      exact ⟨fun _ => h, fun _ => by omega⟩
  refine LoopVC.mk [5, 15] [(5, 35, 2)] (fun m vals σ => ∃ a : Nat, vals = [.osl 3 0 (backP to a).length, .t (.int .i64 a)] ∧ σ = bkS to.length g (pairsR (backP to a)) ∧ a ≤ to.length ∧ m = to.length - a) ?_ ?_
  · conv => whnf
    refine ⟨_, 0, rfl, ?_, Nat.zero_le _, rfl⟩
    simp [bkS, bkS0]
    exact ⟨⟨rfl, rfl⟩, rfl⟩
  · rintro m vals σ ⟨a, rfl, rfl, ha, rfl⟩
    have hbl := backP_len hr ha
    repeat' ((conv => whnf); first | (with_reducible first | refine onBool_intro (fun _ => ?_) (fun _ => ?_) | refine And.intro (Ob.mk (Nat.le_of_ble_eq_true rfl)) ?_ | refine And.intro (Ob.mk rfl) ?_ | exact ⟨rfl, rfl⟩ | refine And.intro (Ob.mk (fun h => h)) ?_) | (with_reducible refine Or.inl (And.intro (Ob.mk (Flat.map ?_)) ?_); exact fun _ => rfl) | (refine Or.inl (And.intro (Ob.mk (flat_of rfl)) ?_)) | (refine Or.inl (And.intro (Ob.mk ⟨rfl, rfl, rfl, rfl⟩) ?_)) | (refine Or.inl (And.intro (Ob.mk ⟨rfl, rfl, rfl⟩) ?_)) | (refine And.intro (Ob.mk ⟨rfl, rfl⟩) ?_) | (with_reducible refine Or.inr ?_) | (refine And.intro (Ob.mk (flat_of rfl)) ?_) | (with_reducible refine And.intro (Ob.mk (Flat.map ?_)) ?_; exact fun _ => rfl) | (with_reducible first | exact Ob.mk (Flat.map fun _ => rfl) | refine And.intro ?_ ?_ | apply exG.mk | apply exGS.mk | exact Dd.nil) | (refine Dd.same _ ?_) | (refine Dd.dead _ ?_) | (with_reducible first | apply exQ.mk | apply exP.mk) | (refine EqP.mk rfl rfl) | (with_reducible apply exW.mk) | (refine EqW.mk rfl) | (with_reducible first | intro _ | refine Dn.mk ?_) | (refine exS.full (by first | rfl | (simp; done) | (simp; omega)) ?_) | (refine And.intro (Ob.mk ⟨rfl, rfl, by first | rfl | (simp; done) | (simp; omega)⟩) ?_) | (with_reducible refine exE.mapD ?_) | (refine exL.int ?_) | (with_reducible first | refine Up0.mk rfl ?_ | refine Up0i.mk rfl ?_ | refine Up1.mk rfl ?_ | refine Up1i.mk rfl ?_ | refine Up2.mk rfl ?_ | refine Up2i.mk rfl ?_) | (refine Col.mk rfl rfl rfl ?_) | (refine Coli.mk rfl rfl rfl rfl ?_))
    all_goals (try (refine Ob.mk ?_; first | assumption | exact ⟨rfl, rfl⟩ | exact ⟨rfl, rfl, rfl⟩ | (refine ⟨rfl, rfl, ?_⟩; simp only [List.length_map, List.length_take, List.length_append, els_len, List.length_replicate]; omega) | (intro h; exact h) | (intro h; rw [h]; rfl) | (intro h; simp_all; done) | (refine bytes_le (n := 1048577) ?_ rfl; simp only [ltI_iff, ltI_not, leI_iff, leI_not, eqI_iff, eqI_not, List.length_map, bif_and, bif_or, Bool.and_eq_true, Bool.and_eq_false_iff, Bool.or_eq_true, Bool.or_eq_false_iff, Bool.not_eq_true', Bool.not_eq_false', Int.toNat_natCast, beq_iff_eq, beq_eq_false_iff_ne, decide_eq_true_eq, decide_eq_false_iff_not, bel_iff, bel_not, wthn_iff, wthn_not, els_len, mixL_len, Nat.zero_add, List.length_set, List.length_take] at *; omega) | (simp only [ltI_iff, ltI_not, leI_iff, leI_not, eqI_iff, eqI_not, List.length_map, bif_and, bif_or, Bool.and_eq_true, Bool.and_eq_false_iff, Bool.or_eq_true, Bool.or_eq_false_iff, Bool.not_eq_true', Bool.not_eq_false', Int.toNat_natCast, beq_iff_eq, beq_eq_false_iff_ne, decide_eq_true_eq, decide_eq_false_iff_not, bel_iff, bel_not, wthn_iff, wthn_not, els_len, mixL_len, Nat.zero_add, List.length_set, List.length_take, Int.ofNat_eq_natCast] at *; omega)))
    · have ha2 : a < to.length := by
        have h3 : ltI (a : Int) (((to.map ilist).length : Nat) : Int) = true := by assumption
        rw [ltI_iff, List.length_map] at h3; omega
      have hrl := hr _ (nthD_mem ha2)
      conv => whnf
      refine LoopVC.mk [5, 22] [] (fun m vals σ => ∃ k : Nat, vals = [.osl 5 0 (backP to a ++ backE to a k).length, .t (.int .i64 k)] ∧ σ = bkT to.length g (pairsR (backP to a ++ backE to a k)) ∧ k ≤ (nthD to a).length ∧ m = (nthD to a).length - k) ?_ ?_
      · conv => whnf
        refine ⟨_, 0, ?_, ?_, Nat.zero_le _, rfl⟩
        · rw [backE_zero, List.append_nil]; rfl
        · rw [backE_zero, List.append_nil]; rfl
      · rintro m2 vals σ ⟨k, rfl, rfl, hk, rfl⟩
        have hel := backE_len (to := to) (a := a) (k := k)
        have hck : k < (nthD to a).length → 0 ≤ nthD (nthD to a) k ∧ nthD (nthD to a) k < to.length := fun h => hw.rng _ ha2 _ (nthD_mem h)
        have hval : (bif leI 0 (g (nthD (List.range to.length) (0 + ((a : Int)).toNat))) then upB ov (nthD (nthD to ((a : Int)).toNat) ((k : Int)).toNat).toNat ((a : Int)).toNat else false) = domB to (nthD (nthD to a) k).toNat a := by
          rw [Int.toNat_natCast, Int.toNat_natCast, Nat.zero_add, nthD_range ha2]
          cases h3 : leI 0 (g a) with
          | true =>
            have h4 : Rch (EdgeL to) a := by
              rw [leI_iff] at h3
              exact Classical.byContradiction fun hn => by have := (hgL a ha2).2 hn; omega
            rw [cond_true, Bool.eq_iff_iff, upB_iff, domB_iff]
            exact hU _ _ h4
          | false =>
            rw [leI_not] at h3
            rw [cond_false]
            symm
            rw [Bool.eq_false_iff]
            exact fun h => (hgL a ha2).1 h3 (domB_iff.1 h).1
        repeat' ((conv => whnf); first | (with_reducible first | refine onBool_intro (fun _ => ?_) (fun _ => ?_) | refine And.intro (Ob.mk (Nat.le_of_ble_eq_true rfl)) ?_ | refine And.intro (Ob.mk rfl) ?_ | exact ⟨rfl, rfl⟩ | refine And.intro (Ob.mk (fun h => h)) ?_) | (with_reducible refine Or.inl (And.intro (Ob.mk (Flat.map ?_)) ?_); exact fun _ => rfl) | (refine Or.inl (And.intro (Ob.mk (flat_of rfl)) ?_)) | (refine Or.inl (And.intro (Ob.mk ⟨rfl, rfl, rfl, rfl⟩) ?_)) | (refine Or.inl (And.intro (Ob.mk ⟨rfl, rfl, rfl⟩) ?_)) | (refine And.intro (Ob.mk ⟨rfl, rfl⟩) ?_) | (with_reducible refine Or.inr ?_) | (refine And.intro (Ob.mk (flat_of rfl)) ?_) | (with_reducible refine And.intro (Ob.mk (Flat.map ?_)) ?_; exact fun _ => rfl) | (with_reducible first | exact Ob.mk (Flat.map fun _ => rfl) | refine And.intro ?_ ?_ | apply exG.mk | apply exGS.mk | exact Dd.nil) | (refine Dd.same _ ?_) | (refine Dd.dead _ ?_) | (with_reducible first | apply exQ.mk | apply exP.mk) | (refine EqP.mk rfl rfl) | (with_reducible apply exW.mk) | (refine EqW.mk rfl) | (with_reducible first | intro _ | refine Dn.mk ?_) | (refine exS.full (by first | rfl | (simp; done) | (simp; omega)) ?_) | (refine And.intro (Ob.mk ⟨rfl, rfl, by first | rfl | (simp; done) | (simp; omega)⟩) ?_) | (with_reducible refine exE.mapD ?_) | (refine exL.int ?_) | (with_reducible first | refine Up0.mk rfl ?_ | refine Up0i.mk rfl ?_ | refine Up1.mk rfl ?_ | refine Up1i.mk rfl ?_ | refine Up2.mk rfl ?_ | refine Up2i.mk rfl ?_) | (refine Col.mk rfl rfl rfl ?_) | (refine Coli.mk rfl rfl rfl rfl ?_) | (refine exE.tell ?_ ?_) | (refine ICalls.frame [2, 1, 6] rfl (around41k to.length hl hN hT (fun b hb => hw.rch hb) g hg _ _ ?_ ?_)))
        all_goals (try (refine Ob.mk ?_; first | assumption | exact ⟨rfl, rfl⟩ | exact ⟨rfl, rfl, rfl⟩ | (refine ⟨rfl, rfl, ?_⟩; simp only [List.length_map, List.length_take, List.length_append, els_len, List.length_replicate]; omega) | (intro h; exact h) | (intro h; rw [h]; rfl) | (intro h; simp_all; done) | (refine bytes_le (n := 1048577) ?_ rfl; simp only [ltI_iff, ltI_not, leI_iff, leI_not, eqI_iff, eqI_not, List.length_map, bif_and, bif_or, Bool.and_eq_true, Bool.and_eq_false_iff, Bool.or_eq_true, Bool.or_eq_false_iff, Bool.not_eq_true', Bool.not_eq_false', Int.toNat_natCast, beq_iff_eq, beq_eq_false_iff_ne, decide_eq_true_eq, decide_eq_false_iff_not, bel_iff, bel_not, wthn_iff, wthn_not, els_len, mixL_len, Nat.zero_add, List.length_set, List.length_take] at *; omega) | (simp only [ltI_iff, ltI_not, leI_iff, leI_not, eqI_iff, eqI_not, List.length_map, bif_and, bif_or, Bool.and_eq_true, Bool.and_eq_false_iff, Bool.or_eq_true, Bool.or_eq_false_iff, Bool.not_eq_true', Bool.not_eq_false', Int.toNat_natCast, beq_iff_eq, beq_eq_false_iff_ne, decide_eq_true_eq, decide_eq_false_iff_not, bel_iff, bel_not, wthn_iff, wthn_not, els_len, mixL_len, Nat.zero_add, List.length_set, List.length_take, Int.ofNat_eq_natCast] at *; omega)))
        all_goals (try exact Dd.nil)
        all_goals (try have hk2 : k < (nthD to a).length := by (have h3 : ltI (k : Int) ((((nthD to ((a : Int)).toNat).map (fun n => T.int .i64 n)).length : Nat) : Int) = true := by assumption); rw [ltI_iff, List.length_map, Int.toNat_natCast] at h3; omega)
        all_goals (try (refine Ob.mk ?_; simp; omega))
        · refine Ob.mk ⟨(hck hk2).1, by omega, ?_⟩
          rename_i h3
          rw [leI_iff, Int.toNat_natCast, Nat.zero_add, nthD_range ha2] at h3
          rw [Int.toNat_natCast]
          exact Classical.byContradiction fun hn => by have := (hgL a ha2).2 hn; omega
        · exact Ob.mk fun x hx => by
            simp at hx
            rcases hx with rfl | rfl <;> rfl
        · refine Ob.mk ?_
          show ((backP to a ++ backE to a k).length + 1) * 16 ≤ 2 ^ 47
          rw [List.length_append]; omega
        · conv => whnf
          have hd : domB to (nthD (nthD to a) k).toNat a = true := hval.symm.trans (by assumption)
          refine ⟨(nthD to a).length - (k + 1), by omega, k + 1, ?_, ?_, by omega, rfl⟩
          · refine (?_ : [SV.osl 5 0 ((backP to a ++ backE to a k).length + 1), SV.t (.int .i64 (addI .i64 k 1))] = _)
            have eL : ((backP to a ++ backE to a k) ++ [((a : Int), nthD (nthD to a) k)]).length = (backP to a ++ backE to a k).length + 1 := by rw [List.length_append]; rfl
            rw [addI_i64 (by omega) (by omega), backE_succ hk2, if_pos hd, ← List.append_assoc, eL]; rfl
          · have eM : pairsR (backP to a ++ backE to a (k + 1)) = pairsR (backP to a ++ backE to a k) ++ [pairT ((a : Int), nthD (nthD to a) k)] := by
              rw [backE_succ hk2, if_pos hd, ← List.append_assoc]; exact List.map_append
            refine Eq.trans ?_ (congrArg (bkT to.length g) eM.symm)
            exact rfl
        · conv => whnf
          have hd : domB to (nthD (nthD to a) k).toNat a = false := hval.symm.trans (by assumption)
          refine ⟨(nthD to a).length - (k + 1), by omega, k + 1, ?_, ?_, by omega, rfl⟩
          · rw [addI_i64 (by omega) (by omega), backE_succ hk2, if_neg (by rw [hd]; simp), List.append_nil]; rfl
          · rw [backE_succ hk2, if_neg (by rw [hd]; simp), List.append_nil]
            rfl
        · conv => whnf
          have hk3 : k = (nthD to a).length := by
            have h3 : ltI (k : Int) ((((nthD to ((a : Int)).toNat).map (fun n => T.int .i64 n)).length : Nat) : Int) = false := by assumption
            rw [ltI_not, List.length_map, Int.toNat_natCast] at h3; omega
          refine ⟨to.length - (a + 1), by omega, a + 1, ?_, ?_, ha2, rfl⟩
          · rw [addI_i64 (by omega) (by omega), backP_succ, hk3]; rfl
          · rw [backP_succ, hk3]
            rfl
    · exact Ob.mk ⟨rfl, rfl, (List.length_map ..).symm⟩
    · refine Ob.mk fun x hx c hc => ?_
      obtain ⟨p, _, rfl⟩ := List.mem_map.1 hx
      have hc : c ∈ [T.int .i64 p.1, T.int .i64 p.2] := hc
      rcases List.mem_cons.1 hc with rfl | hc
      · exact .plain _ (.int _ _)
      · rw [List.mem_singleton] at hc
        subst hc
        exact .plain _ (.int _ _)
    · have ha2 : a = to.length := by
        have h3 : ltI (a : Int) (((to.map ilist).length : Nat) : Int) = false := by assumption
        rw [ltI_not, List.length_map] at h3; omega
      subst ha2
      exact Ob.mk rfl
end Go.Proofs.Ytgladinljapmkaa.Am

/- Dominators: the plain law (no program here). -/
namespace Go.Proofs.Ytgladinljapmkaa.Am
open Go Go.Proofs
set_option linter.unusedVariables false
section
variable {e : Nat → Nat → Prop}
theorem Dom.on {p : Nat → Prop} {m a : Nat} (h : Dom e m a) (r : RA e p a) : RA e p m := by
  refine Classical.byContradiction fun hn => h.2 ?_
  have : ∀ {b}, RA e p b → RA e (fun x => x ≠ m) b := by
    intro b r
    induction r with
    | base h0 => exact .base fun e0 => hn (e0 ▸ .base h0)
    | step r he hb ih => exact .step ih he fun e0 => hn (e0 ▸ .step r he hb)
  exact this r
theorem Dom.trans {x m a : Nat} (h1 : Dom e x m) (h2 : Dom e m a) : Dom e x a := ⟨h2.1, fun r => h1.2 (h2.on r)⟩
theorem Dom.anti {a b : Nat} (h1 : Dom e a b) (h2 : Dom e b a) : a = b := by
  refine Classical.byContradiction fun hn => ?_
  have : ∀ {x}, Rch e x → RA e (fun u => u ≠ a ∧ u ≠ b) x ∨ RA e (fun u => u ≠ a) b ∨ RA e (fun u => u ≠ b) a := by
    intro x r
    induction r with
    | base _ =>
      by_cases ha : 0 = a
      · exact .inr (.inr (ha ▸ .base fun e0 => hn (ha.symm.trans e0)))
      · by_cases hb : 0 = b
        · exact .inr (.inl (hb ▸ .base fun e0 => hn (e0.symm.trans hb)))
        · exact .inl (.base ⟨ha, hb⟩)
    | @step x y _ he _ ih =>
      rcases ih with ih | ih
      · by_cases ha : y = a
        · subst ha
          exact .inr (.inr (.step (ih.mono fun _ h => h.2) he fun e0 => hn e0))
        · by_cases hb : y = b
          · subst hb
            exact .inr (.inl (.step (ih.mono fun _ h => h.1) he fun e0 => hn e0.symm))
          · exact .inl (.step ih he ⟨ha, hb⟩)
      · exact .inr ih
  rcases this h2.1 with h | h | h
  · exact h.ok.1 rfl
  · exact h1.2 h
  · exact h2.2 h
theorem Dom.comp {a c b : Nat} (h1 : Dom e a b) (h2 : Dom e c b) : Dom e a c ∨ Dom e c a := by
  by_cases hac : a = c
  · subst hac; exact .inl (.refl h1.left)
  refine Classical.byContradiction fun hn => ?_
  have n1 : RA e (fun u => u ≠ a) c := Classical.byContradiction fun h => hn (.inl ⟨h2.left, h⟩)
  have n2 : RA e (fun u => u ≠ c) a := Classical.byContradiction fun h => hn (.inr ⟨h1.left, h⟩)
  have : ∀ {x}, Rch e x → RA e (fun u => u ≠ a) x ∨ RA e (fun u => u ≠ c) x := by
    intro x r
    induction r with
    | base _ =>
      by_cases ha : 0 = a
      · exact .inr (.base fun e0 => hac (ha.symm.trans e0))
      · exact .inl (.base ha)
    | @step x y _ he _ ih =>
      by_cases ha : y = a
      · exact .inr (ha ▸ n2)
      · by_cases hc : y = c
        · exact .inl (hc ▸ n1)
        · rcases ih with ih | ih
          · exact .inl (.step ih he ha)
          · exact .inr (.step ih he hc)
  rcases this h1.1 with h | h
  · exact h1.2 h
  · exact h2.2 h
def Idom (e : Nat → Nat → Prop) (m b : Nat) : Prop := Dom e m b ∧ m ≠ b ∧ ∀ a, Dom e a b → a ≠ b → Dom e a m
theorem Idom.one {m m' b : Nat} (h : Idom e m b) (h' : Idom e m' b) : m = m' := (h'.2.2 m h.1 h.2.1).anti (h.2.2 m' h'.1 h'.2.1)
noncomputable def domN (e : Nat → Nat → Prop) (n b : Nat) : Nat := (List.range n).countP fun a => @decide (Dom e a b) (Classical.propDecidable _)
theorem dec_iff {p : Prop} : @decide p (Classical.propDecidable _) = true ↔ p := @decide_eq_true_iff _ (Classical.propDecidable _)
theorem countP_lt2 {α : Type} {p q : α → Bool} {x : α} : ∀ {l : List α}, x ∈ l → p x = false → q x = true → (∀ y, p y = true → q y = true) → l.countP p < l.countP q
  | y :: l, hx, hp, hq, h => by
    have hle : l.countP p ≤ l.countP q := List.countP_mono_left fun y _ h1 => h y h1
    rw [List.countP_cons, List.countP_cons]
    by_cases e0 : x = y
    · subst e0
      rw [hp, hq]; simp; omega
    · have := countP_lt2 ((List.mem_cons.1 hx).resolve_left e0) hp hq h
      cases h1 : p y with
      | true => rw [h y h1]; simp; omega
      | false => cases q y <;> simp <;> omega
theorem domN_lt {n m a : Nat} (h : Dom e m a) (hn : m ≠ a) (ha : a < n) : domN e n m < domN e n a :=
  countP_lt2 (x := a) (List.mem_range.2 ha) (by
    rw [Bool.eq_false_iff]
    exact fun h1 => hn (h.anti (dec_iff.1 h1))) (dec_iff.2 (.refl h.1)) fun y hy => dec_iff.2 ((dec_iff.1 hy).trans h)
theorem domN_pos {n b : Nat} (h : Rch e b) (hb : b < n) : 0 < domN e n b := by
  unfold domN
  rw [List.countP_pos_iff]
  exact ⟨b, List.mem_range.2 hb, dec_iff.2 (.refl h)⟩
theorem Idom.most {n m b : Nat} (hm : Dom e m b) (hmb : m ≠ b) (hn : ∀ a, Rch e a → a < n) (h : ∀ a, Dom e a b → a ≠ b → domN e n a ≤ domN e n m) : Idom e m b := by
  refine ⟨hm, hmb, fun a ha hab => ?_⟩
  by_cases e0 : a = m
  · subst e0; exact .refl ha.left
  rcases ha.comp hm with h1 | h1
  · exact h1
  · have := domN_lt h1 (fun e1 => e0 e1.symm) (hn a ha.left)
    have := h a ha hab
    omega
theorem Idom.ex {n b : Nat} (hn : ∀ a, Rch e a → a < n) (hb : Rch e b) (h0 : b ≠ 0) : ∃ m, Idom e m b := by
  have key : ∀ k, (∃ m, Dom e m b ∧ m ≠ b ∧ n - domN e n m ≤ k) → ∃ m, Idom e m b := by
    intro k
    induction k with
    | zero =>
      rintro ⟨m, h1, h2, h3⟩
      refine ⟨m, .most h1 h2 hn fun a ha hab => ?_⟩
      have : domN e n a ≤ n := by
        have := List.countP_le_length (l := List.range n) (p := fun x => @decide (Dom e x a) (Classical.propDecidable _))
        rw [List.length_range] at this
        exact this
      omega
    | succ k ih =>
      rintro ⟨m, h1, h2, h3⟩
      by_cases h : ∃ a, Dom e a b ∧ a ≠ b ∧ domN e n m < domN e n a
      · obtain ⟨a, h4, h5, h6⟩ := h
        exact ih ⟨a, h4, h5, by omega⟩
      · refine ⟨m, .most h1 h2 hn fun a ha hab => ?_⟩
        exact Nat.le_of_not_lt fun h7 => h ⟨a, ha, hab, h7⟩
  exact key _ ⟨0, .zero hb, fun e0 => h0 e0.symm, Nat.le_refl _⟩
end
noncomputable def domF (to : List (List Int)) (b : Nat) : Int := @dite _ (∃ m, Idom (EdgeL to) m b) (Classical.propDecidable _) (fun h => ((Classical.choose h : Nat) : Int)) fun _ => -1
theorem domF_eq {to : List (List Int)} {m b : Nat} (h : Idom (EdgeL to) m b) : domF to b = m := by
  unfold domF
  rw [dif_pos ⟨m, h⟩]
  exact congrArg _ ((Classical.choose_spec (⟨m, h⟩ : ∃ m, Idom (EdgeL to) m b)).one h)
theorem domF_not {to : List (List Int)} {b : Nat} (h : ¬ (Rch (EdgeL to) b ∧ b ≠ 0)) : domF to b = -1 := by
  unfold domF
  rw [dif_neg]
  rintro ⟨m, h1, h2, _⟩
  refine h ⟨h1.1, fun e0 => ?_⟩
  subst e0
  exact h2 h1.one
def Forth (e : Nat → Nat → Prop) (a b : Nat) : Prop := Rch e a ∧ e a b ∧ ¬ Dom e b a
inductive TC (f : Nat → Nat → Prop) (a : Nat) : Nat → Prop
  | one {b : Nat} : f a b → TC f a b
  | step {b c : Nat} : TC f a b → f b c → TC f a c
theorem TC.trans {f : Nat → Nat → Prop} {a b c : Nat} (h1 : TC f a b) (h2 : TC f b c) : TC f a c := by
  induction h2 with
  | one h => exact .step h1 h
  | step _ h ih => exact .step ih h
theorem TC.last {f : Nat → Nat → Prop} {a c : Nat} (h : TC f a c) : ∃ b, f b c := by
  cases h with
  | one h => exact ⟨_, h⟩
  | step _ h => exact ⟨_, h⟩
def Acyc (f : Nat → Nat → Prop) : Prop := ∀ a, ¬ TC f a a
noncomputable def redB (to : List (List Int)) : Bool := @decide (Acyc (Forth (EdgeL to))) (Classical.propDecidable _)
theorem redB_iff {to : List (List Int)} : redB to = true ↔ Acyc (Forth (EdgeL to)) := by
  unfold redB
  exact dec_iff
theorem Acyc.first {f : Nat → Nat → Prop} (h : Acyc f) {n : Nat} (S : Nat → Prop) (hn : ∀ a, S a → a < n) (hp : ∀ b, S b → ∃ a, S a ∧ f a b) : ∀ b, ¬ S b := by
  let rk : Nat → Nat := fun b => (List.range n).countP fun a => @decide (TC f a b) (Classical.propDecidable _)
  have hlt : ∀ a b, S a → f a b → rk a < rk b := fun a b ha hf => by
    refine countP_lt2 (x := a) (List.mem_range.2 (hn a ha)) ?_ (dec_iff.2 (.one hf)) fun y hy => dec_iff.2 (.step (dec_iff.1 hy) hf)
    rw [Bool.eq_false_iff]
    exact fun h1 => h a (dec_iff.1 h1)
  have key : ∀ k b, rk b ≤ k → ¬ S b := by
    intro k
    induction k with
    | zero =>
      intro b hk hb
      obtain ⟨a, h1, h2⟩ := hp b hb
      have := hlt a b h1 h2
      omega
    | succ k ih =>
      intro b hk hb
      obtain ⟨a, h1, h2⟩ := hp b hb
      have := hlt a b h1 h2
      exact ih a (by omega) h1
  exact fun b => key _ b (Nat.le_refl _)
theorem Acyc.rank {f : Nat → Nat → Prop} (rk : Nat → Nat) (h : ∀ a b, f a b → rk a < rk b) : Acyc f := by
  intro a ha
  have : ∀ {b}, TC f a b → rk a < rk b := by
    intro b hb
    induction hb with
    | one h1 => exact h _ _ h1
    | step _ h1 ih => exact Nat.lt_trans ih (h _ _ h1)
  exact Nat.lt_irrefl _ (this ha)
theorem Forth.ex {e : Nat → Nat → Prop} {b : Nat} (hb : Rch e b) (h0 : b ≠ 0) : ∃ a, Forth e a b := by
  refine Classical.byContradiction fun hn => ?_
  have : ∀ {x}, Rch e x → RA e (fun u => u ≠ b) x ∨ ∃ a, Forth e a b := by
    intro x r
    induction r with
    | base _ => exact .inl (.base fun e0 => h0 e0.symm)
    | @step x y rx he _ ih =>
      rcases ih with ih | ih
      · by_cases hy : y = b
        · subst hy
          exact .inr ⟨x, rx, he, fun hd => hd.2 ih⟩
        · exact .inl (.step ih he hy)
      · exact .inr ih
  rcases this hb with h | h
  · exact h.ok rfl
  · exact hn h
theorem Forth.zero {e : Nat → Nat → Prop} {a : Nat} : ¬ Forth e a 0 := fun h => h.2.2 (.zero h.1)
theorem Forth.rch {e : Nat → Nat → Prop} {a b : Nat} (h : Forth e a b) : Rch e b := .step h.1 h.2.1 trivial
end Go.Proofs.Ytgladinljapmkaa.Am

/- Loops: dominators and back edges of graphs, by the program. -/
namespace Go.Proofs.Ytgladinljapmkaa.Am
open Go Go.Proofs
set_option maxRecDepth 10000
set_option maxHeartbeats 2000000
set_option linter.unusedVariables false
set_option linter.unusedSimpArgs false
def toL (g : Graph) : List (List Int) := (List.range g.blocks.length).map fun b => nextN g (b : Nat)
theorem toL_len {g : Graph} : (toL g).length = g.blocks.length := by unfold toL; simp
theorem toL_R {g : Graph} : nextR g g.blocks.length = (toL g).map ilist := by
  unfold nextR toL
  rw [List.map_map]; rfl
theorem toL_at {g : Graph} {b : Nat} (h : b < g.blocks.length) : nthD (toL g) b = nextN g b := by
  rw [nthD_get (by rw [toL_len]; exact h)]
  unfold toL
  simp
theorem Graph.leads.walk {g : Graph} (h : g.leads) : WalkL (toL g) where
  one := by rw [toL_len]; exact h.one
  rng := fun a ha s hs => by
    rw [toL_len] at ha ⊢
    rw [toL_at ha] at hs
    have := h.next a ha s hs
    rw [bel_iff] at this
    exact this
theorem asc_len {n : Nat} {l : List Int} (h : l.Pairwise fun x y => x < y) (hb : ∀ x ∈ l, 0 ≤ x ∧ x < n) : l.length ≤ n := by
  have h1 : (l.map Int.toNat).Nodup := by
    unfold List.Nodup
    rw [List.pairwise_map]
    refine h.imp_of_mem fun {a b} ha hb' hab => ?_
    have := hb a ha
    have := hb b hb'
    omega
  have := nodup_lt_len (n := n) h1 fun x hx => by
    obtain ⟨y, hy, rfl⟩ := List.mem_map.1 hx
    have := hb y hy
    omega
  rwa [List.length_map] at this
theorem nextN_asc {g : Graph} {b : Int} : (nextN g b).Pairwise fun x y => x < y := by
  unfold nextN
  split
  · exact srt_asc _
  · exact List.Pairwise.nil
theorem Graph.leads.small {g : Graph} (h : g.leads) : ∀ l ∈ toL g, l.length ≤ 20000 := by
  intro l hl
  obtain ⟨b, hb, rfl⟩ := List.mem_map.1 hl
  have hb := List.mem_range.1 hb
  refine Nat.le_trans (asc_len nextN_asc fun x hx => ?_) h.most
  have := h.next b hb x hx
  rw [bel_iff] at this
  exact this
theorem Graph.leads.short {g : Graph} (h : g.leads) : ∀ l ∈ toL g, l.length ≤ 2 ^ 20 := fun l hl => Nat.le_trans (h.small l hl) (by omega)
theorem Doms.eq {to : List (List Int)} {g : Nat → Int} (hD : Doms to g) {b : Nat} : (if b = 0 then -1 else g b) = domF to b := by
  obtain ⟨num, par, ov, hg, hN, hT, hU⟩ := hD.yes
  by_cases h0 : b = 0
  · rw [if_pos h0, domF_not fun h => h.2 h0]
  · rw [if_neg h0]
    by_cases hb : Rch (EdgeL to) b
    · have h1 := hT.set b hb h0
      rw [hg b hb]
      symm
      refine domF_eq ⟨(hU _ _ hb).1 (.step h0 .refl), fun e => ?_, fun a ha hab => ?_⟩
      · have := h1.2; rw [e] at this; omega
      · exact (hU _ _ h1.1).1 (((hU _ _ hb).2 ha).over hab).2
    · rw [hD.not b hb, domF_not fun h => hb h.1]
noncomputable abbrev domsR (to : List (List Int)) : List T := tellR to.length (domF to)
theorem doms_set {to : List (List Int)} {d : Nat → Int} (hd : Doms to d) : (tellR to.length d).set (0 + Int.toNat 0) (setT 1 (T.int .i64 (d (nthD (List.range to.length) (0 + Int.toNat 0)))) 0 [T.ofVal (Value.int .i64 (-1))]) = domsR to :=
  (tellR_set (x := -1) rfl).trans (tellR_congr fun j _ => hd.eq)
theorem edges27k (g : Graph) (hg : g.tiny) (hw : ∀ b ∈ g.blocks, ∀ x ∈ allN b.fin, I64 x) (hl : g.leads) {q : T → Prop} (hq : q (listsL (toL g))) : PCalls Try.prog 27 [g.t] q :=
  PCalls.mono (edgesL g hg hw) fun r h => by
    rcases h.out with ⟨_, rfl⟩ | ⟨h, _⟩
    · rw [toL_R]; exact hq
    · exact absurd hl h
theorem edges27n (g : Graph) (hg : g.tiny) (hw : ∀ b ∈ g.blocks, ∀ x ∈ allN b.fin, I64 x) (hl : ¬ g.leads) {q : T → Prop} (hq : q .nsl) : PCalls Try.prog 27 [g.t] q :=
  PCalls.mono (edgesL g hg hw) fun r h => by
    rcases h.out with ⟨h, _⟩ | ⟨_, rfl⟩
    · exact absurd h hl
    · exact hq
theorem toL_ne {g : Graph} (h : g.leads) : (toL g).map ilist ≠ [] := fun e => by
  have := congrArg List.length e
  rw [List.length_map, toL_len] at this
  have := h.one
  simp only [List.length_nil] at *; omega
theorem dominators10 (g : Graph) (hg : g.tiny) (hw : ∀ b ∈ g.blocks, ∀ x ∈ allN b.fin, I64 x) : PCalls Try.prog 10 [g.t] (fun r => Ob ((g.leads ∧ r = .own (.nst 3 1 (domsR (toL g)))) ∨ (¬ g.leads ∧ r = .own .nsl))) := by
  by_cases hl : g.leads
  · have hlen : (toL g).length ≤ 20000 := by rw [toL_len]; exact hl.most
    have h1 := hl.walk.one
    refine PCalls.of_bodyO ttOk Try.func10 rfl ?_
    repeat' ((conv => whnf); first | (with_reducible first | refine onBool_intro (fun _ => ?_) (fun _ => ?_) | refine And.intro (Ob.mk (Nat.le_of_ble_eq_true rfl)) ?_ | refine And.intro (Ob.mk rfl) ?_ | exact ⟨rfl, rfl⟩ | refine And.intro (Ob.mk (fun h => h)) ?_) | (with_reducible refine Or.inl (And.intro (Ob.mk (Flat.map ?_)) ?_); exact fun _ => rfl) | (refine Or.inl (And.intro (Ob.mk (flat_of rfl)) ?_)) | (refine Or.inl (And.intro (Ob.mk ⟨rfl, rfl, rfl, rfl⟩) ?_)) | (refine Or.inl (And.intro (Ob.mk ⟨rfl, rfl, rfl⟩) ?_)) | (refine And.intro (Ob.mk ⟨rfl, rfl⟩) ?_) | (with_reducible refine Or.inr ?_) | (refine And.intro (Ob.mk (flat_of rfl)) ?_) | (with_reducible refine And.intro (Ob.mk (Flat.map ?_)) ?_; exact fun _ => rfl) | (with_reducible first | exact Ob.mk (Flat.map fun _ => rfl) | refine And.intro ?_ ?_ | apply exG.mk | apply exGS.mk | exact Dd.nil) | (refine Dd.same _ ?_) | (refine Dd.dead _ ?_) | (with_reducible first | apply exQ.mk | apply exP.mk) | (refine EqP.mk rfl rfl) | (with_reducible apply exW.mk) | (refine EqW.mk rfl) | (with_reducible first | intro _ | refine Dn.mk ?_) | (refine exS.full (by first | rfl | (simp; done) | (simp; omega)) ?_) | (refine And.intro (Ob.mk ⟨rfl, rfl, by first | rfl | (simp; done) | (simp; omega)⟩) ?_) | (with_reducible refine exE.mapD ?_) | (refine exL.int ?_) | (with_reducible first | refine Up0.mk rfl ?_ | refine Up0i.mk rfl ?_ | refine Up1.mk rfl ?_ | refine Up1i.mk rfl ?_ | refine Up2.mk rfl ?_ | refine Up2i.mk rfl ?_) | (refine Col.mk rfl rfl rfl ?_) | (refine Coli.mk rfl rfl rfl rfl ?_) | (refine edges27k g hg hw hl ?_) | (refine dominators38k (toL g) hl.walk hlen hl.short ?_))
    all_goals (try (refine Ob.mk ?_; first | assumption | exact ⟨rfl, rfl⟩ | exact ⟨rfl, rfl, rfl⟩ | (refine ⟨rfl, rfl, ?_⟩; simp only [List.length_map, List.length_take, List.length_append, els_len, List.length_replicate]; omega) | (intro h; exact h) | (intro h; rw [h]; rfl) | (intro h; simp_all; done) | (refine bytes_le (n := 1048577) ?_ rfl; simp only [ltI_iff, ltI_not, leI_iff, leI_not, eqI_iff, eqI_not, List.length_map, bif_and, bif_or, Bool.and_eq_true, Bool.and_eq_false_iff, Bool.or_eq_true, Bool.or_eq_false_iff, Bool.not_eq_true', Bool.not_eq_false', Int.toNat_natCast, beq_iff_eq, beq_eq_false_iff_ne, decide_eq_true_eq, decide_eq_false_iff_not, bel_iff, bel_not, wthn_iff, wthn_not, els_len, mixL_len, Nat.zero_add, List.length_set, List.length_take] at *; omega) | (simp only [ltI_iff, ltI_not, leI_iff, leI_not, eqI_iff, eqI_not, List.length_map, bif_and, bif_or, Bool.and_eq_true, Bool.and_eq_false_iff, Bool.or_eq_true, Bool.or_eq_false_iff, Bool.not_eq_true', Bool.not_eq_false', Int.toNat_natCast, beq_iff_eq, beq_eq_false_iff_ne, decide_eq_true_eq, decide_eq_false_iff_not, bel_iff, bel_not, wthn_iff, wthn_not, els_len, mixL_len, Nat.zero_add, List.length_set, List.length_take, Int.ofNat_eq_natCast] at *; omega)))
    all_goals (try (exfalso; rename_i h3 h4; rw [h3 (toL_ne hl)] at h4; cases h4; done))
    · exact Ob.mk (Int.le_refl _)
    · exact Ob.mk (by simp; omega)
    · exact Ob.mk (by simp; omega)
    · exact Ob.mk ⟨rfl, rfl, (List.length_set ..).symm⟩
    · rename_i d hd
      refine Ob.mk ?_
      rw [doms_set hd]; exact clean_tellR
    · rename_i d hd
      refine Ob.mk (.inl ⟨hl, ?_⟩)
      rw [doms_set hd]
  · refine PCalls.of_bodyO ttOk Try.func10 rfl ?_
    repeat' ((conv => whnf); first | (with_reducible first | refine onBool_intro (fun _ => ?_) (fun _ => ?_) | refine And.intro (Ob.mk (Nat.le_of_ble_eq_true rfl)) ?_ | refine And.intro (Ob.mk rfl) ?_ | exact ⟨rfl, rfl⟩ | refine And.intro (Ob.mk (fun h => h)) ?_) | (with_reducible refine Or.inl (And.intro (Ob.mk (Flat.map ?_)) ?_); exact fun _ => rfl) | (refine Or.inl (And.intro (Ob.mk (flat_of rfl)) ?_)) | (refine Or.inl (And.intro (Ob.mk ⟨rfl, rfl, rfl, rfl⟩) ?_)) | (refine Or.inl (And.intro (Ob.mk ⟨rfl, rfl, rfl⟩) ?_)) | (refine And.intro (Ob.mk ⟨rfl, rfl⟩) ?_) | (with_reducible refine Or.inr ?_) | (refine And.intro (Ob.mk (flat_of rfl)) ?_) | (with_reducible refine And.intro (Ob.mk (Flat.map ?_)) ?_; exact fun _ => rfl) | (with_reducible first | exact Ob.mk (Flat.map fun _ => rfl) | refine And.intro ?_ ?_ | apply exG.mk | apply exGS.mk | exact Dd.nil) | (refine Dd.same _ ?_) | (refine Dd.dead _ ?_) | (with_reducible first | apply exQ.mk | apply exP.mk) | (refine EqP.mk rfl rfl) | (with_reducible apply exW.mk) | (refine EqW.mk rfl) | (with_reducible first | intro _ | refine Dn.mk ?_) | (refine exS.full (by first | rfl | (simp; done) | (simp; omega)) ?_) | (refine And.intro (Ob.mk ⟨rfl, rfl, by first | rfl | (simp; done) | (simp; omega)⟩) ?_) | (with_reducible refine exE.mapD ?_) | (refine exL.int ?_) | (with_reducible first | refine Up0.mk rfl ?_ | refine Up0i.mk rfl ?_ | refine Up1.mk rfl ?_ | refine Up1i.mk rfl ?_ | refine Up2.mk rfl ?_ | refine Up2i.mk rfl ?_) | (refine Col.mk rfl rfl rfl ?_) | (refine Coli.mk rfl rfl rfl rfl ?_) | (refine edges27n g hg hw hl ?_))
    exact Ob.mk (.inr ⟨hl, rfl⟩)
theorem back29k (to : List (List Int)) (hw : WalkL to) (hl : to.length ≤ 20000) (hr : ∀ l ∈ to, l.length ≤ 2 ^ 20) {q : T → Prop} (hq : q (.own (.nst 35 2 (pairsR (backL to))))) : PCalls Try.prog 29 [listsL to] q :=
  PCalls.mono (back29 to hw hl hr) fun r h => by
    rw [h.out]; exact hq
theorem clean_pairsR {l : List (Int × Int)} : ∀ x ∈ pairsR l, ∀ c ∈ x.cells, Clean c := fun x hx c hc => by
  obtain ⟨p, _, rfl⟩ := List.mem_map.1 hx
  have hc : c ∈ [T.int .i64 p.1, T.int .i64 p.2] := hc
  rcases List.mem_cons.1 hc with rfl | hc
  · exact .plain _ (.int _ _)
  · rw [List.mem_singleton] at hc
    subst hc
    exact .plain _ (.int _ _)
theorem back11 (g : Graph) (hg : g.tiny) (hw : ∀ b ∈ g.blocks, ∀ x ∈ allN b.fin, I64 x) : PCalls Try.prog 11 [g.t] (fun r => Ob ((g.leads ∧ r = .own (.nst 35 2 (pairsR (backL (toL g))))) ∨ (¬ g.leads ∧ r = .own .nsl))) := by
  by_cases hl : g.leads
  · have hlen : (toL g).length ≤ 20000 := by rw [toL_len]; exact hl.most
    refine PCalls.of_bodyO ttOk Try.func11 rfl ?_
    repeat' ((conv => whnf); first | (with_reducible first | refine onBool_intro (fun _ => ?_) (fun _ => ?_) | refine And.intro (Ob.mk (Nat.le_of_ble_eq_true rfl)) ?_ | refine And.intro (Ob.mk rfl) ?_ | exact ⟨rfl, rfl⟩ | refine And.intro (Ob.mk (fun h => h)) ?_) | (with_reducible refine Or.inl (And.intro (Ob.mk (Flat.map ?_)) ?_); exact fun _ => rfl) | (refine Or.inl (And.intro (Ob.mk (flat_of rfl)) ?_)) | (refine Or.inl (And.intro (Ob.mk ⟨rfl, rfl, rfl, rfl⟩) ?_)) | (refine Or.inl (And.intro (Ob.mk ⟨rfl, rfl, rfl⟩) ?_)) | (refine And.intro (Ob.mk ⟨rfl, rfl⟩) ?_) | (with_reducible refine Or.inr ?_) | (refine And.intro (Ob.mk (flat_of rfl)) ?_) | (with_reducible refine And.intro (Ob.mk (Flat.map ?_)) ?_; exact fun _ => rfl) | (with_reducible first | exact Ob.mk (Flat.map fun _ => rfl) | refine And.intro ?_ ?_ | apply exG.mk | apply exGS.mk | exact Dd.nil) | (refine Dd.same _ ?_) | (refine Dd.dead _ ?_) | (with_reducible first | apply exQ.mk | apply exP.mk) | (refine EqP.mk rfl rfl) | (with_reducible apply exW.mk) | (refine EqW.mk rfl) | (with_reducible first | intro _ | refine Dn.mk ?_) | (refine exS.full (by first | rfl | (simp; done) | (simp; omega)) ?_) | (refine And.intro (Ob.mk ⟨rfl, rfl, by first | rfl | (simp; done) | (simp; omega)⟩) ?_) | (with_reducible refine exE.mapD ?_) | (refine exL.int ?_) | (with_reducible first | refine Up0.mk rfl ?_ | refine Up0i.mk rfl ?_ | refine Up1.mk rfl ?_ | refine Up1i.mk rfl ?_ | refine Up2.mk rfl ?_ | refine Up2i.mk rfl ?_) | (refine Col.mk rfl rfl rfl ?_) | (refine Coli.mk rfl rfl rfl rfl ?_) | (refine edges27k g hg hw hl ?_) | (refine back29k (toL g) hl.walk hlen hl.short ?_))
    all_goals (try (refine Ob.mk ?_; first | assumption | exact ⟨rfl, rfl⟩ | exact ⟨rfl, rfl, rfl⟩ | (refine ⟨rfl, rfl, ?_⟩; simp only [List.length_map, List.length_take, List.length_append, els_len, List.length_replicate]; omega) | (intro h; exact h) | (intro h; rw [h]; rfl) | (intro h; simp_all; done) | (refine bytes_le (n := 1048577) ?_ rfl; simp only [ltI_iff, ltI_not, leI_iff, leI_not, eqI_iff, eqI_not, List.length_map, bif_and, bif_or, Bool.and_eq_true, Bool.and_eq_false_iff, Bool.or_eq_true, Bool.or_eq_false_iff, Bool.not_eq_true', Bool.not_eq_false', Int.toNat_natCast, beq_iff_eq, beq_eq_false_iff_ne, decide_eq_true_eq, decide_eq_false_iff_not, bel_iff, bel_not, wthn_iff, wthn_not, els_len, mixL_len, Nat.zero_add, List.length_set, List.length_take] at *; omega) | (simp only [ltI_iff, ltI_not, leI_iff, leI_not, eqI_iff, eqI_not, List.length_map, bif_and, bif_or, Bool.and_eq_true, Bool.and_eq_false_iff, Bool.or_eq_true, Bool.or_eq_false_iff, Bool.not_eq_true', Bool.not_eq_false', Int.toNat_natCast, beq_iff_eq, beq_eq_false_iff_ne, decide_eq_true_eq, decide_eq_false_iff_not, bel_iff, bel_not, wthn_iff, wthn_not, els_len, mixL_len, Nat.zero_add, List.length_set, List.length_take, Int.ofNat_eq_natCast] at *; omega)))
    all_goals (try (exfalso; rename_i h3 h4; rw [h3 (toL_ne hl)] at h4; cases h4; done))
    · exact Ob.mk clean_pairsR
    · exact Ob.mk (.inl ⟨hl, rfl⟩)
  · refine PCalls.of_bodyO ttOk Try.func11 rfl ?_
    repeat' ((conv => whnf); first | (with_reducible first | refine onBool_intro (fun _ => ?_) (fun _ => ?_) | refine And.intro (Ob.mk (Nat.le_of_ble_eq_true rfl)) ?_ | refine And.intro (Ob.mk rfl) ?_ | exact ⟨rfl, rfl⟩ | refine And.intro (Ob.mk (fun h => h)) ?_) | (with_reducible refine Or.inl (And.intro (Ob.mk (Flat.map ?_)) ?_); exact fun _ => rfl) | (refine Or.inl (And.intro (Ob.mk (flat_of rfl)) ?_)) | (refine Or.inl (And.intro (Ob.mk ⟨rfl, rfl, rfl, rfl⟩) ?_)) | (refine Or.inl (And.intro (Ob.mk ⟨rfl, rfl, rfl⟩) ?_)) | (refine And.intro (Ob.mk ⟨rfl, rfl⟩) ?_) | (with_reducible refine Or.inr ?_) | (refine And.intro (Ob.mk (flat_of rfl)) ?_) | (with_reducible refine And.intro (Ob.mk (Flat.map ?_)) ?_; exact fun _ => rfl) | (with_reducible first | exact Ob.mk (Flat.map fun _ => rfl) | refine And.intro ?_ ?_ | apply exG.mk | apply exGS.mk | exact Dd.nil) | (refine Dd.same _ ?_) | (refine Dd.dead _ ?_) | (with_reducible first | apply exQ.mk | apply exP.mk) | (refine EqP.mk rfl rfl) | (with_reducible apply exW.mk) | (refine EqW.mk rfl) | (with_reducible first | intro _ | refine Dn.mk ?_) | (refine exS.full (by first | rfl | (simp; done) | (simp; omega)) ?_) | (refine And.intro (Ob.mk ⟨rfl, rfl, by first | rfl | (simp; done) | (simp; omega)⟩) ?_) | (with_reducible refine exE.mapD ?_) | (refine exL.int ?_) | (with_reducible first | refine Up0.mk rfl ?_ | refine Up0i.mk rfl ?_ | refine Up1.mk rfl ?_ | refine Up1i.mk rfl ?_ | refine Up2.mk rfl ?_ | refine Up2i.mk rfl ?_) | (refine Col.mk rfl rfl rfl ?_) | (refine Coli.mk rfl rfl rfl rfl ?_) | (refine edges27n g hg hw hl ?_))
    exact Ob.mk (.inr ⟨hl, rfl⟩)
end Go.Proofs.Ytgladinljapmkaa.Am
