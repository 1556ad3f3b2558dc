/- Loops: the tree of those around a block; LoopsTree. -/
import Derived.Test.YtgladinljapmkaaVS
/- Loops: dominators and back edges, by the document's answer. -/
namespace Go.Proofs.Ytgladinljapmkaa.Am
open Go Go.Proofs
set_option maxRecDepth 10000
set_option maxHeartbeats 2000000
set_option linter.unusedVariables false
set_option linter.unusedSimpArgs false
theorem edges20y (g : Graph) (hg : g.tiny) (hl : g.leads) {q : T → Prop} (hq : q (.tup [listsL (toL g), .bool true])) : PCalls Try.prog 20 [g.t] q :=
  PCalls.mono (edges36 g hg) fun r h => by
    rcases h.out with ⟨_, rfl⟩ | ⟨h, _⟩
    · rw [toL_R]; exact hq
    · exact absurd hl h
def BestI (to : List (List Int)) (b i : Nat) (best most : Int) : Prop :=
  (best = -1 ∧ most = 0 ∧ ∀ a, a < i → a ≠ b → ¬ Dom (EdgeL to) a b) ∨
  ∃ m : Nat, best = m ∧ m < i ∧ m ≠ b ∧ Dom (EdgeL to) m b ∧ most = (domN (EdgeL to) to.length m : Nat) ∧ ∀ a, a < i → a ≠ b → Dom (EdgeL to) a b → domN (EdgeL to) to.length a ≤ domN (EdgeL to) to.length m
variable {to : List (List Int)} {b i : Nat} {best most : Int}
theorem BestI.zero : BestI to b 0 (-1) 0 := .inl ⟨rfl, rfl, fun a ha => absurd ha (Nat.not_lt_zero _)⟩
theorem BestI.skip (h : BestI to b i best most) (hs : i = b ∨ ¬ Dom (EdgeL to) i b) : BestI to b (i + 1) best most := by
  have lt : ∀ a, a < i + 1 → a ≠ b → Dom (EdgeL to) a b → a < i := fun a ha hab hd => by
    rcases Nat.lt_or_ge a i with h1 | h1
    · exact h1
    · have : a = i := by omega
      subst this
      exact (hs.elim (fun e => absurd e hab) fun h => absurd hd h)
  rcases h with ⟨h1, h2, h3⟩ | ⟨m, h1, h2, h3, h4, h5, h6⟩
  · exact .inl ⟨h1, h2, fun a ha hab hd => h3 a (lt a ha hab hd) hab hd⟩
  · exact .inr ⟨m, h1, by omega, h3, h4, h5, fun a ha hab hd => h6 a (lt a ha hab hd) hab hd⟩
theorem BestI.take (h : BestI to b i best most) (hb : i ≠ b) (hd : Dom (EdgeL to) i b) (hlt : most < (domN (EdgeL to) to.length i : Nat)) : BestI to b (i + 1) (i : Nat) (domN (EdgeL to) to.length i : Nat) := by
  refine .inr ⟨i, rfl, Nat.lt_succ_self _, hb, hd, rfl, fun a ha hab hda => ?_⟩
  rcases Nat.lt_or_ge a i with h1 | h1
  · rcases h with ⟨h2, h3, h4⟩ | ⟨m, h2, h3, h4, h5, h6, h7⟩
    · exact absurd hda (h4 a h1 hab)
    · have := h7 a h1 hab hda; omega
  · rw [show a = i by omega]; exact Nat.le_refl _
theorem BestI.keep (hw : WalkL to) (h : BestI to b i best most) (hb : i ≠ b) (hd : Dom (EdgeL to) i b) (hlt : (domN (EdgeL to) to.length i : Nat) ≤ most) : BestI to b (i + 1) best most := by
  rcases h with ⟨h2, h3, h4⟩ | ⟨m, h2, h3, h4, h5, h6, h7⟩
  · have := domN_pos hd.left (hw.rch hd.left)
    omega
  · refine .inr ⟨m, h2, by omega, h4, h5, h6, fun a ha hab hda => ?_⟩
    rcases Nat.lt_or_ge a i with h1 | h1
    · exact h7 a h1 hab hda
    · rw [show a = i by omega]; omega
theorem BestI.last (hw : WalkL to) (h : BestI to b to.length best most) : best = domF to b := by
  rcases h with ⟨h2, h3, h4⟩ | ⟨m, h2, h3, h4, h5, h6, h7⟩
  · rw [h2, domF_not]
    rintro ⟨h5, h6⟩
    exact h4 0 hw.one (fun e => h6 e.symm) (.zero h5)
  · rw [h2]
    exact (domF_eq (.most h5 h4 (fun a ha => hw.rch ha) fun a ha hab => h7 a (hw.rch ha.left) hab ha)).symm
end Go.Proofs.Ytgladinljapmkaa.Am

/- Loops: back edges, by the document's answer. -/
namespace Go.Proofs.Ytgladinljapmkaa.Am
open Go Go.Proofs
set_option maxRecDepth 10000
set_option maxHeartbeats 2000000
set_option linter.unusedVariables false
set_option linter.unusedSimpArgs false
theorem flatA2 {x y : Int} : FlatA [.int .i64 x, .int .i64 y] := fun z hz => by
  simp at hz
  rcases hz with rfl | rfl <;> rfl
end Go.Proofs.Ytgladinljapmkaa.Am

/- Loops: is a graph reducible? by the document's answer. -/
namespace Go.Proofs.Ytgladinljapmkaa.Am
open Go Go.Proofs
set_option maxRecDepth 10000
set_option maxHeartbeats 2000000
set_option linter.unusedVariables false
set_option linter.unusedSimpArgs false
noncomputable def fL (to : List (List Int)) (a : Nat) : List Int := (nthD to a).filter fun c => !domB to c.toNat a
noncomputable def fLL (to : List (List Int)) : List (List Int) := (List.range to.length).map (fL to)
variable {to : List (List Int)}
theorem fLL_len : (fLL to).length = to.length := by unfold fLL; simp
theorem fLL_at {a : Nat} (h : a < to.length) : nthD (fLL to) a = fL to a := by
  rw [nthD_get (by rw [fLL_len]; exact h)]
  unfold fLL
  simp
theorem fL_mem (hw : WalkL to) {a : Nat} (ha : Rch (EdgeL to) a) {b : Nat} : (b : Int) ∈ fL to a ↔ Forth (EdgeL to) a b := by
  unfold fL
  rw [List.mem_filter, Int.toNat_natCast]
  constructor
  · rintro ⟨h1, h2⟩
    refine ⟨ha, ⟨hw.rch ha, h1⟩, fun hd => ?_⟩
    rw [domB_iff.2 hd] at h2; cases h2
  · rintro ⟨_, h1, h2⟩
    refine ⟨h1.2, ?_⟩
    cases h : domB to b a with
    | true => exact absurd (domB_iff.1 h) h2
    | false => rfl
theorem fLL_edge (hw : WalkL to) {a b : Nat} (ha : Rch (EdgeL to) a) : EdgeL (fLL to) a b ↔ Forth (EdgeL to) a b := by
  unfold EdgeL
  rw [fLL_len]
  have h := hw.rch ha
  rw [fLL_at h, fL_mem hw ha]
  exact ⟨fun h => h.2, fun h2 => ⟨h, h2⟩⟩
theorem TC.head {f : Nat → Nat → Prop} {a b : Nat} (h : TC f a b) : ∃ c, f a c ∧ (c = b ∨ TC f c b) := by
  induction h with
  | one h => exact ⟨_, h, .inl rfl⟩
  | step _ h ih =>
    obtain ⟨c, h1, h2⟩ := ih
    rcases h2 with rfl | h2
    · exact ⟨c, h1, .inr (.one h)⟩
    · exact ⟨c, h1, .inr (.step h2 h)⟩
theorem ring_iff (hw : WalkL to) {a c : Nat} (hf : Forth (EdgeL to) a c) : wayF (fLL to) c (-1) a = true ↔ (c = a ∨ TC (Forth (EdgeL to)) c a) := by
  rw [wayF_iff]
  constructor
  · intro h
    have : ∀ {b}, RF (EdgeL (fLL to)) (fun x => (x : Int) ≠ -1) c b → Rch (EdgeL to) b ∧ (c = b ∨ TC (Forth (EdgeL to)) c b) := by
      intro b h
      induction h with
      | base _ => exact ⟨hf.rch, .inl rfl⟩
      | step _ he _ ih =>
        have h1 := (fLL_edge hw ih.1).1 he
        refine ⟨h1.rch, .inr ?_⟩
        rcases ih.2 with rfl | h2
        · exact .one h1
        · exact .step h2 h1
    exact (this h).2
  · rintro (rfl | h)
    · exact .base (by omega)
    · have : ∀ {b}, TC (Forth (EdgeL to)) c b → RF (EdgeL (fLL to)) (fun x => (x : Int) ≠ -1) c b := by
        intro b h
        induction h with
        | one h1 => exact .step (.base (by omega)) ((fLL_edge hw h1.1).2 h1) (by omega)
        | step _ h1 ih => exact .step ih ((fLL_edge hw h1.1).2 h1) (by omega)
      exact this h
def NoR (to : List (List Int)) (i k : Nat) : Prop := (∀ a, a < i → Rch (EdgeL to) a → ∀ c ∈ fL to a, wayF (fLL to) c.toNat (-1) a = false) ∧ (Rch (EdgeL to) i → ∀ c ∈ (fL to i).take k, wayF (fLL to) c.toNat (-1) i = false)
theorem NoR.last (hw : WalkL to) (h : NoR to to.length 0) : redB to = true := by
  rw [redB_iff]
  intro a ha
  obtain ⟨c, h1, h2⟩ := ha.head
  have h3 := h.1 a (hw.rch h1.1) h1.1 (c : Nat) ((fL_mem hw h1.1).2 h1)
  rw [Int.toNat_natCast, (ring_iff hw h1).2 h2] at h3
  cases h3
theorem NoR.not (hw : WalkL to) {a : Nat} (ha : Rch (EdgeL to) a) {c : Int} (hc : c ∈ fL to a) (h : wayF (fLL to) c.toNat (-1) a = true) : redB to = false := by
  rw [Bool.eq_false_iff]
  intro hr
  have hal := hw.rch ha
  have hcr := hw.rng a hal c (List.mem_filter.1 hc).1
  have ec : ((c.toNat : Nat) : Int) = c := Int.toNat_of_nonneg hcr.1
  have hf : Forth (EdgeL to) a c.toNat := (fL_mem hw ha).1 (by rw [ec]; exact hc)
  rw [redB_iff] at hr
  rcases (ring_iff hw hf).1 h with e | h1
  · rw [e] at hf
    exact hr a (.one hf)
  · exact hr a ((TC.one hf).trans h1)
end Go.Proofs.Ytgladinljapmkaa.Am

/- Loops: the law's own answers; LoopsTells. -/
namespace Go.Proofs.Ytgladinljapmkaa.Am
open Go Go.Proofs
set_option maxRecDepth 10000
set_option maxHeartbeats 2000000
set_option linter.unusedVariables false
set_option linter.unusedSimpArgs false
def cellE (l : List Int) : T := match l with
  | [] => .esl
  | x :: l => .nst 3 1 ((x :: l).map fun n => .int .i64 n)
theorem cellE_le {l : List Int} : LeL (cellE l).cells (ilist l).cells := by
  cases l with
  | nil => exact .cons (.esl 1) .nil
  | cons x l => exact .cons (nst_le _ _ _) .nil
theorem cellE_all {to : List (List Int)} : Le (.sl 1 (to.map cellE)) (listsL to) := Le.slmap (f := cellE) (g := ilist) (fun l => cellE_le) fun _ => rfl
theorem leadA {q : T → Prop} (hq : q (leadG gA).t) : PCalls Try.prog 31 [.sl 1 [.nst 3 1 [.int .i64 1], .nst 3 1 [.int .i64 2, .int .i64 3], .nst 3 1 [.int .i64 1], .esl]] q :=
  PCalls.argsL (.cons (cellE_all (to := gA)) .nil) (PCalls.mono (lead31 gA (by simp) gA_len) fun _ h => h ▸ hq)
theorem leadB' {q : T → Prop} (hq : q (leadG gB).t) : PCalls Try.prog 31 [.sl 1 [.nst 3 1 [.int .i64 1, .int .i64 2], .nst 3 1 [.int .i64 2], .nst 3 1 [.int .i64 1]]] q :=
  PCalls.argsL (.cons (cellE_all (to := gB)) .nil) (PCalls.mono (lead31 gB (by simp) gB_len) fun _ h => h ▸ hq)
theorem gA_ok : (leadG gA).tiny ∧ (∀ b ∈ (leadG gA).blocks, ∀ x ∈ allN b.fin, I64 x) ∧ (leadG gA).leads :=
  ⟨lead_tiny (by simp) gA_len, lead_wide fun l hl x hx => i64_small (gA_rng l hl x hx).1 (by have := (gA_rng l hl x hx).2; simp at this; omega), lead_leads (by simp) (by simp) gA_rng⟩
theorem gB_ok : (leadG gB).tiny ∧ (∀ b ∈ (leadG gB).blocks, ∀ x ∈ allN b.fin, I64 x) ∧ (leadG gB).leads :=
  ⟨lead_tiny (by simp) gB_len, lead_wide fun l hl x hx => i64_small (gB_rng l hl x hx).1 (by have := (gB_rng l hl x hx).2; simp at this; omega), lead_leads (by simp) (by simp) gB_rng⟩
theorem domA {q : T → Prop} (hq : q (.own (.nst 3 1 [.int .i64 (-1), .int .i64 0, .int .i64 1, .int .i64 1]))) : PCalls Try.prog 10 [(leadG gA).t] q :=
  PCalls.mono (dominators10 _ gA_ok.1 gA_ok.2.1) fun r h => by
    rcases h.out with ⟨_, rfl⟩ | ⟨h, _⟩
    · rw [gA_L, gA_doms]; exact hq
    · exact absurd gA_ok.2.2 h
theorem backA {q : T → Prop} (hq : q (.own (.nst 35 2 [.arr [.int .i64 2, .int .i64 1]]))) : PCalls Try.prog 11 [(leadG gA).t] q :=
  PCalls.mono (back11 _ gA_ok.1 gA_ok.2.1) fun r h => by
    rcases h.out with ⟨_, rfl⟩ | ⟨h, _⟩
    · rw [gA_L, gA_back]; exact hq
    · exact absurd gA_ok.2.2 h
theorem redA {q : T → Prop} (hq : q (.bool true)) : PCalls Try.prog 17 [(leadG gA).t] q :=
  PCalls.mono (reducible17 _ gA_ok.1 gA_ok.2.1) fun r h => by
    rcases h.out with ⟨_, rfl⟩ | ⟨h, _⟩
    · rw [gA_L, gA_red]; exact hq
    · exact absurd gA_ok.2.2 h
theorem redB' {q : T → Prop} (hq : q (.bool false)) : PCalls Try.prog 17 [(leadG gB).t] q :=
  PCalls.mono (reducible17 _ gB_ok.1 gB_ok.2.1) fun r h => by
    rcases h.out with ⟨_, rfl⟩ | ⟨h, _⟩
    · rw [gB_L, gB_red]; exact hq
    · exact absurd gB_ok.2.2 h
theorem sameA {q : T → Prop} (hq : q (.bool true)) : PCalls Try.prog 15 [.sl 1 [.int .i64 (-1), .int .i64 0, .int .i64 1, .int .i64 1], .sl 1 [.int .i64 (-1), .int .i64 0, .int .i64 1, .int .i64 1]] q :=
  PCalls.mono (same15 [-1, 0, 1, 1] [-1, 0, 1, 1]) fun _ h => h ▸ hq
theorem sameEA {q : T → Prop} (hq : q (.bool true)) : PCalls Try.prog 16 [.sl 2 [.arr [.int .i64 2, .int .i64 1]], .sl 2 [.arr [.int .i64 2, .int .i64 1]]] q :=
  PCalls.mono (sameEdges16 [(2, 1)] [(2, 1)]) fun _ h => h ▸ hq
theorem live14 : PCalls Try.prog 14 [] (fun r => r = .bool true) := by
  refine PCalls.of_body ttOk Try.func14 rfl ?_
  repeat' ((conv => whnf); first | (with_reducible first | refine onBool_intro (fun _ => ?_) (fun _ => ?_) | refine And.intro (Ob.mk (Nat.le_of_ble_eq_true rfl)) ?_ | refine And.intro (Ob.mk rfl) ?_ | exact ⟨rfl, rfl⟩ | refine And.intro (Ob.mk (fun h => h)) ?_) | (with_reducible refine Or.inl (And.intro (Ob.mk (Flat.map ?_)) ?_); exact fun _ => rfl) | (refine Or.inl (And.intro (Ob.mk (flat_of rfl)) ?_)) | (refine Or.inl (And.intro (Ob.mk ⟨rfl, rfl, rfl, rfl⟩) ?_)) | (refine Or.inl (And.intro (Ob.mk ⟨rfl, rfl, rfl⟩) ?_)) | (refine And.intro (Ob.mk ⟨rfl, rfl⟩) ?_) | (with_reducible refine Or.inr ?_) | (refine And.intro (Ob.mk (flat_of rfl)) ?_) | (with_reducible refine And.intro (Ob.mk (Flat.map ?_)) ?_; exact fun _ => rfl) | (with_reducible first | exact Ob.mk (Flat.map fun _ => rfl) | refine And.intro ?_ ?_ | apply exG.mk | apply exGS.mk | exact Dd.nil) | (refine Dd.same _ ?_) | (refine Dd.dead _ ?_) | (with_reducible first | apply exQ.mk | apply exP.mk) | (refine EqP.mk rfl rfl) | (with_reducible apply exW.mk) | (refine EqW.mk rfl) | (with_reducible first | intro _ | refine Dn.mk ?_) | (refine exS.full (by first | rfl | (simp; done) | (simp; omega)) ?_) | (refine And.intro (Ob.mk ⟨rfl, rfl, by first | rfl | (simp; done) | (simp; omega)⟩) ?_) | (with_reducible refine exE.mapD ?_) | (refine exL.int ?_) | (with_reducible first | refine Up0.mk rfl ?_ | refine Up0i.mk rfl ?_ | refine Up1.mk rfl ?_ | refine Up1i.mk rfl ?_ | refine Up2.mk rfl ?_ | refine Up2i.mk rfl ?_) | (refine Col.mk rfl rfl rfl ?_) | (refine Coli.mk rfl rfl rfl rfl ?_) | (refine leadA ?_) | (refine leadB' ?_) | (refine domA ?_) | (refine sameA ?_) | (refine backA ?_) | (refine sameEA ?_) | (refine redA ?_) | (refine redB' ?_))
  all_goals (try (refine Ob.mk ?_; first | assumption | exact ⟨rfl, rfl⟩ | exact ⟨rfl, rfl, rfl⟩ | (refine ⟨rfl, rfl, ?_⟩; simp only [List.length_map, List.length_take, List.length_append, els_len, List.length_replicate]; omega) | (intro h; exact h) | (intro h; rw [h]; rfl) | (intro h; simp_all; done) | (refine bytes_le (n := 1048577) ?_ rfl; simp only [ltI_iff, ltI_not, leI_iff, leI_not, eqI_iff, eqI_not, List.length_map, bif_and, bif_or, Bool.and_eq_true, Bool.and_eq_false_iff, Bool.or_eq_true, Bool.or_eq_false_iff, Bool.not_eq_true', Bool.not_eq_false', Int.toNat_natCast, beq_iff_eq, beq_eq_false_iff_ne, decide_eq_true_eq, decide_eq_false_iff_not, bel_iff, bel_not, wthn_iff, wthn_not, els_len, mixL_len, Nat.zero_add, List.length_set, List.length_take] at *; omega) | (simp only [ltI_iff, ltI_not, leI_iff, leI_not, eqI_iff, eqI_not, List.length_map, bif_and, bif_or, Bool.and_eq_true, Bool.and_eq_false_iff, Bool.or_eq_true, Bool.or_eq_false_iff, Bool.not_eq_true', Bool.not_eq_false', Int.toNat_natCast, beq_iff_eq, beq_eq_false_iff_ne, decide_eq_true_eq, decide_eq_false_iff_not, bel_iff, bel_not, wthn_iff, wthn_not, els_len, mixL_len, Nat.zero_add, List.length_set, List.length_take, Int.ofNat_eq_natCast] at *; omega)))
  all_goals (try (exfalso; rename_i h; simp at h; done))
  · exact Ob.mk flatA2
  · rfl
/-! LoopsTells -/
theorem dominators10k (g : Graph) (hg : g.tiny) (hw : ∀ b ∈ g.blocks, ∀ x ∈ allN b.fin, I64 x) (hl : g.leads) {q : T → Prop} (hq : q (.own (.nst 3 1 (domsR (toL g))))) : PCalls Try.prog 10 [g.t] q :=
  PCalls.mono (dominators10 g hg hw) fun r h => by
    rcases h.out with ⟨_, rfl⟩ | ⟨h, _⟩
    · exact hq
    · exact absurd hl h
end Go.Proofs.Ytgladinljapmkaa.Am

/- Loops: graphs that walk, made of any lists. -/
namespace Go.Proofs.Ytgladinljapmkaa.Am
open Go Go.Proofs
set_option maxRecDepth 10000
set_option maxHeartbeats 2000000
set_option linter.unusedVariables false
set_option linter.unusedSimpArgs false
def pickN (c n : Int) : Int := (if c < 0 then -(c + 1) else c) % n
theorem pickN_rng {c n : Int} (h : 0 < n) : 0 ≤ pickN c n ∧ pickN c n < n := ⟨Int.emod_nonneg _ (by omega), Int.emod_lt_of_pos _ h⟩
theorem i64_rng {x : Int} (h : I64 x) : -9223372036854775808 ≤ x ∧ x ≤ 9223372036854775807 := by
  unfold I64 Lit.wf at h
  simp [IntKind.min, IntKind.max, IntKind.signed, IntKind.bits] at h
  omega
theorem pick22 (c n : Int) (hc : I64 c) (hn : 0 < n) : PCalls Try.prog 22 [.int .i64 c, .int .i64 n] (fun r => r = .int .i64 (pickN c n)) := by
  have := i64_rng hc
  refine PCalls.of_body ttOk Try.func22 rfl ?_
  repeat' ((conv => whnf); first | (with_reducible first | refine onBool_intro (fun _ => ?_) (fun _ => ?_) | refine And.intro (Ob.mk (Nat.le_of_ble_eq_true rfl)) ?_ | refine And.intro (Ob.mk rfl) ?_ | exact ⟨rfl, rfl⟩ | refine And.intro (Ob.mk (fun h => h)) ?_) | (with_reducible refine Or.inl (And.intro (Ob.mk (Flat.map ?_)) ?_); exact fun _ => rfl) | (refine Or.inl (And.intro (Ob.mk (flat_of rfl)) ?_)) | (refine Or.inl (And.intro (Ob.mk ⟨rfl, rfl, rfl, rfl⟩) ?_)) | (refine Or.inl (And.intro (Ob.mk ⟨rfl, rfl, rfl⟩) ?_)) | (refine And.intro (Ob.mk ⟨rfl, rfl⟩) ?_) | (with_reducible refine Or.inr ?_) | (refine And.intro (Ob.mk (flat_of rfl)) ?_) | (with_reducible refine And.intro (Ob.mk (Flat.map ?_)) ?_; exact fun _ => rfl) | (with_reducible first | exact Ob.mk (Flat.map fun _ => rfl) | refine And.intro ?_ ?_ | apply exG.mk | apply exGS.mk | exact Dd.nil) | (refine Dd.same _ ?_) | (refine Dd.dead _ ?_) | (with_reducible first | apply exQ.mk | apply exP.mk) | (refine EqP.mk rfl rfl) | (with_reducible apply exW.mk) | (refine EqW.mk rfl) | (with_reducible first | intro _ | refine Dn.mk ?_) | (refine exS.full (by first | rfl | (simp; done) | (simp; omega)) ?_) | (refine And.intro (Ob.mk ⟨rfl, rfl, by first | rfl | (simp; done) | (simp; omega)⟩) ?_) | (with_reducible refine exE.mapD ?_) | (refine exL.int ?_) | (with_reducible first | refine Up0.mk rfl ?_ | refine Up0i.mk rfl ?_ | refine Up1.mk rfl ?_ | refine Up1i.mk rfl ?_ | refine Up2.mk rfl ?_ | refine Up2i.mk rfl ?_) | (refine Col.mk rfl rfl rfl ?_) | (refine Coli.mk rfl rfl rfl rfl ?_))
  all_goals (try (refine Ob.mk ?_; first | assumption | exact ⟨rfl, rfl⟩ | exact ⟨rfl, rfl, rfl⟩ | (refine ⟨rfl, rfl, ?_⟩; simp only [List.length_map, List.length_take, List.length_append, els_len, List.length_replicate]; omega) | (intro h; exact h) | (intro h; rw [h]; rfl) | (intro h; simp_all; done) | (refine bytes_le (n := 1048577) ?_ rfl; simp only [ltI_iff, ltI_not, leI_iff, leI_not, eqI_iff, eqI_not, List.length_map, bif_and, bif_or, Bool.and_eq_true, Bool.and_eq_false_iff, Bool.or_eq_true, Bool.or_eq_false_iff, Bool.not_eq_true', Bool.not_eq_false', Int.toNat_natCast, beq_iff_eq, beq_eq_false_iff_ne, decide_eq_true_eq, decide_eq_false_iff_not, bel_iff, bel_not, wthn_iff, wthn_not, els_len, mixL_len, Nat.zero_add, List.length_set, List.length_take] at *; omega) | (simp only [ltI_iff, ltI_not, leI_iff, leI_not, eqI_iff, eqI_not, List.length_map, bif_and, bif_or, Bool.and_eq_true, Bool.and_eq_false_iff, Bool.or_eq_true, Bool.or_eq_false_iff, Bool.not_eq_true', Bool.not_eq_false', Int.toNat_natCast, beq_iff_eq, beq_eq_false_iff_ne, decide_eq_true_eq, decide_eq_false_iff_not, bel_iff, bel_not, wthn_iff, wthn_not, els_len, mixL_len, Nat.zero_add, List.length_set, List.length_take, Int.ofNat_eq_natCast] at *; omega)))
  all_goals (try (refine Ob.mk ?_; omega))
  · rename_i h
    rw [ltI_iff] at h
    show T.int .i64 _ = _
    congr 1
    unfold pickN
    rw [if_pos h, addI_i64 (by omega) (by omega), subI_i64 (by omega) (by omega)]
    unfold remI
    rw [Int.tmod_eq_emod_of_nonneg (by omega)]
    congr 1; omega
  · rename_i h
    rw [ltI_not] at h
    show T.int .i64 _ = _
    congr 1
    unfold pickN
    rw [if_neg (by omega)]
    unfold remI
    rw [Int.tmod_eq_emod_of_nonneg h]
theorem pick22k (c n : Int) (h : Ob (I64 c ∧ 0 < n)) {q : T → Prop} (hq : q (.int .i64 (pickN c n))) : PCalls Try.prog 22 [.int .i64 c, .int .i64 n] q :=
  PCalls.mono (pick22 c n h.out.1 h.out.2) fun _ h => h ▸ hq
def walkR (raw : List (List Int)) : List (List Int) := raw.map fun l => (l.take 9).map fun c => pickN c raw.length
def walkL (raw : List (List Int)) : List (List Int) := if (raw.take 200).length = 0 then [[0]] else walkR (raw.take 200)
abbrev nstC (l : List Int) : T := .nst 3 1 (l.map fun n => .int .i64 n)
theorem lead31w (L : List (List Int)) (hl : L.length ≤ 20000) (hr : ∀ l ∈ L, l.length ≤ 2 ^ 20) {q : T → Prop} (hq : q (leadG L).t) : PCalls Try.prog 31 [.sl 1 (L.map nstC)] q :=
  PCalls.argsL (.cons (Le.slmap (f := nstC) (g := ilist) (fun l => .cons (nst_le _ _ _) .nil) fun _ => rfl) .nil) (PCalls.mono (lead31 L hl hr) fun _ h => h ▸ hq)
theorem lead31z (xs : List T) (h : Ob (xs = [])) {q : T → Prop} (hq : q (leadG [[0]]).t) : PCalls Try.prog 31 [.sl 1 (xs ++ [.nst 3 1 [.int .i64 0]])] q := by
  rw [h.out]
  exact lead31w [[0]] (by simp) (by simp) hq
theorem walkR_len {raw : List (List Int)} : ∀ l ∈ walkR raw, l.length ≤ 2 ^ 20 := fun l hl => by
  obtain ⟨x, _, rfl⟩ := List.mem_map.1 hl
  rw [List.length_map, List.length_take]; omega
theorem walkR_at {raw : List (List Int)} {b : Nat} (hb : b < raw.length) : nthD (walkR raw) b = ((nthD raw b).take 9).map fun c => pickN c raw.length := by
  unfold walkR
  rw [nthD_get (by rw [List.length_map]; exact hb), List.getElem_map, nthD_get hb]
theorem walks19 (raw : List (List Int)) (hw : ∀ l ∈ raw, ∀ x ∈ l, I64 x) (hn : raw.length ≤ 2 ^ 20) (hr : ∀ l ∈ raw, l.length ≤ 2 ^ 20) : PCalls Try.prog 19 [listsL raw] (fun r => r = (leadG (walkL raw)).t) := by
  refine PCalls.of_body ttOk Try.func19 rfl ?_
  rcases Nat.lt_or_ge 200 raw.length with hc | hc
  · repeat' ((conv => whnf); first | (with_reducible first | refine onBool_intro (fun _ => ?_) (fun _ => ?_) | refine And.intro (Ob.mk (Nat.le_of_ble_eq_true rfl)) ?_ | refine And.intro (Ob.mk rfl) ?_ | exact ⟨rfl, rfl⟩ | refine And.intro (Ob.mk (fun h => h)) ?_) | (with_reducible refine Or.inl (And.intro (Ob.mk (Flat.map ?_)) ?_); exact fun _ => rfl) | (refine Or.inl (And.intro (Ob.mk (flat_of rfl)) ?_)) | (refine Or.inl (And.intro (Ob.mk ⟨rfl, rfl, rfl, rfl⟩) ?_)) | (refine Or.inl (And.intro (Ob.mk ⟨rfl, rfl, rfl⟩) ?_)) | (refine And.intro (Ob.mk ⟨rfl, rfl⟩) ?_) | (with_reducible refine Or.inr ?_) | (refine And.intro (Ob.mk (flat_of rfl)) ?_) | (with_reducible refine And.intro (Ob.mk (Flat.map ?_)) ?_; exact fun _ => rfl) | (with_reducible first | exact Ob.mk (Flat.map fun _ => rfl) | refine And.intro ?_ ?_ | apply exG.mk | apply exGS.mk | exact Dd.nil) | (refine Dd.same _ ?_) | (refine Dd.dead _ ?_) | (with_reducible first | apply exQ.mk | apply exP.mk) | (refine EqP.mk rfl rfl) | (with_reducible apply exW.mk) | (refine EqW.mk rfl) | (with_reducible first | intro _ | refine Dn.mk ?_) | (refine exS.full (by first | rfl | (simp; done) | (simp; omega)) ?_) | (refine And.intro (Ob.mk ⟨rfl, rfl, by first | rfl | (simp; done) | (simp; omega)⟩) ?_) | (with_reducible refine exE.mapD ?_) | (refine exL.int ?_) | (with_reducible first | refine Up0.mk rfl ?_ | refine Up0i.mk rfl ?_ | refine Up1.mk rfl ?_ | refine Up1i.mk rfl ?_ | refine Up2.mk rfl ?_ | refine Up2i.mk rfl ?_) | (refine Col.mk rfl rfl rfl ?_) | (refine Coli.mk rfl rfl rfl rfl ?_) | (refine exS.are (ys := (raw.take 200).map ilist) ?_ ?_))
    all_goals (try (refine Ob.mk ?_; first | assumption | exact ⟨rfl, rfl⟩ | exact ⟨rfl, rfl, rfl⟩ | (refine ⟨rfl, rfl, ?_⟩; simp only [List.length_map, List.length_take, List.length_append, els_len, List.length_replicate]; omega) | (intro h; exact h) | (intro h; rw [h]; rfl) | (intro h; simp_all; done) | (refine bytes_le (n := 1048577) ?_ rfl; simp only [ltI_iff, ltI_not, leI_iff, leI_not, eqI_iff, eqI_not, List.length_map, bif_and, bif_or, Bool.and_eq_true, Bool.and_eq_false_iff, Bool.or_eq_true, Bool.or_eq_false_iff, Bool.not_eq_true', Bool.not_eq_false', Int.toNat_natCast, beq_iff_eq, beq_eq_false_iff_ne, decide_eq_true_eq, decide_eq_false_iff_not, bel_iff, bel_not, wthn_iff, wthn_not, els_len, mixL_len, Nat.zero_add, List.length_set, List.length_take] at *; omega) | (simp only [ltI_iff, ltI_not, leI_iff, leI_not, eqI_iff, eqI_not, List.length_map, bif_and, bif_or, Bool.and_eq_true, Bool.and_eq_false_iff, Bool.or_eq_true, Bool.or_eq_false_iff, Bool.not_eq_true', Bool.not_eq_false', Int.toNat_natCast, beq_iff_eq, beq_eq_false_iff_ne, decide_eq_true_eq, decide_eq_false_iff_not, bel_iff, bel_not, wthn_iff, wthn_not, els_len, mixL_len, Nat.zero_add, List.length_set, List.length_take, Int.ofNat_eq_natCast] at *; omega)))
    all_goals (try (exfalso; have h3 : ltI 200 _ = true := (by assumption); rw [ltI_iff, List.length_map] at h3; omega))
    all_goals (try (exfalso; have h3 : ltI 200 _ = false := (by assumption); rw [ltI_not, List.length_map] at h3; omega))
    all_goals (try (refine Ob.mk ?_; exact List.map_take.symm))
    conv => whnf
    have hRl : (raw.take 200).length ≤ 200 := by rw [List.length_take]; omega
    have hRr : ∀ l ∈ raw.take 200, l.length ≤ 2 ^ 20 := fun l hl => hr l (List.mem_of_mem_take hl)
    have hRw : ∀ l ∈ raw.take 200, ∀ x ∈ l, I64 x := fun l hl => hw l (List.mem_of_mem_take hl)
    have hWl : (walkR (raw.take 200)).length = (raw.take 200).length := by unfold walkR; simp
    refine LoopVC.mk [4, 3] [(3, 22, 1)] (fun m vals σ => ∃ b : Nat, vals = [.t (.int .i64 b), .osl 1 0 ((walkR (raw.take 200)).take b).length] ∧ σ = [gzero, .row 22 1 (((walkR (raw.take 200)).take b).map nstC)] ∧ b ≤ (raw.take 200).length ∧ m = (raw.take 200).length - b) ?_ ?_
    · conv => whnf
      exact ⟨_, 0, rfl, rfl, Nat.zero_le _, rfl⟩
    · rintro m vals σ ⟨b, rfl, rfl, hb, rfl⟩
      have hlt : ltI (b : Int) ((((raw.take 200).map ilist).length : Nat) : Int) = true → b < (raw.take 200).length := fun h => by
        rw [ltI_iff, List.length_map] at h; omega
      repeat' ((conv => whnf); first | (with_reducible first | refine onBool_intro (fun _ => ?_) (fun _ => ?_) | refine And.intro (Ob.mk (Nat.le_of_ble_eq_true rfl)) ?_ | refine And.intro (Ob.mk rfl) ?_ | exact ⟨rfl, rfl⟩ | refine And.intro (Ob.mk (fun h => h)) ?_) | (with_reducible refine Or.inl (And.intro (Ob.mk (Flat.map ?_)) ?_); exact fun _ => rfl) | (refine Or.inl (And.intro (Ob.mk (flat_of rfl)) ?_)) | (refine Or.inl (And.intro (Ob.mk ⟨rfl, rfl, rfl, rfl⟩) ?_)) | (refine Or.inl (And.intro (Ob.mk ⟨rfl, rfl, rfl⟩) ?_)) | (refine And.intro (Ob.mk ⟨rfl, rfl⟩) ?_) | (with_reducible refine Or.inr ?_) | (refine And.intro (Ob.mk (flat_of rfl)) ?_) | (with_reducible refine And.intro (Ob.mk (Flat.map ?_)) ?_; exact fun _ => rfl) | (with_reducible first | exact Ob.mk (Flat.map fun _ => rfl) | refine And.intro ?_ ?_ | apply exG.mk | apply exGS.mk | exact Dd.nil) | (refine Dd.same _ ?_) | (refine Dd.dead _ ?_) | (with_reducible first | apply exQ.mk | apply exP.mk) | (refine EqP.mk rfl rfl) | (with_reducible apply exW.mk) | (refine EqW.mk rfl) | (with_reducible first | intro _ | refine Dn.mk ?_) | (refine exS.full (by first | rfl | (simp; done) | (simp; omega)) ?_) | (refine And.intro (Ob.mk ⟨rfl, rfl, by first | rfl | (simp; done) | (simp; omega)⟩) ?_) | (with_reducible refine exE.mapD ?_) | (refine exL.int ?_) | (with_reducible first | refine Up0.mk rfl ?_ | refine Up0i.mk rfl ?_ | refine Up1.mk rfl ?_ | refine Up1i.mk rfl ?_ | refine Up2.mk rfl ?_ | refine Up2i.mk rfl ?_) | (refine Col.mk rfl rfl rfl ?_) | (refine Coli.mk rfl rfl rfl rfl ?_) | (refine lead31w ((walkR (raw.take 200)).take b) (by rw [List.length_take]; omega) (fun l hl => walkR_len l (List.mem_of_mem_take hl)) ?_) | (refine lead31z _ ?_ ?_))
      all_goals (try (refine Ob.mk ?_; first | assumption | exact ⟨rfl, rfl⟩ | exact ⟨rfl, rfl, rfl⟩ | (refine ⟨rfl, rfl, ?_⟩; simp only [List.length_map, List.length_take, List.length_append, els_len, List.length_replicate]; omega) | (intro h; exact h) | (intro h; rw [h]; rfl) | (intro h; simp_all; done) | (refine bytes_le (n := 1048577) ?_ rfl; simp only [ltI_iff, ltI_not, leI_iff, leI_not, eqI_iff, eqI_not, List.length_map, bif_and, bif_or, Bool.and_eq_true, Bool.and_eq_false_iff, Bool.or_eq_true, Bool.or_eq_false_iff, Bool.not_eq_true', Bool.not_eq_false', Int.toNat_natCast, beq_iff_eq, beq_eq_false_iff_ne, decide_eq_true_eq, decide_eq_false_iff_not, bel_iff, bel_not, wthn_iff, wthn_not, els_len, mixL_len, Nat.zero_add, List.length_set, List.length_take] at *; omega) | (simp only [ltI_iff, ltI_not, leI_iff, leI_not, eqI_iff, eqI_not, List.length_map, bif_and, bif_or, Bool.and_eq_true, Bool.and_eq_false_iff, Bool.or_eq_true, Bool.or_eq_false_iff, Bool.not_eq_true', Bool.not_eq_false', Int.toNat_natCast, beq_iff_eq, beq_eq_false_iff_ne, decide_eq_true_eq, decide_eq_false_iff_not, bel_iff, bel_not, wthn_iff, wthn_not, els_len, mixL_len, Nat.zero_add, List.length_set, List.length_take, Int.ofNat_eq_natCast] at *; omega)))
      · have hb2 := hlt (by assumption)
        have hbr := hRr _ (nthD_mem hb2)
        have hat := walkR_at hb2
        conv => whnf
        refine LoopVC.mk [6, 5] [(5, 3, 1)] (fun m vals σ => ∃ k : Nat, vals = [.t (.int .i64 k), .osl 2 0 ((nthD (walkR (raw.take 200)) b).take k).length] ∧ σ = [gzero, .row 22 1 (((walkR (raw.take 200)).take b).map nstC), .row 3 1 (((nthD (walkR (raw.take 200)) b).take k).map fun n => .int .i64 n)] ∧ k ≤ (nthD (raw.take 200) b).length ∧ k ≤ 9 ∧ m = 9 - k) ?_ ?_
        · conv => whnf
          exact ⟨_, 0, rfl, rfl, Nat.zero_le _, Nat.zero_le _, rfl⟩
        · rintro m2 vals σ ⟨k, rfl, rfl, hk, hk9, rfl⟩
          have hyes : (bif ltI (k : Int) ((((nthD (raw.take 200) ((b : Int)).toNat).map fun n => T.int .i64 n).length : Nat) : Int) then ltI (k : Int) 9 else false) = true → k < (nthD (raw.take 200) b).length ∧ k < 9 := fun h => by
            rw [List.length_map, Int.toNat_natCast] at h
            cases h3 : ltI (k : Int) ((nthD (raw.take 200) b).length : Nat) with
            | false => rw [h3] at h; cases h
            | true =>
              rw [h3] at h
              have h : ltI (k : Int) 9 = true := h
              rw [ltI_iff] at h h3
              omega
          have hno : (bif ltI (k : Int) ((((nthD (raw.take 200) ((b : Int)).toNat).map fun n => T.int .i64 n).length : Nat) : Int) then ltI (k : Int) 9 else false) = false → k = (nthD (raw.take 200) b).length ∨ k = 9 := fun h => by
            rw [List.length_map, Int.toNat_natCast] at h
            cases h3 : ltI (k : Int) ((nthD (raw.take 200) b).length : Nat) with
            | false => rw [ltI_not] at h3; omega
            | true =>
              rw [h3] at h
              have h : ltI (k : Int) 9 = false := h
              rw [ltI_not] at h
              omega
          repeat' ((conv => whnf); first | (with_reducible first | refine onBool_intro (fun _ => ?_) (fun _ => ?_) | refine And.intro (Ob.mk (Nat.le_of_ble_eq_true rfl)) ?_ | refine And.intro (Ob.mk rfl) ?_ | exact ⟨rfl, rfl⟩ | refine And.intro (Ob.mk (fun h => h)) ?_) | (with_reducible refine Or.inl (And.intro (Ob.mk (Flat.map ?_)) ?_); exact fun _ => rfl) | (refine Or.inl (And.intro (Ob.mk (flat_of rfl)) ?_)) | (refine Or.inl (And.intro (Ob.mk ⟨rfl, rfl, rfl, rfl⟩) ?_)) | (refine Or.inl (And.intro (Ob.mk ⟨rfl, rfl, rfl⟩) ?_)) | (refine And.intro (Ob.mk ⟨rfl, rfl⟩) ?_) | (with_reducible refine Or.inr ?_) | (refine And.intro (Ob.mk (flat_of rfl)) ?_) | (with_reducible refine And.intro (Ob.mk (Flat.map ?_)) ?_; exact fun _ => rfl) | (with_reducible first | exact Ob.mk (Flat.map fun _ => rfl) | refine And.intro ?_ ?_ | apply exG.mk | apply exGS.mk | exact Dd.nil) | (refine Dd.same _ ?_) | (refine Dd.dead _ ?_) | (with_reducible first | apply exQ.mk | apply exP.mk) | (refine EqP.mk rfl rfl) | (with_reducible apply exW.mk) | (refine EqW.mk rfl) | (with_reducible first | intro _ | refine Dn.mk ?_) | (refine exS.full (by first | rfl | (simp; done) | (simp; omega)) ?_) | (refine And.intro (Ob.mk ⟨rfl, rfl, by first | rfl | (simp; done) | (simp; omega)⟩) ?_) | (with_reducible refine exE.mapD ?_) | (refine exL.int ?_) | (with_reducible first | refine Up0.mk rfl ?_ | refine Up0i.mk rfl ?_ | refine Up1.mk rfl ?_ | refine Up1i.mk rfl ?_ | refine Up2.mk rfl ?_ | refine Up2i.mk rfl ?_) | (refine Col.mk rfl rfl rfl ?_) | (refine Coli.mk rfl rfl rfl rfl ?_) | (refine pick22k _ _ ?_ ?_))
          all_goals (try (refine Ob.mk ?_; first | assumption | exact ⟨rfl, rfl⟩ | exact ⟨rfl, rfl, rfl⟩ | (refine ⟨rfl, rfl, ?_⟩; simp only [List.length_map, List.length_take, List.length_append, els_len, List.length_replicate]; omega) | (intro h; exact h) | (intro h; rw [h]; rfl) | (intro h; simp_all; done) | (refine bytes_le (n := 1048577) ?_ rfl; simp only [ltI_iff, ltI_not, leI_iff, leI_not, eqI_iff, eqI_not, List.length_map, bif_and, bif_or, Bool.and_eq_true, Bool.and_eq_false_iff, Bool.or_eq_true, Bool.or_eq_false_iff, Bool.not_eq_true', Bool.not_eq_false', Int.toNat_natCast, beq_iff_eq, beq_eq_false_iff_ne, decide_eq_true_eq, decide_eq_false_iff_not, bel_iff, bel_not, wthn_iff, wthn_not, els_len, mixL_len, Nat.zero_add, List.length_set, List.length_take] at *; omega) | (simp only [ltI_iff, ltI_not, leI_iff, leI_not, eqI_iff, eqI_not, List.length_map, bif_and, bif_or, Bool.and_eq_true, Bool.and_eq_false_iff, Bool.or_eq_true, Bool.or_eq_false_iff, Bool.not_eq_true', Bool.not_eq_false', Int.toNat_natCast, beq_iff_eq, beq_eq_false_iff_ne, decide_eq_true_eq, decide_eq_false_iff_not, bel_iff, bel_not, wthn_iff, wthn_not, els_len, mixL_len, Nat.zero_add, List.length_set, List.length_take, Int.ofNat_eq_natCast] at *; omega)))
          all_goals (try have hkk := hyes (by assumption))
          all_goals (try (refine Ob.mk ?_; rw [List.length_map, Int.toNat_natCast]; omega))
          · refine Ob.mk ⟨?_, ?_⟩
            · rw [Int.toNat_natCast, Int.toNat_natCast]
              exact hRw _ (nthD_mem hb2) _ (nthD_mem hkk.1)
            · rw [List.length_map]; omega
          · conv => whnf
            have et : (nthD (walkR (raw.take 200)) b).take (k + 1) = (nthD (walkR (raw.take 200)) b).take k ++ [pickN (nthD (nthD (raw.take 200) b) k) (raw.take 200).length] := by
              have hkl : k < (nthD (walkR (raw.take 200)) b).length := by rw [hat, List.length_map, List.length_take]; omega
              rw [take_succN hkl]
              congr 1
              rw [nthD_get hkl]
              simp only [hat, List.getElem_map, List.getElem_take]
              rw [nthD_get hkk.1]
            refine ⟨9 - (k + 1), by omega, k + 1, ?_, ?_, by omega, by omega, rfl⟩
            · have eL : ((nthD (walkR (raw.take 200)) b).take k ++ [pickN (nthD (nthD (raw.take 200) b) k) (raw.take 200).length]).length = ((nthD (walkR (raw.take 200)) b).take k).length + 1 := by rw [List.length_append]; rfl
              rw [addI_i64 (by omega) (by omega), et, eL]; rfl
            · rw [et, List.map_append, List.length_map, Int.toNat_natCast, Int.toNat_natCast]; rfl
          · exact Ob.mk ⟨rfl, rfl, (List.length_map ..).symm⟩
          · conv => whnf
            have hkn := hno (by assumption)
            have ef : (nthD (walkR (raw.take 200)) b).take k = nthD (walkR (raw.take 200)) b := by
              rw [List.take_of_length_le]
              rw [hat, List.length_map, List.length_take]; omega
            have eb : (walkR (raw.take 200)).take (b + 1) = (walkR (raw.take 200)).take b ++ [nthD (walkR (raw.take 200)) b] := take_succD (by rw [hWl]; exact hb2)
            refine ⟨(raw.take 200).length - (b + 1), by omega, b + 1, ?_, ?_, hb2, rfl⟩
            · have eL : ((walkR (raw.take 200)).take b ++ [nthD (walkR (raw.take 200)) b]).length = ((walkR (raw.take 200)).take b).length + 1 := by rw [List.length_append]; rfl
              rw [addI_i64 (by omega) (by omega), eb, eL]; rfl
            · rw [ef, eb, List.map_append]; rfl
      · have hb2 : b = (raw.take 200).length := by
          have h3 : ltI (b : Int) ((((raw.take 200).map ilist).length : Nat) : Int) = false := by assumption
          rw [ltI_not, List.length_map] at h3; omega
        have h3 : eqI ((((walkR (raw.take 200)).take b).length : Nat) : Int) 0 = true := by assumption
        rw [eqI_iff, List.length_take, hWl] at h3
        have e : walkL raw = [[0]] := by
          unfold walkL
          rw [if_pos]
          omega
        rw [e]; rfl
      · have hb2 : b = (raw.take 200).length := by
          have h3 : ltI (b : Int) ((((raw.take 200).map ilist).length : Nat) : Int) = false := by assumption
          rw [ltI_not, List.length_map] at h3; omega
        have h3 : eqI ((((walkR (raw.take 200)).take b).length : Nat) : Int) 0 = false := by assumption
        rw [eqI_not, List.length_take, hWl] at h3
        have e : walkL raw = (walkR (raw.take 200)).take b := by
          rw [hb2, ← hWl, List.take_length]
          unfold walkL
          rw [if_neg (by omega)]
        rw [e]; rfl
  · repeat' ((conv => whnf); first | (with_reducible first | refine onBool_intro (fun _ => ?_) (fun _ => ?_) | refine And.intro (Ob.mk (Nat.le_of_ble_eq_true rfl)) ?_ | refine And.intro (Ob.mk rfl) ?_ | exact ⟨rfl, rfl⟩ | refine And.intro (Ob.mk (fun h => h)) ?_) | (with_reducible refine Or.inl (And.intro (Ob.mk (Flat.map ?_)) ?_); exact fun _ => rfl) | (refine Or.inl (And.intro (Ob.mk (flat_of rfl)) ?_)) | (refine Or.inl (And.intro (Ob.mk ⟨rfl, rfl, rfl, rfl⟩) ?_)) | (refine Or.inl (And.intro (Ob.mk ⟨rfl, rfl, rfl⟩) ?_)) | (refine And.intro (Ob.mk ⟨rfl, rfl⟩) ?_) | (with_reducible refine Or.inr ?_) | (refine And.intro (Ob.mk (flat_of rfl)) ?_) | (with_reducible refine And.intro (Ob.mk (Flat.map ?_)) ?_; exact fun _ => rfl) | (with_reducible first | exact Ob.mk (Flat.map fun _ => rfl) | refine And.intro ?_ ?_ | apply exG.mk | apply exGS.mk | exact Dd.nil) | (refine Dd.same _ ?_) | (refine Dd.dead _ ?_) | (with_reducible first | apply exQ.mk | apply exP.mk) | (refine EqP.mk rfl rfl) | (with_reducible apply exW.mk) | (refine EqW.mk rfl) | (with_reducible first | intro _ | refine Dn.mk ?_) | (refine exS.full (by first | rfl | (simp; done) | (simp; omega)) ?_) | (refine And.intro (Ob.mk ⟨rfl, rfl, by first | rfl | (simp; done) | (simp; omega)⟩) ?_) | (with_reducible refine exE.mapD ?_) | (refine exL.int ?_) | (with_reducible first | refine Up0.mk rfl ?_ | refine Up0i.mk rfl ?_ | refine Up1.mk rfl ?_ | refine Up1i.mk rfl ?_ | refine Up2.mk rfl ?_ | refine Up2i.mk rfl ?_) | (refine Col.mk rfl rfl rfl ?_) | (refine Coli.mk rfl rfl rfl rfl ?_) | (refine exS.are (ys := (raw.take 200).map ilist) ?_ ?_))
    all_goals (try (refine Ob.mk ?_; first | assumption | exact ⟨rfl, rfl⟩ | exact ⟨rfl, rfl, rfl⟩ | (refine ⟨rfl, rfl, ?_⟩; simp only [List.length_map, List.length_take, List.length_append, els_len, List.length_replicate]; omega) | (intro h; exact h) | (intro h; rw [h]; rfl) | (intro h; simp_all; done) | (refine bytes_le (n := 1048577) ?_ rfl; simp only [ltI_iff, ltI_not, leI_iff, leI_not, eqI_iff, eqI_not, List.length_map, bif_and, bif_or, Bool.and_eq_true, Bool.and_eq_false_iff, Bool.or_eq_true, Bool.or_eq_false_iff, Bool.not_eq_true', Bool.not_eq_false', Int.toNat_natCast, beq_iff_eq, beq_eq_false_iff_ne, decide_eq_true_eq, decide_eq_false_iff_not, bel_iff, bel_not, wthn_iff, wthn_not, els_len, mixL_len, Nat.zero_add, List.length_set, List.length_take] at *; omega) | (simp only [ltI_iff, ltI_not, leI_iff, leI_not, eqI_iff, eqI_not, List.length_map, bif_and, bif_or, Bool.and_eq_true, Bool.and_eq_false_iff, Bool.or_eq_true, Bool.or_eq_false_iff, Bool.not_eq_true', Bool.not_eq_false', Int.toNat_natCast, beq_iff_eq, beq_eq_false_iff_ne, decide_eq_true_eq, decide_eq_false_iff_not, bel_iff, bel_not, wthn_iff, wthn_not, els_len, mixL_len, Nat.zero_add, List.length_set, List.length_take, Int.ofNat_eq_natCast] at *; omega)))
    all_goals (try (exfalso; have h3 : ltI 200 _ = true := (by assumption); rw [ltI_iff, List.length_map] at h3; omega))
    all_goals (try (exfalso; have h3 : ltI 200 _ = false := (by assumption); rw [ltI_not, List.length_map] at h3; omega))
    all_goals (try (refine Ob.mk ?_; exact List.map_take.symm))
    conv => whnf
    have hRl : (raw).length ≤ 200 := hc
    have hRr : ∀ l ∈ raw, l.length ≤ 2 ^ 20 := fun l hl => hr l hl
    have hRw : ∀ l ∈ raw, ∀ x ∈ l, I64 x := fun l hl => hw l hl
    have hWl : (walkR (raw)).length = (raw).length := by unfold walkR; simp
    refine LoopVC.mk [4, 3] [(3, 22, 1)] (fun m vals σ => ∃ b : Nat, vals = [.t (.int .i64 b), .osl 1 0 ((walkR (raw)).take b).length] ∧ σ = [gzero, .row 22 1 (((walkR (raw)).take b).map nstC)] ∧ b ≤ (raw).length ∧ m = (raw).length - b) ?_ ?_
    · conv => whnf
      exact ⟨_, 0, rfl, rfl, Nat.zero_le _, rfl⟩
    · rintro m vals σ ⟨b, rfl, rfl, hb, rfl⟩
      have hlt : ltI (b : Int) ((((raw).map ilist).length : Nat) : Int) = true → b < (raw).length := fun h => by
        rw [ltI_iff, List.length_map] at h; omega
      repeat' ((conv => whnf); first | (with_reducible first | refine onBool_intro (fun _ => ?_) (fun _ => ?_) | refine And.intro (Ob.mk (Nat.le_of_ble_eq_true rfl)) ?_ | refine And.intro (Ob.mk rfl) ?_ | exact ⟨rfl, rfl⟩ | refine And.intro (Ob.mk (fun h => h)) ?_) | (with_reducible refine Or.inl (And.intro (Ob.mk (Flat.map ?_)) ?_); exact fun _ => rfl) | (refine Or.inl (And.intro (Ob.mk (flat_of rfl)) ?_)) | (refine Or.inl (And.intro (Ob.mk ⟨rfl, rfl, rfl, rfl⟩) ?_)) | (refine Or.inl (And.intro (Ob.mk ⟨rfl, rfl, rfl⟩) ?_)) | (refine And.intro (Ob.mk ⟨rfl, rfl⟩) ?_) | (with_reducible refine Or.inr ?_) | (refine And.intro (Ob.mk (flat_of rfl)) ?_) | (with_reducible refine And.intro (Ob.mk (Flat.map ?_)) ?_; exact fun _ => rfl) | (with_reducible first | exact Ob.mk (Flat.map fun _ => rfl) | refine And.intro ?_ ?_ | apply exG.mk | apply exGS.mk | exact Dd.nil) | (refine Dd.same _ ?_) | (refine Dd.dead _ ?_) | (with_reducible first | apply exQ.mk | apply exP.mk) | (refine EqP.mk rfl rfl) | (with_reducible apply exW.mk) | (refine EqW.mk rfl) | (with_reducible first | intro _ | refine Dn.mk ?_) | (refine exS.full (by first | rfl | (simp; done) | (simp; omega)) ?_) | (refine And.intro (Ob.mk ⟨rfl, rfl, by first | rfl | (simp; done) | (simp; omega)⟩) ?_) | (with_reducible refine exE.mapD ?_) | (refine exL.int ?_) | (with_reducible first | refine Up0.mk rfl ?_ | refine Up0i.mk rfl ?_ | refine Up1.mk rfl ?_ | refine Up1i.mk rfl ?_ | refine Up2.mk rfl ?_ | refine Up2i.mk rfl ?_) | (refine Col.mk rfl rfl rfl ?_) | (refine Coli.mk rfl rfl rfl rfl ?_) | (refine lead31w ((walkR (raw)).take b) (by rw [List.length_take]; omega) (fun l hl => walkR_len l (List.mem_of_mem_take hl)) ?_) | (refine lead31z _ ?_ ?_))
      all_goals (try (refine Ob.mk ?_; first | assumption | exact ⟨rfl, rfl⟩ | exact ⟨rfl, rfl, rfl⟩ | (refine ⟨rfl, rfl, ?_⟩; simp only [List.length_map, List.length_take, List.length_append, els_len, List.length_replicate]; omega) | (intro h; exact h) | (intro h; rw [h]; rfl) | (intro h; simp_all; done) | (refine bytes_le (n := 1048577) ?_ rfl; simp only [ltI_iff, ltI_not, leI_iff, leI_not, eqI_iff, eqI_not, List.length_map, bif_and, bif_or, Bool.and_eq_true, Bool.and_eq_false_iff, Bool.or_eq_true, Bool.or_eq_false_iff, Bool.not_eq_true', Bool.not_eq_false', Int.toNat_natCast, beq_iff_eq, beq_eq_false_iff_ne, decide_eq_true_eq, decide_eq_false_iff_not, bel_iff, bel_not, wthn_iff, wthn_not, els_len, mixL_len, Nat.zero_add, List.length_set, List.length_take] at *; omega) | (simp only [ltI_iff, ltI_not, leI_iff, leI_not, eqI_iff, eqI_not, List.length_map, bif_and, bif_or, Bool.and_eq_true, Bool.and_eq_false_iff, Bool.or_eq_true, Bool.or_eq_false_iff, Bool.not_eq_true', Bool.not_eq_false', Int.toNat_natCast, beq_iff_eq, beq_eq_false_iff_ne, decide_eq_true_eq, decide_eq_false_iff_not, bel_iff, bel_not, wthn_iff, wthn_not, els_len, mixL_len, Nat.zero_add, List.length_set, List.length_take, Int.ofNat_eq_natCast] at *; omega)))
      · have hb2 := hlt (by assumption)
        have hbr := hRr _ (nthD_mem hb2)
        have hat := walkR_at hb2
        conv => whnf
        refine LoopVC.mk [6, 5] [(5, 3, 1)] (fun m vals σ => ∃ k : Nat, vals = [.t (.int .i64 k), .osl 2 0 ((nthD (walkR (raw)) b).take k).length] ∧ σ = [gzero, .row 22 1 (((walkR (raw)).take b).map nstC), .row 3 1 (((nthD (walkR (raw)) b).take k).map fun n => .int .i64 n)] ∧ k ≤ (nthD (raw) b).length ∧ k ≤ 9 ∧ m = 9 - k) ?_ ?_
        · conv => whnf
          exact ⟨_, 0, rfl, rfl, Nat.zero_le _, Nat.zero_le _, rfl⟩
        · rintro m2 vals σ ⟨k, rfl, rfl, hk, hk9, rfl⟩
          have hyes : (bif ltI (k : Int) ((((nthD (raw) ((b : Int)).toNat).map fun n => T.int .i64 n).length : Nat) : Int) then ltI (k : Int) 9 else false) = true → k < (nthD (raw) b).length ∧ k < 9 := fun h => by
            rw [List.length_map, Int.toNat_natCast] at h
            cases h3 : ltI (k : Int) ((nthD (raw) b).length : Nat) with
            | false => rw [h3] at h; cases h
            | true =>
              rw [h3] at h
              have h : ltI (k : Int) 9 = true := h
              rw [ltI_iff] at h h3
              omega
          have hno : (bif ltI (k : Int) ((((nthD (raw) ((b : Int)).toNat).map fun n => T.int .i64 n).length : Nat) : Int) then ltI (k : Int) 9 else false) = false → k = (nthD (raw) b).length ∨ k = 9 := fun h => by
            rw [List.length_map, Int.toNat_natCast] at h
            cases h3 : ltI (k : Int) ((nthD (raw) b).length : Nat) with
            | false => rw [ltI_not] at h3; omega
            | true =>
              rw [h3] at h
              have h : ltI (k : Int) 9 = false := h
              rw [ltI_not] at h
              omega
          repeat' ((conv => whnf); first | (with_reducible first | refine onBool_intro (fun _ => ?_) (fun _ => ?_) | refine And.intro (Ob.mk (Nat.le_of_ble_eq_true rfl)) ?_ | refine And.intro (Ob.mk rfl) ?_ | exact ⟨rfl, rfl⟩ | refine And.intro (Ob.mk (fun h => h)) ?_) | (with_reducible refine Or.inl (And.intro (Ob.mk (Flat.map ?_)) ?_); exact fun _ => rfl) | (refine Or.inl (And.intro (Ob.mk (flat_of rfl)) ?_)) | (refine Or.inl (And.intro (Ob.mk ⟨rfl, rfl, rfl, rfl⟩) ?_)) | (refine Or.inl (And.intro (Ob.mk ⟨rfl, rfl, rfl⟩) ?_)) | (refine And.intro (Ob.mk ⟨rfl, rfl⟩) ?_) | (with_reducible refine Or.inr ?_) | (refine And.intro (Ob.mk (flat_of rfl)) ?_) | (with_reducible refine And.intro (Ob.mk (Flat.map ?_)) ?_; exact fun _ => rfl) | (with_reducible first | exact Ob.mk (Flat.map fun _ => rfl) | refine And.intro ?_ ?_ | apply exG.mk | apply exGS.mk | exact Dd.nil) | (refine Dd.same _ ?_) | (refine Dd.dead _ ?_) | (with_reducible first | apply exQ.mk | apply exP.mk) | (refine EqP.mk rfl rfl) | (with_reducible apply exW.mk) | (refine EqW.mk rfl) | (with_reducible first | intro _ | refine Dn.mk ?_) | (refine exS.full (by first | rfl | (simp; done) | (simp; omega)) ?_) | (refine And.intro (Ob.mk ⟨rfl, rfl, by first | rfl | (simp; done) | (simp; omega)⟩) ?_) | (with_reducible refine exE.mapD ?_) | (refine exL.int ?_) | (with_reducible first | refine Up0.mk rfl ?_ | refine Up0i.mk rfl ?_ | refine Up1.mk rfl ?_ | refine Up1i.mk rfl ?_ | refine Up2.mk rfl ?_ | refine Up2i.mk rfl ?_) | (refine Col.mk rfl rfl rfl ?_) | (refine Coli.mk rfl rfl rfl rfl ?_) | (refine pick22k _ _ ?_ ?_))
          all_goals (try (refine Ob.mk ?_; first | assumption | exact ⟨rfl, rfl⟩ | exact ⟨rfl, rfl, rfl⟩ | (refine ⟨rfl, rfl, ?_⟩; simp only [List.length_map, List.length_take, List.length_append, els_len, List.length_replicate]; omega) | (intro h; exact h) | (intro h; rw [h]; rfl) | (intro h; simp_all; done) | (refine bytes_le (n := 1048577) ?_ rfl; simp only [ltI_iff, ltI_not, leI_iff, leI_not, eqI_iff, eqI_not, List.length_map, bif_and, bif_or, Bool.and_eq_true, Bool.and_eq_false_iff, Bool.or_eq_true, Bool.or_eq_false_iff, Bool.not_eq_true', Bool.not_eq_false', Int.toNat_natCast, beq_iff_eq, beq_eq_false_iff_ne, decide_eq_true_eq, decide_eq_false_iff_not, bel_iff, bel_not, wthn_iff, wthn_not, els_len, mixL_len, Nat.zero_add, List.length_set, List.length_take] at *; omega) | (simp only [ltI_iff, ltI_not, leI_iff, leI_not, eqI_iff, eqI_not, List.length_map, bif_and, bif_or, Bool.and_eq_true, Bool.and_eq_false_iff, Bool.or_eq_true, Bool.or_eq_false_iff, Bool.not_eq_true', Bool.not_eq_false', Int.toNat_natCast, beq_iff_eq, beq_eq_false_iff_ne, decide_eq_true_eq, decide_eq_false_iff_not, bel_iff, bel_not, wthn_iff, wthn_not, els_len, mixL_len, Nat.zero_add, List.length_set, List.length_take, Int.ofNat_eq_natCast] at *; omega)))
          all_goals (try have hkk := hyes (by assumption))
          all_goals (try (refine Ob.mk ?_; rw [List.length_map, Int.toNat_natCast]; omega))
          · refine Ob.mk ⟨?_, ?_⟩
            · rw [Int.toNat_natCast, Int.toNat_natCast]
              exact hRw _ (nthD_mem hb2) _ (nthD_mem hkk.1)
            · rw [List.length_map]; omega
          · conv => whnf
            have et : (nthD (walkR (raw)) b).take (k + 1) = (nthD (walkR (raw)) b).take k ++ [pickN (nthD (nthD (raw) b) k) (raw).length] := by
              have hkl : k < (nthD (walkR (raw)) b).length := by rw [hat, List.length_map, List.length_take]; omega
              rw [take_succN hkl]
              congr 1
              rw [nthD_get hkl]
              simp only [hat, List.getElem_map, List.getElem_take]
              rw [nthD_get hkk.1]
            refine ⟨9 - (k + 1), by omega, k + 1, ?_, ?_, by omega, by omega, rfl⟩
            · have eL : ((nthD (walkR (raw)) b).take k ++ [pickN (nthD (nthD (raw) b) k) (raw).length]).length = ((nthD (walkR (raw)) b).take k).length + 1 := by rw [List.length_append]; rfl
              rw [addI_i64 (by omega) (by omega), et, eL]; rfl
            · rw [et, List.map_append, List.length_map, Int.toNat_natCast, Int.toNat_natCast]; rfl
          · exact Ob.mk ⟨rfl, rfl, (List.length_map ..).symm⟩
          · conv => whnf
            have hkn := hno (by assumption)
            have ef : (nthD (walkR (raw)) b).take k = nthD (walkR (raw)) b := by
              rw [List.take_of_length_le]
              rw [hat, List.length_map, List.length_take]; omega
            have eb : (walkR (raw)).take (b + 1) = (walkR (raw)).take b ++ [nthD (walkR (raw)) b] := take_succD (by rw [hWl]; exact hb2)
            refine ⟨(raw).length - (b + 1), by omega, b + 1, ?_, ?_, hb2, rfl⟩
            · have eL : ((walkR (raw)).take b ++ [nthD (walkR (raw)) b]).length = ((walkR (raw)).take b).length + 1 := by rw [List.length_append]; rfl
              rw [addI_i64 (by omega) (by omega), eb, eL]; rfl
            · rw [ef, eb, List.map_append]; rfl
      · refine Ob.mk ?_
        have h3 : eqI ((((walkR (raw)).take b).length : Nat) : Int) 0 = true := by assumption
        rw [eqI_iff] at h3
        rw [List.length_eq_zero_iff.1 (show ((walkR (raw)).take b).length = 0 by omega)]
        rfl
      · have hb2 : b = (raw).length := by
          have h3 : ltI (b : Int) ((((raw).map ilist).length : Nat) : Int) = false := by assumption
          rw [ltI_not, List.length_map] at h3; omega
        have h3 : eqI ((((walkR (raw)).take b).length : Nat) : Int) 0 = true := by assumption
        rw [eqI_iff, List.length_take, hWl] at h3
        have e : walkL raw = [[0]] := by
          unfold walkL
          rw [if_pos]
          rw [List.length_take]; omega
        rw [e]; rfl
      · have hb2 : b = (raw).length := by
          have h3 : ltI (b : Int) ((((raw).map ilist).length : Nat) : Int) = false := by assumption
          rw [ltI_not, List.length_map] at h3; omega
        have h3 : eqI ((((walkR (raw)).take b).length : Nat) : Int) 0 = false := by assumption
        rw [eqI_not, List.length_take, hWl] at h3
        have e : walkL raw = (walkR (raw)).take b := by
          rw [hb2, ← hWl, List.take_length]
          unfold walkL
          rw [if_neg (by rw [List.length_take]; omega), List.take_of_length_le hc]
        rw [e]; rfl
end Go.Proofs.Ytgladinljapmkaa.Am

/- Loops: the tree of those around a block; LoopsTree. -/
namespace Go.Proofs.Ytgladinljapmkaa.Am
open Go Go.Proofs
set_option maxRecDepth 10000
set_option maxHeartbeats 2000000
set_option linter.unusedVariables false
set_option linter.unusedSimpArgs false
theorem walkL_one {raw : List (List Int)} : 1 ≤ (walkL raw).length := by
  unfold walkL
  split
  · exact Nat.le_refl _
  · unfold walkR; rw [List.length_map]; omega
theorem walkL_len {raw : List (List Int)} : (walkL raw).length ≤ 200 := by
  unfold walkL
  split
  · simp
  · unfold walkR; rw [List.length_map, List.length_take]; omega
theorem walkL_short {raw : List (List Int)} : ∀ l ∈ walkL raw, l.length ≤ 2 ^ 20 := by
  unfold walkL
  split
  · intro l hl; simp at hl; subst hl; simp
  · exact walkR_len
theorem walkL_rng {raw : List (List Int)} : ∀ l ∈ walkL raw, ∀ x ∈ l, 0 ≤ x ∧ x < (walkL raw).length := by
  unfold walkL
  split
  · intro l hl x hx; simp at hl; subst hl; simp at hx; subst hx; simp
  · rename_i h
    unfold walkR
    intro l hl x hx
    obtain ⟨y, _, rfl⟩ := List.mem_map.1 hl
    obtain ⟨c, _, rfl⟩ := List.mem_map.1 hx
    rw [List.length_map]
    exact pickN_rng (by omega)
theorem walk_ok (raw : List (List Int)) : (leadG (walkL raw)).tiny ∧ (∀ b ∈ (leadG (walkL raw)).blocks, ∀ x ∈ allN b.fin, I64 x) ∧ (leadG (walkL raw)).leads := by
  have h1 := walkL_one (raw := raw)
  have h2 := walkL_len (raw := raw)
  exact ⟨lead_tiny (by omega) walkL_short, lead_wide fun l hl x hx => i64_small (walkL_rng l hl x hx).1 (by have := (walkL_rng l hl x hx).2; omega), lead_leads h1 (by omega) walkL_rng⟩
theorem walks19k (raw : List (List Int)) (hw : ∀ l ∈ raw, ∀ x ∈ l, I64 x) (hn : raw.length ≤ 2 ^ 20) (hr : ∀ l ∈ raw, l.length ≤ 2 ^ 20) {q : T → Prop} (hq : q (leadG (walkL raw)).t) : PCalls Try.prog 19 [listsL raw] q :=
  PCalls.mono (walks19 raw hw hn hr) fun _ h => h ▸ hq
noncomputable def upR (to : List (List Int)) (b : Nat) (cur : T) : List T := (List.range to.length).map fun j => if j < b then .nst 4 1 (bitsR to.length fun x => domB to x j) else if j = b then cur else .nsl
theorem domsR_len {to : List (List Int)} : (domsR to).length = to.length := by simp
theorem dom_step {e : Nat → Nat → Prop} {m a b : Nat} (hm : Idom e m a) (hab : Dom e a b) {f : Nat → Bool} (hf : ∀ x, f x = true ↔ Dom e x b ∧ ¬ Dom e x a) (x : Nat) : (if x = a then true else f x) = true ↔ Dom e x b ∧ ¬ Dom e x m := by
  by_cases e0 : x = a
  · subst e0
    rw [if_pos rfl]
    exact ⟨fun _ => ⟨hab, fun h => hm.2.1 (hm.1.anti h)⟩, fun _ => rfl⟩
  · rw [if_neg e0, hf]
    exact ⟨fun h => ⟨h.1, fun h2 => h.2 (h2.trans hm.1)⟩, fun h => ⟨h.1, fun h2 => h.2 (hm.2.2 x h2 e0)⟩⟩
theorem dom_end {to : List (List Int)} {b : Nat} (hb : Rch (EdgeL to) b) {f : Nat → Bool} (hf : ∀ x, f x = true ↔ Dom (EdgeL to) x b ∧ ¬ Dom (EdgeL to) x 0) (x : Nat) : (if x = 0 then true else f x) = domB to x b := by
  rw [Bool.eq_iff_iff, domB_iff]
  by_cases e0 : x = 0
  · subst e0
    rw [if_pos rfl]
    exact ⟨fun _ => .zero hb, fun _ => rfl⟩
  · rw [if_neg e0, hf]
    exact ⟨fun h => h.1, fun h => ⟨h, fun h2 => e0 h2.one⟩⟩
theorem tree_ok {to : List (List Int)} {a b : Nat} : (bif wayF to 0 (-1) b then domB to a b == wayF to 0 (a : Int) b else false) = false := by
  rw [← around_dom]
  cases wayF to 0 (-1) b <;> cases wayF to 0 (a : Int) b <;> rfl
theorem domN_le {e : Nat → Nat → Prop} {n b : Nat} : domN e n b ≤ n := by
  have := List.countP_le_length (l := List.range n) (p := fun x => @decide (Dom e x b) (Classical.propDecidable _))
  rw [List.length_range] at this
  exact this
@[simp] theorem upR_len {to : List (List Int)} {b : Nat} {cur : T} : (upR to b cur).length = to.length := by unfold upR; simp
theorem upR_zero {to : List (List Int)} : List.replicate to.length T.nsl = upR to 0 .nsl := by
  unfold upR
  apply List.ext_getElem
  · simp
  · intro j h1 h2
    simp
theorem upR_get {to : List (List Int)} {b j : Nat} {cur : T} (h : j < to.length) : (upR to b cur)[j]? = some (if j < b then .nst 4 1 (bitsR to.length fun x => domB to x j) else if j = b then cur else .nsl) := by
  unfold upR
  rw [List.getElem?_map, List.getElem?_range h]; rfl
theorem upR_at {to : List (List Int)} {b j : Nat} {cur : T} (hi : Ob (j = b ∧ b < to.length)) {K : T → Prop} (hk : K cur) : exE (upR to b cur) j K := by
  obtain ⟨rfl, h⟩ := hi.out
  refine exE.at (x := cur) ?_ hk
  rw [nth_eq, upR_get h]
  simp
theorem upR_all {to : List (List Int)} {j : Nat} {cur : T} (h : Ob (j < to.length)) {K : T → Prop} (hk : K (.nst 4 1 (bitsR to.length fun x => domB to x j))) : exE (upR to to.length cur) j K := by
  refine exE.at ?_ hk
  rw [nth_eq, upR_get h.out, if_pos h.out]
theorem upR_set {to : List (List Int)} {b : Nat} {cur x : T} : (upR to b cur).set b x = upR to b x := by
  unfold upR
  apply List.ext_getElem
  · simp
  · intro j h1 h2
    rw [List.getElem_set]
    simp only [List.getElem_map, List.getElem_range]
    by_cases e : b = j
    · subst e; simp
    · have e2 : ¬ j = b := fun h => e h.symm
      rw [if_neg e, if_neg e2, if_neg e2]
theorem upR_next {to : List (List Int)} {b : Nat} {f : Nat → Bool} (h : ∀ x, x < to.length → f x = domB to x b) : upR to b (.nst 4 1 (bitsR to.length f)) = upR to (b + 1) .nsl := by
  unfold upR
  apply List.map_congr_left
  intro s hs
  by_cases h1 : s < b
  · rw [if_pos h1, if_pos (show s < b + 1 by omega)]
  · rw [if_neg h1]
    by_cases h2 : s = b
    · rw [if_pos h2, if_pos (show s < b + 1 by omega), h2, bitsR_congr h]
    · rw [if_neg h2, if_neg (show ¬ s < b + 1 by omega)]
      by_cases h3 : s = b + 1
      · rw [if_pos h3]
      · rw [if_neg h3]
theorem law4 (raw : List (List Int)) (hw : ∀ l ∈ raw, ∀ x ∈ l, I64 x) (hn : raw.length ≤ 2 ^ 20) (hr : ∀ l ∈ raw, l.length ≤ 2 ^ 20) : PCalls Try.prog 4 [listsL raw] (fun r => r = .bool true) := by
  obtain ⟨hg, hwd, hl⟩ := walk_ok raw
  have hwk := fun (q : T → Prop) hq => walks19k raw hw hn hr (q := q) hq
  generalize leadG (walkL raw) = g at *
  have hlen : (toL g).length ≤ 20000 := by rw [toL_len]; exact hl.most
  have hto := hl.walk
  have hsh := hl.short
  have hone := hto.one
  refine PCalls.of_body ttOk Try.func4 rfl ?_
  repeat' ((conv => whnf); first | (with_reducible first | refine onBool_intro (fun _ => ?_) (fun _ => ?_) | refine And.intro (Ob.mk (Nat.le_of_ble_eq_true rfl)) ?_ | refine And.intro (Ob.mk rfl) ?_ | exact ⟨rfl, rfl⟩ | refine And.intro (Ob.mk (fun h => h)) ?_) | (with_reducible refine Or.inl (And.intro (Ob.mk (Flat.map ?_)) ?_); exact fun _ => rfl) | (refine Or.inl (And.intro (Ob.mk (flat_of rfl)) ?_)) | (refine Or.inl (And.intro (Ob.mk ⟨rfl, rfl, rfl, rfl⟩) ?_)) | (refine Or.inl (And.intro (Ob.mk ⟨rfl, rfl, rfl⟩) ?_)) | (refine And.intro (Ob.mk ⟨rfl, rfl⟩) ?_) | (with_reducible refine Or.inr ?_) | (refine And.intro (Ob.mk (flat_of rfl)) ?_) | (with_reducible refine And.intro (Ob.mk (Flat.map ?_)) ?_; exact fun _ => rfl) | (with_reducible first | exact Ob.mk (Flat.map fun _ => rfl) | refine And.intro ?_ ?_ | apply exG.mk | apply exGS.mk | exact Dd.nil) | (refine Dd.same _ ?_) | (refine Dd.dead _ ?_) | (with_reducible first | apply exQ.mk | apply exP.mk) | (refine EqP.mk rfl rfl) | (with_reducible apply exW.mk) | (refine EqW.mk rfl) | (with_reducible first | intro _ | refine Dn.mk ?_) | (refine exS.full (by first | rfl | (simp; done) | (simp; omega)) ?_) | (refine And.intro (Ob.mk ⟨rfl, rfl, by first | rfl | (simp; done) | (simp; omega)⟩) ?_) | (with_reducible refine exE.mapD ?_) | (refine exL.int ?_) | (with_reducible first | refine Up0.mk rfl ?_ | refine Up0i.mk rfl ?_ | refine Up1.mk rfl ?_ | refine Up1i.mk rfl ?_ | refine Up2.mk rfl ?_ | refine Up2i.mk rfl ?_) | (refine Col.mk rfl rfl rfl ?_) | (refine Coli.mk rfl rfl rfl rfl ?_) | (refine hwk _ ?_) | (refine edges20y g hg hl ?_) | (refine dominators10k g hg hwd hl ?_) | (refine ways21k (toL g) hto.rng hlen hsh _ _ ?_ ?_) | (refine PCalls.mono live14 ?_; rintro _ rfl))
  all_goals (try (refine Ob.mk ?_; first | assumption | exact ⟨rfl, rfl⟩ | exact ⟨rfl, rfl, rfl⟩ | (refine ⟨rfl, rfl, ?_⟩; simp only [List.length_map, List.length_take, List.length_append, els_len, List.length_replicate]; omega) | (intro h; exact h) | (intro h; rw [h]; rfl) | (intro h; simp_all; done) | (refine bytes_le (n := 1048577) ?_ rfl; simp only [ltI_iff, ltI_not, leI_iff, leI_not, eqI_iff, eqI_not, List.length_map, bif_and, bif_or, Bool.and_eq_true, Bool.and_eq_false_iff, Bool.or_eq_true, Bool.or_eq_false_iff, Bool.not_eq_true', Bool.not_eq_false', Int.toNat_natCast, beq_iff_eq, beq_eq_false_iff_ne, decide_eq_true_eq, decide_eq_false_iff_not, bel_iff, bel_not, wthn_iff, wthn_not, els_len, mixL_len, Nat.zero_add, List.length_set, List.length_take] at *; omega) | (simp only [ltI_iff, ltI_not, leI_iff, leI_not, eqI_iff, eqI_not, List.length_map, bif_and, bif_or, Bool.and_eq_true, Bool.and_eq_false_iff, Bool.or_eq_true, Bool.or_eq_false_iff, Bool.not_eq_true', Bool.not_eq_false', Int.toNat_natCast, beq_iff_eq, beq_eq_false_iff_ne, decide_eq_true_eq, decide_eq_false_iff_not, bel_iff, bel_not, wthn_iff, wthn_not, els_len, mixL_len, Nat.zero_add, List.length_set, List.length_take, Int.ofNat_eq_natCast] at *; omega)))
  · rename_i h
    simp [eqI] at h
  · refine Ob.mk ?_
    show (_ : Int) * ((24 : Nat) : Int) ≤ _
    simp; omega
  · conv => whnf
    refine LoopVC.mk [9] [] (fun m vals σ => ∃ (b : Nat) (ep : Nat → Nat), vals = [.t (.int .i64 b)] ∧ σ = [gvar g, .nd e0 (.row 3 1 (domsR (toL g))), .nd ep (.row 40 1 (upR (toL g) b .nsl))] ∧ ep 0 = 0 ∧ b ≤ (toL g).length ∧ m = (toL g).length - b) ?_ ?_
    · conv => whnf
      refine ⟨_, 0, e0, rfl, ?_, rfl, Nat.zero_le _, rfl⟩
      refine congrArg (fun z => [gvar g, .nd e0 (.row 3 1 (domsR (toL g))), .nd e0 (.row 40 1 z)]) ?_
      rw [← upR_zero, domsR_len, Int.toNat_natCast]; rfl
    · rintro m vals σ ⟨b, ep, rfl, rfl, hep, hb, hm⟩
      have hlt : ltI (b : Int) (((domsR (toL g)).length : Nat) : Int) = true → b < (toL g).length := fun h => by
        rw [ltI_iff, domsR_len] at h; omega
      repeat' ((conv => whnf); first | (with_reducible first | refine onBool_intro (fun _ => ?_) (fun _ => ?_) | refine And.intro (Ob.mk (Nat.le_of_ble_eq_true rfl)) ?_ | refine And.intro (Ob.mk rfl) ?_ | exact ⟨rfl, rfl⟩ | refine And.intro (Ob.mk (fun h => h)) ?_) | (with_reducible refine Or.inl (And.intro (Ob.mk (Flat.map ?_)) ?_); exact fun _ => rfl) | (refine Or.inl (And.intro (Ob.mk (flat_of rfl)) ?_)) | (refine Or.inl (And.intro (Ob.mk ⟨rfl, rfl, rfl, rfl⟩) ?_)) | (refine Or.inl (And.intro (Ob.mk ⟨rfl, rfl, rfl⟩) ?_)) | (refine And.intro (Ob.mk ⟨rfl, rfl⟩) ?_) | (with_reducible refine Or.inr ?_) | (refine And.intro (Ob.mk (flat_of rfl)) ?_) | (with_reducible refine And.intro (Ob.mk (Flat.map ?_)) ?_; exact fun _ => rfl) | (with_reducible first | exact Ob.mk (Flat.map fun _ => rfl) | refine And.intro ?_ ?_ | apply exG.mk | apply exGS.mk | exact Dd.nil) | (refine Dd.same _ ?_) | (refine Dd.dead _ ?_) | (with_reducible first | apply exQ.mk | apply exP.mk) | (refine EqP.mk rfl rfl) | (with_reducible apply exW.mk) | (refine EqW.mk rfl) | (with_reducible first | intro _ | refine Dn.mk ?_) | (refine exS.full (by first | rfl | (simp; done) | (simp; omega)) ?_) | (refine And.intro (Ob.mk ⟨rfl, rfl, by first | rfl | (simp; done) | (simp; omega)⟩) ?_) | (with_reducible refine exE.mapD ?_) | (refine exL.int ?_) | (with_reducible first | refine Up0.mk rfl ?_ | refine Up0i.mk rfl ?_ | refine Up1.mk rfl ?_ | refine Up1i.mk rfl ?_ | refine Up2.mk rfl ?_ | refine Up2i.mk rfl ?_) | (refine Col.mk rfl rfl rfl ?_) | (refine Coli.mk rfl rfl rfl rfl ?_) | (refine upR_at ?_ ?_))
      all_goals (try (refine Ob.mk ?_; first | assumption | exact ⟨rfl, rfl⟩ | exact ⟨rfl, rfl, rfl⟩ | (refine ⟨rfl, rfl, ?_⟩; simp only [List.length_map, List.length_take, List.length_append, els_len, List.length_replicate]; omega) | (intro h; exact h) | (intro h; rw [h]; rfl) | (intro h; simp_all; done) | (refine bytes_le (n := 1048577) ?_ rfl; simp only [ltI_iff, ltI_not, leI_iff, leI_not, eqI_iff, eqI_not, List.length_map, bif_and, bif_or, Bool.and_eq_true, Bool.and_eq_false_iff, Bool.or_eq_true, Bool.or_eq_false_iff, Bool.not_eq_true', Bool.not_eq_false', Int.toNat_natCast, beq_iff_eq, beq_eq_false_iff_ne, decide_eq_true_eq, decide_eq_false_iff_not, bel_iff, bel_not, wthn_iff, wthn_not, els_len, mixL_len, Nat.zero_add, List.length_set, List.length_take] at *; omega) | (simp only [ltI_iff, ltI_not, leI_iff, leI_not, eqI_iff, eqI_not, List.length_map, bif_and, bif_or, Bool.and_eq_true, Bool.and_eq_false_iff, Bool.or_eq_true, Bool.or_eq_false_iff, Bool.not_eq_true', Bool.not_eq_false', Int.toNat_natCast, beq_iff_eq, beq_eq_false_iff_ne, decide_eq_true_eq, decide_eq_false_iff_not, bel_iff, bel_not, wthn_iff, wthn_not, els_len, mixL_len, Nat.zero_add, List.length_set, List.length_take, Int.ofNat_eq_natCast] at *; omega)))
      all_goals (try exact Ob.mk hep.symm)
      all_goals (try (refine Ob.mk ?_; show (_ : Int) * ((1 : Nat) : Int) ≤ _; simp; omega))
      all_goals (try (refine Ob.mk ?_; have := hlt (by assumption); simp; omega))
      all_goals (try exact Ob.mk ⟨rfl, rfl, (List.length_replicate ..).symm⟩)
      · rename_i h1 h2
        have hb2 := hlt (by assumption)
        exfalso
        have h1 : (!wayF (toL g) 0 (-1) (nthD (List.range (toL g).length) ((b : Int)).toNat)) = true := h1
        rw [Int.toNat_natCast, nthD_range hb2] at h1
        rw [Nat.zero_add, Int.toNat_natCast, nthD_range hb2, domF_not] at h2
        · simp [eqI] at h2
        · intro h3
          rw [wayF_rch.2 h3.1] at h1
          cases h1
      · rename_i h1 h2
        have hb2 := hlt (by assumption)
        have h1 : (!wayF (toL g) 0 (-1) (nthD (List.range (toL g).length) ((b : Int)).toNat)) = true := h1
        rw [Int.toNat_natCast, nthD_range hb2] at h1
        conv => whnf
        refine ⟨(toL g).length - (b + 1), by omega, b + 1, bumpE 1 ep, ?_, ?_, hep, hb2, rfl⟩
        · rw [addI_i64 (by omega) (by omega)]; rfl
        · refine congrArg (fun z => [gvar g, .nd e0 (.row 3 1 (domsR (toL g))), .nd (bumpE 1 ep) (.row 40 1 z)]) ?_
          rw [domsR_len, Int.toNat_natCast, Nat.zero_add, Int.toNat_natCast]
          refine upR_set.trans ((congrArg (fun z => upR (toL g) b (.nst 4 1 z)) (bitsR_zero _)).trans (upR_next fun x _ => ?_))
          refine Eq.symm (Bool.eq_false_iff.2 fun h => ?_)
          rw [wayF_rch.2 (domB_iff.1 h).1] at h1
          cases h1
      · rename_i h1
        have hb2 := hlt (by assumption)
        have hrb : Rch (EdgeL (toL g)) b := by
          have h1 : (!wayF (toL g) 0 (-1) (nthD (List.range (toL g).length) ((b : Int)).toNat)) = false := h1
          rw [Int.toNat_natCast, nthD_range hb2] at h1
          refine wayF_rch.1 ?_
          cases h3 : wayF (toL g) 0 (-1) b with
          | true => rfl
          | false => rw [h3] at h1; cases h1
        conv => whnf
        refine LoopVC.mk [10, 11] [] (fun m vals σ => ∃ (a k : Nat) (f : Nat → Bool), vals = [.t (.int .i64 a), .t (.int .i64 k)] ∧ σ = [gvar g, .nd e0 (.row 3 1 (domsR (toL g))), .nd (bumpE 1 ep) (.row 40 1 (upR (toL g) b (.nst 4 1 (bitsR (toL g).length f)))), .dead] ∧ Dom (EdgeL (toL g)) a b ∧ (∀ x, f x = true ↔ Dom (EdgeL (toL g)) x b ∧ ¬ Dom (EdgeL (toL g)) x a) ∧ domN (EdgeL (toL g)) (toL g).length a + k ≤ (toL g).length ∧ m = domN (EdgeL (toL g)) (toL g).length a) ?_ ?_
        · conv => whnf
          refine ⟨_, b, 0, fun _ => false, rfl, ?_, .refl hrb, ?_, domN_le, rfl⟩
          · refine congrArg (fun z => [gvar g, .nd e0 (.row 3 1 (domsR (toL g))), .nd (bumpE 1 ep) (.row 40 1 z), .dead]) (?_ : List.set (upR (toL g) b .nsl) (0 + ((b : Int)).toNat) (.nst 4 1 (List.replicate (((domsR (toL g)).length : Nat) : Int).toNat (.bool false))) = _)
            rw [domsR_len, Int.toNat_natCast, Nat.zero_add, Int.toNat_natCast]
            exact upR_set.trans (congrArg (fun z => upR (toL g) b (.nst 4 1 z)) (bitsR_zero _))
          · exact fun x => ⟨(fun h => nomatch h), fun h => absurd h.1 h.2⟩
        · rintro m2 vals σ ⟨a, k, f, rfl, rfl, hab, hf, hk, hm2⟩
          have han : a < (toL g).length := hto.rch hab.left
          repeat' ((conv => whnf); first | (with_reducible first | refine onBool_intro (fun _ => ?_) (fun _ => ?_) | refine And.intro (Ob.mk (Nat.le_of_ble_eq_true rfl)) ?_ | refine And.intro (Ob.mk rfl) ?_ | exact ⟨rfl, rfl⟩ | refine And.intro (Ob.mk (fun h => h)) ?_) | (with_reducible refine Or.inl (And.intro (Ob.mk (Flat.map ?_)) ?_); exact fun _ => rfl) | (refine Or.inl (And.intro (Ob.mk (flat_of rfl)) ?_)) | (refine Or.inl (And.intro (Ob.mk ⟨rfl, rfl, rfl, rfl⟩) ?_)) | (refine Or.inl (And.intro (Ob.mk ⟨rfl, rfl, rfl⟩) ?_)) | (refine And.intro (Ob.mk ⟨rfl, rfl⟩) ?_) | (with_reducible refine Or.inr ?_) | (refine And.intro (Ob.mk (flat_of rfl)) ?_) | (with_reducible refine And.intro (Ob.mk (Flat.map ?_)) ?_; exact fun _ => rfl) | (with_reducible first | exact Ob.mk (Flat.map fun _ => rfl) | refine And.intro ?_ ?_ | apply exG.mk | apply exGS.mk | exact Dd.nil) | (refine Dd.same _ ?_) | (refine Dd.dead _ ?_) | (with_reducible first | apply exQ.mk | apply exP.mk) | (refine EqP.mk rfl rfl) | (with_reducible apply exW.mk) | (refine EqW.mk rfl) | (with_reducible first | intro _ | refine Dn.mk ?_) | (refine exS.full (by first | rfl | (simp; done) | (simp; omega)) ?_) | (refine And.intro (Ob.mk ⟨rfl, rfl, by first | rfl | (simp; done) | (simp; omega)⟩) ?_) | (with_reducible refine exE.mapD ?_) | (refine exL.int ?_) | (with_reducible first | refine Up0.mk rfl ?_ | refine Up0i.mk rfl ?_ | refine Up1.mk rfl ?_ | refine Up1i.mk rfl ?_ | refine Up2.mk rfl ?_ | refine Up2i.mk rfl ?_) | (refine Col.mk rfl rfl rfl ?_) | (refine Coli.mk rfl rfl rfl rfl ?_) | (refine upR_at ?_ ?_))
          all_goals (try (refine Ob.mk ?_; first | assumption | exact ⟨rfl, rfl⟩ | exact ⟨rfl, rfl, rfl⟩ | (refine ⟨rfl, rfl, ?_⟩; simp only [List.length_map, List.length_take, List.length_append, els_len, List.length_replicate]; omega) | (intro h; exact h) | (intro h; rw [h]; rfl) | (intro h; simp_all; done) | (refine bytes_le (n := 1048577) ?_ rfl; simp only [ltI_iff, ltI_not, leI_iff, leI_not, eqI_iff, eqI_not, List.length_map, bif_and, bif_or, Bool.and_eq_true, Bool.and_eq_false_iff, Bool.or_eq_true, Bool.or_eq_false_iff, Bool.not_eq_true', Bool.not_eq_false', Int.toNat_natCast, beq_iff_eq, beq_eq_false_iff_ne, decide_eq_true_eq, decide_eq_false_iff_not, bel_iff, bel_not, wthn_iff, wthn_not, els_len, mixL_len, Nat.zero_add, List.length_set, List.length_take] at *; omega) | (simp only [ltI_iff, ltI_not, leI_iff, leI_not, eqI_iff, eqI_not, List.length_map, bif_and, bif_or, Bool.and_eq_true, Bool.and_eq_false_iff, Bool.or_eq_true, Bool.or_eq_false_iff, Bool.not_eq_true', Bool.not_eq_false', Int.toNat_natCast, beq_iff_eq, beq_eq_false_iff_ne, decide_eq_true_eq, decide_eq_false_iff_not, bel_iff, bel_not, wthn_iff, wthn_not, els_len, mixL_len, Nat.zero_add, List.length_set, List.length_take, Int.ofNat_eq_natCast] at *; omega)))
          all_goals (try exact Ob.mk hep.symm)
          all_goals (try (refine Ob.mk ?_; simp; omega))
          · rename_i h0 _ h1
            exfalso
            have ha0 : a ≠ 0 := fun e => by
              subst e
              rw [show eqI ((0 : Nat) : Int) 0 = true from eqI_iff.2 rfl] at h0
              cases h0
            obtain ⟨m, hm, hd⟩ := domF_ex hto hab.left ha0
            have hmn : m < (toL g).length := hto.rch hm.1.left
            have h1 : (bif (bif ltI (((domsR (toL g)).length : Nat) : Int) (k : Int) then true else ltI (domF (toL g) (nthD (List.range (toL g).length) (0 + ((a : Int)).toNat))) 0) then true else leI (((domsR (toL g)).length : Nat) : Int) (domF (toL g) (nthD (List.range (toL g).length) (0 + ((a : Int)).toNat)))) = true := h1
            rw [domsR_len, Nat.zero_add, Int.toNat_natCast, nthD_range han, hd, ltI_not.2 (by omega), ltI_not.2 (by omega), leI_not.2 (by omega)] at h1
            cases h1
          · rename_i h0 _ h1
            have ha0 : a ≠ 0 := fun e => by
              subst e
              rw [show eqI ((0 : Nat) : Int) 0 = true from eqI_iff.2 rfl] at h0
              cases h0
            obtain ⟨m, hm, hd⟩ := domF_ex hto hab.left ha0
            have hmn : m < (toL g).length := hto.rch hm.1.left
            have hlt2 := domN_lt hm.1 hm.2.1 han
            conv => whnf
            refine ⟨domN (EdgeL (toL g)) (toL g).length m, by omega, m, k + 1, fun x => if x = a then true else f x, ?_, ?_, hm.1.trans hab, dom_step hm hab hf, by omega, rfl⟩
            · rw [Nat.zero_add, Int.toNat_natCast, nthD_range han, hd, addI_i64 (by omega) (by omega)]; rfl
            · rw [Nat.zero_add, Nat.zero_add, Int.toNat_natCast, Int.toNat_natCast]
              refine congrArg (fun z => [gvar g, .nd e0 (.row 3 1 (domsR (toL g))), .nd (bumpE 1 ep) (.row 40 1 z), .dead]) (upR_set.trans ?_)
              exact congrArg (fun z => upR (toL g) b (.nst 4 1 z)) bitsR_set
          · rename_i h0
            have ha0 : a = 0 := by
              refine Classical.byContradiction fun e => ?_
              rw [show eqI (a : Int) 0 = false from eqI_not.2 (by omega)] at h0
              cases h0
            subst ha0
            conv => whnf
            refine ⟨(toL g).length - (b + 1), by omega, b + 1, bumpE 1 ep, ?_, ?_, hep, hb2, rfl⟩
            · rw [addI_i64 (by omega) (by omega)]; rfl
            · rw [Nat.zero_add, Nat.zero_add, Int.toNat_natCast]
              refine congrArg (fun z => [gvar g, .nd e0 (.row 3 1 (domsR (toL g))), .nd (bumpE 1 ep) (.row 40 1 z)]) (upR_set.trans ?_)
              exact (congrArg (fun z => upR (toL g) b (.nst 4 1 z)) bitsR_set).trans (upR_next fun x _ => dom_end hrb hf x)
      · have hb2 : b = (toL g).length := by
          have h3 : ltI (b : Int) (((domsR (toL g)).length : Nat) : Int) = false := by assumption
          rw [ltI_not, domsR_len] at h3; omega
        subst hb2
        conv => whnf
        refine LoopVC.mk [12] [] (fun m vals σ => ∃ a : Nat, vals = [.t (.int .i64 a)] ∧ σ = [gvar g, .nd e0 (.row 3 1 (domsR (toL g))), .nd ep (.row 40 1 (upR (toL g) (toL g).length .nsl))] ∧ a ≤ (toL g).length ∧ m = (toL g).length - a) ?_ ?_
        · conv => whnf
          exact ⟨_, 0, rfl, rfl, Nat.zero_le _, rfl⟩
        · rintro m2 vals σ ⟨a, rfl, rfl, ha, rfl⟩
          have hlt : ltI (a : Int) (((domsR (toL g)).length : Nat) : Int) = true → a < (toL g).length := fun h => by
            rw [ltI_iff, domsR_len] at h; omega
          repeat' ((conv => whnf); first | (with_reducible first | refine onBool_intro (fun _ => ?_) (fun _ => ?_) | refine And.intro (Ob.mk (Nat.le_of_ble_eq_true rfl)) ?_ | refine And.intro (Ob.mk rfl) ?_ | exact ⟨rfl, rfl⟩ | refine And.intro (Ob.mk (fun h => h)) ?_) | (with_reducible refine Or.inl (And.intro (Ob.mk (Flat.map ?_)) ?_); exact fun _ => rfl) | (refine Or.inl (And.intro (Ob.mk (flat_of rfl)) ?_)) | (refine Or.inl (And.intro (Ob.mk ⟨rfl, rfl, rfl, rfl⟩) ?_)) | (refine Or.inl (And.intro (Ob.mk ⟨rfl, rfl, rfl⟩) ?_)) | (refine And.intro (Ob.mk ⟨rfl, rfl⟩) ?_) | (with_reducible refine Or.inr ?_) | (refine And.intro (Ob.mk (flat_of rfl)) ?_) | (with_reducible refine And.intro (Ob.mk (Flat.map ?_)) ?_; exact fun _ => rfl) | (with_reducible first | exact Ob.mk (Flat.map fun _ => rfl) | refine And.intro ?_ ?_ | apply exG.mk | apply exGS.mk | exact Dd.nil) | (refine Dd.same _ ?_) | (refine Dd.dead _ ?_) | (with_reducible first | apply exQ.mk | apply exP.mk) | (refine EqP.mk rfl rfl) | (with_reducible apply exW.mk) | (refine EqW.mk rfl) | (with_reducible first | intro _ | refine Dn.mk ?_) | (refine exS.full (by first | rfl | (simp; done) | (simp; omega)) ?_) | (refine And.intro (Ob.mk ⟨rfl, rfl, by first | rfl | (simp; done) | (simp; omega)⟩) ?_) | (with_reducible refine exE.mapD ?_) | (refine exL.int ?_) | (with_reducible first | refine Up0.mk rfl ?_ | refine Up0i.mk rfl ?_ | refine Up1.mk rfl ?_ | refine Up1i.mk rfl ?_ | refine Up2.mk rfl ?_ | refine Up2i.mk rfl ?_) | (refine Col.mk rfl rfl rfl ?_) | (refine Coli.mk rfl rfl rfl rfl ?_) | (refine ways21k (toL g) hto.rng hlen hsh _ _ ?_ ?_))
          all_goals (try (refine Ob.mk ?_; first | assumption | exact ⟨rfl, rfl⟩ | exact ⟨rfl, rfl, rfl⟩ | (refine ⟨rfl, rfl, ?_⟩; simp only [List.length_map, List.length_take, List.length_append, els_len, List.length_replicate]; omega) | (intro h; exact h) | (intro h; rw [h]; rfl) | (intro h; simp_all; done) | (refine bytes_le (n := 1048577) ?_ rfl; simp only [ltI_iff, ltI_not, leI_iff, leI_not, eqI_iff, eqI_not, List.length_map, bif_and, bif_or, Bool.and_eq_true, Bool.and_eq_false_iff, Bool.or_eq_true, Bool.or_eq_false_iff, Bool.not_eq_true', Bool.not_eq_false', Int.toNat_natCast, beq_iff_eq, beq_eq_false_iff_ne, decide_eq_true_eq, decide_eq_false_iff_not, bel_iff, bel_not, wthn_iff, wthn_not, els_len, mixL_len, Nat.zero_add, List.length_set, List.length_take] at *; omega) | (simp only [ltI_iff, ltI_not, leI_iff, leI_not, eqI_iff, eqI_not, List.length_map, bif_and, bif_or, Bool.and_eq_true, Bool.and_eq_false_iff, Bool.or_eq_true, Bool.or_eq_false_iff, Bool.not_eq_true', Bool.not_eq_false', Int.toNat_natCast, beq_iff_eq, beq_eq_false_iff_ne, decide_eq_true_eq, decide_eq_false_iff_not, bel_iff, bel_not, wthn_iff, wthn_not, els_len, mixL_len, Nat.zero_add, List.length_set, List.length_take, Int.ofNat_eq_natCast] at *; omega)))
          all_goals (try exact Ob.mk hep.symm)
          all_goals (try exact Ob.mk ⟨Int.le_refl _, by omega⟩)
          · have ha2 := hlt (by assumption)
            conv => whnf
            refine LoopVC.mk [14] [] (fun m vals σ => ∃ b : Nat, vals = [.t (.int .i64 b)] ∧ σ = [gvar g, .nd e0 (.row 3 1 (domsR (toL g))), .nd ep (.row 40 1 (upR (toL g) (toL g).length .nsl))] ∧ b ≤ (toL g).length ∧ m = (toL g).length - b) ?_ ?_
            · conv => whnf
              exact ⟨_, 0, rfl, rfl, Nat.zero_le _, rfl⟩
            · rintro m3 vals σ ⟨b, rfl, rfl, hb3, rfl⟩
              have hlt3 : ltI (b : Int) (((domsR (toL g)).length : Nat) : Int) = true → b < (toL g).length := fun h => by
                rw [ltI_iff, domsR_len] at h; omega
              repeat' ((conv => whnf); first | (with_reducible first | refine onBool_intro (fun _ => ?_) (fun _ => ?_) | refine And.intro (Ob.mk (Nat.le_of_ble_eq_true rfl)) ?_ | refine And.intro (Ob.mk rfl) ?_ | exact ⟨rfl, rfl⟩ | refine And.intro (Ob.mk (fun h => h)) ?_) | (with_reducible refine Or.inl (And.intro (Ob.mk (Flat.map ?_)) ?_); exact fun _ => rfl) | (refine Or.inl (And.intro (Ob.mk (flat_of rfl)) ?_)) | (refine Or.inl (And.intro (Ob.mk ⟨rfl, rfl, rfl, rfl⟩) ?_)) | (refine Or.inl (And.intro (Ob.mk ⟨rfl, rfl, rfl⟩) ?_)) | (refine And.intro (Ob.mk ⟨rfl, rfl⟩) ?_) | (with_reducible refine Or.inr ?_) | (refine And.intro (Ob.mk (flat_of rfl)) ?_) | (with_reducible refine And.intro (Ob.mk (Flat.map ?_)) ?_; exact fun _ => rfl) | (with_reducible first | exact Ob.mk (Flat.map fun _ => rfl) | refine And.intro ?_ ?_ | apply exG.mk | apply exGS.mk | exact Dd.nil) | (refine Dd.same _ ?_) | (refine Dd.dead _ ?_) | (with_reducible first | apply exQ.mk | apply exP.mk) | (refine EqP.mk rfl rfl) | (with_reducible apply exW.mk) | (refine EqW.mk rfl) | (with_reducible first | intro _ | refine Dn.mk ?_) | (refine exS.full (by first | rfl | (simp; done) | (simp; omega)) ?_) | (refine And.intro (Ob.mk ⟨rfl, rfl, by first | rfl | (simp; done) | (simp; omega)⟩) ?_) | (with_reducible refine exE.mapD ?_) | (refine exL.int ?_) | (with_reducible first | refine Up0.mk rfl ?_ | refine Up0i.mk rfl ?_ | refine Up1.mk rfl ?_ | refine Up1i.mk rfl ?_ | refine Up2.mk rfl ?_ | refine Up2i.mk rfl ?_) | (refine Col.mk rfl rfl rfl ?_) | (refine Coli.mk rfl rfl rfl rfl ?_) | (refine upR_all ?_ ?_) | (refine drawVC.mkM _ _ 18 18 [] [[], [], [0, 1], [0, 1, 2], [0, 1, 2, 3], [0, 1, 2, 3, 4], [0, 1, 2, 3, 4], [0, 1, 2, 3, 4, 5, 6], [0, 1, 2, 3, 4, 5, 6, 7], [0, 1, 2, 3, 4], [0, 1, 2, 3, 4, 5, 6, 7, 8, 9], [0, 1, 2, 3, 4, 5, 6, 7, 8, 9, 10], [0, 1, 2, 3, 4], [0, 1, 2, 3, 4], [0, 1, 2, 3, 4, 12, 13], [0, 1, 2, 3, 4, 12, 13, 14], [0, 1, 2, 3, 4, 5, 6, 7, 8, 9, 10, 11, 12, 13, 14, 15], [0, 1, 2, 3, 4, 5, 6, 7, 8, 9, 10, 11, 12, 13, 14, 15, 16]] rfl (by kernel_rfl) ?_))
              all_goals (try (refine Ob.mk ?_; first | assumption | exact ⟨rfl, rfl⟩ | exact ⟨rfl, rfl, rfl⟩ | (refine ⟨rfl, rfl, ?_⟩; simp only [List.length_map, List.length_take, List.length_append, els_len, List.length_replicate]; omega) | (intro h; exact h) | (intro h; rw [h]; rfl) | (intro h; simp_all; done) | (refine bytes_le (n := 1048577) ?_ rfl; simp only [ltI_iff, ltI_not, leI_iff, leI_not, eqI_iff, eqI_not, List.length_map, bif_and, bif_or, Bool.and_eq_true, Bool.and_eq_false_iff, Bool.or_eq_true, Bool.or_eq_false_iff, Bool.not_eq_true', Bool.not_eq_false', Int.toNat_natCast, beq_iff_eq, beq_eq_false_iff_ne, decide_eq_true_eq, decide_eq_false_iff_not, bel_iff, bel_not, wthn_iff, wthn_not, els_len, mixL_len, Nat.zero_add, List.length_set, List.length_take] at *; omega) | (simp only [ltI_iff, ltI_not, leI_iff, leI_not, eqI_iff, eqI_not, List.length_map, bif_and, bif_or, Bool.and_eq_true, Bool.and_eq_false_iff, Bool.or_eq_true, Bool.or_eq_false_iff, Bool.not_eq_true', Bool.not_eq_false', Int.toNat_natCast, beq_iff_eq, beq_eq_false_iff_ne, decide_eq_true_eq, decide_eq_false_iff_not, bel_iff, bel_not, wthn_iff, wthn_not, els_len, mixL_len, Nat.zero_add, List.length_set, List.length_take, Int.ofNat_eq_natCast] at *; omega)))
              all_goals (try exact Ob.mk hep.symm)
              all_goals (try (refine Ob.mk ?_; have := hlt3 (by assumption); simp; omega))
              · rename_i h3
                exfalso
                have hb4 := hlt3 (by assumption)
                have h3 : (bif wayF (toL g) 0 (-1) (nthD (List.range (toL g).length) ((b : Int)).toNat) then domB (toL g) (nthD (List.range (toL g).length) (0 + ((a : Int)).toNat)) (0 + ((b : Int)).toNat) == wayF (toL g) 0 (a : Int) (nthD (List.range (toL g).length) ((b : Int)).toNat) else false) = true := h3
                rw [Nat.zero_add, Nat.zero_add, Int.toNat_natCast, Int.toNat_natCast, nthD_range ha2, nthD_range hb4, tree_ok] at h3
                cases h3
              · have hb4 := hlt3 (by assumption)
                conv => whnf
                refine ⟨(toL g).length - (b + 1), by omega, b + 1, ?_, rfl, hb4, rfl⟩
                rw [addI_i64 (by omega) (by omega)]; rfl
              · conv => whnf
                refine ⟨(toL g).length - (a + 1), by omega, a + 1, ?_, rfl, ha2, rfl⟩
                rw [addI_i64 (by omega) (by omega)]; rfl
          · show T.bool _ = T.bool true
            rw [Nat.zero_add, show Int.toNat 0 = 0 from rfl, nthD_range hone, domF_not fun h => h.2 rfl]
            rw [show eqI (-1) (-1) = true from eqI_iff.2 rfl]
theorem law4k (raw : List (List Int)) (hn : raw.length ≤ 2 ^ 20) (hr : ∀ l ∈ raw, l.length ≤ 2 ^ 20 ∧ ∀ x ∈ l, I64 x) : PCalls Try.prog 4 [listsL raw] (fun r => r = .bool true) :=
  law4 raw (fun l hl => (hr l hl).2) hn fun l hl => (hr l hl).1
end Go.Proofs.Ytgladinljapmkaa.Am
