/- Frames: whether a graph may have one, by both texts. -/
import Derived.Shelf.Spec.TrailingZeros
import Derived.Test.YtgnafgebenlffaaDoorDQ
import Derived.Test.YtgnafgebenlffaaDoorDR
import Derived.Test.YtgnafgebenlffaaDoorDL
/- math/bits.TrailingZeros64, by the shelf's contract. -/
namespace Go.Proofs
open Go.Shelf
def Tryd.tz_ren : Go.Shelf.Ren := ⟨fun | 29 => 64 | n => n, fun | 22 => 100 | 25 => 124 | 54 => 123 | n => n, fun | 1 => 0 | n => n⟩
theorem Tryd.tzA : Go.Proofs.Lays7.n29 Tryd.prog Tryd.tz_ren := {
  mixed := by kernel_rfl
  f29 := Tryd.func64.trans (congrArg some (by kernel_rfl))
  t0 := Tryd.underlying0
  a0 := Tryd.isAgg0
  z0 := Tryd.sizeOf0
  v0 := Tryd.zeroValue0
  i0 := by kernel_rfl
  t3 := Tryd.underlying3
  a3 := Tryd.isAgg3
  z3 := Tryd.sizeOf3
  v3 := Tryd.zeroValue3
  i3 := by kernel_rfl
  t4 := Tryd.underlying4
  a4 := Tryd.isAgg4
  z4 := Tryd.sizeOf4
  v4 := Tryd.zeroValue4
  i4 := by kernel_rfl
  t5 := Tryd.underlying5
  a5 := Tryd.isAgg5
  z5 := Tryd.sizeOf5
  v5 := Tryd.zeroValue5
  i5 := by kernel_rfl
  t22 := Tryd.underlying100
  a22 := Tryd.isAgg100
  z22 := Tryd.sizeOf100
  v22 := Tryd.zeroValue100
  i22 := by kernel_rfl
  t25 := Tryd.underlying124
  a25 := Tryd.isAgg124
  z25 := Tryd.sizeOf124
  v25 := Tryd.zeroValue124
  i25 := by kernel_rfl
  t54 := Tryd.underlying123
  a54 := Tryd.isAgg123
  z54 := Tryd.sizeOf123
  g1 := by kernel_rfl }
end Go.Proofs
namespace Go.Proofs.YtgnafgebenlffaaDoor.Am
open Go Go.Proofs Go.RowKit Go.Shelf
set_option maxRecDepth 10000
set_option maxHeartbeats 2000000
set_option linter.unusedVariables false
set_option linter.unusedSimpArgs false
theorem trailing30 (x : Nat) (hx : x < 2 ^ 64) : PCalls Tryd.prog 64 [.int .u64 (x : Int)] (fun r => r = .int .i64 (Lib.ctz 64 x)) := by
  unfold PCalls
  refine ⟨⟨Tryd.f64, Tryd.func64, rfl, rfl⟩, ?_⟩
  intro F w vs h1 h2 h3
  obtain ⟨v, rfl⟩ := List.length_eq_one_iff.1 h1
  have hv := h2 0 _ _ rfl rfl
  cases hv
  have htab : TabAt 0 Lib.deBruijn64tab w := by
    intro j hj
    have := (h3.tab (0, Lib.deBruijn64tab.map fun (n : Nat) => .int .u8 n) (by simp [tabs])).2 j (.int .u8 (Lib.deBruijn64tab.getD j 0))
    refine this ?_
    rw [List.getElem?_map, List.getElem?_eq_getElem hj]
    simp [List.getD, List.getElem?_eq_getElem hj]
  refine (Any7.bits_TrailingZeros64 Tryd.tzA x (by simpa using hx) w fun _ => htab).mono ?_
  rintro e w' ⟨rfl, rfl⟩
  exact ⟨_, _, F, rfl, rfl, .int _ _, fun b hb => .inl hb, h3.lt, fun _ h => h, .refl _ _⟩
end Go.Proofs.YtgnafgebenlffaaDoor.Am

/- The lowest bit of a word; the bits of words, in order. -/
namespace Go.Proofs.YtgnafgebenlffaaDoor.Am
open Go Go.Proofs
set_option maxRecDepth 10000
set_option maxHeartbeats 2000000
set_option linter.unusedVariables false
set_option linter.unusedSimpArgs false
theorem ctz_bits {x : Nat} (h0 : 0 < x) (hx : x < 2 ^ 64) : Lib.ctz 64 x < 64 ∧ x.testBit (Lib.ctz 64 x) = true ∧ (∀ j, j < Lib.ctz 64 x → x.testBit j = false) ∧ ∀ j, (x &&& (x - 1)).testBit j = (x.testBit j && !decide (j = Lib.ctz 64 x)) := by
  unfold Lib.ctz
  rw [if_neg (by omega)]
  obtain ⟨m, hm, hk⟩ := Lib.ctzFrom_spec 64 x h0 hx
  generalize Lib.ctzFrom 64 x = k at *
  have hp : 0 < 2 ^ k := Nat.pow_pos (by omega)
  have e0 : x = 2 ^ k * (2 * m + 1) + 0 := by omega
  have e1 : x - 1 = 2 ^ k * (2 * m) + (2 ^ k - 1) := by
    rw [hm, Nat.mul_add]; omega
  have b0 : ∀ j, x.testBit j = if j < k then false else (2 * m + 1).testBit (j - k) := fun j => by
    rw [e0, Nat.testBit_two_pow_mul_add _ hp]; simp
  have b1 : ∀ j, (x - 1).testBit j = if j < k then (2 ^ k - 1).testBit j else (2 * m).testBit (j - k) := fun j => by
    rw [e1, Nat.testBit_two_pow_mul_add _ (by omega)]
  refine ⟨hk, ?_, fun j hj => by rw [b0, if_pos hj], fun j => ?_⟩
  · rw [b0, if_neg (by omega), Nat.sub_self, Nat.testBit_zero]
    simp
  · rw [Nat.testBit_and, b0, b1]
    by_cases hj : j < k
    · rw [if_pos hj]; simp
    · rw [if_neg hj, if_neg hj]
      by_cases e : j = k
      · subst e
        rw [Nat.sub_self, Nat.testBit_zero, Nat.testBit_zero]
        simp
      · obtain ⟨i, hi⟩ : ∃ i, j - k = i + 1 := ⟨j - k - 1, by omega⟩
        rw [hi, Nat.testBit_succ, Nat.testBit_succ, show (2 * m + 1) / 2 = m by omega, show 2 * m / 2 = m by omega]
        simp [e]
def restB (p : Nat → Bool) (i j : Nat) : Nat := natB 64 fun k => decide (j ≤ k) && p (64 * i + k)
theorem restB_lt {p : Nat → Bool} {i j : Nat} : restB p i j < 2 ^ 64 := natB_lt _ _
theorem restB_bit {p : Nat → Bool} {i j k : Nat} (h : k < 64) : (restB p i j).testBit k = (decide (j ≤ k) && p (64 * i + k)) := by unfold restB; rw [natB_bit]; simp [h]
theorem restB_zero {p : Nat → Bool} {i : Nat} : restB p i 0 = wordB p i := natB_eq fun k hk => by simp
theorem liveN_skip {n m : Nat} {f : Nat → Bool} (h : n ≤ m) (hf : ∀ t, n ≤ t → t < m → f t = false) : liveN m f = liveN n f := by
  obtain ⟨d, rfl⟩ : ∃ d, m = n + d := ⟨m - n, by omega⟩
  induction d with
  | zero => rfl
  | succ d ih =>
    rw [← Nat.add_assoc, liveN_succ, if_neg (by rw [hf (n + d) (by omega) (by omega)]; simp), List.append_nil]
    exact ih (by omega) fun t h1 h2 => hf t h1 (by omega)
theorem rest_step {p : Nat → Bool} {i j : Nat} (hj : j ≤ 64) (h : restB p i j ≠ 0) : ∃ k, Lib.ctz 64 (restB p i j) = k ∧ j ≤ k ∧ k < 64 ∧
    liveN (64 * i + (k + 1)) p = liveN (64 * i + j) p ++ [((64 * i + k : Nat) : Int)] ∧ restB p i j &&& (restB p i j - 1) = restB p i (k + 1) := by
  obtain ⟨h1, h2, h3, h4⟩ := ctz_bits (Nat.pos_of_ne_zero h) (restB_lt (p := p) (i := i) (j := j))
  refine ⟨_, rfl, ?_⟩
  generalize Lib.ctz 64 (restB p i j) = k at *
  rw [restB_bit h1] at h2
  simp only [Bool.and_eq_true, decide_eq_true_eq] at h2
  have hz : ∀ t, 64 * i + j ≤ t → t < 64 * i + k → p t = false := fun t ht1 ht2 => by
    have := h3 (t - 64 * i) (by omega)
    rw [restB_bit (by omega)] at this
    rw [show 64 * i + (t - 64 * i) = t by omega, decide_eq_true (by omega)] at this
    simpa using this
  refine ⟨h2.1, h1, ?_, ?_⟩
  · rw [← Nat.add_assoc, liveN_succ, if_pos h2.2, liveN_skip (n := 64 * i + j) (by omega) hz]
  · refine natB_of (Nat.and_lt_two_pow _ (by have := restB_lt (p := p) (i := i) (j := j); omega)) fun b hb => ?_
    rw [h4, restB_bit hb]
    by_cases e : b = k
    · subst e; rw [decide_eq_false (show ¬ b + 1 ≤ b by omega)]; simp
    · by_cases h5 : b < k
      · have h6 := h3 b h5
        rw [restB_bit hb] at h6
        rw [h6, decide_eq_false (show ¬ k + 1 ≤ b by omega)]; simp
      · rw [decide_eq_true (show j ≤ b by omega), decide_eq_true (show k + 1 ≤ b by omega)]; simp [e]
theorem rest_done {p : Nat → Bool} {i j : Nat} (hj : j ≤ 64) (h : restB p i j = 0) : liveN (64 * (i + 1)) p = liveN (64 * i + j) p := by
  refine liveN_skip (by omega) fun t h1 h2 => ?_
  have h3 := restB_bit (p := p) (i := i) (j := j) (k := t - 64 * i) (by omega)
  rw [h, Nat.zero_testBit, show 64 * i + (t - 64 * i) = t by omega, decide_eq_true (by omega)] at h3
  simpa using h3.symm
theorem subI_u64 {x : Nat} (h0 : 0 < x) (hx : x < 2 ^ 64) : subI .u64 (x : Int) 1 = ((x - 1 : Nat) : Int) := by
  unfold subI
  rw [show (x : Int) - 1 = ((x - 1 : Nat) : Int) by omega]
  exact wrap_u64 (by omega)
theorem rest_and {p : Nat → Bool} {i j : Nat} (h : restB p i j ≠ 0) : andI .u64 (restB p i j : Int) (subI .u64 (restB p i j : Int) 1) = ((restB p i j &&& (restB p i j - 1) : Nat) : Int) := by
  have hlt := restB_lt (p := p) (i := i) (j := j)
  rw [subI_u64 (Nat.pos_of_ne_zero h) hlt, andI_u64 hlt (by omega)]
end Go.Proofs.YtgnafgebenlffaaDoor.Am

/- What is needed at each block's beginning, by the program. -/
namespace Go.Proofs.YtgnafgebenlffaaDoor.Am
open Go Go.Proofs
set_option maxRecDepth 10000
set_option maxHeartbeats 2000000
set_option linter.unusedVariables false
set_option linter.unusedSimpArgs false
def cellL (l : List Int) : T := match l with
  | [] => .nsl
  | x :: l => .nst 3 1 ((x :: l).map fun n => .int .i64 n)
def outR (m b : Nat) (f : Nat → List Int) (cur : T) : List T := (List.range m).map fun i => if i < b then cellL (f i) else if i = b then cur else .nsl
theorem outR_len {m b : Nat} {f : Nat → List Int} {cur : T} : (outR m b f cur).length = m := by unfold outR; simp
theorem outR_at {m b i : Nat} {f : Nat → List Int} {cur : T} (hi : Ob (i = b ∧ b < m)) {K : T → Prop} (hk : K cur) : exE (outR m b f cur) i K := by
  obtain ⟨rfl, h⟩ := hi.out
  refine exE.at (x := cur) ?_ hk
  rw [nth_eq]
  unfold outR
  rw [List.getElem?_map, List.getElem?_range h]
  simp
theorem outR_at2 {m b i j : Nat} {f : Nat → List Int} {cur x : T} (hi : Ob (i = j ∧ i < m)) {K : T → Prop} (hk : K x) : exE ((outR m b f cur).set i x) j K := by
  obtain ⟨rfl, h⟩ := hi.out
  exact exE.setSame (by rw [outR_len]; exact h) hk
theorem mul64 {i : Nat} (h : i < 125) : mulI .i64 64 (i : Int) = ((64 * i : Nat) : Int) := by
  unfold mulI
  simp only [IntKind.wrap, IntKind.bits, IntKind.signed]
  simp
  omega
theorem bit_val {i k : Nat} (hi : i < 125) (hk : k < 64) : addI .i64 (mulI .i64 64 (i : Int)) (k : Int) = ((64 * i + k : Nat) : Int) := by
  rw [mul64 hi, addI_i64 (by omega) (by omega)]
  omega
theorem outR_set {m b : Nat} {f : Nat → List Int} {cur x : T} : (outR m b f cur).set b x = outR m b f x := by
  unfold outR
  apply List.ext_getElem
  · simp
  · intro j h1 h2
    rw [List.getElem_set]
    simp only [List.getElem_map, List.getElem_range]
    by_cases e : b = j
    · subst e; simp
    · have e2 : ¬ j = b := fun h => e h.symm
      rw [if_neg e, if_neg e2, if_neg e2]
theorem outR_next {m b : Nat} {f : Nat → List Int} : outR m b f (cellL (f b)) = outR m (b + 1) f .nsl := by
  unfold outR
  apply List.map_congr_left
  intro i hi
  by_cases h1 : i < b
  · rw [if_pos h1, if_pos (by omega)]
  · rw [if_neg h1]
    by_cases h2 : i = b
    · rw [if_pos h2, if_pos (by omega), h2]
    · rw [if_neg h2, if_neg (by omega)]
      by_cases h3 : i = b + 1
      · rw [if_pos h3]
      · rw [if_neg h3]
theorem outR_zero {m : Nat} {f : Nat → List Int} : List.replicate m T.nsl = outR m 0 f .nsl := by
  unfold outR
  apply List.ext_getElem
  · simp
  · intro j h1 h2
    simp
theorem clean_cellL {l : List Int} : ∀ c ∈ (cellL l).cells, Clean c := by
  intro c hc
  cases l with
  | nil =>
    simp only [cellL, T.cells, List.mem_singleton] at hc
    subst hc
    exact .plain _ .nsl
  | cons x l =>
    simp only [cellL, T.cells, List.mem_singleton] at hc
    subst hc
    exact .nst _ _ _ clean_ints
theorem clean_outR {m b : Nat} {f : Nat → List Int} : ∀ x ∈ outR m b f .nsl, ∀ c ∈ x.cells, Clean c := by
  intro x hx c hc
  obtain ⟨i, _, rfl⟩ := List.mem_map.1 hx
  have hn : ∀ c ∈ (T.nsl).cells, Clean c := clean_cellL (l := [])
  by_cases h1 : i < b
  · rw [if_pos h1] at hc; exact clean_cellL c hc
  · rw [if_neg h1] at hc
    by_cases h2 : i = b
    · rw [if_pos h2] at hc; exact hn c hc
    · rw [if_neg h2] at hc; exact hn c hc
theorem trailing30k (x : Nat) (hx : x < 2 ^ 64) {q : T → Prop} (hq : q (.int .i64 (Lib.ctz 64 x))) : PCalls Tryd.prog 64 [.int .u64 (x : Int)] q := PCalls.mono (trailing30 x hx) fun _ h => h ▸ hq
theorem fits28k (g : Graph) (hg : g.tiny) (hw : ∀ b ∈ g.blocks, ∀ x ∈ allN b.fin, I64 x) {q : T → Prop} (h1 : g.fits → q (.bool true)) (h2 : ¬ g.fits → q (.bool false)) : PCalls Tryd.prog 35 [g.t] q :=
  PCalls.mono (fits28 g hg hw) fun r h => by
    subst h
    by_cases hf : g.fits
    · rw [tr_t hf]; exact h1 hf
    · rw [tr_f hf]; exact h2 hf
@[irreducible] def wordsQ (p : Nat → Bool) : List T := wordsT p
theorem wordsQ_eq {p : Nat → Bool} : wordsQ p = wordsT p := by unfold wordsQ; rfl
theorem wordsQ_len {p : Nat → Bool} : (wordsQ p).length = 125 := by rw [wordsQ_eq]; simp
theorem flatA_wordsQ {p : Nat → Bool} : FlatA (wordsQ p) := by rw [wordsQ_eq]; exact flatA_words
theorem exE.words {p : Nat → Bool} {i : Nat} {K : T → Prop} (h : K (.int .u64 (wordN p i))) : exE (wordsQ p) i K := by
  refine exE.mk fun x hx => ?_
  rw [wordsQ_eq, nth_eq, List.getElem?_map] at hx
  cases hi : (List.range 125)[i]? with
  | none => rw [hi] at hx; cases hx
  | some j =>
    rw [hi] at hx
    rw [List.getElem?_eq_some_iff] at hi
    obtain ⟨h1, h2⟩ := hi
    rw [List.getElem_range] at h2
    subst h2
    injection hx with hx
    exact hx ▸ h
abbrev setsQ (m : Nat) (a : Nat → Nat → Bool) : List T := (List.range m).map fun b => .arr (wordsQ (a b))
theorem setsQ_eq {m : Nat} {a : Nat → Nat → Bool} : setsQ m a = setsR m a := by unfold setsQ setsR; simp only [wordsQ_eq]
theorem needed29k (g : Graph) (hg : g.tiny) (hf : Ob g.fits) (hw : ∀ b ∈ g.blocks, ∀ x ∈ allN b.fin, I64 x) {q : T → Prop} (hq : ∀ a, Least g 8000 a → Inside g a → q (.sl 125 (setsQ g.blocks.length a))) : PCalls Tryd.prog 63 [g.t] q :=
  PCalls.mono (needed29 g (fits_fit hg hf.out) hf.out hw) fun r ⟨a, h1, h2, h3⟩ => by rw [h3, ← setsQ_eq]; exact hq a h1 h2
abbrev liveO (m : Nat) (a : Nat → Nat → Bool) : T := .nst 22 1 (outR m m (fun b => liveN 8000 (a b)) .nsl)
theorem live10 (g : Graph) (hg : g.tiny) (hw : ∀ b ∈ g.blocks, ∀ x ∈ allN b.fin, I64 x) : PCalls Tryd.prog 38 [g.t] (fun r => Ob ((¬ g.fits ∧ r = .own (.tup [.nsl, .int .i64 1])) ∨ (g.fits ∧ ∃ a, Least g 8000 a ∧ Inside g a ∧ r = .own (.tup [liveO g.blocks.length a, .int .i64 0])))) := by
  refine PCalls.of_bodyO ttOk Tryd.func38 rfl ?_
  repeat' ((conv => whnf); first | (with_reducible first | refine onBool_intro (fun _ => ?_) (fun _ => ?_) | refine And.intro (Ob.mk (Nat.le_of_ble_eq_true rfl)) ?_ | refine And.intro (Ob.mk rfl) ?_ | exact ⟨rfl, rfl⟩ | refine And.intro (Ob.mk (fun h => h)) ?_) | (with_reducible refine Or.inl (And.intro (Ob.mk (Flat.map ?_)) ?_); exact fun _ => rfl) | (refine Or.inl (And.intro (Ob.mk (flat_of rfl)) ?_)) | (refine Or.inl (And.intro (Ob.mk ⟨rfl, rfl, rfl, rfl⟩) ?_)) | (refine Or.inl (And.intro (Ob.mk ⟨rfl, rfl, rfl⟩) ?_)) | (refine And.intro (Ob.mk ⟨rfl, rfl⟩) ?_) | (with_reducible refine Or.inr ?_) | (refine And.intro (Ob.mk (flat_of rfl)) ?_) | (with_reducible refine And.intro (Ob.mk (Flat.map ?_)) ?_; exact fun _ => rfl) | (with_reducible first | exact Ob.mk (Flat.map fun _ => rfl) | refine And.intro ?_ ?_ | apply exG.mk | apply exGS.mk | exact Dd.nil) | (refine Dd.same _ ?_) | (refine Dd.dead _ ?_) | (with_reducible first | apply exQ.mk | apply exP.mk) | (refine EqP.mk rfl rfl) | (with_reducible apply exW.mk) | (refine EqW.mk rfl) | (with_reducible first | intro _ | refine Dn.mk ?_) | (refine exS.full (by first | rfl | (simp; done) | (simp; omega)) ?_) | (refine And.intro (Ob.mk ⟨rfl, rfl, by first | rfl | (simp; done) | (simp; omega)⟩) ?_) | (with_reducible refine exE.mapD ?_) | (refine exL.int ?_) | (with_reducible first | refine Up0.mk rfl ?_ | refine Up0i.mk rfl ?_ | refine Up1.mk rfl ?_ | refine Up1i.mk rfl ?_ | refine Up2.mk rfl ?_ | refine Up2i.mk rfl ?_) | (refine Col.mk rfl rfl rfl ?_) | (refine Coli.mk rfl rfl rfl rfl ?_) | (refine fits28k g hg hw (fun hf => ?_) (fun hf => ?_)) | (refine needed29k g hg ?_ hw fun a ha hin => ?_))
  · exact Ob.mk (by simp)
  · exact Ob.mk (Int.le_refl _)
  · refine Ob.mk ?_
    have := hf.most
    show ((g.blocks.map Block.t).length : Int) * (24 : Nat) ≤ _
    rw [List.length_map]; omega
  · have := hf.most
    exact Ob.mk (by rw [List.length_map]; omega)
  · exact Ob.mk hf
  · have hmost := hf.most
    conv => whnf
    refine LoopVC.mk [19, 4] [] (fun m vals σ => ∃ (b : Nat) (ep : Nat → Nat), vals = [.t (.int .i64 b), .osl 2 0 g.blocks.length] ∧ σ = [gvar g, .dead, .nd ep (.row 22 1 (outR g.blocks.length b (fun b => liveN 8000 (a b)) .nsl))] ∧ ep 0 = 0 ∧ b ≤ g.blocks.length ∧ m = g.blocks.length - b) ?_ ?_
    · conv => whnf
      refine ⟨_, 0, e0, ?_, ?_, rfl, Nat.zero_le _, rfl⟩
      · exact congrArg (fun z => [SV.t (.int .i64 0), SV.osl 2 0 z]) (by rw [List.length_map, Int.toNat_natCast])
      · refine congrArg (fun z => [gvar g, .dead, .nd e0 (.row 22 1 z)]) ?_
        rw [List.length_map, Int.toNat_natCast]
        exact outR_zero
    · rintro m vals σ ⟨b, ep, rfl, rfl, hep, hb, hm⟩
      repeat' ((conv => whnf); first | (with_reducible first | refine onBool_intro (fun _ => ?_) (fun _ => ?_) | refine And.intro (Ob.mk (Nat.le_of_ble_eq_true rfl)) ?_ | refine And.intro (Ob.mk rfl) ?_ | exact ⟨rfl, rfl⟩ | refine And.intro (Ob.mk (fun h => h)) ?_) | (with_reducible refine Or.inl (And.intro (Ob.mk (Flat.map ?_)) ?_); exact fun _ => rfl) | (refine Or.inl (And.intro (Ob.mk (flat_of rfl)) ?_)) | (refine Or.inl (And.intro (Ob.mk ⟨rfl, rfl, rfl, rfl⟩) ?_)) | (refine Or.inl (And.intro (Ob.mk ⟨rfl, rfl, rfl⟩) ?_)) | (refine And.intro (Ob.mk ⟨rfl, rfl⟩) ?_) | (with_reducible refine Or.inr ?_) | (refine And.intro (Ob.mk (flat_of rfl)) ?_) | (with_reducible refine And.intro (Ob.mk (Flat.map ?_)) ?_; exact fun _ => rfl) | (with_reducible first | exact Ob.mk (Flat.map fun _ => rfl) | refine And.intro ?_ ?_ | apply exG.mk | apply exGS.mk | exact Dd.nil) | (refine Dd.same _ ?_) | (refine Dd.dead _ ?_) | (with_reducible first | apply exQ.mk | apply exP.mk) | (refine EqP.mk rfl rfl) | (with_reducible apply exW.mk) | (refine EqW.mk rfl) | (with_reducible first | intro _ | refine Dn.mk ?_) | (refine exS.full (by first | rfl | (simp; done) | (simp; omega)) ?_) | (refine And.intro (Ob.mk ⟨rfl, rfl, by first | rfl | (simp; done) | (simp; omega)⟩) ?_) | (with_reducible refine exE.mapD ?_) | (refine exL.int ?_) | (with_reducible first | refine Up0.mk rfl ?_ | refine Up0i.mk rfl ?_ | refine Up1.mk rfl ?_ | refine Up1i.mk rfl ?_ | refine Up2.mk rfl ?_ | refine Up2i.mk rfl ?_) | (refine Col.mk rfl rfl rfl ?_) | (refine Coli.mk rfl rfl rfl rfl ?_) | (with_reducible refine forceTs_iff.2 ?_) | (refine exE.words ?_) | (refine exS.full wordsQ_len.symm ?_))
      all_goals (try exact Ob.mk wordsQ_len)
      all_goals (try exact Ob.mk flatA_wordsQ)
      all_goals (try exact Ob.mk (Nat.le_of_eq (Eq.trans rfl wordsQ_len.symm)))
      · exact Ob.mk (by omega)
      · rename_i h1
        exact Ob.mk (ltI_iff.1 h1)
      · rename_i h1
        have hlt : b < g.blocks.length := by rw [ltI_iff, List.length_map, List.length_range] at h1; omega
        conv => whnf
        refine LoopVC.mk [25, 4] [] (fun m vals σ => ∃ (i : Nat) (ep : Nat → Nat), vals = [.t (.int .i64 i), .osl 4 0 g.blocks.length] ∧ σ = [gvar g, .dead, .dead, .row 102 1 (wordsQ (a b)), .nd ep (.row 22 1 (outR g.blocks.length b (fun b => liveN 8000 (a b)) (cellL (liveN (64 * i) (a b)))))] ∧ ep 0 = 0 ∧ i ≤ 125 ∧ m = 125 - i) ?_ ?_
        · conv => whnf
          refine ⟨_, 0, ep, rfl, ?_, hep, Nat.zero_le _, rfl⟩
          rw [Int.toNat_natCast, nthD_range hlt]
          refine congrArg (fun z => [gvar g, .dead, .dead, .row 102 1 (wordsQ (a b)), .nd ep (.row 22 1 z)]) ?_
          rfl
        · rintro m2 vals σ ⟨i, ep2, rfl, rfl, hep2, hi, hm2⟩
          repeat' ((conv => whnf); first | (with_reducible first | refine onBool_intro (fun _ => ?_) (fun _ => ?_) | refine And.intro (Ob.mk (Nat.le_of_ble_eq_true rfl)) ?_ | refine And.intro (Ob.mk rfl) ?_ | exact ⟨rfl, rfl⟩ | refine And.intro (Ob.mk (fun h => h)) ?_) | (with_reducible refine Or.inl (And.intro (Ob.mk (Flat.map ?_)) ?_); exact fun _ => rfl) | (refine Or.inl (And.intro (Ob.mk (flat_of rfl)) ?_)) | (refine Or.inl (And.intro (Ob.mk ⟨rfl, rfl, rfl, rfl⟩) ?_)) | (refine Or.inl (And.intro (Ob.mk ⟨rfl, rfl, rfl⟩) ?_)) | (refine And.intro (Ob.mk ⟨rfl, rfl⟩) ?_) | (with_reducible refine Or.inr ?_) | (refine And.intro (Ob.mk (flat_of rfl)) ?_) | (with_reducible refine And.intro (Ob.mk (Flat.map ?_)) ?_; exact fun _ => rfl) | (with_reducible first | exact Ob.mk (Flat.map fun _ => rfl) | refine And.intro ?_ ?_ | apply exG.mk | apply exGS.mk | exact Dd.nil) | (refine Dd.same _ ?_) | (refine Dd.dead _ ?_) | (with_reducible first | apply exQ.mk | apply exP.mk) | (refine EqP.mk rfl rfl) | (with_reducible apply exW.mk) | (refine EqW.mk rfl) | (with_reducible first | intro _ | refine Dn.mk ?_) | (refine exS.full (by first | rfl | (simp; done) | (simp; omega)) ?_) | (refine And.intro (Ob.mk ⟨rfl, rfl, by first | rfl | (simp; done) | (simp; omega)⟩) ?_) | (with_reducible refine exE.mapD ?_) | (refine exL.int ?_) | (with_reducible first | refine Up0.mk rfl ?_ | refine Up0i.mk rfl ?_ | refine Up1.mk rfl ?_ | refine Up1i.mk rfl ?_ | refine Up2.mk rfl ?_ | refine Up2i.mk rfl ?_) | (refine Col.mk rfl rfl rfl ?_) | (refine Coli.mk rfl rfl rfl rfl ?_) | (refine exE.words ?_))
          · rename_i h2
            have := ltI_iff.1 h2
            exact Ob.mk ⟨by omega, this⟩
          · exact Ob.mk wordsQ_len
          · rename_i h2
            have hlti : i < 125 := by have := ltI_iff.1 h2; omega
            conv => whnf
            refine LoopVC.mk [8, 4] [] (fun m vals σ => ∃ (j : Nat) (ep : Nat → Nat), vals = [.t (.int .u64 (restB (a b) i j : Nat)), .osl 5 0 g.blocks.length] ∧ σ = [gvar g, .dead, .dead, .row 102 1 (wordsQ (a b)), .dead, .nd ep (.row 22 1 (outR g.blocks.length b (fun b => liveN 8000 (a b)) (cellL (liveN (64 * i + j) (a b)))))] ∧ ep 0 = 0 ∧ j ≤ 64 ∧ m = 64 - j) ?_ ?_
            · conv => whnf
              refine ⟨_, 0, ep2, ?_, rfl, hep2, Nat.zero_le _, rfl⟩
              rw [Int.toNat_natCast, Int.toNat_natCast, nthD_range hlt, restB_zero]
              rfl
            · rintro m3 vals σ ⟨j, ep3, rfl, rfl, hep3, hj, hm3⟩
              have hll := liveN_len (n := 64 * i + j) (f := a b)
              generalize hl : liveN (64 * i + j) (a b) = l at *
              cases l with
              | nil =>
                repeat' ((conv => whnf); first | (with_reducible first | refine onBool_intro (fun _ => ?_) (fun _ => ?_) | refine And.intro (Ob.mk (Nat.le_of_ble_eq_true rfl)) ?_ | refine And.intro (Ob.mk rfl) ?_ | exact ⟨rfl, rfl⟩ | refine And.intro (Ob.mk (fun h => h)) ?_) | (with_reducible refine Or.inl (And.intro (Ob.mk (Flat.map ?_)) ?_); exact fun _ => rfl) | (refine Or.inl (And.intro (Ob.mk (flat_of rfl)) ?_)) | (refine Or.inl (And.intro (Ob.mk ⟨rfl, rfl, rfl, rfl⟩) ?_)) | (refine Or.inl (And.intro (Ob.mk ⟨rfl, rfl, rfl⟩) ?_)) | (refine And.intro (Ob.mk ⟨rfl, rfl⟩) ?_) | (with_reducible refine Or.inr ?_) | (refine And.intro (Ob.mk (flat_of rfl)) ?_) | (with_reducible refine And.intro (Ob.mk (Flat.map ?_)) ?_; exact fun _ => rfl) | (with_reducible first | exact Ob.mk (Flat.map fun _ => rfl) | refine And.intro ?_ ?_ | apply exG.mk | apply exGS.mk | exact Dd.nil) | (refine Dd.same _ ?_) | (refine Dd.dead _ ?_) | (with_reducible first | apply exQ.mk | apply exP.mk) | (refine EqP.mk rfl rfl) | (with_reducible apply exW.mk) | (refine EqW.mk rfl) | (with_reducible first | intro _ | refine Dn.mk ?_) | (refine exS.full (by first | rfl | (simp; done) | (simp; omega)) ?_) | (refine And.intro (Ob.mk ⟨rfl, rfl, by first | rfl | (simp; done) | (simp; omega)⟩) ?_) | (with_reducible refine exE.mapD ?_) | (refine exL.int ?_) | (with_reducible first | refine Up0.mk rfl ?_ | refine Up0i.mk rfl ?_ | refine Up1.mk rfl ?_ | refine Up1i.mk rfl ?_ | refine Up2.mk rfl ?_ | refine Up2i.mk rfl ?_) | (refine Col.mk rfl rfl rfl ?_) | (refine Coli.mk rfl rfl rfl rfl ?_) | (refine drawVC.mkM _ _ 15 15 [(12, [0, 1, 13]), (14, [])] [[], [], [], [], [2, 3], [2, 3, 4], [], [6], [], [8], [6, 7, 8, 9], [6, 7, 8, 9, 10], [2, 3, 4, 5, 6, 7, 8, 9, 10, 11], [0, 1, 2, 3, 4, 5, 6, 7, 8, 9, 10, 11, 12], [0, 1, 2, 3, 4, 5, 6, 7, 8, 9, 10, 11, 12, 13]] rfl (by kernel_rfl) ?_) | (refine outR_at ?_ ?_) | (refine outR_at2 ?_ ?_) | (refine trailing30k _ restB_lt ?_) | (with_reducible apply exV.mk) | (refine EqV.mk rfl rfl))
                all_goals (try (refine Ob.mk ?_; first | assumption | exact ⟨rfl, rfl⟩ | exact ⟨rfl, rfl, rfl⟩ | (refine ⟨rfl, rfl, ?_⟩; simp only [List.length_map, List.length_take, List.length_append, els_len, List.length_replicate]; omega) | (intro h; exact h) | (intro h; rw [h]; rfl) | (intro h; simp_all; done) | (refine bytes_le (n := 1048577) ?_ rfl; simp only [ltI_iff, ltI_not, leI_iff, leI_not, eqI_iff, eqI_not, List.length_map, bif_and, bif_or, Bool.and_eq_true, Bool.and_eq_false_iff, Bool.or_eq_true, Bool.or_eq_false_iff, Bool.not_eq_true', Bool.not_eq_false', Int.toNat_natCast, beq_iff_eq, beq_eq_false_iff_ne, decide_eq_true_eq, decide_eq_false_iff_not, bel_iff, bel_not, wthn_iff, wthn_not, els_len, mixL_len, Nat.zero_add, List.length_set, List.length_take] at *; omega) | (simp only [ltI_iff, ltI_not, leI_iff, leI_not, eqI_iff, eqI_not, List.length_map, bif_and, bif_or, Bool.and_eq_true, Bool.and_eq_false_iff, Bool.or_eq_true, Bool.or_eq_false_iff, Bool.not_eq_true', Bool.not_eq_false', Int.toNat_natCast, beq_iff_eq, beq_eq_false_iff_ne, decide_eq_true_eq, decide_eq_false_iff_not, bel_iff, bel_not, wthn_iff, wthn_not, els_len, mixL_len, Nat.zero_add, List.length_set, List.length_take, Int.ofNat_eq_natCast] at *; omega)))
                all_goals (try exact Ob.mk hep3.symm)
                all_goals (try exact Ob.mk (by (try rw [List.length_set]); rw [outR_len, Int.toNat_natCast]; omega))
                all_goals (try exact Ob.mk ⟨by rw [Int.toNat_natCast]; omega, hlt⟩)
                all_goals (try exact Ob.mk ⟨rfl, by rw [Int.toNat_natCast]; omega⟩)
                all_goals (try exact Ob.mk ⟨rfl, rfl, by simp⟩)
                · rename_i h3
                  have hne : restB (a b) i j ≠ 0 := by
                    intro e; rw [e] at h3; simp [eqI] at h3
                  obtain ⟨k, hk1, hk2, hk3, hk4, hk5⟩ := rest_step hj hne
                  conv => whnf
                  refine ⟨64 - (k + 1), by omega, k + 1, bumpE 1 ep3, ?_, ?_, hep3, by omega, rfl⟩
                  · rw [rest_and hne, hk5]
                    rfl
                  · rw [hk4, hl]
                    rw [hk1, bit_val hlti hk3, Nat.zero_add, Int.toNat_natCast]
                    exact congrArg (fun z => [gvar g, .dead, .dead, .row 102 1 (wordsQ (a b)), .dead, .nd (bumpE 1 ep3) (.row 22 1 z)]) outR_set
                · rename_i h3
                  have h0 : restB (a b) i j = 0 := by
                    have := h3
                    simp only [Bool.not_eq_false', eqI_iff] at this
                    omega
                  conv => whnf
                  refine ⟨125 - (i + 1), by omega, i + 1, ep3, ?_, ?_, hep3, by omega, rfl⟩
                  · rw [addI_i64 (by omega) (by omega)]; rfl
                  · rw [rest_done hj h0, hl]
              | cons y l =>
                repeat' ((conv => whnf); first | (with_reducible first | refine onBool_intro (fun _ => ?_) (fun _ => ?_) | refine And.intro (Ob.mk (Nat.le_of_ble_eq_true rfl)) ?_ | refine And.intro (Ob.mk rfl) ?_ | exact ⟨rfl, rfl⟩ | refine And.intro (Ob.mk (fun h => h)) ?_) | (with_reducible refine Or.inl (And.intro (Ob.mk (Flat.map ?_)) ?_); exact fun _ => rfl) | (refine Or.inl (And.intro (Ob.mk (flat_of rfl)) ?_)) | (refine Or.inl (And.intro (Ob.mk ⟨rfl, rfl, rfl, rfl⟩) ?_)) | (refine Or.inl (And.intro (Ob.mk ⟨rfl, rfl, rfl⟩) ?_)) | (refine And.intro (Ob.mk ⟨rfl, rfl⟩) ?_) | (with_reducible refine Or.inr ?_) | (refine And.intro (Ob.mk (flat_of rfl)) ?_) | (with_reducible refine And.intro (Ob.mk (Flat.map ?_)) ?_; exact fun _ => rfl) | (with_reducible first | exact Ob.mk (Flat.map fun _ => rfl) | refine And.intro ?_ ?_ | apply exG.mk | apply exGS.mk | exact Dd.nil) | (refine Dd.same _ ?_) | (refine Dd.dead _ ?_) | (with_reducible first | apply exQ.mk | apply exP.mk) | (refine EqP.mk rfl rfl) | (with_reducible apply exW.mk) | (refine EqW.mk rfl) | (with_reducible first | intro _ | refine Dn.mk ?_) | (refine exS.full (by first | rfl | (simp; done) | (simp; omega)) ?_) | (refine And.intro (Ob.mk ⟨rfl, rfl, by first | rfl | (simp; done) | (simp; omega)⟩) ?_) | (with_reducible refine exE.mapD ?_) | (refine exL.int ?_) | (with_reducible first | refine Up0.mk rfl ?_ | refine Up0i.mk rfl ?_ | refine Up1.mk rfl ?_ | refine Up1i.mk rfl ?_ | refine Up2.mk rfl ?_ | refine Up2i.mk rfl ?_) | (refine Col.mk rfl rfl rfl ?_) | (refine Coli.mk rfl rfl rfl rfl ?_) | (refine drawVC.mkM _ _ 15 15 [(12, [0, 1, 13]), (14, [])] [[], [], [], [], [2, 3], [2, 3, 4], [], [6], [], [8], [6, 7, 8, 9], [6, 7, 8, 9, 10], [2, 3, 4, 5, 6, 7, 8, 9, 10, 11], [0, 1, 2, 3, 4, 5, 6, 7, 8, 9, 10, 11, 12], [0, 1, 2, 3, 4, 5, 6, 7, 8, 9, 10, 11, 12, 13]] rfl (by kernel_rfl) ?_) | (refine outR_at ?_ ?_) | (refine outR_at2 ?_ ?_) | (refine trailing30k _ restB_lt ?_) | (with_reducible apply exV.mk) | (refine EqV.mk rfl rfl))
                all_goals (try (refine Ob.mk ?_; first | assumption | exact ⟨rfl, rfl⟩ | exact ⟨rfl, rfl, rfl⟩ | (refine ⟨rfl, rfl, ?_⟩; simp only [List.length_map, List.length_take, List.length_append, els_len, List.length_replicate]; omega) | (intro h; exact h) | (intro h; rw [h]; rfl) | (intro h; simp_all; done) | (refine bytes_le (n := 1048577) ?_ rfl; simp only [ltI_iff, ltI_not, leI_iff, leI_not, eqI_iff, eqI_not, List.length_map, bif_and, bif_or, Bool.and_eq_true, Bool.and_eq_false_iff, Bool.or_eq_true, Bool.or_eq_false_iff, Bool.not_eq_true', Bool.not_eq_false', Int.toNat_natCast, beq_iff_eq, beq_eq_false_iff_ne, decide_eq_true_eq, decide_eq_false_iff_not, bel_iff, bel_not, wthn_iff, wthn_not, els_len, mixL_len, Nat.zero_add, List.length_set, List.length_take] at *; omega) | (simp only [ltI_iff, ltI_not, leI_iff, leI_not, eqI_iff, eqI_not, List.length_map, bif_and, bif_or, Bool.and_eq_true, Bool.and_eq_false_iff, Bool.or_eq_true, Bool.or_eq_false_iff, Bool.not_eq_true', Bool.not_eq_false', Int.toNat_natCast, beq_iff_eq, beq_eq_false_iff_ne, decide_eq_true_eq, decide_eq_false_iff_not, bel_iff, bel_not, wthn_iff, wthn_not, els_len, mixL_len, Nat.zero_add, List.length_set, List.length_take, Int.ofNat_eq_natCast] at *; omega)))
                all_goals (try exact Ob.mk hep3.symm)
                all_goals (try exact Ob.mk (by (try rw [List.length_set]); rw [outR_len, Int.toNat_natCast]; omega))
                all_goals (try exact Ob.mk ⟨by rw [Int.toNat_natCast]; omega, hlt⟩)
                all_goals (try exact Ob.mk ⟨rfl, by rw [Int.toNat_natCast]; omega⟩)
                all_goals (try exact Ob.mk ⟨rfl, rfl, by simp⟩)
                · rename_i h3
                  have hne : restB (a b) i j ≠ 0 := by
                    intro e; rw [e] at h3; simp [eqI] at h3
                  obtain ⟨k, hk1, hk2, hk3, hk4, hk5⟩ := rest_step hj hne
                  conv => whnf
                  refine ⟨64 - (k + 1), by omega, k + 1, bumpE 1 ep3, ?_, ?_, hep3, by omega, rfl⟩
                  · rw [rest_and hne, hk5]
                    rfl
                  · rw [hk4, hl]
                    rw [hk1, bit_val hlti hk3, Nat.zero_add, Int.toNat_natCast]
                    refine congrArg (fun z => [gvar g, .dead, .dead, .row 102 1 (wordsQ (a b)), .dead, .nd (bumpE 1 ep3) (.row 22 1 z)]) (Eq.trans (List.set_set ..) (Eq.trans outR_set ?_))
                    exact congrArg (fun z => outR g.blocks.length b (fun b => liveN 8000 (a b)) (.nst 3 1 z)) (by simp; rfl)
                · rename_i h3
                  have h0 : restB (a b) i j = 0 := by
                    have := h3
                    simp only [Bool.not_eq_false', eqI_iff] at this
                    omega
                  conv => whnf
                  refine ⟨125 - (i + 1), by omega, i + 1, ep3, ?_, ?_, hep3, by omega, rfl⟩
                  · rw [addI_i64 (by omega) (by omega)]; rfl
                  · rw [rest_done hj h0, hl]
          · rename_i h2
            have hi125 : i = 125 := by rw [ltI_not] at h2; omega
            subst hi125
            conv => whnf
            refine ⟨g.blocks.length - (b + 1), by omega, b + 1, ep2, ?_, ?_, hep2, hlt, rfl⟩
            · rw [addI_i64 (by omega) (by omega)]; rfl
            · exact congrArg (fun z => [gvar g, .dead, .nd ep2 (.row 22 1 z)]) (outR_next (f := fun b => liveN 8000 (a b)))
      · exact Ob.mk ⟨rfl, rfl, outR_len.symm⟩
      · exact Ob.mk clean_outR
      · rename_i h1
        have hbe : b = g.blocks.length := by rw [ltI_not, List.length_map, List.length_range] at h1; omega
        subst hbe
        exact Ob.mk (.inr ⟨hf, a, ha, hin, rfl⟩)
  · exact Ob.mk (.inl ⟨hf, rfl⟩)
end Go.Proofs.YtgnafgebenlffaaDoor.Am

/- The document's copies: memory of the caller's own. -/
namespace Go.Proofs.YtgnafgebenlffaaDoor.Am
open Go Go.Proofs
set_option maxRecDepth 10000
set_option linter.unusedVariables false
set_option linter.unusedSimpArgs false
set_option maxHeartbeats 1000000
end Go.Proofs.YtgnafgebenlffaaDoor.Am

/- LiveTells: the law's own functions. -/
namespace Go.Proofs.YtgnafgebenlffaaDoor.Am
open Go Go.Proofs
set_option maxRecDepth 10000
set_option maxHeartbeats 2000000
set_option linter.unusedVariables false
set_option linter.unusedSimpArgs false
theorem Least.cut {g : Graph} (hg : ∀ b, b < g.blocks.length → ∀ s ∈ nextN g b, 0 ≤ s ∧ s < g.blocks.length) {n N : Nat} (hn : n ≤ N) {a : Nat → Nat → Bool} (h : Least g N a) : Least g n a := by
  refine ⟨⟨fun i hi t ht => h.up i hi t (by omega), fun p hp i hi t ht h1 => ?_⟩, fun i hi t ht => h.down i hi t (by omega)⟩
  have h2 : LeB g.blocks.length N a (fun i t => if t < n then p i t else true) := by
    refine h.least _ fun j hj u hu h3 => ?_
    show (if u < n then p j u else true) = true
    by_cases e : u < n
    · rw [if_pos e]
      refine hp j hj u e (stepF_mono hg (n := n) (a := fun i t => if t < n then p i t else true) (fun i' hi' t' ht' h4 => ?_) hj e h3)
      have h4 : (if t' < n then p i' t' else true) = true := h4
      rw [if_pos ht'] at h4
      exact h4
    · rw [if_neg e]
  have h3 := h2 i hi t (by omega) h1
  have h3 : (if t < n then p i t else true) = true := h3
  rw [if_pos ht] at h3
  exact h3
abbrev lists (l : List (List Int)) : T := .sl 1 (l.map ilist)
theorem cellL_le {l : List Int} : LeL (cellL l).cells (ilist l).cells := by
  cases l with
  | nil => exact .cons (.nsl 1) .nil
  | cons x l => exact .cons (nst_le _ _ _) .nil
theorem outR_full {m : Nat} {f : Nat → List Int} : outR m m f .nsl = (List.range m).map fun b => cellL (f b) := by
  unfold outR
  apply List.map_congr_left
  intro i hi
  rw [if_pos (by simpa using hi)]
theorem outR_le {m : Nat} {f : Nat → List Int} : Le (.sl 1 (outR m m f .nsl)) (lists ((List.range m).map f)) := by
  rw [outR_full]
  unfold lists
  rw [List.map_map]
  exact Le.slmap (f := fun b => cellL (f b)) (g := fun b => ilist (f b)) (fun b => cellL_le) fun _ => rfl
end Go.Proofs.YtgnafgebenlffaaDoor.Am

/- LiveTells: the law's own graph; the law. -/
namespace Go.Proofs.YtgnafgebenlffaaDoor.Am
open Go Go.Proofs
set_option maxRecDepth 10000
set_option maxHeartbeats 2000000
set_option linter.unusedVariables false
set_option linter.unusedSimpArgs false
end Go.Proofs.YtgnafgebenlffaaDoor.Am

/- What the program's Live tells, read. -/
namespace Go.Proofs.YtgnafgebenlffaaDoor.Am
open Go Go.Proofs
set_option maxRecDepth 10000
set_option maxHeartbeats 2000000
set_option linter.unusedVariables false
set_option linter.unusedSimpArgs false
theorem PCalls.freezeE {P : Program} {f : FuncId} {ts : List T} {q : T → Prop} (h : PCalls P f ts fun r => ∃ x, r = .own x ∧ frzK 20 (opn 4 0 x).2 (opn 4 0 x).1 fun t => t.notOwn = true ∧ q t) : PCalls P f ts q := by
  unfold PCalls at *
  refine ⟨h.1, ?_⟩
  intro F w vs h1 h2 h3
  refine (h.2 F w vs h1 h2 h3).mono ?_
  rintro e w' ⟨r, mv, F', rfl, ⟨x, rfl, hf⟩, ⟨ownx, rx, vx, hx⟩, g1, g2, g3, g4⟩
  obtain ⟨t, ⟨ht, hq⟩, hvt⟩ := frzK_VT rx 20 vx hf
  obtain ⟨L, hL⟩ : ∃ L, L = ids 20 (opn 4 0 x).2 (opn 4 0 x).1 := ⟨_, rfl⟩
  rw [← hL] at hvt
  have hvt' : RT (fun b => F' b ∨ Fk ownx TF L b) w.heap.size w' t mv := by
    have hv : VT (fun b => F' b ∨ Fk ownx TF L b) w' t mv := hvt.sub fun b hb => .inr hb
    cases t <;> first | exact hv | exact nomatch ht
  refine ⟨_, mv, fun b => F' b ∨ Fk ownx TF L b, rfl, hq, hvt', ?_, ?_, fun b hb => .inl (g3 b hb), g4⟩
  · rintro b (h | ⟨h | ⟨k, hk, h⟩⟩)
    · exact g1 b h
    · exact .inl (h3.tf b h)
    · exact .inr (hx k b h).1
  · rintro b (h | ⟨h | ⟨k, hk, h⟩⟩)
    · exact g2 b h
    · exact g2 b (g3 b (h3.tf b h))
    · exact rx.lb k b h
abbrev tells (m : Nat) (a : Nat → Nat → Bool) : List (List Int) := (List.range m).map fun b => liveN 8000 (a b)
theorem live10f (g : Graph) (hg : g.tiny) (hw : ∀ b ∈ g.blocks, ∀ x ∈ allN b.fin, I64 x) {q : T → Prop} (h1 : ¬ g.fits → ∀ e, e = 1 → q (.tup [.nsl, .int .i64 e])) (h2 : ∀ a, g.fits → Least g 8000 a → Inside g a → ∀ e, e = 0 → q (.tup [lists (tells g.blocks.length a), .int .i64 e])) : PCalls Tryd.prog 38 [g.t] q := by
  refine PCalls.le (PCalls.freezeE (q := fun r => ∃ x, Le r x ∧ q x) (PCalls.mono (live10 g hg hw) ?_)) fun r h => h
  intro r h
  rcases h.out with ⟨hf, rfl⟩ | ⟨hf, a, ha, hin, rfl⟩
  · refine ⟨_, rfl, ?_⟩
    conv => whnf
    exact ⟨rfl, _, Le.refl _, h1 hf 1 rfl⟩
  · refine ⟨_, rfl, ?_⟩
    conv => whnf
    refine ⟨Ob.mk rfl, ?_⟩
    refine exS.full rfl ?_
    exact ⟨rfl, _, Le.tupL (.cons outR_le (.cons (.refl _) .nil)), h2 a hf ha hin 0 rfl⟩
theorem liveN_has {n : Nat} {f : Nat → Bool} {t : Nat} (h : t < n) : (liveN n f).contains (t : Int) = f t := by
  rw [Bool.eq_iff_iff, List.contains_iff_mem]
  unfold liveN
  rw [List.mem_map]
  constructor
  · rintro ⟨u, hu, e⟩
    have : u = t := Int.ofNat.inj e
    subst this
    exact (List.mem_filter.1 hu).2
  · intro hf
    exact ⟨t, List.mem_filter.2 ⟨by simpa using h, hf⟩, rfl⟩
theorem tells_len {m : Nat} {a : Nat → Nat → Bool} : (tells m a).length = m := by simp
theorem tells_at {m b : Nat} {a : Nat → Nat → Bool} (hb : b < m) : nthD (tells m a) b = liveN 8000 (a b) := by
  rw [nthD_get (by simpa using hb)]
  simp
end Go.Proofs.YtgnafgebenlffaaDoor.Am

/- Frames: what arrays may be, by both texts. -/
namespace Go.Proofs.YtgnafgebenlffaaDoor.Am
open Go Go.Proofs
set_option maxRecDepth 10000
set_option maxHeartbeats 2000000
set_option linter.unusedVariables false
set_option linter.unusedSimpArgs false
def arrF (a : Arr) : Bool := decide (a.kind = 1) || decide (a.kind = 3) || (decide (a.kind = 2) && wthn a.n 1 1000)
def wordsF (l : List Arr) : Int := ((l.filter fun a => decide (a.kind = 2)).map (·.n)).sum
def parsF (l : List Arr) : Int := ((l.filter fun a => decide (a.kind = 3)).length : Nat)
def arrsF (l : List Arr) : Bool := decide (l.length ≤ 500) && l.all arrF && decide (wordsF l ≤ 1000) && decide (parsF l ≤ 8)
theorem wordsF_succ {l : List Arr} {i : Nat} (h : i < l.length) : wordsF (l.take (i + 1)) = wordsF (l.take i) + if (nthD l i).kind = 2 then (nthD l i).n else 0 := by
  unfold wordsF
  rw [take_succ_nthD h, List.filter_append, List.map_append, List.sum_append]
  by_cases hk : (nthD l i).kind = 2 <;> simp [hk]
theorem parsF_succ {l : List Arr} {i : Nat} (h : i < l.length) : parsF (l.take (i + 1)) = parsF (l.take i) + if (nthD l i).kind = 3 then 1 else 0 := by
  unfold parsF
  rw [take_succ_nthD h, List.filter_append, List.length_append]
  by_cases hk : (nthD l i).kind = 3 <;> simp [hk]
structure ArrI (l : List Arr) (i : Nat) (w p : Int) : Prop where
  ew : w = wordsF (l.take i)
  ep : p = parsF (l.take i)
  w0 : 0 ≤ w
  w1 : w ≤ 1000 * i
  p0 : 0 ≤ p
  p1 : p ≤ i
  ok : (l.take i).all arrF = true
theorem ArrI.zero {l : List Arr} : ArrI l 0 0 0 := ⟨rfl, rfl, by omega, by omega, by omega, by omega, rfl⟩
theorem ArrI.one {l : List Arr} {i : Nat} {w p : Int} (h : ArrI l i w p) (hi : i < l.length) (hk : (nthD l i).kind = 1) : ArrI l (i + 1) w p := by
  have hw := h.w1; have hp := h.p1
  refine ⟨?_, ?_, h.w0, by push_cast; omega, h.p0, by push_cast; omega, ?_⟩
  · rw [wordsF_succ hi, if_neg (by omega), ← h.ew]; omega
  · rw [parsF_succ hi, if_neg (by omega), ← h.ep]; omega
  · rw [all_take_succ _ hi, h.ok]; simp [arrF, hk]
theorem ArrI.par {l : List Arr} {i : Nat} {w p : Int} (h : ArrI l i w p) (hi : i < l.length) (hk : (nthD l i).kind = 3) : ArrI l (i + 1) w (p + 1) := by
  have hw := h.w1; have hp := h.p1; have hp0 := h.p0
  refine ⟨?_, ?_, h.w0, by push_cast; omega, by omega, by push_cast; omega, ?_⟩
  · rw [wordsF_succ hi, if_neg (by omega), ← h.ew]; omega
  · rw [parsF_succ hi, if_pos hk, ← h.ep]
  · rw [all_take_succ _ hi, h.ok]; simp [arrF, hk]
theorem ArrI.loc {l : List Arr} {i : Nat} {w p : Int} (h : ArrI l i w p) (hi : i < l.length) (hk : (nthD l i).kind = 2) (h1 : 1 ≤ (nthD l i).n) (h2 : (nthD l i).n ≤ 1000) : ArrI l (i + 1) (w + (nthD l i).n) p := by
  have hw := h.w1; have hp := h.p1; have hw0 := h.w0
  refine ⟨?_, ?_, by omega, by push_cast; omega, h.p0, by push_cast; omega, ?_⟩
  · rw [wordsF_succ hi, if_pos hk, ← h.ew]
  · rw [parsF_succ hi, if_neg (by omega), ← h.ep]; omega
  · rw [all_take_succ _ hi, h.ok]; simp [arrF, hk, wthn_iff]; omega
theorem ArrI.done {l : List Arr} {i : Nat} {w p : Int} (h : ArrI l i w p) (hi : l.length ≤ i) : w = wordsF l ∧ p = parsF l ∧ l.all arrF = true := by
  have h1 := h.ew; have h2 := h.ep; have h3 := h.ok
  rw [List.take_of_length_le hi] at h1 h2 h3
  exact ⟨h1, h2, h3⟩
theorem arrsF_bad {l : List Arr} {i : Nat} (hi : i < l.length) (h : arrF (nthD l i) = false) : arrsF l = false := by
  unfold arrsF
  rw [all_false_at arrF hi h]
  simp
theorem arrF_loc {a : Arr} (hk : a.kind = 2) (h : (bif ltI a.n 1 then true else ltI 1000 a.n) = true) : arrF a = false := by
  simp only [bif_or, Bool.or_eq_true, ltI_iff] at h
  rw [Bool.eq_false_iff]
  simp only [arrF, ne_eq, Bool.or_eq_true, Bool.and_eq_true, decide_eq_true_eq, wthn_iff]
  omega
theorem arrF_none {a : Arr} (h1 : a.kind ≠ 1) (h2 : a.kind ≠ 2) (h3 : a.kind ≠ 3) : arrF a = false := by
  rw [Bool.eq_false_iff]
  simp only [arrF, ne_eq, Bool.or_eq_true, Bool.and_eq_true, decide_eq_true_eq]
  omega
def ArrR (l : List Arr) (r : T) : Prop := (arrsF l = true ∧ r = .tup [.int .i64 (wordsF l), .int .i64 (parsF l), .bool true]) ∨ (arrsF l = false ∧ ∃ w p : Int, r = .tup [.int .i64 w, .int .i64 p, .bool false])
theorem ArrR.of {l : List Arr} {w p : Int} {b : Bool} (hw : w = wordsF l) (hp : p = parsF l) (hb : b = arrsF l) : ArrR l (.tup [.int .i64 w, .int .i64 p, .bool b]) := by
  subst hw hp hb
  cases h : arrsF l with
  | true => exact .inl ⟨h, rfl⟩
  | false => exact .inr ⟨h, _, _, rfl⟩
theorem words18 (l : List Arr) (hl : l.length ≤ 2 ^ 20) : PCalls Tryd.prog 18 [.sl 2 (l.map Arr.t)] (fun r => Ob (ArrR l r)) := by
  refine PCalls.of_body ttOk Tryd.func18 rfl ?_
  repeat' ((conv => whnf); first | (with_reducible first | refine onBool_intro (fun _ => ?_) (fun _ => ?_) | refine And.intro (Ob.mk (Nat.le_of_ble_eq_true rfl)) ?_ | refine And.intro (Ob.mk rfl) ?_ | exact ⟨rfl, rfl⟩ | refine And.intro (Ob.mk (fun h => h)) ?_) | (with_reducible refine Or.inl (And.intro (Ob.mk (Flat.map ?_)) ?_); exact fun _ => rfl) | (refine Or.inl (And.intro (Ob.mk (flat_of rfl)) ?_)) | (refine Or.inl (And.intro (Ob.mk ⟨rfl, rfl, rfl, rfl⟩) ?_)) | (refine Or.inl (And.intro (Ob.mk ⟨rfl, rfl, rfl⟩) ?_)) | (refine And.intro (Ob.mk ⟨rfl, rfl⟩) ?_) | (with_reducible refine Or.inr ?_) | (refine And.intro (Ob.mk (flat_of rfl)) ?_) | (with_reducible refine And.intro (Ob.mk (Flat.map ?_)) ?_; exact fun _ => rfl) | (with_reducible first | exact Ob.mk (Flat.map fun _ => rfl) | refine And.intro ?_ ?_ | apply exG.mk | apply exGS.mk | exact Dd.nil) | (refine Dd.same _ ?_) | (refine Dd.dead _ ?_) | (with_reducible first | apply exQ.mk | apply exP.mk) | (refine EqP.mk rfl rfl) | (with_reducible apply exW.mk) | (refine EqW.mk rfl) | (with_reducible first | intro _ | refine Dn.mk ?_) | (refine exS.full (by first | rfl | (simp; done) | (simp; omega)) ?_) | (refine And.intro (Ob.mk ⟨rfl, rfl, by first | rfl | (simp; done) | (simp; omega)⟩) ?_) | (with_reducible refine exE.mapD ?_) | (refine exL.int ?_) | (with_reducible first | refine Up0.mk rfl ?_ | refine Up0i.mk rfl ?_ | refine Up1.mk rfl ?_ | refine Up1i.mk rfl ?_ | refine Up2.mk rfl ?_ | refine Up2i.mk rfl ?_) | (refine Col.mk rfl rfl rfl ?_) | (refine Coli.mk rfl rfl rfl rfl ?_))
  conv => whnf
  refine LoopVC.up2 11 5 6 l.length (ArrI l) ?_ ?_
  · repeat' ((conv => whnf); first | (with_reducible first | refine onBool_intro (fun _ => ?_) (fun _ => ?_) | refine And.intro (Ob.mk (Nat.le_of_ble_eq_true rfl)) ?_ | refine And.intro (Ob.mk rfl) ?_ | exact ⟨rfl, rfl⟩ | refine And.intro (Ob.mk (fun h => h)) ?_) | (with_reducible refine Or.inl (And.intro (Ob.mk (Flat.map ?_)) ?_); exact fun _ => rfl) | (refine Or.inl (And.intro (Ob.mk (flat_of rfl)) ?_)) | (refine Or.inl (And.intro (Ob.mk ⟨rfl, rfl, rfl, rfl⟩) ?_)) | (refine Or.inl (And.intro (Ob.mk ⟨rfl, rfl, rfl⟩) ?_)) | (refine And.intro (Ob.mk ⟨rfl, rfl⟩) ?_) | (with_reducible refine Or.inr ?_) | (refine And.intro (Ob.mk (flat_of rfl)) ?_) | (with_reducible refine And.intro (Ob.mk (Flat.map ?_)) ?_; exact fun _ => rfl) | (with_reducible first | exact Ob.mk (Flat.map fun _ => rfl) | refine And.intro ?_ ?_ | apply exG.mk | apply exGS.mk | exact Dd.nil) | (refine Dd.same _ ?_) | (refine Dd.dead _ ?_) | (with_reducible first | apply exQ.mk | apply exP.mk) | (refine EqP.mk rfl rfl) | (with_reducible apply exW.mk) | (refine EqW.mk rfl) | (with_reducible first | intro _ | refine Dn.mk ?_) | (refine exS.full (by first | rfl | (simp; done) | (simp; omega)) ?_) | (refine And.intro (Ob.mk ⟨rfl, rfl, by first | rfl | (simp; done) | (simp; omega)⟩) ?_) | (with_reducible refine exE.mapD ?_) | (refine exL.int ?_) | (with_reducible first | refine Up0.mk rfl ?_ | refine Up0i.mk rfl ?_ | refine Up1.mk rfl ?_ | refine Up1i.mk rfl ?_ | refine Up2.mk rfl ?_ | refine Up2i.mk rfl ?_) | (refine Col.mk rfl rfl rfl ?_) | (refine Coli.mk rfl rfl rfl rfl ?_))
    exact Ob.mk .zero
  · intro i w p hi he
    have hw := he.w1; have hw0 := he.w0; have hp := he.p1; have hp0 := he.p0
    repeat' ((conv => whnf); first | (with_reducible first | refine onBool_intro (fun _ => ?_) (fun _ => ?_) | refine And.intro (Ob.mk (Nat.le_of_ble_eq_true rfl)) ?_ | refine And.intro (Ob.mk rfl) ?_ | exact ⟨rfl, rfl⟩ | refine And.intro (Ob.mk (fun h => h)) ?_) | (with_reducible refine Or.inl (And.intro (Ob.mk (Flat.map ?_)) ?_); exact fun _ => rfl) | (refine Or.inl (And.intro (Ob.mk (flat_of rfl)) ?_)) | (refine Or.inl (And.intro (Ob.mk ⟨rfl, rfl, rfl, rfl⟩) ?_)) | (refine Or.inl (And.intro (Ob.mk ⟨rfl, rfl, rfl⟩) ?_)) | (refine And.intro (Ob.mk ⟨rfl, rfl⟩) ?_) | (with_reducible refine Or.inr ?_) | (refine And.intro (Ob.mk (flat_of rfl)) ?_) | (with_reducible refine And.intro (Ob.mk (Flat.map ?_)) ?_; exact fun _ => rfl) | (with_reducible first | exact Ob.mk (Flat.map fun _ => rfl) | refine And.intro ?_ ?_ | apply exG.mk | apply exGS.mk | exact Dd.nil) | (refine Dd.same _ ?_) | (refine Dd.dead _ ?_) | (with_reducible first | apply exQ.mk | apply exP.mk) | (refine EqP.mk rfl rfl) | (with_reducible apply exW.mk) | (refine EqW.mk rfl) | (with_reducible first | intro _ | refine Dn.mk ?_) | (refine exS.full (by first | rfl | (simp; done) | (simp; omega)) ?_) | (refine And.intro (Ob.mk ⟨rfl, rfl, by first | rfl | (simp; done) | (simp; omega)⟩) ?_) | (with_reducible refine exE.mapD ?_) | (refine exL.int ?_) | (with_reducible first | refine Up0.mk rfl ?_ | refine Up0i.mk rfl ?_ | refine Up1.mk rfl ?_ | refine Up1i.mk rfl ?_ | refine Up2.mk rfl ?_ | refine Up2i.mk rfl ?_) | (refine Col.mk rfl rfl rfl ?_) | (refine Coli.mk rfl rfl rfl rfl ?_))
    all_goals (try (refine Ob.mk ?_; first | assumption | exact ⟨rfl, rfl⟩ | exact ⟨rfl, rfl, rfl⟩ | (refine ⟨rfl, rfl, ?_⟩; simp only [List.length_map, List.length_take, List.length_append, els_len, List.length_replicate]; omega) | (intro h; exact h) | (intro h; rw [h]; rfl) | (intro h; simp_all; done) | (refine bytes_le (n := 1048577) ?_ rfl; simp only [ltI_iff, ltI_not, leI_iff, leI_not, eqI_iff, eqI_not, List.length_map, bif_and, bif_or, Bool.and_eq_true, Bool.and_eq_false_iff, Bool.or_eq_true, Bool.or_eq_false_iff, Bool.not_eq_true', Bool.not_eq_false', Int.toNat_natCast, beq_iff_eq, beq_eq_false_iff_ne, decide_eq_true_eq, decide_eq_false_iff_not, bel_iff, bel_not, wthn_iff, wthn_not, els_len, mixL_len, Nat.zero_add, List.length_set, List.length_take] at *; omega) | (simp only [ltI_iff, ltI_not, leI_iff, leI_not, eqI_iff, eqI_not, List.length_map, bif_and, bif_or, Bool.and_eq_true, Bool.and_eq_false_iff, Bool.or_eq_true, Bool.or_eq_false_iff, Bool.not_eq_true', Bool.not_eq_false', Int.toNat_natCast, beq_iff_eq, beq_eq_false_iff_ne, decide_eq_true_eq, decide_eq_false_iff_not, bel_iff, bel_not, wthn_iff, wthn_not, els_len, mixL_len, Nat.zero_add, List.length_set, List.length_take, Int.ofNat_eq_natCast] at *; omega)))
    · rename_i h1 h2
      simp only [ltI_iff, ltI_not, leI_iff, leI_not, eqI_iff, eqI_not, List.length_map, bif_and, bif_or, Bool.and_eq_true, Bool.and_eq_false_iff, Bool.or_eq_true, Bool.or_eq_false_iff, Bool.not_eq_true', Bool.not_eq_false', Int.toNat_natCast, beq_iff_eq, beq_eq_false_iff_ne, decide_eq_true_eq, decide_eq_false_iff_not] at *
      exact Ob.mk ⟨by omega, addI_i64 (by omega) (by omega), he.one (by omega) h2⟩
    · rename_i h1 h2 h4
      simp only [ltI_iff, ltI_not, leI_iff, leI_not, eqI_iff, eqI_not, List.length_map, bif_and, bif_or, Bool.and_eq_true, Bool.and_eq_false_iff, Bool.or_eq_true, Bool.or_eq_false_iff, Bool.not_eq_true', Bool.not_eq_false', Int.toNat_natCast, beq_iff_eq, beq_eq_false_iff_ne, decide_eq_true_eq, decide_eq_false_iff_not] at *
      have := he.par (by omega) h4
      refine Ob.mk ⟨by omega, addI_i64 (by omega) (by omega), ?_⟩
      rw [addI_i64 (by omega) (by omega)]
      exact this
    · rename_i h1 h2 h5 h3 h4
      rw [Int.toNat_natCast] at h3 h4
      refine Ob.mk (.inr ⟨arrsF_bad (i := i) (by simp only [ltI_iff, ltI_not, leI_iff, leI_not, eqI_iff, eqI_not, List.length_map, bif_and, bif_or, Bool.and_eq_true, Bool.and_eq_false_iff, Bool.or_eq_true, Bool.or_eq_false_iff, Bool.not_eq_true', Bool.not_eq_false', Int.toNat_natCast, beq_iff_eq, beq_eq_false_iff_ne, decide_eq_true_eq, decide_eq_false_iff_not] at *; omega) (arrF_loc (eqI_iff.1 h3) h4), 0, 0, rfl⟩)
    · rename_i h1 h2 h5 h3 h4
      simp only [ltI_iff, ltI_not, leI_iff, leI_not, eqI_iff, eqI_not, List.length_map, bif_and, bif_or, Bool.and_eq_true, Bool.and_eq_false_iff, Bool.or_eq_true, Bool.or_eq_false_iff, Bool.not_eq_true', Bool.not_eq_false', Int.toNat_natCast, beq_iff_eq, beq_eq_false_iff_ne, decide_eq_true_eq, decide_eq_false_iff_not] at *
      have := he.loc (by omega) h3 (by omega) (by omega)
      refine Ob.mk ⟨by omega, addI_i64 (by omega) (by omega), ?_⟩
      rw [addI_i64 (by omega) (by omega)]
      exact this
    · rename_i h1 h2 h4 h3
      simp only [ltI_iff, ltI_not, leI_iff, leI_not, eqI_iff, eqI_not, List.length_map, bif_and, bif_or, Bool.and_eq_true, Bool.and_eq_false_iff, Bool.or_eq_true, Bool.or_eq_false_iff, Bool.not_eq_true', Bool.not_eq_false', Int.toNat_natCast, beq_iff_eq, beq_eq_false_iff_ne, decide_eq_true_eq, decide_eq_false_iff_not] at *
      exact Ob.mk (.inr ⟨arrsF_bad (i := i) (by omega) (arrF_none h2 h3 h4), 0, 0, rfl⟩)
    · rename_i h1 _
      have h2 := ltI_not.1 h1
      rw [List.length_map] at h2
      obtain ⟨k1, k2, k3⟩ := he.done (by omega)
      refine Ob.mk (.of k1 k2 ?_)
      unfold arrsF
      rw [k3, ← k1, ← k2, bif_and, bif_and, leI_dec, leI_dec, leI_dec, List.length_map, Bool.and_true]
      congr 2
      simp
      omega
end Go.Proofs.YtgnafgebenlffaaDoor.Am

/- Frames: whether a graph may have one, by both texts. -/
namespace Go.Proofs.YtgnafgebenlffaaDoor.Am
open Go Go.Proofs
set_option maxRecDepth 10000
set_option maxHeartbeats 2000000
set_option linter.unusedVariables false
set_option linter.unusedSimpArgs false
theorem words18k (l : List Arr) (hl : Ob (l.length ≤ 2 ^ 20)) {q : T → Prop} (h1 : arrsF l = true → q (.tup [.int .i64 (wordsF l), .int .i64 (parsF l), .bool true])) (h2 : arrsF l = false → ∀ w p, q (.tup [.int .i64 w, .int .i64 p, .bool false])) : PCalls Tryd.prog 18 [.sl 2 (l.map Arr.t)] q :=
  PCalls.mono (words18 l hl.out) fun r h => by
    rcases h.out with ⟨h3, rfl⟩ | ⟨h3, w, p, rfl⟩
    · exact h1 h3
    · exact h2 h3 w p
theorem nodup_take_succ {α β : Type} [Inhabited α] (f : α → β) {l : List α} {i : Nat} (h : i < l.length) (h1 : ((l.take i).map f).Nodup) (h2 : ∀ j, j < i → f (nthD l j) ≠ f (nthD l i)) : ((l.take (i + 1)).map f).Nodup := by
  rw [take_succ_nthD h, List.map_append, List.nodup_append]
  refine ⟨h1, by simp, ?_⟩
  intro a ha b hb
  simp only [List.map_cons, List.map_nil, List.mem_singleton] at hb
  subst hb
  obtain ⟨x, hx, rfl⟩ := List.mem_map.1 ha
  obtain ⟨j, hj, rfl⟩ := List.mem_iff_getElem.1 hx
  have hj2 : j < i := by simp at hj; omega
  have hj3 : j < l.length := by omega
  rw [List.getElem_take, ← nthD_get hj3]
  exact h2 j hj2
theorem not_nodup_at {α β : Type} [Inhabited α] (f : α → β) {l : List α} {i j : Nat} (hi : i < l.length) (hj : j < i) (e : f (nthD l j) = f (nthD l i)) : ¬ (l.map f).Nodup := by
  intro h
  rw [List.nodup_iff_pairwise_ne, List.pairwise_map, List.pairwise_iff_getElem] at h
  have := h j i (by omega) hi hj
  rw [← nthD_get, ← nthD_get] at this
  exact this e
structure Graph.mayF (g : Graph) : Prop where
  fits : g.fits
  few : g.params.length ≤ 8
  rng : ∀ t ∈ g.params, 0 ≤ t ∧ t < g.temps
  nodup : g.params.Nodup
theorem mayF_no_rng {g : Graph} {i : Nat} (hi : i < g.params.length) (h : (bif ltI (nthD g.params i) 0 then true else leI g.temps (nthD g.params i)) = true) : ¬ g.mayF := by
  intro hm
  have := hm.rng _ (nthD_mem hi)
  simp only [bif_or, Bool.or_eq_true, ltI_iff, leI_iff] at h
  omega
theorem mayF_no_dup {g : Graph} {i j : Nat} (hi : i < g.params.length) (hj : j < i) (h : nthD g.params j = nthD g.params i) : ¬ g.mayF := by
  intro hm
  have := not_nodup_at (fun n : Int => n) hi hj h
  rw [List.map_id'] at this
  exact this hm.nodup
def ParI (g : Graph) (i : Nat) : Prop := (∀ j, j < i → 0 ≤ nthD g.params j ∧ nthD g.params j < g.temps) ∧ (g.params.take i).Nodup
theorem ParI.zero {g : Graph} : ParI g 0 := ⟨fun j h => absurd h (Nat.not_lt_zero _), by simp⟩
theorem ParI.succ {g : Graph} {i : Nat} (h : ParI g i) (hi : i < g.params.length) (h1 : (bif ltI (nthD g.params i) 0 then true else leI g.temps (nthD g.params i)) = false) (h2 : ∀ j, j < i → nthD g.params j ≠ nthD g.params i) : ParI g (i + 1) := by
  simp only [bif_or, Bool.or_eq_false_iff, ltI_not, leI_not] at h1
  refine ⟨fun j hj => ?_, ?_⟩
  · rcases Nat.lt_or_ge j i with h3 | h3
    · exact h.1 j h3
    · rw [show j = i by omega]; exact h1
  · have := nodup_take_succ (fun n : Int => n) hi (by rw [List.map_id']; exact h.2) h2
    rwa [List.map_id'] at this
theorem ParI.done {g : Graph} {i : Nat} (h : ParI g i) (hi : g.params.length ≤ i) (hf : g.fits) (h8 : g.params.length ≤ 8) : g.mayF := by
  refine ⟨hf, h8, fun t ht => ?_, ?_⟩
  · obtain ⟨j, hj, rfl⟩ := List.mem_iff_getElem.1 ht
    rw [← nthD_get hj]
    exact h.1 j (by omega)
  · have := h.2
    rwa [List.take_of_length_le hi] at this
theorem index62 (l : List Int) (v : Int) : PCalls Tryd.prog 62 [ilist l, .int .i64 v] (fun r => r = .int .i64 (idxN (eqI v) l)) := by
  refine PCalls.of_body ttOk Tryd.func62 rfl ?_
  repeat' ((conv => whnf); first | (with_reducible first | refine onBool_intro (fun _ => ?_) (fun _ => ?_) | refine And.intro (Ob.mk (Nat.le_of_ble_eq_true rfl)) ?_ | refine And.intro (Ob.mk rfl) ?_ | exact ⟨rfl, rfl⟩ | refine And.intro (Ob.mk (fun h => h)) ?_) | (with_reducible refine Or.inl (And.intro (Ob.mk (Flat.map ?_)) ?_); exact fun _ => rfl) | (refine Or.inl (And.intro (Ob.mk (flat_of rfl)) ?_)) | (refine Or.inl (And.intro (Ob.mk ⟨rfl, rfl, rfl, rfl⟩) ?_)) | (refine Or.inl (And.intro (Ob.mk ⟨rfl, rfl, rfl⟩) ?_)) | (refine And.intro (Ob.mk ⟨rfl, rfl⟩) ?_) | (with_reducible refine Or.inr ?_) | (refine And.intro (Ob.mk (flat_of rfl)) ?_) | (with_reducible refine And.intro (Ob.mk (Flat.map ?_)) ?_; exact fun _ => rfl) | (with_reducible first | exact Ob.mk (Flat.map fun _ => rfl) | refine And.intro ?_ ?_ | apply exG.mk | apply exGS.mk | exact Dd.nil) | (refine Dd.same _ ?_) | (refine Dd.dead _ ?_) | (with_reducible first | apply exQ.mk | apply exP.mk) | (refine EqP.mk rfl rfl) | (with_reducible apply exW.mk) | (refine EqW.mk rfl) | (with_reducible first | intro _ | refine Dn.mk ?_) | (refine exS.full (by first | rfl | (simp; done) | (simp; omega)) ?_) | (refine And.intro (Ob.mk ⟨rfl, rfl, by first | rfl | (simp; done) | (simp; omega)⟩) ?_) | (with_reducible refine exE.mapD ?_) | (refine exL.int ?_) | (with_reducible first | refine Up0.mk rfl ?_ | refine Up0i.mk rfl ?_ | refine Up1.mk rfl ?_ | refine Up1i.mk rfl ?_ | refine Up2.mk rfl ?_ | refine Up2i.mk rfl ?_) | (refine Col.mk rfl rfl rfl ?_) | (refine Coli.mk rfl rfl rfl rfl ?_))
  conv => whnf
  refine LoopVC.up0 8 l.length (fun i => ∀ j, j < i → eqI v (nthD l j) = false) ?_ ?_
  · repeat' ((conv => whnf); first | (with_reducible first | refine onBool_intro (fun _ => ?_) (fun _ => ?_) | refine And.intro (Ob.mk (Nat.le_of_ble_eq_true rfl)) ?_ | refine And.intro (Ob.mk rfl) ?_ | exact ⟨rfl, rfl⟩ | refine And.intro (Ob.mk (fun h => h)) ?_) | (with_reducible refine Or.inl (And.intro (Ob.mk (Flat.map ?_)) ?_); exact fun _ => rfl) | (refine Or.inl (And.intro (Ob.mk (flat_of rfl)) ?_)) | (refine Or.inl (And.intro (Ob.mk ⟨rfl, rfl, rfl, rfl⟩) ?_)) | (refine Or.inl (And.intro (Ob.mk ⟨rfl, rfl, rfl⟩) ?_)) | (refine And.intro (Ob.mk ⟨rfl, rfl⟩) ?_) | (with_reducible refine Or.inr ?_) | (refine And.intro (Ob.mk (flat_of rfl)) ?_) | (with_reducible refine And.intro (Ob.mk (Flat.map ?_)) ?_; exact fun _ => rfl) | (with_reducible first | exact Ob.mk (Flat.map fun _ => rfl) | refine And.intro ?_ ?_ | apply exG.mk | apply exGS.mk | exact Dd.nil) | (refine Dd.same _ ?_) | (refine Dd.dead _ ?_) | (with_reducible first | apply exQ.mk | apply exP.mk) | (refine EqP.mk rfl rfl) | (with_reducible apply exW.mk) | (refine EqW.mk rfl) | (with_reducible first | intro _ | refine Dn.mk ?_) | (refine exS.full (by first | rfl | (simp; done) | (simp; omega)) ?_) | (refine And.intro (Ob.mk ⟨rfl, rfl, by first | rfl | (simp; done) | (simp; omega)⟩) ?_) | (with_reducible refine exE.mapD ?_) | (refine exL.int ?_) | (with_reducible first | refine Up0.mk rfl ?_ | refine Up0i.mk rfl ?_ | refine Up1.mk rfl ?_ | refine Up1i.mk rfl ?_ | refine Up2.mk rfl ?_ | refine Up2i.mk rfl ?_) | (refine Col.mk rfl rfl rfl ?_) | (refine Coli.mk rfl rfl rfl rfl ?_))
    exact Ob.mk (fun j hj => absurd hj (Nat.not_lt_zero _))
  · intro i hi he
    repeat' ((conv => whnf); first | (with_reducible first | refine onBool_intro (fun _ => ?_) (fun _ => ?_) | refine And.intro (Ob.mk (Nat.le_of_ble_eq_true rfl)) ?_ | refine And.intro (Ob.mk rfl) ?_ | exact ⟨rfl, rfl⟩ | refine And.intro (Ob.mk (fun h => h)) ?_) | (with_reducible refine Or.inl (And.intro (Ob.mk (Flat.map ?_)) ?_); exact fun _ => rfl) | (refine Or.inl (And.intro (Ob.mk (flat_of rfl)) ?_)) | (refine Or.inl (And.intro (Ob.mk ⟨rfl, rfl, rfl, rfl⟩) ?_)) | (refine Or.inl (And.intro (Ob.mk ⟨rfl, rfl, rfl⟩) ?_)) | (refine And.intro (Ob.mk ⟨rfl, rfl⟩) ?_) | (with_reducible refine Or.inr ?_) | (refine And.intro (Ob.mk (flat_of rfl)) ?_) | (with_reducible refine And.intro (Ob.mk (Flat.map ?_)) ?_; exact fun _ => rfl) | (with_reducible first | exact Ob.mk (Flat.map fun _ => rfl) | refine And.intro ?_ ?_ | apply exG.mk | apply exGS.mk | exact Dd.nil) | (refine Dd.same _ ?_) | (refine Dd.dead _ ?_) | (with_reducible first | apply exQ.mk | apply exP.mk) | (refine EqP.mk rfl rfl) | (with_reducible apply exW.mk) | (refine EqW.mk rfl) | (with_reducible first | intro _ | refine Dn.mk ?_) | (refine exS.full (by first | rfl | (simp; done) | (simp; omega)) ?_) | (refine And.intro (Ob.mk ⟨rfl, rfl, by first | rfl | (simp; done) | (simp; omega)⟩) ?_) | (with_reducible refine exE.mapD ?_) | (refine exL.int ?_) | (with_reducible first | refine Up0.mk rfl ?_ | refine Up0i.mk rfl ?_ | refine Up1.mk rfl ?_ | refine Up1i.mk rfl ?_ | refine Up2.mk rfl ?_ | refine Up2i.mk rfl ?_) | (refine Col.mk rfl rfl rfl ?_) | (refine Coli.mk rfl rfl rfl rfl ?_))
    all_goals (try (refine Ob.mk ?_; first | assumption | exact ⟨rfl, rfl⟩ | exact ⟨rfl, rfl, rfl⟩ | (refine ⟨rfl, rfl, ?_⟩; simp only [List.length_map, List.length_take, List.length_append, els_len, List.length_replicate]; omega) | (intro h; exact h) | (intro h; rw [h]; rfl) | (intro h; simp_all; done) | (refine bytes_le (n := 1048577) ?_ rfl; simp only [ltI_iff, ltI_not, leI_iff, leI_not, eqI_iff, eqI_not, List.length_map, bif_and, bif_or, Bool.and_eq_true, Bool.and_eq_false_iff, Bool.or_eq_true, Bool.or_eq_false_iff, Bool.not_eq_true', Bool.not_eq_false', Int.toNat_natCast, beq_iff_eq, beq_eq_false_iff_ne, decide_eq_true_eq, decide_eq_false_iff_not, bel_iff, bel_not, wthn_iff, wthn_not, els_len, mixL_len, Nat.zero_add, List.length_set, List.length_take] at *; omega) | (simp only [ltI_iff, ltI_not, leI_iff, leI_not, eqI_iff, eqI_not, List.length_map, bif_and, bif_or, Bool.and_eq_true, Bool.and_eq_false_iff, Bool.or_eq_true, Bool.or_eq_false_iff, Bool.not_eq_true', Bool.not_eq_false', Int.toNat_natCast, beq_iff_eq, beq_eq_false_iff_ne, decide_eq_true_eq, decide_eq_false_iff_not, bel_iff, bel_not, wthn_iff, wthn_not, els_len, mixL_len, Nat.zero_add, List.length_set, List.length_take, Int.ofNat_eq_natCast] at *; omega)))
    · rename_i h1 h2
      have hlt : i < l.length := by simp only [ltI_iff, ltI_not, leI_iff, leI_not, eqI_iff, eqI_not, List.length_map, bif_and, bif_or, Bool.and_eq_true, Bool.and_eq_false_iff, Bool.or_eq_true, Bool.or_eq_false_iff, Bool.not_eq_true', Bool.not_eq_false', Int.toNat_natCast, beq_iff_eq, beq_eq_false_iff_ne, decide_eq_true_eq, decide_eq_false_iff_not] at *; omega
      exact congrArg (T.int .i64) (idxN_hit hlt he h2).symm
    · rename_i h1 h2
      have hlt : i < l.length := by simp only [ltI_iff, ltI_not, leI_iff, leI_not, eqI_iff, eqI_not, List.length_map, bif_and, bif_or, Bool.and_eq_true, Bool.and_eq_false_iff, Bool.or_eq_true, Bool.or_eq_false_iff, Bool.not_eq_true', Bool.not_eq_false', Int.toNat_natCast, beq_iff_eq, beq_eq_false_iff_ne, decide_eq_true_eq, decide_eq_false_iff_not] at *; omega
      refine Ob.mk ⟨hlt, addI_i64 (by simp only [ltI_iff, ltI_not, leI_iff, leI_not, eqI_iff, eqI_not, List.length_map, bif_and, bif_or, Bool.and_eq_true, Bool.and_eq_false_iff, Bool.or_eq_true, Bool.or_eq_false_iff, Bool.not_eq_true', Bool.not_eq_false', Int.toNat_natCast, beq_iff_eq, beq_eq_false_iff_ne, decide_eq_true_eq, decide_eq_false_iff_not] at *; omega) (by simp only [ltI_iff, ltI_not, leI_iff, leI_not, eqI_iff, eqI_not, List.length_map, bif_and, bif_or, Bool.and_eq_true, Bool.and_eq_false_iff, Bool.or_eq_true, Bool.or_eq_false_iff, Bool.not_eq_true', Bool.not_eq_false', Int.toNat_natCast, beq_iff_eq, beq_eq_false_iff_ne, decide_eq_true_eq, decide_eq_false_iff_not] at *; omega), ?_⟩
      intro j hj
      rcases Nat.lt_or_ge j i with h | h
      · exact he j h
      · rw [show j = i by omega]; exact h2
    · rename_i h1
      have hge : l.length ≤ i := by simp only [ltI_iff, ltI_not, leI_iff, leI_not, eqI_iff, eqI_not, List.length_map, bif_and, bif_or, Bool.and_eq_true, Bool.and_eq_false_iff, Bool.or_eq_true, Bool.or_eq_false_iff, Bool.not_eq_true', Bool.not_eq_false', Int.toNat_natCast, beq_iff_eq, beq_eq_false_iff_ne, decide_eq_true_eq, decide_eq_false_iff_not] at *; omega
      exact congrArg (T.int .i64) (idxN_miss fun j hj => he j (by omega)).symm
theorem contains36 (l : List Int) (v : Int) : PCalls Tryd.prog 36 [ilist l, .int .i64 v] (fun r => r = .bool (l.any (eqI v))) := by
  refine PCalls.of_body ttOk Tryd.func36 rfl ?_
  repeat' ((conv => whnf); first | (with_reducible first | refine onBool_intro (fun _ => ?_) (fun _ => ?_) | refine And.intro (Ob.mk (Nat.le_of_ble_eq_true rfl)) ?_ | refine And.intro (Ob.mk rfl) ?_ | exact ⟨rfl, rfl⟩ | refine And.intro (Ob.mk (fun h => h)) ?_) | (with_reducible refine Or.inl (And.intro (Ob.mk (Flat.map ?_)) ?_); exact fun _ => rfl) | (refine Or.inl (And.intro (Ob.mk (flat_of rfl)) ?_)) | (refine Or.inl (And.intro (Ob.mk ⟨rfl, rfl, rfl, rfl⟩) ?_)) | (refine Or.inl (And.intro (Ob.mk ⟨rfl, rfl, rfl⟩) ?_)) | (refine And.intro (Ob.mk ⟨rfl, rfl⟩) ?_) | (with_reducible refine Or.inr ?_) | (refine And.intro (Ob.mk (flat_of rfl)) ?_) | (with_reducible refine And.intro (Ob.mk (Flat.map ?_)) ?_; exact fun _ => rfl) | (with_reducible first | exact Ob.mk (Flat.map fun _ => rfl) | refine And.intro ?_ ?_ | apply exG.mk | apply exGS.mk | exact Dd.nil) | (refine Dd.same _ ?_) | (refine Dd.dead _ ?_) | (with_reducible first | apply exQ.mk | apply exP.mk) | (refine EqP.mk rfl rfl) | (with_reducible apply exW.mk) | (refine EqW.mk rfl) | (with_reducible first | intro _ | refine Dn.mk ?_) | (refine exS.full (by first | rfl | (simp; done) | (simp; omega)) ?_) | (refine And.intro (Ob.mk ⟨rfl, rfl, by first | rfl | (simp; done) | (simp; omega)⟩) ?_) | (with_reducible refine exE.mapD ?_) | (refine exL.int ?_) | (with_reducible first | refine Up0.mk rfl ?_ | refine Up0i.mk rfl ?_ | refine Up1.mk rfl ?_ | refine Up1i.mk rfl ?_ | refine Up2.mk rfl ?_ | refine Up2i.mk rfl ?_) | (refine Col.mk rfl rfl rfl ?_) | (refine Coli.mk rfl rfl rfl rfl ?_) | (refine PCalls.mono (index62 _ _) ?_; rintro _ rfl))
  exact congrArg T.bool idxN_any
theorem contains36k (l : List Int) (k : Nat) (v : Int) {q : T → Prop} (hq : q (.bool ((l.take k).any (eqI v)))) : PCalls Tryd.prog 36 [.sl 1 (((l.map fun n => T.int .i64 n).drop 0).take k), .int .i64 v] q := by
  rw [List.drop_zero, ← List.map_take]
  exact PCalls.mono (contains36 _ v) fun r h => h ▸ hq
theorem may19 (g : Graph) (hg : g.tiny) (hw : ∀ b ∈ g.blocks, ∀ x ∈ allN b.fin, I64 x) : PCalls Tryd.prog 19 [g.t] (fun r => r = .bool (tr g.mayF)) := by
  refine PCalls.of_body ttOk Tryd.func19 rfl ?_
  repeat' ((conv => whnf); first | (with_reducible first | refine onBool_intro (fun _ => ?_) (fun _ => ?_) | refine And.intro (Ob.mk (Nat.le_of_ble_eq_true rfl)) ?_ | refine And.intro (Ob.mk rfl) ?_ | exact ⟨rfl, rfl⟩ | refine And.intro (Ob.mk (fun h => h)) ?_) | (with_reducible refine Or.inl (And.intro (Ob.mk (Flat.map ?_)) ?_); exact fun _ => rfl) | (refine Or.inl (And.intro (Ob.mk (flat_of rfl)) ?_)) | (refine Or.inl (And.intro (Ob.mk ⟨rfl, rfl, rfl, rfl⟩) ?_)) | (refine Or.inl (And.intro (Ob.mk ⟨rfl, rfl, rfl⟩) ?_)) | (refine And.intro (Ob.mk ⟨rfl, rfl⟩) ?_) | (with_reducible refine Or.inr ?_) | (refine And.intro (Ob.mk (flat_of rfl)) ?_) | (with_reducible refine And.intro (Ob.mk (Flat.map ?_)) ?_; exact fun _ => rfl) | (with_reducible first | exact Ob.mk (Flat.map fun _ => rfl) | refine And.intro ?_ ?_ | apply exG.mk | apply exGS.mk | exact Dd.nil) | (refine Dd.same _ ?_) | (refine Dd.dead _ ?_) | (with_reducible first | apply exQ.mk | apply exP.mk) | (refine EqP.mk rfl rfl) | (with_reducible apply exW.mk) | (refine EqW.mk rfl) | (with_reducible first | intro _ | refine Dn.mk ?_) | (refine exS.full (by first | rfl | (simp; done) | (simp; omega)) ?_) | (refine And.intro (Ob.mk ⟨rfl, rfl, by first | rfl | (simp; done) | (simp; omega)⟩) ?_) | (with_reducible refine exE.mapD ?_) | (refine exL.int ?_) | (with_reducible first | refine Up0.mk rfl ?_ | refine Up0i.mk rfl ?_ | refine Up1.mk rfl ?_ | refine Up1i.mk rfl ?_ | refine Up2.mk rfl ?_ | refine Up2i.mk rfl ?_) | (refine Col.mk rfl rfl rfl ?_) | (refine Coli.mk rfl rfl rfl rfl ?_) | (refine fits28k g hg hw (fun hf => ?_) (fun hf => ?_)))
  all_goals (try (refine Ob.mk ?_; first | assumption | exact ⟨rfl, rfl⟩ | exact ⟨rfl, rfl, rfl⟩ | (refine ⟨rfl, rfl, ?_⟩; simp only [List.length_map, List.length_take, List.length_append, els_len, List.length_replicate]; omega) | (intro h; exact h) | (intro h; rw [h]; rfl) | (intro h; simp_all; done) | (refine bytes_le (n := 1048577) ?_ rfl; simp only [ltI_iff, ltI_not, leI_iff, leI_not, eqI_iff, eqI_not, List.length_map, bif_and, bif_or, Bool.and_eq_true, Bool.and_eq_false_iff, Bool.or_eq_true, Bool.or_eq_false_iff, Bool.not_eq_true', Bool.not_eq_false', Int.toNat_natCast, beq_iff_eq, beq_eq_false_iff_ne, decide_eq_true_eq, decide_eq_false_iff_not, bel_iff, bel_not, wthn_iff, wthn_not, els_len, mixL_len, Nat.zero_add, List.length_set, List.length_take] at *; omega) | (simp only [ltI_iff, ltI_not, leI_iff, leI_not, eqI_iff, eqI_not, List.length_map, bif_and, bif_or, Bool.and_eq_true, Bool.and_eq_false_iff, Bool.or_eq_true, Bool.or_eq_false_iff, Bool.not_eq_true', Bool.not_eq_false', Int.toNat_natCast, beq_iff_eq, beq_eq_false_iff_ne, decide_eq_true_eq, decide_eq_false_iff_not, bel_iff, bel_not, wthn_iff, wthn_not, els_len, mixL_len, Nat.zero_add, List.length_set, List.length_take, Int.ofNat_eq_natCast] at *; omega)))
  all_goals (try (show T.bool false = T.bool (tr _); rw [tr_f (fun h => hf h.fits)]; done))
  · rename_i h1
    show T.bool false = T.bool (tr _)
    rw [tr_f]
    intro h
    have := h.few
    simp only [Bool.not_true, bif_or, Bool.false_or, ltI_iff, List.length_map] at h1
    omega
  · rename_i h1 _
    have h8 : g.params.length ≤ 8 := by
      simp only [Bool.not_true, bif_or, Bool.false_or, ltI_not, List.length_map] at h1
      omega
    conv => whnf
    refine LoopVC.up0 17 g.params.length (ParI g) ?_ ?_
    · repeat' ((conv => whnf); first | (with_reducible first | refine onBool_intro (fun _ => ?_) (fun _ => ?_) | refine And.intro (Ob.mk (Nat.le_of_ble_eq_true rfl)) ?_ | refine And.intro (Ob.mk rfl) ?_ | exact ⟨rfl, rfl⟩ | refine And.intro (Ob.mk (fun h => h)) ?_) | (with_reducible refine Or.inl (And.intro (Ob.mk (Flat.map ?_)) ?_); exact fun _ => rfl) | (refine Or.inl (And.intro (Ob.mk (flat_of rfl)) ?_)) | (refine Or.inl (And.intro (Ob.mk ⟨rfl, rfl, rfl, rfl⟩) ?_)) | (refine Or.inl (And.intro (Ob.mk ⟨rfl, rfl, rfl⟩) ?_)) | (refine And.intro (Ob.mk ⟨rfl, rfl⟩) ?_) | (with_reducible refine Or.inr ?_) | (refine And.intro (Ob.mk (flat_of rfl)) ?_) | (with_reducible refine And.intro (Ob.mk (Flat.map ?_)) ?_; exact fun _ => rfl) | (with_reducible first | exact Ob.mk (Flat.map fun _ => rfl) | refine And.intro ?_ ?_ | apply exG.mk | apply exGS.mk | exact Dd.nil) | (refine Dd.same _ ?_) | (refine Dd.dead _ ?_) | (with_reducible first | apply exQ.mk | apply exP.mk) | (refine EqP.mk rfl rfl) | (with_reducible apply exW.mk) | (refine EqW.mk rfl) | (with_reducible first | intro _ | refine Dn.mk ?_) | (refine exS.full (by first | rfl | (simp; done) | (simp; omega)) ?_) | (refine And.intro (Ob.mk ⟨rfl, rfl, by first | rfl | (simp; done) | (simp; omega)⟩) ?_) | (with_reducible refine exE.mapD ?_) | (refine exL.int ?_) | (with_reducible first | refine Up0.mk rfl ?_ | refine Up0i.mk rfl ?_ | refine Up1.mk rfl ?_ | refine Up1i.mk rfl ?_ | refine Up2.mk rfl ?_ | refine Up2i.mk rfl ?_) | (refine Col.mk rfl rfl rfl ?_) | (refine Coli.mk rfl rfl rfl rfl ?_))
      exact Ob.mk .zero
    · intro i hi he
      repeat' ((conv => whnf); first | (with_reducible first | refine onBool_intro (fun _ => ?_) (fun _ => ?_) | refine And.intro (Ob.mk (Nat.le_of_ble_eq_true rfl)) ?_ | refine And.intro (Ob.mk rfl) ?_ | exact ⟨rfl, rfl⟩ | refine And.intro (Ob.mk (fun h => h)) ?_) | (with_reducible refine Or.inl (And.intro (Ob.mk (Flat.map ?_)) ?_); exact fun _ => rfl) | (refine Or.inl (And.intro (Ob.mk (flat_of rfl)) ?_)) | (refine Or.inl (And.intro (Ob.mk ⟨rfl, rfl, rfl, rfl⟩) ?_)) | (refine Or.inl (And.intro (Ob.mk ⟨rfl, rfl, rfl⟩) ?_)) | (refine And.intro (Ob.mk ⟨rfl, rfl⟩) ?_) | (with_reducible refine Or.inr ?_) | (refine And.intro (Ob.mk (flat_of rfl)) ?_) | (with_reducible refine And.intro (Ob.mk (Flat.map ?_)) ?_; exact fun _ => rfl) | (with_reducible first | exact Ob.mk (Flat.map fun _ => rfl) | refine And.intro ?_ ?_ | apply exG.mk | apply exGS.mk | exact Dd.nil) | (refine Dd.same _ ?_) | (refine Dd.dead _ ?_) | (with_reducible first | apply exQ.mk | apply exP.mk) | (refine EqP.mk rfl rfl) | (with_reducible apply exW.mk) | (refine EqW.mk rfl) | (with_reducible first | intro _ | refine Dn.mk ?_) | (refine exS.full (by first | rfl | (simp; done) | (simp; omega)) ?_) | (refine And.intro (Ob.mk ⟨rfl, rfl, by first | rfl | (simp; done) | (simp; omega)⟩) ?_) | (with_reducible refine exE.mapD ?_) | (refine exL.int ?_) | (with_reducible first | refine Up0.mk rfl ?_ | refine Up0i.mk rfl ?_ | refine Up1.mk rfl ?_ | refine Up1i.mk rfl ?_ | refine Up2.mk rfl ?_ | refine Up2i.mk rfl ?_) | (refine Col.mk rfl rfl rfl ?_) | (refine Coli.mk rfl rfl rfl rfl ?_) | (refine contains36k _ _ _ ?_) | (refine exS.part ?_))
      all_goals (try (refine Ob.mk ?_; first | assumption | exact ⟨rfl, rfl⟩ | exact ⟨rfl, rfl, rfl⟩ | (refine ⟨rfl, rfl, ?_⟩; simp only [List.length_map, List.length_take, List.length_append, els_len, List.length_replicate]; omega) | (intro h; exact h) | (intro h; rw [h]; rfl) | (intro h; simp_all; done) | (refine bytes_le (n := 1048577) ?_ rfl; simp only [ltI_iff, ltI_not, leI_iff, leI_not, eqI_iff, eqI_not, List.length_map, bif_and, bif_or, Bool.and_eq_true, Bool.and_eq_false_iff, Bool.or_eq_true, Bool.or_eq_false_iff, Bool.not_eq_true', Bool.not_eq_false', Int.toNat_natCast, beq_iff_eq, beq_eq_false_iff_ne, decide_eq_true_eq, decide_eq_false_iff_not, bel_iff, bel_not, wthn_iff, wthn_not, els_len, mixL_len, Nat.zero_add, List.length_set, List.length_take] at *; omega) | (simp only [ltI_iff, ltI_not, leI_iff, leI_not, eqI_iff, eqI_not, List.length_map, bif_and, bif_or, Bool.and_eq_true, Bool.and_eq_false_iff, Bool.or_eq_true, Bool.or_eq_false_iff, Bool.not_eq_true', Bool.not_eq_false', Int.toNat_natCast, beq_iff_eq, beq_eq_false_iff_ne, decide_eq_true_eq, decide_eq_false_iff_not, bel_iff, bel_not, wthn_iff, wthn_not, els_len, mixL_len, Nat.zero_add, List.length_set, List.length_take, Int.ofNat_eq_natCast] at *; omega)))
      · rename_i h2 h3
        have hi2 : i < g.params.length := by simp only [ltI_iff, ltI_not, leI_iff, leI_not, eqI_iff, eqI_not, List.length_map, bif_and, bif_or, Bool.and_eq_true, Bool.and_eq_false_iff, Bool.or_eq_true, Bool.or_eq_false_iff, Bool.not_eq_true', Bool.not_eq_false', Int.toNat_natCast, beq_iff_eq, beq_eq_false_iff_ne, decide_eq_true_eq, decide_eq_false_iff_not] at *; omega
        rw [Int.sub_zero, Int.toNat_natCast] at h3
        show T.bool false = T.bool (tr _)
        rw [tr_f]
        intro hm
        cases h4 : (bif ltI (nthD g.params i) 0 then true else leI g.temps (nthD g.params i)) with
        | true => exact mayF_no_rng hi2 h4 hm
        | false =>
          rw [h4, cond_false, List.any_eq_true] at h3
          obtain ⟨t, ht, h5⟩ := h3
          obtain ⟨j, hj, rfl⟩ := List.mem_iff_getElem.1 ht
          have hj2 : j < i := by rw [List.length_take] at hj; omega
          rw [eqI_iff, List.getElem_take, ← nthD_get (by omega)] at h5
          exact mayF_no_dup hi2 hj2 h5.symm hm
      · rename_i h2 h3
        have hi2 : i < g.params.length := by simp only [ltI_iff, ltI_not, leI_iff, leI_not, eqI_iff, eqI_not, List.length_map, bif_and, bif_or, Bool.and_eq_true, Bool.and_eq_false_iff, Bool.or_eq_true, Bool.or_eq_false_iff, Bool.not_eq_true', Bool.not_eq_false', Int.toNat_natCast, beq_iff_eq, beq_eq_false_iff_ne, decide_eq_true_eq, decide_eq_false_iff_not] at *; omega
        rw [Int.sub_zero, Int.toNat_natCast, bif_or, Bool.or_eq_false_iff] at h3
        refine Ob.mk ⟨hi2, addI_i64 (by omega) (by omega), he.succ hi2 h3.1 fun j hj e => ?_⟩
        have h4 := List.any_eq_false.1 h3.2 (nthD g.params j) (by
          have : j < (g.params.take i).length := by rw [List.length_take]; omega
          have h5 := List.getElem_mem this
          rwa [List.getElem_take, ← nthD_get (by omega)] at h5)
        exact h4 (eqI_iff.2 e.symm)
      · rename_i h2
        have hi2 : g.params.length ≤ i := by simp only [ltI_iff, ltI_not, leI_iff, leI_not, eqI_iff, eqI_not, List.length_map, bif_and, bif_or, Bool.and_eq_true, Bool.and_eq_false_iff, Bool.or_eq_true, Bool.or_eq_false_iff, Bool.not_eq_true', Bool.not_eq_false', Int.toNat_natCast, beq_iff_eq, beq_eq_false_iff_ne, decide_eq_true_eq, decide_eq_false_iff_not] at *; omega
        show T.bool true = T.bool (tr _)
        rw [tr_t (he.done hi2 hf h8)]
end Go.Proofs.YtgnafgebenlffaaDoor.Am
