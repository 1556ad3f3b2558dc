/- LiveRenamed: a copy that is all the caller's own. -/
import Derived.Shelf.Spec.TrailingZeros
import Derived.Test.YtgladinljapmkaaDoorSS
import Derived.Test.YtgladinljapmkaaDoorST
import Derived.Test.YtgladinljapmkaaDoorSL
/- math/bits.TrailingZeros64, by the shelf's contract. -/
namespace Go.Proofs
open Go.Shelf
def Tryd.tz_ren : Go.Shelf.Ren := ⟨fun | 29 => 30 | n => n, fun | 22 => 70 | 25 => 108 | 54 => 107 | n => n, fun | 1 => 0 | n => n⟩
theorem Tryd.tzA : Go.Proofs.Lays7.n29 Tryd.prog Tryd.tz_ren := {
  mixed := by kernel_rfl
  f29 := Tryd.func30.trans (congrArg some (by kernel_rfl))
  t0 := Tryd.underlying0
  a0 := Tryd.isAgg0
  z0 := Tryd.sizeOf0
  v0 := Tryd.zeroValue0
  i0 := by kernel_rfl
  t3 := Tryd.underlying3
  a3 := Tryd.isAgg3
  z3 := Tryd.sizeOf3
  v3 := Tryd.zeroValue3
  i3 := by kernel_rfl
  t4 := Tryd.underlying4
  a4 := Tryd.isAgg4
  z4 := Tryd.sizeOf4
  v4 := Tryd.zeroValue4
  i4 := by kernel_rfl
  t5 := Tryd.underlying5
  a5 := Tryd.isAgg5
  z5 := Tryd.sizeOf5
  v5 := Tryd.zeroValue5
  i5 := by kernel_rfl
  t22 := Tryd.underlying70
  a22 := Tryd.isAgg70
  z22 := Tryd.sizeOf70
  v22 := Tryd.zeroValue70
  i22 := by kernel_rfl
  t25 := Tryd.underlying108
  a25 := Tryd.isAgg108
  z25 := Tryd.sizeOf108
  v25 := Tryd.zeroValue108
  i25 := by kernel_rfl
  t54 := Tryd.underlying107
  a54 := Tryd.isAgg107
  z54 := Tryd.sizeOf107
  g1 := by kernel_rfl }
end Go.Proofs
namespace Go.Proofs.YtgladinljapmkaaDoor.Am
open Go Go.Proofs Go.RowKit Go.Shelf
set_option maxRecDepth 10000
set_option maxHeartbeats 2000000
set_option linter.unusedVariables false
set_option linter.unusedSimpArgs false

theorem trailing30 (x : Nat) (hx : x < 2 ^ 64) : PCalls Tryd.prog 30 [.int .u64 (x : Int)] (fun r => r = .int .i64 (Lib.ctz 64 x)) := by
  unfold PCalls
  refine ⟨⟨Tryd.f30, Tryd.func30, rfl, rfl⟩, ?_⟩
  intro F w vs h1 h2 h3
  obtain ⟨v, rfl⟩ := List.length_eq_one_iff.1 h1
  have hv := h2 0 _ _ rfl rfl
  cases hv
  have htab : TabAt 0 Lib.deBruijn64tab w := by
    intro j hj
    have := (h3.tab (0, Lib.deBruijn64tab.map fun (n : Nat) => .int .u8 n) (by simp [tabs])).2 j (.int .u8 (Lib.deBruijn64tab.getD j 0))
    refine this ?_
    rw [List.getElem?_map, List.getElem?_eq_getElem hj]
    simp [List.getD, List.getElem?_eq_getElem hj]
  refine (Any7.bits_TrailingZeros64 Tryd.tzA x (by simpa using hx) w fun _ => htab).mono ?_
  rintro e w' ⟨rfl, rfl⟩
  exact ⟨_, _, F, rfl, rfl, .int _ _, fun b hb => .inl hb, h3.lt, fun _ h => h, .refl _ _⟩
end Go.Proofs.YtgladinljapmkaaDoor.Am

/- The lowest bit of a word; the bits of words, in order. -/
namespace Go.Proofs.YtgladinljapmkaaDoor.Am
open Go Go.Proofs
set_option maxRecDepth 10000
set_option maxHeartbeats 2000000
set_option linter.unusedVariables false
set_option linter.unusedSimpArgs false

theorem ctz_bits {x : Nat} (h0 : 0 < x) (hx : x < 2 ^ 64) : Lib.ctz 64 x < 64 ∧ x.testBit (Lib.ctz 64 x) = true ∧ (∀ j, j < Lib.ctz 64 x → x.testBit j = false) ∧ ∀ j, (x &&& (x - 1)).testBit j = (x.testBit j && !decide (j = Lib.ctz 64 x)) := by
  unfold Lib.ctz
  rw [if_neg (by omega)]
  obtain ⟨m, hm, hk⟩ := Lib.ctzFrom_spec 64 x h0 hx
  generalize Lib.ctzFrom 64 x = k at *
  have hp : 0 < 2 ^ k := Nat.pow_pos (by omega)
  have e0 : x = 2 ^ k * (2 * m + 1) + 0 := by omega
  have e1 : x - 1 = 2 ^ k * (2 * m) + (2 ^ k - 1) := by
    rw [hm, Nat.mul_add]; omega
  have b0 : ∀ j, x.testBit j = if j < k then false else (2 * m + 1).testBit (j - k) := fun j => by
    rw [e0, Nat.testBit_two_pow_mul_add _ hp]; simp
  have b1 : ∀ j, (x - 1).testBit j = if j < k then (2 ^ k - 1).testBit j else (2 * m).testBit (j - k) := fun j => by
    rw [e1, Nat.testBit_two_pow_mul_add _ (by omega)]
  refine ⟨hk, ?_, fun j hj => by rw [b0, if_pos hj], fun j => ?_⟩
  · rw [b0, if_neg (by omega), Nat.sub_self, Nat.testBit_zero]
    simp
  · rw [Nat.testBit_and, b0, b1]
    by_cases hj : j < k
    · rw [if_pos hj]; simp
    · rw [if_neg hj, if_neg hj]
      by_cases e : j = k
      · subst e
        rw [Nat.sub_self, Nat.testBit_zero, Nat.testBit_zero]
        simp
      · obtain ⟨i, hi⟩ : ∃ i, j - k = i + 1 := ⟨j - k - 1, by omega⟩
        rw [hi, Nat.testBit_succ, Nat.testBit_succ, show (2 * m + 1) / 2 = m by omega, show 2 * m / 2 = m by omega]
        simp [e]

/-- What is left of word i of p when its first j bits are done. -/
def restB (p : Nat → Bool) (i j : Nat) : Nat := natB 64 fun k => decide (j ≤ k) && p (64 * i + k)
theorem restB_lt {p : Nat → Bool} {i j : Nat} : restB p i j < 2 ^ 64 := natB_lt _ _
theorem restB_bit {p : Nat → Bool} {i j k : Nat} (h : k < 64) : (restB p i j).testBit k = (decide (j ≤ k) && p (64 * i + k)) := by unfold restB; rw [natB_bit]; simp [h]
theorem restB_zero {p : Nat → Bool} {i : Nat} : restB p i 0 = wordB p i := natB_eq fun k hk => by simp
theorem liveN_skip {n m : Nat} {f : Nat → Bool} (h : n ≤ m) (hf : ∀ t, n ≤ t → t < m → f t = false) : liveN m f = liveN n f := by
  obtain ⟨d, rfl⟩ : ∃ d, m = n + d := ⟨m - n, by omega⟩
  induction d with
  | zero => rfl
  | succ d ih =>
    rw [← Nat.add_assoc, liveN_succ, if_neg (by rw [hf (n + d) (by omega) (by omega)]; simp), List.append_nil]
    exact ih (by omega) fun t h1 h2 => hf t h1 (by omega)
/-- A word that is not done: its lowest bit is the next. -/
theorem rest_step {p : Nat → Bool} {i j : Nat} (hj : j ≤ 64) (h : restB p i j ≠ 0) : ∃ k, Lib.ctz 64 (restB p i j) = k ∧ j ≤ k ∧ k < 64 ∧
    liveN (64 * i + (k + 1)) p = liveN (64 * i + j) p ++ [((64 * i + k : Nat) : Int)] ∧ restB p i j &&& (restB p i j - 1) = restB p i (k + 1) := by
  obtain ⟨h1, h2, h3, h4⟩ := ctz_bits (Nat.pos_of_ne_zero h) (restB_lt (p := p) (i := i) (j := j))
  refine ⟨_, rfl, ?_⟩
  generalize Lib.ctz 64 (restB p i j) = k at *
  rw [restB_bit h1] at h2
  simp only [Bool.and_eq_true, decide_eq_true_eq] at h2
  have hz : ∀ t, 64 * i + j ≤ t → t < 64 * i + k → p t = false := fun t ht1 ht2 => by
    have := h3 (t - 64 * i) (by omega)
    rw [restB_bit (by omega)] at this
    rw [show 64 * i + (t - 64 * i) = t by omega, decide_eq_true (by omega)] at this
    simpa using this
  refine ⟨h2.1, h1, ?_, ?_⟩
  · rw [← Nat.add_assoc, liveN_succ, if_pos h2.2, liveN_skip (n := 64 * i + j) (by omega) hz]
  · refine natB_of (Nat.and_lt_two_pow _ (by have := restB_lt (p := p) (i := i) (j := j); omega)) fun b hb => ?_
    rw [h4, restB_bit hb]
    by_cases e : b = k
    · subst e; rw [decide_eq_false (show ¬ b + 1 ≤ b by omega)]; simp
    · by_cases h5 : b < k
      · have h6 := h3 b h5
        rw [restB_bit hb] at h6
        rw [h6, decide_eq_false (show ¬ k + 1 ≤ b by omega)]; simp
      · rw [decide_eq_true (show j ≤ b by omega), decide_eq_true (show k + 1 ≤ b by omega)]; simp [e]
/-- A word that is done. -/
theorem rest_done {p : Nat → Bool} {i j : Nat} (hj : j ≤ 64) (h : restB p i j = 0) : liveN (64 * (i + 1)) p = liveN (64 * i + j) p := by
  refine liveN_skip (by omega) fun t h1 h2 => ?_
  have h3 := restB_bit (p := p) (i := i) (j := j) (k := t - 64 * i) (by omega)
  rw [h, Nat.zero_testBit, show 64 * i + (t - 64 * i) = t by omega, decide_eq_true (by omega)] at h3
  simpa using h3.symm
theorem subI_u64 {x : Nat} (h0 : 0 < x) (hx : x < 2 ^ 64) : subI .u64 (x : Int) 1 = ((x - 1 : Nat) : Int) := by
  unfold subI
  rw [show (x : Int) - 1 = ((x - 1 : Nat) : Int) by omega]
  exact wrap_u64 (by omega)
theorem rest_and {p : Nat → Bool} {i j : Nat} (h : restB p i j ≠ 0) : andI .u64 (restB p i j : Int) (subI .u64 (restB p i j : Int) 1) = ((restB p i j &&& (restB p i j - 1) : Nat) : Int) := by
  have hlt := restB_lt (p := p) (i := i) (j := j)
  rw [subI_u64 (Nat.pos_of_ne_zero h) hlt, andI_u64 hlt (by omega)]
end Go.Proofs.YtgladinljapmkaaDoor.Am

/- What is needed at each block's beginning, by the program. -/
namespace Go.Proofs.YtgladinljapmkaaDoor.Am
open Go Go.Proofs
set_option maxRecDepth 10000
set_option maxHeartbeats 2000000
set_option linter.unusedVariables false
set_option linter.unusedSimpArgs false

/-- A list as a cell: nil where it is empty. -/
def cellL (l : List Int) : T := match l with
  | [] => .nsl
  | x :: l => .nst 3 1 ((x :: l).map fun n => .int .i64 n)
/-- The answer so far: the rows below b are done, at b stands what is told. -/
def outR (m b : Nat) (f : Nat → List Int) (cur : T) : List T := (List.range m).map fun i => if i < b then cellL (f i) else if i = b then cur else .nsl
theorem outR_len {m b : Nat} {f : Nat → List Int} {cur : T} : (outR m b f cur).length = m := by unfold outR; simp
theorem outR_at {m b i : Nat} {f : Nat → List Int} {cur : T} (hi : Ob (i = b ∧ b < m)) {K : T → Prop} (hk : K cur) : exE (outR m b f cur) i K := by
  obtain ⟨rfl, h⟩ := hi.out
  refine exE.at (x := cur) ?_ hk
  rw [nth_eq]
  unfold outR
  rw [List.getElem?_map, List.getElem?_range h]
  simp
theorem outR_at2 {m b i j : Nat} {f : Nat → List Int} {cur x : T} (hi : Ob (i = j ∧ i < m)) {K : T → Prop} (hk : K x) : exE ((outR m b f cur).set i x) j K := by
  obtain ⟨rfl, h⟩ := hi.out
  exact exE.setSame (by rw [outR_len]; exact h) hk
theorem mul64 {i : Nat} (h : i < 125) : mulI .i64 64 (i : Int) = ((64 * i : Nat) : Int) := by
  unfold mulI
  simp only [IntKind.wrap, IntKind.bits, IntKind.signed]
  simp
  omega
theorem bit_val {i k : Nat} (hi : i < 125) (hk : k < 64) : addI .i64 (mulI .i64 64 (i : Int)) (k : Int) = ((64 * i + k : Nat) : Int) := by
  rw [mul64 hi, addI_i64 (by omega) (by omega)]
  omega
theorem outR_set {m b : Nat} {f : Nat → List Int} {cur x : T} : (outR m b f cur).set b x = outR m b f x := by
  unfold outR
  apply List.ext_getElem
  · simp
  · intro j h1 h2
    rw [List.getElem_set]
    simp only [List.getElem_map, List.getElem_range]
    by_cases e : b = j
    · subst e; simp
    · have e2 : ¬ j = b := fun h => e h.symm
      rw [if_neg e, if_neg e2, if_neg e2]
theorem outR_next {m b : Nat} {f : Nat → List Int} : outR m b f (cellL (f b)) = outR m (b + 1) f .nsl := by
  unfold outR
  apply List.map_congr_left
  intro i hi
  by_cases h1 : i < b
  · rw [if_pos h1, if_pos (by omega)]
  · rw [if_neg h1]
    by_cases h2 : i = b
    · rw [if_pos h2, if_pos (by omega), h2]
    · rw [if_neg h2, if_neg (by omega)]
      by_cases h3 : i = b + 1
      · rw [if_pos h3]
      · rw [if_neg h3]
theorem outR_zero {m : Nat} {f : Nat → List Int} : List.replicate m T.nsl = outR m 0 f .nsl := by
  unfold outR
  apply List.ext_getElem
  · simp
  · intro j h1 h2
    simp
theorem clean_cellL {l : List Int} : ∀ c ∈ (cellL l).cells, Clean c := by
  intro c hc
  cases l with
  | nil =>
    simp only [cellL, T.cells, List.mem_singleton] at hc
    subst hc
    exact .plain _ .nsl
  | cons x l =>
    simp only [cellL, T.cells, List.mem_singleton] at hc
    subst hc
    exact .nst _ _ _ clean_ints
theorem clean_outR {m b : Nat} {f : Nat → List Int} : ∀ x ∈ outR m b f .nsl, ∀ c ∈ x.cells, Clean c := by
  intro x hx c hc
  obtain ⟨i, _, rfl⟩ := List.mem_map.1 hx
  have hn : ∀ c ∈ (T.nsl).cells, Clean c := clean_cellL (l := [])
  by_cases h1 : i < b
  · rw [if_pos h1] at hc; exact clean_cellL c hc
  · rw [if_neg h1] at hc
    by_cases h2 : i = b
    · rw [if_pos h2] at hc; exact hn c hc
    · rw [if_neg h2] at hc; exact hn c hc
theorem trailing30k (x : Nat) (hx : x < 2 ^ 64) {q : T → Prop} (hq : q (.int .i64 (Lib.ctz 64 x))) : PCalls Tryd.prog 30 [.int .u64 (x : Int)] q := PCalls.mono (trailing30 x hx) fun _ h => h ▸ hq
theorem fits28k (g : Graph) (hg : g.tiny) (hw : ∀ b ∈ g.blocks, ∀ x ∈ allN b.fin, I64 x) {q : T → Prop} (h1 : g.fits → q (.bool true)) (h2 : ¬ g.fits → q (.bool false)) : PCalls Tryd.prog 28 [g.t] q :=
  PCalls.mono (fits28 g hg hw) fun r h => by
    subst h
    by_cases hf : g.fits
    · rw [tr_t hf]; exact h1 hf
    · rw [tr_f hf]; exact h2 hf
@[irreducible] def wordsQ (p : Nat → Bool) : List T := wordsT p
theorem wordsQ_eq {p : Nat → Bool} : wordsQ p = wordsT p := by unfold wordsQ; rfl
theorem wordsQ_len {p : Nat → Bool} : (wordsQ p).length = 125 := by rw [wordsQ_eq]; simp
theorem flatA_wordsQ {p : Nat → Bool} : FlatA (wordsQ p) := by rw [wordsQ_eq]; exact flatA_words
theorem exE.words {p : Nat → Bool} {i : Nat} {K : T → Prop} (h : K (.int .u64 (wordN p i))) : exE (wordsQ p) i K := by
  refine exE.mk fun x hx => ?_
  rw [wordsQ_eq, nth_eq, List.getElem?_map] at hx
  cases hi : (List.range 125)[i]? with
  | none => rw [hi] at hx; cases hx
  | some j =>
    rw [hi] at hx
    rw [List.getElem?_eq_some_iff] at hi
    obtain ⟨h1, h2⟩ := hi
    rw [List.getElem_range] at h2
    subst h2
    injection hx with hx
    exact hx ▸ h
abbrev setsQ (m : Nat) (a : Nat → Nat → Bool) : List T := (List.range m).map fun b => .arr (wordsQ (a b))
theorem setsQ_eq {m : Nat} {a : Nat → Nat → Bool} : setsQ m a = setsR m a := by unfold setsQ setsR; simp only [wordsQ_eq]
theorem needed29k (g : Graph) (hg : g.tiny) (hf : Ob g.fits) (hw : ∀ b ∈ g.blocks, ∀ x ∈ allN b.fin, I64 x) {q : T → Prop} (hq : ∀ a, Least g 8000 a → Inside g a → q (.sl 125 (setsQ g.blocks.length a))) : PCalls Tryd.prog 29 [g.t] q :=
  PCalls.mono (needed29 g (fits_fit hg hf.out) hf.out hw) fun r ⟨a, h1, h2, h3⟩ => by rw [h3, ← setsQ_eq]; exact hq a h1 h2

/-- The answer, all the caller's own. -/
abbrev liveO (m : Nat) (a : Nat → Nat → Bool) : T := .nst 22 1 (outR m m (fun b => liveN 8000 (a b)) .nsl)
theorem live10 (g : Graph) (hg : g.tiny) (hw : ∀ b ∈ g.blocks, ∀ x ∈ allN b.fin, I64 x) : PCalls Tryd.prog 10 [g.t] (fun r => Ob ((¬ g.fits ∧ r = .own (.tup [.nsl, .int .i64 1])) ∨ (g.fits ∧ ∃ a, Least g 8000 a ∧ Inside g a ∧ r = .own (.tup [liveO g.blocks.length a, .int .i64 0])))) := by
  refine PCalls.of_bodyO ttOk Tryd.func10 rfl ?_
  repeat' ((conv => whnf); first
    | (with_reducible refine onBool_intro (fun _ => ?_) (fun _ => ?_))
    | (with_reducible refine And.intro (Ob.mk (Nat.le_of_ble_eq_true rfl)) ?_)
    | (with_reducible refine And.intro (Ob.mk rfl) ?_)
    | (with_reducible exact ⟨rfl, rfl⟩)
    | (with_reducible refine And.intro (Ob.mk (fun h => h)) ?_)
    | (with_reducible refine Or.inl (And.intro (Ob.mk (Flat.map ?_)) ?_); exact fun _ => rfl)
    | (refine Or.inl (And.intro (Ob.mk (flat_of rfl)) ?_))
    | (refine Or.inl (And.intro (Ob.mk ⟨rfl, rfl, rfl, rfl⟩) ?_))
    | (refine Or.inl (And.intro (Ob.mk ⟨rfl, rfl, rfl⟩) ?_))
    | (refine And.intro (Ob.mk ⟨rfl, rfl⟩) ?_)
    | (with_reducible refine Or.inr ?_)
    | (refine And.intro (Ob.mk (flat_of rfl)) ?_)
    | (with_reducible refine And.intro (Ob.mk (Flat.map ?_)) ?_; exact fun _ => rfl)
    | (with_reducible exact Ob.mk (Flat.map fun _ => rfl))
    | (with_reducible refine And.intro ?_ ?_)
    | (with_reducible apply exG.mk) | (with_reducible apply exGS.mk) | (with_reducible exact Dd.nil) | (refine Dd.same _ ?_) | (refine Dd.dead _ ?_) | (with_reducible apply exQ.mk) | (with_reducible apply exP.mk) | (refine EqP.mk rfl rfl) | (with_reducible apply exW.mk) | (refine EqW.mk rfl)
    | (with_reducible intro _) | (with_reducible refine Dn.mk ?_)
    | (refine exS.full (by first | rfl | (simp; done) | (simp; omega)) ?_)
    | (refine And.intro (Ob.mk ⟨rfl, rfl, by first | rfl | (simp; done) | (simp; omega)⟩) ?_)
    | (with_reducible refine exE.mapD ?_) | (refine exL.int ?_)
    | (with_reducible refine Up0.mk rfl ?_) | (with_reducible refine Up0i.mk rfl ?_) | (with_reducible refine Up1.mk rfl ?_) | (with_reducible refine Up1i.mk rfl ?_) | (with_reducible refine Up2.mk rfl ?_) | (with_reducible refine Up2i.mk rfl ?_)
    | (refine Col.mk rfl rfl rfl ?_) | (refine Coli.mk rfl rfl rfl rfl ?_)
    | (refine fits28k g hg hw (fun hf => ?_) (fun hf => ?_))
    | (refine needed29k g hg ?_ hw fun a ha hin => ?_))
  · exact Ob.mk (by simp)
  · exact Ob.mk (Int.le_refl _)
  · refine Ob.mk ?_
    have := hf.most
    show ((g.blocks.map Block.t).length : Int) * (24 : Nat) ≤ _
    rw [List.length_map]; omega
  · have := hf.most
    exact Ob.mk (by rw [List.length_map]; omega)
  · exact Ob.mk hf
  · have hmost := hf.most
    conv => whnf
    refine LoopVC.mk [19, 4] [] (fun m vals σ => ∃ (b : Nat) (ep : Nat → Nat), vals = [.t (.int .i64 b), .osl 2 0 g.blocks.length] ∧ σ = [gvar g, .dead, .nd ep (.row 22 1 (outR g.blocks.length b (fun b => liveN 8000 (a b)) .nsl))] ∧ ep 0 = 0 ∧ b ≤ g.blocks.length ∧ m = g.blocks.length - b) ?_ ?_
    · conv => whnf
      refine ⟨_, 0, e0, ?_, ?_, rfl, Nat.zero_le _, rfl⟩
      · exact congrArg (fun z => [SV.t (.int .i64 0), SV.osl 2 0 z]) (by rw [List.length_map, Int.toNat_natCast])
      · refine congrArg (fun z => [gvar g, .dead, .nd e0 (.row 22 1 z)]) ?_
        rw [List.length_map, Int.toNat_natCast]
        exact outR_zero
    · rintro m vals σ ⟨b, ep, rfl, rfl, hep, hb, hm⟩
      repeat' ((conv => whnf); first
    | (with_reducible refine onBool_intro (fun _ => ?_) (fun _ => ?_))
    | (with_reducible refine And.intro (Ob.mk (Nat.le_of_ble_eq_true rfl)) ?_)
    | (with_reducible refine And.intro (Ob.mk rfl) ?_)
    | (with_reducible exact ⟨rfl, rfl⟩)
    | (with_reducible refine And.intro (Ob.mk (fun h => h)) ?_)
    | (with_reducible refine Or.inl (And.intro (Ob.mk (Flat.map ?_)) ?_); exact fun _ => rfl)
    | (refine Or.inl (And.intro (Ob.mk (flat_of rfl)) ?_))
    | (refine Or.inl (And.intro (Ob.mk ⟨rfl, rfl, rfl, rfl⟩) ?_))
    | (refine Or.inl (And.intro (Ob.mk ⟨rfl, rfl, rfl⟩) ?_))
    | (refine And.intro (Ob.mk ⟨rfl, rfl⟩) ?_)
    | (with_reducible refine Or.inr ?_)
    | (refine And.intro (Ob.mk (flat_of rfl)) ?_)
    | (with_reducible refine And.intro (Ob.mk (Flat.map ?_)) ?_; exact fun _ => rfl)
    | (with_reducible exact Ob.mk (Flat.map fun _ => rfl))
    | (with_reducible refine And.intro ?_ ?_)
    | (with_reducible apply exG.mk) | (with_reducible apply exGS.mk) | (with_reducible exact Dd.nil) | (refine Dd.same _ ?_) | (refine Dd.dead _ ?_) | (with_reducible apply exQ.mk) | (with_reducible apply exP.mk) | (refine EqP.mk rfl rfl) | (with_reducible apply exW.mk) | (refine EqW.mk rfl)
    | (with_reducible intro _) | (with_reducible refine Dn.mk ?_)
    | (refine exS.full (by first | rfl | (simp; done) | (simp; omega)) ?_)
    | (refine And.intro (Ob.mk ⟨rfl, rfl, by first | rfl | (simp; done) | (simp; omega)⟩) ?_)
    | (with_reducible refine exE.mapD ?_) | (refine exL.int ?_)
    | (with_reducible refine Up0.mk rfl ?_) | (with_reducible refine Up0i.mk rfl ?_) | (with_reducible refine Up1.mk rfl ?_) | (with_reducible refine Up1i.mk rfl ?_) | (with_reducible refine Up2.mk rfl ?_) | (with_reducible refine Up2i.mk rfl ?_)
    | (refine Col.mk rfl rfl rfl ?_) | (refine Coli.mk rfl rfl rfl rfl ?_)
    | (with_reducible refine forceTs_iff.2 ?_)
    | (refine exE.words ?_)
    | (refine exS.full wordsQ_len.symm ?_))
      all_goals (try exact Ob.mk wordsQ_len)
      all_goals (try exact Ob.mk flatA_wordsQ)
      all_goals (try exact Ob.mk (Nat.le_of_eq (Eq.trans rfl wordsQ_len.symm)))
      · exact Ob.mk (by omega)
      · rename_i h1
        exact Ob.mk (ltI_iff.1 h1)
      · rename_i h1
        have hlt : b < g.blocks.length := by rw [ltI_iff, List.length_map, List.length_range] at h1; omega
        conv => whnf
        refine LoopVC.mk [25, 4] [] (fun m vals σ => ∃ (i : Nat) (ep : Nat → Nat), vals = [.t (.int .i64 i), .osl 4 0 g.blocks.length] ∧ σ = [gvar g, .dead, .dead, .row 72 1 (wordsQ (a b)), .nd ep (.row 22 1 (outR g.blocks.length b (fun b => liveN 8000 (a b)) (cellL (liveN (64 * i) (a b)))))] ∧ ep 0 = 0 ∧ i ≤ 125 ∧ m = 125 - i) ?_ ?_
        · conv => whnf
          refine ⟨_, 0, ep, rfl, ?_, hep, Nat.zero_le _, rfl⟩
          rw [Int.toNat_natCast, nthD_range hlt]
          refine congrArg (fun z => [gvar g, .dead, .dead, .row 72 1 (wordsQ (a b)), .nd ep (.row 22 1 z)]) ?_
          rfl
        · rintro m2 vals σ ⟨i, ep2, rfl, rfl, hep2, hi, hm2⟩
          repeat' ((conv => whnf); first
    | (with_reducible refine onBool_intro (fun _ => ?_) (fun _ => ?_))
    | (with_reducible refine And.intro (Ob.mk (Nat.le_of_ble_eq_true rfl)) ?_)
    | (with_reducible refine And.intro (Ob.mk rfl) ?_)
    | (with_reducible exact ⟨rfl, rfl⟩)
    | (with_reducible refine And.intro (Ob.mk (fun h => h)) ?_)
    | (with_reducible refine Or.inl (And.intro (Ob.mk (Flat.map ?_)) ?_); exact fun _ => rfl)
    | (refine Or.inl (And.intro (Ob.mk (flat_of rfl)) ?_))
    | (refine Or.inl (And.intro (Ob.mk ⟨rfl, rfl, rfl, rfl⟩) ?_))
    | (refine Or.inl (And.intro (Ob.mk ⟨rfl, rfl, rfl⟩) ?_))
    | (refine And.intro (Ob.mk ⟨rfl, rfl⟩) ?_)
    | (with_reducible refine Or.inr ?_)
    | (refine And.intro (Ob.mk (flat_of rfl)) ?_)
    | (with_reducible refine And.intro (Ob.mk (Flat.map ?_)) ?_; exact fun _ => rfl)
    | (with_reducible exact Ob.mk (Flat.map fun _ => rfl))
    | (with_reducible refine And.intro ?_ ?_)
    | (with_reducible apply exG.mk) | (with_reducible apply exGS.mk) | (with_reducible exact Dd.nil) | (refine Dd.same _ ?_) | (refine Dd.dead _ ?_) | (with_reducible apply exQ.mk) | (with_reducible apply exP.mk) | (refine EqP.mk rfl rfl) | (with_reducible apply exW.mk) | (refine EqW.mk rfl)
    | (with_reducible intro _) | (with_reducible refine Dn.mk ?_)
    | (refine exS.full (by first | rfl | (simp; done) | (simp; omega)) ?_)
    | (refine And.intro (Ob.mk ⟨rfl, rfl, by first | rfl | (simp; done) | (simp; omega)⟩) ?_)
    | (with_reducible refine exE.mapD ?_) | (refine exL.int ?_)
    | (with_reducible refine Up0.mk rfl ?_) | (with_reducible refine Up0i.mk rfl ?_) | (with_reducible refine Up1.mk rfl ?_) | (with_reducible refine Up1i.mk rfl ?_) | (with_reducible refine Up2.mk rfl ?_) | (with_reducible refine Up2i.mk rfl ?_)
    | (refine Col.mk rfl rfl rfl ?_) | (refine Coli.mk rfl rfl rfl rfl ?_)
    | (refine exE.words ?_))
          · rename_i h2
            have := ltI_iff.1 h2
            exact Ob.mk ⟨by omega, this⟩
          · exact Ob.mk wordsQ_len
          · rename_i h2
            have hlti : i < 125 := by have := ltI_iff.1 h2; omega
            conv => whnf
            refine LoopVC.mk [8, 4] [] (fun m vals σ => ∃ (j : Nat) (ep : Nat → Nat), vals = [.t (.int .u64 (restB (a b) i j : Nat)), .osl 5 0 g.blocks.length] ∧ σ = [gvar g, .dead, .dead, .row 72 1 (wordsQ (a b)), .dead, .nd ep (.row 22 1 (outR g.blocks.length b (fun b => liveN 8000 (a b)) (cellL (liveN (64 * i + j) (a b)))))] ∧ ep 0 = 0 ∧ j ≤ 64 ∧ m = 64 - j) ?_ ?_
            · conv => whnf
              refine ⟨_, 0, ep2, ?_, rfl, hep2, Nat.zero_le _, rfl⟩
              rw [Int.toNat_natCast, Int.toNat_natCast, nthD_range hlt, restB_zero]
              rfl
            · rintro m3 vals σ ⟨j, ep3, rfl, rfl, hep3, hj, hm3⟩
              have hll := liveN_len (n := 64 * i + j) (f := a b)
              generalize hl : liveN (64 * i + j) (a b) = l at *
              cases l with
              | nil =>
                repeat' ((conv => whnf); first
    | (with_reducible refine onBool_intro (fun _ => ?_) (fun _ => ?_))
    | (with_reducible refine And.intro (Ob.mk (Nat.le_of_ble_eq_true rfl)) ?_)
    | (with_reducible refine And.intro (Ob.mk rfl) ?_)
    | (with_reducible exact ⟨rfl, rfl⟩)
    | (with_reducible refine And.intro (Ob.mk (fun h => h)) ?_)
    | (with_reducible refine Or.inl (And.intro (Ob.mk (Flat.map ?_)) ?_); exact fun _ => rfl)
    | (refine Or.inl (And.intro (Ob.mk (flat_of rfl)) ?_))
    | (refine Or.inl (And.intro (Ob.mk ⟨rfl, rfl, rfl, rfl⟩) ?_))
    | (refine Or.inl (And.intro (Ob.mk ⟨rfl, rfl, rfl⟩) ?_))
    | (refine And.intro (Ob.mk ⟨rfl, rfl⟩) ?_)
    | (with_reducible refine Or.inr ?_)
    | (refine And.intro (Ob.mk (flat_of rfl)) ?_)
    | (with_reducible refine And.intro (Ob.mk (Flat.map ?_)) ?_; exact fun _ => rfl)
    | (with_reducible exact Ob.mk (Flat.map fun _ => rfl))
    | (with_reducible refine And.intro ?_ ?_)
    | (with_reducible apply exG.mk) | (with_reducible apply exGS.mk) | (with_reducible exact Dd.nil) | (refine Dd.same _ ?_) | (refine Dd.dead _ ?_) | (with_reducible apply exQ.mk) | (with_reducible apply exP.mk) | (refine EqP.mk rfl rfl) | (with_reducible apply exW.mk) | (refine EqW.mk rfl)
    | (with_reducible intro _) | (with_reducible refine Dn.mk ?_)
    | (refine exS.full (by first | rfl | (simp; done) | (simp; omega)) ?_)
    | (refine And.intro (Ob.mk ⟨rfl, rfl, by first | rfl | (simp; done) | (simp; omega)⟩) ?_)
    | (with_reducible refine exE.mapD ?_) | (refine exL.int ?_)
    | (with_reducible refine Up0.mk rfl ?_) | (with_reducible refine Up0i.mk rfl ?_) | (with_reducible refine Up1.mk rfl ?_) | (with_reducible refine Up1i.mk rfl ?_) | (with_reducible refine Up2.mk rfl ?_) | (with_reducible refine Up2i.mk rfl ?_)
    | (refine Col.mk rfl rfl rfl ?_) | (refine Coli.mk rfl rfl rfl rfl ?_)
    | (refine drawVC.mkM _ _ 15 15 [(12, [0, 1, 13]), (14, [])] [[], [], [], [], [2, 3], [2, 3, 4], [], [6], [], [8], [6, 7, 8, 9], [6, 7, 8, 9, 10], [2, 3, 4, 5, 6, 7, 8, 9, 10, 11], [0, 1, 2, 3, 4, 5, 6, 7, 8, 9, 10, 11, 12], [0, 1, 2, 3, 4, 5, 6, 7, 8, 9, 10, 11, 12, 13]] rfl (by kernel_rfl) ?_)
    | (refine outR_at ?_ ?_)
    | (refine outR_at2 ?_ ?_)
    | (refine trailing30k _ restB_lt ?_)
    | (with_reducible apply exV.mk)
    | (refine EqV.mk rfl rfl))
                all_goals (try (refine Ob.mk ?_; first | assumption | exact ⟨rfl, rfl⟩ | exact ⟨rfl, rfl, rfl⟩ | (refine ⟨rfl, rfl, ?_⟩; simp only [List.length_map, List.length_take, List.length_append, els_len, List.length_replicate]; omega) | (intro h; exact h) | (intro h; rw [h]; rfl) | (intro h; simp_all; done) | (refine bytes_le (n := 1048577) ?_ rfl; simp only [ltI_iff, ltI_not, leI_iff, leI_not, eqI_iff, eqI_not, List.length_map, bif_and, bif_or, Bool.and_eq_true, Bool.and_eq_false_iff, Bool.or_eq_true, Bool.or_eq_false_iff, Bool.not_eq_true', Bool.not_eq_false', Int.toNat_natCast, beq_iff_eq, beq_eq_false_iff_ne, decide_eq_true_eq, decide_eq_false_iff_not, bel_iff, bel_not, wthn_iff, wthn_not, els_len, mixL_len, Nat.zero_add, List.length_set, List.length_take] at *; omega) | (simp only [ltI_iff, ltI_not, leI_iff, leI_not, eqI_iff, eqI_not, List.length_map, bif_and, bif_or, Bool.and_eq_true, Bool.and_eq_false_iff, Bool.or_eq_true, Bool.or_eq_false_iff, Bool.not_eq_true', Bool.not_eq_false', Int.toNat_natCast, beq_iff_eq, beq_eq_false_iff_ne, decide_eq_true_eq, decide_eq_false_iff_not, bel_iff, bel_not, wthn_iff, wthn_not, els_len, mixL_len, Nat.zero_add, List.length_set, List.length_take, Int.ofNat_eq_natCast] at *; omega)))
                all_goals (try exact Ob.mk hep3.symm)
                all_goals (try exact Ob.mk (by (try rw [List.length_set]); rw [outR_len, Int.toNat_natCast]; omega))
                all_goals (try exact Ob.mk ⟨by rw [Int.toNat_natCast]; omega, hlt⟩)
                all_goals (try exact Ob.mk ⟨rfl, by rw [Int.toNat_natCast]; omega⟩)
                all_goals (try exact Ob.mk ⟨rfl, rfl, by simp⟩)
                · rename_i h3
                  have hne : restB (a b) i j ≠ 0 := by
                    intro e; rw [e] at h3; simp [eqI] at h3
                  obtain ⟨k, hk1, hk2, hk3, hk4, hk5⟩ := rest_step hj hne
                  conv => whnf
                  refine ⟨64 - (k + 1), by omega, k + 1, bumpE 1 ep3, ?_, ?_, hep3, by omega, rfl⟩
                  · rw [rest_and hne, hk5]
                    rfl
                  · rw [hk4, hl]
                    rw [hk1, bit_val hlti hk3, Nat.zero_add, Int.toNat_natCast]
                    exact congrArg (fun z => [gvar g, .dead, .dead, .row 72 1 (wordsQ (a b)), .dead, .nd (bumpE 1 ep3) (.row 22 1 z)]) outR_set
                · rename_i h3
                  have h0 : restB (a b) i j = 0 := by
                    have := h3
                    simp only [Bool.not_eq_false', eqI_iff] at this
                    omega
                  conv => whnf
                  refine ⟨125 - (i + 1), by omega, i + 1, ep3, ?_, ?_, hep3, by omega, rfl⟩
                  · rw [addI_i64 (by omega) (by omega)]; rfl
                  · rw [rest_done hj h0, hl]
              | cons y l =>
                repeat' ((conv => whnf); first
    | (with_reducible refine onBool_intro (fun _ => ?_) (fun _ => ?_))
    | (with_reducible refine And.intro (Ob.mk (Nat.le_of_ble_eq_true rfl)) ?_)
    | (with_reducible refine And.intro (Ob.mk rfl) ?_)
    | (with_reducible exact ⟨rfl, rfl⟩)
    | (with_reducible refine And.intro (Ob.mk (fun h => h)) ?_)
    | (with_reducible refine Or.inl (And.intro (Ob.mk (Flat.map ?_)) ?_); exact fun _ => rfl)
    | (refine Or.inl (And.intro (Ob.mk (flat_of rfl)) ?_))
    | (refine Or.inl (And.intro (Ob.mk ⟨rfl, rfl, rfl, rfl⟩) ?_))
    | (refine Or.inl (And.intro (Ob.mk ⟨rfl, rfl, rfl⟩) ?_))
    | (refine And.intro (Ob.mk ⟨rfl, rfl⟩) ?_)
    | (with_reducible refine Or.inr ?_)
    | (refine And.intro (Ob.mk (flat_of rfl)) ?_)
    | (with_reducible refine And.intro (Ob.mk (Flat.map ?_)) ?_; exact fun _ => rfl)
    | (with_reducible exact Ob.mk (Flat.map fun _ => rfl))
    | (with_reducible refine And.intro ?_ ?_)
    | (with_reducible apply exG.mk) | (with_reducible apply exGS.mk) | (with_reducible exact Dd.nil) | (refine Dd.same _ ?_) | (refine Dd.dead _ ?_) | (with_reducible apply exQ.mk) | (with_reducible apply exP.mk) | (refine EqP.mk rfl rfl) | (with_reducible apply exW.mk) | (refine EqW.mk rfl)
    | (with_reducible intro _) | (with_reducible refine Dn.mk ?_)
    | (refine exS.full (by first | rfl | (simp; done) | (simp; omega)) ?_)
    | (refine And.intro (Ob.mk ⟨rfl, rfl, by first | rfl | (simp; done) | (simp; omega)⟩) ?_)
    | (with_reducible refine exE.mapD ?_) | (refine exL.int ?_)
    | (with_reducible refine Up0.mk rfl ?_) | (with_reducible refine Up0i.mk rfl ?_) | (with_reducible refine Up1.mk rfl ?_) | (with_reducible refine Up1i.mk rfl ?_) | (with_reducible refine Up2.mk rfl ?_) | (with_reducible refine Up2i.mk rfl ?_)
    | (refine Col.mk rfl rfl rfl ?_) | (refine Coli.mk rfl rfl rfl rfl ?_)
    | (refine drawVC.mkM _ _ 15 15 [(12, [0, 1, 13]), (14, [])] [[], [], [], [], [2, 3], [2, 3, 4], [], [6], [], [8], [6, 7, 8, 9], [6, 7, 8, 9, 10], [2, 3, 4, 5, 6, 7, 8, 9, 10, 11], [0, 1, 2, 3, 4, 5, 6, 7, 8, 9, 10, 11, 12], [0, 1, 2, 3, 4, 5, 6, 7, 8, 9, 10, 11, 12, 13]] rfl (by kernel_rfl) ?_)
    | (refine outR_at ?_ ?_)
    | (refine outR_at2 ?_ ?_)
    | (refine trailing30k _ restB_lt ?_)
    | (with_reducible apply exV.mk)
    | (refine EqV.mk rfl rfl))
                all_goals (try (refine Ob.mk ?_; first | assumption | exact ⟨rfl, rfl⟩ | exact ⟨rfl, rfl, rfl⟩ | (refine ⟨rfl, rfl, ?_⟩; simp only [List.length_map, List.length_take, List.length_append, els_len, List.length_replicate]; omega) | (intro h; exact h) | (intro h; rw [h]; rfl) | (intro h; simp_all; done) | (refine bytes_le (n := 1048577) ?_ rfl; simp only [ltI_iff, ltI_not, leI_iff, leI_not, eqI_iff, eqI_not, List.length_map, bif_and, bif_or, Bool.and_eq_true, Bool.and_eq_false_iff, Bool.or_eq_true, Bool.or_eq_false_iff, Bool.not_eq_true', Bool.not_eq_false', Int.toNat_natCast, beq_iff_eq, beq_eq_false_iff_ne, decide_eq_true_eq, decide_eq_false_iff_not, bel_iff, bel_not, wthn_iff, wthn_not, els_len, mixL_len, Nat.zero_add, List.length_set, List.length_take] at *; omega) | (simp only [ltI_iff, ltI_not, leI_iff, leI_not, eqI_iff, eqI_not, List.length_map, bif_and, bif_or, Bool.and_eq_true, Bool.and_eq_false_iff, Bool.or_eq_true, Bool.or_eq_false_iff, Bool.not_eq_true', Bool.not_eq_false', Int.toNat_natCast, beq_iff_eq, beq_eq_false_iff_ne, decide_eq_true_eq, decide_eq_false_iff_not, bel_iff, bel_not, wthn_iff, wthn_not, els_len, mixL_len, Nat.zero_add, List.length_set, List.length_take, Int.ofNat_eq_natCast] at *; omega)))
                all_goals (try exact Ob.mk hep3.symm)
                all_goals (try exact Ob.mk (by (try rw [List.length_set]); rw [outR_len, Int.toNat_natCast]; omega))
                all_goals (try exact Ob.mk ⟨by rw [Int.toNat_natCast]; omega, hlt⟩)
                all_goals (try exact Ob.mk ⟨rfl, by rw [Int.toNat_natCast]; omega⟩)
                all_goals (try exact Ob.mk ⟨rfl, rfl, by simp⟩)
                · rename_i h3
                  have hne : restB (a b) i j ≠ 0 := by
                    intro e; rw [e] at h3; simp [eqI] at h3
                  obtain ⟨k, hk1, hk2, hk3, hk4, hk5⟩ := rest_step hj hne
                  conv => whnf
                  refine ⟨64 - (k + 1), by omega, k + 1, bumpE 1 ep3, ?_, ?_, hep3, by omega, rfl⟩
                  · rw [rest_and hne, hk5]
                    rfl
                  · rw [hk4, hl]
                    rw [hk1, bit_val hlti hk3, Nat.zero_add, Int.toNat_natCast]
                    refine congrArg (fun z => [gvar g, .dead, .dead, .row 72 1 (wordsQ (a b)), .dead, .nd (bumpE 1 ep3) (.row 22 1 z)]) (Eq.trans (List.set_set ..) (Eq.trans outR_set ?_))
                    exact congrArg (fun z => outR g.blocks.length b (fun b => liveN 8000 (a b)) (.nst 3 1 z)) (by simp; rfl)
                · rename_i h3
                  have h0 : restB (a b) i j = 0 := by
                    have := h3
                    simp only [Bool.not_eq_false', eqI_iff] at this
                    omega
                  conv => whnf
                  refine ⟨125 - (i + 1), by omega, i + 1, ep3, ?_, ?_, hep3, by omega, rfl⟩
                  · rw [addI_i64 (by omega) (by omega)]; rfl
                  · rw [rest_done hj h0, hl]
          · rename_i h2
            have hi125 : i = 125 := by rw [ltI_not] at h2; omega
            subst hi125
            conv => whnf
            refine ⟨g.blocks.length - (b + 1), by omega, b + 1, ep2, ?_, ?_, hep2, hlt, rfl⟩
            · rw [addI_i64 (by omega) (by omega)]; rfl
            · exact congrArg (fun z => [gvar g, .dead, .nd ep2 (.row 22 1 z)]) (outR_next (f := fun b => liveN 8000 (a b)))
      · exact Ob.mk ⟨rfl, rfl, outR_len.symm⟩
      · exact Ob.mk clean_outR
      · rename_i h1
        have hbe : b = g.blocks.length := by rw [ltI_not, List.length_map, List.length_range] at h1; omega
        subst hbe
        exact Ob.mk (.inr ⟨hf, a, ha, hin, rfl⟩)
  · exact Ob.mk (.inl ⟨hf, rfl⟩)
end Go.Proofs.YtgladinljapmkaaDoor.Am

/- The document's copies: memory of the caller's own. -/
namespace Go.Proofs.YtgladinljapmkaaDoor.Am
open Go Go.Proofs
set_option maxRecDepth 10000
set_option linter.unusedVariables false
set_option linter.unusedSimpArgs false
set_option maxHeartbeats 1000000

theorem ints44o (l : List Int) (h : l.length ≤ 2 ^ 20) : PCalls Tryd.prog 44 [ilist l] (fun r => r = .own (.nst 3 1 (l.map fun n => .int .i64 n))) := by
  refine PCalls.of_bodyO ttOk Tryd.func44 rfl ?_
  repeat' ((conv => whnf); first
    | (with_reducible refine onBool_intro (fun _ => ?_) (fun _ => ?_))
    | (with_reducible refine And.intro (Ob.mk (Nat.le_of_ble_eq_true rfl)) ?_)
    | (with_reducible refine And.intro (Ob.mk rfl) ?_)
    | (with_reducible exact ⟨rfl, rfl⟩)
    | (with_reducible refine And.intro (Ob.mk (fun h => h)) ?_)
    | (with_reducible refine Or.inl (And.intro (Ob.mk (Flat.map ?_)) ?_); exact fun _ => rfl)
    | (refine Or.inl (And.intro (Ob.mk (flat_of rfl)) ?_))
    | (refine Or.inl (And.intro (Ob.mk ⟨rfl, rfl, rfl, rfl⟩) ?_))
    | (refine Or.inl (And.intro (Ob.mk ⟨rfl, rfl, rfl⟩) ?_))
    | (refine And.intro (Ob.mk ⟨rfl, rfl⟩) ?_)
    | (with_reducible refine Or.inr ?_)
    | (refine And.intro (Ob.mk (flat_of rfl)) ?_)
    | (with_reducible refine And.intro (Ob.mk (Flat.map ?_)) ?_; exact fun _ => rfl)
    | (with_reducible exact Ob.mk (Flat.map fun _ => rfl))
    | (with_reducible refine And.intro ?_ ?_)
    | (with_reducible apply exG.mk) | (with_reducible apply exGS.mk) | (with_reducible exact Dd.nil) | (refine Dd.same _ ?_) | (refine Dd.dead _ ?_) | (with_reducible apply exQ.mk) | (with_reducible apply exP.mk) | (refine EqP.mk rfl rfl) | (with_reducible apply exW.mk) | (refine EqW.mk rfl)
    | (with_reducible intro _) | (with_reducible refine Dn.mk ?_)
    | (refine exS.full (by first | rfl | (simp; done) | (simp; omega)) ?_)
    | (refine And.intro (Ob.mk ⟨rfl, rfl, by first | rfl | (simp; done) | (simp; omega)⟩) ?_)
    | (with_reducible refine exE.mapD ?_) | (refine exL.int ?_)
    | (with_reducible refine Up0.mk rfl ?_) | (with_reducible refine Up0i.mk rfl ?_) | (with_reducible refine Up1.mk rfl ?_) | (with_reducible refine Up1i.mk rfl ?_) | (with_reducible refine Up2.mk rfl ?_) | (with_reducible refine Up2i.mk rfl ?_)
    | (refine Col.mk rfl rfl rfl ?_) | (refine Coli.mk rfl rfl rfl rfl ?_))
  all_goals (try (refine Ob.mk ?_; first | assumption | exact ⟨rfl, rfl⟩ | exact ⟨rfl, rfl, rfl⟩ | (refine ⟨rfl, rfl, ?_⟩; simp only [List.length_map, List.length_take, List.length_append, els_len, List.length_replicate]; omega) | (intro h; exact h) | (intro h; rw [h]; rfl) | (intro h; simp_all; done) | (refine bytes_le (n := 1048577) ?_ rfl; simp only [ltI_iff, ltI_not, leI_iff, leI_not, eqI_iff, eqI_not, List.length_map, bif_and, bif_or, Bool.and_eq_true, Bool.and_eq_false_iff, Bool.or_eq_true, Bool.or_eq_false_iff, Bool.not_eq_true', Bool.not_eq_false', Int.toNat_natCast, beq_iff_eq, beq_eq_false_iff_ne, decide_eq_true_eq, decide_eq_false_iff_not, bel_iff, bel_not, wthn_iff, wthn_not, els_len, mixL_len, Nat.zero_add, List.length_set, List.length_take] at *; omega) | (simp only [ltI_iff, ltI_not, leI_iff, leI_not, eqI_iff, eqI_not, List.length_map, bif_and, bif_or, Bool.and_eq_true, Bool.and_eq_false_iff, Bool.or_eq_true, Bool.or_eq_false_iff, Bool.not_eq_true', Bool.not_eq_false', Int.toNat_natCast, beq_iff_eq, beq_eq_false_iff_ne, decide_eq_true_eq, decide_eq_false_iff_not, bel_iff, bel_not, wthn_iff, wthn_not, els_len, mixL_len, Nat.zero_add, List.length_set, List.length_take, Int.ofNat_eq_natCast] at *; omega)))
  · exact Ob.mk clean_ints
  · exact rfl
theorem ints44ok (l : List Int) (h : Ob (l.length ≤ 2 ^ 20)) {q : T → Prop} (hq : q (.own (.nst 3 1 (l.map fun n => .int .i64 n)))) : PCalls Tryd.prog 44 [.sl 1 (l.map fun n => .int .i64 n)] q := PCalls.mono (ints44o l h.out) fun _ h => h ▸ hq

abbrev bvarO (b : Block) (a c d k : Nat) : SObj := .var 42 [.osl a 0 k, .t (.int .i64 b.fin.kind), .t (.int .i64 b.fin.op), .t (.int .i64 b.fin.a), .t (.int .i64 b.fin.b), .t (.int .u32 b.fin.n), .t (.int .i64 b.fin.to), .t (.int .i64 b.fin.els), .osl c 0 (b.fin.cases.map Case.t).length, .osl d 0 (b.fin.targets.map fun n => T.int .i64 n).length]

theorem copyGraph45o (g : Graph) (hg : g.tiny) : PCalls Tryd.prog 45 [g.t] (fun r => r = .own g.o) := by
  have hp := hg.params
  have ha := hg.arrays
  have hb := hg.blocks
  refine PCalls.of_bodyO ttOk Tryd.func45 rfl ?_
  repeat' ((conv => whnf); first
    | (with_reducible refine onBool_intro (fun _ => ?_) (fun _ => ?_))
    | (with_reducible refine And.intro (Ob.mk (Nat.le_of_ble_eq_true rfl)) ?_)
    | (with_reducible refine And.intro (Ob.mk rfl) ?_)
    | (with_reducible exact ⟨rfl, rfl⟩)
    | (with_reducible refine And.intro (Ob.mk (fun h => h)) ?_)
    | (with_reducible refine Or.inl (And.intro (Ob.mk (Flat.map ?_)) ?_); exact fun _ => rfl)
    | (refine Or.inl (And.intro (Ob.mk (flat_of rfl)) ?_))
    | (refine Or.inl (And.intro (Ob.mk ⟨rfl, rfl, rfl, rfl⟩) ?_))
    | (refine Or.inl (And.intro (Ob.mk ⟨rfl, rfl, rfl⟩) ?_))
    | (refine And.intro (Ob.mk ⟨rfl, rfl⟩) ?_)
    | (with_reducible refine Or.inr ?_)
    | (refine And.intro (Ob.mk (flat_of rfl)) ?_)
    | (with_reducible refine And.intro (Ob.mk (Flat.map ?_)) ?_; exact fun _ => rfl)
    | (with_reducible exact Ob.mk (Flat.map fun _ => rfl))
    | (with_reducible refine And.intro ?_ ?_)
    | (with_reducible apply exG.mk) | (with_reducible apply exGS.mk) | (with_reducible exact Dd.nil) | (refine Dd.same _ ?_) | (refine Dd.dead _ ?_) | (with_reducible apply exQ.mk) | (with_reducible apply exP.mk) | (refine EqP.mk rfl rfl) | (with_reducible apply exW.mk) | (refine EqW.mk rfl)
    | (with_reducible intro _) | (with_reducible refine Dn.mk ?_)
    | (refine exS.full (by first | rfl | (simp; done) | (simp; omega)) ?_)
    | (refine And.intro (Ob.mk ⟨rfl, rfl, by first | rfl | (simp; done) | (simp; omega)⟩) ?_)
    | (with_reducible refine exE.mapD ?_) | (refine exL.int ?_)
    | (with_reducible refine Up0.mk rfl ?_) | (with_reducible refine Up0i.mk rfl ?_) | (with_reducible refine Up1.mk rfl ?_) | (with_reducible refine Up1i.mk rfl ?_) | (with_reducible refine Up2.mk rfl ?_) | (with_reducible refine Up2i.mk rfl ?_)
    | (refine Col.mk rfl rfl rfl ?_) | (refine Coli.mk rfl rfl rfl rfl ?_)
    | (refine drawVC.mk _ _ 7 (by kernel_rfl) ?_)
    | (refine ints44ok _ ?_ ?_))
  all_goals (try (refine Ob.mk ?_; first | assumption | exact ⟨rfl, rfl⟩ | exact ⟨rfl, rfl, rfl⟩ | (refine ⟨rfl, rfl, ?_⟩; simp only [List.length_map, List.length_take, List.length_append, els_len, List.length_replicate]; omega) | (intro h; exact h) | (intro h; rw [h]; rfl) | (intro h; simp_all; done) | (refine bytes_le (n := 1048577) ?_ rfl; simp only [ltI_iff, ltI_not, leI_iff, leI_not, eqI_iff, eqI_not, List.length_map, bif_and, bif_or, Bool.and_eq_true, Bool.and_eq_false_iff, Bool.or_eq_true, Bool.or_eq_false_iff, Bool.not_eq_true', Bool.not_eq_false', Int.toNat_natCast, beq_iff_eq, beq_eq_false_iff_ne, decide_eq_true_eq, decide_eq_false_iff_not, bel_iff, bel_not, wthn_iff, wthn_not, els_len, mixL_len, Nat.zero_add, List.length_set, List.length_take] at *; omega) | (simp only [ltI_iff, ltI_not, leI_iff, leI_not, eqI_iff, eqI_not, List.length_map, bif_and, bif_or, Bool.and_eq_true, Bool.and_eq_false_iff, Bool.or_eq_true, Bool.or_eq_false_iff, Bool.not_eq_true', Bool.not_eq_false', Int.toNat_natCast, beq_iff_eq, beq_eq_false_iff_ne, decide_eq_true_eq, decide_eq_false_iff_not, bel_iff, bel_not, wthn_iff, wthn_not, els_len, mixL_len, Nat.zero_add, List.length_set, List.length_take, Int.ofNat_eq_natCast] at *; omega)))
  conv => whnf
  refine LoopVC.upS 4 [(3, 3, 42, 10)] g.blocks.length (fun i => [gvar g, gzero, .dead, .var 26 [.osl 5 0 (g.params.map fun n => T.int .i64 n).length, .t (.int .i64 g.temps), .osl 6 0 (g.arrays.map Arr.t).length, .osl 7 0 i], .dead, .row 3 1 (g.params.map fun n => .int .i64 n), .row 114 2 (g.arrays.map Arr.t), .row 42 10 ((g.blocks.take i).map Block.o)]) (fun _ => True) ?_ ?_
  · repeat' ((conv => whnf); first
    | (with_reducible refine onBool_intro (fun _ => ?_) (fun _ => ?_))
    | (with_reducible refine And.intro (Ob.mk (Nat.le_of_ble_eq_true rfl)) ?_)
    | (with_reducible refine And.intro (Ob.mk rfl) ?_)
    | (with_reducible exact ⟨rfl, rfl⟩)
    | (with_reducible refine And.intro (Ob.mk (fun h => h)) ?_)
    | (with_reducible refine Or.inl (And.intro (Ob.mk (Flat.map ?_)) ?_); exact fun _ => rfl)
    | (refine Or.inl (And.intro (Ob.mk (flat_of rfl)) ?_))
    | (refine Or.inl (And.intro (Ob.mk ⟨rfl, rfl, rfl, rfl⟩) ?_))
    | (refine Or.inl (And.intro (Ob.mk ⟨rfl, rfl, rfl⟩) ?_))
    | (refine And.intro (Ob.mk ⟨rfl, rfl⟩) ?_)
    | (with_reducible refine Or.inr ?_)
    | (refine And.intro (Ob.mk (flat_of rfl)) ?_)
    | (with_reducible refine And.intro (Ob.mk (Flat.map ?_)) ?_; exact fun _ => rfl)
    | (with_reducible exact Ob.mk (Flat.map fun _ => rfl))
    | (with_reducible refine And.intro ?_ ?_)
    | (with_reducible apply exG.mk) | (with_reducible apply exGS.mk) | (with_reducible exact Dd.nil) | (refine Dd.same _ ?_) | (refine Dd.dead _ ?_) | (with_reducible apply exQ.mk) | (with_reducible apply exP.mk) | (refine EqP.mk rfl rfl) | (with_reducible apply exW.mk) | (refine EqW.mk rfl)
    | (with_reducible intro _) | (with_reducible refine Dn.mk ?_)
    | (refine exS.full (by first | rfl | (simp; done) | (simp; omega)) ?_)
    | (refine And.intro (Ob.mk ⟨rfl, rfl, by first | rfl | (simp; done) | (simp; omega)⟩) ?_)
    | (with_reducible refine exE.mapD ?_) | (refine exL.int ?_)
    | (with_reducible refine Up0.mk rfl ?_) | (with_reducible refine Up0i.mk rfl ?_) | (with_reducible refine Up1.mk rfl ?_) | (with_reducible refine Up1i.mk rfl ?_) | (with_reducible refine Up2.mk rfl ?_) | (with_reducible refine Up2i.mk rfl ?_)
    | (refine Col.mk rfl rfl rfl ?_) | (refine Coli.mk rfl rfl rfl rfl ?_)
    | (refine UpSi.mk ?_))
    exact Ob.mk ⟨rfl, trivial⟩
  · rintro i hi -
    have hbt : i < g.blocks.length → (nthD g.blocks i).tiny := fun h => hg.all _ (nthD_mem h)
    repeat' ((conv => whnf); first
    | (with_reducible refine onBool_intro (fun _ => ?_) (fun _ => ?_))
    | (with_reducible refine And.intro (Ob.mk (Nat.le_of_ble_eq_true rfl)) ?_)
    | (with_reducible refine And.intro (Ob.mk rfl) ?_)
    | (with_reducible exact ⟨rfl, rfl⟩)
    | (with_reducible refine And.intro (Ob.mk (fun h => h)) ?_)
    | (with_reducible refine Or.inl (And.intro (Ob.mk (Flat.map ?_)) ?_); exact fun _ => rfl)
    | (refine Or.inl (And.intro (Ob.mk (flat_of rfl)) ?_))
    | (refine Or.inl (And.intro (Ob.mk ⟨rfl, rfl, rfl, rfl⟩) ?_))
    | (refine Or.inl (And.intro (Ob.mk ⟨rfl, rfl, rfl⟩) ?_))
    | (refine And.intro (Ob.mk ⟨rfl, rfl⟩) ?_)
    | (with_reducible refine Or.inr ?_)
    | (refine And.intro (Ob.mk (flat_of rfl)) ?_)
    | (with_reducible refine And.intro (Ob.mk (Flat.map ?_)) ?_; exact fun _ => rfl)
    | (with_reducible exact Ob.mk (Flat.map fun _ => rfl))
    | (with_reducible refine And.intro ?_ ?_)
    | (with_reducible apply exG.mk) | (with_reducible apply exGS.mk) | (with_reducible exact Dd.nil) | (refine Dd.same _ ?_) | (refine Dd.dead _ ?_) | (with_reducible apply exQ.mk) | (with_reducible apply exP.mk) | (refine EqP.mk rfl rfl) | (with_reducible apply exW.mk) | (refine EqW.mk rfl)
    | (with_reducible intro _) | (with_reducible refine Dn.mk ?_)
    | (refine exS.full (by first | rfl | (simp; done) | (simp; omega)) ?_)
    | (refine And.intro (Ob.mk ⟨rfl, rfl, by first | rfl | (simp; done) | (simp; omega)⟩) ?_)
    | (with_reducible refine exE.mapD ?_) | (refine exL.int ?_)
    | (with_reducible refine Up0.mk rfl ?_) | (with_reducible refine Up0i.mk rfl ?_) | (with_reducible refine Up1.mk rfl ?_) | (with_reducible refine Up1i.mk rfl ?_) | (with_reducible refine Up2.mk rfl ?_) | (with_reducible refine Up2i.mk rfl ?_)
    | (refine Col.mk rfl rfl rfl ?_) | (refine Coli.mk rfl rfl rfl rfl ?_)
    | (refine UpS.mk ?_)
    | (refine drawVC.mk _ _ 10 (by kernel_rfl) ?_)
    | (refine ints44ok _ ?_ ?_))
    all_goals (try (refine Ob.mk ?_; first | assumption | exact ⟨rfl, rfl⟩ | exact ⟨rfl, rfl, rfl⟩ | (refine ⟨rfl, rfl, ?_⟩; simp only [List.length_map, List.length_take, List.length_append, els_len, List.length_replicate]; omega) | (intro h; exact h) | (intro h; rw [h]; rfl) | (intro h; simp_all; done) | (refine bytes_le (n := 1048577) ?_ rfl; simp only [ltI_iff, ltI_not, leI_iff, leI_not, eqI_iff, eqI_not, List.length_map, bif_and, bif_or, Bool.and_eq_true, Bool.and_eq_false_iff, Bool.or_eq_true, Bool.or_eq_false_iff, Bool.not_eq_true', Bool.not_eq_false', Int.toNat_natCast, beq_iff_eq, beq_eq_false_iff_ne, decide_eq_true_eq, decide_eq_false_iff_not, bel_iff, bel_not, wthn_iff, wthn_not, els_len, mixL_len, Nat.zero_add, List.length_set, List.length_take] at *; omega) | (simp only [ltI_iff, ltI_not, leI_iff, leI_not, eqI_iff, eqI_not, List.length_map, bif_and, bif_or, Bool.and_eq_true, Bool.and_eq_false_iff, Bool.or_eq_true, Bool.or_eq_false_iff, Bool.not_eq_true', Bool.not_eq_false', Int.toNat_natCast, beq_iff_eq, beq_eq_false_iff_ne, decide_eq_true_eq, decide_eq_false_iff_not, bel_iff, bel_not, wthn_iff, wthn_not, els_len, mixL_len, Nat.zero_add, List.length_set, List.length_take, Int.ofNat_eq_natCast] at *; omega)))
    · have hlt : i < g.blocks.length := by simp only [ltI_iff, ltI_not, leI_iff, leI_not, eqI_iff, eqI_not, List.length_map, bif_and, bif_or, Bool.and_eq_true, Bool.and_eq_false_iff, Bool.or_eq_true, Bool.or_eq_false_iff, Bool.not_eq_true', Bool.not_eq_false', Int.toNat_natCast, beq_iff_eq, beq_eq_false_iff_ne, decide_eq_true_eq, decide_eq_false_iff_not] at *; omega
      exact Ob.mk (hbt hlt).targets
    · have hlt : i < g.blocks.length := by simp only [ltI_iff, ltI_not, leI_iff, leI_not, eqI_iff, eqI_not, List.length_map, bif_and, bif_or, Bool.and_eq_true, Bool.and_eq_false_iff, Bool.or_eq_true, Bool.or_eq_false_iff, Bool.not_eq_true', Bool.not_eq_false', Int.toNat_natCast, beq_iff_eq, beq_eq_false_iff_ne, decide_eq_true_eq, decide_eq_false_iff_not] at *; omega
      exact Ob.mk (bytes_le (n := 1048577) (by have := (hbt hlt).cases; simp; omega) rfl)
    · have hlt : i < g.blocks.length := by simp only [ltI_iff, ltI_not, leI_iff, leI_not, eqI_iff, eqI_not, List.length_map, bif_and, bif_or, Bool.and_eq_true, Bool.and_eq_false_iff, Bool.or_eq_true, Bool.or_eq_false_iff, Bool.not_eq_true', Bool.not_eq_false', Int.toNat_natCast, beq_iff_eq, beq_eq_false_iff_ne, decide_eq_true_eq, decide_eq_false_iff_not] at *; omega
      exact Ob.mk (by have := (hbt hlt).cases; simp; omega)
    · conv => whnf
      have hlt : i < g.blocks.length := by simp only [ltI_iff, ltI_not, leI_iff, leI_not, eqI_iff, eqI_not, List.length_map, bif_and, bif_or, Bool.and_eq_true, Bool.and_eq_false_iff, Bool.or_eq_true, Bool.or_eq_false_iff, Bool.not_eq_true', Bool.not_eq_false', Int.toNat_natCast, beq_iff_eq, beq_eq_false_iff_ne, decide_eq_true_eq, decide_eq_false_iff_not] at *; omega
      have hbt := hbt hlt
      have hcl := hbt.code
      refine LoopVC.upS 6 [(8, 0, 62, 8)] (nthD g.blocks i).code.length (fun k => [gvar g, gzero, .dead, .var 26 [.osl 11 0 (g.params.map fun n => T.int .i64 n).length, .t (.int .i64 g.temps), .osl 12 0 (g.arrays.map Arr.t).length, .osl 13 0 i], .dead, .dead, .dead, .dead, bvarO (nthD g.blocks i) 14 15 16 k, .dead, .dead,
        .row 3 1 (g.params.map fun n => .int .i64 n), .row 114 2 (g.arrays.map Arr.t), .row 42 10 ((g.blocks.take i).map Block.o), .row 62 8 (((nthD g.blocks i).code.take k).map Ins.o), .row 80 2 ((nthD g.blocks i).fin.cases.map Case.t), .row 3 1 ((nthD g.blocks i).fin.targets.map fun n => .int .i64 n)]) (fun _ => True) ?_ ?_
      · repeat' ((conv => whnf); first
    | (with_reducible refine onBool_intro (fun _ => ?_) (fun _ => ?_))
    | (with_reducible refine And.intro (Ob.mk (Nat.le_of_ble_eq_true rfl)) ?_)
    | (with_reducible refine And.intro (Ob.mk rfl) ?_)
    | (with_reducible exact ⟨rfl, rfl⟩)
    | (with_reducible refine And.intro (Ob.mk (fun h => h)) ?_)
    | (with_reducible refine Or.inl (And.intro (Ob.mk (Flat.map ?_)) ?_); exact fun _ => rfl)
    | (refine Or.inl (And.intro (Ob.mk (flat_of rfl)) ?_))
    | (refine Or.inl (And.intro (Ob.mk ⟨rfl, rfl, rfl, rfl⟩) ?_))
    | (refine Or.inl (And.intro (Ob.mk ⟨rfl, rfl, rfl⟩) ?_))
    | (refine And.intro (Ob.mk ⟨rfl, rfl⟩) ?_)
    | (with_reducible refine Or.inr ?_)
    | (refine And.intro (Ob.mk (flat_of rfl)) ?_)
    | (with_reducible refine And.intro (Ob.mk (Flat.map ?_)) ?_; exact fun _ => rfl)
    | (with_reducible exact Ob.mk (Flat.map fun _ => rfl))
    | (with_reducible refine And.intro ?_ ?_)
    | (with_reducible apply exG.mk) | (with_reducible apply exGS.mk) | (with_reducible exact Dd.nil) | (refine Dd.same _ ?_) | (refine Dd.dead _ ?_) | (with_reducible apply exQ.mk) | (with_reducible apply exP.mk) | (refine EqP.mk rfl rfl) | (with_reducible apply exW.mk) | (refine EqW.mk rfl)
    | (with_reducible intro _) | (with_reducible refine Dn.mk ?_)
    | (refine exS.full (by first | rfl | (simp; done) | (simp; omega)) ?_)
    | (refine And.intro (Ob.mk ⟨rfl, rfl, by first | rfl | (simp; done) | (simp; omega)⟩) ?_)
    | (with_reducible refine exE.mapD ?_) | (refine exL.int ?_)
    | (with_reducible refine Up0.mk rfl ?_) | (with_reducible refine Up0i.mk rfl ?_) | (with_reducible refine Up1.mk rfl ?_) | (with_reducible refine Up1i.mk rfl ?_) | (with_reducible refine Up2.mk rfl ?_) | (with_reducible refine Up2i.mk rfl ?_)
    | (refine Col.mk rfl rfl rfl ?_) | (refine Coli.mk rfl rfl rfl rfl ?_)
    | (refine UpSi.mk ?_))
        exact Ob.mk ⟨rfl, trivial⟩
      · rintro k hk -
        have hxa : k < (nthD g.blocks i).code.length → (nthD (nthD g.blocks i).code k).args.length ≤ 2 ^ 20 ∧ (nthD (nthD g.blocks i).code k).arrs.length ≤ 2 ^ 20 := fun h => ⟨hbt.args _ (nthD_mem h), hbt.arrs _ (nthD_mem h)⟩
        repeat' ((conv => whnf); first
    | (with_reducible refine onBool_intro (fun _ => ?_) (fun _ => ?_))
    | (with_reducible refine And.intro (Ob.mk (Nat.le_of_ble_eq_true rfl)) ?_)
    | (with_reducible refine And.intro (Ob.mk rfl) ?_)
    | (with_reducible exact ⟨rfl, rfl⟩)
    | (with_reducible refine And.intro (Ob.mk (fun h => h)) ?_)
    | (with_reducible refine Or.inl (And.intro (Ob.mk (Flat.map ?_)) ?_); exact fun _ => rfl)
    | (refine Or.inl (And.intro (Ob.mk (flat_of rfl)) ?_))
    | (refine Or.inl (And.intro (Ob.mk ⟨rfl, rfl, rfl, rfl⟩) ?_))
    | (refine Or.inl (And.intro (Ob.mk ⟨rfl, rfl, rfl⟩) ?_))
    | (refine And.intro (Ob.mk ⟨rfl, rfl⟩) ?_)
    | (with_reducible refine Or.inr ?_)
    | (refine And.intro (Ob.mk (flat_of rfl)) ?_)
    | (with_reducible refine And.intro (Ob.mk (Flat.map ?_)) ?_; exact fun _ => rfl)
    | (with_reducible exact Ob.mk (Flat.map fun _ => rfl))
    | (with_reducible refine And.intro ?_ ?_)
    | (with_reducible apply exG.mk) | (with_reducible apply exGS.mk) | (with_reducible exact Dd.nil) | (refine Dd.same _ ?_) | (refine Dd.dead _ ?_) | (with_reducible apply exQ.mk) | (with_reducible apply exP.mk) | (refine EqP.mk rfl rfl) | (with_reducible apply exW.mk) | (refine EqW.mk rfl)
    | (with_reducible intro _) | (with_reducible refine Dn.mk ?_)
    | (refine exS.full (by first | rfl | (simp; done) | (simp; omega)) ?_)
    | (refine And.intro (Ob.mk ⟨rfl, rfl, by first | rfl | (simp; done) | (simp; omega)⟩) ?_)
    | (with_reducible refine exE.mapD ?_) | (refine exL.int ?_)
    | (with_reducible refine Up0.mk rfl ?_) | (with_reducible refine Up0i.mk rfl ?_) | (with_reducible refine Up1.mk rfl ?_) | (with_reducible refine Up1i.mk rfl ?_) | (with_reducible refine Up2.mk rfl ?_) | (with_reducible refine Up2i.mk rfl ?_)
    | (refine Col.mk rfl rfl rfl ?_) | (refine Coli.mk rfl rfl rfl rfl ?_)
    | (refine UpS.mk ?_)
    | (refine ints44ok _ ?_ ?_))
        all_goals (try (refine Ob.mk ?_; first | assumption | exact ⟨rfl, rfl⟩ | exact ⟨rfl, rfl, rfl⟩ | (refine ⟨rfl, rfl, ?_⟩; simp only [List.length_map, List.length_take, List.length_append, els_len, List.length_replicate]; omega) | (intro h; exact h) | (intro h; rw [h]; rfl) | (intro h; simp_all; done) | (refine bytes_le (n := 1048577) ?_ rfl; simp only [ltI_iff, ltI_not, leI_iff, leI_not, eqI_iff, eqI_not, List.length_map, bif_and, bif_or, Bool.and_eq_true, Bool.and_eq_false_iff, Bool.or_eq_true, Bool.or_eq_false_iff, Bool.not_eq_true', Bool.not_eq_false', Int.toNat_natCast, beq_iff_eq, beq_eq_false_iff_ne, decide_eq_true_eq, decide_eq_false_iff_not, bel_iff, bel_not, wthn_iff, wthn_not, els_len, mixL_len, Nat.zero_add, List.length_set, List.length_take] at *; omega) | (simp only [ltI_iff, ltI_not, leI_iff, leI_not, eqI_iff, eqI_not, List.length_map, bif_and, bif_or, Bool.and_eq_true, Bool.and_eq_false_iff, Bool.or_eq_true, Bool.or_eq_false_iff, Bool.not_eq_true', Bool.not_eq_false', Int.toNat_natCast, beq_iff_eq, beq_eq_false_iff_ne, decide_eq_true_eq, decide_eq_false_iff_not, bel_iff, bel_not, wthn_iff, wthn_not, els_len, mixL_len, Nat.zero_add, List.length_set, List.length_take, Int.ofNat_eq_natCast] at *; omega)))
        · have hltk : k < (nthD g.blocks i).code.length := by simp only [ltI_iff, ltI_not, leI_iff, leI_not, eqI_iff, eqI_not, List.length_map, bif_and, bif_or, Bool.and_eq_true, Bool.and_eq_false_iff, Bool.or_eq_true, Bool.or_eq_false_iff, Bool.not_eq_true', Bool.not_eq_false', Int.toNat_natCast, beq_iff_eq, beq_eq_false_iff_ne, decide_eq_true_eq, decide_eq_false_iff_not] at *; omega
          refine Ob.mk ⟨hltk, addI_i64 (by omega) (by omega), ?_, trivial⟩
          rw [take_succ_nthD hltk, List.map_append]
          rfl
        · have hk' : (nthD g.blocks i).code.length ≤ k := by simp only [ltI_iff, ltI_not, leI_iff, leI_not, eqI_iff, eqI_not, List.length_map, bif_and, bif_or, Bool.and_eq_true, Bool.and_eq_false_iff, Bool.or_eq_true, Bool.or_eq_false_iff, Bool.not_eq_true', Bool.not_eq_false', Int.toNat_natCast, beq_iff_eq, beq_eq_false_iff_ne, decide_eq_true_eq, decide_eq_false_iff_not] at *; omega
          refine Ob.mk ⟨hlt, addI_i64 (by omega) (by omega), ?_, trivial⟩
          rw [take_succ_nthD hlt, List.map_append, List.take_of_length_le hk']
          rfl
    · exact Ob.mk clean_ints
    · exact Ob.mk clean_arr
    · exact Ob.mk clean_block
    · have hle : g.blocks.length ≤ i := by simp only [ltI_iff, ltI_not, leI_iff, leI_not, eqI_iff, eqI_not, List.length_map, bif_and, bif_or, Bool.and_eq_true, Bool.and_eq_false_iff, Bool.or_eq_true, Bool.or_eq_false_iff, Bool.not_eq_true', Bool.not_eq_false', Int.toNat_natCast, beq_iff_eq, beq_eq_false_iff_ne, decide_eq_true_eq, decide_eq_false_iff_not] at *; omega
      rw [List.take_of_length_le hle]
      rfl
theorem copyGraph45ok (g : Graph) (h : Ob g.tiny) {q : T → Prop} (hq : q (.own g.o)) : PCalls Tryd.prog 45 [.agg [.sl 1 (g.params.map fun n => .int .i64 n), .int .i64 g.temps, .sl 2 (g.arrays.map Arr.t), .sl 10 (g.blocks.map Block.t)]] q := PCalls.mono (copyGraph45o g h.out) fun _ h => h ▸ hq

theorem copy22o (m : Module) (hm : m.tiny) : PCalls Tryd.prog 22 [m.t] (fun r => r = .own m.o) := by
  have hp := hm.globals
  have ha := hm.arrays
  have hb := hm.funcs
  refine PCalls.of_bodyO ttOk Tryd.func22 rfl ?_
  repeat' ((conv => whnf); first
    | (with_reducible refine onBool_intro (fun _ => ?_) (fun _ => ?_))
    | (with_reducible refine And.intro (Ob.mk (Nat.le_of_ble_eq_true rfl)) ?_)
    | (with_reducible refine And.intro (Ob.mk rfl) ?_)
    | (with_reducible exact ⟨rfl, rfl⟩)
    | (with_reducible refine And.intro (Ob.mk (fun h => h)) ?_)
    | (with_reducible refine Or.inl (And.intro (Ob.mk (Flat.map ?_)) ?_); exact fun _ => rfl)
    | (refine Or.inl (And.intro (Ob.mk (flat_of rfl)) ?_))
    | (refine Or.inl (And.intro (Ob.mk ⟨rfl, rfl, rfl, rfl⟩) ?_))
    | (refine Or.inl (And.intro (Ob.mk ⟨rfl, rfl, rfl⟩) ?_))
    | (refine And.intro (Ob.mk ⟨rfl, rfl⟩) ?_)
    | (with_reducible refine Or.inr ?_)
    | (refine And.intro (Ob.mk (flat_of rfl)) ?_)
    | (with_reducible refine And.intro (Ob.mk (Flat.map ?_)) ?_; exact fun _ => rfl)
    | (with_reducible exact Ob.mk (Flat.map fun _ => rfl))
    | (with_reducible refine And.intro ?_ ?_)
    | (with_reducible apply exG.mk) | (with_reducible apply exGS.mk) | (with_reducible exact Dd.nil) | (refine Dd.same _ ?_) | (refine Dd.dead _ ?_) | (with_reducible apply exQ.mk) | (with_reducible apply exP.mk) | (refine EqP.mk rfl rfl) | (with_reducible apply exW.mk) | (refine EqW.mk rfl)
    | (with_reducible intro _) | (with_reducible refine Dn.mk ?_)
    | (refine exS.full (by first | rfl | (simp; done) | (simp; omega)) ?_)
    | (refine And.intro (Ob.mk ⟨rfl, rfl, by first | rfl | (simp; done) | (simp; omega)⟩) ?_)
    | (with_reducible refine exE.mapD ?_) | (refine exL.int ?_)
    | (with_reducible refine Up0.mk rfl ?_) | (with_reducible refine Up0i.mk rfl ?_) | (with_reducible refine Up1.mk rfl ?_) | (with_reducible refine Up1i.mk rfl ?_) | (with_reducible refine Up2.mk rfl ?_) | (with_reducible refine Up2i.mk rfl ?_)
    | (refine Col.mk rfl rfl rfl ?_) | (refine Coli.mk rfl rfl rfl rfl ?_)
    | (refine drawVC.mk _ _ 7 (by kernel_rfl) ?_)
    | (refine ints44ok _ ?_ ?_))
  all_goals (try (refine Ob.mk ?_; first | assumption | exact ⟨rfl, rfl⟩ | exact ⟨rfl, rfl, rfl⟩ | (refine ⟨rfl, rfl, ?_⟩; simp only [List.length_map, List.length_take, List.length_append, els_len, List.length_replicate]; omega) | (intro h; exact h) | (intro h; rw [h]; rfl) | (intro h; simp_all; done) | (refine bytes_le (n := 1048577) ?_ rfl; simp only [ltI_iff, ltI_not, leI_iff, leI_not, eqI_iff, eqI_not, List.length_map, bif_and, bif_or, Bool.and_eq_true, Bool.and_eq_false_iff, Bool.or_eq_true, Bool.or_eq_false_iff, Bool.not_eq_true', Bool.not_eq_false', Int.toNat_natCast, beq_iff_eq, beq_eq_false_iff_ne, decide_eq_true_eq, decide_eq_false_iff_not, bel_iff, bel_not, wthn_iff, wthn_not, els_len, mixL_len, Nat.zero_add, List.length_set, List.length_take] at *; omega) | (simp only [ltI_iff, ltI_not, leI_iff, leI_not, eqI_iff, eqI_not, List.length_map, bif_and, bif_or, Bool.and_eq_true, Bool.and_eq_false_iff, Bool.or_eq_true, Bool.or_eq_false_iff, Bool.not_eq_true', Bool.not_eq_false', Int.toNat_natCast, beq_iff_eq, beq_eq_false_iff_ne, decide_eq_true_eq, decide_eq_false_iff_not, bel_iff, bel_not, wthn_iff, wthn_not, els_len, mixL_len, Nat.zero_add, List.length_set, List.length_take, Int.ofNat_eq_natCast] at *; omega)))
  conv => whnf
  refine LoopVC.upS 4 [(3, 2, 26, 4)] m.funcs.length (fun i => [mvar m, mzero, .dead, .var 53 [.osl 5 0 (m.globals.map fun n => T.int .u32 n).length, .osl 6 0 (m.arrays.map fun n => T.int .i64 n).length, .osl 7 0 i, .t (.int .i64 m.main)], .dead, .row 37 1 (m.globals.map fun n => .int .u32 n), .row 3 1 (m.arrays.map fun n => .int .i64 n), .row 26 4 ((m.funcs.take i).map Graph.o)]) (fun _ => True) ?_ ?_
  · repeat' ((conv => whnf); first
    | (with_reducible refine onBool_intro (fun _ => ?_) (fun _ => ?_))
    | (with_reducible refine And.intro (Ob.mk (Nat.le_of_ble_eq_true rfl)) ?_)
    | (with_reducible refine And.intro (Ob.mk rfl) ?_)
    | (with_reducible exact ⟨rfl, rfl⟩)
    | (with_reducible refine And.intro (Ob.mk (fun h => h)) ?_)
    | (with_reducible refine Or.inl (And.intro (Ob.mk (Flat.map ?_)) ?_); exact fun _ => rfl)
    | (refine Or.inl (And.intro (Ob.mk (flat_of rfl)) ?_))
    | (refine Or.inl (And.intro (Ob.mk ⟨rfl, rfl, rfl, rfl⟩) ?_))
    | (refine Or.inl (And.intro (Ob.mk ⟨rfl, rfl, rfl⟩) ?_))
    | (refine And.intro (Ob.mk ⟨rfl, rfl⟩) ?_)
    | (with_reducible refine Or.inr ?_)
    | (refine And.intro (Ob.mk (flat_of rfl)) ?_)
    | (with_reducible refine And.intro (Ob.mk (Flat.map ?_)) ?_; exact fun _ => rfl)
    | (with_reducible exact Ob.mk (Flat.map fun _ => rfl))
    | (with_reducible refine And.intro ?_ ?_)
    | (with_reducible apply exG.mk) | (with_reducible apply exGS.mk) | (with_reducible exact Dd.nil) | (refine Dd.same _ ?_) | (refine Dd.dead _ ?_) | (with_reducible apply exQ.mk) | (with_reducible apply exP.mk) | (refine EqP.mk rfl rfl) | (with_reducible apply exW.mk) | (refine EqW.mk rfl)
    | (with_reducible intro _) | (with_reducible refine Dn.mk ?_)
    | (refine exS.full (by first | rfl | (simp; done) | (simp; omega)) ?_)
    | (refine And.intro (Ob.mk ⟨rfl, rfl, by first | rfl | (simp; done) | (simp; omega)⟩) ?_)
    | (with_reducible refine exE.mapD ?_) | (refine exL.int ?_)
    | (with_reducible refine Up0.mk rfl ?_) | (with_reducible refine Up0i.mk rfl ?_) | (with_reducible refine Up1.mk rfl ?_) | (with_reducible refine Up1i.mk rfl ?_) | (with_reducible refine Up2.mk rfl ?_) | (with_reducible refine Up2i.mk rfl ?_)
    | (refine Col.mk rfl rfl rfl ?_) | (refine Coli.mk rfl rfl rfl rfl ?_)
    | (refine UpSi.mk ?_))
    exact Ob.mk ⟨rfl, trivial⟩
  · rintro i hi -
    repeat' ((conv => whnf); first
    | (with_reducible refine onBool_intro (fun _ => ?_) (fun _ => ?_))
    | (with_reducible refine And.intro (Ob.mk (Nat.le_of_ble_eq_true rfl)) ?_)
    | (with_reducible refine And.intro (Ob.mk rfl) ?_)
    | (with_reducible exact ⟨rfl, rfl⟩)
    | (with_reducible refine And.intro (Ob.mk (fun h => h)) ?_)
    | (with_reducible refine Or.inl (And.intro (Ob.mk (Flat.map ?_)) ?_); exact fun _ => rfl)
    | (refine Or.inl (And.intro (Ob.mk (flat_of rfl)) ?_))
    | (refine Or.inl (And.intro (Ob.mk ⟨rfl, rfl, rfl, rfl⟩) ?_))
    | (refine Or.inl (And.intro (Ob.mk ⟨rfl, rfl, rfl⟩) ?_))
    | (refine And.intro (Ob.mk ⟨rfl, rfl⟩) ?_)
    | (with_reducible refine Or.inr ?_)
    | (refine And.intro (Ob.mk (flat_of rfl)) ?_)
    | (with_reducible refine And.intro (Ob.mk (Flat.map ?_)) ?_; exact fun _ => rfl)
    | (with_reducible exact Ob.mk (Flat.map fun _ => rfl))
    | (with_reducible refine And.intro ?_ ?_)
    | (with_reducible apply exG.mk) | (with_reducible apply exGS.mk) | (with_reducible exact Dd.nil) | (refine Dd.same _ ?_) | (refine Dd.dead _ ?_) | (with_reducible apply exQ.mk) | (with_reducible apply exP.mk) | (refine EqP.mk rfl rfl) | (with_reducible apply exW.mk) | (refine EqW.mk rfl)
    | (with_reducible intro _) | (with_reducible refine Dn.mk ?_)
    | (refine exS.full (by first | rfl | (simp; done) | (simp; omega)) ?_)
    | (refine And.intro (Ob.mk ⟨rfl, rfl, by first | rfl | (simp; done) | (simp; omega)⟩) ?_)
    | (with_reducible refine exE.mapD ?_) | (refine exL.int ?_)
    | (with_reducible refine Up0.mk rfl ?_) | (with_reducible refine Up0i.mk rfl ?_) | (with_reducible refine Up1.mk rfl ?_) | (with_reducible refine Up1i.mk rfl ?_) | (with_reducible refine Up2.mk rfl ?_) | (with_reducible refine Up2i.mk rfl ?_)
    | (refine Col.mk rfl rfl rfl ?_) | (refine Coli.mk rfl rfl rfl rfl ?_)
    | (refine UpS.mk ?_)
    | (refine copyGraph45ok _ ?_ ?_))
    all_goals (try (refine Ob.mk ?_; first | assumption | exact ⟨rfl, rfl⟩ | exact ⟨rfl, rfl, rfl⟩ | (refine ⟨rfl, rfl, ?_⟩; simp only [List.length_map, List.length_take, List.length_append, els_len, List.length_replicate]; omega) | (intro h; exact h) | (intro h; rw [h]; rfl) | (intro h; simp_all; done) | (refine bytes_le (n := 1048577) ?_ rfl; simp only [ltI_iff, ltI_not, leI_iff, leI_not, eqI_iff, eqI_not, List.length_map, bif_and, bif_or, Bool.and_eq_true, Bool.and_eq_false_iff, Bool.or_eq_true, Bool.or_eq_false_iff, Bool.not_eq_true', Bool.not_eq_false', Int.toNat_natCast, beq_iff_eq, beq_eq_false_iff_ne, decide_eq_true_eq, decide_eq_false_iff_not, bel_iff, bel_not, wthn_iff, wthn_not, els_len, mixL_len, Nat.zero_add, List.length_set, List.length_take] at *; omega) | (simp only [ltI_iff, ltI_not, leI_iff, leI_not, eqI_iff, eqI_not, List.length_map, bif_and, bif_or, Bool.and_eq_true, Bool.and_eq_false_iff, Bool.or_eq_true, Bool.or_eq_false_iff, Bool.not_eq_true', Bool.not_eq_false', Int.toNat_natCast, beq_iff_eq, beq_eq_false_iff_ne, decide_eq_true_eq, decide_eq_false_iff_not, bel_iff, bel_not, wthn_iff, wthn_not, els_len, mixL_len, Nat.zero_add, List.length_set, List.length_take, Int.ofNat_eq_natCast] at *; omega)))
    · have hlt : i < m.funcs.length := by simp only [ltI_iff, ltI_not, leI_iff, leI_not, eqI_iff, eqI_not, List.length_map, bif_and, bif_or, Bool.and_eq_true, Bool.and_eq_false_iff, Bool.or_eq_true, Bool.or_eq_false_iff, Bool.not_eq_true', Bool.not_eq_false', Int.toNat_natCast, beq_iff_eq, beq_eq_false_iff_ne, decide_eq_true_eq, decide_eq_false_iff_not] at *; omega
      exact Ob.mk (hm.all _ (nthD_mem hlt))
    · have hlt : i < m.funcs.length := by simp only [ltI_iff, ltI_not, leI_iff, leI_not, eqI_iff, eqI_not, List.length_map, bif_and, bif_or, Bool.and_eq_true, Bool.and_eq_false_iff, Bool.or_eq_true, Bool.or_eq_false_iff, Bool.not_eq_true', Bool.not_eq_false', Int.toNat_natCast, beq_iff_eq, beq_eq_false_iff_ne, decide_eq_true_eq, decide_eq_false_iff_not] at *; omega
      refine Ob.mk ⟨hlt, addI_i64 (by omega) (by omega), ?_, trivial⟩
      rw [take_succ_nthD hlt, List.map_append]
      rfl
    · exact Ob.mk clean_ints
    · exact Ob.mk clean_ints
    · exact Ob.mk clean_graph
    · have hle : m.funcs.length ≤ i := by simp only [ltI_iff, ltI_not, leI_iff, leI_not, eqI_iff, eqI_not, List.length_map, bif_and, bif_or, Bool.and_eq_true, Bool.and_eq_false_iff, Bool.or_eq_true, Bool.or_eq_false_iff, Bool.not_eq_true', Bool.not_eq_false', Int.toNat_natCast, beq_iff_eq, beq_eq_false_iff_ne, decide_eq_true_eq, decide_eq_false_iff_not] at *; omega
      rw [List.take_of_length_le hle]
      rfl
end Go.Proofs.YtgladinljapmkaaDoor.Am

/- LiveTells: the law's own functions. -/
namespace Go.Proofs.YtgladinljapmkaaDoor.Am
open Go Go.Proofs
set_option maxRecDepth 10000
set_option maxHeartbeats 2000000
set_option linter.unusedVariables false
set_option linter.unusedSimpArgs false

theorem Least.cut {g : Graph} (hg : ∀ b, b < g.blocks.length → ∀ s ∈ nextN g b, 0 ≤ s ∧ s < g.blocks.length) {n N : Nat} (hn : n ≤ N) {a : Nat → Nat → Bool} (h : Least g N a) : Least g n a := by
  refine ⟨⟨fun i hi t ht => h.up i hi t (by omega), fun p hp i hi t ht h1 => ?_⟩, fun i hi t ht => h.down i hi t (by omega)⟩
  have h2 : LeB g.blocks.length N a (fun i t => if t < n then p i t else true) := by
    refine h.least _ fun j hj u hu h3 => ?_
    show (if u < n then p j u else true) = true
    by_cases e : u < n
    · rw [if_pos e]
      refine hp j hj u e (stepF_mono hg (n := n) (a := fun i t => if t < n then p i t else true) (fun i' hi' t' ht' h4 => ?_) hj e h3)
      have h4 : (if t' < n then p i' t' else true) = true := h4
      rw [if_pos ht'] at h4
      exact h4
    · rw [if_neg e]
  have h3 := h2 i hi t (by omega) h1
  have h3 : (if t < n then p i t else true) = true := h3
  rw [if_pos ht] at h3
  exact h3
theorem live_same {g : Graph} (hg : g.fit) {a a' : Nat → Nat → Bool} (ha : Least g 8000 a) (hin : Inside g a) (ha' : Least g g.temps.toNat a') {b : Nat} (hb : b < g.blocks.length) : liveN 8000 (a b) = liveN g.temps.toNat (a' b) := by
  have ht := hg.temps
  rw [liveN_skip (n := g.temps.toNat) (by omega) fun t h1 h2 => by
    cases e : a b t with
    | false => rfl
    | true => have := hin b hb t h2 e; omega]
  unfold liveN
  congr 1
  apply List.filter_congr
  intro t h
  exact (ha.cut hg.next (by omega)).one ha' hb (by simpa using h)

abbrev lists (l : List (List Int)) : T := .sl 1 (l.map ilist)
theorem same19k (a b : List Int) {q : T → Prop} (hq : q (.bool (a == b))) : PCalls Tryd.prog 19 [ilist a, ilist b] q := PCalls.mono (same19 a b) fun _ h => h ▸ hq
theorem sameAll13 (a b : List (List Int)) : PCalls Tryd.prog 13 [lists a, lists b] (fun r => r = .bool (a == b)) := by
  refine PCalls.of_body ttOk Tryd.func13 rfl ?_
  repeat' ((conv => whnf); first
    | (with_reducible refine onBool_intro (fun _ => ?_) (fun _ => ?_))
    | (with_reducible refine And.intro (Ob.mk (Nat.le_of_ble_eq_true rfl)) ?_)
    | (with_reducible refine And.intro (Ob.mk rfl) ?_)
    | (with_reducible exact ⟨rfl, rfl⟩)
    | (with_reducible refine And.intro (Ob.mk (fun h => h)) ?_)
    | (with_reducible refine Or.inl (And.intro (Ob.mk (Flat.map ?_)) ?_); exact fun _ => rfl)
    | (refine Or.inl (And.intro (Ob.mk (flat_of rfl)) ?_))
    | (refine Or.inl (And.intro (Ob.mk ⟨rfl, rfl, rfl, rfl⟩) ?_))
    | (refine Or.inl (And.intro (Ob.mk ⟨rfl, rfl, rfl⟩) ?_))
    | (refine And.intro (Ob.mk ⟨rfl, rfl⟩) ?_)
    | (with_reducible refine Or.inr ?_)
    | (refine And.intro (Ob.mk (flat_of rfl)) ?_)
    | (with_reducible refine And.intro (Ob.mk (Flat.map ?_)) ?_; exact fun _ => rfl)
    | (with_reducible exact Ob.mk (Flat.map fun _ => rfl))
    | (with_reducible refine And.intro ?_ ?_)
    | (with_reducible apply exG.mk) | (with_reducible apply exGS.mk) | (with_reducible exact Dd.nil) | (refine Dd.same _ ?_) | (refine Dd.dead _ ?_) | (with_reducible apply exQ.mk) | (with_reducible apply exP.mk) | (refine EqP.mk rfl rfl) | (with_reducible apply exW.mk) | (refine EqW.mk rfl)
    | (with_reducible intro _) | (with_reducible refine Dn.mk ?_)
    | (refine exS.full (by first | rfl | (simp; done) | (simp; omega)) ?_)
    | (refine And.intro (Ob.mk ⟨rfl, rfl, by first | rfl | (simp; done) | (simp; omega)⟩) ?_)
    | (with_reducible refine exE.mapD ?_) | (refine exL.int ?_)
    | (with_reducible refine Up0.mk rfl ?_) | (with_reducible refine Up0i.mk rfl ?_) | (with_reducible refine Up1.mk rfl ?_) | (with_reducible refine Up1i.mk rfl ?_) | (with_reducible refine Up2.mk rfl ?_) | (with_reducible refine Up2i.mk rfl ?_)
    | (refine Col.mk rfl rfl rfl ?_) | (refine Coli.mk rfl rfl rfl rfl ?_))
  · rename_i h
    show T.bool false = T.bool (a == b)
    rw [Eq.comm (a := T.bool false), T.bool.injEq, beq_eq_false_iff_ne]
    rintro rfl
    simp [eqI] at h
  · rename_i h
    have hl : a.length = b.length := by
      simp only [Bool.not_eq_false', eqI_iff, List.length_map] at h
      omega
    conv => whnf
    refine LoopVC.up0 5 a.length (fun i => a.take i = b.take i) ?_ ?_
    · repeat' ((conv => whnf); first
    | (with_reducible refine onBool_intro (fun _ => ?_) (fun _ => ?_))
    | (with_reducible refine And.intro (Ob.mk (Nat.le_of_ble_eq_true rfl)) ?_)
    | (with_reducible refine And.intro (Ob.mk rfl) ?_)
    | (with_reducible exact ⟨rfl, rfl⟩)
    | (with_reducible refine And.intro (Ob.mk (fun h => h)) ?_)
    | (with_reducible refine Or.inl (And.intro (Ob.mk (Flat.map ?_)) ?_); exact fun _ => rfl)
    | (refine Or.inl (And.intro (Ob.mk (flat_of rfl)) ?_))
    | (refine Or.inl (And.intro (Ob.mk ⟨rfl, rfl, rfl, rfl⟩) ?_))
    | (refine Or.inl (And.intro (Ob.mk ⟨rfl, rfl, rfl⟩) ?_))
    | (refine And.intro (Ob.mk ⟨rfl, rfl⟩) ?_)
    | (with_reducible refine Or.inr ?_)
    | (refine And.intro (Ob.mk (flat_of rfl)) ?_)
    | (with_reducible refine And.intro (Ob.mk (Flat.map ?_)) ?_; exact fun _ => rfl)
    | (with_reducible exact Ob.mk (Flat.map fun _ => rfl))
    | (with_reducible refine And.intro ?_ ?_)
    | (with_reducible apply exG.mk) | (with_reducible apply exGS.mk) | (with_reducible exact Dd.nil) | (refine Dd.same _ ?_) | (refine Dd.dead _ ?_) | (with_reducible apply exQ.mk) | (with_reducible apply exP.mk) | (refine EqP.mk rfl rfl) | (with_reducible apply exW.mk) | (refine EqW.mk rfl)
    | (with_reducible intro _) | (with_reducible refine Dn.mk ?_)
    | (refine exS.full (by first | rfl | (simp; done) | (simp; omega)) ?_)
    | (refine And.intro (Ob.mk ⟨rfl, rfl, by first | rfl | (simp; done) | (simp; omega)⟩) ?_)
    | (with_reducible refine exE.mapD ?_) | (refine exL.int ?_)
    | (with_reducible refine Up0.mk rfl ?_) | (with_reducible refine Up0i.mk rfl ?_) | (with_reducible refine Up1.mk rfl ?_) | (with_reducible refine Up1i.mk rfl ?_) | (with_reducible refine Up2.mk rfl ?_) | (with_reducible refine Up2i.mk rfl ?_)
    | (refine Col.mk rfl rfl rfl ?_) | (refine Coli.mk rfl rfl rfl rfl ?_))
      exact Ob.mk rfl
    · intro i hi he
      repeat' ((conv => whnf); first
    | (with_reducible refine onBool_intro (fun _ => ?_) (fun _ => ?_))
    | (with_reducible refine And.intro (Ob.mk (Nat.le_of_ble_eq_true rfl)) ?_)
    | (with_reducible refine And.intro (Ob.mk rfl) ?_)
    | (with_reducible exact ⟨rfl, rfl⟩)
    | (with_reducible refine And.intro (Ob.mk (fun h => h)) ?_)
    | (with_reducible refine Or.inl (And.intro (Ob.mk (Flat.map ?_)) ?_); exact fun _ => rfl)
    | (refine Or.inl (And.intro (Ob.mk (flat_of rfl)) ?_))
    | (refine Or.inl (And.intro (Ob.mk ⟨rfl, rfl, rfl, rfl⟩) ?_))
    | (refine Or.inl (And.intro (Ob.mk ⟨rfl, rfl, rfl⟩) ?_))
    | (refine And.intro (Ob.mk ⟨rfl, rfl⟩) ?_)
    | (with_reducible refine Or.inr ?_)
    | (refine And.intro (Ob.mk (flat_of rfl)) ?_)
    | (with_reducible refine And.intro (Ob.mk (Flat.map ?_)) ?_; exact fun _ => rfl)
    | (with_reducible exact Ob.mk (Flat.map fun _ => rfl))
    | (with_reducible refine And.intro ?_ ?_)
    | (with_reducible apply exG.mk) | (with_reducible apply exGS.mk) | (with_reducible exact Dd.nil) | (refine Dd.same _ ?_) | (refine Dd.dead _ ?_) | (with_reducible apply exQ.mk) | (with_reducible apply exP.mk) | (refine EqP.mk rfl rfl) | (with_reducible apply exW.mk) | (refine EqW.mk rfl)
    | (with_reducible intro _) | (with_reducible refine Dn.mk ?_)
    | (refine exS.full (by first | rfl | (simp; done) | (simp; omega)) ?_)
    | (refine And.intro (Ob.mk ⟨rfl, rfl, by first | rfl | (simp; done) | (simp; omega)⟩) ?_)
    | (with_reducible refine exE.mapD ?_) | (refine exL.int ?_)
    | (with_reducible refine Up0.mk rfl ?_) | (with_reducible refine Up0i.mk rfl ?_) | (with_reducible refine Up1.mk rfl ?_) | (with_reducible refine Up1i.mk rfl ?_) | (with_reducible refine Up2.mk rfl ?_) | (with_reducible refine Up2i.mk rfl ?_)
    | (refine Col.mk rfl rfl rfl ?_) | (refine Coli.mk rfl rfl rfl rfl ?_)
    | (refine drawVC.all _ _ (by kernel_rfl) ?_)
    | (refine same19k _ _ ?_))
      all_goals (try (refine Ob.mk ?_; first | assumption | exact ⟨rfl, rfl⟩ | exact ⟨rfl, rfl, rfl⟩ | (refine ⟨rfl, rfl, ?_⟩; simp only [List.length_map, List.length_take, List.length_append, els_len, List.length_replicate]; omega) | (intro h; exact h) | (intro h; rw [h]; rfl) | (intro h; simp_all; done) | (refine bytes_le (n := 1048577) ?_ rfl; simp only [ltI_iff, ltI_not, leI_iff, leI_not, eqI_iff, eqI_not, List.length_map, bif_and, bif_or, Bool.and_eq_true, Bool.and_eq_false_iff, Bool.or_eq_true, Bool.or_eq_false_iff, Bool.not_eq_true', Bool.not_eq_false', Int.toNat_natCast, beq_iff_eq, beq_eq_false_iff_ne, decide_eq_true_eq, decide_eq_false_iff_not, bel_iff, bel_not, wthn_iff, wthn_not, els_len, mixL_len, Nat.zero_add, List.length_set, List.length_take] at *; omega) | (simp only [ltI_iff, ltI_not, leI_iff, leI_not, eqI_iff, eqI_not, List.length_map, bif_and, bif_or, Bool.and_eq_true, Bool.and_eq_false_iff, Bool.or_eq_true, Bool.or_eq_false_iff, Bool.not_eq_true', Bool.not_eq_false', Int.toNat_natCast, beq_iff_eq, beq_eq_false_iff_ne, decide_eq_true_eq, decide_eq_false_iff_not, bel_iff, bel_not, wthn_iff, wthn_not, els_len, mixL_len, Nat.zero_add, List.length_set, List.length_take, Int.ofNat_eq_natCast] at *; omega)))
      · rename_i h1 h2
        simp only [ltI_iff, ltI_not, leI_iff, leI_not, eqI_iff, eqI_not, List.length_map, bif_and, bif_or, Bool.and_eq_true, Bool.and_eq_false_iff, Bool.or_eq_true, Bool.or_eq_false_iff, Bool.not_eq_true', Bool.not_eq_false', Int.toNat_natCast, beq_iff_eq, beq_eq_false_iff_ne, decide_eq_true_eq, decide_eq_false_iff_not] at *
        show T.bool false = T.bool (a == b)
        rw [Eq.comm (a := T.bool false), T.bool.injEq, beq_eq_false_iff_ne]
        rintro rfl
        simp at h2
      · rename_i h1 h2
        simp only [ltI_iff, ltI_not, leI_iff, leI_not, eqI_iff, eqI_not, List.length_map, bif_and, bif_or, Bool.and_eq_true, Bool.and_eq_false_iff, Bool.or_eq_true, Bool.or_eq_false_iff, Bool.not_eq_true', Bool.not_eq_false', Int.toNat_natCast, beq_iff_eq, beq_eq_false_iff_ne, decide_eq_true_eq, decide_eq_false_iff_not] at *
        have hlt : i < a.length := by omega
        refine Ob.mk ⟨hlt, addI_i64 (by omega) (by omega), ?_⟩
        rw [take_succ_nthD hlt, take_succ_nthD (by omega), he]
        have h3 : nthD a i = nthD b i := by simpa using h2
        rw [h3]
      · rename_i h1
        simp only [ltI_iff, ltI_not, leI_iff, leI_not, eqI_iff, eqI_not, List.length_map, bif_and, bif_or, Bool.and_eq_true, Bool.and_eq_false_iff, Bool.or_eq_true, Bool.or_eq_false_iff, Bool.not_eq_true', Bool.not_eq_false', Int.toNat_natCast, beq_iff_eq, beq_eq_false_iff_ne, decide_eq_true_eq, decide_eq_false_iff_not] at *
        show T.bool true = T.bool (a == b)
        rw [Eq.comm (a := T.bool true), T.bool.injEq, beq_iff_eq]
        rw [List.take_of_length_le (by omega), List.take_of_length_le (by omega)] at he
        exact he

theorem copy22k (g : Graph) (hg : g.tiny) {q : T → Prop} (hq : q (.own (Module.o ⟨[], [], [g], 0⟩))) : PCalls Tryd.prog 22 [.agg [.nsl, .nsl, .sl 4 [g.t], .int .i64 0]] q := by
  refine PCalls.argsL (ts' := [(Module.mk [] [] [g] 0).t]) (.cons (Le.aggL (.cons (.nsl 1) (.cons (.nsl 1) (.cons (.refl _) (.cons (.refl _) .nil))))) .nil) (PCalls.mono (copy22o ⟨[], [], [g], 0⟩ ⟨Nat.zero_le _, Nat.zero_le _, by simp, fun g' hg' => ?_⟩) fun _ h => h ▸ hq)
  rw [List.mem_singleton] at hg'
  rw [hg']; exact hg
theorem copied9 (g : Graph) (hg : g.tiny) : PCalls Tryd.prog 9 [g.t] (fun r => r = g.t) := by
  refine PCalls.coarse ?_
  refine PCalls.of_body ttOk Tryd.func9 rfl ?_
  repeat' ((conv => whnf); first
    | (with_reducible refine onBool_intro (fun _ => ?_) (fun _ => ?_))
    | (with_reducible refine And.intro (Ob.mk (Nat.le_of_ble_eq_true rfl)) ?_)
    | (with_reducible refine And.intro (Ob.mk rfl) ?_)
    | (with_reducible exact ⟨rfl, rfl⟩)
    | (with_reducible refine And.intro (Ob.mk (fun h => h)) ?_)
    | (with_reducible refine Or.inl (And.intro (Ob.mk (Flat.map ?_)) ?_); exact fun _ => rfl)
    | (refine Or.inl (And.intro (Ob.mk (flat_of rfl)) ?_))
    | (refine Or.inl (And.intro (Ob.mk ⟨rfl, rfl, rfl, rfl⟩) ?_))
    | (refine Or.inl (And.intro (Ob.mk ⟨rfl, rfl, rfl⟩) ?_))
    | (refine And.intro (Ob.mk ⟨rfl, rfl⟩) ?_)
    | (with_reducible refine Or.inr ?_)
    | (refine And.intro (Ob.mk (flat_of rfl)) ?_)
    | (with_reducible refine And.intro (Ob.mk (Flat.map ?_)) ?_; exact fun _ => rfl)
    | (with_reducible exact Ob.mk (Flat.map fun _ => rfl))
    | (with_reducible refine And.intro ?_ ?_)
    | (with_reducible apply exG.mk) | (with_reducible apply exGS.mk) | (with_reducible exact Dd.nil) | (refine Dd.same _ ?_) | (refine Dd.dead _ ?_) | (with_reducible apply exQ.mk) | (with_reducible apply exP.mk) | (refine EqP.mk rfl rfl) | (with_reducible apply exW.mk) | (refine EqW.mk rfl)
    | (with_reducible intro _) | (with_reducible refine Dn.mk ?_)
    | (refine exS.full (by first | rfl | (simp; done) | (simp; omega)) ?_)
    | (refine And.intro (Ob.mk ⟨rfl, rfl, by first | rfl | (simp; done) | (simp; omega)⟩) ?_)
    | (with_reducible refine exE.mapD ?_) | (refine exL.int ?_)
    | (with_reducible refine Up0.mk rfl ?_) | (with_reducible refine Up0i.mk rfl ?_) | (with_reducible refine Up1.mk rfl ?_) | (with_reducible refine Up1i.mk rfl ?_) | (with_reducible refine Up2.mk rfl ?_) | (with_reducible refine Up2i.mk rfl ?_)
    | (refine Col.mk rfl rfl rfl ?_) | (refine Coli.mk rfl rfl rfl rfl ?_)
    | (refine copy22k g hg ?_))
  · exact Ob.mk (Int.le_refl _)
  · exact Ob.mk (by show (0 : Int) < ((1 : Nat) : Int); omega)
  · have e : nthD (Module.mk [] [] [g] 0).funcs (0 + Int.toNat 0) = g := nthD_get (l := [g]) (i := 0) (by simp)
    rw [e]
    show Le (T.agg [ilist g.params, .int .i64 g.temps, .sl 2 (g.arrays.map Arr.t), .sl 10 (g.blocks.map Block.o)]) g.t
    exact Le.aggL (.cons (.refl _) (.cons (.refl _) (.cons (.refl _) (.cons (Le.slmap Block.o_le fun _ => rfl) .nil))))

/-- A graph with two temps needed at its one block. -/
def aliveG : Graph := ⟨[], 3, [], [⟨[⟨6, 0, 1, 2, 0, 0, [], []⟩], ⟨5, 0, 0, 0, 0, 0, 0, [], []⟩⟩]⟩
theorem alive_one {b : Block} (h : b ∈ aliveG.blocks) : b = ⟨[⟨6, 0, 1, 2, 0, 0, [], []⟩], ⟨5, 0, 0, 0, 0, 0, 0, [], []⟩⟩ := by simpa [aliveG] using h
theorem alive_tiny : aliveG.tiny := by
  refine ⟨Nat.zero_le _, Nat.zero_le _, by simp [aliveG], fun b hb => ?_⟩
  rw [alive_one hb]
  exact ⟨by simp, by simp, by simp, Nat.zero_le _, Nat.zero_le _⟩
theorem alive_next {b : Int} : nextN aliveG b = [] := by
  unfold nextN
  split
  · have : (nthD aliveG.blocks b.toNat).fin = ⟨5, 0, 0, 0, 0, 0, 0, [], []⟩ ∨ (nthD aliveG.blocks b.toNat).fin = default := by
      rcases nthD_cases aliveG.blocks b.toNat with h | h
      · left; rw [alive_one h]
      · right; rw [h]; rfl
    rcases this with h | h
    · rw [h]; exact srt_nil
    · rw [h]; exact srt_nil
  · rfl
theorem alive_wide : ∀ b ∈ aliveG.blocks, ∀ x ∈ allN b.fin, I64 x := by
  intro b hb x hx
  rw [alive_one hb] at hx
  exact nomatch hx
theorem alive_fits : aliveG.fits := by
  refine ⟨⟨by simp [aliveG], by simp [aliveG], fun b hb s hs => ?_⟩, ⟨by decide, by decide⟩, fun b hb x hx => ?_, fun b hb => ?_⟩
  · rw [alive_next] at hs; exact nomatch hs
  · rw [alive_one hb] at hx
    simp only [List.mem_singleton] at hx
    subst hx
    simp [insOk, usesN, kindN, aliveG, bel_iff]
  · rw [alive_one hb]
    simp [endOk, eUsesN, aliveG, bel_iff]
theorem alive_step {a : Nat → Nat → Bool} {t : Nat} : stepF aliveG a 0 t = (t == 1 || t == 2) := by
  have eb : nthD aliveG.blocks 0 = ⟨[⟨6, 0, 1, 2, 0, 0, [], []⟩], ⟨5, 0, 0, 0, 0, 0, 0, [], []⟩⟩ := nthD_get (l := aliveG.blocks) (i := 0) (by simp [aliveG])
  have es : stepF aliveG a 0 t = backF ⟨6, 0, 1, 2, 0, 0, [], []⟩ (endF aliveG a 0) t := by
    unfold stepF
    rw [eb]
    rfl
  rw [es]
  unfold backF endF
  rw [alive_next]
  have e1 : usesN ⟨6, 0, 1, 2, 0, 0, [], []⟩ = [1, 2] := by simp [usesN, kindN]
  have e2 : setsN ⟨6, 0, 1, 2, 0, 0, [], []⟩ = 0 := by simp [setsN, kindN]
  have e3 : eUsesN (nthD aliveG.blocks 0).fin = [0] := by
    rw [eb]
    simp [eUsesN]
  rw [e1, e2, e3, Bool.eq_iff_iff]
  simp
  omega
theorem alive_live {a : Nat → Nat → Bool} (h : Least aliveG 8000 a) : (List.range aliveG.blocks.length).map (fun b => liveN 8000 (a b)) = [[1, 2]] := by
  have hl : aliveG.blocks.length = 1 := rfl
  have ha : ∀ t, t < 8000 → a 0 t = (t == 1 || t == 2) := fun t ht => by
    rw [← alive_step (a := a) (t := t), Bool.eq_iff_iff]
    exact ⟨fun h1 => h.up 0 (by rw [hl]; omega) t ht h1, fun h1 => h.down 0 (by rw [hl]; omega) t ht h1⟩
  rw [hl]
  show [liveN 8000 (a 0)] = [[1, 2]]
  congr 1
  rw [liveN_skip (n := 3) (by omega) fun t h1 h2 => by rw [ha t h2]; simp; omega]
  rw [show (3 : Nat) = 2 + 1 from rfl, liveN_succ, show (2 : Nat) = 1 + 1 from rfl, liveN_succ, show (1 : Nat) = 0 + 1 from rfl, liveN_succ]
  rw [ha 0 (by omega), ha (0 + 1) (by omega), ha (0 + 1 + 1) (by omega)]
  simp [liveN]
/-- Whatever is the least answer of a graph's: the law's equation. -/
theorem live10k (g : Graph) (hg : g.tiny) (hw : ∀ b ∈ g.blocks, ∀ x ∈ allN b.fin, I64 x) {q : T → Prop} (h1 : ¬ g.fits → q (.own (.tup [.nsl, .int .i64 1]))) (h2 : ∀ a, g.fits → Least g 8000 a → Inside g a → q (.own (.tup [liveO g.blocks.length a, .int .i64 0]))) : PCalls Tryd.prog 10 [g.t] q :=
  PCalls.mono (live10 g hg hw) fun r h => by
    rcases h.out with ⟨h3, rfl⟩ | ⟨h3, a, h4, h5, rfl⟩
    · exact h1 h3
    · exact h2 a h3 h4 h5
theorem sameAll13k (a b : List (List Int)) {x : T} (hx : Le x (lists a)) {q : T → Prop} (hq : q (.bool (a == b))) : PCalls Tryd.prog 13 [x, lists b] q :=
  PCalls.argsL (.cons hx (.cons (.refl _) .nil)) (PCalls.mono (sameAll13 a b) fun _ h => h ▸ hq)
theorem cellL_le {l : List Int} : LeL (cellL l).cells (ilist l).cells := by
  cases l with
  | nil => exact .cons (.nsl 1) .nil
  | cons x l => exact .cons (nst_le _ _ _) .nil
theorem outR_full {m : Nat} {f : Nat → List Int} : outR m m f .nsl = (List.range m).map fun b => cellL (f b) := by
  unfold outR
  apply List.map_congr_left
  intro i hi
  rw [if_pos (by simpa using hi)]
theorem outR_le {m : Nat} {f : Nat → List Int} : Le (.sl 1 (outR m m f .nsl)) (lists ((List.range m).map f)) := by
  rw [outR_full]
  unfold lists
  rw [List.map_map]
  exact Le.slmap (f := fun b => cellL (f b)) (g := fun b => ilist (f b)) (fun b => cellL_le) fun _ => rfl

theorem aliveK {q : T → Prop} (h : ∀ a, Least aliveG 8000 a → q (.own (.tup [liveO 1 a, .int .i64 0]))) : PCalls Tryd.prog 10 [.agg [.nsl, .int .i64 3, .nsl, .sl 10 [.agg [.nst 62 8 [.agg [.int .i64 6, .int .i64 0, .int .i64 1, .int .i64 2, .int .i64 0, .int .u32 0, .nsl, .nsl]], .int .i64 5, .int .i64 0, .int .i64 0, .int .i64 0, .int .u32 0, .int .i64 0, .int .i64 0, .nsl, .nsl]]]] q := by
  refine PCalls.argsL (ts' := [aliveG.t]) (.cons (Le.aggL (.cons (.nsl 1) (.cons (.refl _) (.cons (.nsl 2) (.cons ?_ .nil))))) .nil) (live10k aliveG alive_tiny alive_wide (fun h1 => absurd alive_fits h1) fun a _ h1 _ => h a h1)
  refine Le.slmap (l := [()]) (f := fun _ => T.agg [.nst 62 8 [.agg [.int .i64 6, .int .i64 0, .int .i64 1, .int .i64 2, .int .i64 0, .int .u32 0, .nsl, .nsl]], .int .i64 5, .int .i64 0, .int .i64 0, .int .i64 0, .int .u32 0, .int .i64 0, .int .i64 0, .nsl, .nsl]) (g := fun _ => (Block.mk [⟨6, 0, 1, 2, 0, 0, [], []⟩] ⟨5, 0, 0, 0, 0, 0, 0, [], []⟩).t) (fun _ => ?_) (fun _ => rfl)
  refine .cons (.nst _ _ _ _ ?_) (.cons (.refl _) (.cons (.refl _) (.cons (.refl _) (.cons (.refl _) (.cons (.refl _) (.cons (.refl _) (.cons (.refl _) (.cons (.nsl 2) (.cons (.nsl 1) .nil)))))))))
  exact Le.slmap (l := [()]) (f := fun _ => T.agg [.int .i64 6, .int .i64 0, .int .i64 1, .int .i64 2, .int .i64 0, .int .u32 0, .nsl, .nsl]) (g := fun _ => (Ins.mk 6 0 1 2 0 0 [] []).t) (fun _ => .cons (.refl _) (.cons (.refl _) (.cons (.refl _) (.cons (.refl _) (.cons (.refl _) (.cons (.refl _) (.cons (.nsl 1) (.cons (.nsl 1) .nil)))))))) (fun _ => rfl)
end Go.Proofs.YtgladinljapmkaaDoor.Am

/- LiveTells: the law's own graph; the law. -/
namespace Go.Proofs.YtgladinljapmkaaDoor.Am
open Go Go.Proofs
set_option maxRecDepth 10000
set_option maxHeartbeats 2000000
set_option linter.unusedVariables false
set_option linter.unusedSimpArgs false

theorem sameAll13j (a b : List (List Int)) {x y : T} (hx : Ob (Le x (lists a))) (hy : Ob (Le y (lists b))) {q : T → Prop} (hq : q (.bool (a == b))) : PCalls Tryd.prog 13 [x, y] q :=
  PCalls.argsL (.cons hx.out (.cons hy.out .nil)) (PCalls.mono (sameAll13 a b) fun _ h => h ▸ hq)
theorem alive12 : PCalls Tryd.prog 12 [] (fun r => r = .bool true) := by
  refine PCalls.of_body ttOk Tryd.func12 rfl ?_
  repeat' ((conv => whnf); first
    | (with_reducible refine onBool_intro (fun _ => ?_) (fun _ => ?_))
    | (with_reducible refine And.intro (Ob.mk (Nat.le_of_ble_eq_true rfl)) ?_)
    | (with_reducible refine And.intro (Ob.mk rfl) ?_)
    | (with_reducible exact ⟨rfl, rfl⟩)
    | (with_reducible refine And.intro (Ob.mk (fun h => h)) ?_)
    | (with_reducible refine Or.inl (And.intro (Ob.mk (Flat.map ?_)) ?_); exact fun _ => rfl)
    | (refine Or.inl (And.intro (Ob.mk (flat_of rfl)) ?_))
    | (refine Or.inl (And.intro (Ob.mk ⟨rfl, rfl, rfl, rfl⟩) ?_))
    | (refine Or.inl (And.intro (Ob.mk ⟨rfl, rfl, rfl⟩) ?_))
    | (refine And.intro (Ob.mk ⟨rfl, rfl⟩) ?_)
    | (with_reducible refine Or.inr ?_)
    | (refine And.intro (Ob.mk (flat_of rfl)) ?_)
    | (with_reducible refine And.intro (Ob.mk (Flat.map ?_)) ?_; exact fun _ => rfl)
    | (with_reducible exact Ob.mk (Flat.map fun _ => rfl))
    | (with_reducible refine And.intro ?_ ?_)
    | (with_reducible apply exG.mk) | (with_reducible apply exGS.mk) | (with_reducible exact Dd.nil) | (refine Dd.same _ ?_) | (refine Dd.dead _ ?_) | (with_reducible apply exQ.mk) | (with_reducible apply exP.mk) | (refine EqP.mk rfl rfl) | (with_reducible apply exW.mk) | (refine EqW.mk rfl)
    | (with_reducible intro _) | (with_reducible refine Dn.mk ?_)
    | (refine exS.full (by first | rfl | (simp; done) | (simp; omega)) ?_)
    | (refine And.intro (Ob.mk ⟨rfl, rfl, by first | rfl | (simp; done) | (simp; omega)⟩) ?_)
    | (with_reducible refine exE.mapD ?_) | (refine exL.int ?_)
    | (with_reducible refine Up0.mk rfl ?_) | (with_reducible refine Up0i.mk rfl ?_) | (with_reducible refine Up1.mk rfl ?_) | (with_reducible refine Up1i.mk rfl ?_) | (with_reducible refine Up2.mk rfl ?_) | (with_reducible refine Up2i.mk rfl ?_)
    | (refine Col.mk rfl rfl rfl ?_) | (refine Coli.mk rfl rfl rfl rfl ?_)
    | (refine aliveK fun a ha => ?_)
    | (refine sameAll13j ((List.range 1).map fun b => liveN 8000 (‹Nat → Nat → Bool› b)) [[1, 2]] ?_ ?_ ?_))
  all_goals (try (refine Ob.mk ?_; first | assumption | exact ⟨rfl, rfl⟩ | exact ⟨rfl, rfl, rfl⟩ | (refine ⟨rfl, rfl, ?_⟩; simp only [List.length_map, List.length_take, List.length_append, els_len, List.length_replicate]; omega) | (intro h; exact h) | (intro h; rw [h]; rfl) | (intro h; simp_all; done) | (refine bytes_le (n := 1048577) ?_ rfl; simp only [ltI_iff, ltI_not, leI_iff, leI_not, eqI_iff, eqI_not, List.length_map, bif_and, bif_or, Bool.and_eq_true, Bool.and_eq_false_iff, Bool.or_eq_true, Bool.or_eq_false_iff, Bool.not_eq_true', Bool.not_eq_false', Int.toNat_natCast, beq_iff_eq, beq_eq_false_iff_ne, decide_eq_true_eq, decide_eq_false_iff_not, bel_iff, bel_not, wthn_iff, wthn_not, els_len, mixL_len, Nat.zero_add, List.length_set, List.length_take] at *; omega) | (simp only [ltI_iff, ltI_not, leI_iff, leI_not, eqI_iff, eqI_not, List.length_map, bif_and, bif_or, Bool.and_eq_true, Bool.and_eq_false_iff, Bool.or_eq_true, Bool.or_eq_false_iff, Bool.not_eq_true', Bool.not_eq_false', Int.toNat_natCast, beq_iff_eq, beq_eq_false_iff_ne, decide_eq_true_eq, decide_eq_false_iff_not, bel_iff, bel_not, wthn_iff, wthn_not, els_len, mixL_len, Nat.zero_add, List.length_set, List.length_take, Int.ofNat_eq_natCast] at *; omega)))
  all_goals (try (exfalso; rename_i h; simp [eqI] at h; done))
  · exact Ob.mk outR_le
  · exact Ob.mk (Le.slmap (l := [()]) (f := fun _ => T.nst 3 1 [.int .i64 1, .int .i64 2]) (g := fun _ => ilist [1, 2]) (fun _ => .cons (nst_le _ _ _) .nil) (fun _ => rfl))
  · show T.bool _ = T.bool true
    have h0 : eqI (0 : Int) 0 = true := eqI_iff.2 rfl
    rw [h0]
    show T.bool (((List.range 1).map fun b => liveN 8000 (a b)) == [[1, 2]]) = T.bool true
    have := alive_live ha
    rw [show aliveG.blocks.length = 1 from rfl] at this
    rw [this]
    rfl
end Go.Proofs.YtgladinljapmkaaDoor.Am

/- What the program's Live tells, read. -/
namespace Go.Proofs.YtgladinljapmkaaDoor.Am
open Go Go.Proofs
set_option maxRecDepth 10000
set_option maxHeartbeats 2000000
set_option linter.unusedVariables false
set_option linter.unusedSimpArgs false

/-- A result that is all the caller's own, read. -/
theorem PCalls.freezeE {P : Program} {f : FuncId} {ts : List T} {q : T → Prop} (h : PCalls P f ts fun r => ∃ x, r = .own x ∧ frzK 20 (opn 4 0 x).2 (opn 4 0 x).1 fun t => t.notOwn = true ∧ q t) : PCalls P f ts q := by
  unfold PCalls at *
  refine ⟨h.1, ?_⟩
  intro F w vs h1 h2 h3
  refine (h.2 F w vs h1 h2 h3).mono ?_
  rintro e w' ⟨r, mv, F', rfl, ⟨x, rfl, hf⟩, ⟨ownx, rx, vx, hx⟩, g1, g2, g3, g4⟩
  obtain ⟨t, ⟨ht, hq⟩, hvt⟩ := frzK_VT rx 20 vx hf
  obtain ⟨L, hL⟩ : ∃ L, L = ids 20 (opn 4 0 x).2 (opn 4 0 x).1 := ⟨_, rfl⟩
  rw [← hL] at hvt
  have hvt' : RT (fun b => F' b ∨ Fk ownx TF L b) w.heap.size w' t mv := by
    have hv : VT (fun b => F' b ∨ Fk ownx TF L b) w' t mv := hvt.sub fun b hb => .inr hb
    cases t <;> first | exact hv | exact nomatch ht
  refine ⟨_, mv, fun b => F' b ∨ Fk ownx TF L b, rfl, hq, hvt', ?_, ?_, fun b hb => .inl (g3 b hb), g4⟩
  · rintro b (h | ⟨h | ⟨k, hk, h⟩⟩)
    · exact g1 b h
    · exact .inl (h3.tf b h)
    · exact .inr (hx k b h).1
  · rintro b (h | ⟨h | ⟨k, hk, h⟩⟩)
    · exact g2 b h
    · exact g2 b (g3 b (h3.tf b h))
    · exact rx.lb k b h
/-- What is told, as rows that nobody writes. -/
abbrev tells (m : Nat) (a : Nat → Nat → Bool) : List (List Int) := (List.range m).map fun b => liveN 8000 (a b)
theorem live10f (g : Graph) (hg : g.tiny) (hw : ∀ b ∈ g.blocks, ∀ x ∈ allN b.fin, I64 x) {q : T → Prop} (h1 : ¬ g.fits → ∀ e, e = 1 → q (.tup [.nsl, .int .i64 e])) (h2 : ∀ a, g.fits → Least g 8000 a → Inside g a → ∀ e, e = 0 → q (.tup [lists (tells g.blocks.length a), .int .i64 e])) : PCalls Tryd.prog 10 [g.t] q := by
  refine PCalls.le (PCalls.freezeE (q := fun r => ∃ x, Le r x ∧ q x) (PCalls.mono (live10 g hg hw) ?_)) fun r h => h
  intro r h
  rcases h.out with ⟨hf, rfl⟩ | ⟨hf, a, ha, hin, rfl⟩
  · refine ⟨_, rfl, ?_⟩
    conv => whnf
    exact ⟨rfl, _, Le.refl _, h1 hf 1 rfl⟩
  · refine ⟨_, rfl, ?_⟩
    conv => whnf
    refine ⟨Ob.mk rfl, ?_⟩
    refine exS.full rfl ?_
    exact ⟨rfl, _, Le.tupL (.cons outR_le (.cons (.refl _) .nil)), h2 a hf ha hin 0 rfl⟩
theorem liveN_has {n : Nat} {f : Nat → Bool} {t : Nat} (h : t < n) : (liveN n f).contains (t : Int) = f t := by
  rw [Bool.eq_iff_iff, List.contains_iff_mem]
  unfold liveN
  rw [List.mem_map]
  constructor
  · rintro ⟨u, hu, e⟩
    have : u = t := Int.ofNat.inj e
    subst this
    exact (List.mem_filter.1 hu).2
  · intro hf
    exact ⟨t, List.mem_filter.2 ⟨by simpa using h, hf⟩, rfl⟩
theorem tells_len {m : Nat} {a : Nat → Nat → Bool} : (tells m a).length = m := by simp
theorem tells_has {m : Nat} {a : Nat → Nat → Bool} {b t : Nat} (hb : b < m) (ht : t < 8000) : (nthD (tells m a) b).contains (t : Int) = a b t := by
  rw [nthD_get (by simpa using hb)]
  simp only [tells, List.getElem_map, List.getElem_range]
  exact liveN_has ht
end Go.Proofs.YtgladinljapmkaaDoor.Am

/- LiveRenamed: a copy that is all the caller's own. -/
namespace Go.Proofs.YtgladinljapmkaaDoor.Am
open Go Go.Proofs
set_option maxRecDepth 10000
set_option maxHeartbeats 2000000
set_option linter.unusedVariables false
set_option linter.unusedSimpArgs false

theorem copied9o (g : Graph) (hg : g.tiny) : PCalls Tryd.prog 9 [g.t] (fun r => r = .own g.o) := by
  refine PCalls.of_bodyO ttOk Tryd.func9 rfl ?_
  repeat' ((conv => whnf); first
    | (with_reducible refine onBool_intro (fun _ => ?_) (fun _ => ?_))
    | (with_reducible refine And.intro (Ob.mk (Nat.le_of_ble_eq_true rfl)) ?_)
    | (with_reducible refine And.intro (Ob.mk rfl) ?_)
    | (with_reducible exact ⟨rfl, rfl⟩)
    | (with_reducible refine And.intro (Ob.mk (fun h => h)) ?_)
    | (with_reducible refine Or.inl (And.intro (Ob.mk (Flat.map ?_)) ?_); exact fun _ => rfl)
    | (refine Or.inl (And.intro (Ob.mk (flat_of rfl)) ?_))
    | (refine Or.inl (And.intro (Ob.mk ⟨rfl, rfl, rfl, rfl⟩) ?_))
    | (refine Or.inl (And.intro (Ob.mk ⟨rfl, rfl, rfl⟩) ?_))
    | (refine And.intro (Ob.mk ⟨rfl, rfl⟩) ?_)
    | (with_reducible refine Or.inr ?_)
    | (refine And.intro (Ob.mk (flat_of rfl)) ?_)
    | (with_reducible refine And.intro (Ob.mk (Flat.map ?_)) ?_; exact fun _ => rfl)
    | (with_reducible exact Ob.mk (Flat.map fun _ => rfl))
    | (with_reducible refine And.intro ?_ ?_)
    | (with_reducible apply exG.mk) | (with_reducible apply exGS.mk) | (with_reducible exact Dd.nil) | (refine Dd.same _ ?_) | (refine Dd.dead _ ?_) | (with_reducible apply exQ.mk) | (with_reducible apply exP.mk) | (refine EqP.mk rfl rfl) | (with_reducible apply exW.mk) | (refine EqW.mk rfl)
    | (with_reducible intro _) | (with_reducible refine Dn.mk ?_)
    | (refine exS.full (by first | rfl | (simp; done) | (simp; omega)) ?_)
    | (refine And.intro (Ob.mk ⟨rfl, rfl, by first | rfl | (simp; done) | (simp; omega)⟩) ?_)
    | (with_reducible refine exE.mapD ?_) | (refine exL.int ?_)
    | (with_reducible refine Up0.mk rfl ?_) | (with_reducible refine Up0i.mk rfl ?_) | (with_reducible refine Up1.mk rfl ?_) | (with_reducible refine Up1i.mk rfl ?_) | (with_reducible refine Up2.mk rfl ?_) | (with_reducible refine Up2i.mk rfl ?_)
    | (refine Col.mk rfl rfl rfl ?_) | (refine Coli.mk rfl rfl rfl rfl ?_)
    | (refine copy22k g hg ?_)
    | (refine exE.setSame (by simp) ?_))
  all_goals (try exact Ob.mk (Int.le_refl _))
  all_goals (try exact Ob.mk (by show (0 : Int) < ((1 : Nat) : Int); omega))
  all_goals (try exact Ob.mk ⟨rfl, rfl, rfl⟩)
  all_goals (try exact Ob.mk clean_ints)
  all_goals (try exact Ob.mk clean_arr)
  all_goals (try exact Ob.mk clean_block)
  have e : nthD (Module.mk [] [] [g] 0).funcs (0 + Int.toNat 0) = g := nthD_get (l := [g]) (i := 0) (by simp)
  rw [e]
  rfl
theorem uses32o (x : Ins) (hx : x.args.length ≤ 2 ^ 20) : PCalls Tryd.prog 32 [x.t] (fun r => Ob ((usesN x = [] ∧ r = .own .nsl) ∨ r = .own (.nst 3 1 ((usesN x).map fun n => .int .i64 n)))) := by
  refine PCalls.of_bodyO ttOk Tryd.func32 rfl ?_
  repeat' ((conv => whnf); first
    | (with_reducible refine onBool_intro (fun _ => ?_) (fun _ => ?_))
    | (with_reducible refine And.intro (Ob.mk (Nat.le_of_ble_eq_true rfl)) ?_)
    | (with_reducible refine And.intro (Ob.mk rfl) ?_)
    | (with_reducible exact ⟨rfl, rfl⟩)
    | (with_reducible refine And.intro (Ob.mk (fun h => h)) ?_)
    | (with_reducible refine Or.inl (And.intro (Ob.mk (Flat.map ?_)) ?_); exact fun _ => rfl)
    | (refine Or.inl (And.intro (Ob.mk (flat_of rfl)) ?_))
    | (refine Or.inl (And.intro (Ob.mk ⟨rfl, rfl, rfl, rfl⟩) ?_))
    | (refine Or.inl (And.intro (Ob.mk ⟨rfl, rfl, rfl⟩) ?_))
    | (refine And.intro (Ob.mk ⟨rfl, rfl⟩) ?_)
    | (with_reducible refine Or.inr ?_)
    | (refine And.intro (Ob.mk (flat_of rfl)) ?_)
    | (with_reducible refine And.intro (Ob.mk (Flat.map ?_)) ?_; exact fun _ => rfl)
    | (with_reducible exact Ob.mk (Flat.map fun _ => rfl))
    | (with_reducible refine And.intro ?_ ?_)
    | (with_reducible apply exG.mk) | (with_reducible apply exGS.mk) | (with_reducible exact Dd.nil) | (refine Dd.same _ ?_) | (refine Dd.dead _ ?_) | (with_reducible apply exQ.mk) | (with_reducible apply exP.mk) | (refine EqP.mk rfl rfl) | (with_reducible apply exW.mk) | (refine EqW.mk rfl)
    | (with_reducible intro _) | (with_reducible refine Dn.mk ?_)
    | (refine exS.full (by first | rfl | (simp; done) | (simp; omega)) ?_)
    | (refine And.intro (Ob.mk ⟨rfl, rfl, by first | rfl | (simp; done) | (simp; omega)⟩) ?_)
    | (with_reducible refine exE.mapD ?_) | (refine exL.int ?_)
    | (with_reducible refine Up0.mk rfl ?_) | (with_reducible refine Up0i.mk rfl ?_) | (with_reducible refine Up1.mk rfl ?_) | (with_reducible refine Up1i.mk rfl ?_) | (with_reducible refine Up2.mk rfl ?_) | (with_reducible refine Up2i.mk rfl ?_)
    | (refine Col.mk rfl rfl rfl ?_) | (refine Coli.mk rfl rfl rfl rfl ?_)
    | (refine PCalls.mono (kind52 _) ?_; rintro _ rfl))
  all_goals (try (refine Ob.mk ?_; first | assumption | exact ⟨rfl, rfl⟩ | exact ⟨rfl, rfl, rfl⟩ | (refine ⟨rfl, rfl, ?_⟩; simp only [List.length_map, List.length_take, List.length_append, els_len, List.length_replicate]; omega) | (intro h; exact h) | (intro h; rw [h]; rfl) | (intro h; simp_all; done) | (refine bytes_le (n := 1048577) ?_ rfl; simp only [ltI_iff, ltI_not, leI_iff, leI_not, eqI_iff, eqI_not, List.length_map, bif_and, bif_or, Bool.and_eq_true, Bool.and_eq_false_iff, Bool.or_eq_true, Bool.or_eq_false_iff, Bool.not_eq_true', Bool.not_eq_false', Int.toNat_natCast, beq_iff_eq, beq_eq_false_iff_ne, decide_eq_true_eq, decide_eq_false_iff_not, bel_iff, bel_not, wthn_iff, wthn_not, els_len, mixL_len, Nat.zero_add, List.length_set, List.length_take] at *; omega) | (simp only [ltI_iff, ltI_not, leI_iff, leI_not, eqI_iff, eqI_not, List.length_map, bif_and, bif_or, Bool.and_eq_true, Bool.and_eq_false_iff, Bool.or_eq_true, Bool.or_eq_false_iff, Bool.not_eq_true', Bool.not_eq_false', Int.toNat_natCast, beq_iff_eq, beq_eq_false_iff_ne, decide_eq_true_eq, decide_eq_false_iff_not, bel_iff, bel_not, wthn_iff, wthn_not, els_len, mixL_len, Nat.zero_add, List.length_set, List.length_take, Int.ofNat_eq_natCast] at *; omega)))
  all_goals (try exact Ob.mk clean_ints)
  all_goals (try exact Ob.mk (clean_ints (k := .i64) (l := [x.a])))
  all_goals (try exact Ob.mk (clean_ints (k := .i64) (l := [x.a, x.b])))
  all_goals
    (try simp only [eqI_iff, eqI_not] at *)
    refine Ob.mk ?_
  all_goals first
    | (refine .inr (congrArg (fun l => T.own (.nst 3 1 l)) ?_); simp [usesN, *, List.take_of_length_le]; done)
    | (refine .inr (congrArg (fun l => T.own (.nst 3 1 l)) ?_); simp [usesN, *, List.take_of_length_le]; rfl)
    | (refine .inl ⟨?_, by first | rfl | trivial⟩; simp [usesN, *])
def ownI (l : List Int) : T := .own (.nst 3 1 (l.map fun n => .int .i64 n))
theorem eUses33o (x : End) : PCalls Tryd.prog 33 [x.t] (fun r => Ob ((eUsesN x = [] ∧ r = .own .nsl) ∨ r = .own (.nst 3 1 ((eUsesN x).map fun n => .int .i64 n)))) := by
  refine PCalls.of_bodyO ttOk Tryd.func33 rfl ?_
  repeat' ((conv => whnf); first
    | (with_reducible refine onBool_intro (fun _ => ?_) (fun _ => ?_))
    | (with_reducible refine And.intro (Ob.mk (Nat.le_of_ble_eq_true rfl)) ?_)
    | (with_reducible refine And.intro (Ob.mk rfl) ?_)
    | (with_reducible exact ⟨rfl, rfl⟩)
    | (with_reducible refine And.intro (Ob.mk (fun h => h)) ?_)
    | (with_reducible refine Or.inl (And.intro (Ob.mk (Flat.map ?_)) ?_); exact fun _ => rfl)
    | (refine Or.inl (And.intro (Ob.mk (flat_of rfl)) ?_))
    | (refine Or.inl (And.intro (Ob.mk ⟨rfl, rfl, rfl, rfl⟩) ?_))
    | (refine Or.inl (And.intro (Ob.mk ⟨rfl, rfl, rfl⟩) ?_))
    | (refine And.intro (Ob.mk ⟨rfl, rfl⟩) ?_)
    | (with_reducible refine Or.inr ?_)
    | (refine And.intro (Ob.mk (flat_of rfl)) ?_)
    | (with_reducible refine And.intro (Ob.mk (Flat.map ?_)) ?_; exact fun _ => rfl)
    | (with_reducible exact Ob.mk (Flat.map fun _ => rfl))
    | (with_reducible refine And.intro ?_ ?_)
    | (with_reducible apply exG.mk) | (with_reducible apply exGS.mk) | (with_reducible exact Dd.nil) | (refine Dd.same _ ?_) | (refine Dd.dead _ ?_) | (with_reducible apply exQ.mk) | (with_reducible apply exP.mk) | (refine EqP.mk rfl rfl) | (with_reducible apply exW.mk) | (refine EqW.mk rfl)
    | (with_reducible intro _) | (with_reducible refine Dn.mk ?_)
    | (refine exS.full (by first | rfl | (simp; done) | (simp; omega)) ?_)
    | (refine And.intro (Ob.mk ⟨rfl, rfl, by first | rfl | (simp; done) | (simp; omega)⟩) ?_)
    | (with_reducible refine exE.mapD ?_) | (refine exL.int ?_)
    | (with_reducible refine Up0.mk rfl ?_) | (with_reducible refine Up0i.mk rfl ?_) | (with_reducible refine Up1.mk rfl ?_) | (with_reducible refine Up1i.mk rfl ?_) | (with_reducible refine Up2.mk rfl ?_) | (with_reducible refine Up2i.mk rfl ?_)
    | (refine Col.mk rfl rfl rfl ?_) | (refine Coli.mk rfl rfl rfl rfl ?_))
  all_goals (try (refine Ob.mk ?_; first | assumption | exact ⟨rfl, rfl⟩ | exact ⟨rfl, rfl, rfl⟩ | (refine ⟨rfl, rfl, ?_⟩; simp only [List.length_map, List.length_take, List.length_append, els_len, List.length_replicate]; omega) | (intro h; exact h) | (intro h; rw [h]; rfl) | (intro h; simp_all; done) | (refine bytes_le (n := 1048577) ?_ rfl; simp only [ltI_iff, ltI_not, leI_iff, leI_not, eqI_iff, eqI_not, List.length_map, bif_and, bif_or, Bool.and_eq_true, Bool.and_eq_false_iff, Bool.or_eq_true, Bool.or_eq_false_iff, Bool.not_eq_true', Bool.not_eq_false', Int.toNat_natCast, beq_iff_eq, beq_eq_false_iff_ne, decide_eq_true_eq, decide_eq_false_iff_not, bel_iff, bel_not, wthn_iff, wthn_not, els_len, mixL_len, Nat.zero_add, List.length_set, List.length_take] at *; omega) | (simp only [ltI_iff, ltI_not, leI_iff, leI_not, eqI_iff, eqI_not, List.length_map, bif_and, bif_or, Bool.and_eq_true, Bool.and_eq_false_iff, Bool.or_eq_true, Bool.or_eq_false_iff, Bool.not_eq_true', Bool.not_eq_false', Int.toNat_natCast, beq_iff_eq, beq_eq_false_iff_ne, decide_eq_true_eq, decide_eq_false_iff_not, bel_iff, bel_not, wthn_iff, wthn_not, els_len, mixL_len, Nat.zero_add, List.length_set, List.length_take, Int.ofNat_eq_natCast] at *; omega)))
  all_goals (try exact Ob.mk (clean_ints (k := .i64) (l := [x.a])))
  all_goals (try exact Ob.mk (clean_ints (k := .i64) (l := [x.a, x.b])))
  all_goals
    (try simp only [eqI_iff, eqI_not, Bool.not_eq_true', Bool.not_eq_false'] at *)
    refine Ob.mk ?_
  all_goals first
    | (refine .inr (congrArg (fun l => T.own (.nst 3 1 l)) ?_); simp [eUsesN, *]; done)
    | (refine .inr (congrArg (fun l => T.own (.nst 3 1 l)) ?_); simp [eUsesN, *]; rfl)
    | (refine .inl ⟨?_, by first | rfl | trivial⟩; simp [eUsesN, *])
end Go.Proofs.YtgladinljapmkaaDoor.Am
