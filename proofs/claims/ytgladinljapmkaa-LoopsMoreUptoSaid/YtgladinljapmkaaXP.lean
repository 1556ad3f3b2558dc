import Derived.Test.YtgladinljapmkaaXL
import Derived.Test.YtgladinljapmkaaXO
import Derived.Test.YtgladinljapmkaaXN
import Derived.Test.YtgladinljapmkaaXK
import Derived.Test.YtgladinljapmkaaXA
/- Graphs, as they are read: each whole number in the range of its kind. -/
namespace Go.Proofs.Ytgladinljapmkaa.Am
open Go Go.Proofs
set_option maxRecDepth 10000
set_option maxHeartbeats 2000000
set_option linter.unusedVariables false
set_option linter.unusedSimpArgs false
def U32 (n : Int) : Prop := (Lit.int .u32 n).wf = true
structure Ins.wd (x : Ins) : Prop where
  op : I64 x.op
  d : I64 x.d
  a : I64 x.a
  b : I64 x.b
  f : I64 x.f
  n : U32 x.n
  args : ∀ y ∈ x.args, I64 y
  arrs : ∀ y ∈ x.arrs, I64 y
structure Case.wd (x : Case) : Prop where
  n : U32 x.n
  to : I64 x.to
structure End.wd (x : End) : Prop where
  kind : I64 x.kind
  op : I64 x.op
  a : I64 x.a
  b : I64 x.b
  n : U32 x.n
  to : I64 x.to
  els : I64 x.els
  cases : ∀ c ∈ x.cases, c.wd
  targets : ∀ y ∈ x.targets, I64 y
structure Block.wd (x : Block) : Prop where
  code : ∀ i ∈ x.code, i.wd
  fin : x.fin.wd
structure Arr.wd (x : Arr) : Prop where
  kind : I64 x.kind
  n : I64 x.n
structure Graph.wd (x : Graph) : Prop where
  params : ∀ y ∈ x.params, I64 y
  temps : I64 x.temps
  arrays : ∀ a ∈ x.arrays, a.wd
  blocks : ∀ b ∈ x.blocks, b.wd
section
variable {B n : Nat} {xs : List T} {t : TypeId}
theorem ty_intsw (h : TyC tt B n 22 xs) : ∃ l : List Int, xs = [ilist l] ∧ l.length ≤ B ∧ ∀ x ∈ l, I64 x :=
  ty_slice (f := fun n : Int => .int .i64 n) (Q := I64) (e := 3) rfl (fun n y hy => by obtain ⟨m, rfl, hm⟩ := ty_intw (k := .i64) rfl hy; exact ⟨m, hm, rfl⟩) h
theorem ty_intssw (h : TyC tt B n 36 xs) : ∃ l : List (List Int), xs = [.sl 1 (l.map ilist)] ∧ l.length ≤ B ∧ ∀ a ∈ l, a.length ≤ B ∧ ∀ x ∈ a, I64 x :=
  ty_slice (f := ilist) (Q := fun a => a.length ≤ B ∧ ∀ x ∈ a, I64 x) (e := 22) rfl (fun n y hy => by obtain ⟨m, rfl, h1, h2⟩ := ty_intsw hy; exact ⟨m, ⟨h1, h2⟩, rfl⟩) h
end
theorem End.wd.all {e : End} (h : e.wd) : ∀ y ∈ allN e, I64 y := by
  intro y hy
  unfold allN at hy
  repeat' split at hy
  · rw [List.mem_singleton] at hy; subst hy; exact h.to
  · rcases List.mem_cons.1 hy with rfl | hy
    · exact h.to
    · rw [List.mem_singleton] at hy; subst hy; exact h.els
  · rcases List.mem_cons.1 hy with rfl | hy
    · exact h.to
    · obtain ⟨c, hc, rfl⟩ := List.mem_map.1 hy
      exact (h.cases c hc).to
  · rcases List.mem_cons.1 hy with rfl | hy
    · exact h.to
    · exact h.targets y hy
  · simp at hy
end Go.Proofs.Ytgladinljapmkaa.Am

/- Which temps are needed, by the document's answer: one block, one instruction. -/
namespace Go.Proofs.Ytgladinljapmkaa.Am
open Go Go.Proofs
set_option maxRecDepth 10000
set_option maxHeartbeats 2000000
set_option linter.unusedVariables false
set_option linter.unusedSimpArgs false
abbrev bitsR (n : Nat) (f : Nat → Bool) : List T := (List.range n).map fun j => .bool (f j)
theorem nthD_range {n i : Nat} (h : i < n) : nthD (List.range n) i = i := by rw [nthD_get (by simpa using h)]; simp
theorem bitsR_set {n i : Nat} {f : Nat → Bool} {b : Bool} : (bitsR n f).set i (.bool b) = bitsR n (fun j => if j = i then b else f j) := by
  apply List.ext_getElem
  · simp
  · intro j h1 h2
    rw [List.getElem_set]
    simp only [List.getElem_map, List.getElem_range]
    by_cases h : i = j
    · subst h; simp
    · rw [if_neg h, if_neg (fun e => h e.symm)]
theorem bitsR_congr {n : Nat} {f g : Nat → Bool} (h : ∀ j, j < n → f j = g j) : bitsR n f = bitsR n g := by
  apply List.map_congr_left
  intro j hj
  rw [h j (by simpa using hj)]
theorem bitsR_zero (n : Nat) : List.replicate n (T.bool false) = bitsR n fun _ => false := by
  apply List.ext_getElem
  · simp
  · intro j h1 h2; simp
def endF (g : Graph) (at' : Nat → Nat → Bool) (b t : Nat) : Bool := (nextN g b).any (fun s => at' s.toNat t) || (eUsesN (nthD g.blocks b).fin).contains (t : Int)
def backF (x : Ins) (f : Nat → Bool) (t : Nat) : Bool := (usesN x).contains (t : Int) || (f t && !(setsN x == (t : Int)))
end Go.Proofs.Ytgladinljapmkaa.Am

/- Which temps are needed ahead of an instruction, by the document's answer. -/
namespace Go.Proofs.Ytgladinljapmkaa.Am
open Go Go.Proofs
set_option maxRecDepth 10000
set_option maxHeartbeats 2000000
set_option linter.unusedVariables false
set_option linter.unusedSimpArgs false
end Go.Proofs.Ytgladinljapmkaa.Am

/- The least answer of 'needed' in plain words. -/
namespace Go.Proofs.Ytgladinljapmkaa.Am
open Go Go.Proofs
set_option maxRecDepth 10000
set_option maxHeartbeats 2000000
set_option linter.unusedVariables false
set_option linter.unusedSimpArgs false
def stepC (code : List Ins) (f : Nat → Bool) : Nat → Bool := code.foldr (fun x f => backF x f) f
def stepF (g : Graph) (at' : Nat → Nat → Bool) (b : Nat) : Nat → Bool := stepC (nthD g.blocks b).code (endF g at' b)
theorem backF_mono {x : Ins} {f f' : Nat → Bool} {t : Nat} (h : f t = true → f' t = true) : backF x f t = true → backF x f' t = true := by
  unfold backF
  simp only [Bool.or_eq_true, Bool.and_eq_true]
  rintro (h1 | ⟨h1, h2⟩)
  · exact .inl h1
  · exact .inr ⟨h h1, h2⟩
theorem stepC_mono {l : List Ins} {f f' : Nat → Bool} {t : Nat} (h : f t = true → f' t = true) : stepC l f t = true → stepC l f' t = true := by
  induction l with
  | nil => exact h
  | cons x l ih => exact backF_mono ih
def LeB (m n : Nat) (a b : Nat → Nat → Bool) : Prop := ∀ i, i < m → ∀ t, t < n → a i t = true → b i t = true
theorem LeB.refl {m n : Nat} {a : Nat → Nat → Bool} : LeB m n a a := fun _ _ _ _ h => h
theorem LeB.trans {m n : Nat} {a b c : Nat → Nat → Bool} (h : LeB m n a b) (k : LeB m n b c) : LeB m n a c := fun i hi t ht h1 => k i hi t ht (h i hi t ht h1)
theorem endF_mono {g : Graph} (hg : ∀ b, b < g.blocks.length → ∀ s ∈ nextN g b, 0 ≤ s ∧ s < g.blocks.length) {n : Nat} {a a' : Nat → Nat → Bool} (h : LeB g.blocks.length n a a') {b t : Nat} (hb : b < g.blocks.length) (ht : t < n) : endF g a b t = true → endF g a' b t = true := by
  unfold endF
  simp only [Bool.or_eq_true, List.any_eq_true]
  rintro (⟨s, hs, h1⟩ | h1)
  · have := hg b hb s hs
    exact .inl ⟨s, hs, h _ (by omega) t ht h1⟩
  · exact .inr h1
theorem stepF_mono {g : Graph} (hg : ∀ b, b < g.blocks.length → ∀ s ∈ nextN g b, 0 ≤ s ∧ s < g.blocks.length) {n : Nat} {a a' : Nat → Nat → Bool} (h : LeB g.blocks.length n a a') {b t : Nat} (hb : b < g.blocks.length) (ht : t < n) : stepF g a b t = true → stepF g a' b t = true :=
  stepC_mono (endF_mono hg h hb ht)
structure Way (g : Graph) (n : Nat) (a : Nat → Nat → Bool) : Prop where
  up : LeB g.blocks.length n a (stepF g a)
  least : ∀ p, LeB g.blocks.length n (stepF g p) p → LeB g.blocks.length n a p
structure Least (g : Graph) (n : Nat) (a : Nat → Nat → Bool) : Prop extends Way g n a where
  down : LeB g.blocks.length n (stepF g a) a
def setRow (a : Nat → Nat → Bool) (b : Nat) (f : Nat → Bool) : Nat → Nat → Bool := fun i => if i = b then f else a i
theorem Way.zero (g : Graph) (n : Nat) : Way g n fun _ _ => false := ⟨fun _ _ _ _ h => (nomatch h), fun _ _ _ _ _ _ h => (nomatch h)⟩
theorem Way.step_le {g : Graph} {n : Nat} {a : Nat → Nat → Bool} (h : Way g n a) {b : Nat} (hb : b < g.blocks.length) : LeB g.blocks.length n a (setRow a b (stepF g a b)) := by
  intro i hi t ht h1
  unfold setRow
  by_cases e : i = b
  · rw [if_pos e]; subst e; exact h.up _ hi t ht h1
  · rw [if_neg e]; exact h1
theorem Way.step {g : Graph} (hg : ∀ b, b < g.blocks.length → ∀ s ∈ nextN g b, 0 ≤ s ∧ s < g.blocks.length) {n : Nat} {a : Nat → Nat → Bool} (h : Way g n a) {b : Nat} (hb : b < g.blocks.length) : Way g n (setRow a b (stepF g a b)) := by
  have hle := h.step_le hb
  refine ⟨fun i hi t ht h1 => ?_, fun p hp i hi t ht h1 => ?_⟩
  · refine stepF_mono hg hle hi ht ?_
    unfold setRow at h1
    by_cases e : i = b
    · rw [if_pos e] at h1; rw [e]; exact h1
    · rw [if_neg e] at h1; exact h.up i hi t ht h1
  · unfold setRow at h1
    by_cases e : i = b
    · rw [if_pos e] at h1
      subst e
      exact hp _ hi t ht (stepF_mono hg (h.least p hp) hi ht h1)
    · rw [if_neg e] at h1; exact h.least p hp i hi t ht h1
theorem countP_lt : ∀ {l : List Nat} {f g : Nat → Bool} (h : ∀ t ∈ l, f t = true → g t = true) {t : Nat} (ht : t ∈ l) (h1 : f t = false) (h2 : g t = true), l.countP (fun t => !g t) < l.countP (fun t => !f t)
  | x :: l, f, g, h, t, ht, h1, h2 => by
    have hle : l.countP (fun t => !g t) ≤ l.countP (fun t => !f t) := by
      apply List.countP_mono_left
      intro u hu h3
      have := h u (List.mem_cons_of_mem _ hu)
      cases hf : f u with
      | false => rfl
      | true => rw [this hf] at h3; exact h3
    rw [List.countP_cons, List.countP_cons]
    rcases List.mem_cons.1 ht with rfl | ht
    · rw [h1, h2]; simp; omega
    · have := countP_lt (fun u hu => h u (List.mem_cons_of_mem _ hu)) ht h1 h2
      have hx := h x (List.mem_cons_self ..)
      cases hf : f x with
      | false => cases hg : g x <;> simp <;> omega
      | true => rw [hx hf]; simp; omega
theorem Least.one {g : Graph} {n : Nat} {a b : Nat → Nat → Bool} (ha : Least g n a) (hb : Least g n b) {i t : Nat} (hi : i < g.blocks.length) (ht : t < n) : a i t = b i t := by
  rw [Bool.eq_iff_iff]
  exact ⟨ha.least b hb.down i hi t ht, hb.least a ha.down i hi t ht⟩
end Go.Proofs.Ytgladinljapmkaa.Am

/- All that is needed, by the document's answer. -/
namespace Go.Proofs.Ytgladinljapmkaa.Am
open Go Go.Proofs
set_option maxRecDepth 10000
set_option maxHeartbeats 2000000
set_option linter.unusedVariables false
set_option linter.unusedSimpArgs false
end Go.Proofs.Ytgladinljapmkaa.Am

/- Whether a graph fits, by the document's answer. -/
namespace Go.Proofs.Ytgladinljapmkaa.Am
open Go Go.Proofs
set_option maxRecDepth 10000
set_option maxHeartbeats 2000000
set_option linter.unusedVariables false
set_option linter.unusedSimpArgs false
structure Graph.leads (g : Graph) : Prop where
  one : 1 ≤ g.blocks.length
  most : g.blocks.length ≤ 20000
  next : ∀ b : Nat, b < g.blocks.length → ∀ s ∈ nextN g b, bel s g.blocks.length = true
abbrev nextR (g : Graph) (m : Nat) : List T := (List.range m).map fun b : Nat => ilist (nextN g (b : Int))
end Go.Proofs.Ytgladinljapmkaa.Am

/- Where a block leads, by the program. -/
namespace Go.Proofs.Ytgladinljapmkaa.Am
open Go Go.Proofs
set_option maxRecDepth 10000
set_option maxHeartbeats 2000000
set_option linter.unusedVariables false
set_option linter.unusedSimpArgs false
theorem putE_keys (n : Int) (v : T) : ∀ es : List (Int × T), (∀ x, x ∈ (putE n v es).map (·.1) ↔ x = n ∨ x ∈ es.map (·.1)) ∧ ((es.map (·.1)).Nodup → ((putE n v es).map (·.1)).Nodup) ∧ (putE n v es).length ≤ es.length + 1
  | [] => ⟨by simp [putE], by simp [putE], by simp [putE]⟩
  | (m, u) :: es => by
    obtain ⟨h1, h2, h3⟩ := putE_keys n v es
    simp only [putE]
    by_cases hm : m = n
    · rw [if_pos hm]
      subst hm
      refine ⟨fun x => ?_, fun h => h, by simp⟩
      simp
    · rw [if_neg hm]
      refine ⟨fun x => ?_, fun h => ?_, by simp; omega⟩
      · simp only [List.map_cons, List.mem_cons, h1]
        constructor
        · rintro (h | h | h)
          · exact .inr (.inl h)
          · exact .inl h
          · exact .inr (.inr h)
        · rintro (h | h | h)
          · exact .inr (.inl h)
          · exact .inl h
          · exact .inr (.inr h)
      · simp only [List.map_cons, List.nodup_cons] at h ⊢
        refine ⟨fun hx => ?_, h2 h.2⟩
        rcases (h1 m).1 hx with e | hx
        · exact hm e
        · exact h.1 hx
theorem putE_int' {k : IntKind} {n c : Int} {kc : List (Int × Int)} : ∃ kc' : List (Int × Int), putE n (.int k c) (kc.map fun p => (p.1, T.int k p.2)) = kc'.map (fun p => (p.1, T.int k p.2)) := by
  obtain ⟨kc', h, _⟩ := putE_int (k := k) (n := n) (c := c) (kc := kc)
  exact ⟨kc', h⟩
theorem exL.put {k : IntKind} {n m c : Int} {kc : List (Int × Int)} {K : T → Prop} (h : ∀ d, K (.int k d)) : exL (putE m (.int k c) (kc.map fun p => (p.1, .int k p.2))) n (.int k 0) K := by
  obtain ⟨kc', e⟩ := putE_int' (k := k) (n := m) (c := c) (kc := kc)
  rw [e]
  exact exL.int (h _)
theorem exL.put0 {k : IntKind} {n m c : Int} {K : T → Prop} (h : ∀ d, K (.int k d)) : exL (putE m (.int k c) []) n (.int k 0) K := exL.put (kc := []) h
theorem exL.none {k : IntKind} {n : Int} {K : T → Prop} (h : K (.int k 0)) : exL [] n (.int k 0) K := ⟨h⟩
theorem exL.none' {k : IntKind} {n : Int} {K : T → Prop} (h : ∀ d, K (.int k d)) : exL [] n (.int k 0) K := exL.none (h 0)
theorem sorted76k {es : List (Int × T)} (hw : Ob (∀ x ∈ es.map (·.1), I64 x)) (hl : Ob (es.length ≤ 2 ^ 21)) (hnd : Ob ((es.map (·.1)).Nodup)) {q : T → Prop} (hq : q (ilist (srt (es.map (·.1))))) : PCalls Try.prog 45 [.fn 51 [.box (.map .i64 es)]] q :=
  PCalls.mono (sorted76 es (fun p hp => hw.out _ (List.mem_map.2 ⟨p, hp, rfl⟩)) hl.out hnd.out) fun _ h => h ▸ hq
theorem one_keys {n : Int} {u : T} : (∀ {x : Int}, x ∈ (putE n u []).map (·.1) ↔ x ∈ [n]) ∧ ((putE n u []).map (·.1)).Nodup ∧ (putE n u []).length ≤ 1 := by
  refine ⟨fun {x} => ?_, (putE_keys n u []).2.1 List.nodup_nil, (putE_keys n u []).2.2⟩
  rw [(putE_keys n u []).1]
  simp
theorem more_keys {n : Int} {u : T} {es : List (Int × T)} {l : List Int} (h : ∀ x, x ∈ es.map (·.1) ↔ x ∈ l) (hn : (es.map (·.1)).Nodup) : (∀ {x : Int}, x ∈ (putE n u es).map (·.1) ↔ x ∈ n :: l) ∧ ((putE n u es).map (·.1)).Nodup ∧ (putE n u es).length ≤ es.length + 1 := by
  refine ⟨fun {x} => ?_, (putE_keys n u es).2.1 hn, (putE_keys n u es).2.2⟩
  rw [(putE_keys n u es).1, h, List.mem_cons]
theorem two_keys {n m : Int} {u v : T} : (∀ {x : Int}, x ∈ (putE n u (putE m v [])).map (·.1) ↔ x ∈ [n, m]) ∧ ((putE n u (putE m v [])).map (·.1)).Nodup ∧ (putE n u (putE m v [])).length ≤ 2 := by
  obtain ⟨h1, h2, h3⟩ := more_keys (n := n) (u := u) (es := putE m v []) (l := [m]) (fun x => one_keys.1) one_keys.2.1
  exact ⟨h1, h2, Nat.le_trans h3 (Nat.succ_le_succ one_keys.2.2)⟩
theorem int_keys {kc : List (Int × Int)} (x : Int) : x ∈ (kc.map fun p => (p.1, T.int .i64 p.2)).map (·.1) ↔ x ∈ kc.map (·.1) := by rw [List.map_map]; rfl
theorem int_nodup {kc : List (Int × Int)} (h : (kc.map (·.1)).Nodup) : ((kc.map fun p => (p.1, T.int .i64 p.2)).map (·.1)).Nodup := by rw [List.map_map]; exact h
theorem putE_int2 {n c : Int} {kc : List (Int × Int)} (hn : (kc.map (·.1)).Nodup) : ∃ kc' : List (Int × Int), putE n (.int .i64 c) (kc.map fun p => (p.1, T.int .i64 p.2)) = kc'.map (fun p => (p.1, T.int .i64 p.2)) ∧
    (∀ m, m ∈ kc'.map (·.1) ↔ m = n ∨ m ∈ kc.map (·.1)) ∧ (kc'.map (·.1)).Nodup ∧ kc'.length ≤ kc.length + 1 := by
  obtain ⟨kc', e, h1, _⟩ := putE_int (k := .i64) (n := n) (c := c) (kc := kc)
  obtain ⟨_, h2, h3⟩ := putE_keys n (.int .i64 c) (kc.map fun p => (p.1, T.int .i64 p.2))
  refine ⟨kc', e, h1, ?_, ?_⟩
  · have := h2 (int_nodup hn)
    rw [e, List.map_map] at this
    exact this
  · rw [e] at h3
    simpa using h3
theorem _root_.Go.Proofs.Ytgladinljapmkaa.Am.Le.of_eq {x y : T} (h : x = y) : Le x y := h ▸ .refl _
theorem next55 (g : Graph) (b : Int) (hg : g.tiny) (hw : ∀ x ∈ allN (nthD g.blocks b.toNat).fin, I64 x) : PCalls Try.prog 34 [g.t, .int .i64 b] (fun r => r = ilist (nextN g b)) := by
  refine PCalls.coarse ?_
  refine PCalls.of_body ttOk Try.func34 rfl ?_
  have hbt := block_tiny g hg b.toNat
  have hlen := all_len hbt
  have hcs := hbt.cases
  have hts := hbt.targets
  repeat' ((conv => whnf); first | (with_reducible first | refine onBool_intro (fun _ => ?_) (fun _ => ?_) | refine And.intro (Ob.mk (Nat.le_of_ble_eq_true rfl)) ?_ | refine And.intro (Ob.mk rfl) ?_ | exact ⟨rfl, rfl⟩ | refine And.intro (Ob.mk (fun h => h)) ?_) | (with_reducible refine Or.inl (And.intro (Ob.mk (Flat.map ?_)) ?_); exact fun _ => rfl) | (refine Or.inl (And.intro (Ob.mk (flat_of rfl)) ?_)) | (refine Or.inl (And.intro (Ob.mk ⟨rfl, rfl, rfl, rfl⟩) ?_)) | (refine Or.inl (And.intro (Ob.mk ⟨rfl, rfl, rfl⟩) ?_)) | (refine And.intro (Ob.mk ⟨rfl, rfl⟩) ?_) | (with_reducible refine Or.inr ?_) | (refine And.intro (Ob.mk (flat_of rfl)) ?_) | (with_reducible refine And.intro (Ob.mk (Flat.map ?_)) ?_; exact fun _ => rfl) | (with_reducible first | exact Ob.mk (Flat.map fun _ => rfl) | refine And.intro ?_ ?_ | apply exG.mk | apply exGS.mk | exact Dd.nil) | (refine Dd.same _ ?_) | (refine Dd.dead _ ?_) | (with_reducible first | apply exQ.mk | apply exP.mk) | (refine EqP.mk rfl rfl) | (with_reducible apply exW.mk) | (refine EqW.mk rfl) | (with_reducible first | intro _ | refine Dn.mk ?_) | (refine exS.full (by first | rfl | (simp; done) | (simp; omega)) ?_) | (refine And.intro (Ob.mk ⟨rfl, rfl, by first | rfl | (simp; done) | (simp; omega)⟩) ?_) | (with_reducible refine exE.mapD ?_) | (refine exL.int ?_) | (with_reducible first | refine Up0.mk rfl ?_ | refine Up0i.mk rfl ?_ | refine Up1.mk rfl ?_ | refine Up1i.mk rfl ?_ | refine Up2.mk rfl ?_ | refine Up2i.mk rfl ?_) | (refine Col.mk rfl rfl rfl ?_) | (refine Coli.mk rfl rfl rfl rfl ?_) | (refine PCalls.mono (below75 _ _) ?_; rintro _ rfl) | (refine exL.put0 ?_) | (refine exL.none' ?_) | (refine PCalls.mono (keys77 _) ?_; rintro _ rfl) | (refine sorted76k ?_ ?_ ?_ ?_))
  all_goals (try (refine Ob.mk ?_; first | assumption | exact ⟨rfl, rfl⟩ | exact ⟨rfl, rfl, rfl⟩ | (refine ⟨rfl, rfl, ?_⟩; simp only [List.length_map, List.length_take, List.length_append, els_len, List.length_replicate]; omega) | (intro h; exact h) | (intro h; rw [h]; rfl) | (intro h; simp_all; done) | (refine bytes_le (n := 1048577) ?_ rfl; simp only [ltI_iff, ltI_not, leI_iff, leI_not, eqI_iff, eqI_not, List.length_map, bif_and, bif_or, Bool.and_eq_true, Bool.and_eq_false_iff, Bool.or_eq_true, Bool.or_eq_false_iff, Bool.not_eq_true', Bool.not_eq_false', Int.toNat_natCast, beq_iff_eq, beq_eq_false_iff_ne, decide_eq_true_eq, decide_eq_false_iff_not, bel_iff, bel_not, wthn_iff, wthn_not, els_len, mixL_len, Nat.zero_add, List.length_set, List.length_take] at *; omega) | (simp only [ltI_iff, ltI_not, leI_iff, leI_not, eqI_iff, eqI_not, List.length_map, bif_and, bif_or, Bool.and_eq_true, Bool.and_eq_false_iff, Bool.or_eq_true, Bool.or_eq_false_iff, Bool.not_eq_true', Bool.not_eq_false', Int.toNat_natCast, beq_iff_eq, beq_eq_false_iff_ne, decide_eq_true_eq, decide_eq_false_iff_not, bel_iff, bel_not, wthn_iff, wthn_not, els_len, mixL_len, Nat.zero_add, List.length_set, List.length_take, Int.ofNat_eq_natCast] at *; omega)))
  all_goals (try exact Ob.mk ⟨rfl, rfl, rfl, rfl⟩)
  · rename_i h1
    show Le .nsl _
    rw [nextN_out h1]
    exact Le.nsl _
  · rename_i h1 _ _
    refine Ob.mk fun x hx => hw x ?_
    rw [allN_2 h1]
    exact two_keys.1.1 hx
  · exact Ob.mk (Nat.le_trans two_keys.2.2 (by omega))
  · exact Ob.mk two_keys.2.1
  · rename_i h0 h1 _ _
    refine Le.of_eq (congrArg ilist ?_)
    rw [nextN_in h0, allN_2 h1]
    exact srt_congr fun x => two_keys.1
  · rename_i h0 _ h1 _
    conv => whnf
    refine LoopVC.mk [38] [] (fun m vals σ => ∃ (i : Nat) (kc : List (Int × Int)), vals = [.t (.int .i64 i)] ∧ σ = [gvar g, evar (nthD g.blocks b.toNat).fin, .map .i64 (kc.map fun p => (p.1, T.int .i64 p.2))] ∧ i ≤ (nthD g.blocks b.toNat).fin.cases.length ∧ m = (nthD g.blocks b.toNat).fin.cases.length - i ∧
      (∀ x, x ∈ kc.map (·.1) ↔ x ∈ ((nthD g.blocks b.toNat).fin.cases.take i).map (·.to)) ∧ (kc.map (·.1)).Nodup ∧ kc.length ≤ i) ?_ ?_
    · conv => whnf
      exact ⟨(nthD g.blocks b.toNat).fin.cases.length, 0, [], rfl, rfl, Nat.zero_le _, rfl, by simp, List.nodup_nil, Nat.le_refl _⟩
    · rintro m vals σ ⟨i, kc, rfl, rfl, hi, rfl, hk1, hk2, hk3⟩
      repeat' ((conv => whnf); first | (with_reducible first | refine onBool_intro (fun _ => ?_) (fun _ => ?_) | refine And.intro (Ob.mk (Nat.le_of_ble_eq_true rfl)) ?_ | refine And.intro (Ob.mk rfl) ?_ | exact ⟨rfl, rfl⟩ | refine And.intro (Ob.mk (fun h => h)) ?_) | (with_reducible refine Or.inl (And.intro (Ob.mk (Flat.map ?_)) ?_); exact fun _ => rfl) | (refine Or.inl (And.intro (Ob.mk (flat_of rfl)) ?_)) | (refine Or.inl (And.intro (Ob.mk ⟨rfl, rfl, rfl, rfl⟩) ?_)) | (refine Or.inl (And.intro (Ob.mk ⟨rfl, rfl, rfl⟩) ?_)) | (refine And.intro (Ob.mk ⟨rfl, rfl⟩) ?_) | (with_reducible refine Or.inr ?_) | (refine And.intro (Ob.mk (flat_of rfl)) ?_) | (with_reducible refine And.intro (Ob.mk (Flat.map ?_)) ?_; exact fun _ => rfl) | (with_reducible first | exact Ob.mk (Flat.map fun _ => rfl) | refine And.intro ?_ ?_ | apply exG.mk | apply exGS.mk | exact Dd.nil) | (refine Dd.same _ ?_) | (refine Dd.dead _ ?_) | (with_reducible first | apply exQ.mk | apply exP.mk) | (refine EqP.mk rfl rfl) | (with_reducible apply exW.mk) | (refine EqW.mk rfl) | (with_reducible first | intro _ | refine Dn.mk ?_) | (refine exS.full (by first | rfl | (simp; done) | (simp; omega)) ?_) | (refine And.intro (Ob.mk ⟨rfl, rfl, by first | rfl | (simp; done) | (simp; omega)⟩) ?_) | (with_reducible refine exE.mapD ?_) | (refine exL.int ?_) | (with_reducible first | refine Up0.mk rfl ?_ | refine Up0i.mk rfl ?_ | refine Up1.mk rfl ?_ | refine Up1i.mk rfl ?_ | refine Up2.mk rfl ?_ | refine Up2i.mk rfl ?_) | (refine Col.mk rfl rfl rfl ?_) | (refine Coli.mk rfl rfl rfl rfl ?_) | (refine PCalls.mono (keys77 _) ?_; rintro _ rfl) | (refine sorted76k ?_ ?_ ?_ ?_))
      all_goals (try (refine Ob.mk ?_; first | assumption | exact ⟨rfl, rfl⟩ | exact ⟨rfl, rfl, rfl⟩ | (refine ⟨rfl, rfl, ?_⟩; simp only [List.length_map, List.length_take, List.length_append, els_len, List.length_replicate]; omega) | (intro h; exact h) | (intro h; rw [h]; rfl) | (intro h; simp_all; done) | (refine bytes_le (n := 1048577) ?_ rfl; simp only [ltI_iff, ltI_not, leI_iff, leI_not, eqI_iff, eqI_not, List.length_map, bif_and, bif_or, Bool.and_eq_true, Bool.and_eq_false_iff, Bool.or_eq_true, Bool.or_eq_false_iff, Bool.not_eq_true', Bool.not_eq_false', Int.toNat_natCast, beq_iff_eq, beq_eq_false_iff_ne, decide_eq_true_eq, decide_eq_false_iff_not, bel_iff, bel_not, wthn_iff, wthn_not, els_len, mixL_len, Nat.zero_add, List.length_set, List.length_take] at *; omega) | (simp only [ltI_iff, ltI_not, leI_iff, leI_not, eqI_iff, eqI_not, List.length_map, bif_and, bif_or, Bool.and_eq_true, Bool.and_eq_false_iff, Bool.or_eq_true, Bool.or_eq_false_iff, Bool.not_eq_true', Bool.not_eq_false', Int.toNat_natCast, beq_iff_eq, beq_eq_false_iff_ne, decide_eq_true_eq, decide_eq_false_iff_not, bel_iff, bel_not, wthn_iff, wthn_not, els_len, mixL_len, Nat.zero_add, List.length_set, List.length_take, Int.ofNat_eq_natCast] at *; omega)))
      · rename_i h2
        have hlt : i < (nthD g.blocks b.toNat).fin.cases.length := by simp only [ltI_iff, ltI_not, leI_iff, leI_not, eqI_iff, eqI_not, List.length_map, bif_and, bif_or, Bool.and_eq_true, Bool.and_eq_false_iff, Bool.or_eq_true, Bool.or_eq_false_iff, Bool.not_eq_true', Bool.not_eq_false', Int.toNat_natCast, beq_iff_eq, beq_eq_false_iff_ne, decide_eq_true_eq, decide_eq_false_iff_not] at *; omega
        conv => whnf
        obtain ⟨kc', e, k1, k2, k3⟩ := putE_int2 (n := (nthD (nthD g.blocks b.toNat).fin.cases i).to) (c := addI .i64 (lookC ((nthD (nthD g.blocks b.toNat).fin.cases i).to) kc) 1) hk2
        refine ⟨(nthD g.blocks b.toNat).fin.cases.length - (i + 1), by omega, i + 1, kc', ?_, ?_, hlt, rfl, ?_, k2, by omega⟩
        · rw [addI_i64 (by omega) (by omega)]; rfl
        · rw [← e]; rfl
        · intro x
          rw [k1, hk1, take_succ_nthD hlt, List.map_append, List.mem_append]
          simp
          exact Or.comm
      · rename_i h2
        have hge : (nthD g.blocks b.toNat).fin.cases.length ≤ i := by simp only [ltI_iff, ltI_not, leI_iff, leI_not, eqI_iff, eqI_not, List.length_map, bif_and, bif_or, Bool.and_eq_true, Bool.and_eq_false_iff, Bool.or_eq_true, Bool.or_eq_false_iff, Bool.not_eq_true', Bool.not_eq_false', Int.toNat_natCast, beq_iff_eq, beq_eq_false_iff_ne, decide_eq_true_eq, decide_eq_false_iff_not] at *; omega
        refine Ob.mk fun x hx => hw x ?_
        rw [List.take_of_length_le hge] at hk1
        rw [allN_3 h1]
        exact (more_keys (fun x => (int_keys x).trans (hk1 x)) (int_nodup hk2)).1.1 hx
      · refine Ob.mk (Nat.le_trans (putE_keys _ _ _).2.2 ?_)
        rw [List.length_map]
        omega
      · exact Ob.mk ((putE_keys _ _ _).2.1 (int_nodup hk2))
      · rename_i h2
        have hge : (nthD g.blocks b.toNat).fin.cases.length ≤ i := by simp only [ltI_iff, ltI_not, leI_iff, leI_not, eqI_iff, eqI_not, List.length_map, bif_and, bif_or, Bool.and_eq_true, Bool.and_eq_false_iff, Bool.or_eq_true, Bool.or_eq_false_iff, Bool.not_eq_true', Bool.not_eq_false', Int.toNat_natCast, beq_iff_eq, beq_eq_false_iff_ne, decide_eq_true_eq, decide_eq_false_iff_not] at *; omega
        rw [List.take_of_length_le hge] at hk1
        refine Le.of_eq (congrArg ilist ?_)
        rw [nextN_in h0, allN_3 h1]
        exact srt_congr fun x => (more_keys (fun x => (int_keys x).trans (hk1 x)) (int_nodup hk2)).1
  · rename_i h0 _ _ h1 _
    conv => whnf
    refine LoopVC.mk [53] [] (fun m vals σ => ∃ (i : Nat) (kc : List (Int × Int)), vals = [.t (.int .i64 i)] ∧ σ = [gvar g, evar (nthD g.blocks b.toNat).fin, .map .i64 (kc.map fun p => (p.1, T.int .i64 p.2))] ∧ i ≤ (nthD g.blocks b.toNat).fin.targets.length ∧ m = (nthD g.blocks b.toNat).fin.targets.length - i ∧
      (∀ x, x ∈ kc.map (·.1) ↔ x ∈ (nthD g.blocks b.toNat).fin.targets.take i) ∧ (kc.map (·.1)).Nodup ∧ kc.length ≤ i) ?_ ?_
    · conv => whnf
      exact ⟨(nthD g.blocks b.toNat).fin.targets.length, 0, [], rfl, rfl, Nat.zero_le _, rfl, by simp, List.nodup_nil, Nat.le_refl _⟩
    · rintro m vals σ ⟨i, kc, rfl, rfl, hi, rfl, hk1, hk2, hk3⟩
      repeat' ((conv => whnf); first | (with_reducible first | refine onBool_intro (fun _ => ?_) (fun _ => ?_) | refine And.intro (Ob.mk (Nat.le_of_ble_eq_true rfl)) ?_ | refine And.intro (Ob.mk rfl) ?_ | exact ⟨rfl, rfl⟩ | refine And.intro (Ob.mk (fun h => h)) ?_) | (with_reducible refine Or.inl (And.intro (Ob.mk (Flat.map ?_)) ?_); exact fun _ => rfl) | (refine Or.inl (And.intro (Ob.mk (flat_of rfl)) ?_)) | (refine Or.inl (And.intro (Ob.mk ⟨rfl, rfl, rfl, rfl⟩) ?_)) | (refine Or.inl (And.intro (Ob.mk ⟨rfl, rfl, rfl⟩) ?_)) | (refine And.intro (Ob.mk ⟨rfl, rfl⟩) ?_) | (with_reducible refine Or.inr ?_) | (refine And.intro (Ob.mk (flat_of rfl)) ?_) | (with_reducible refine And.intro (Ob.mk (Flat.map ?_)) ?_; exact fun _ => rfl) | (with_reducible first | exact Ob.mk (Flat.map fun _ => rfl) | refine And.intro ?_ ?_ | apply exG.mk | apply exGS.mk | exact Dd.nil) | (refine Dd.same _ ?_) | (refine Dd.dead _ ?_) | (with_reducible first | apply exQ.mk | apply exP.mk) | (refine EqP.mk rfl rfl) | (with_reducible apply exW.mk) | (refine EqW.mk rfl) | (with_reducible first | intro _ | refine Dn.mk ?_) | (refine exS.full (by first | rfl | (simp; done) | (simp; omega)) ?_) | (refine And.intro (Ob.mk ⟨rfl, rfl, by first | rfl | (simp; done) | (simp; omega)⟩) ?_) | (with_reducible refine exE.mapD ?_) | (refine exL.int ?_) | (with_reducible first | refine Up0.mk rfl ?_ | refine Up0i.mk rfl ?_ | refine Up1.mk rfl ?_ | refine Up1i.mk rfl ?_ | refine Up2.mk rfl ?_ | refine Up2i.mk rfl ?_) | (refine Col.mk rfl rfl rfl ?_) | (refine Coli.mk rfl rfl rfl rfl ?_) | (refine PCalls.mono (keys77 _) ?_; rintro _ rfl) | (refine sorted76k ?_ ?_ ?_ ?_))
      all_goals (try (refine Ob.mk ?_; first | assumption | exact ⟨rfl, rfl⟩ | exact ⟨rfl, rfl, rfl⟩ | (refine ⟨rfl, rfl, ?_⟩; simp only [List.length_map, List.length_take, List.length_append, els_len, List.length_replicate]; omega) | (intro h; exact h) | (intro h; rw [h]; rfl) | (intro h; simp_all; done) | (refine bytes_le (n := 1048577) ?_ rfl; simp only [ltI_iff, ltI_not, leI_iff, leI_not, eqI_iff, eqI_not, List.length_map, bif_and, bif_or, Bool.and_eq_true, Bool.and_eq_false_iff, Bool.or_eq_true, Bool.or_eq_false_iff, Bool.not_eq_true', Bool.not_eq_false', Int.toNat_natCast, beq_iff_eq, beq_eq_false_iff_ne, decide_eq_true_eq, decide_eq_false_iff_not, bel_iff, bel_not, wthn_iff, wthn_not, els_len, mixL_len, Nat.zero_add, List.length_set, List.length_take] at *; omega) | (simp only [ltI_iff, ltI_not, leI_iff, leI_not, eqI_iff, eqI_not, List.length_map, bif_and, bif_or, Bool.and_eq_true, Bool.and_eq_false_iff, Bool.or_eq_true, Bool.or_eq_false_iff, Bool.not_eq_true', Bool.not_eq_false', Int.toNat_natCast, beq_iff_eq, beq_eq_false_iff_ne, decide_eq_true_eq, decide_eq_false_iff_not, bel_iff, bel_not, wthn_iff, wthn_not, els_len, mixL_len, Nat.zero_add, List.length_set, List.length_take, Int.ofNat_eq_natCast] at *; omega)))
      · rename_i h2
        have hlt : i < (nthD g.blocks b.toNat).fin.targets.length := by simp only [ltI_iff, ltI_not, leI_iff, leI_not, eqI_iff, eqI_not, List.length_map, bif_and, bif_or, Bool.and_eq_true, Bool.and_eq_false_iff, Bool.or_eq_true, Bool.or_eq_false_iff, Bool.not_eq_true', Bool.not_eq_false', Int.toNat_natCast, beq_iff_eq, beq_eq_false_iff_ne, decide_eq_true_eq, decide_eq_false_iff_not] at *; omega
        conv => whnf
        obtain ⟨kc', e, k1, k2, k3⟩ := putE_int2 (n := nthD (nthD g.blocks b.toNat).fin.targets i) (c := addI .i64 (lookC (nthD (nthD g.blocks b.toNat).fin.targets i) kc) 1) hk2
        refine ⟨(nthD g.blocks b.toNat).fin.targets.length - (i + 1), by omega, i + 1, kc', ?_, ?_, hlt, rfl, ?_, k2, by omega⟩
        · rw [addI_i64 (by omega) (by omega)]; rfl
        · rw [← e]; rfl
        · intro x
          rw [k1, hk1, take_succ_nthD hlt,  List.mem_append]
          simp
          exact Or.comm
      · rename_i h2
        have hge : (nthD g.blocks b.toNat).fin.targets.length ≤ i := by simp only [ltI_iff, ltI_not, leI_iff, leI_not, eqI_iff, eqI_not, List.length_map, bif_and, bif_or, Bool.and_eq_true, Bool.and_eq_false_iff, Bool.or_eq_true, Bool.or_eq_false_iff, Bool.not_eq_true', Bool.not_eq_false', Int.toNat_natCast, beq_iff_eq, beq_eq_false_iff_ne, decide_eq_true_eq, decide_eq_false_iff_not] at *; omega
        refine Ob.mk fun x hx => hw x ?_
        rw [List.take_of_length_le hge] at hk1
        rw [allN_4 h1]
        exact (more_keys (fun x => (int_keys x).trans (hk1 x)) (int_nodup hk2)).1.1 hx
      · refine Ob.mk (Nat.le_trans (putE_keys _ _ _).2.2 ?_)
        rw [List.length_map]
        omega
      · exact Ob.mk ((putE_keys _ _ _).2.1 (int_nodup hk2))
      · rename_i h2
        have hge : (nthD g.blocks b.toNat).fin.targets.length ≤ i := by simp only [ltI_iff, ltI_not, leI_iff, leI_not, eqI_iff, eqI_not, List.length_map, bif_and, bif_or, Bool.and_eq_true, Bool.and_eq_false_iff, Bool.or_eq_true, Bool.or_eq_false_iff, Bool.not_eq_true', Bool.not_eq_false', Int.toNat_natCast, beq_iff_eq, beq_eq_false_iff_ne, decide_eq_true_eq, decide_eq_false_iff_not] at *; omega
        rw [List.take_of_length_le hge] at hk1
        refine Le.of_eq (congrArg ilist ?_)
        rw [nextN_in h0, allN_4 h1]
        exact srt_congr fun x => (more_keys (fun x => (int_keys x).trans (hk1 x)) (int_nodup hk2)).1
  · rename_i h1 _
    refine Ob.mk fun x hx => hw x ?_
    rw [allN_1 h1]
    exact one_keys.1.1 hx
  · exact Ob.mk (Nat.le_trans one_keys.2.2 (by omega))
  · exact Ob.mk one_keys.2.1
  · rename_i h0 _ _ _ h1 _
    refine Le.of_eq (congrArg ilist ?_)
    rw [nextN_in h0, allN_1 h1]
    exact srt_congr fun x => one_keys.1
  · rename_i h0 h2 h3 h4 h1
    show Le .nsl _
    rw [nextN_in h0, allN_5 h1 h2 h3 h4, srt_nil]
    exact Le.nsl _
end Go.Proofs.Ytgladinljapmkaa.Am

/- What live's functions say of one instruction; whether a graph fits. -/
namespace Go.Proofs.Ytgladinljapmkaa.Am
open Go Go.Proofs
set_option maxRecDepth 10000
set_option maxHeartbeats 2000000
set_option linter.unusedVariables false
set_option linter.unusedSimpArgs false
def idxN (p : Int → Bool) (l : List Int) : Int := match l.findIdx? p with | some i => (i : Int) | none => -1
theorem idxN_hit {p : Int → Bool} {l : List Int} {i : Nat} (h : i < l.length) (h1 : ∀ j, j < i → p (nthD l j) = false) (h2 : p (nthD l i) = true) : idxN p l = i := by
  have : l.findIdx? p = some i := by
    rw [List.findIdx?_eq_some_iff_getElem]
    refine ⟨h, by rw [← nthD_get h]; exact h2, fun j hj => by rw [← nthD_get (by omega), h1 j hj]; simp⟩
  unfold idxN; rw [this]
theorem idxN_miss {p : Int → Bool} {l : List Int} (h1 : ∀ j, j < l.length → p (nthD l j) = false) : idxN p l = -1 := by
  have : l.findIdx? p = none := by
    rw [List.findIdx?_eq_none_iff]
    intro x hx
    obtain ⟨j, hj, rfl⟩ := List.mem_iff_getElem.1 hx
    rw [← nthD_get hj]; exact h1 j hj
  unfold idxN; rw [this]
theorem idxN_any {p : Int → Bool} {l : List Int} : leI 0 (idxN p l) = l.any p := by
  unfold idxN
  cases h : l.findIdx? p with
  | none =>
    rw [List.findIdx?_eq_none_iff] at h
    have : l.any p = false := by rw [List.any_eq_false]; intro x hx; simp [h x hx]
    rw [this]; simp [leI]
  | some i =>
    rw [List.findIdx?_eq_some_iff_getElem] at h
    obtain ⟨hi, hp, _⟩ := h
    have : l.any p = true := by rw [List.any_eq_true]; exact ⟨l[i], List.getElem_mem hi, hp⟩
    rw [this]; simp [leI]
theorem indexFunc74 (l : List Int) (g : FuncId) (cs : List T) (p : Int → Bool) (hp : ∀ n, PCalls Try.prog g [.int .i64 n, .ptr cs] (fun r => r = .bool (p n))) : PCalls Try.prog 47 [ilist l, .fn g [.ptr cs]] (fun r => r = .int .i64 (idxN p l)) := by
  refine PCalls.of_body ttOk Try.func47 rfl ?_
  repeat' ((conv => whnf); first | (with_reducible first | refine onBool_intro (fun _ => ?_) (fun _ => ?_) | refine And.intro (Ob.mk (Nat.le_of_ble_eq_true rfl)) ?_ | refine And.intro (Ob.mk rfl) ?_ | exact ⟨rfl, rfl⟩ | refine And.intro (Ob.mk (fun h => h)) ?_) | (with_reducible refine Or.inl (And.intro (Ob.mk (Flat.map ?_)) ?_); exact fun _ => rfl) | (refine Or.inl (And.intro (Ob.mk (flat_of rfl)) ?_)) | (refine Or.inl (And.intro (Ob.mk ⟨rfl, rfl, rfl, rfl⟩) ?_)) | (refine Or.inl (And.intro (Ob.mk ⟨rfl, rfl, rfl⟩) ?_)) | (refine And.intro (Ob.mk ⟨rfl, rfl⟩) ?_) | (with_reducible refine Or.inr ?_) | (refine And.intro (Ob.mk (flat_of rfl)) ?_) | (with_reducible refine And.intro (Ob.mk (Flat.map ?_)) ?_; exact fun _ => rfl) | (with_reducible first | exact Ob.mk (Flat.map fun _ => rfl) | refine And.intro ?_ ?_ | apply exG.mk | apply exGS.mk | exact Dd.nil) | (refine Dd.same _ ?_) | (refine Dd.dead _ ?_) | (with_reducible first | apply exQ.mk | apply exP.mk) | (refine EqP.mk rfl rfl) | (with_reducible apply exW.mk) | (refine EqW.mk rfl) | (with_reducible first | intro _ | refine Dn.mk ?_) | (refine exS.full (by first | rfl | (simp; done) | (simp; omega)) ?_) | (refine And.intro (Ob.mk ⟨rfl, rfl, by first | rfl | (simp; done) | (simp; omega)⟩) ?_) | (with_reducible refine exE.mapD ?_) | (refine exL.int ?_) | (with_reducible first | refine Up0.mk rfl ?_ | refine Up0i.mk rfl ?_ | refine Up1.mk rfl ?_ | refine Up1i.mk rfl ?_ | refine Up2.mk rfl ?_ | refine Up2i.mk rfl ?_) | (refine Col.mk rfl rfl rfl ?_) | (refine Coli.mk rfl rfl rfl rfl ?_))
  conv => whnf
  refine LoopVC.up0 8 l.length (fun i => ∀ j, j < i → p (nthD l j) = false) ?_ ?_
  · repeat' ((conv => whnf); first | (with_reducible first | refine onBool_intro (fun _ => ?_) (fun _ => ?_) | refine And.intro (Ob.mk (Nat.le_of_ble_eq_true rfl)) ?_ | refine And.intro (Ob.mk rfl) ?_ | exact ⟨rfl, rfl⟩ | refine And.intro (Ob.mk (fun h => h)) ?_) | (with_reducible refine Or.inl (And.intro (Ob.mk (Flat.map ?_)) ?_); exact fun _ => rfl) | (refine Or.inl (And.intro (Ob.mk (flat_of rfl)) ?_)) | (refine Or.inl (And.intro (Ob.mk ⟨rfl, rfl, rfl, rfl⟩) ?_)) | (refine Or.inl (And.intro (Ob.mk ⟨rfl, rfl, rfl⟩) ?_)) | (refine And.intro (Ob.mk ⟨rfl, rfl⟩) ?_) | (with_reducible refine Or.inr ?_) | (refine And.intro (Ob.mk (flat_of rfl)) ?_) | (with_reducible refine And.intro (Ob.mk (Flat.map ?_)) ?_; exact fun _ => rfl) | (with_reducible first | exact Ob.mk (Flat.map fun _ => rfl) | refine And.intro ?_ ?_ | apply exG.mk | apply exGS.mk | exact Dd.nil) | (refine Dd.same _ ?_) | (refine Dd.dead _ ?_) | (with_reducible first | apply exQ.mk | apply exP.mk) | (refine EqP.mk rfl rfl) | (with_reducible apply exW.mk) | (refine EqW.mk rfl) | (with_reducible first | intro _ | refine Dn.mk ?_) | (refine exS.full (by first | rfl | (simp; done) | (simp; omega)) ?_) | (refine And.intro (Ob.mk ⟨rfl, rfl, by first | rfl | (simp; done) | (simp; omega)⟩) ?_) | (with_reducible refine exE.mapD ?_) | (refine exL.int ?_) | (with_reducible first | refine Up0.mk rfl ?_ | refine Up0i.mk rfl ?_ | refine Up1.mk rfl ?_ | refine Up1i.mk rfl ?_ | refine Up2.mk rfl ?_ | refine Up2i.mk rfl ?_) | (refine Col.mk rfl rfl rfl ?_) | (refine Coli.mk rfl rfl rfl rfl ?_))
    exact Ob.mk (by omega)
  · intro i hi he
    repeat' ((conv => whnf); first | (with_reducible first | refine onBool_intro (fun _ => ?_) (fun _ => ?_) | refine And.intro (Ob.mk (Nat.le_of_ble_eq_true rfl)) ?_ | refine And.intro (Ob.mk rfl) ?_ | exact ⟨rfl, rfl⟩ | refine And.intro (Ob.mk (fun h => h)) ?_) | (with_reducible refine Or.inl (And.intro (Ob.mk (Flat.map ?_)) ?_); exact fun _ => rfl) | (refine Or.inl (And.intro (Ob.mk (flat_of rfl)) ?_)) | (refine Or.inl (And.intro (Ob.mk ⟨rfl, rfl, rfl, rfl⟩) ?_)) | (refine Or.inl (And.intro (Ob.mk ⟨rfl, rfl, rfl⟩) ?_)) | (refine And.intro (Ob.mk ⟨rfl, rfl⟩) ?_) | (with_reducible refine Or.inr ?_) | (refine And.intro (Ob.mk (flat_of rfl)) ?_) | (with_reducible refine And.intro (Ob.mk (Flat.map ?_)) ?_; exact fun _ => rfl) | (with_reducible first | exact Ob.mk (Flat.map fun _ => rfl) | refine And.intro ?_ ?_ | apply exG.mk | apply exGS.mk | exact Dd.nil) | (refine Dd.same _ ?_) | (refine Dd.dead _ ?_) | (with_reducible first | apply exQ.mk | apply exP.mk) | (refine EqP.mk rfl rfl) | (with_reducible apply exW.mk) | (refine EqW.mk rfl) | (with_reducible first | intro _ | refine Dn.mk ?_) | (refine exS.full (by first | rfl | (simp; done) | (simp; omega)) ?_) | (refine And.intro (Ob.mk ⟨rfl, rfl, by first | rfl | (simp; done) | (simp; omega)⟩) ?_) | (with_reducible refine exE.mapD ?_) | (refine exL.int ?_) | (with_reducible first | refine Up0.mk rfl ?_ | refine Up0i.mk rfl ?_ | refine Up1.mk rfl ?_ | refine Up1i.mk rfl ?_ | refine Up2.mk rfl ?_ | refine Up2i.mk rfl ?_) | (refine Col.mk rfl rfl rfl ?_) | (refine Coli.mk rfl rfl rfl rfl ?_) | (refine PCalls.mono (hp _) ?_; rintro _ rfl))
    all_goals (try (refine Ob.mk ?_; first | assumption | exact ⟨rfl, rfl⟩ | exact ⟨rfl, rfl, rfl⟩ | (refine ⟨rfl, rfl, ?_⟩; simp only [List.length_map, List.length_take, List.length_append, els_len, List.length_replicate]; omega) | (intro h; exact h) | (intro h; rw [h]; rfl) | (intro h; simp_all; done) | (refine bytes_le (n := 1048577) ?_ rfl; simp only [ltI_iff, ltI_not, leI_iff, leI_not, eqI_iff, eqI_not, List.length_map, bif_and, bif_or, Bool.and_eq_true, Bool.and_eq_false_iff, Bool.or_eq_true, Bool.or_eq_false_iff, Bool.not_eq_true', Bool.not_eq_false', Int.toNat_natCast, beq_iff_eq, beq_eq_false_iff_ne, decide_eq_true_eq, decide_eq_false_iff_not, bel_iff, bel_not, wthn_iff, wthn_not, els_len, mixL_len, Nat.zero_add, List.length_set, List.length_take] at *; omega) | (simp only [ltI_iff, ltI_not, leI_iff, leI_not, eqI_iff, eqI_not, List.length_map, bif_and, bif_or, Bool.and_eq_true, Bool.and_eq_false_iff, Bool.or_eq_true, Bool.or_eq_false_iff, Bool.not_eq_true', Bool.not_eq_false', Int.toNat_natCast, beq_iff_eq, beq_eq_false_iff_ne, decide_eq_true_eq, decide_eq_false_iff_not, bel_iff, bel_not, wthn_iff, wthn_not, els_len, mixL_len, Nat.zero_add, List.length_set, List.length_take, Int.ofNat_eq_natCast] at *; omega)))
    · rename_i h1 h2
      simp only [ltI_iff, ltI_not, leI_iff, leI_not, eqI_iff, eqI_not, List.length_map, bif_and, bif_or, Bool.and_eq_true, Bool.and_eq_false_iff, Bool.or_eq_true, Bool.or_eq_false_iff, Bool.not_eq_true', Bool.not_eq_false', Int.toNat_natCast, beq_iff_eq, beq_eq_false_iff_ne, decide_eq_true_eq, decide_eq_false_iff_not] at *
      exact congrArg (T.int .i64) (idxN_hit (by omega) he h2).symm
    · rename_i h1 h2
      simp only [ltI_iff, ltI_not, leI_iff, leI_not, eqI_iff, eqI_not, List.length_map, bif_and, bif_or, Bool.and_eq_true, Bool.and_eq_false_iff, Bool.or_eq_true, Bool.or_eq_false_iff, Bool.not_eq_true', Bool.not_eq_false', Int.toNat_natCast, beq_iff_eq, beq_eq_false_iff_ne, decide_eq_true_eq, decide_eq_false_iff_not] at *
      refine Ob.mk ⟨by omega, addI_i64 (by omega) (by omega), ?_⟩
      intro j hj
      rcases Nat.lt_or_ge j i with h | h
      · exact he j h
      · rw [show j = i by omega]; exact h2
    · rename_i h1
      simp only [ltI_iff, ltI_not, leI_iff, leI_not, eqI_iff, eqI_not, List.length_map, bif_and, bif_or, Bool.and_eq_true, Bool.and_eq_false_iff, Bool.or_eq_true, Bool.or_eq_false_iff, Bool.not_eq_true', Bool.not_eq_false', Int.toNat_natCast, beq_iff_eq, beq_eq_false_iff_ne, decide_eq_true_eq, decide_eq_false_iff_not] at *
      exact congrArg (T.int .i64) (idxN_miss fun j hj => he j (by omega)).symm
theorem containsFunc54 (l : List Int) (g : FuncId) (cs : List T) (p : Int → Bool) (hp : ∀ n, PCalls Try.prog g [.int .i64 n, .ptr cs] (fun r => r = .bool (p n))) : PCalls Try.prog 37 [ilist l, .fn g [.ptr cs]] (fun r => r = .bool (l.any p)) := by
  refine PCalls.of_body ttOk Try.func37 rfl ?_
  repeat' ((conv => whnf); first | (with_reducible first | refine onBool_intro (fun _ => ?_) (fun _ => ?_) | refine And.intro (Ob.mk (Nat.le_of_ble_eq_true rfl)) ?_ | refine And.intro (Ob.mk rfl) ?_ | exact ⟨rfl, rfl⟩ | refine And.intro (Ob.mk (fun h => h)) ?_) | (with_reducible refine Or.inl (And.intro (Ob.mk (Flat.map ?_)) ?_); exact fun _ => rfl) | (refine Or.inl (And.intro (Ob.mk (flat_of rfl)) ?_)) | (refine Or.inl (And.intro (Ob.mk ⟨rfl, rfl, rfl, rfl⟩) ?_)) | (refine Or.inl (And.intro (Ob.mk ⟨rfl, rfl, rfl⟩) ?_)) | (refine And.intro (Ob.mk ⟨rfl, rfl⟩) ?_) | (with_reducible refine Or.inr ?_) | (refine And.intro (Ob.mk (flat_of rfl)) ?_) | (with_reducible refine And.intro (Ob.mk (Flat.map ?_)) ?_; exact fun _ => rfl) | (with_reducible first | exact Ob.mk (Flat.map fun _ => rfl) | refine And.intro ?_ ?_ | apply exG.mk | apply exGS.mk | exact Dd.nil) | (refine Dd.same _ ?_) | (refine Dd.dead _ ?_) | (with_reducible first | apply exQ.mk | apply exP.mk) | (refine EqP.mk rfl rfl) | (with_reducible apply exW.mk) | (refine EqW.mk rfl) | (with_reducible first | intro _ | refine Dn.mk ?_) | (refine exS.full (by first | rfl | (simp; done) | (simp; omega)) ?_) | (refine And.intro (Ob.mk ⟨rfl, rfl, by first | rfl | (simp; done) | (simp; omega)⟩) ?_) | (with_reducible refine exE.mapD ?_) | (refine exL.int ?_) | (with_reducible first | refine Up0.mk rfl ?_ | refine Up0i.mk rfl ?_ | refine Up1.mk rfl ?_ | refine Up1i.mk rfl ?_ | refine Up2.mk rfl ?_ | refine Up2i.mk rfl ?_) | (refine Col.mk rfl rfl rfl ?_) | (refine Coli.mk rfl rfl rfl rfl ?_) | (refine PCalls.mono (indexFunc74 _ _ _ p hp) ?_; rintro _ rfl))
  exact congrArg T.bool idxN_any
end Go.Proofs.Ytgladinljapmkaa.Am

/- Elements of lists that were turned at a place. -/
namespace Go.Proofs.Ytgladinljapmkaa.Am
open Go Go.Proofs
set_option maxRecDepth 10000
set_option maxHeartbeats 2000000
set_option linter.unusedVariables false
set_option linter.unusedSimpArgs false
theorem exE.setSameO {xs : List T} {i j : Nat} {y : T} {K : T → Prop} (hi : Ob (i = j ∧ j < xs.length)) (h : K y) : exE (xs.set i y) j K := by
  obtain ⟨rfl, h1⟩ := hi.out
  exact exE.setSame h1 h
end Go.Proofs.Ytgladinljapmkaa.Am

/- Loops: where blocks lead, by the program. -/
namespace Go.Proofs.Ytgladinljapmkaa.Am
open Go Go.Proofs
set_option maxRecDepth 10000
set_option maxHeartbeats 2000000
set_option linter.unusedVariables false
set_option linter.unusedSimpArgs false
theorem outsideL (xs : List T) (n : Int) : PCalls Try.prog 38 [.int .i64 n, .ptr [.sl 1 xs]] (fun r => r = .bool (!bel n xs.length)) := by
  refine PCalls.of_body ttOk Try.func38 rfl ?_
  repeat' ((conv => whnf); first | (with_reducible first | refine onBool_intro (fun _ => ?_) (fun _ => ?_) | refine And.intro (Ob.mk (Nat.le_of_ble_eq_true rfl)) ?_ | refine And.intro (Ob.mk rfl) ?_ | exact ⟨rfl, rfl⟩ | refine And.intro (Ob.mk (fun h => h)) ?_) | (with_reducible refine Or.inl (And.intro (Ob.mk (Flat.map ?_)) ?_); exact fun _ => rfl) | (refine Or.inl (And.intro (Ob.mk (flat_of rfl)) ?_)) | (refine Or.inl (And.intro (Ob.mk ⟨rfl, rfl, rfl, rfl⟩) ?_)) | (refine Or.inl (And.intro (Ob.mk ⟨rfl, rfl, rfl⟩) ?_)) | (refine And.intro (Ob.mk ⟨rfl, rfl⟩) ?_) | (with_reducible refine Or.inr ?_) | (refine And.intro (Ob.mk (flat_of rfl)) ?_) | (with_reducible refine And.intro (Ob.mk (Flat.map ?_)) ?_; exact fun _ => rfl) | (with_reducible first | exact Ob.mk (Flat.map fun _ => rfl) | refine And.intro ?_ ?_ | apply exG.mk | apply exGS.mk | exact Dd.nil) | (refine Dd.same _ ?_) | (refine Dd.dead _ ?_) | (with_reducible first | apply exQ.mk | apply exP.mk) | (refine EqP.mk rfl rfl) | (with_reducible apply exW.mk) | (refine EqW.mk rfl) | (with_reducible first | intro _ | refine Dn.mk ?_) | (refine exS.full (by first | rfl | (simp; done) | (simp; omega)) ?_) | (refine And.intro (Ob.mk ⟨rfl, rfl, by first | rfl | (simp; done) | (simp; omega)⟩) ?_) | (with_reducible refine exE.mapD ?_) | (refine exL.int ?_) | (with_reducible first | refine Up0.mk rfl ?_ | refine Up0i.mk rfl ?_ | refine Up1.mk rfl ?_ | refine Up1i.mk rfl ?_ | refine Up2.mk rfl ?_ | refine Up2i.mk rfl ?_) | (refine Col.mk rfl rfl rfl ?_) | (refine Coli.mk rfl rfl rfl rfl ?_))
  all_goals (try (refine Ob.mk ?_; first | assumption | exact ⟨rfl, rfl⟩ | exact ⟨rfl, rfl, rfl⟩ | (refine ⟨rfl, rfl, ?_⟩; simp only [List.length_map, List.length_take, List.length_append, els_len, List.length_replicate]; omega) | (intro h; exact h) | (intro h; rw [h]; rfl) | (intro h; simp_all; done) | (refine bytes_le (n := 1048577) ?_ rfl; simp only [ltI_iff, ltI_not, leI_iff, leI_not, eqI_iff, eqI_not, List.length_map, bif_and, bif_or, Bool.and_eq_true, Bool.and_eq_false_iff, Bool.or_eq_true, Bool.or_eq_false_iff, Bool.not_eq_true', Bool.not_eq_false', Int.toNat_natCast, beq_iff_eq, beq_eq_false_iff_ne, decide_eq_true_eq, decide_eq_false_iff_not, bel_iff, bel_not, wthn_iff, wthn_not, els_len, mixL_len, Nat.zero_add, List.length_set, List.length_take] at *; omega) | (simp only [ltI_iff, ltI_not, leI_iff, leI_not, eqI_iff, eqI_not, List.length_map, bif_and, bif_or, Bool.and_eq_true, Bool.and_eq_false_iff, Bool.or_eq_true, Bool.or_eq_false_iff, Bool.not_eq_true', Bool.not_eq_false', Int.toNat_natCast, beq_iff_eq, beq_eq_false_iff_ne, decide_eq_true_eq, decide_eq_false_iff_not, bel_iff, bel_not, wthn_iff, wthn_not, els_len, mixL_len, Nat.zero_add, List.length_set, List.length_take, Int.ofNat_eq_natCast] at *; omega)))
  show T.bool _ = T.bool _
  congr 1
  rw [Bool.eq_iff_iff]
  simp only [bif_or, Bool.or_eq_true, ltI_iff, leI_iff, Bool.not_eq_true', bel_not]
  omega
theorem containsL (xs : List T) (l : List Int) {q : T → Prop} (hq : q (.bool (l.any fun n => !bel n xs.length))) : PCalls Try.prog 37 [ilist l, .fn 38 [.ptr [.sl 1 xs]]] q :=
  PCalls.mono (containsFunc54 l 38 [.sl 1 xs] (fun n => !bel n xs.length) (outsideL xs)) fun _ h => h ▸ hq
def partR (g : Graph) (i : Nat) : List T := (List.range g.blocks.length).map fun b => if b < i then ilist (nextN g (b : Int)) else .nsl
theorem partR_len {g : Graph} {i : Nat} : (partR g i).length = g.blocks.length := by unfold partR; simp
theorem partR_zero {g : Graph} : List.replicate g.blocks.length T.nsl = partR g 0 := by
  apply List.ext_getElem
  · simp [partR]
  · intro j h1 h2
    simp [partR]
theorem partR_full {g : Graph} : partR g g.blocks.length = nextR g g.blocks.length := by
  unfold partR nextR
  refine List.map_congr_left fun j hj => if_pos (List.mem_range.1 hj)
theorem partR_at {g : Graph} {i j : Nat} {K : T → Prop} (h : Ob (j = i ∧ i < g.blocks.length)) (hk : K .nsl) : exE (partR g i) j K := by
  obtain ⟨rfl, hl⟩ := h.out
  unfold partR
  refine exE.mapD ?_
  rw [nthD_range hl, if_neg (Nat.lt_irrefl _)]
  exact hk
theorem partR_set {g : Graph} {i : Nat} {y : T} (hi : i < g.blocks.length) (hy : y = ilist (nextN g (i : Int))) : (partR g i).set i y = partR g (i + 1) := by
  subst hy
  apply List.ext_getElem
  · simp [partR]
  · intro j h1 h2
    rw [List.getElem_set]
    simp only [partR, List.getElem_map, List.getElem_range]
    by_cases e : i = j
    · subst e; simp
    · rw [if_neg e]
      by_cases e2 : j < i
      · rw [if_pos e2, if_pos (by omega)]
      · rw [if_neg e2, if_neg (by omega)]
theorem next55k (g : Graph) (b : Int) (hg : g.tiny) (hw : ∀ b ∈ g.blocks, ∀ x ∈ allN b.fin, I64 x) {q : T → Prop} (hq : q (ilist (nextN g b))) : PCalls Try.prog 34 [g.t, .int .i64 b] q := by
  refine PCalls.mono (next55 g b hg fun x hx => ?_) fun _ h => h ▸ hq
  rcases nthD_cases g.blocks b.toNat with h | h
  · exact hw _ h x hx
  · rw [h] at hx; exact nomatch hx
abbrev edV (g : Graph) (xs : List T) : Sto := [gvar g, .dead, .var 36 [.osl 3 0 g.blocks.length], .row 22 1 xs]
theorem edgesL (g : Graph) (hg : g.tiny) (hw : ∀ b ∈ g.blocks, ∀ x ∈ allN b.fin, I64 x) : PCalls Try.prog 27 [g.t] (fun r => Ob ((g.leads ∧ r = .sl 1 (nextR g g.blocks.length)) ∨ (¬ g.leads ∧ r = .nsl))) := by
  refine PCalls.of_body ttOk Try.func27 rfl ?_
  repeat' ((conv => whnf); first | (with_reducible first | refine onBool_intro (fun _ => ?_) (fun _ => ?_) | refine And.intro (Ob.mk (Nat.le_of_ble_eq_true rfl)) ?_ | refine And.intro (Ob.mk rfl) ?_ | exact ⟨rfl, rfl⟩ | refine And.intro (Ob.mk (fun h => h)) ?_) | (with_reducible refine Or.inl (And.intro (Ob.mk (Flat.map ?_)) ?_); exact fun _ => rfl) | (refine Or.inl (And.intro (Ob.mk (flat_of rfl)) ?_)) | (refine Or.inl (And.intro (Ob.mk ⟨rfl, rfl, rfl, rfl⟩) ?_)) | (refine Or.inl (And.intro (Ob.mk ⟨rfl, rfl, rfl⟩) ?_)) | (refine And.intro (Ob.mk ⟨rfl, rfl⟩) ?_) | (with_reducible refine Or.inr ?_) | (refine And.intro (Ob.mk (flat_of rfl)) ?_) | (with_reducible refine And.intro (Ob.mk (Flat.map ?_)) ?_; exact fun _ => rfl) | (with_reducible first | exact Ob.mk (Flat.map fun _ => rfl) | refine And.intro ?_ ?_ | apply exG.mk | apply exGS.mk | exact Dd.nil) | (refine Dd.same _ ?_) | (refine Dd.dead _ ?_) | (with_reducible first | apply exQ.mk | apply exP.mk) | (refine EqP.mk rfl rfl) | (with_reducible apply exW.mk) | (refine EqW.mk rfl) | (with_reducible first | intro _ | refine Dn.mk ?_) | (refine exS.full (by first | rfl | (simp; done) | (simp; omega)) ?_) | (refine And.intro (Ob.mk ⟨rfl, rfl, by first | rfl | (simp; done) | (simp; omega)⟩) ?_) | (with_reducible refine exE.mapD ?_) | (refine exL.int ?_) | (with_reducible first | refine Up0.mk rfl ?_ | refine Up0i.mk rfl ?_ | refine Up1.mk rfl ?_ | refine Up1i.mk rfl ?_ | refine Up2.mk rfl ?_ | refine Up2i.mk rfl ?_) | (refine Col.mk rfl rfl rfl ?_) | (refine Coli.mk rfl rfl rfl rfl ?_))
  all_goals (try (refine Ob.mk ?_; first | assumption | exact ⟨rfl, rfl⟩ | exact ⟨rfl, rfl, rfl⟩ | (refine ⟨rfl, rfl, ?_⟩; simp only [List.length_map, List.length_take, List.length_append, els_len, List.length_replicate]; omega) | (intro h; exact h) | (intro h; rw [h]; rfl) | (intro h; simp_all; done) | (refine bytes_le (n := 1048577) ?_ rfl; simp only [ltI_iff, ltI_not, leI_iff, leI_not, eqI_iff, eqI_not, List.length_map, bif_and, bif_or, Bool.and_eq_true, Bool.and_eq_false_iff, Bool.or_eq_true, Bool.or_eq_false_iff, Bool.not_eq_true', Bool.not_eq_false', Int.toNat_natCast, beq_iff_eq, beq_eq_false_iff_ne, decide_eq_true_eq, decide_eq_false_iff_not, bel_iff, bel_not, wthn_iff, wthn_not, els_len, mixL_len, Nat.zero_add, List.length_set, List.length_take] at *; omega) | (simp only [ltI_iff, ltI_not, leI_iff, leI_not, eqI_iff, eqI_not, List.length_map, bif_and, bif_or, Bool.and_eq_true, Bool.and_eq_false_iff, Bool.or_eq_true, Bool.or_eq_false_iff, Bool.not_eq_true', Bool.not_eq_false', Int.toNat_natCast, beq_iff_eq, beq_eq_false_iff_ne, decide_eq_true_eq, decide_eq_false_iff_not, bel_iff, bel_not, wthn_iff, wthn_not, els_len, mixL_len, Nat.zero_add, List.length_set, List.length_take, Int.ofNat_eq_natCast] at *; omega)))
  · rename_i h1
    simp only [bif_or, Bool.or_eq_true, ltI_iff, List.length_map] at h1
    refine Ob.mk (.inr ⟨fun h => ?_, rfl⟩)
    have := h.one
    have := h.most
    omega
  · rename_i h1 _
    simp only [bif_or, Bool.or_eq_false_iff, ltI_not, List.length_map] at h1
    refine Ob.mk ?_
    show (_ : Int) * ((24 : Nat) : Int) ≤ _
    rw [List.length_map]
    omega
  · rename_i h1 _ _
    simp only [bif_or, Bool.or_eq_false_iff, ltI_not, List.length_map] at h1
    conv => whnf
    refine LoopVC.mk [21] [] (fun m vals σ => ∃ b : Nat, vals = [.t (.int .i64 b)] ∧ σ = edV g (partR g b) ∧ b ≤ g.blocks.length ∧ (∀ i : Nat, i < b → ∀ s ∈ nextN g i, bel s g.blocks.length = true) ∧ m = g.blocks.length - b) ?_ ?_
    · conv => whnf
      refine ⟨_, 0, rfl, ?_, Nat.zero_le _, fun i hi => absurd hi (Nat.not_lt_zero _), rfl⟩
      rw [List.length_map, Int.toNat_natCast]
      exact congrArg (edV g) partR_zero
    · rintro m vals σ ⟨b, rfl, rfl, hb, he, rfl⟩
      repeat' ((conv => whnf); first | (with_reducible first | refine onBool_intro (fun _ => ?_) (fun _ => ?_) | refine And.intro (Ob.mk (Nat.le_of_ble_eq_true rfl)) ?_ | refine And.intro (Ob.mk rfl) ?_ | exact ⟨rfl, rfl⟩ | refine And.intro (Ob.mk (fun h => h)) ?_) | (with_reducible refine Or.inl (And.intro (Ob.mk (Flat.map ?_)) ?_); exact fun _ => rfl) | (refine Or.inl (And.intro (Ob.mk (flat_of rfl)) ?_)) | (refine Or.inl (And.intro (Ob.mk ⟨rfl, rfl, rfl, rfl⟩) ?_)) | (refine Or.inl (And.intro (Ob.mk ⟨rfl, rfl, rfl⟩) ?_)) | (refine And.intro (Ob.mk ⟨rfl, rfl⟩) ?_) | (with_reducible refine Or.inr ?_) | (refine And.intro (Ob.mk (flat_of rfl)) ?_) | (with_reducible refine And.intro (Ob.mk (Flat.map ?_)) ?_; exact fun _ => rfl) | (with_reducible first | exact Ob.mk (Flat.map fun _ => rfl) | refine And.intro ?_ ?_ | apply exG.mk | apply exGS.mk | exact Dd.nil) | (refine Dd.same _ ?_) | (refine Dd.dead _ ?_) | (with_reducible first | apply exQ.mk | apply exP.mk) | (refine EqP.mk rfl rfl) | (with_reducible apply exW.mk) | (refine EqW.mk rfl) | (with_reducible first | intro _ | refine Dn.mk ?_) | (refine exS.full (by first | rfl | (simp; done) | (simp; omega)) ?_) | (refine And.intro (Ob.mk ⟨rfl, rfl, by first | rfl | (simp; done) | (simp; omega)⟩) ?_) | (with_reducible refine exE.mapD ?_) | (refine exL.int ?_) | (with_reducible first | refine Up0.mk rfl ?_ | refine Up0i.mk rfl ?_ | refine Up1.mk rfl ?_ | refine Up1i.mk rfl ?_ | refine Up2.mk rfl ?_ | refine Up2i.mk rfl ?_) | (refine Col.mk rfl rfl rfl ?_) | (refine Coli.mk rfl rfl rfl rfl ?_) | (refine drawVC.mkM _ _ 7 7 [(6, [])] [[], [], [], [], [2, 3], [0, 1, 2, 3, 4], [0, 1, 2, 3, 4, 5]] rfl (by kernel_rfl) ?_) | (refine next55k _ _ hg hw ?_) | (refine partR_at ?_ ?_) | (refine exE.setSameO ?_ ?_) | (refine exS.full (by rw [List.length_set, partR_len]) ?_) | (refine exS.full partR_len.symm ?_) | (refine containsL _ _ ?_))
      all_goals (try (refine Ob.mk ?_; first | assumption | exact ⟨rfl, rfl⟩ | exact ⟨rfl, rfl, rfl⟩ | (refine ⟨rfl, rfl, ?_⟩; simp only [List.length_map, List.length_take, List.length_append, els_len, List.length_replicate]; omega) | (intro h; exact h) | (intro h; rw [h]; rfl) | (intro h; simp_all; done) | (refine bytes_le (n := 1048577) ?_ rfl; simp only [ltI_iff, ltI_not, leI_iff, leI_not, eqI_iff, eqI_not, List.length_map, bif_and, bif_or, Bool.and_eq_true, Bool.and_eq_false_iff, Bool.or_eq_true, Bool.or_eq_false_iff, Bool.not_eq_true', Bool.not_eq_false', Int.toNat_natCast, beq_iff_eq, beq_eq_false_iff_ne, decide_eq_true_eq, decide_eq_false_iff_not, bel_iff, bel_not, wthn_iff, wthn_not, els_len, mixL_len, Nat.zero_add, List.length_set, List.length_take] at *; omega) | (simp only [ltI_iff, ltI_not, leI_iff, leI_not, eqI_iff, eqI_not, List.length_map, bif_and, bif_or, Bool.and_eq_true, Bool.and_eq_false_iff, Bool.or_eq_true, Bool.or_eq_false_iff, Bool.not_eq_true', Bool.not_eq_false', Int.toNat_natCast, beq_iff_eq, beq_eq_false_iff_ne, decide_eq_true_eq, decide_eq_false_iff_not, bel_iff, bel_not, wthn_iff, wthn_not, els_len, mixL_len, Nat.zero_add, List.length_set, List.length_take, Int.ofNat_eq_natCast] at *; omega)))
      all_goals (try have h3 : b < g.blocks.length := by (rename_i h3; rw [ltI_iff, List.length_map] at h3; omega))
      · exact Ob.mk (by rw [partR_len]; omega)
      · exact Ob.mk ⟨by omega, h3⟩
      · exact Ob.mk (by rw [List.length_set, partR_len]; omega)
      · exact Ob.mk ⟨rfl, by rw [partR_len]; omega⟩
      · rename_i h4 h5
        have h3 : b < g.blocks.length := by rw [ltI_iff, List.length_map] at h4; omega
        rw [List.length_set, partR_len, List.any_eq_true] at h5
        obtain ⟨s, hs, h6⟩ := h5
        refine Ob.mk (.inr ⟨fun h => ?_, rfl⟩)
        rw [h.next b h3 s hs] at h6
        cases h6
      · rename_i h4 h5
        have h3 : b < g.blocks.length := by rw [ltI_iff, List.length_map] at h4; omega
        rw [List.length_set, partR_len, List.any_eq_false] at h5
        conv => whnf
        refine ⟨g.blocks.length - (b + 1), by omega, b + 1, ?_, ?_, by omega, fun i hi s hs => ?_, rfl⟩
        · rw [addI_i64 (by omega) (by omega)]; rfl
        · rw [List.length_map, Int.toNat_natCast, Nat.zero_add]
          exact congrArg (edV g) (partR_set h3 rfl)
        · rcases Nat.lt_or_ge i b with h | h
          · exact he i h s hs
          · rw [show i = b by omega] at hs
            have := h5 s hs
            simpa using this
      · rename_i h4
        have h4 : b = g.blocks.length := by rw [ltI_not, List.length_map] at h4; omega
        subst h4
        refine Ob.mk (.inl ⟨⟨by omega, by omega, he⟩, ?_⟩)
        rw [partR_full]
end Go.Proofs.Ytgladinljapmkaa.Am

/- Dominators by numbers: the theory of the walk up a tree (no program here). -/
namespace Go.Proofs.Ytgladinljapmkaa.Am
set_option linter.unusedVariables false
inductive RA (e : Nat → Nat → Prop) (p : Nat → Prop) : Nat → Prop
  | base : p 0 → RA e p 0
  | step {a b : Nat} : RA e p a → e a b → p b → RA e p b
abbrev Rch (e : Nat → Nat → Prop) (b : Nat) : Prop := RA e (fun _ => True) b
def Dom (e : Nat → Nat → Prop) (a b : Nat) : Prop := Rch e b ∧ ¬ RA e (fun x => x ≠ a) b
theorem RA.mono {e : Nat → Nat → Prop} {p q : Nat → Prop} (h : ∀ x, p x → q x) {b : Nat} (r : RA e p b) : RA e q b := by
  induction r with
  | base h0 => exact .base (h _ h0)
  | step _ he hb ih => exact .step ih he (h _ hb)
theorem RA.ok {e : Nat → Nat → Prop} {p : Nat → Prop} {b : Nat} (r : RA e p b) : p b := by
  cases r with
  | base h => exact h
  | step _ _ h => exact h
theorem RA.rch {e : Nat → Nat → Prop} {p : Nat → Prop} {b : Nat} (r : RA e p b) : Rch e b := r.mono fun _ _ => trivial
theorem Dom.refl {e : Nat → Nat → Prop} {b : Nat} (h : Rch e b) : Dom e b b := ⟨h, fun r => r.ok rfl⟩
theorem Dom.zero {e : Nat → Nat → Prop} {b : Nat} (h : Rch e b) : Dom e 0 b := by
  refine ⟨h, fun r => ?_⟩
  have : ∀ {b}, RA e (fun x => x ≠ 0) b → False := by
    intro b r
    induction r with
    | base h => exact h rfl
    | step _ _ _ ih => exact ih
  exact this r
theorem Dom.pred {e : Nat → Nat → Prop} {a b p : Nat} (h : Dom e a b) (hab : a ≠ b) (hp : Rch e p) (he : e p b) : Dom e a p :=
  ⟨hp, fun r => h.2 (.step r he fun e => hab e.symm)⟩
theorem Dom.one {e : Nat → Nat → Prop} {a : Nat} (h : Dom e a 0) : a = 0 := by
  refine Classical.byContradiction fun hn => h.2 (.base fun e => hn e.symm)
theorem Dom.left {e : Nat → Nat → Prop} {a b : Nat} (h : Dom e a b) : Rch e a := by
  refine Classical.byContradiction fun hn => h.2 ?_
  have : ∀ {b}, Rch e b → RA e (fun x => x ≠ a) b := by
    intro b r
    induction r with
    | base _ => exact .base fun e0 => hn (e0 ▸ .base trivial)
    | step r he _ ih => exact .step ih he fun e0 => hn (e0 ▸ .step r he trivial)
  exact this h.1
inductive Up (ov : Nat → Nat) (z : Nat) : Nat → Prop
  | refl : Up ov z z
  | step {b : Nat} : b ≠ 0 → Up ov z (ov b) → Up ov z b
theorem Up.trans {ov : Nat → Nat} {x y z : Nat} (h1 : Up ov x y) (h2 : Up ov y z) : Up ov x z := by
  induction h2 with
  | refl => exact h1
  | step hb _ ih => exact .step hb ih
theorem Up.over {ov : Nat → Nat} {z b : Nat} (h : Up ov z b) (hz : z ≠ b) : b ≠ 0 ∧ Up ov z (ov b) := by
  cases h with
  | refl => exact absurd rfl hz
  | step h1 h2 => exact ⟨h1, h2⟩
theorem Up.zero {ov : Nat → Nat} {z : Nat} (h : Up ov z 0) : z = 0 := by
  refine Classical.byContradiction fun hn => (h.over hn).1 rfl
inductive Low (e : Nat → Nat → Prop) (num : Nat → Nat) (y : Nat) : Nat → Prop
  | edge {x : Nat} : e y x → Low e num y x
  | step {w x : Nat} : Low e num y w → num w < num y → e w x → Low e num y x
theorem Low.trans {e : Nat → Nat → Prop} {num : Nat → Nat} {y x z : Nat} (h1 : Low e num y x) (h : num x < num y) (h2 : Low e num x z) : Low e num y z := by
  induction h2 with
  | edge he => exact .step h1 h he
  | step _ hw he ih => exact .step ih (Nat.lt_trans hw h) he
theorem Low.avoid {e : Nat → Nat → Prop} {num : Nat → Nat} {y x a : Nat} (h : Low e num y x) (ha : num y < num a) (hx : x ≠ a) (r : RA e (fun u => u ≠ a) y) : RA e (fun u => u ≠ a) x := by
  induction h with
  | edge he => exact .step r he hx
  | step _ hw he ih => exact .step (ih fun e0 => by subst e0; omega) he hx
structure Nums (e : Nat → Nat → Prop) (num par : Nat → Nat) : Prop where
  inj : ∀ a b, Rch e a → Rch e b → num a = num b → a = b
  top : ∀ b, Rch e b → num b ≤ num 0
  par : ∀ b, Rch e b → b ≠ 0 → Rch e (par b) ∧ e (par b) b ∧ num b < num (par b)
structure Tree (e : Nat → Nat → Prop) (num par : Nat → Nat) (S : Nat → Prop) (ov : Nat → Nat) : Prop where
  rch : ∀ b, S b → Rch e b
  zero : S 0
  set : ∀ b, S b → b ≠ 0 → S (ov b) ∧ num b < num (ov b)
  low : ∀ b, S b → b ≠ 0 → Low e num (ov b) b
  dom : ∀ a b, S b → Dom e a b → Up ov a b
variable {e : Nat → Nat → Prop} {num par : Nat → Nat} {S : Nat → Prop} {ov : Nat → Nat}
theorem Tree.up_set (t : Tree e num par S ov) {z b : Nat} (h : Up ov z b) (hb : S b) : S z ∧ num b ≤ num z ∧ (z ≠ b → num b < num z) := by
  induction h with
  | refl => exact ⟨hb, Nat.le_refl _, fun h => absurd rfl h⟩
  | step h0 _ ih =>
    have h1 := t.set _ hb h0
    have := ih h1.1
    exact ⟨this.1, by omega, fun _ => by omega⟩
theorem Tree.up_low (t : Tree e num par S ov) {y p : Nat} (h : Up ov y p) (hp : S p) : y = p ∨ (Low e num y p ∧ num p < num y) := by
  induction h with
  | refl => exact .inl rfl
  | @step b h0 hu ih =>
    right
    have h1 := t.set _ hp h0
    have h2 := t.low _ hp h0
    rcases ih h1.1 with rfl | ⟨h3, h4⟩
    · exact ⟨h2, h1.2⟩
    · exact ⟨h3.trans h4 h2, by omega⟩
theorem Up.comp {ov : Nat → Nat} {x y b : Nat} (h1 : Up ov x b) (h2 : Up ov y b) : Up ov x y ∨ Up ov y x := by
  induction h1 with
  | refl => exact .inr h2
  | step h0 h3 ih =>
    cases h2 with
    | refl => exact .inl (.step h0 h3)
    | step _ h4 => exact ih h4
theorem Tree.up_above (t : Tree e num par S ov) {ov' : Nat → Nat} {v : Nat} (hv : ∀ b, b ≠ v → ov' b = ov b) {z x : Nat} (hx : S x) (hn : num v < num x) : Up ov z x → Up ov' z x := by
  intro h
  induction h with
  | refl => exact .refl
  | @step b h0 _ ih =>
    have h1 := t.set _ hx h0
    refine .step h0 ?_
    rw [hv b fun e0 => by subst e0; omega]
    exact ih h1.1 (by omega)
theorem Tree.up_below (t : Tree e num par S ov) {ov' : Nat → Nat} {v : Nat} (hv : ∀ b, b ≠ v → ov' b = ov b) {z x : Nat} (hx : S x) (hn : num v < num x) : Up ov' z x → Up ov z x := by
  intro h
  induction h with
  | refl => exact .refl
  | @step b h0 _ ih =>
    have h1 := t.set _ hx h0
    rw [hv b fun e0 => by subst e0; omega] at ih
    exact .step h0 (ih h1.1 (by omega))
theorem up_seg {ov ov' : Nat → Nat} {v : Nat} (hv : ∀ b, b ≠ v → ov' b = ov b) {z c : Nat} (h : Up ov z c) : Up ov' z c ∨ (Up ov v c ∧ Up ov' v c ∧ Up ov z v ∧ z ≠ v) := by
  induction h with
  | refl => exact .inl .refl
  | @step b h0 hu ih =>
    by_cases hb : b = v
    · subst hb
      by_cases hz : z = b
      · subst hz; exact .inl .refl
      · exact .inr ⟨.refl, .refl, .step h0 hu, hz⟩
    · rcases ih with h1 | ⟨h1, h2, h3, h4⟩
      · left
        refine .step h0 ?_
        rw [hv b hb]; exact h1
      · right
        refine ⟨.step h0 h1, .step h0 ?_, h3, h4⟩
        rw [hv b hb]; exact h2
structure Best (e : Nat → Nat → Prop) (S : Nat → Prop) (ov : Nat → Nat) (v m : Nat) : Prop where
  set : S m
  all : ∀ z, Up ov z m ↔ ∀ p, S p → e p v → Up ov z p
theorem Tree.turn (hN : Nums e num par) (t : Tree e num par S ov) {v m : Nat} (hv : Rch e v) (h0 : v ≠ 0) (hp : S (par v)) (hm : Best e S ov v m) (ov' : Nat → Nat) (ho : ∀ b, b ≠ v → ov' b = ov b) (hov : ov' v = m)
    (hnew : ¬ S v → ∀ b, S b → ¬ Up ov v b) : Tree e num par (fun b => S b ∨ b = v) ov' := by
  obtain ⟨q1, q2, q3⟩ := hN.par v hv h0
  have hmp : Up ov m (par v) := (hm.all m).1 .refl _ hp q2
  have hmn : num v < num m := by have := (t.up_set hmp hp).2.1; omega
  have hlow : Low e num m v := by
    rcases t.up_low hmp hp with rfl | ⟨h1, h2⟩
    · exact .edge q2
    · exact .step h1 h2 q2
  have hS : ∀ b, S b → b ≠ v → b ≠ 0 → S (ov' b) ∧ num b < num (ov' b) := fun b hb hbv hb0 => by rw [ho b hbv]; exact t.set b hb hb0
  have hdv : ∀ a, Dom e a v → Up ov' a v := by
    intro a ha
    by_cases e0 : a = v
    · subst e0; exact .refl
    · refine .step h0 ?_
      rw [hov]
      refine t.up_above ho hm.set hmn ((hm.all a).2 fun p hp he => t.dom a p hp (ha.pred e0 (t.rch p hp) he))
  refine ⟨?_, .inl t.zero, ?_, ?_, ?_⟩
  · rintro b (hb | rfl)
    · exact t.rch b hb
    · exact hv
  · rintro b hb hb0
    by_cases hbv : b = v
    · subst hbv; rw [hov]; exact ⟨.inl hm.set, hmn⟩
    · rcases hb with hb | hb
      · have := hS b hb hbv hb0
        exact ⟨.inl this.1, this.2⟩
      · exact absurd hb hbv
  · rintro b hb hb0
    by_cases hbv : b = v
    · subst hbv; rw [hov]; exact hlow
    · rcases hb with hb | hb
      · rw [ho b hbv]; exact t.low b hb hb0
      · exact absurd hb hbv
  · rintro a b hb ha
    by_cases hbv : b = v
    · subst hbv; exact hdv a ha
    · rcases hb with hb | hb
      · rcases up_seg ho (t.dom a b hb ha) with h1 | ⟨h1, h2, h3, h4⟩
        · exact h1
        · have hsv : S v := (t.up_set h1 hb).1
          refine Up.trans (hdv a ⟨hv, fun r => ha.2 ?_⟩) h2
          have hva : num v < num a := (t.up_set h3 hsv).2.2 h4
          rcases t.up_low h1 hb with e1 | ⟨h5, h6⟩
          · exact absurd e1.symm hbv
          · exact h5.avoid hva (fun e1 => by subst e1; omega) r
      · exact absurd hb hbv
structure Round (e : Nat → Nat → Prop) (num par : Nat → Nat) (S : Nat → Prop) (ov : Nat → Nat) (k : Nat) : Prop extends Tree e num par S ov where
  near : ∀ b z, S b → b ≠ 0 → (∀ p, S p → e p b → Up ov z p) → Up ov z (ov b)
  more : ∀ b x, S b → b ≠ 0 → num b < k → num b < num x → num x < k → Up ov x (ov b) → Up ov x (par b)
  done : ∀ b x, S b → b ≠ 0 → k ≤ num b → Up ov x (ov b) → Up ov x (par b)
  big : ∀ b, Rch e b → k ≤ num b → S b
  par : ∀ b, S b → b ≠ 0 → S (par b)
theorem Round.first (hN : Nums e num par) {k v m : Nat} (t : Round e num par S ov k) (hk : k = num v + 1) (hv : Rch e v) (h0 : v ≠ 0) (hs : ¬ S v) (hm : Best e S ov v m) (ov' : Nat → Nat) (ho : ∀ b, b ≠ v → ov' b = ov b) (hov : ov' v = m) :
    Round e num par (fun b => S b ∨ b = v) ov' (num v) := by
  obtain ⟨q1, q2, q3⟩ := hN.par v hv h0
  have hp : S (par v) := t.big _ q1 (by omega)
  have hnew : ∀ b, S b → ¬ Up ov v b := fun b hb h => hs (t.up_set h hb).1
  have hsame : ∀ {z c}, S c → Up ov z c → Up ov' z c := fun {z c} hc h => by
    rcases up_seg ho h with h1 | ⟨h1, _⟩
    · exact h1
    · exact absurd h1 (hnew c hc)
  have hback : ∀ {z c}, S c → Up ov' z c → Up ov z c := fun {z c} hc h => by
    rcases up_seg (fun b hb => (ho b hb).symm) h with h1 | ⟨h1, h2, _⟩
    · exact h1
    · exact absurd h2 (hnew c hc)
  have tt := t.toTree.turn hN hv h0 hp hm ov' ho hov fun _ => hnew
  refine ⟨tt, ?_, ?_, ?_, ?_, ?_⟩
  · intro b z hb hb0 h
    by_cases hbv : b = v
    · subst hbv
      rw [hov]
      exact hsame hm.set ((hm.all z).2 fun p hp he => hback hp (h p (.inl hp) he))
    · rcases hb with hb | hb
      · rw [ho b hbv]
        exact hsame (t.set b hb hb0).1 (t.near b z hb hb0 fun p hp he => hback hp (h p (.inl hp) he))
      · exact absurd hb hbv
  · intro b x hb hb0 hbk hx hxk h
    rcases hb with hb | hb
    · have hbv : b ≠ v := fun e0 => hs (e0 ▸ hb)
      rw [ho b hbv] at h
      exact hsame (t.par b hb hb0) (t.more b x hb hb0 (by omega) hx (by omega) (hback (t.set b hb hb0).1 h))
    · subst hb; omega
  · intro b x hb hb0 hbk h
    by_cases hbv : b = v
    · subst hbv
      rw [hov] at h
      exact hsame hp ((hm.all x).1 (hback hm.set h) _ hp q2)
    · rcases hb with hb | hb
      · rw [ho b hbv] at h
        have hne : num b ≠ num v := fun e0 => hbv (hN.inj b v (t.rch b hb) hv e0)
        exact hsame (t.par b hb hb0) (t.done b x hb hb0 (by omega) (hback (t.set b hb hb0).1 h))
      · exact absurd hb hbv
  · intro b hb hbk
    by_cases hbv : b = v
    · exact .inr hbv
    · have hne : num b ≠ num v := fun e0 => hbv (hN.inj b v hb hv e0)
      exact .inl (t.big b hb (by omega))
  · intro b hb hb0
    rcases hb with hb | rfl
    · exact .inl (t.par b hb hb0)
    · exact .inl hp
theorem Round.again (hN : Nums e num par) {k v m : Nat} (t : Round e num par S ov k) (hk : k = num v + 1) (h0 : v ≠ 0) (hs : S v) (hm : Best e S ov v m) (ov' : Nat → Nat) (ho : ∀ b, b ≠ v → ov' b = ov b) (hov : ov' v = m) :
    Round e num par S ov' (num v) ∧ num (ov v) ≤ num m ∧ (m ≠ ov v → num (ov v) < num m) := by
  have hv := t.rch v hs
  obtain ⟨q1, q2, q3⟩ := hN.par v hv h0
  have hp : S (par v) := t.par v hs h0
  have hmo : Up ov m (ov v) := t.near v m hs h0 fun p hp he => (hm.all m).1 .refl p hp he
  have hov1 := t.set v hs h0
  have hmn := t.up_set hmo hov1.1
  have hvm : num v < num m := by omega
  have hback : ∀ {z c}, S c → Up ov' z c → Up ov z c := fun {z c} hc h => by
    rcases up_seg (fun b hb => (ho b hb).symm) h with h1 | ⟨h1, h2, h3, h4⟩
    · exact h1
    · have h5 := (h3.over h4).2
      rw [hov] at h5
      exact (((t.up_below ho hm.set hvm h5).trans hmo).step h0).trans h2
  have tt : Tree e num par S ov' := by
    have := t.toTree.turn hN hv h0 hp hm ov' ho hov fun h => absurd hs h
    have e1 : (fun b => S b ∨ b = v) = S := by
      funext b
      exact propext ⟨fun h => h.elim id fun h => h ▸ hs, .inl⟩
    rwa [e1] at this
  refine ⟨⟨tt, ?_, ?_, ?_, ?_, t.par⟩, hmn.2.1, fun h => hmn.2.2 h⟩
  · intro b z hb hb0 h
    by_cases hbv : b = v
    · subst hbv
      rw [hov]
      exact t.up_above ho hm.set hvm ((hm.all z).2 fun p hp he => hback hp (h p hp he))
    · rw [ho b hbv]
      have h1 := t.near b z hb hb0 fun p hp he => hback hp (h p hp he)
      have h2 := t.set b hb hb0
      rcases up_seg ho h1 with h3 | ⟨h3, h4, h5, h6⟩
      · exact h3
      · have h7 := (t.up_set h3 h2.1).2.1
        have h8 := t.more b v hb hb0 (by omega) (by omega) (by omega) h3
        have hpb := t.par b hb hb0
        have h9 : Up ov' v (par b) := by
          rcases up_seg ho h8 with h9 | ⟨_, _, _, h9⟩
          · exact h9
          · exact absurd rfl h9
        have hz := h (par b) hpb (hN.par b (t.rch b hb) hb0).2.1
        have hzv := (t.up_set h5 hs).2.2 h6
        rcases Up.comp hz h9 with h10 | h10
        · exact h10.trans h4
        · have hzS := (t.up_set h5 hs).1
          have := (tt.up_set h10 hzS).2.1
          omega
  · intro b x hb hb0 hbk hx hxk h
    have hbv : b ≠ v := fun e0 => by subst e0; omega
    rw [ho b hbv] at h
    have h1 := t.more b x hb hb0 (by omega) hx (by omega) (hback (t.set b hb hb0).1 h)
    rcases up_seg ho h1 with h2 | ⟨_, _, h3, h4⟩
    · exact h2
    · have := (t.up_set h3 hs).2.2 h4
      omega
  · intro b x hb hb0 hbk h
    have hpb := t.par b hb hb0
    have hpn := (hN.par b (t.rch b hb) hb0).2.2
    by_cases hbv : b = v
    · subst hbv
      rw [hov] at h
      exact t.up_above ho hpb (by omega) ((hm.all x).1 (t.up_below ho hm.set hvm h) _ hpb q2)
    · rw [ho b hbv] at h
      have h2 := t.set b hb hb0
      have hne : num b ≠ num v := fun e0 => hbv (hN.inj b v (t.rch b hb) hv e0)
      exact t.up_above ho hpb (by omega) (t.done b x hb hb0 (by omega) (t.up_below ho h2.1 (by omega) h))
  · intro b hb hbk
    by_cases hbv : b = v
    · exact hbv ▸ hs
    · have hne : num b ≠ num v := fun e0 => hbv (hN.inj b v hb hv e0)
      exact t.big b hb (by omega)
theorem Round.next (t : Round e num par S ov 0) (k : Nat) (hall : ∀ b, Rch e b → S b) (hk : ∀ b, Rch e b → b ≠ 0 → num b < k) : Round e num par S ov k :=
  ⟨t.toTree, t.near, fun b x hb hb0 _ _ _ h => t.done b x hb hb0 (Nat.zero_le _) h, fun b x hb hb0 hbk _ => absurd (hk b (t.rch b hb) hb0) (by omega), fun b hb _ => hall b hb, t.par⟩
theorem Tree.last (t : Tree e num par S ov) (hall : ∀ b, Rch e b → S b) (hb : ∀ b, Rch e b → b ≠ 0 → Best e S ov b (ov b)) {a b : Nat} (h : Rch e b) : Up ov a b ↔ Dom e a b := by
  refine ⟨fun hu => ⟨h, fun r => ?_⟩, t.dom a b (hall b h)⟩
  clear h
  have : ∀ {b}, RA e (fun x => x ≠ a) b → ¬ Up ov a b := by
    intro b r
    induction r with
    | base h0 => exact fun h => h0 h.zero.symm
    | @step p b r he hba ih =>
      intro h
      obtain ⟨h1, h2⟩ := h.over fun e0 => hba e0.symm
      exact ih (((hb b (.step r.rch he trivial) h1).all a).1 h2 p (hall p r.rch) he)
  exact this r hu
end Go.Proofs.Ytgladinljapmkaa.Am

/- Loops: blocks numbered as they are left (no program here). -/
namespace Go.Proofs.Ytgladinljapmkaa.Am
open Go Go.Proofs
set_option maxRecDepth 10000
set_option maxHeartbeats 2000000
set_option linter.unusedVariables false
set_option linter.unusedSimpArgs false
def EdgeL (to : List (List Int)) (a b : Nat) : Prop := a < to.length ∧ (b : Int) ∈ nthD to a
structure WalkL (to : List (List Int)) : Prop where
  one : 1 ≤ to.length
  rng : ∀ a, a < to.length → ∀ s ∈ nthD to a, 0 ≤ s ∧ s < to.length
theorem WalkL.edge {to : List (List Int)} (h : WalkL to) {a b : Nat} (e : EdgeL to a b) : b < to.length := by
  have := h.rng a e.1 _ e.2
  omega
theorem WalkL.rch {to : List (List Int)} (h : WalkL to) {b : Nat} (r : Rch (EdgeL to) b) : b < to.length := by
  cases r with
  | base _ => exact h.one
  | step _ e _ => exact h.edge e
structure Dfs (to : List (List Int)) (o : List Nat) (st : List (Nat × Nat)) (f : Nat → Bool) : Prop where
  lt : ∀ b ∈ o ++ st.map (·.1), b < to.length
  met : ∀ b, b < to.length → (f b = true ↔ b ∈ o ++ st.map (·.1))
  nodup : (o ++ st.map (·.1)).Nodup
  rch : ∀ b ∈ o ++ st.map (·.1), Rch (EdgeL to) b
  done : ∀ b ∈ o, ∀ c, EdgeL to b c → f c = true
  some : ∀ p ∈ st, p.2 ≤ (nthD to p.1).length ∧ ∀ j, j < p.2 → f (nthD (nthD to p.1) j).toNat = true
  par : ∀ b ∈ o ++ st.map (·.1), b ≠ 0 → ∃ p, EdgeL to p b ∧ [b, p].Sublist (o ++ st.map (·.1))
  last : (o ++ st.map (·.1)).getLast? = .some 0
variable {to : List (List Int)} {o : List Nat} {st : List (Nat × Nat)} {f : Nat → Bool} {s k c : Nat}
theorem Dfs.init (h : WalkL to) (hf : ∀ b, f b = true ↔ b = 0) : Dfs to [] [(0, 0)] f where
  lt := by have := h.one; simp; omega
  met := fun b _ => by rw [hf]; simp
  nodup := by simp
  rch := fun b hb => by simp at hb; subst hb; exact .base trivial
  done := fun b hb => by cases hb
  some := fun p hp => by
    simp at hp
    subst hp
    exact ⟨Nat.zero_le _, fun j hj => absurd hj (Nat.not_lt_zero _)⟩
  par := fun b hb h0 => by simp at hb; exact absurd hb h0
  last := rfl
theorem Dfs.pop (hw : WalkL to) (h : Dfs to o ((s, k) :: st) f) (hk : k = (nthD to s).length) : Dfs to (o ++ [s]) st f := by
  have e : o ++ ((s, k) :: st).map (·.1) = (o ++ [s]) ++ st.map (·.1) := by simp
  have h1 := h.lt; have h2 := h.met; have h3 := h.nodup; have h4 := h.rch; have h5 := h.par; have h6 := h.last
  rw [e] at h1 h3 h4 h5 h6
  simp only [e] at h2
  refine ⟨h1, h2, h3, h4, fun b hb c hc => ?_, fun p hp => h.some p (by simp [hp]), h5, h6⟩
  rcases List.mem_append.1 hb with hb | hb
  · exact h.done b hb c hc
  · rw [List.mem_singleton] at hb
    subst hb
    obtain ⟨j, hj, e2⟩ := List.mem_iff_getElem.1 hc.2
    have h7 := (h.some (b, k) (by simp)).2 j (by show j < k; omega)
    have h8 : nthD (nthD to (b, k).1) j = (c : Int) := by
      show nthD (nthD to b) j = _
      rw [nthD_get hj, e2]
    rw [h8, Int.toNat_natCast] at h7
    exact h7
theorem Dfs.adv (h : Dfs to o ((s, k) :: st) f) (hk : k < (nthD to s).length) (hc : f (nthD (nthD to s) k).toNat = true) : Dfs to o ((s, k + 1) :: st) f := by
  refine ⟨h.lt, h.met, h.nodup, h.rch, h.done, fun p hp => ?_, h.par, h.last⟩
  rcases List.mem_cons.1 hp with rfl | hp
  · have := h.some (s, k) (by simp)
    refine ⟨hk, fun j hj => ?_⟩
    rcases Nat.lt_or_ge j k with h1 | h1
    · exact this.2 j h1
    · rw [show j = k by omega]; exact hc
  · exact h.some p (by simp [hp])
theorem Dfs.push (hw : WalkL to) (h : Dfs to o ((s, k) :: st) f) (hk : k < (nthD to s).length) (hc : c = (nthD (nthD to s) k).toNat) (hn : f c = false) :
    Dfs to o ((c, 0) :: (s, k + 1) :: st) (fun b => if b = c then true else f b) := by
  have hs : s < to.length := h.lt s (by simp)
  have hr := hw.rng s hs _ (nthD_mem hk)
  have he : EdgeL to s c := ⟨hs, by rw [hc, Int.toNat_of_nonneg hr.1]; exact nthD_mem hk⟩
  have hcl := hw.edge he
  have hnot : c ∉ o ++ ((s, k) :: st).map (·.1) := fun hm => by
    have := (h.met c hcl).2 hm
    rw [hn] at this; cases this
  have em : ∀ b, b ∈ o ++ ((c, 0) :: (s, k + 1) :: st).map (·.1) ↔ b = c ∨ b ∈ o ++ ((s, k) :: st).map (·.1) := fun b => by
    simp only [List.map_cons, List.mem_append, List.mem_cons]
    constructor
    · rintro (h | h | h | h)
      · exact .inr (.inl h)
      · exact .inl h
      · exact .inr (.inr (.inl h))
      · exact .inr (.inr (.inr h))
    · rintro (h | h | h | h)
      · exact .inr (.inl h)
      · exact .inl h
      · exact .inr (.inr (.inl h))
      · exact .inr (.inr (.inr h))
  have hsub : (o ++ ((s, k) :: st).map (·.1)).Sublist (o ++ ((c, 0) :: (s, k + 1) :: st).map (·.1)) := by
    refine List.Sublist.append (List.Sublist.refl _) ?_
    simp only [List.map_cons]
    exact List.Sublist.cons _ (List.Sublist.refl _)
  have hf : ∀ b, f b = true → (if b = c then true else f b) = true := fun b hb => by split; rfl; exact hb
  refine ⟨fun b hb => ?_, fun b hb => ?_, ?_, fun b hb => ?_, fun b hb d hd => hf d (h.done b hb d hd), fun p hp => ?_, fun b hb h0 => ?_, ?_⟩
  · rcases (em b).1 hb with rfl | hb
    · exact hcl
    · exact h.lt b hb
  · rw [em]
    by_cases e : b = c
    · simp [e]
    · rw [if_neg e, h.met b hb]
      simp [e]
  · have h1 := h.nodup
    simp only [List.map_cons] at h1 hnot ⊢
    rw [List.nodup_append] at h1 ⊢
    refine ⟨h1.1, ?_, fun a ha b hb => ?_⟩
    · rw [List.nodup_cons]
      exact ⟨fun hm => hnot (List.mem_append_right _ hm), h1.2.1⟩
    · rcases List.mem_cons.1 hb with rfl | hb
      · exact fun e => hnot (List.mem_append_left _ (e ▸ ha))
      · exact h1.2.2 a ha b hb
  · rcases (em b).1 hb with rfl | hb
    · exact .step (h.rch s (by simp)) he trivial
    · exact h.rch b hb
  · rcases List.mem_cons.1 hp with rfl | hp
    · exact ⟨Nat.zero_le _, fun j hj => absurd hj (Nat.not_lt_zero _)⟩
    · rcases List.mem_cons.1 hp with rfl | hp
      · have := h.some (s, k) (by simp)
        refine ⟨hk, fun j hj => ?_⟩
        rcases Nat.lt_or_ge j k with h1 | h1
        · exact hf _ (this.2 j h1)
        · have hj : j = k := by omega
          subst hj
          show (if (nthD (nthD to s) j).toNat = c then true else _) = true
          rw [if_pos hc.symm]
      · have := h.some p (by simp [hp])
        exact ⟨this.1, fun j hj => hf _ (this.2 j hj)⟩
  · rcases (em b).1 hb with rfl | hb
    · refine ⟨s, he, ?_⟩
      have : [b, s].Sublist (((b, 0) :: (s, k + 1) :: st).map (·.1)) := by
        simp only [List.map_cons]
        exact List.Sublist.cons_cons _ (List.Sublist.cons_cons _ (List.nil_sublist _))
      exact this.trans (List.sublist_append_right _ _)
    · obtain ⟨p, h1, h2⟩ := h.par b hb h0
      exact ⟨p, h1, h2.trans hsub⟩
  · have := h.last
    simp only [List.map_cons] at this ⊢
    rw [List.getLast?_append] at this ⊢
    rw [List.getLast?_cons_cons]
    exact this
def numL (o : List Nat) (b : Nat) : Nat := o.idxOf b
theorem numL_lt : ∀ {o : List Nat} {b p : Nat}, o.Nodup → [b, p].Sublist o → numL o b < numL o p
  | [], b, p, _, h => by cases h
  | x :: o, b, p, hn, h => by
    rw [List.nodup_cons] at hn
    cases h with
    | cons _ h =>
      have hb : b ∈ o := h.subset (by simp)
      have hp : p ∈ o := h.subset (by simp)
      have := numL_lt hn.2 h
      unfold numL at this ⊢
      rw [List.idxOf_cons, List.idxOf_cons]
      have e1 : (x == b) = false := by rw [beq_eq_false_iff_ne]; exact fun e => hn.1 (e ▸ hb)
      have e2 : (x == p) = false := by rw [beq_eq_false_iff_ne]; exact fun e => hn.1 (e ▸ hp)
      rw [e1, e2]
      simpa using this
    | cons_cons _ h =>
      have hp : p ∈ o := h.subset (by simp)
      unfold numL
      rw [List.idxOf_cons, List.idxOf_cons]
      have e2 : (x == p) = false := by rw [beq_eq_false_iff_ne]; exact fun e => hn.1 (e ▸ hp)
      rw [e2]
      simp
theorem numL_inj {o : List Nat} {a b : Nat} (ha : a ∈ o) (hb : b ∈ o) (e : numL o a = numL o b) : a = b := by
  unfold numL at e
  have h1 := List.getElem_idxOf (List.idxOf_lt_length_iff.2 ha)
  have h2 := List.getElem_idxOf (List.idxOf_lt_length_iff.2 hb)
  rw [← h1, ← h2]
  simp only [e]
structure Left (to : List (List Int)) (o : List Nat) : Prop where
  nodup : o.Nodup
  mem : ∀ b, b ∈ o ↔ Rch (EdgeL to) b
  last : o.getLast? = some 0
  nums : ∃ par, Nums (EdgeL to) (numL o) par
theorem Dfs.left (hw : WalkL to) (h : Dfs to o [] f) : Left to o := by
  have e : o ++ ([] : List (Nat × Nat)).map (·.1) = o := by simp
  have h1 := h.lt; have h2 := h.met; have h3 := h.nodup; have h4 := h.rch; have h5 := h.par; have h6 := h.last
  rw [e] at h1 h3 h4 h5 h6
  simp only [e] at h2
  have hm0 : (0 : Nat) ∈ o := List.mem_of_getLast? h6
  have hm : ∀ b, Rch (EdgeL to) b → b ∈ o := by
    intro b r
    induction r with
    | base _ => exact hm0
    | step r he _ ih => exact (h2 _ (hw.edge he)).1 (h.done _ ih _ he)
  refine ⟨h3, fun b => ⟨h4 b, hm b⟩, h6, fun b => Classical.epsilon fun p => EdgeL to p b ∧ [b, p].Sublist o, ?_, ?_, ?_⟩
  · exact fun a b ha hb e => numL_inj (hm a ha) (hm b hb) e
  · intro b hb
    have h0 : numL o 0 = o.length - 1 := by
      obtain ⟨l, rfl⟩ := List.getLast?_eq_some_iff.1 h6
      unfold numL
      rw [List.nodup_append] at h3
      rw [List.idxOf_append, if_neg (fun hm => h3.2.2 0 hm 0 (by simp) rfl)]
      simp
    have := List.idxOf_lt_length_iff.2 (hm b hb)
    rw [h0]
    unfold numL
    omega
  · intro b hb h0
    have := Classical.epsilon_spec (p := fun p => EdgeL to p b ∧ [b, p].Sublist o) (h5 b (hm b hb) h0)
    exact ⟨h4 _ (this.2.subset (by simp)), this.1, numL_lt h3 this.2⟩
end Go.Proofs.Ytgladinljapmkaa.Am

/- Loops: blocks in the order in which they are left, by the program. -/
namespace Go.Proofs.Ytgladinljapmkaa.Am
open Go Go.Proofs
set_option maxRecDepth 10000
set_option maxHeartbeats 2000000
set_option linter.unusedVariables false
set_option linter.unusedSimpArgs false
theorem nodup_lt_len : ∀ {n : Nat} {l : List Nat}, l.Nodup → (∀ x ∈ l, x < n) → l.length ≤ n
  | 0, [], _, _ => Nat.le_refl _
  | 0, x :: l, _, h => absurd (h x (by simp)) (Nat.not_lt_zero _)
  | n + 1, l, hn, h => by
    by_cases hm : n ∈ l
    · have h1 := nodup_lt_len (n := n) (l := l.erase n) (hn.erase _) fun x hx => by
        have h2 := h x (List.mem_of_mem_erase hx)
        have h3 : x ≠ n := fun e => by subst e; exact hn.not_mem_erase hx
        omega
      have h4 := List.length_erase_of_mem hm
      have : 0 < l.length := List.length_pos_of_mem hm
      omega
    · have := nodup_lt_len (n := n) hn fun x hx => by
        have h2 := h x hx
        have h3 : x ≠ n := fun e => hm (e ▸ hx)
        omega
      omega
theorem Dfs.len {to : List (List Int)} {o : List Nat} {st : List (Nat × Nat)} {f : Nat → Bool} (h : Dfs to o st f) : o.length + st.length ≤ to.length := by
  have := nodup_lt_len h.nodup h.lt
  simpa using this
def toDo (to : List (List Int)) (st : List (Nat × Nat)) (f : Nat → Bool) : Nat :=
  (List.range to.length).countP (fun b => !f b) * ((to.map List.length).sum + 2) + (st.map fun p => (nthD to p.1).length - p.2 + 1).sum
theorem le_sum : ∀ {l : List Nat} {x : Nat}, x ∈ l → x ≤ l.sum
  | y :: l, x, h => by
    rw [List.sum_cons]
    rcases List.mem_cons.1 h with rfl | h
    · omega
    · have := le_sum h; omega
theorem exE.repl {n i : Nat} {x : T} {K : T → Prop} (h : K x) : exE (List.replicate n x) i K := by
  refine exE.mk fun y hy => ?_
  rw [nth_eq] at hy
  have := List.eq_of_mem_replicate (List.mem_of_getElem? hy)
  subst this; exact h
theorem exE.midO {A B : List T} {y : T} {i : Nat} {K : T → Prop} (h : Ob (i = A.length)) (hk : K y) : exE (A ++ y :: B) i K := by
  refine exE.at (x := y) ?_ hk
  rw [nth_eq, h.out, List.getElem?_append_right (Nat.le_refl _), Nat.sub_self]
  rfl
theorem exE.midSet {A B : List T} {y z z' : T} {i j : Nat} {K : T → Prop} (hz : z = z') (h : Ob (i = A.length ∧ j = i)) (hk : K z') : exE ((A ++ y :: B).set j z) i K := by
  obtain ⟨h1, rfl⟩ := h.out
  subst hz
  refine exE.setSame ?_ hk
  rw [h1, List.length_append, List.length_cons]; omega
theorem len_sum {to : List (List Int)} {a : Nat} (h : a < to.length) : (nthD to a).length ≤ (to.map List.length).sum := by
  rw [nthD_get h]
  exact le_sum (List.mem_map.2 ⟨_, List.getElem_mem h, rfl⟩)
theorem toDo_pop {to : List (List Int)} {st : List (Nat × Nat)} {f : Nat → Bool} {s k : Nat} : toDo to st f < toDo to ((s, k) :: st) f := by
  unfold toDo
  simp only [List.map_cons, List.sum_cons]
  omega
theorem toDo_adv {to : List (List Int)} {st : List (Nat × Nat)} {f : Nat → Bool} {s k : Nat} (hk : k < (nthD to s).length) : toDo to ((s, k + 1) :: st) f < toDo to ((s, k) :: st) f := by
  unfold toDo
  simp only [List.map_cons, List.sum_cons]
  omega
theorem toDo_push {to : List (List Int)} {st : List (Nat × Nat)} {f : Nat → Bool} {s k c : Nat} (hk : k < (nthD to s).length) (hc : c < to.length) (hn : f c = false) : toDo to ((c, 0) :: (s, k + 1) :: st) (fun b => if b = c then true else f b) < toDo to ((s, k) :: st) f := by
  have h1 : (List.range to.length).countP (fun b => !(if b = c then true else f b)) + 1 ≤ (List.range to.length).countP (fun b => !f b) :=
    countP_lt (l := List.range to.length) (f := f) (g := fun b => if b = c then true else f b) (fun b _ hb => by show (if b = c then true else f b) = true; split; rfl; exact hb) (List.mem_range.2 hc) hn (by simp)
  have h2 := len_sum hc
  have h3 := Nat.mul_le_mul_right ((to.map List.length).sum + 2) h1
  rw [Nat.add_mul] at h3
  unfold toDo
  simp only [List.map_cons, List.sum_cons]
  omega
abbrev listsL (l : List (List Int)) : T := .sl 1 (l.map ilist)
abbrev stR (st : List (Nat × Nat)) : List T := st.reverse.map fun p => .agg [.int .i64 (p.1 : Int), .int .i64 (p.2 : Int)]
abbrev numsR (o : List Nat) : List T := o.map fun n : Nat => .int .i64 (n : Int)
theorem set_mid {A B : List T} {y z : T} {i : Nat} (h : i = A.length) : (A ++ y :: B).set i z = A ++ z :: B := by
  subst h
  rw [List.set_append_right _ _ (Nat.le_refl _), Nat.sub_self]
  rfl
theorem congr_rows2 {t t' t'' n n' n'' : Nat} {A A' B B' : List T} {C : List T} (h1 : A = A') (h2 : B = B') :
    [SObj.row t n A, .dead, .row t' n' B, .row t'' n'' C] = [SObj.row t n A', .dead, .row t' n' B', .row t'' n'' C] := by rw [h1, h2]
theorem behind40 (to : List (List Int)) (hw : WalkL to) (hl : to.length ≤ 20000) (hr : ∀ l ∈ to, l.length ≤ 2 ^ 20) : PCalls Try.prog 32 [listsL to] (fun r => Ob (∃ o, Left to o ∧ r = .sl 1 (numsR o))) := by
  have h1 := hw.one
  refine PCalls.of_body ttOk Try.func32 rfl ?_
  repeat' ((conv => whnf); first | (with_reducible first | refine onBool_intro (fun _ => ?_) (fun _ => ?_) | refine And.intro (Ob.mk (Nat.le_of_ble_eq_true rfl)) ?_ | refine And.intro (Ob.mk rfl) ?_ | exact ⟨rfl, rfl⟩ | refine And.intro (Ob.mk (fun h => h)) ?_) | (with_reducible refine Or.inl (And.intro (Ob.mk (Flat.map ?_)) ?_); exact fun _ => rfl) | (refine Or.inl (And.intro (Ob.mk (flat_of rfl)) ?_)) | (refine Or.inl (And.intro (Ob.mk ⟨rfl, rfl, rfl, rfl⟩) ?_)) | (refine Or.inl (And.intro (Ob.mk ⟨rfl, rfl, rfl⟩) ?_)) | (refine And.intro (Ob.mk ⟨rfl, rfl⟩) ?_) | (with_reducible refine Or.inr ?_) | (refine And.intro (Ob.mk (flat_of rfl)) ?_) | (with_reducible refine And.intro (Ob.mk (Flat.map ?_)) ?_; exact fun _ => rfl) | (with_reducible first | exact Ob.mk (Flat.map fun _ => rfl) | refine And.intro ?_ ?_ | apply exG.mk | apply exGS.mk | exact Dd.nil) | (refine Dd.same _ ?_) | (refine Dd.dead _ ?_) | (with_reducible first | apply exQ.mk | apply exP.mk) | (refine EqP.mk rfl rfl) | (with_reducible apply exW.mk) | (refine EqW.mk rfl) | (with_reducible first | intro _ | refine Dn.mk ?_) | (refine exS.full (by first | rfl | (simp; done) | (simp; omega)) ?_) | (refine And.intro (Ob.mk ⟨rfl, rfl, by first | rfl | (simp; done) | (simp; omega)⟩) ?_) | (with_reducible refine exE.mapD ?_) | (refine exL.int ?_) | (with_reducible first | refine Up0.mk rfl ?_ | refine Up0i.mk rfl ?_ | refine Up1.mk rfl ?_ | refine Up1i.mk rfl ?_ | refine Up2.mk rfl ?_ | refine Up2i.mk rfl ?_) | (refine Col.mk rfl rfl rfl ?_) | (refine Coli.mk rfl rfl rfl rfl ?_) | (refine exE.repl ?_))
  all_goals (try (refine Ob.mk ?_; first | assumption | exact ⟨rfl, rfl⟩ | exact ⟨rfl, rfl, rfl⟩ | (refine ⟨rfl, rfl, ?_⟩; simp only [List.length_map, List.length_take, List.length_append, els_len, List.length_replicate]; omega) | (intro h; exact h) | (intro h; rw [h]; rfl) | (intro h; simp_all; done) | (refine bytes_le (n := 1048577) ?_ rfl; simp only [ltI_iff, ltI_not, leI_iff, leI_not, eqI_iff, eqI_not, List.length_map, bif_and, bif_or, Bool.and_eq_true, Bool.and_eq_false_iff, Bool.or_eq_true, Bool.or_eq_false_iff, Bool.not_eq_true', Bool.not_eq_false', Int.toNat_natCast, beq_iff_eq, beq_eq_false_iff_ne, decide_eq_true_eq, decide_eq_false_iff_not, bel_iff, bel_not, wthn_iff, wthn_not, els_len, mixL_len, Nat.zero_add, List.length_set, List.length_take] at *; omega) | (simp only [ltI_iff, ltI_not, leI_iff, leI_not, eqI_iff, eqI_not, List.length_map, bif_and, bif_or, Bool.and_eq_true, Bool.and_eq_false_iff, Bool.or_eq_true, Bool.or_eq_false_iff, Bool.not_eq_true', Bool.not_eq_false', Int.toNat_natCast, beq_iff_eq, beq_eq_false_iff_ne, decide_eq_true_eq, decide_eq_false_iff_not, bel_iff, bel_not, wthn_iff, wthn_not, els_len, mixL_len, Nat.zero_add, List.length_set, List.length_take, Int.ofNat_eq_natCast] at *; omega)))
  · refine Ob.mk ?_
    show (_ : Int) * ((1 : Nat) : Int) ≤ _
    rw [List.length_map]; omega
  · exact Ob.mk (by rw [List.length_replicate, List.length_map]; show 0 < _; omega)
  · conv => whnf
    refine LoopVC.mk [5, 3] [(3, 3, 1)] (fun m vals σ => ∃ (o : List Nat) (st : List (Nat × Nat)) (f : Nat → Bool) (junk : List T), vals = [.osl 2 0 st.length, .osl 3 0 o.length] ∧ σ = [.row 4 1 (bitsR to.length f), .dead, .row 76 2 (stR st ++ junk), .row 3 1 (numsR o)] ∧ Dfs to o st f ∧ m = toDo to st f) ?_ ?_
    · conv => whnf
      refine ⟨_, [], [(0, 0)], fun b => b == 0, [], rfl, ?_, .init hw fun b => by simp, rfl⟩
      rw [List.length_map, Int.toNat_natCast]
      refine congrArg (fun z => [SObj.row 4 1 z, .dead, .row 76 2 (stR [(0, 0)] ++ []), .row 3 1 (numsR [])]) ?_
      refine (congrArg (fun z => List.set z 0 (T.bool true)) (bitsR_zero to.length)).trans (bitsR_set.trans (bitsR_congr fun j hj => ?_))
      by_cases e : j = 0
      · simp [e]
      · simp [e]
    · rintro m vals σ ⟨o, st, f, junk, rfl, rfl, hd, rfl⟩
      have hlen := hd.len
      cases st with
      | nil =>
        repeat' ((conv => whnf); first | (with_reducible first | refine onBool_intro (fun _ => ?_) (fun _ => ?_) | refine And.intro (Ob.mk (Nat.le_of_ble_eq_true rfl)) ?_ | refine And.intro (Ob.mk rfl) ?_ | exact ⟨rfl, rfl⟩ | refine And.intro (Ob.mk (fun h => h)) ?_) | (with_reducible refine Or.inl (And.intro (Ob.mk (Flat.map ?_)) ?_); exact fun _ => rfl) | (refine Or.inl (And.intro (Ob.mk (flat_of rfl)) ?_)) | (refine Or.inl (And.intro (Ob.mk ⟨rfl, rfl, rfl, rfl⟩) ?_)) | (refine Or.inl (And.intro (Ob.mk ⟨rfl, rfl, rfl⟩) ?_)) | (refine And.intro (Ob.mk ⟨rfl, rfl⟩) ?_) | (with_reducible refine Or.inr ?_) | (refine And.intro (Ob.mk (flat_of rfl)) ?_) | (with_reducible refine And.intro (Ob.mk (Flat.map ?_)) ?_; exact fun _ => rfl) | (with_reducible first | exact Ob.mk (Flat.map fun _ => rfl) | refine And.intro ?_ ?_ | apply exG.mk | apply exGS.mk | exact Dd.nil) | (refine Dd.same _ ?_) | (refine Dd.dead _ ?_) | (with_reducible first | apply exQ.mk | apply exP.mk) | (refine EqP.mk rfl rfl) | (with_reducible apply exW.mk) | (refine EqW.mk rfl) | (with_reducible first | intro _ | refine Dn.mk ?_) | (refine exS.full (by first | rfl | (simp; done) | (simp; omega)) ?_) | (refine And.intro (Ob.mk ⟨rfl, rfl, by first | rfl | (simp; done) | (simp; omega)⟩) ?_) | (with_reducible refine exE.mapD ?_) | (refine exL.int ?_) | (with_reducible first | refine Up0.mk rfl ?_ | refine Up0i.mk rfl ?_ | refine Up1.mk rfl ?_ | refine Up1i.mk rfl ?_ | refine Up2.mk rfl ?_ | refine Up2i.mk rfl ?_) | (refine Col.mk rfl rfl rfl ?_) | (refine Coli.mk rfl rfl rfl rfl ?_))
        all_goals (try (exfalso; rename_i h2 _; exact absurd (ltI_iff.1 h2) (Int.lt_irrefl _)))
        exact Ob.mk ⟨o, hd.left hw, rfl⟩
      | cons p rest =>
        obtain ⟨s, k⟩ := p
        have er : stR ((s, k) :: rest) ++ junk = stR rest ++ .agg [.int .i64 (s : Int), .int .i64 (k : Int)] :: junk := by simp
        have hA : (stR rest).length = rest.length := by simp
        have hs : s < to.length := hd.lt s (by simp)
        have hrl := hr _ (nthD_mem hs)
        have hk := (hd.some (s, k) (by simp)).1
        have e1 : subI .i64 ((((s, k) :: rest).length : Nat) : Int) 1 = (rest.length : Int) := by
          rw [List.length_cons, subI_i64 (by omega) (by simp at hlen; omega)]
          omega
        have hkl : ∀ {F : Int → T}, eqI (k : Int) ((((nthD to (s : Int).toNat).map F).length : Nat) : Int) = false → k < (nthD to s).length := fun {F} h => by
          rcases Nat.lt_or_ge k (nthD to s).length with h1 | h1
          · exact h1
          · have h3 : (k : Int) = ((((nthD to s).map F).length : Nat) : Int) := by
              have : k ≤ (nthD to s).length := hk
              rw [List.length_map]; omega
            exact absurd ((eqI_iff.2 h3).symm.trans h) (by simp)
        have hc0 : k < (nthD to s).length → 0 ≤ nthD (nthD to s) k ∧ nthD (nthD to s) k < to.length := fun h => hw.rng s hs _ (nthD_mem h)
        have eak : addI .i64 (k : Int) 1 = (k : Int) + 1 := by
          have : k ≤ (nthD to s).length := hk
          exact addI_i64 (by omega) (by omega)
        rw [er]
        generalize hAe : stR rest = A at *
        repeat' ((conv => whnf); first | (with_reducible first | refine onBool_intro (fun _ => ?_) (fun _ => ?_) | refine And.intro (Ob.mk (Nat.le_of_ble_eq_true rfl)) ?_ | refine And.intro (Ob.mk rfl) ?_ | exact ⟨rfl, rfl⟩ | refine And.intro (Ob.mk (fun h => h)) ?_) | (with_reducible refine Or.inl (And.intro (Ob.mk (Flat.map ?_)) ?_); exact fun _ => rfl) | (refine Or.inl (And.intro (Ob.mk (flat_of rfl)) ?_)) | (refine Or.inl (And.intro (Ob.mk ⟨rfl, rfl, rfl, rfl⟩) ?_)) | (refine Or.inl (And.intro (Ob.mk ⟨rfl, rfl, rfl⟩) ?_)) | (refine And.intro (Ob.mk ⟨rfl, rfl⟩) ?_) | (with_reducible refine Or.inr ?_) | (refine And.intro (Ob.mk (flat_of rfl)) ?_) | (with_reducible refine And.intro (Ob.mk (Flat.map ?_)) ?_; exact fun _ => rfl) | (with_reducible first | exact Ob.mk (Flat.map fun _ => rfl) | refine And.intro ?_ ?_ | apply exG.mk | apply exGS.mk | exact Dd.nil) | (refine Dd.same _ ?_) | (refine Dd.dead _ ?_) | (with_reducible first | apply exQ.mk | apply exP.mk) | (refine EqP.mk rfl rfl) | (with_reducible apply exW.mk) | (refine EqW.mk rfl) | (with_reducible first | intro _ | refine Dn.mk ?_) | (refine exS.full (by first | rfl | (simp; done) | (simp; omega)) ?_) | (refine And.intro (Ob.mk ⟨rfl, rfl, by first | rfl | (simp; done) | (simp; omega)⟩) ?_) | (with_reducible refine exE.mapD ?_) | (refine exL.int ?_) | (with_reducible first | refine Up0.mk rfl ?_ | refine Up0i.mk rfl ?_ | refine Up1.mk rfl ?_ | refine Up1i.mk rfl ?_ | refine Up2.mk rfl ?_ | refine Up2i.mk rfl ?_) | (refine Col.mk rfl rfl rfl ?_) | (refine Coli.mk rfl rfl rfl rfl ?_) | (refine drawVC.mkM _ _ 13 13 [] [[], [0], [0, 1], [0, 1, 2], [], [], [5], [5, 6], [5, 6, 7], [4, 5, 6, 7, 8], [4, 5, 6, 7, 8, 9], [4, 5, 6, 7, 8, 9, 10], [0, 1, 2, 3, 4, 5, 6, 7, 8, 9, 10, 11]] rfl (by kernel_rfl) ?_) | (refine drawVC.mkM _ _ 14 14 [] [[], [], [1], [1, 2], [1, 2, 3], [0, 1, 2, 3, 4], [0, 1, 2, 3, 4, 5], [], [7], [7, 8], [7, 8, 9], [0, 1, 2, 3, 4, 5, 6, 7, 8, 9, 10], [0, 1, 2, 3, 4, 5, 6, 7, 8, 9, 10, 11], [0, 1, 2, 3, 4, 5, 6, 7, 8, 9, 10, 11, 12]] rfl (by kernel_rfl) ?_) | (refine exE.midO ?_ ?_) | (refine exE.midSet rfl ?_ ?_) | (refine exS.part ?_))
        all_goals (try (refine Ob.mk ?_; first | assumption | exact ⟨rfl, rfl⟩ | exact ⟨rfl, rfl, rfl⟩ | (refine ⟨rfl, rfl, ?_⟩; simp only [List.length_map, List.length_take, List.length_append, els_len, List.length_replicate]; omega) | (intro h; exact h) | (intro h; rw [h]; rfl) | (intro h; simp_all; done) | (refine bytes_le (n := 1048577) ?_ rfl; simp only [ltI_iff, ltI_not, leI_iff, leI_not, eqI_iff, eqI_not, List.length_map, bif_and, bif_or, Bool.and_eq_true, Bool.and_eq_false_iff, Bool.or_eq_true, Bool.or_eq_false_iff, Bool.not_eq_true', Bool.not_eq_false', Int.toNat_natCast, beq_iff_eq, beq_eq_false_iff_ne, decide_eq_true_eq, decide_eq_false_iff_not, bel_iff, bel_not, wthn_iff, wthn_not, els_len, mixL_len, Nat.zero_add, List.length_set, List.length_take] at *; omega) | (simp only [ltI_iff, ltI_not, leI_iff, leI_not, eqI_iff, eqI_not, List.length_map, bif_and, bif_or, Bool.and_eq_true, Bool.and_eq_false_iff, Bool.or_eq_true, Bool.or_eq_false_iff, Bool.not_eq_true', Bool.not_eq_false', Int.toNat_natCast, beq_iff_eq, beq_eq_false_iff_ne, decide_eq_true_eq, decide_eq_false_iff_not, bel_iff, bel_not, wthn_iff, wthn_not, els_len, mixL_len, Nat.zero_add, List.length_set, List.length_take, Int.ofNat_eq_natCast] at *; omega)))
        all_goals (try (exfalso; rename_i h2; have h3 := ltI_dec.symm.trans h2; simp at h3; done))
        all_goals (try rw [e1])
        all_goals (try (refine Ob.mk ?_; simp; omega))
        all_goals (try (refine Ob.mk ?_; obtain ⟨h6, h7⟩ := hc0 (hkl (by assumption)); simp; omega))
        all_goals (try (conv => whnf; done))
        · conv => whnf
          have hke : k = (nthD to s).length := by
            have h3 := eqI_iff.1 (by assumption : eqI (k : Int) _ = true)
            rw [List.length_map] at h3
            exact Int.ofNat.inj h3
          refine ⟨_, toDo_pop (s := s) (k := k), o ++ [s], rest, f, .agg [.int .i64 (s : Int), .int .i64 (k : Int)] :: junk, ?_, ?_, hd.pop hw hke, rfl⟩
          · rw [List.length_append]; rfl
          · rw [hAe]
            unfold numsR
            rw [List.map_append]; rfl
        · conv => whnf
          have hkl' := hkl (by assumption)
          obtain ⟨h6, h7⟩ := hc0 hkl'
          have hf : f (nthD (nthD to s) k).toNat = false := by
            have h8 : (!f (nthD (List.range to.length) (0 + (nthD (nthD to s) k).toNat))) = true := by assumption
            rw [nthD_range (by omega), Nat.zero_add] at h8
            simpa using h8
          refine ⟨_, toDo_push hkl' (by omega) hf, o, ((nthD (nthD to s) k).toNat, 0) :: (s, k + 1) :: rest, fun b => if b = (nthD (nthD to s) k).toNat then true else f b, [], rfl, ?_, hd.push hw hkl' rfl hf, rfl⟩
          refine congr_rows2 ?_ ?_
          · rw [Nat.zero_add]
            exact bitsR_set
          · refine (congrArg (fun z => List.take _ z ++ _) (set_mid (by rw [hA]; show 0 + rest.length = _; omega))).trans ?_
            have ec : (((nthD (nthD to s) k).toNat : Nat) : Int) = nthD (nthD to s) k := Int.toNat_of_nonneg h6
            have et : ∀ (z : T) (B : List T), List.take ((s, k) :: rest).length (A ++ z :: B) = A ++ [z] := fun z B => by
              rw [List.length_cons, List.take_append, hA, List.take_of_length_le (by omega)]
              simp
            refine (congrArg (· ++ _) (et _ _)).trans ?_
            have e2 : stR (((nthD (nthD to s) k).toNat, 0) :: (s, k + 1) :: rest) ++ [] = A ++ [.agg [.int .i64 (s : Int), .int .i64 ((k : Int) + 1)]] ++ [.agg [.int .i64 (nthD (nthD to s) k), .int .i64 0]] := by
              rw [← hAe]
              simp [ec]
            rw [e2, ← eak]; rfl
        · conv => whnf
          have hkl' := hkl (by assumption)
          obtain ⟨h6, h7⟩ := hc0 hkl'
          have hf : f (nthD (nthD to s) k).toNat = true := by
            have h8 : (!f (nthD (List.range to.length) (0 + (nthD (nthD to s) k).toNat))) = false := by assumption
            rw [nthD_range (by omega), Nat.zero_add] at h8
            simpa using h8
          refine ⟨_, toDo_adv hkl', o, (s, k + 1) :: rest, f, junk, rfl, ?_, hd.adv hkl' hf, rfl⟩
          refine congr_rows2 rfl ?_
          refine (set_mid (by rw [hA]; show 0 + rest.length = _; omega)).trans ?_
          have e2 : stR ((s, k + 1) :: rest) ++ junk = A ++ .agg [.int .i64 (s : Int), .int .i64 ((k : Int) + 1)] :: junk := by
            rw [← hAe]
            simp
          rw [e2, ← eak]; rfl
end Go.Proofs.Ytgladinljapmkaa.Am

/- Loops: where two ways up meet, by the program. -/
namespace Go.Proofs.Ytgladinljapmkaa.Am
open Go Go.Proofs
set_option maxRecDepth 10000
set_option maxHeartbeats 2000000
set_option linter.unusedVariables false
set_option linter.unusedSimpArgs false
abbrev tellR (n : Nat) (f : Nat → Int) : List T := (List.range n).map fun j => .int .i64 (f j)
theorem tellR_set {n i : Nat} {f : Nat → Int} {y : T} {x : Int} (h : y = .int .i64 x) : (tellR n f).set i y = tellR n (fun j => if j = i then x else f j) := by
  subst h
  apply List.ext_getElem
  · simp
  · intro j h1 h2
    rw [List.getElem_set]
    simp only [List.getElem_map, List.getElem_range]
    by_cases e : i = j
    · subst e; simp
    · rw [if_neg e, if_neg fun h => e h.symm]
theorem tellR_congr {n : Nat} {f g : Nat → Int} (h : ∀ j, j < n → f j = g j) : tellR n f = tellR n g := by
  apply List.map_congr_left
  intro j hj
  rw [h j (by simpa using hj)]
theorem exE.tell {n i : Nat} {f : Nat → Int} {K : T → Prop} (h : Ob (i < n)) (hk : K (.int .i64 (f i))) : exE (tellR n f) i K := by
  refine exE.mapD ?_
  rw [nthD_range h.out]; exact hk
section
variable {e : Nat → Nat → Prop} {num par : Nat → Nat} {S : Nat → Prop} {ov : Nat → Nat}
theorem Tree.meet (hN : Nums e num par) (t : Tree e num par S ov) {x y : Nat} (hx : S x) (hy : S y) (h : num x < num y) : x ≠ 0 ∧ S (ov x) ∧ num x < num (ov x) ∧ num (ov x) ≤ num 0 ∧ ∀ z, (Up ov z (ov x) ∧ Up ov z y ↔ Up ov z x ∧ Up ov z y) := by
  have h0 : x ≠ 0 := fun e0 => by subst e0; have := hN.top y (t.rch y hy); omega
  have h1 := t.set x hx h0
  refine ⟨h0, h1.1, h1.2, hN.top _ (t.rch _ h1.1), fun z => ⟨fun h2 => ⟨.step h0 h2.1, h2.2⟩, fun h2 => ⟨?_, h2.2⟩⟩⟩
  refine (h2.1.over fun e0 => ?_).2
  subst e0
  have := (t.up_set h2.2 hy).2.1
  omega
end
theorem meet59 (n : Nat) (hn : n ≤ 20000) {e : Nat → Nat → Prop} {num par : Nat → Nat} {S : Nat → Prop} {ov : Nat → Nat} (hN : Nums e num par) (t : Tree e num par S ov) (hl : ∀ b, S b → b < n) (f g : Nat → Int)
    (hf : ∀ b, S b → f b = num b) (hg : ∀ b, S b → g b = ov b) (a b : Nat) (ha : S a) (hb : S b) :
    PCalls Try.prog 39 [.int .i64 a, .int .i64 b, .ptr [.sl 1 (tellR n f)], .ptr [.sl 1 (tellR n g)]] (fun r => Ob (∃ m : Nat, S m ∧ (∀ z, Up ov z m ↔ Up ov z a ∧ Up ov z b) ∧ r = .int .i64 m)) := by
  refine PCalls.of_body ttOk Try.func39 rfl ?_
  repeat' ((conv => whnf); first | (with_reducible first | refine onBool_intro (fun _ => ?_) (fun _ => ?_) | refine And.intro (Ob.mk (Nat.le_of_ble_eq_true rfl)) ?_ | refine And.intro (Ob.mk rfl) ?_ | exact ⟨rfl, rfl⟩ | refine And.intro (Ob.mk (fun h => h)) ?_) | (with_reducible refine Or.inl (And.intro (Ob.mk (Flat.map ?_)) ?_); exact fun _ => rfl) | (refine Or.inl (And.intro (Ob.mk (flat_of rfl)) ?_)) | (refine Or.inl (And.intro (Ob.mk ⟨rfl, rfl, rfl, rfl⟩) ?_)) | (refine Or.inl (And.intro (Ob.mk ⟨rfl, rfl, rfl⟩) ?_)) | (refine And.intro (Ob.mk ⟨rfl, rfl⟩) ?_) | (with_reducible refine Or.inr ?_) | (refine And.intro (Ob.mk (flat_of rfl)) ?_) | (with_reducible refine And.intro (Ob.mk (Flat.map ?_)) ?_; exact fun _ => rfl) | (with_reducible first | exact Ob.mk (Flat.map fun _ => rfl) | refine And.intro ?_ ?_ | apply exG.mk | apply exGS.mk | exact Dd.nil) | (refine Dd.same _ ?_) | (refine Dd.dead _ ?_) | (with_reducible first | apply exQ.mk | apply exP.mk) | (refine EqP.mk rfl rfl) | (with_reducible apply exW.mk) | (refine EqW.mk rfl) | (with_reducible first | intro _ | refine Dn.mk ?_) | (refine exS.full (by first | rfl | (simp; done) | (simp; omega)) ?_) | (refine And.intro (Ob.mk ⟨rfl, rfl, by first | rfl | (simp; done) | (simp; omega)⟩) ?_) | (with_reducible refine exE.mapD ?_) | (refine exL.int ?_) | (with_reducible first | refine Up0.mk rfl ?_ | refine Up0i.mk rfl ?_ | refine Up1.mk rfl ?_ | refine Up1i.mk rfl ?_ | refine Up2.mk rfl ?_ | refine Up2i.mk rfl ?_) | (refine Col.mk rfl rfl rfl ?_) | (refine Coli.mk rfl rfl rfl rfl ?_))
  all_goals (try (refine Ob.mk ?_; first | assumption | exact ⟨rfl, rfl⟩ | exact ⟨rfl, rfl, rfl⟩ | (refine ⟨rfl, rfl, ?_⟩; simp only [List.length_map, List.length_take, List.length_append, els_len, List.length_replicate]; omega) | (intro h; exact h) | (intro h; rw [h]; rfl) | (intro h; simp_all; done) | (refine bytes_le (n := 1048577) ?_ rfl; simp only [ltI_iff, ltI_not, leI_iff, leI_not, eqI_iff, eqI_not, List.length_map, bif_and, bif_or, Bool.and_eq_true, Bool.and_eq_false_iff, Bool.or_eq_true, Bool.or_eq_false_iff, Bool.not_eq_true', Bool.not_eq_false', Int.toNat_natCast, beq_iff_eq, beq_eq_false_iff_ne, decide_eq_true_eq, decide_eq_false_iff_not, bel_iff, bel_not, wthn_iff, wthn_not, els_len, mixL_len, Nat.zero_add, List.length_set, List.length_take] at *; omega) | (simp only [ltI_iff, ltI_not, leI_iff, leI_not, eqI_iff, eqI_not, List.length_map, bif_and, bif_or, Bool.and_eq_true, Bool.and_eq_false_iff, Bool.or_eq_true, Bool.or_eq_false_iff, Bool.not_eq_true', Bool.not_eq_false', Int.toNat_natCast, beq_iff_eq, beq_eq_false_iff_ne, decide_eq_true_eq, decide_eq_false_iff_not, bel_iff, bel_not, wthn_iff, wthn_not, els_len, mixL_len, Nat.zero_add, List.length_set, List.length_take, Int.ofNat_eq_natCast] at *; omega)))
  conv => whnf
  have h0 := hl 0 t.zero
  refine LoopVC.mk [0, 1] [] (fun m vals σ => ∃ x y : Nat, vals = [.t (.int .i64 x), .t (.int .i64 y)] ∧ σ = [] ∧ S x ∧ S y ∧ (∀ z, (Up ov z x ∧ Up ov z y ↔ Up ov z a ∧ Up ov z b)) ∧ m = (num 0 - num x) + (num 0 - num y)) ?_ ?_
  · conv => whnf
    exact ⟨_, a, b, rfl, rfl, ha, hb, fun z => Iff.rfl, rfl⟩
  · rintro m vals σ ⟨x, y, rfl, rfl, hx, hy, hz, rfl⟩
    have hxn := hl x hx
    have hyn := hl y hy
    have ex := hg x hx
    have ey := hg y hy
    have fx := hf x hx
    have fy := hf y hy
    repeat' ((conv => whnf); first | (with_reducible first | refine onBool_intro (fun _ => ?_) (fun _ => ?_) | refine And.intro (Ob.mk (Nat.le_of_ble_eq_true rfl)) ?_ | refine And.intro (Ob.mk rfl) ?_ | exact ⟨rfl, rfl⟩ | refine And.intro (Ob.mk (fun h => h)) ?_) | (with_reducible refine Or.inl (And.intro (Ob.mk (Flat.map ?_)) ?_); exact fun _ => rfl) | (refine Or.inl (And.intro (Ob.mk (flat_of rfl)) ?_)) | (refine Or.inl (And.intro (Ob.mk ⟨rfl, rfl, rfl, rfl⟩) ?_)) | (refine Or.inl (And.intro (Ob.mk ⟨rfl, rfl, rfl⟩) ?_)) | (refine And.intro (Ob.mk ⟨rfl, rfl⟩) ?_) | (with_reducible refine Or.inr ?_) | (refine And.intro (Ob.mk (flat_of rfl)) ?_) | (with_reducible refine And.intro (Ob.mk (Flat.map ?_)) ?_; exact fun _ => rfl) | (with_reducible first | exact Ob.mk (Flat.map fun _ => rfl) | refine And.intro ?_ ?_ | apply exG.mk | apply exGS.mk | exact Dd.nil) | (refine Dd.same _ ?_) | (refine Dd.dead _ ?_) | (with_reducible first | apply exQ.mk | apply exP.mk) | (refine EqP.mk rfl rfl) | (with_reducible apply exW.mk) | (refine EqW.mk rfl) | (with_reducible first | intro _ | refine Dn.mk ?_) | (refine exS.full (by first | rfl | (simp; done) | (simp; omega)) ?_) | (refine And.intro (Ob.mk ⟨rfl, rfl, by first | rfl | (simp; done) | (simp; omega)⟩) ?_) | (with_reducible refine exE.mapD ?_) | (refine exL.int ?_) | (with_reducible first | refine Up0.mk rfl ?_ | refine Up0i.mk rfl ?_ | refine Up1.mk rfl ?_ | refine Up1i.mk rfl ?_ | refine Up2.mk rfl ?_ | refine Up2i.mk rfl ?_) | (refine Col.mk rfl rfl rfl ?_) | (refine Coli.mk rfl rfl rfl rfl ?_) | (refine drawVC.mkM _ _ 9 9 [] [[], [], [0, 1], [0, 1, 2], [], [], [4, 5], [4, 5, 6], [0, 1, 2, 3, 4, 5, 6, 7]] rfl (by kernel_rfl) ?_) | (refine exE.tell ?_ ?_))
    all_goals (try (refine Ob.mk ?_; first | assumption | exact ⟨rfl, rfl⟩ | exact ⟨rfl, rfl, rfl⟩ | (refine ⟨rfl, rfl, ?_⟩; simp only [List.length_map, List.length_take, List.length_append, els_len, List.length_replicate]; omega) | (intro h; exact h) | (intro h; rw [h]; rfl) | (intro h; simp_all; done) | (refine bytes_le (n := 1048577) ?_ rfl; simp only [ltI_iff, ltI_not, leI_iff, leI_not, eqI_iff, eqI_not, List.length_map, bif_and, bif_or, Bool.and_eq_true, Bool.and_eq_false_iff, Bool.or_eq_true, Bool.or_eq_false_iff, Bool.not_eq_true', Bool.not_eq_false', Int.toNat_natCast, beq_iff_eq, beq_eq_false_iff_ne, decide_eq_true_eq, decide_eq_false_iff_not, bel_iff, bel_not, wthn_iff, wthn_not, els_len, mixL_len, Nat.zero_add, List.length_set, List.length_take] at *; omega) | (simp only [ltI_iff, ltI_not, leI_iff, leI_not, eqI_iff, eqI_not, List.length_map, bif_and, bif_or, Bool.and_eq_true, Bool.and_eq_false_iff, Bool.or_eq_true, Bool.or_eq_false_iff, Bool.not_eq_true', Bool.not_eq_false', Int.toNat_natCast, beq_iff_eq, beq_eq_false_iff_ne, decide_eq_true_eq, decide_eq_false_iff_not, bel_iff, bel_not, wthn_iff, wthn_not, els_len, mixL_len, Nat.zero_add, List.length_set, List.length_take, Int.ofNat_eq_natCast] at *; omega)))
    all_goals (try (exact Ob.mk (by simp; omega)))
    · rename_i h1 h2
      have h3 : num x < num y := by
        have h4 := ltI_iff.1 h2
        have h5 : f (nthD (List.range n) x) < f (nthD (List.range n) y) := h4
        rw [nthD_range hxn, nthD_range hyn, fx, fy] at h5
        omega
      obtain ⟨_, i1, i2, i3, i4⟩ := t.meet hN hx hy h3
      have i5 := hN.top y (t.rch y hy)
      conv => whnf
      refine ⟨(num 0 - num (ov x)) + (num 0 - num y), by omega, ov x, y, ?_, rfl, i1, hy, fun z => (i4 z).trans (hz z), rfl⟩
      show [SV.t (.int .i64 (g (nthD (List.range n) x))), SV.t (.int .i64 (y : Int))] = _
      rw [nthD_range hxn, ex]
    · rename_i h1 h2
      have h3 : num y < num x := by
        have h4 := ltI_not.1 h2
        have h5 : f (nthD (List.range n) y) ≤ f (nthD (List.range n) x) := h4
        rw [nthD_range hxn, nthD_range hyn, fx, fy] at h5
        have h6 : num x ≠ num y := fun e0 => by
          have := hN.inj x y (t.rch x hx) (t.rch y hy) e0
          subst this
          rw [eqI_beq] at h1
          simp at h1
        omega
      obtain ⟨_, i1, i2, i3, i4⟩ := t.meet hN hy hx h3
      have i5 := hN.top x (t.rch x hx)
      conv => whnf
      refine ⟨(num 0 - num x) + (num 0 - num (ov y)), by omega, x, ov y, ?_, rfl, hx, i1, fun z => (and_comm.trans ((i4 z).trans and_comm)).trans (hz z), rfl⟩
      show [SV.t (.int .i64 (x : Int)), SV.t (.int .i64 (g (nthD (List.range n) y)))] = _
      rw [nthD_range hyn, ey]
    · rename_i h1
      have h2 : x = y := by
        rw [eqI_beq] at h1
        simp at h1
        omega
      subst h2
      exact Ob.mk ⟨x, hx, fun z => by rw [← hz z]; exact (and_self_iff).symm, rfl⟩
end Go.Proofs.Ytgladinljapmkaa.Am

/- Lists as cells (no program here). -/
namespace Go.Proofs.Ytgladinljapmkaa.Am
open Go Go.Proofs
set_option maxRecDepth 10000
set_option maxHeartbeats 2000000
set_option linter.unusedVariables false
set_option linter.unusedSimpArgs false
def cellL (l : List Int) : T := match l with
  | [] => .nsl
  | x :: l => .nst 3 1 ((x :: l).map fun n => .int .i64 n)
end Go.Proofs.Ytgladinljapmkaa.Am

/- Loops: what the rounds know, told by numbers (no program here). -/
namespace Go.Proofs.Ytgladinljapmkaa.Am
open Go Go.Proofs
set_option maxRecDepth 10000
set_option maxHeartbeats 2000000
set_option linter.unusedVariables false
set_option linter.unusedSimpArgs false
structure Told (S : Nat → Prop) (ov : Nat → Nat) (g : Nat → Int) : Prop where
  zero : g 0 = 0
  yes : ∀ b, S b → g b = (ov b : Nat)
  no : ∀ b, ¬ S b → g b = -1
theorem Told.turn {S : Nat → Prop} {ov : Nat → Nat} {g : Nat → Int} (h : Told S ov g) {v m : Nat} (h0 : v ≠ 0) :
    Told (fun b => S b ∨ b = v) (fun b => if b = v then m else ov b) (fun b => if b = v then (m : Int) else g b) where
  zero := by rw [if_neg (fun e => h0 e.symm)]; exact h.zero
  yes := fun b hb => by
    by_cases e : b = v
    · rw [if_pos e, if_pos e]
    · rw [if_neg e, if_neg e]; exact h.yes b (hb.resolve_right e)
  no := fun b hb => by
    rw [if_neg fun e => hb (.inr e)]
    exact h.no b fun h => hb (.inl h)
def valG (n : Nat) (num : Nat → Nat) (g : Nat → Int) : Nat := ((List.range n).map fun b => if g b < 0 then 0 else num (g b).toNat + 1).sum
theorem sumMap_le {α : Type} {f : α → Nat} {c : Nat} : ∀ {l : List α}, (∀ x ∈ l, f x ≤ c) → (l.map f).sum ≤ l.length * c
  | [], _ => by simp
  | x :: l, h => by
    have h1 := h x (by simp)
    have h2 := sumMap_le (l := l) fun y hy => h y (by simp [hy])
    simp only [List.map_cons, List.sum_cons, List.length_cons, Nat.add_mul]
    omega
theorem sumMap_lt {f f' : Nat → Nat} {v : Nat} : ∀ {l : List Nat}, l.Nodup → v ∈ l → (∀ x, x ≠ v → f' x = f x) → f v < f' v → (l.map f).sum < (l.map f').sum
  | x :: l, hn, hv, h, hlt => by
    rw [List.nodup_cons] at hn
    simp only [List.map_cons, List.sum_cons]
    by_cases e : x = v
    · subst e
      have : l.map f' = l.map f := List.map_congr_left fun y hy => h y fun e => hn.1 (e ▸ hy)
      rw [this]; omega
    · have h1 := sumMap_lt hn.2 ((List.mem_cons.1 hv).resolve_left fun e2 => e e2.symm) h hlt
      rw [h x e]; omega
theorem valG_lt {n : Nat} {num : Nat → Nat} {g : Nat → Int} {v m : Nat} (hv : v < n) (h : g v < 0 ∨ num (g v).toNat < num m) : valG n num g < valG n num (fun b => if b = v then (m : Int) else g b) := by
  refine sumMap_lt List.nodup_range (List.mem_range.2 hv) (fun x hx => ?_) ?_
  · simp only [if_neg hx]
  · show (if g v < 0 then 0 else num (g v).toNat + 1) < (if (if v = v then (m : Int) else g v) < 0 then 0 else num (if v = v then (m : Int) else g v).toNat + 1)
    rw [if_pos (rfl : v = v), if_neg (show ¬ ((m : Int) < 0) by omega), Int.toNat_natCast]
    rcases h with h | h
    · rw [if_pos h]; omega
    · by_cases h2 : g v < 0
      · rw [if_pos h2]; omega
      · rw [if_neg h2]; omega
theorem valG_le {n : Nat} {num : Nat → Nat} {g : Nat → Int} (h : ∀ b, num b ≤ n) : valG n num g ≤ n * (n + 1) := by
  have := sumMap_le (l := List.range n) (f := fun b => if g b < 0 then 0 else num (g b).toNat + 1) (c := n + 1) fun x _ => by
    have := h (g x).toNat
    show (if g x < 0 then 0 else num (g x).toNat + 1) ≤ n + 1
    split <;> omega
  rw [List.length_range] at this
  exact this
theorem Round.start {e : Nat → Nat → Prop} {num par : Nat → Nat} (hN : Nums e num par) : Round e num par (fun b => b = 0) (fun _ => 0) (num 0) where
  rch := fun b hb => by subst hb; exact .base trivial
  zero := rfl
  set := fun b hb h0 => absurd hb h0
  low := fun b hb h0 => absurd hb h0
  dom := fun a b hb h => by subst hb; rw [h.one]; exact .refl
  near := fun b z hb h0 => absurd hb h0
  more := fun b x hb h0 => absurd hb h0
  done := fun b x hb h0 => absurd hb h0
  big := fun b hb hk => hN.inj b 0 hb (.base trivial) (Nat.le_antisymm (hN.top b hb) hk)
  par := fun b hb h0 => absurd hb h0
def Met (S : Nat → Prop) (ov : Nat → Nat) (l : List Int) (t : Nat) (best : Int) : Prop :=
  (best = -1 ∧ ∀ j, j < t → ¬ S (nthD l j).toNat) ∨ ∃ m : Nat, best = m ∧ S m ∧ ∀ z, (Up ov z m ↔ ∀ j, j < t → S (nthD l j).toNat → Up ov z (nthD l j).toNat)
variable {S : Nat → Prop} {ov : Nat → Nat} {l : List Int} {t : Nat} {best : Int}
theorem Met.zero : Met S ov l 0 (-1) := .inl ⟨rfl, fun j hj => absurd hj (Nat.not_lt_zero _)⟩
theorem Met.skip (h : Met S ov l t best) (hs : ¬ S (nthD l t).toNat) : Met S ov l (t + 1) best := by
  rcases h with ⟨h1, h2⟩ | ⟨m, h1, h2, h3⟩
  · refine .inl ⟨h1, fun j hj => ?_⟩
    rcases Nat.lt_or_ge j t with h | h
    · exact h2 j h
    · rw [show j = t by omega]; exact hs
  · refine .inr ⟨m, h1, h2, fun z => (h3 z).trans ⟨fun h j hj hsj => ?_, fun h j hj => h j (by omega)⟩⟩
    rcases Nat.lt_or_ge j t with h4 | h4
    · exact h j h4 hsj
    · rw [show j = t by omega] at hsj; exact absurd hsj hs
theorem Met.first (h : Met S ov l t best) (hb : best < 0) (hs : S (nthD l t).toNat) : Met S ov l (t + 1) ((nthD l t).toNat : Nat) := by
  rcases h with ⟨h1, h2⟩ | ⟨m, h1, h2, h3⟩
  · refine .inr ⟨_, rfl, hs, fun z => ⟨fun h j hj hsj => ?_, fun h => h t (by omega) hs⟩⟩
    rcases Nat.lt_or_ge j t with h4 | h4
    · exact absurd hsj (h2 j h4)
    · rw [show j = t by omega]; exact h
  · omega
theorem Met.meets {m2 : Nat} (h : Met S ov l t best) (hb : 0 ≤ best) (hs : S (nthD l t).toNat) (hm : S m2) (hz : ∀ z, Up ov z m2 ↔ Up ov z best.toNat ∧ Up ov z (nthD l t).toNat) : Met S ov l (t + 1) (m2 : Nat) := by
  rcases h with ⟨h1, h2⟩ | ⟨m, h1, h2, h3⟩
  · omega
  · subst h1
    refine .inr ⟨_, rfl, hm, fun z => (hz z).trans ?_⟩
    rw [Int.toNat_natCast, h3]
    constructor
    · rintro ⟨h4, h5⟩ j hj hsj
      rcases Nat.lt_or_ge j t with h6 | h6
      · exact h4 j h6 hsj
      · rw [show j = t by omega]; exact h5
    · exact fun h4 => ⟨fun j hj => h4 j (by omega), h4 t (by omega) hs⟩
theorem Met.set (h : Met S ov l t best) (hb : 0 ≤ best) : S best.toNat := by
  rcases h with ⟨h1, h2⟩ | ⟨m, h1, h2, h3⟩
  · omega
  · subst h1; exact h2
theorem Met.nearest {e : Nat → Nat → Prop} {v p : Nat} (h : Met S ov l l.length best) (hp : S p) (he : e p v) (hl : ∀ p : Nat, S p → ((p : Int) ∈ l ↔ e p v)) (h0 : ∀ x ∈ l, 0 ≤ x) : ∃ m : Nat, best = m ∧ Best e S ov v m := by
  have hj : ∀ p : Nat, S p → e p v → ∃ j, j < l.length ∧ (nthD l j).toNat = p := fun p hp he => by
    obtain ⟨j, hj, e1⟩ := List.mem_iff_getElem.1 ((hl p hp).2 he)
    exact ⟨j, hj, by rw [nthD_get hj, e1]; rfl⟩
  rcases h with ⟨h1, h2⟩ | ⟨m, h1, h2, h3⟩
  · obtain ⟨j, hj1, hj2⟩ := hj p hp he
    exact absurd hp (hj2 ▸ h2 j hj1)
  · refine ⟨m, h1, h2, fun z => (h3 z).trans ⟨fun h p hp he => ?_, fun h j hj hs => h _ hs ((hl _ hs).1 ?_)⟩⟩
    · obtain ⟨j, hj1, hj2⟩ := hj p hp he
      rw [← hj2] at hp ⊢
      exact h j hj1 hp
    · have := h0 _ (nthD_mem hj)
      rw [Int.toNat_of_nonneg this]
      exact nthD_mem hj
theorem Round.turned {e : Nat → Nat → Prop} {num par : Nat → Nat} {g : Nat → Int} (hN : Nums e num par) {k v m : Nat} (t : Round e num par S ov k) (hT : Told S ov g) (hk : k = num v + 1) (hv : Rch e v) (h0 : v ≠ 0) (hm : Best e S ov v m) (hne : g v ≠ m) :
    ∃ S' ov', Told S' ov' (fun b => if b = v then (m : Int) else g b) ∧ Round e num par S' ov' (num v) ∧ (g v < 0 ∨ num (g v).toNat < num m) := by
  have hT' := hT.turn (m := m) h0
  by_cases hs : S v
  · have h := t.again hN hk h0 hs hm (fun b => if b = v then m else ov b) (fun b hb => if_neg hb) (if_pos rfl)
    have hg := hT.yes v hs
    refine ⟨S, _, ?_, h.1, .inr ?_⟩
    · have e1 : (fun b => S b ∨ b = v) = S := by
        funext b
        exact propext ⟨fun h => h.elim id fun h => h ▸ hs, .inl⟩
      rw [e1] at hT'
      exact hT'
    · rw [hg, Int.toNat_natCast]
      refine h.2.2 fun e1 => hne ?_
      rw [hg, e1]
  · refine ⟨_, _, hT', t.first hN hk hv h0 hs hm _ (fun b hb => if_neg hb) (if_pos rfl), .inl ?_⟩
    rw [hT.no v hs]; omega
theorem Round.same {e : Nat → Nat → Prop} {num par : Nat → Nat} {g : Nat → Int} (hN : Nums e num par) {k v m : Nat} (t : Round e num par S ov k) (hT : Told S ov g) (hk : k = num v + 1) (h0 : v ≠ 0) (hm : Best e S ov v m) (he : g v = m) :
    Round e num par S ov (num v) ∧ S v ∧ Best e S ov v (ov v) := by
  have hs : S v := Classical.byContradiction fun hs => by
    have := hT.no v hs
    omega
  have h1 : ov v = m := by
    have := hT.yes v hs
    omega
  exact ⟨(t.again hN hk h0 hs hm ov (fun b hb => rfl) h1).1, hs, h1.symm ▸ hm⟩
end Go.Proofs.Ytgladinljapmkaa.Am

namespace Go.Proofs.Ytgladinljapmkaa.Am
open Go Go.Proofs
theorem numL_nthD {o : List Nat} (h : o.Nodup) {j : Nat} (hj : j < o.length) : numL o (nthD o j) = j := by
  unfold numL
  rw [nthD_get hj]
  have h1 := List.idxOf_lt_length_iff.2 (List.getElem_mem hj)
  have h2 := List.getElem_idxOf h1
  have h3 := List.pairwise_iff_getElem.1 h
  rcases Nat.lt_trichotomy (o.idxOf o[j]) j with h4 | h4 | h4
  · exact absurd h2 (h3 _ _ h1 hj h4)
  · exact h4
  · exact absurd h2.symm (h3 _ _ hj h1 h4)
theorem Left.top {to : List (List Int)} {o : List Nat} (h : Left to o) : numL o 0 = o.length - 1 := by
  have hl := List.length_pos_of_mem (List.mem_of_getLast? h.last)
  have h1 := numL_nthD h.nodup (j := o.length - 1) (by omega)
  have h2 : nthD o (o.length - 1) = 0 := by
    have := h.last
    rw [List.getLast?_eq_getElem?, List.getElem?_eq_getElem (by omega)] at this
    rw [nthD_get (by omega)]
    exact Option.some.inj this
  rw [h2] at h1
  exact h1
theorem nthD_dropLast {o : List Nat} {j : Nat} (h : j < o.length - 1) : nthD o.dropLast j = nthD o j := by
  rw [nthD_get (by rw [List.length_dropLast]; exact h), nthD_get (by omega), List.getElem_dropLast]
end Go.Proofs.Ytgladinljapmkaa.Am
