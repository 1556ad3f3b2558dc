/- What is needed behind a block's code, on words. -/
import Derived.Test.YtgnafgebenlffaaDoorDM
import Derived.Test.YtgnafgebenlffaaDoorDP
import Derived.Test.YtgnafgebenlffaaDoorDO
/- Graphs, as they are read: each whole number in the range of its kind. -/
namespace Go.Proofs.YtgnafgebenlffaaDoor.Am
open Go Go.Proofs
set_option maxRecDepth 10000
set_option maxHeartbeats 2000000
set_option linter.unusedVariables false
set_option linter.unusedSimpArgs false
def U32 (n : Int) : Prop := (Lit.int .u32 n).wf = true
structure Ins.wd (x : Ins) : Prop where
  op : I64 x.op
  d : I64 x.d
  a : I64 x.a
  b : I64 x.b
  f : I64 x.f
  n : U32 x.n
  args : ∀ y ∈ x.args, I64 y
  arrs : ∀ y ∈ x.arrs, I64 y
structure Case.wd (x : Case) : Prop where
  n : U32 x.n
  to : I64 x.to
structure End.wd (x : End) : Prop where
  kind : I64 x.kind
  op : I64 x.op
  a : I64 x.a
  b : I64 x.b
  n : U32 x.n
  to : I64 x.to
  els : I64 x.els
  cases : ∀ c ∈ x.cases, c.wd
  targets : ∀ y ∈ x.targets, I64 y
structure Block.wd (x : Block) : Prop where
  code : ∀ i ∈ x.code, i.wd
  fin : x.fin.wd
structure Arr.wd (x : Arr) : Prop where
  kind : I64 x.kind
  n : I64 x.n
structure Graph.wd (x : Graph) : Prop where
  params : ∀ y ∈ x.params, I64 y
  temps : I64 x.temps
  arrays : ∀ a ∈ x.arrays, a.wd
  blocks : ∀ b ∈ x.blocks, b.wd
section
variable {B n : Nat} {xs : List T} {t : TypeId}
theorem ty_intsw (h : TyC tt B n 22 xs) : ∃ l : List Int, xs = [ilist l] ∧ l.length ≤ B ∧ ∀ x ∈ l, I64 x :=
  ty_slice (f := fun n : Int => .int .i64 n) (Q := I64) (e := 3) rfl (fun n y hy => by obtain ⟨m, rfl, hm⟩ := ty_intw (k := .i64) rfl hy; exact ⟨m, hm, rfl⟩) h
theorem ty_casew (h : TyC tt B n 107 xs) : ∃ x : Case, x.wd ∧ elT tt 107 xs = x.t := by
  obtain ⟨n', c0, _, rfl, h0, c1, _, rfl, h1, rfl⟩ := ty_struct rfl h
  obtain ⟨a, rfl, ha⟩ := ty_intw (k := .u32) rfl h0
  obtain ⟨b, rfl, hb⟩ := ty_intw (k := .i64) rfl h1
  exact ⟨⟨a, b⟩, ⟨ha, hb⟩, rfl⟩
theorem ty_arrw (h : TyC tt B n 40 xs) : ∃ x : Arr, x.wd ∧ elT tt 40 xs = x.t := by
  obtain ⟨n', c0, _, rfl, h0, c1, _, rfl, h1, rfl⟩ := ty_struct rfl h
  obtain ⟨a, rfl, ha⟩ := ty_intw (k := .i64) rfl h0
  obtain ⟨b, rfl, hb⟩ := ty_intw (k := .i64) rfl h1
  exact ⟨⟨a, b⟩, ⟨ha, hb⟩, rfl⟩
theorem ty_insw (h : TyC tt B n 57 xs) : ∃ x : Ins, (x.args.length ≤ B ∧ x.arrs.length ≤ B ∧ x.wd) ∧ elT tt 57 xs = x.t := by
  obtain ⟨n', c0, _, rfl, h0, c1, _, rfl, h1, c2, _, rfl, h2, c3, _, rfl, h3, c4, _, rfl, h4, c5, _, rfl, h5, c6, _, rfl, h6, c7, _, rfl, h7, rfl⟩ := ty_struct rfl h
  obtain ⟨op, rfl, w0⟩ := ty_intw (k := .i64) rfl h0
  obtain ⟨d, rfl, w1⟩ := ty_intw (k := .i64) rfl h1
  obtain ⟨a, rfl, w2⟩ := ty_intw (k := .i64) rfl h2
  obtain ⟨b, rfl, w3⟩ := ty_intw (k := .i64) rfl h3
  obtain ⟨f, rfl, w4⟩ := ty_intw (k := .i64) rfl h4
  obtain ⟨m, rfl, w5⟩ := ty_intw (k := .u32) rfl h5
  obtain ⟨args, rfl, ha, w6⟩ := ty_intsw h6
  obtain ⟨arrs, rfl, hr, w7⟩ := ty_intsw h7
  exact ⟨⟨op, d, a, b, f, m, args, arrs⟩, ⟨ha, hr, ⟨w0, w1, w2, w3, w4, w5, w6, w7⟩⟩, rfl⟩
theorem ty_endw (h : TyC tt B n 53 xs) : ∃ x : End, x.cases.length ≤ B ∧ x.targets.length ≤ B ∧ x.wd ∧
    xs = [.int .i64 x.kind, .int .i64 x.op, .int .i64 x.a, .int .i64 x.b, .int .u32 x.n, .int .i64 x.to, .int .i64 x.els, .sl 2 (x.cases.map Case.t), .sl 1 (x.targets.map fun n => .int .i64 n)] := by
  obtain ⟨n', c0, _, rfl, h0, c1, _, rfl, h1, c2, _, rfl, h2, c3, _, rfl, h3, c4, _, rfl, h4, c5, _, rfl, h5, c6, _, rfl, h6, c7, _, rfl, h7, c8, _, rfl, h8, rfl⟩ := ty_struct rfl h
  obtain ⟨kind, rfl, w0⟩ := ty_intw (k := .i64) rfl h0
  obtain ⟨op, rfl, w1⟩ := ty_intw (k := .i64) rfl h1
  obtain ⟨a, rfl, w2⟩ := ty_intw (k := .i64) rfl h2
  obtain ⟨b, rfl, w3⟩ := ty_intw (k := .i64) rfl h3
  obtain ⟨m, rfl, w4⟩ := ty_intw (k := .u32) rfl h4
  obtain ⟨to, rfl, w5⟩ := ty_intw (k := .i64) rfl h5
  obtain ⟨els, rfl, w6⟩ := ty_intw (k := .i64) rfl h6
  obtain ⟨cs, rfl, hc, w7⟩ := ty_slice (f := Case.t) (Q := Case.wd) (e := 107) rfl (fun n y hy => ty_casew hy) h7
  obtain ⟨ts, rfl, ht, w8⟩ := ty_intsw h8
  exact ⟨⟨kind, op, a, b, m, to, els, cs, ts⟩, hc, ht, ⟨w0, w1, w2, w3, w4, w5, w6, w7, w8⟩, rfl⟩
theorem ty_blockw (hB : B ≤ 2 ^ 20) (h : TyC tt B n 55 xs) : ∃ x : Block, (x.tiny ∧ x.wd) ∧ elT tt 55 xs = x.t := by
  obtain ⟨n', c0, _, rfl, h0, c1, _, rfl, h1, rfl⟩ := ty_struct rfl h
  obtain ⟨code, rfl, hl, hc⟩ := ty_slice (f := Ins.t) (Q := fun x => x.args.length ≤ B ∧ x.arrs.length ≤ B ∧ x.wd) (e := 57) rfl (fun n y hy => ty_insw hy) h0
  obtain ⟨e, he1, he2, hew, rfl⟩ := ty_endw h1
  exact ⟨⟨code, e⟩, ⟨⟨by simp; omega, fun x hx => Nat.le_trans (hc x hx).1 hB, fun x hx => Nat.le_trans (hc x hx).2.1 hB, Nat.le_trans he1 hB, Nat.le_trans he2 hB⟩, fun x hx => (hc x hx).2.2, hew⟩, rfl⟩
theorem ty_graphwE (hB : B ≤ 2 ^ 20) (h : TyC tt B n 26 xs) : ∃ x : Graph, (x.tiny ∧ x.wd) ∧ elT tt 26 xs = x.t := by
  obtain ⟨n', c0, _, rfl, h0, c1, _, rfl, h1, c2, _, rfl, h2, c3, _, rfl, h3, rfl⟩ := ty_struct rfl h
  obtain ⟨ps, rfl, hp, w0⟩ := ty_intsw h0
  obtain ⟨m, rfl, w1⟩ := ty_intw (k := .i64) rfl h1
  obtain ⟨ar, rfl, ha, w2⟩ := ty_slice (f := Arr.t) (Q := Arr.wd) (e := 40) rfl (fun n y hy => ty_arrw hy) h2
  obtain ⟨bs, rfl, hb, hbt⟩ := ty_slice (f := Block.t) (Q := fun x => x.tiny ∧ x.wd) (e := 55) rfl (fun n y hy => ty_blockw hB hy) h3
  exact ⟨⟨ps, m, ar, bs⟩, ⟨⟨Nat.le_trans hp hB, Nat.le_trans ha hB, Nat.le_trans hb hB, fun b hb => (hbt b hb).1⟩, ⟨w0, w1, w2, fun b hb => (hbt b hb).2⟩⟩, rfl⟩
theorem ty_modulew (hB : B ≤ 2 ^ 20) (h : TyC tt B n 44 xs) : ∃ x : Module, x.tiny ∧ (∀ g ∈ x.funcs, g.wd) ∧ T.agg xs = x.t := by
  obtain ⟨n', c0, _, rfl, h0, c1, _, rfl, h1, c2, _, rfl, h2, c3, _, rfl, h3, rfl⟩ := ty_struct rfl h
  obtain ⟨gs, rfl, hg⟩ := ty_words h0
  obtain ⟨ar, rfl, ha⟩ := ty_ints h1
  obtain ⟨fs, rfl, hf, hft⟩ := ty_slice (f := Graph.t) (Q := fun x => x.tiny ∧ x.wd) (e := 26) rfl (fun n y hy => ty_graphwE hB hy) h2
  obtain ⟨m, rfl⟩ := ty_int (k := .i64) rfl h3
  exact ⟨⟨gs, ar, fs, m⟩, ⟨Nat.le_trans hg hB, Nat.le_trans ha hB, Nat.le_trans hf hB, fun g hg => (hft g hg).1⟩, fun g hg => (hft g hg).2, rfl⟩
end
theorem End.wd.all {e : End} (h : e.wd) : ∀ y ∈ allN e, I64 y := by
  intro y hy
  unfold allN at hy
  repeat' split at hy
  · rw [List.mem_singleton] at hy; subst hy; exact h.to
  · rcases List.mem_cons.1 hy with rfl | hy
    · exact h.to
    · rw [List.mem_singleton] at hy; subst hy; exact h.els
  · rcases List.mem_cons.1 hy with rfl | hy
    · exact h.to
    · obtain ⟨c, hc, rfl⟩ := List.mem_map.1 hy
      exact (h.cases c hc).to
  · rcases List.mem_cons.1 hy with rfl | hy
    · exact h.to
    · exact h.targets y hy
  · simp at hy
end Go.Proofs.YtgnafgebenlffaaDoor.Am

/- Which temps are needed, by the document's answer: one block, one instruction. -/
namespace Go.Proofs.YtgnafgebenlffaaDoor.Am
open Go Go.Proofs
set_option maxRecDepth 10000
set_option maxHeartbeats 2000000
set_option linter.unusedVariables false
set_option linter.unusedSimpArgs false
theorem nthD_range {n i : Nat} (h : i < n) : nthD (List.range n) i = i := by rw [nthD_get (by simpa using h)]; simp
def endF (g : Graph) (at' : Nat → Nat → Bool) (b t : Nat) : Bool := (nextN g b).any (fun s => at' s.toNat t) || (eUsesN (nthD g.blocks b).fin).contains (t : Int)
def backF (x : Ins) (f : Nat → Bool) (t : Nat) : Bool := (usesN x).contains (t : Int) || (f t && !(setsN x == (t : Int)))
structure Graph.fit (g : Graph) : Prop where
  tiny : g.tiny
  temps : 0 ≤ g.temps ∧ g.temps ≤ 8000
  blocks : g.blocks.length ≤ 20000
  next : ∀ b, b < g.blocks.length → ∀ s ∈ nextN g b, 0 ≤ s ∧ s < g.blocks.length
  ends : ∀ b ∈ g.blocks, ∀ t ∈ eUsesN b.fin, 0 ≤ t ∧ t < g.temps
  uses : ∀ b ∈ g.blocks, ∀ x ∈ b.code, ∀ t ∈ usesN x, 0 ≤ t ∧ t < g.temps
  sets : ∀ b ∈ g.blocks, ∀ x ∈ b.code, -1 ≤ setsN x ∧ setsN x < g.temps
theorem eUses_len {e : End} : (eUsesN e).length ≤ 2 := by
  unfold eUsesN
  repeat' split
  all_goals simp
theorem next_len {g : Graph} (hg : g.tiny) (b : Int) : (nextN g b).length ≤ 2 ^ 21 := by
  unfold nextN
  split
  · exact Nat.le_trans (srt_length _) (all_len (block_tiny g hg _))
  · simp
theorem take_any {l : List Int} {p : Int → Bool} {i : Nat} (h : i < l.length) : (l.take (i + 1)).any p = ((l.take i).any p || p (nthD l i)) := by
  rw [take_succ_nthD h, List.any_append]; simp
theorem take_contains {l : List Int} {t : Int} {i : Nat} (h : i < l.length) : (l.take (i + 1)).contains t = ((l.take i).contains t || (t == nthD l i)) := by
  rw [take_succ_nthD h, List.contains_eq_any_beq, List.contains_eq_any_beq, List.any_append]; simp
end Go.Proofs.YtgnafgebenlffaaDoor.Am

/- Which temps are needed ahead of an instruction, by the document's answer. -/
namespace Go.Proofs.YtgnafgebenlffaaDoor.Am
open Go Go.Proofs
set_option maxRecDepth 10000
set_option maxHeartbeats 2000000
set_option linter.unusedVariables false
set_option linter.unusedSimpArgs false
abbrev ivar (x : Ins) : SObj := .var 57 [.t (.int .i64 x.op), .t (.int .i64 x.d), .t (.int .i64 x.a), .t (.int .i64 x.b), .t (.int .i64 x.f), .t (.int .u32 x.n), .t (ilist x.args), .t (ilist x.arrs)]
theorem uses_len {x : Ins} (h : x.args.length ≤ 2 ^ 20) : (usesN x).length ≤ 2 ^ 20 := by
  unfold usesN
  repeat' split
  all_goals first | exact h | simp
end Go.Proofs.YtgnafgebenlffaaDoor.Am

/- The least answer of 'needed' in plain words. -/
namespace Go.Proofs.YtgnafgebenlffaaDoor.Am
open Go Go.Proofs
set_option maxRecDepth 10000
set_option maxHeartbeats 2000000
set_option linter.unusedVariables false
set_option linter.unusedSimpArgs false
def stepC (code : List Ins) (f : Nat → Bool) : Nat → Bool := code.foldr (fun x f => backF x f) f
def stepF (g : Graph) (at' : Nat → Nat → Bool) (b : Nat) : Nat → Bool := stepC (nthD g.blocks b).code (endF g at' b)
theorem stepC_cons {x : Ins} {l : List Ins} {f : Nat → Bool} : stepC (x :: l) f = backF x (stepC l f) := rfl
theorem drop_nthD {α : Type} [Inhabited α] {l : List α} {i : Nat} (h : i < l.length) : l.drop i = nthD l i :: l.drop (i + 1) := by rw [nthD_get h]; exact List.drop_eq_getElem_cons h
theorem backF_mono {x : Ins} {f f' : Nat → Bool} {t : Nat} (h : f t = true → f' t = true) : backF x f t = true → backF x f' t = true := by
  unfold backF
  simp only [Bool.or_eq_true, Bool.and_eq_true]
  rintro (h1 | ⟨h1, h2⟩)
  · exact .inl h1
  · exact .inr ⟨h h1, h2⟩
theorem stepC_mono {l : List Ins} {f f' : Nat → Bool} {t : Nat} (h : f t = true → f' t = true) : stepC l f t = true → stepC l f' t = true := by
  induction l with
  | nil => exact h
  | cons x l ih => exact backF_mono ih
def LeB (m n : Nat) (a b : Nat → Nat → Bool) : Prop := ∀ i, i < m → ∀ t, t < n → a i t = true → b i t = true
theorem LeB.refl {m n : Nat} {a : Nat → Nat → Bool} : LeB m n a a := fun _ _ _ _ h => h
theorem LeB.trans {m n : Nat} {a b c : Nat → Nat → Bool} (h : LeB m n a b) (k : LeB m n b c) : LeB m n a c := fun i hi t ht h1 => k i hi t ht (h i hi t ht h1)
theorem endF_mono {g : Graph} (hg : ∀ b, b < g.blocks.length → ∀ s ∈ nextN g b, 0 ≤ s ∧ s < g.blocks.length) {n : Nat} {a a' : Nat → Nat → Bool} (h : LeB g.blocks.length n a a') {b t : Nat} (hb : b < g.blocks.length) (ht : t < n) : endF g a b t = true → endF g a' b t = true := by
  unfold endF
  simp only [Bool.or_eq_true, List.any_eq_true]
  rintro (⟨s, hs, h1⟩ | h1)
  · have := hg b hb s hs
    exact .inl ⟨s, hs, h _ (by omega) t ht h1⟩
  · exact .inr h1
theorem stepF_mono {g : Graph} (hg : ∀ b, b < g.blocks.length → ∀ s ∈ nextN g b, 0 ≤ s ∧ s < g.blocks.length) {n : Nat} {a a' : Nat → Nat → Bool} (h : LeB g.blocks.length n a a') {b t : Nat} (hb : b < g.blocks.length) (ht : t < n) : stepF g a b t = true → stepF g a' b t = true :=
  stepC_mono (endF_mono hg h hb ht)
structure Way (g : Graph) (n : Nat) (a : Nat → Nat → Bool) : Prop where
  up : LeB g.blocks.length n a (stepF g a)
  least : ∀ p, LeB g.blocks.length n (stepF g p) p → LeB g.blocks.length n a p
structure Least (g : Graph) (n : Nat) (a : Nat → Nat → Bool) : Prop extends Way g n a where
  down : LeB g.blocks.length n (stepF g a) a
def setRow (a : Nat → Nat → Bool) (b : Nat) (f : Nat → Bool) : Nat → Nat → Bool := fun i => if i = b then f else a i
theorem Way.zero (g : Graph) (n : Nat) : Way g n fun _ _ => false := ⟨fun _ _ _ _ h => (nomatch h), fun _ _ _ _ _ _ h => (nomatch h)⟩
theorem Way.step_le {g : Graph} {n : Nat} {a : Nat → Nat → Bool} (h : Way g n a) {b : Nat} (hb : b < g.blocks.length) : LeB g.blocks.length n a (setRow a b (stepF g a b)) := by
  intro i hi t ht h1
  unfold setRow
  by_cases e : i = b
  · rw [if_pos e]; subst e; exact h.up _ hi t ht h1
  · rw [if_neg e]; exact h1
theorem Way.step {g : Graph} (hg : ∀ b, b < g.blocks.length → ∀ s ∈ nextN g b, 0 ≤ s ∧ s < g.blocks.length) {n : Nat} {a : Nat → Nat → Bool} (h : Way g n a) {b : Nat} (hb : b < g.blocks.length) : Way g n (setRow a b (stepF g a b)) := by
  have hle := h.step_le hb
  refine ⟨fun i hi t ht h1 => ?_, fun p hp i hi t ht h1 => ?_⟩
  · refine stepF_mono hg hle hi ht ?_
    unfold setRow at h1
    by_cases e : i = b
    · rw [if_pos e] at h1; rw [e]; exact h1
    · rw [if_neg e] at h1; exact h.up i hi t ht h1
  · unfold setRow at h1
    by_cases e : i = b
    · rw [if_pos e] at h1
      subst e
      exact hp _ hi t ht (stepF_mono hg (h.least p hp) hi ht h1)
    · rw [if_neg e] at h1; exact h.least p hp i hi t ht h1
def outs (m n : Nat) (a : Nat → Nat → Bool) : Nat := ((List.range m).map fun i => (List.range n).countP fun t => !a i t).sum
theorem countP_le {n : Nat} {f g : Nat → Bool} (h : ∀ t, t < n → f t = true → g t = true) : (List.range n).countP (fun t => !g t) ≤ (List.range n).countP (fun t => !f t) := by
  apply List.countP_mono_left
  intro t ht h1
  have := h t (by simpa using ht)
  cases hf : f t with
  | false => rfl
  | true => rw [this hf] at h1; exact h1
theorem countP_lt : ∀ {l : List Nat} {f g : Nat → Bool} (h : ∀ t ∈ l, f t = true → g t = true) {t : Nat} (ht : t ∈ l) (h1 : f t = false) (h2 : g t = true), l.countP (fun t => !g t) < l.countP (fun t => !f t)
  | x :: l, f, g, h, t, ht, h1, h2 => by
    have hle : l.countP (fun t => !g t) ≤ l.countP (fun t => !f t) := by
      apply List.countP_mono_left
      intro u hu h3
      have := h u (List.mem_cons_of_mem _ hu)
      cases hf : f u with
      | false => rfl
      | true => rw [this hf] at h3; exact h3
    rw [List.countP_cons, List.countP_cons]
    rcases List.mem_cons.1 ht with rfl | ht
    · rw [h1, h2]; simp; omega
    · have := countP_lt (fun u hu => h u (List.mem_cons_of_mem _ hu)) ht h1 h2
      have hx := h x (List.mem_cons_self ..)
      cases hf : f x with
      | false => cases hg : g x <;> simp <;> omega
      | true => rw [hx hf]; simp; omega
theorem sum_le : ∀ {l : List Nat} {F G : Nat → Nat} (h : ∀ i ∈ l, F i ≤ G i), (l.map F).sum ≤ (l.map G).sum
  | [], _, _, _ => Nat.le_refl _
  | x :: l, F, G, h => by
    have := sum_le (l := l) (F := F) (G := G) fun i hi => h i (List.mem_cons_of_mem _ hi)
    have := h x (List.mem_cons_self ..)
    simp only [List.map_cons, List.sum_cons]; omega
theorem sum_lt : ∀ {l : List Nat} {F G : Nat → Nat} (h : ∀ i ∈ l, F i ≤ G i) {i : Nat} (hi : i ∈ l) (h1 : F i < G i), (l.map F).sum < (l.map G).sum
  | x :: l, F, G, h, i, hi, h1 => by
    have hle := sum_le (l := l) (F := F) (G := G) fun i hi => h i (List.mem_cons_of_mem _ hi)
    have hx := h x (List.mem_cons_self ..)
    simp only [List.map_cons, List.sum_cons]
    rcases List.mem_cons.1 hi with rfl | hi
    · omega
    · have := sum_lt (fun i hi => h i (List.mem_cons_of_mem _ hi)) hi h1; omega
theorem outs_le {m n : Nat} {a b : Nat → Nat → Bool} (h : LeB m n a b) : outs m n b ≤ outs m n a :=
  sum_le fun i hi => countP_le fun t ht => h i (by simpa using hi) t ht
theorem outs_lt {m n : Nat} {a b : Nat → Nat → Bool} (h : LeB m n a b) {i t : Nat} (hi : i < m) (ht : t < n) (h1 : a i t ≠ b i t) : outs m n b < outs m n a := by
  have ha : a i t = false := by
    cases ha : a i t with
    | false => rfl
    | true => exact absurd (ha.trans (h i hi t ht ha).symm) h1
  have hb : b i t = true := by
    cases hb : b i t with
    | true => rfl
    | false => exact absurd (ha.trans hb.symm) h1
  exact sum_lt (fun i hi => countP_le fun t ht => h i (by simpa using hi) t ht) (i := i) (by simpa using hi)
    (countP_lt (fun t ht => h i hi t (by simpa using ht)) (t := t) (by simpa using ht) ha hb)
theorem Least.one {g : Graph} {n : Nat} {a b : Nat → Nat → Bool} (ha : Least g n a) (hb : Least g n b) {i t : Nat} (hi : i < g.blocks.length) (ht : t < n) : a i t = b i t := by
  rw [Bool.eq_iff_iff]
  exact ⟨ha.least b hb.down i hi t ht, hb.least a ha.down i hi t ht⟩
end Go.Proofs.YtgnafgebenlffaaDoor.Am

/- All that is needed, by the document's answer. -/
namespace Go.Proofs.YtgnafgebenlffaaDoor.Am
open Go Go.Proofs
set_option maxRecDepth 10000
set_option maxHeartbeats 2000000
set_option linter.unusedVariables false
set_option linter.unusedSimpArgs false
end Go.Proofs.YtgnafgebenlffaaDoor.Am

/- Whether a graph fits, by the document's answer. -/
namespace Go.Proofs.YtgnafgebenlffaaDoor.Am
open Go Go.Proofs
set_option maxRecDepth 10000
set_option maxHeartbeats 2000000
set_option linter.unusedVariables false
set_option linter.unusedSimpArgs false
noncomputable def tr (p : Prop) : Bool := @decide p (Classical.propDecidable p)
theorem tr_t {p : Prop} (h : p) : tr p = true := by unfold tr; exact @decide_eq_true p (Classical.propDecidable p) h
theorem tr_f {p : Prop} (h : ¬ p) : tr p = false := by unfold tr; exact @decide_eq_false p (Classical.propDecidable p) h
theorem tr_iff {p : Prop} : tr p = true ↔ p := by
  constructor
  · intro h
    exact Classical.byContradiction fun h2 => by rw [tr_f h2] at h; cases h
  · exact tr_t
structure Graph.leads (g : Graph) : Prop where
  one : 1 ≤ g.blocks.length
  most : g.blocks.length ≤ 20000
  next : ∀ b : Nat, b < g.blocks.length → ∀ s ∈ nextN g b, bel s g.blocks.length = true
end Go.Proofs.YtgnafgebenlffaaDoor.Am

/- Whether a graph fits, by the document's answer. -/
namespace Go.Proofs.YtgnafgebenlffaaDoor.Am
open Go Go.Proofs
set_option maxRecDepth 10000
set_option maxHeartbeats 2000000
set_option linter.unusedVariables false
set_option linter.unusedSimpArgs false
def insOk (n : Int) (x : Ins) : Bool := decide (1 ≤ x.op ∧ x.op ≤ 32) && (usesN x).all (fun t => bel t n) && (decide (x.op = 26 ∨ x.op = 28 ∨ x.op = 31 ∨ x.op = 32 ∨ (x.op = 29 ∧ x.d = -1)) || bel x.d n)
def endOk (n : Int) (e : End) : Bool := decide (1 ≤ e.kind ∧ e.kind ≤ 5) && (eUsesN e).all fun t => bel t n
structure Graph.fits (g : Graph) : Prop extends g.leads where
  temps : 0 ≤ g.temps ∧ g.temps ≤ 8000
  ins : ∀ b ∈ g.blocks, ∀ x ∈ b.code, insOk g.temps x = true
  fin : ∀ b ∈ g.blocks, endOk g.temps b.fin = true
theorem setsN_eq {x : Ins} (h : 1 ≤ x.op ∧ x.op ≤ 32) : setsN x = if x.op = 26 ∨ x.op = 28 ∨ x.op = 31 ∨ x.op = 32 then -1 else x.d := by
  unfold setsN kindN
  repeat' split
  all_goals first | rfl | omega
theorem insBad {x : Ins} {n : Int} (h : (bif ltI x.op 1 then true else ltI 32 x.op) = true) : insOk n x = false := by
  unfold insOk
  simp only [bif_or, Bool.or_eq_true, ltI_iff] at h
  have : decide (1 ≤ x.op ∧ x.op ≤ 32) = false := by rw [decide_eq_false_iff_not]; omega
  rw [this]; rfl
theorem endGood {e : End} {n : Int} {b : Bool} (h : (bif bif ltI e.kind 1 then true else ltI 5 e.kind then true else !(eUsesN e).all fun t => bel t n) = b) : endOk n e = !b := by
  subst h
  unfold endOk
  have : (bif ltI e.kind 1 then true else ltI 5 e.kind) = !decide (1 ≤ e.kind ∧ e.kind ≤ 5) := by
    rw [Bool.eq_iff_iff]
    simp only [bif_or, Bool.or_eq_true, ltI_iff, Bool.not_eq_true', decide_eq_false_iff_not]
    omega
  rw [this]
  cases decide (1 ≤ e.kind ∧ e.kind ≤ 5) <;> cases (eUsesN e).all (fun t => bel t n) <;> rfl
theorem not_ins {g : Graph} {i j : Nat} (hi : i < g.blocks.length) (hj : j < (nthD g.blocks i).code.length) (h : insOk g.temps (nthD (nthD g.blocks i).code j) = false) : T.bool false = .bool (tr g.fits) := by
  rw [tr_f]
  intro hf
  rw [hf.ins _ (nthD_mem hi) _ (nthD_mem hj)] at h; cases h
theorem not_end {g : Graph} {i : Nat} (hi : i < g.blocks.length) (h : endOk g.temps (nthD g.blocks i).fin = false) : T.bool false = .bool (tr g.fits) := by
  rw [tr_f]
  intro hf
  rw [hf.fin _ (nthD_mem hi)] at h; cases h
end Go.Proofs.YtgnafgebenlffaaDoor.Am

/- What is needed at each block's beginning, by the document's answer. -/
namespace Go.Proofs.YtgnafgebenlffaaDoor.Am
open Go Go.Proofs
set_option maxRecDepth 10000
set_option maxHeartbeats 2000000
set_option linter.unusedVariables false
set_option linter.unusedSimpArgs false
theorem fits_fit {g : Graph} (hg : g.tiny) (h : g.fits) : g.fit := by
  refine ⟨hg, h.temps, h.most, ?_, ?_, ?_, ?_⟩
  · intro b hb s hs
    have := h.next b hb s hs
    rw [bel_iff] at this
    omega
  · intro b hb t ht
    have := h.fin b hb
    unfold endOk at this
    rw [Bool.and_eq_true, List.all_eq_true] at this
    have := this.2 t ht
    rw [bel_iff] at this
    omega
  · intro b hb x hx t ht
    have := h.ins b hb x hx
    unfold insOk at this
    rw [Bool.and_eq_true, Bool.and_eq_true, List.all_eq_true] at this
    have := this.1.2 t ht
    rw [bel_iff] at this
    omega
  · intro b hb x hx
    have h0 := h.temps
    have := h.ins b hb x hx
    unfold insOk at this
    rw [Bool.and_eq_true, Bool.and_eq_true, decide_eq_true_eq, Bool.or_eq_true, decide_eq_true_eq, bel_iff] at this
    rw [setsN_eq this.1.1]
    have := this.2
    split <;> omega
def liveN (n : Nat) (f : Nat → Bool) : List Int := ((List.range n).filter f).map Int.ofNat
theorem liveN_succ {n : Nat} {f : Nat → Bool} : liveN (n + 1) f = liveN n f ++ (if f n = true then [(n : Int)] else []) := by
  unfold liveN
  rw [List.range_succ, List.filter_append, List.map_append]
  congr 1
  by_cases h : f n = true
  · rw [if_pos h]; simp [h]
  · rw [if_neg h]; simp [h]
theorem liveN_len {n : Nat} {f : Nat → Bool} : (liveN n f).length ≤ n := by
  unfold liveN
  rw [List.length_map]
  exact Nat.le_trans (List.length_filter_le _ _) (by simp)
end Go.Proofs.YtgnafgebenlffaaDoor.Am

/- Words of bits. -/
namespace Go.Proofs.YtgnafgebenlffaaDoor.Am
open Go Go.Proofs
set_option maxRecDepth 10000
set_option maxHeartbeats 2000000
set_option linter.unusedVariables false
set_option linter.unusedSimpArgs false
def natB : Nat → (Nat → Bool) → Nat
  | 0, _ => 0
  | n + 1, p => natB n p + (if p n = true then 2 ^ n else 0)
theorem natB_lt : ∀ n p, natB n p < 2 ^ n
  | 0, _ => by simp [natB]
  | n + 1, p => by
    have := natB_lt n p
    simp only [natB, Nat.pow_succ]
    split <;> omega
theorem natB_bit : ∀ n p j, (natB n p).testBit j = (decide (j < n) && p j)
  | 0, p, j => by simp [natB]
  | n + 1, p, j => by
    have ih := natB_bit n p j
    have hlt := natB_lt n p
    simp only [natB]
    by_cases hp : p n = true
    · rw [if_pos hp, Nat.add_comm, ← Nat.one_mul (2 ^ n), Nat.mul_comm, Nat.testBit_two_pow_mul_add 1 hlt]
      by_cases h : j < n
      · rw [if_pos h, ih]; simp [h]; omega
      · rw [if_neg h]
        by_cases e : j = n
        · subst e; simp [hp]
        · have h1 : ¬ j < n + 1 := by omega
          have : j - n ≠ 0 := by omega
          have h2 : Nat.testBit 1 (j - n) = false := Nat.testBit_lt_two_pow (by have := Nat.pow_le_pow_right (n := 2) (by omega) (show 1 ≤ j - n by omega); omega)
          rw [h2]; simp [h1]
    · rw [if_neg hp, Nat.add_zero, ih]
      by_cases e : j = n
      · subst e; simp [hp]
      · by_cases h : j < n
        · simp [h]; omega
        · have h1 : ¬ j < n + 1 := by omega
          simp [h, h1]
theorem natB_eq {n : Nat} {p q : Nat → Bool} (h : ∀ j, j < n → p j = q j) : natB n p = natB n q := by
  apply Nat.eq_of_testBit_eq
  intro j
  rw [natB_bit, natB_bit]
  by_cases hj : j < n
  · rw [h j hj]
  · simp [hj]
theorem natB_of {n x : Nat} {p : Nat → Bool} (hx : x < 2 ^ n) (h : ∀ j, j < n → x.testBit j = p j) : x = natB n p := by
  apply Nat.eq_of_testBit_eq
  intro j
  rw [natB_bit]
  by_cases hj : j < n
  · rw [h j hj]; simp [hj]
  · rw [Nat.testBit_lt_two_pow (Nat.lt_of_lt_of_le hx (Nat.pow_le_pow_right (by omega) (by omega)))]; simp [hj]
theorem wrap_u64 {x : Nat} (h : x < 2 ^ 64) : IntKind.wrap .u64 (x : Int) = x := by
  simp only [IntKind.wrap, IntKind.bits, IntKind.signed]
  simp
  omega
theorem bv_u64 {x : Nat} (h : x < 2 ^ 64) : (BitVec.ofInt (IntKind.bits .u64) (x : Int)).toNat = x := by
  show (BitVec.ofInt 64 (x : Int)).toNat = x
  rw [BitVec.toNat_ofInt]
  have : ((x : Int) % ((2 ^ 64 : Nat) : Int)).toNat = x := by omega
  exact this
theorem orI_u64 {x y : Nat} (hx : x < 2 ^ 64) (hy : y < 2 ^ 64) : orI .u64 (x : Int) y = ((x ||| y : Nat) : Int) := by
  unfold orI
  rw [BitVec.toNat_or, bv_u64 hx, bv_u64 hy]
  exact wrap_u64 (Nat.or_lt_two_pow hx hy)
theorem andI_u64 {x y : Nat} (hx : x < 2 ^ 64) (hy : y < 2 ^ 64) : andI .u64 (x : Int) y = ((x &&& y : Nat) : Int) := by
  unfold andI
  rw [BitVec.toNat_and, bv_u64 hx, bv_u64 hy]
  exact wrap_u64 (Nat.and_lt_two_pow _ hy)
theorem andnI_u64 {x y : Nat} (hx : x < 2 ^ 64) (hy : y < 2 ^ 64) : ∃ z : Nat, andnI .u64 (x : Int) y = (z : Int) ∧ z < 2 ^ 64 ∧ ∀ j, j < 64 → z.testBit j = (x.testBit j && !y.testBit j) := by
  refine ⟨(BitVec.ofInt 64 (x : Int) &&& ~~~(BitVec.ofInt 64 (y : Int))).toNat, ?_, BitVec.isLt _, fun j hj => ?_⟩
  · unfold andnI
    exact wrap_u64 (BitVec.isLt _)
  · have e : ∀ z : Nat, z < 2 ^ 64 → (BitVec.ofInt 64 (z : Int)).getLsbD j = z.testBit j := fun z hz => by
      rw [← BitVec.testBit_toNat, show (BitVec.ofInt 64 (z : Int)).toNat = z from bv_u64 hz]
    rw [BitVec.testBit_toNat, BitVec.getLsbD_and, BitVec.getLsbD_not, e x hx, e y hy]
    simp [hj]
theorem shlI_u64 {r : Nat} (h : r < 64) : shlI .u64 1 (r : Int) = ((2 ^ r : Nat) : Int) := by
  unfold shlI
  have : min ((r : Int).toNat) (IntKind.bits .u64) = r := by show min r 64 = r; omega
  rw [this, Int.one_mul]
  have := wrap_u64 (x := 2 ^ r) (Nat.pow_lt_pow_right (by omega) h)
  rw [← this]
  norm_cast
end Go.Proofs.YtgnafgebenlffaaDoor.Am

/- Sets of temps as words. -/
namespace Go.Proofs.YtgnafgebenlffaaDoor.Am
open Go Go.Proofs
set_option maxRecDepth 10000
set_option maxHeartbeats 2000000
set_option linter.unusedVariables false
set_option linter.unusedSimpArgs false
def wordB (p : Nat → Bool) (i : Nat) : Nat := natB 64 fun j => p (64 * i + j)
abbrev wordN (p : Nat → Bool) (i : Nat) : Int := (wordB p i : Nat)
theorem wordB_lt {p : Nat → Bool} {i : Nat} : wordB p i < 2 ^ 64 := natB_lt _ _
theorem wordB_bit {p : Nat → Bool} {i j : Nat} (h : j < 64) : (wordB p i).testBit j = p (64 * i + j) := by unfold wordB; rw [natB_bit]; simp [h]
theorem wordB_of {x i : Nat} {p : Nat → Bool} (hx : x < 2 ^ 64) (h : ∀ j, j < 64 → x.testBit j = p (64 * i + j)) : x = wordB p i := natB_of hx h
abbrev wordsT (p : Nat → Bool) : List T := (List.range 125).map fun i => .int .u64 (wordN p i)
theorem word_or {p q : Nat → Bool} {i : Nat} : orI .u64 (wordN p i) (wordN q i) = wordN (fun t => p t || q t) i := by
  rw [orI_u64 wordB_lt wordB_lt]
  congr 1
  refine wordB_of (Nat.or_lt_two_pow wordB_lt wordB_lt) fun j hj => ?_
  rw [Nat.testBit_or, wordB_bit hj, wordB_bit hj]
theorem pow_bit {r j : Nat} : (2 ^ r).testBit j = decide (r = j) := by rw [Nat.testBit_two_pow]
theorem word_add {p : Nat → Bool} {t : Nat} : orI .u64 (wordN p (t / 64)) (shlI .u64 1 ((t % 64 : Nat) : Int)) = wordN (fun u => if u = t then true else p u) (t / 64) := by
  rw [shlI_u64 (Nat.mod_lt _ (by omega))]
  have h2 : 2 ^ (t % 64) < 2 ^ 64 := Nat.pow_lt_pow_right (by omega) (Nat.mod_lt _ (by omega))
  rw [orI_u64 wordB_lt h2]
  congr 1
  refine wordB_of (Nat.or_lt_two_pow wordB_lt h2) fun j hj => ?_
  rw [Nat.testBit_or, wordB_bit hj, pow_bit]
  by_cases e : 64 * (t / 64) + j = t
  · rw [if_pos e]
    have : t % 64 = j := by omega
    simp [this]
  · rw [if_neg e]
    have : ¬ t % 64 = j := by omega
    simp [this]
theorem word_drop {p : Nat → Bool} {t : Nat} : andnI .u64 (wordN p (t / 64)) (shlI .u64 1 ((t % 64 : Nat) : Int)) = wordN (fun u => if u = t then false else p u) (t / 64) := by
  rw [shlI_u64 (Nat.mod_lt _ (by omega))]
  have h2 : 2 ^ (t % 64) < 2 ^ 64 := Nat.pow_lt_pow_right (by omega) (Nat.mod_lt _ (by omega))
  obtain ⟨z, h, hz, hb⟩ := andnI_u64 (x := wordB p (t / 64)) wordB_lt h2
  rw [h]
  congr 1
  refine wordB_of hz fun j hj => ?_
  rw [hb j hj, wordB_bit hj, pow_bit]
  by_cases e : 64 * (t / 64) + j = t
  · rw [if_pos e]
    have : t % 64 = j := by omega
    simp [this]
  · rw [if_neg e]
    have : ¬ t % 64 = j := by omega
    simp [this]
theorem wordsT_set {p q : Nat → Bool} {i : Nat} (h : ∀ t, t / 64 ≠ i → p t = q t) : (wordsT p).set i (.int .u64 (wordN q i)) = wordsT q := by
  apply List.ext_getElem
  · simp
  · intro j h1 h2
    rw [List.getElem_set]
    simp only [List.getElem_map, List.getElem_range]
    by_cases e : i = j
    · subst e; simp
    · rw [if_neg e]
      have : wordB p j = wordB q j := natB_eq fun k hk => h _ (by omega)
      rw [wordN, wordN, this]
theorem wordsT_congr {p q : Nat → Bool} (h : ∀ t, t < 8000 → p t = q t) : wordsT p = wordsT q := by
  apply List.map_congr_left
  intro i hi
  have hi : i < 125 := by simpa using hi
  have : wordB p i = wordB q i := natB_eq fun k hk => h _ (by omega)
  rw [wordN, wordN, this]
theorem wordsT_inj {p q : Nat → Bool} (h : wordsT p = wordsT q) {t : Nat} (ht : t < 8000) : p t = q t := by
  have h1 : (wordsT p)[t / 64]? = (wordsT q)[t / 64]? := by rw [h]
  have hlt : t / 64 < 125 := by omega
  rw [List.getElem?_map, List.getElem?_map, List.getElem?_range hlt] at h1
  simp only [Option.map_some, Option.some.injEq, T.int.injEq, true_and] at h1
  have h2 : wordB p (t / 64) = wordB q (t / 64) := Int.ofNat.inj h1
  have hm : t % 64 < 64 := Nat.mod_lt _ (by omega)
  have h3 := wordB_bit (p := p) (i := t / 64) hm
  rw [h2, wordB_bit hm, Nat.div_add_mod] at h3
  exact h3.symm
theorem quo64 {t : Nat} (h : t < 8000) : quoI .i64 (t : Int) 64 = ((t / 64 : Nat) : Int) := by
  unfold quoI
  have : (t : Int).tdiv 64 = ((t / 64 : Nat) : Int) := rfl
  rw [this]
  simp only [IntKind.wrap, IntKind.bits, IntKind.signed]
  simp
  omega
theorem rem64 {t : Nat} : remI (t : Int) 64 = ((t % 64 : Nat) : Int) := by
  unfold remI
  rfl
theorem add79 (p : Nat → Bool) (t : Nat) (ht : t < 8000) : ICalls Tryd.prog 81 [.pl 0 0 [] 0 0, .t (.int .i64 t)] [.row 102 1 (wordsT p)] (fun v σ => Ob (v = .tup [] ∧ σ = [.row 102 1 (wordsT fun u => if u = t then true else p u)])) := by
  refine ICalls.inline (I := fun _ => false) ttOk Tryd.func81 rfl ?_
  repeat' ((conv => whnf); first | (with_reducible first | refine onBool_intro (fun _ => ?_) (fun _ => ?_) | refine And.intro (Ob.mk (Nat.le_of_ble_eq_true rfl)) ?_ | refine And.intro (Ob.mk rfl) ?_ | exact ⟨rfl, rfl⟩ | refine And.intro (Ob.mk (fun h => h)) ?_) | (with_reducible refine Or.inl (And.intro (Ob.mk (Flat.map ?_)) ?_); exact fun _ => rfl) | (refine Or.inl (And.intro (Ob.mk (flat_of rfl)) ?_)) | (refine Or.inl (And.intro (Ob.mk ⟨rfl, rfl, rfl, rfl⟩) ?_)) | (refine Or.inl (And.intro (Ob.mk ⟨rfl, rfl, rfl⟩) ?_)) | (refine And.intro (Ob.mk ⟨rfl, rfl⟩) ?_) | (with_reducible refine Or.inr ?_) | (refine And.intro (Ob.mk (flat_of rfl)) ?_) | (with_reducible refine And.intro (Ob.mk (Flat.map ?_)) ?_; exact fun _ => rfl) | (with_reducible first | exact Ob.mk (Flat.map fun _ => rfl) | refine And.intro ?_ ?_ | apply exG.mk | apply exGS.mk | exact Dd.nil) | (refine Dd.same _ ?_) | (refine Dd.dead _ ?_) | (with_reducible first | apply exQ.mk | apply exP.mk) | (refine EqP.mk rfl rfl) | (with_reducible apply exW.mk) | (refine EqW.mk rfl) | (with_reducible first | intro _ | refine Dn.mk ?_) | (refine exS.full (by first | rfl | (simp; done) | (simp; omega)) ?_) | (refine And.intro (Ob.mk ⟨rfl, rfl, by first | rfl | (simp; done) | (simp; omega)⟩) ?_) | (with_reducible refine exE.mapD ?_) | (refine exL.int ?_) | (with_reducible first | refine Up0.mk rfl ?_ | refine Up0i.mk rfl ?_ | refine Up1.mk rfl ?_ | refine Up1i.mk rfl ?_ | refine Up2.mk rfl ?_ | refine Up2i.mk rfl ?_) | (refine Col.mk rfl rfl rfl ?_) | (refine Coli.mk rfl rfl rfl rfl ?_) | (refine drawVC.mkM _ _ 13 13 [(12, [])] [[], [], [1], [0], [0, 1, 2, 3], [0, 1, 2, 3, 4], [], [6], [6, 7], [0, 1, 2, 3, 4, 5, 6, 7, 8], [0], [0, 1, 2, 3, 4, 5, 6, 7, 8, 9, 10], [0, 1, 2, 3, 4, 5, 6, 7, 8, 9, 10, 11]] rfl (by kernel_rfl) ?_))
  all_goals (try exact Ob.mk (by decide))
  all_goals (try (refine Ob.mk ?_; first | (rw [rem64]; omega) | (rw [quo64 ht]; (try simp only [List.length_map, List.length_range]); omega)))
  conv => whnf
  refine Ob.mk ⟨rfl, ?_⟩
  rw [quo64 ht, rem64, Int.toNat_natCast, Nat.zero_add, nthD_range (by omega)]
  refine congrArg (fun z => [SObj.row 102 1 z]) (Eq.trans (congrArg (fun z => (wordsT p).set (t / 64) (.int .u64 z)) word_add) (wordsT_set fun u hu => ?_))
  rw [if_neg]
  omega
theorem drop82 (p : Nat → Bool) (t : Nat) (ht : t < 8000) : ICalls Tryd.prog 83 [.pl 0 0 [] 0 0, .t (.int .i64 t)] [.row 102 1 (wordsT p)] (fun v σ => Ob (v = .tup [] ∧ σ = [.row 102 1 (wordsT fun u => if u = t then false else p u)])) := by
  refine ICalls.inline (I := fun _ => false) ttOk Tryd.func83 rfl ?_
  repeat' ((conv => whnf); first | (with_reducible first | refine onBool_intro (fun _ => ?_) (fun _ => ?_) | refine And.intro (Ob.mk (Nat.le_of_ble_eq_true rfl)) ?_ | refine And.intro (Ob.mk rfl) ?_ | exact ⟨rfl, rfl⟩ | refine And.intro (Ob.mk (fun h => h)) ?_) | (with_reducible refine Or.inl (And.intro (Ob.mk (Flat.map ?_)) ?_); exact fun _ => rfl) | (refine Or.inl (And.intro (Ob.mk (flat_of rfl)) ?_)) | (refine Or.inl (And.intro (Ob.mk ⟨rfl, rfl, rfl, rfl⟩) ?_)) | (refine Or.inl (And.intro (Ob.mk ⟨rfl, rfl, rfl⟩) ?_)) | (refine And.intro (Ob.mk ⟨rfl, rfl⟩) ?_) | (with_reducible refine Or.inr ?_) | (refine And.intro (Ob.mk (flat_of rfl)) ?_) | (with_reducible refine And.intro (Ob.mk (Flat.map ?_)) ?_; exact fun _ => rfl) | (with_reducible first | exact Ob.mk (Flat.map fun _ => rfl) | refine And.intro ?_ ?_ | apply exG.mk | apply exGS.mk | exact Dd.nil) | (refine Dd.same _ ?_) | (refine Dd.dead _ ?_) | (with_reducible first | apply exQ.mk | apply exP.mk) | (refine EqP.mk rfl rfl) | (with_reducible apply exW.mk) | (refine EqW.mk rfl) | (with_reducible first | intro _ | refine Dn.mk ?_) | (refine exS.full (by first | rfl | (simp; done) | (simp; omega)) ?_) | (refine And.intro (Ob.mk ⟨rfl, rfl, by first | rfl | (simp; done) | (simp; omega)⟩) ?_) | (with_reducible refine exE.mapD ?_) | (refine exL.int ?_) | (with_reducible first | refine Up0.mk rfl ?_ | refine Up0i.mk rfl ?_ | refine Up1.mk rfl ?_ | refine Up1i.mk rfl ?_ | refine Up2.mk rfl ?_ | refine Up2i.mk rfl ?_) | (refine Col.mk rfl rfl rfl ?_) | (refine Coli.mk rfl rfl rfl rfl ?_) | (refine drawVC.mkM _ _ 13 13 [(12, [])] [[], [], [1], [0], [0, 1, 2, 3], [0, 1, 2, 3, 4], [], [6], [6, 7], [0, 1, 2, 3, 4, 5, 6, 7, 8], [0], [0, 1, 2, 3, 4, 5, 6, 7, 8, 9, 10], [0, 1, 2, 3, 4, 5, 6, 7, 8, 9, 10, 11]] rfl (by kernel_rfl) ?_))
  all_goals (try exact Ob.mk (by decide))
  all_goals (try (refine Ob.mk ?_; first | (rw [rem64]; omega) | (rw [quo64 ht]; (try simp only [List.length_map, List.length_range]); omega)))
  conv => whnf
  refine Ob.mk ⟨rfl, ?_⟩
  rw [quo64 ht, rem64, Int.toNat_natCast, Nat.zero_add, nthD_range (by omega)]
  refine congrArg (fun z => [SObj.row 102 1 z]) (Eq.trans (congrArg (fun z => (wordsT p).set (t / 64) (.int .u64 z)) word_drop) (wordsT_set fun u hu => ?_))
  rw [if_neg]
  omega
end Go.Proofs.YtgnafgebenlffaaDoor.Am

/- Where a block leads, by the program. -/
namespace Go.Proofs.YtgnafgebenlffaaDoor.Am
open Go Go.Proofs
set_option maxRecDepth 10000
set_option maxHeartbeats 2000000
set_option linter.unusedVariables false
set_option linter.unusedSimpArgs false
theorem putE_keys (n : Int) (v : T) : ∀ es : List (Int × T), (∀ x, x ∈ (putE n v es).map (·.1) ↔ x = n ∨ x ∈ es.map (·.1)) ∧ ((es.map (·.1)).Nodup → ((putE n v es).map (·.1)).Nodup) ∧ (putE n v es).length ≤ es.length + 1
  | [] => ⟨by simp [putE], by simp [putE], by simp [putE]⟩
  | (m, u) :: es => by
    obtain ⟨h1, h2, h3⟩ := putE_keys n v es
    simp only [putE]
    by_cases hm : m = n
    · rw [if_pos hm]
      subst hm
      refine ⟨fun x => ?_, fun h => h, by simp⟩
      simp
    · rw [if_neg hm]
      refine ⟨fun x => ?_, fun h => ?_, by simp; omega⟩
      · simp only [List.map_cons, List.mem_cons, h1]
        constructor
        · rintro (h | h | h)
          · exact .inr (.inl h)
          · exact .inl h
          · exact .inr (.inr h)
        · rintro (h | h | h)
          · exact .inr (.inl h)
          · exact .inl h
          · exact .inr (.inr h)
      · simp only [List.map_cons, List.nodup_cons] at h ⊢
        refine ⟨fun hx => ?_, h2 h.2⟩
        rcases (h1 m).1 hx with e | hx
        · exact hm e
        · exact h.1 hx
theorem putE_int' {k : IntKind} {n c : Int} {kc : List (Int × Int)} : ∃ kc' : List (Int × Int), putE n (.int k c) (kc.map fun p => (p.1, T.int k p.2)) = kc'.map (fun p => (p.1, T.int k p.2)) := by
  obtain ⟨kc', h, _⟩ := putE_int (k := k) (n := n) (c := c) (kc := kc)
  exact ⟨kc', h⟩
theorem exL.put {k : IntKind} {n m c : Int} {kc : List (Int × Int)} {K : T → Prop} (h : ∀ d, K (.int k d)) : exL (putE m (.int k c) (kc.map fun p => (p.1, .int k p.2))) n (.int k 0) K := by
  obtain ⟨kc', e⟩ := putE_int' (k := k) (n := m) (c := c) (kc := kc)
  rw [e]
  exact exL.int (h _)
theorem exL.put0 {k : IntKind} {n m c : Int} {K : T → Prop} (h : ∀ d, K (.int k d)) : exL (putE m (.int k c) []) n (.int k 0) K := exL.put (kc := []) h
theorem exL.none {k : IntKind} {n : Int} {K : T → Prop} (h : K (.int k 0)) : exL [] n (.int k 0) K := ⟨h⟩
theorem exL.none' {k : IntKind} {n : Int} {K : T → Prop} (h : ∀ d, K (.int k d)) : exL [] n (.int k 0) K := exL.none (h 0)
theorem sorted76k {es : List (Int × T)} (hw : Ob (∀ x ∈ es.map (·.1), I64 x)) (hl : Ob (es.length ≤ 2 ^ 21)) (hnd : Ob ((es.map (·.1)).Nodup)) {q : T → Prop} (hq : q (ilist (srt (es.map (·.1))))) : PCalls Tryd.prog 70 [.fn 79 [.box (.map .i64 es)]] q :=
  PCalls.mono (sorted76 es (fun p hp => hw.out _ (List.mem_map.2 ⟨p, hp, rfl⟩)) hl.out hnd.out) fun _ h => h ▸ hq
theorem one_keys {n : Int} {u : T} : (∀ {x : Int}, x ∈ (putE n u []).map (·.1) ↔ x ∈ [n]) ∧ ((putE n u []).map (·.1)).Nodup ∧ (putE n u []).length ≤ 1 := by
  refine ⟨fun {x} => ?_, (putE_keys n u []).2.1 List.nodup_nil, (putE_keys n u []).2.2⟩
  rw [(putE_keys n u []).1]
  simp
theorem more_keys {n : Int} {u : T} {es : List (Int × T)} {l : List Int} (h : ∀ x, x ∈ es.map (·.1) ↔ x ∈ l) (hn : (es.map (·.1)).Nodup) : (∀ {x : Int}, x ∈ (putE n u es).map (·.1) ↔ x ∈ n :: l) ∧ ((putE n u es).map (·.1)).Nodup ∧ (putE n u es).length ≤ es.length + 1 := by
  refine ⟨fun {x} => ?_, (putE_keys n u es).2.1 hn, (putE_keys n u es).2.2⟩
  rw [(putE_keys n u es).1, h, List.mem_cons]
theorem two_keys {n m : Int} {u v : T} : (∀ {x : Int}, x ∈ (putE n u (putE m v [])).map (·.1) ↔ x ∈ [n, m]) ∧ ((putE n u (putE m v [])).map (·.1)).Nodup ∧ (putE n u (putE m v [])).length ≤ 2 := by
  obtain ⟨h1, h2, h3⟩ := more_keys (n := n) (u := u) (es := putE m v []) (l := [m]) (fun x => one_keys.1) one_keys.2.1
  exact ⟨h1, h2, Nat.le_trans h3 (Nat.succ_le_succ one_keys.2.2)⟩
theorem int_keys {kc : List (Int × Int)} (x : Int) : x ∈ (kc.map fun p => (p.1, T.int .i64 p.2)).map (·.1) ↔ x ∈ kc.map (·.1) := by rw [List.map_map]; rfl
theorem int_nodup {kc : List (Int × Int)} (h : (kc.map (·.1)).Nodup) : ((kc.map fun p => (p.1, T.int .i64 p.2)).map (·.1)).Nodup := by rw [List.map_map]; exact h
theorem putE_int2 {n c : Int} {kc : List (Int × Int)} (hn : (kc.map (·.1)).Nodup) : ∃ kc' : List (Int × Int), putE n (.int .i64 c) (kc.map fun p => (p.1, T.int .i64 p.2)) = kc'.map (fun p => (p.1, T.int .i64 p.2)) ∧
    (∀ m, m ∈ kc'.map (·.1) ↔ m = n ∨ m ∈ kc.map (·.1)) ∧ (kc'.map (·.1)).Nodup ∧ kc'.length ≤ kc.length + 1 := by
  obtain ⟨kc', e, h1, _⟩ := putE_int (k := .i64) (n := n) (c := c) (kc := kc)
  obtain ⟨_, h2, h3⟩ := putE_keys n (.int .i64 c) (kc.map fun p => (p.1, T.int .i64 p.2))
  refine ⟨kc', e, h1, ?_, ?_⟩
  · have := h2 (int_nodup hn)
    rw [e, List.map_map] at this
    exact this
  · rw [e] at h3
    simpa using h3
theorem _root_.Go.Proofs.YtgnafgebenlffaaDoor.Am.Le.of_eq {x y : T} (h : x = y) : Le x y := h ▸ .refl _
theorem next55 (g : Graph) (b : Int) (hg : g.tiny) (hw : ∀ x ∈ allN (nthD g.blocks b.toNat).fin, I64 x) : PCalls Tryd.prog 58 [g.t, .int .i64 b] (fun r => r = ilist (nextN g b)) := by
  refine PCalls.coarse ?_
  refine PCalls.of_body ttOk Tryd.func58 rfl ?_
  have hbt := block_tiny g hg b.toNat
  have hlen := all_len hbt
  have hcs := hbt.cases
  have hts := hbt.targets
  repeat' ((conv => whnf); first | (with_reducible first | refine onBool_intro (fun _ => ?_) (fun _ => ?_) | refine And.intro (Ob.mk (Nat.le_of_ble_eq_true rfl)) ?_ | refine And.intro (Ob.mk rfl) ?_ | exact ⟨rfl, rfl⟩ | refine And.intro (Ob.mk (fun h => h)) ?_) | (with_reducible refine Or.inl (And.intro (Ob.mk (Flat.map ?_)) ?_); exact fun _ => rfl) | (refine Or.inl (And.intro (Ob.mk (flat_of rfl)) ?_)) | (refine Or.inl (And.intro (Ob.mk ⟨rfl, rfl, rfl, rfl⟩) ?_)) | (refine Or.inl (And.intro (Ob.mk ⟨rfl, rfl, rfl⟩) ?_)) | (refine And.intro (Ob.mk ⟨rfl, rfl⟩) ?_) | (with_reducible refine Or.inr ?_) | (refine And.intro (Ob.mk (flat_of rfl)) ?_) | (with_reducible refine And.intro (Ob.mk (Flat.map ?_)) ?_; exact fun _ => rfl) | (with_reducible first | exact Ob.mk (Flat.map fun _ => rfl) | refine And.intro ?_ ?_ | apply exG.mk | apply exGS.mk | exact Dd.nil) | (refine Dd.same _ ?_) | (refine Dd.dead _ ?_) | (with_reducible first | apply exQ.mk | apply exP.mk) | (refine EqP.mk rfl rfl) | (with_reducible apply exW.mk) | (refine EqW.mk rfl) | (with_reducible first | intro _ | refine Dn.mk ?_) | (refine exS.full (by first | rfl | (simp; done) | (simp; omega)) ?_) | (refine And.intro (Ob.mk ⟨rfl, rfl, by first | rfl | (simp; done) | (simp; omega)⟩) ?_) | (with_reducible refine exE.mapD ?_) | (refine exL.int ?_) | (with_reducible first | refine Up0.mk rfl ?_ | refine Up0i.mk rfl ?_ | refine Up1.mk rfl ?_ | refine Up1i.mk rfl ?_ | refine Up2.mk rfl ?_ | refine Up2i.mk rfl ?_) | (refine Col.mk rfl rfl rfl ?_) | (refine Coli.mk rfl rfl rfl rfl ?_) | (refine PCalls.mono (below75 _ _) ?_; rintro _ rfl) | (refine exL.put0 ?_) | (refine exL.none' ?_) | (refine PCalls.mono (keys77 _) ?_; rintro _ rfl) | (refine sorted76k ?_ ?_ ?_ ?_))
  all_goals (try (refine Ob.mk ?_; first | assumption | exact ⟨rfl, rfl⟩ | exact ⟨rfl, rfl, rfl⟩ | (refine ⟨rfl, rfl, ?_⟩; simp only [List.length_map, List.length_take, List.length_append, els_len, List.length_replicate]; omega) | (intro h; exact h) | (intro h; rw [h]; rfl) | (intro h; simp_all; done) | (refine bytes_le (n := 1048577) ?_ rfl; simp only [ltI_iff, ltI_not, leI_iff, leI_not, eqI_iff, eqI_not, List.length_map, bif_and, bif_or, Bool.and_eq_true, Bool.and_eq_false_iff, Bool.or_eq_true, Bool.or_eq_false_iff, Bool.not_eq_true', Bool.not_eq_false', Int.toNat_natCast, beq_iff_eq, beq_eq_false_iff_ne, decide_eq_true_eq, decide_eq_false_iff_not, bel_iff, bel_not, wthn_iff, wthn_not, els_len, mixL_len, Nat.zero_add, List.length_set, List.length_take] at *; omega) | (simp only [ltI_iff, ltI_not, leI_iff, leI_not, eqI_iff, eqI_not, List.length_map, bif_and, bif_or, Bool.and_eq_true, Bool.and_eq_false_iff, Bool.or_eq_true, Bool.or_eq_false_iff, Bool.not_eq_true', Bool.not_eq_false', Int.toNat_natCast, beq_iff_eq, beq_eq_false_iff_ne, decide_eq_true_eq, decide_eq_false_iff_not, bel_iff, bel_not, wthn_iff, wthn_not, els_len, mixL_len, Nat.zero_add, List.length_set, List.length_take, Int.ofNat_eq_natCast] at *; omega)))
  all_goals (try exact Ob.mk ⟨rfl, rfl, rfl, rfl⟩)
  · rename_i h1
    show Le .nsl _
    rw [nextN_out h1]
    exact Le.nsl _
  · rename_i h1 _ _
    refine Ob.mk fun x hx => hw x ?_
    rw [allN_2 h1]
    exact two_keys.1.1 hx
  · exact Ob.mk (Nat.le_trans two_keys.2.2 (by omega))
  · exact Ob.mk two_keys.2.1
  · rename_i h0 h1 _ _
    refine Le.of_eq (congrArg ilist ?_)
    rw [nextN_in h0, allN_2 h1]
    exact srt_congr fun x => two_keys.1
  · rename_i h0 _ h1 _
    conv => whnf
    refine LoopVC.mk [38] [] (fun m vals σ => ∃ (i : Nat) (kc : List (Int × Int)), vals = [.t (.int .i64 i)] ∧ σ = [gvar g, evar (nthD g.blocks b.toNat).fin, .map .i64 (kc.map fun p => (p.1, T.int .i64 p.2))] ∧ i ≤ (nthD g.blocks b.toNat).fin.cases.length ∧ m = (nthD g.blocks b.toNat).fin.cases.length - i ∧
      (∀ x, x ∈ kc.map (·.1) ↔ x ∈ ((nthD g.blocks b.toNat).fin.cases.take i).map (·.to)) ∧ (kc.map (·.1)).Nodup ∧ kc.length ≤ i) ?_ ?_
    · conv => whnf
      exact ⟨(nthD g.blocks b.toNat).fin.cases.length, 0, [], rfl, rfl, Nat.zero_le _, rfl, by simp, List.nodup_nil, Nat.le_refl _⟩
    · rintro m vals σ ⟨i, kc, rfl, rfl, hi, rfl, hk1, hk2, hk3⟩
      repeat' ((conv => whnf); first | (with_reducible first | refine onBool_intro (fun _ => ?_) (fun _ => ?_) | refine And.intro (Ob.mk (Nat.le_of_ble_eq_true rfl)) ?_ | refine And.intro (Ob.mk rfl) ?_ | exact ⟨rfl, rfl⟩ | refine And.intro (Ob.mk (fun h => h)) ?_) | (with_reducible refine Or.inl (And.intro (Ob.mk (Flat.map ?_)) ?_); exact fun _ => rfl) | (refine Or.inl (And.intro (Ob.mk (flat_of rfl)) ?_)) | (refine Or.inl (And.intro (Ob.mk ⟨rfl, rfl, rfl, rfl⟩) ?_)) | (refine Or.inl (And.intro (Ob.mk ⟨rfl, rfl, rfl⟩) ?_)) | (refine And.intro (Ob.mk ⟨rfl, rfl⟩) ?_) | (with_reducible refine Or.inr ?_) | (refine And.intro (Ob.mk (flat_of rfl)) ?_) | (with_reducible refine And.intro (Ob.mk (Flat.map ?_)) ?_; exact fun _ => rfl) | (with_reducible first | exact Ob.mk (Flat.map fun _ => rfl) | refine And.intro ?_ ?_ | apply exG.mk | apply exGS.mk | exact Dd.nil) | (refine Dd.same _ ?_) | (refine Dd.dead _ ?_) | (with_reducible first | apply exQ.mk | apply exP.mk) | (refine EqP.mk rfl rfl) | (with_reducible apply exW.mk) | (refine EqW.mk rfl) | (with_reducible first | intro _ | refine Dn.mk ?_) | (refine exS.full (by first | rfl | (simp; done) | (simp; omega)) ?_) | (refine And.intro (Ob.mk ⟨rfl, rfl, by first | rfl | (simp; done) | (simp; omega)⟩) ?_) | (with_reducible refine exE.mapD ?_) | (refine exL.int ?_) | (with_reducible first | refine Up0.mk rfl ?_ | refine Up0i.mk rfl ?_ | refine Up1.mk rfl ?_ | refine Up1i.mk rfl ?_ | refine Up2.mk rfl ?_ | refine Up2i.mk rfl ?_) | (refine Col.mk rfl rfl rfl ?_) | (refine Coli.mk rfl rfl rfl rfl ?_) | (refine PCalls.mono (keys77 _) ?_; rintro _ rfl) | (refine sorted76k ?_ ?_ ?_ ?_))
      all_goals (try (refine Ob.mk ?_; first | assumption | exact ⟨rfl, rfl⟩ | exact ⟨rfl, rfl, rfl⟩ | (refine ⟨rfl, rfl, ?_⟩; simp only [List.length_map, List.length_take, List.length_append, els_len, List.length_replicate]; omega) | (intro h; exact h) | (intro h; rw [h]; rfl) | (intro h; simp_all; done) | (refine bytes_le (n := 1048577) ?_ rfl; simp only [ltI_iff, ltI_not, leI_iff, leI_not, eqI_iff, eqI_not, List.length_map, bif_and, bif_or, Bool.and_eq_true, Bool.and_eq_false_iff, Bool.or_eq_true, Bool.or_eq_false_iff, Bool.not_eq_true', Bool.not_eq_false', Int.toNat_natCast, beq_iff_eq, beq_eq_false_iff_ne, decide_eq_true_eq, decide_eq_false_iff_not, bel_iff, bel_not, wthn_iff, wthn_not, els_len, mixL_len, Nat.zero_add, List.length_set, List.length_take] at *; omega) | (simp only [ltI_iff, ltI_not, leI_iff, leI_not, eqI_iff, eqI_not, List.length_map, bif_and, bif_or, Bool.and_eq_true, Bool.and_eq_false_iff, Bool.or_eq_true, Bool.or_eq_false_iff, Bool.not_eq_true', Bool.not_eq_false', Int.toNat_natCast, beq_iff_eq, beq_eq_false_iff_ne, decide_eq_true_eq, decide_eq_false_iff_not, bel_iff, bel_not, wthn_iff, wthn_not, els_len, mixL_len, Nat.zero_add, List.length_set, List.length_take, Int.ofNat_eq_natCast] at *; omega)))
      · rename_i h2
        have hlt : i < (nthD g.blocks b.toNat).fin.cases.length := by simp only [ltI_iff, ltI_not, leI_iff, leI_not, eqI_iff, eqI_not, List.length_map, bif_and, bif_or, Bool.and_eq_true, Bool.and_eq_false_iff, Bool.or_eq_true, Bool.or_eq_false_iff, Bool.not_eq_true', Bool.not_eq_false', Int.toNat_natCast, beq_iff_eq, beq_eq_false_iff_ne, decide_eq_true_eq, decide_eq_false_iff_not] at *; omega
        conv => whnf
        obtain ⟨kc', e, k1, k2, k3⟩ := putE_int2 (n := (nthD (nthD g.blocks b.toNat).fin.cases i).to) (c := addI .i64 (lookC ((nthD (nthD g.blocks b.toNat).fin.cases i).to) kc) 1) hk2
        refine ⟨(nthD g.blocks b.toNat).fin.cases.length - (i + 1), by omega, i + 1, kc', ?_, ?_, hlt, rfl, ?_, k2, by omega⟩
        · rw [addI_i64 (by omega) (by omega)]; rfl
        · rw [← e]; rfl
        · intro x
          rw [k1, hk1, take_succ_nthD hlt, List.map_append, List.mem_append]
          simp
          exact Or.comm
      · rename_i h2
        have hge : (nthD g.blocks b.toNat).fin.cases.length ≤ i := by simp only [ltI_iff, ltI_not, leI_iff, leI_not, eqI_iff, eqI_not, List.length_map, bif_and, bif_or, Bool.and_eq_true, Bool.and_eq_false_iff, Bool.or_eq_true, Bool.or_eq_false_iff, Bool.not_eq_true', Bool.not_eq_false', Int.toNat_natCast, beq_iff_eq, beq_eq_false_iff_ne, decide_eq_true_eq, decide_eq_false_iff_not] at *; omega
        refine Ob.mk fun x hx => hw x ?_
        rw [List.take_of_length_le hge] at hk1
        rw [allN_3 h1]
        exact (more_keys (fun x => (int_keys x).trans (hk1 x)) (int_nodup hk2)).1.1 hx
      · refine Ob.mk (Nat.le_trans (putE_keys _ _ _).2.2 ?_)
        rw [List.length_map]
        omega
      · exact Ob.mk ((putE_keys _ _ _).2.1 (int_nodup hk2))
      · rename_i h2
        have hge : (nthD g.blocks b.toNat).fin.cases.length ≤ i := by simp only [ltI_iff, ltI_not, leI_iff, leI_not, eqI_iff, eqI_not, List.length_map, bif_and, bif_or, Bool.and_eq_true, Bool.and_eq_false_iff, Bool.or_eq_true, Bool.or_eq_false_iff, Bool.not_eq_true', Bool.not_eq_false', Int.toNat_natCast, beq_iff_eq, beq_eq_false_iff_ne, decide_eq_true_eq, decide_eq_false_iff_not] at *; omega
        rw [List.take_of_length_le hge] at hk1
        refine Le.of_eq (congrArg ilist ?_)
        rw [nextN_in h0, allN_3 h1]
        exact srt_congr fun x => (more_keys (fun x => (int_keys x).trans (hk1 x)) (int_nodup hk2)).1
  · rename_i h0 _ _ h1 _
    conv => whnf
    refine LoopVC.mk [53] [] (fun m vals σ => ∃ (i : Nat) (kc : List (Int × Int)), vals = [.t (.int .i64 i)] ∧ σ = [gvar g, evar (nthD g.blocks b.toNat).fin, .map .i64 (kc.map fun p => (p.1, T.int .i64 p.2))] ∧ i ≤ (nthD g.blocks b.toNat).fin.targets.length ∧ m = (nthD g.blocks b.toNat).fin.targets.length - i ∧
      (∀ x, x ∈ kc.map (·.1) ↔ x ∈ (nthD g.blocks b.toNat).fin.targets.take i) ∧ (kc.map (·.1)).Nodup ∧ kc.length ≤ i) ?_ ?_
    · conv => whnf
      exact ⟨(nthD g.blocks b.toNat).fin.targets.length, 0, [], rfl, rfl, Nat.zero_le _, rfl, by simp, List.nodup_nil, Nat.le_refl _⟩
    · rintro m vals σ ⟨i, kc, rfl, rfl, hi, rfl, hk1, hk2, hk3⟩
      repeat' ((conv => whnf); first | (with_reducible first | refine onBool_intro (fun _ => ?_) (fun _ => ?_) | refine And.intro (Ob.mk (Nat.le_of_ble_eq_true rfl)) ?_ | refine And.intro (Ob.mk rfl) ?_ | exact ⟨rfl, rfl⟩ | refine And.intro (Ob.mk (fun h => h)) ?_) | (with_reducible refine Or.inl (And.intro (Ob.mk (Flat.map ?_)) ?_); exact fun _ => rfl) | (refine Or.inl (And.intro (Ob.mk (flat_of rfl)) ?_)) | (refine Or.inl (And.intro (Ob.mk ⟨rfl, rfl, rfl, rfl⟩) ?_)) | (refine Or.inl (And.intro (Ob.mk ⟨rfl, rfl, rfl⟩) ?_)) | (refine And.intro (Ob.mk ⟨rfl, rfl⟩) ?_) | (with_reducible refine Or.inr ?_) | (refine And.intro (Ob.mk (flat_of rfl)) ?_) | (with_reducible refine And.intro (Ob.mk (Flat.map ?_)) ?_; exact fun _ => rfl) | (with_reducible first | exact Ob.mk (Flat.map fun _ => rfl) | refine And.intro ?_ ?_ | apply exG.mk | apply exGS.mk | exact Dd.nil) | (refine Dd.same _ ?_) | (refine Dd.dead _ ?_) | (with_reducible first | apply exQ.mk | apply exP.mk) | (refine EqP.mk rfl rfl) | (with_reducible apply exW.mk) | (refine EqW.mk rfl) | (with_reducible first | intro _ | refine Dn.mk ?_) | (refine exS.full (by first | rfl | (simp; done) | (simp; omega)) ?_) | (refine And.intro (Ob.mk ⟨rfl, rfl, by first | rfl | (simp; done) | (simp; omega)⟩) ?_) | (with_reducible refine exE.mapD ?_) | (refine exL.int ?_) | (with_reducible first | refine Up0.mk rfl ?_ | refine Up0i.mk rfl ?_ | refine Up1.mk rfl ?_ | refine Up1i.mk rfl ?_ | refine Up2.mk rfl ?_ | refine Up2i.mk rfl ?_) | (refine Col.mk rfl rfl rfl ?_) | (refine Coli.mk rfl rfl rfl rfl ?_) | (refine PCalls.mono (keys77 _) ?_; rintro _ rfl) | (refine sorted76k ?_ ?_ ?_ ?_))
      all_goals (try (refine Ob.mk ?_; first | assumption | exact ⟨rfl, rfl⟩ | exact ⟨rfl, rfl, rfl⟩ | (refine ⟨rfl, rfl, ?_⟩; simp only [List.length_map, List.length_take, List.length_append, els_len, List.length_replicate]; omega) | (intro h; exact h) | (intro h; rw [h]; rfl) | (intro h; simp_all; done) | (refine bytes_le (n := 1048577) ?_ rfl; simp only [ltI_iff, ltI_not, leI_iff, leI_not, eqI_iff, eqI_not, List.length_map, bif_and, bif_or, Bool.and_eq_true, Bool.and_eq_false_iff, Bool.or_eq_true, Bool.or_eq_false_iff, Bool.not_eq_true', Bool.not_eq_false', Int.toNat_natCast, beq_iff_eq, beq_eq_false_iff_ne, decide_eq_true_eq, decide_eq_false_iff_not, bel_iff, bel_not, wthn_iff, wthn_not, els_len, mixL_len, Nat.zero_add, List.length_set, List.length_take] at *; omega) | (simp only [ltI_iff, ltI_not, leI_iff, leI_not, eqI_iff, eqI_not, List.length_map, bif_and, bif_or, Bool.and_eq_true, Bool.and_eq_false_iff, Bool.or_eq_true, Bool.or_eq_false_iff, Bool.not_eq_true', Bool.not_eq_false', Int.toNat_natCast, beq_iff_eq, beq_eq_false_iff_ne, decide_eq_true_eq, decide_eq_false_iff_not, bel_iff, bel_not, wthn_iff, wthn_not, els_len, mixL_len, Nat.zero_add, List.length_set, List.length_take, Int.ofNat_eq_natCast] at *; omega)))
      · rename_i h2
        have hlt : i < (nthD g.blocks b.toNat).fin.targets.length := by simp only [ltI_iff, ltI_not, leI_iff, leI_not, eqI_iff, eqI_not, List.length_map, bif_and, bif_or, Bool.and_eq_true, Bool.and_eq_false_iff, Bool.or_eq_true, Bool.or_eq_false_iff, Bool.not_eq_true', Bool.not_eq_false', Int.toNat_natCast, beq_iff_eq, beq_eq_false_iff_ne, decide_eq_true_eq, decide_eq_false_iff_not] at *; omega
        conv => whnf
        obtain ⟨kc', e, k1, k2, k3⟩ := putE_int2 (n := nthD (nthD g.blocks b.toNat).fin.targets i) (c := addI .i64 (lookC (nthD (nthD g.blocks b.toNat).fin.targets i) kc) 1) hk2
        refine ⟨(nthD g.blocks b.toNat).fin.targets.length - (i + 1), by omega, i + 1, kc', ?_, ?_, hlt, rfl, ?_, k2, by omega⟩
        · rw [addI_i64 (by omega) (by omega)]; rfl
        · rw [← e]; rfl
        · intro x
          rw [k1, hk1, take_succ_nthD hlt,  List.mem_append]
          simp
          exact Or.comm
      · rename_i h2
        have hge : (nthD g.blocks b.toNat).fin.targets.length ≤ i := by simp only [ltI_iff, ltI_not, leI_iff, leI_not, eqI_iff, eqI_not, List.length_map, bif_and, bif_or, Bool.and_eq_true, Bool.and_eq_false_iff, Bool.or_eq_true, Bool.or_eq_false_iff, Bool.not_eq_true', Bool.not_eq_false', Int.toNat_natCast, beq_iff_eq, beq_eq_false_iff_ne, decide_eq_true_eq, decide_eq_false_iff_not] at *; omega
        refine Ob.mk fun x hx => hw x ?_
        rw [List.take_of_length_le hge] at hk1
        rw [allN_4 h1]
        exact (more_keys (fun x => (int_keys x).trans (hk1 x)) (int_nodup hk2)).1.1 hx
      · refine Ob.mk (Nat.le_trans (putE_keys _ _ _).2.2 ?_)
        rw [List.length_map]
        omega
      · exact Ob.mk ((putE_keys _ _ _).2.1 (int_nodup hk2))
      · rename_i h2
        have hge : (nthD g.blocks b.toNat).fin.targets.length ≤ i := by simp only [ltI_iff, ltI_not, leI_iff, leI_not, eqI_iff, eqI_not, List.length_map, bif_and, bif_or, Bool.and_eq_true, Bool.and_eq_false_iff, Bool.or_eq_true, Bool.or_eq_false_iff, Bool.not_eq_true', Bool.not_eq_false', Int.toNat_natCast, beq_iff_eq, beq_eq_false_iff_ne, decide_eq_true_eq, decide_eq_false_iff_not] at *; omega
        rw [List.take_of_length_le hge] at hk1
        refine Le.of_eq (congrArg ilist ?_)
        rw [nextN_in h0, allN_4 h1]
        exact srt_congr fun x => (more_keys (fun x => (int_keys x).trans (hk1 x)) (int_nodup hk2)).1
  · rename_i h1 _
    refine Ob.mk fun x hx => hw x ?_
    rw [allN_1 h1]
    exact one_keys.1.1 hx
  · exact Ob.mk (Nat.le_trans one_keys.2.2 (by omega))
  · exact Ob.mk one_keys.2.1
  · rename_i h0 _ _ _ h1 _
    refine Le.of_eq (congrArg ilist ?_)
    rw [nextN_in h0, allN_1 h1]
    exact srt_congr fun x => one_keys.1
  · rename_i h0 h2 h3 h4 h1
    show Le .nsl _
    rw [nextN_in h0, allN_5 h1 h2 h3 h4, srt_nil]
    exact Le.nsl _
end Go.Proofs.YtgnafgebenlffaaDoor.Am

/- What live's functions say of one instruction; whether a graph fits. -/
namespace Go.Proofs.YtgnafgebenlffaaDoor.Am
open Go Go.Proofs
set_option maxRecDepth 10000
set_option maxHeartbeats 2000000
set_option linter.unusedVariables false
set_option linter.unusedSimpArgs false
def idxN (p : Int → Bool) (l : List Int) : Int := match l.findIdx? p with | some i => (i : Int) | none => -1
theorem idxN_hit {p : Int → Bool} {l : List Int} {i : Nat} (h : i < l.length) (h1 : ∀ j, j < i → p (nthD l j) = false) (h2 : p (nthD l i) = true) : idxN p l = i := by
  have : l.findIdx? p = some i := by
    rw [List.findIdx?_eq_some_iff_getElem]
    refine ⟨h, by rw [← nthD_get h]; exact h2, fun j hj => by rw [← nthD_get (by omega), h1 j hj]; simp⟩
  unfold idxN; rw [this]
theorem idxN_miss {p : Int → Bool} {l : List Int} (h1 : ∀ j, j < l.length → p (nthD l j) = false) : idxN p l = -1 := by
  have : l.findIdx? p = none := by
    rw [List.findIdx?_eq_none_iff]
    intro x hx
    obtain ⟨j, hj, rfl⟩ := List.mem_iff_getElem.1 hx
    rw [← nthD_get hj]; exact h1 j hj
  unfold idxN; rw [this]
theorem idxN_any {p : Int → Bool} {l : List Int} : leI 0 (idxN p l) = l.any p := by
  unfold idxN
  cases h : l.findIdx? p with
  | none =>
    rw [List.findIdx?_eq_none_iff] at h
    have : l.any p = false := by rw [List.any_eq_false]; intro x hx; simp [h x hx]
    rw [this]; simp [leI]
  | some i =>
    rw [List.findIdx?_eq_some_iff_getElem] at h
    obtain ⟨hi, hp, _⟩ := h
    have : l.any p = true := by rw [List.any_eq_true]; exact ⟨l[i], List.getElem_mem hi, hp⟩
    rw [this]; simp [leI]
theorem indexFunc74 (l : List Int) (g : FuncId) (cs : List T) (p : Int → Bool) (hp : ∀ n, PCalls Tryd.prog g [.int .i64 n, .ptr cs] (fun r => r = .bool (p n))) : PCalls Tryd.prog 68 [ilist l, .fn g [.ptr cs]] (fun r => r = .int .i64 (idxN p l)) := by
  refine PCalls.of_body ttOk Tryd.func68 rfl ?_
  repeat' ((conv => whnf); first | (with_reducible first | refine onBool_intro (fun _ => ?_) (fun _ => ?_) | refine And.intro (Ob.mk (Nat.le_of_ble_eq_true rfl)) ?_ | refine And.intro (Ob.mk rfl) ?_ | exact ⟨rfl, rfl⟩ | refine And.intro (Ob.mk (fun h => h)) ?_) | (with_reducible refine Or.inl (And.intro (Ob.mk (Flat.map ?_)) ?_); exact fun _ => rfl) | (refine Or.inl (And.intro (Ob.mk (flat_of rfl)) ?_)) | (refine Or.inl (And.intro (Ob.mk ⟨rfl, rfl, rfl, rfl⟩) ?_)) | (refine Or.inl (And.intro (Ob.mk ⟨rfl, rfl, rfl⟩) ?_)) | (refine And.intro (Ob.mk ⟨rfl, rfl⟩) ?_) | (with_reducible refine Or.inr ?_) | (refine And.intro (Ob.mk (flat_of rfl)) ?_) | (with_reducible refine And.intro (Ob.mk (Flat.map ?_)) ?_; exact fun _ => rfl) | (with_reducible first | exact Ob.mk (Flat.map fun _ => rfl) | refine And.intro ?_ ?_ | apply exG.mk | apply exGS.mk | exact Dd.nil) | (refine Dd.same _ ?_) | (refine Dd.dead _ ?_) | (with_reducible first | apply exQ.mk | apply exP.mk) | (refine EqP.mk rfl rfl) | (with_reducible apply exW.mk) | (refine EqW.mk rfl) | (with_reducible first | intro _ | refine Dn.mk ?_) | (refine exS.full (by first | rfl | (simp; done) | (simp; omega)) ?_) | (refine And.intro (Ob.mk ⟨rfl, rfl, by first | rfl | (simp; done) | (simp; omega)⟩) ?_) | (with_reducible refine exE.mapD ?_) | (refine exL.int ?_) | (with_reducible first | refine Up0.mk rfl ?_ | refine Up0i.mk rfl ?_ | refine Up1.mk rfl ?_ | refine Up1i.mk rfl ?_ | refine Up2.mk rfl ?_ | refine Up2i.mk rfl ?_) | (refine Col.mk rfl rfl rfl ?_) | (refine Coli.mk rfl rfl rfl rfl ?_))
  conv => whnf
  refine LoopVC.up0 8 l.length (fun i => ∀ j, j < i → p (nthD l j) = false) ?_ ?_
  · repeat' ((conv => whnf); first | (with_reducible first | refine onBool_intro (fun _ => ?_) (fun _ => ?_) | refine And.intro (Ob.mk (Nat.le_of_ble_eq_true rfl)) ?_ | refine And.intro (Ob.mk rfl) ?_ | exact ⟨rfl, rfl⟩ | refine And.intro (Ob.mk (fun h => h)) ?_) | (with_reducible refine Or.inl (And.intro (Ob.mk (Flat.map ?_)) ?_); exact fun _ => rfl) | (refine Or.inl (And.intro (Ob.mk (flat_of rfl)) ?_)) | (refine Or.inl (And.intro (Ob.mk ⟨rfl, rfl, rfl, rfl⟩) ?_)) | (refine Or.inl (And.intro (Ob.mk ⟨rfl, rfl, rfl⟩) ?_)) | (refine And.intro (Ob.mk ⟨rfl, rfl⟩) ?_) | (with_reducible refine Or.inr ?_) | (refine And.intro (Ob.mk (flat_of rfl)) ?_) | (with_reducible refine And.intro (Ob.mk (Flat.map ?_)) ?_; exact fun _ => rfl) | (with_reducible first | exact Ob.mk (Flat.map fun _ => rfl) | refine And.intro ?_ ?_ | apply exG.mk | apply exGS.mk | exact Dd.nil) | (refine Dd.same _ ?_) | (refine Dd.dead _ ?_) | (with_reducible first | apply exQ.mk | apply exP.mk) | (refine EqP.mk rfl rfl) | (with_reducible apply exW.mk) | (refine EqW.mk rfl) | (with_reducible first | intro _ | refine Dn.mk ?_) | (refine exS.full (by first | rfl | (simp; done) | (simp; omega)) ?_) | (refine And.intro (Ob.mk ⟨rfl, rfl, by first | rfl | (simp; done) | (simp; omega)⟩) ?_) | (with_reducible refine exE.mapD ?_) | (refine exL.int ?_) | (with_reducible first | refine Up0.mk rfl ?_ | refine Up0i.mk rfl ?_ | refine Up1.mk rfl ?_ | refine Up1i.mk rfl ?_ | refine Up2.mk rfl ?_ | refine Up2i.mk rfl ?_) | (refine Col.mk rfl rfl rfl ?_) | (refine Coli.mk rfl rfl rfl rfl ?_))
    exact Ob.mk (by omega)
  · intro i hi he
    repeat' ((conv => whnf); first | (with_reducible first | refine onBool_intro (fun _ => ?_) (fun _ => ?_) | refine And.intro (Ob.mk (Nat.le_of_ble_eq_true rfl)) ?_ | refine And.intro (Ob.mk rfl) ?_ | exact ⟨rfl, rfl⟩ | refine And.intro (Ob.mk (fun h => h)) ?_) | (with_reducible refine Or.inl (And.intro (Ob.mk (Flat.map ?_)) ?_); exact fun _ => rfl) | (refine Or.inl (And.intro (Ob.mk (flat_of rfl)) ?_)) | (refine Or.inl (And.intro (Ob.mk ⟨rfl, rfl, rfl, rfl⟩) ?_)) | (refine Or.inl (And.intro (Ob.mk ⟨rfl, rfl, rfl⟩) ?_)) | (refine And.intro (Ob.mk ⟨rfl, rfl⟩) ?_) | (with_reducible refine Or.inr ?_) | (refine And.intro (Ob.mk (flat_of rfl)) ?_) | (with_reducible refine And.intro (Ob.mk (Flat.map ?_)) ?_; exact fun _ => rfl) | (with_reducible first | exact Ob.mk (Flat.map fun _ => rfl) | refine And.intro ?_ ?_ | apply exG.mk | apply exGS.mk | exact Dd.nil) | (refine Dd.same _ ?_) | (refine Dd.dead _ ?_) | (with_reducible first | apply exQ.mk | apply exP.mk) | (refine EqP.mk rfl rfl) | (with_reducible apply exW.mk) | (refine EqW.mk rfl) | (with_reducible first | intro _ | refine Dn.mk ?_) | (refine exS.full (by first | rfl | (simp; done) | (simp; omega)) ?_) | (refine And.intro (Ob.mk ⟨rfl, rfl, by first | rfl | (simp; done) | (simp; omega)⟩) ?_) | (with_reducible refine exE.mapD ?_) | (refine exL.int ?_) | (with_reducible first | refine Up0.mk rfl ?_ | refine Up0i.mk rfl ?_ | refine Up1.mk rfl ?_ | refine Up1i.mk rfl ?_ | refine Up2.mk rfl ?_ | refine Up2i.mk rfl ?_) | (refine Col.mk rfl rfl rfl ?_) | (refine Coli.mk rfl rfl rfl rfl ?_) | (refine PCalls.mono (hp _) ?_; rintro _ rfl))
    all_goals (try (refine Ob.mk ?_; first | assumption | exact ⟨rfl, rfl⟩ | exact ⟨rfl, rfl, rfl⟩ | (refine ⟨rfl, rfl, ?_⟩; simp only [List.length_map, List.length_take, List.length_append, els_len, List.length_replicate]; omega) | (intro h; exact h) | (intro h; rw [h]; rfl) | (intro h; simp_all; done) | (refine bytes_le (n := 1048577) ?_ rfl; simp only [ltI_iff, ltI_not, leI_iff, leI_not, eqI_iff, eqI_not, List.length_map, bif_and, bif_or, Bool.and_eq_true, Bool.and_eq_false_iff, Bool.or_eq_true, Bool.or_eq_false_iff, Bool.not_eq_true', Bool.not_eq_false', Int.toNat_natCast, beq_iff_eq, beq_eq_false_iff_ne, decide_eq_true_eq, decide_eq_false_iff_not, bel_iff, bel_not, wthn_iff, wthn_not, els_len, mixL_len, Nat.zero_add, List.length_set, List.length_take] at *; omega) | (simp only [ltI_iff, ltI_not, leI_iff, leI_not, eqI_iff, eqI_not, List.length_map, bif_and, bif_or, Bool.and_eq_true, Bool.and_eq_false_iff, Bool.or_eq_true, Bool.or_eq_false_iff, Bool.not_eq_true', Bool.not_eq_false', Int.toNat_natCast, beq_iff_eq, beq_eq_false_iff_ne, decide_eq_true_eq, decide_eq_false_iff_not, bel_iff, bel_not, wthn_iff, wthn_not, els_len, mixL_len, Nat.zero_add, List.length_set, List.length_take, Int.ofNat_eq_natCast] at *; omega)))
    · rename_i h1 h2
      simp only [ltI_iff, ltI_not, leI_iff, leI_not, eqI_iff, eqI_not, List.length_map, bif_and, bif_or, Bool.and_eq_true, Bool.and_eq_false_iff, Bool.or_eq_true, Bool.or_eq_false_iff, Bool.not_eq_true', Bool.not_eq_false', Int.toNat_natCast, beq_iff_eq, beq_eq_false_iff_ne, decide_eq_true_eq, decide_eq_false_iff_not] at *
      exact congrArg (T.int .i64) (idxN_hit (by omega) he h2).symm
    · rename_i h1 h2
      simp only [ltI_iff, ltI_not, leI_iff, leI_not, eqI_iff, eqI_not, List.length_map, bif_and, bif_or, Bool.and_eq_true, Bool.and_eq_false_iff, Bool.or_eq_true, Bool.or_eq_false_iff, Bool.not_eq_true', Bool.not_eq_false', Int.toNat_natCast, beq_iff_eq, beq_eq_false_iff_ne, decide_eq_true_eq, decide_eq_false_iff_not] at *
      refine Ob.mk ⟨by omega, addI_i64 (by omega) (by omega), ?_⟩
      intro j hj
      rcases Nat.lt_or_ge j i with h | h
      · exact he j h
      · rw [show j = i by omega]; exact h2
    · rename_i h1
      simp only [ltI_iff, ltI_not, leI_iff, leI_not, eqI_iff, eqI_not, List.length_map, bif_and, bif_or, Bool.and_eq_true, Bool.and_eq_false_iff, Bool.or_eq_true, Bool.or_eq_false_iff, Bool.not_eq_true', Bool.not_eq_false', Int.toNat_natCast, beq_iff_eq, beq_eq_false_iff_ne, decide_eq_true_eq, decide_eq_false_iff_not] at *
      exact congrArg (T.int .i64) (idxN_miss fun j hj => he j (by omega)).symm
theorem containsFunc54 (l : List Int) (g : FuncId) (cs : List T) (p : Int → Bool) (hp : ∀ n, PCalls Tryd.prog g [.int .i64 n, .ptr cs] (fun r => r = .bool (p n))) : PCalls Tryd.prog 57 [ilist l, .fn g [.ptr cs]] (fun r => r = .bool (l.any p)) := by
  refine PCalls.of_body ttOk Tryd.func57 rfl ?_
  repeat' ((conv => whnf); first | (with_reducible first | refine onBool_intro (fun _ => ?_) (fun _ => ?_) | refine And.intro (Ob.mk (Nat.le_of_ble_eq_true rfl)) ?_ | refine And.intro (Ob.mk rfl) ?_ | exact ⟨rfl, rfl⟩ | refine And.intro (Ob.mk (fun h => h)) ?_) | (with_reducible refine Or.inl (And.intro (Ob.mk (Flat.map ?_)) ?_); exact fun _ => rfl) | (refine Or.inl (And.intro (Ob.mk (flat_of rfl)) ?_)) | (refine Or.inl (And.intro (Ob.mk ⟨rfl, rfl, rfl, rfl⟩) ?_)) | (refine Or.inl (And.intro (Ob.mk ⟨rfl, rfl, rfl⟩) ?_)) | (refine And.intro (Ob.mk ⟨rfl, rfl⟩) ?_) | (with_reducible refine Or.inr ?_) | (refine And.intro (Ob.mk (flat_of rfl)) ?_) | (with_reducible refine And.intro (Ob.mk (Flat.map ?_)) ?_; exact fun _ => rfl) | (with_reducible first | exact Ob.mk (Flat.map fun _ => rfl) | refine And.intro ?_ ?_ | apply exG.mk | apply exGS.mk | exact Dd.nil) | (refine Dd.same _ ?_) | (refine Dd.dead _ ?_) | (with_reducible first | apply exQ.mk | apply exP.mk) | (refine EqP.mk rfl rfl) | (with_reducible apply exW.mk) | (refine EqW.mk rfl) | (with_reducible first | intro _ | refine Dn.mk ?_) | (refine exS.full (by first | rfl | (simp; done) | (simp; omega)) ?_) | (refine And.intro (Ob.mk ⟨rfl, rfl, by first | rfl | (simp; done) | (simp; omega)⟩) ?_) | (with_reducible refine exE.mapD ?_) | (refine exL.int ?_) | (with_reducible first | refine Up0.mk rfl ?_ | refine Up0i.mk rfl ?_ | refine Up1.mk rfl ?_ | refine Up1i.mk rfl ?_ | refine Up2.mk rfl ?_ | refine Up2i.mk rfl ?_) | (refine Col.mk rfl rfl rfl ?_) | (refine Coli.mk rfl rfl rfl rfl ?_) | (refine PCalls.mono (indexFunc74 _ _ _ p hp) ?_; rintro _ rfl))
  exact congrArg T.bool idxN_any
abbrev gcells (g : Graph) : List T := [ilist g.params, .int .i64 g.temps, .sl 2 (g.arrays.map Arr.t), .sl 10 (g.blocks.map Block.t)]
theorem outside53 (g : Graph) (n : Int) : PCalls Tryd.prog 56 [.int .i64 n, .ptr (gcells g)] (fun r => r = .bool (!bel n g.temps)) := by
  refine PCalls.of_body ttOk Tryd.func56 rfl ?_
  repeat' ((conv => whnf); first | (with_reducible first | refine onBool_intro (fun _ => ?_) (fun _ => ?_) | refine And.intro (Ob.mk (Nat.le_of_ble_eq_true rfl)) ?_ | refine And.intro (Ob.mk rfl) ?_ | exact ⟨rfl, rfl⟩ | refine And.intro (Ob.mk (fun h => h)) ?_) | (with_reducible refine Or.inl (And.intro (Ob.mk (Flat.map ?_)) ?_); exact fun _ => rfl) | (refine Or.inl (And.intro (Ob.mk (flat_of rfl)) ?_)) | (refine Or.inl (And.intro (Ob.mk ⟨rfl, rfl, rfl, rfl⟩) ?_)) | (refine Or.inl (And.intro (Ob.mk ⟨rfl, rfl, rfl⟩) ?_)) | (refine And.intro (Ob.mk ⟨rfl, rfl⟩) ?_) | (with_reducible refine Or.inr ?_) | (refine And.intro (Ob.mk (flat_of rfl)) ?_) | (with_reducible refine And.intro (Ob.mk (Flat.map ?_)) ?_; exact fun _ => rfl) | (with_reducible first | exact Ob.mk (Flat.map fun _ => rfl) | refine And.intro ?_ ?_ | apply exG.mk | apply exGS.mk | exact Dd.nil) | (refine Dd.same _ ?_) | (refine Dd.dead _ ?_) | (with_reducible first | apply exQ.mk | apply exP.mk) | (refine EqP.mk rfl rfl) | (with_reducible apply exW.mk) | (refine EqW.mk rfl) | (with_reducible first | intro _ | refine Dn.mk ?_) | (refine exS.full (by first | rfl | (simp; done) | (simp; omega)) ?_) | (refine And.intro (Ob.mk ⟨rfl, rfl, by first | rfl | (simp; done) | (simp; omega)⟩) ?_) | (with_reducible refine exE.mapD ?_) | (refine exL.int ?_) | (with_reducible first | refine Up0.mk rfl ?_ | refine Up0i.mk rfl ?_ | refine Up1.mk rfl ?_ | refine Up1i.mk rfl ?_ | refine Up2.mk rfl ?_ | refine Up2i.mk rfl ?_) | (refine Col.mk rfl rfl rfl ?_) | (refine Coli.mk rfl rfl rfl rfl ?_))
  · exact Ob.mk fun h => by rw [h]; rfl
  all_goals
    show T.bool _ = T.bool _
    rw [T.bool.injEq, Bool.eq_iff_iff]
    simp only [ltI_iff, ltI_not, leI_iff, leI_not, eqI_iff, eqI_not, List.length_map, bif_and, bif_or, Bool.and_eq_true, Bool.and_eq_false_iff, Bool.or_eq_true, Bool.or_eq_false_iff, Bool.not_eq_true', Bool.not_eq_false', Int.toNat_natCast, beq_iff_eq, beq_eq_false_iff_ne, decide_eq_true_eq, decide_eq_false_iff_not, bel_iff, bel_not, wthn_iff, wthn_not, Bool.false_eq_true, Bool.not_eq_true, Bool.and_true, Bool.true_and, Bool.and_false, Bool.false_and, reduceCtorEq, true_iff, false_iff, iff_true, iff_false, Bool.not_true, Bool.not_false] at *
    omega
theorem outside56 (g : Graph) (n : Int) : PCalls Tryd.prog 59 [.int .i64 n, .ptr (gcells g)] (fun r => r = .bool (!bel n g.blocks.length)) := by
  refine PCalls.of_body ttOk Tryd.func59 rfl ?_
  repeat' ((conv => whnf); first | (with_reducible first | refine onBool_intro (fun _ => ?_) (fun _ => ?_) | refine And.intro (Ob.mk (Nat.le_of_ble_eq_true rfl)) ?_ | refine And.intro (Ob.mk rfl) ?_ | exact ⟨rfl, rfl⟩ | refine And.intro (Ob.mk (fun h => h)) ?_) | (with_reducible refine Or.inl (And.intro (Ob.mk (Flat.map ?_)) ?_); exact fun _ => rfl) | (refine Or.inl (And.intro (Ob.mk (flat_of rfl)) ?_)) | (refine Or.inl (And.intro (Ob.mk ⟨rfl, rfl, rfl, rfl⟩) ?_)) | (refine Or.inl (And.intro (Ob.mk ⟨rfl, rfl, rfl⟩) ?_)) | (refine And.intro (Ob.mk ⟨rfl, rfl⟩) ?_) | (with_reducible refine Or.inr ?_) | (refine And.intro (Ob.mk (flat_of rfl)) ?_) | (with_reducible refine And.intro (Ob.mk (Flat.map ?_)) ?_; exact fun _ => rfl) | (with_reducible first | exact Ob.mk (Flat.map fun _ => rfl) | refine And.intro ?_ ?_ | apply exG.mk | apply exGS.mk | exact Dd.nil) | (refine Dd.same _ ?_) | (refine Dd.dead _ ?_) | (with_reducible first | apply exQ.mk | apply exP.mk) | (refine EqP.mk rfl rfl) | (with_reducible apply exW.mk) | (refine EqW.mk rfl) | (with_reducible first | intro _ | refine Dn.mk ?_) | (refine exS.full (by first | rfl | (simp; done) | (simp; omega)) ?_) | (refine And.intro (Ob.mk ⟨rfl, rfl, by first | rfl | (simp; done) | (simp; omega)⟩) ?_) | (with_reducible refine exE.mapD ?_) | (refine exL.int ?_) | (with_reducible first | refine Up0.mk rfl ?_ | refine Up0i.mk rfl ?_ | refine Up1.mk rfl ?_ | refine Up1i.mk rfl ?_ | refine Up2.mk rfl ?_ | refine Up2i.mk rfl ?_) | (refine Col.mk rfl rfl rfl ?_) | (refine Coli.mk rfl rfl rfl rfl ?_))
  · exact Ob.mk fun h => by rw [h]; rfl
  all_goals
    show T.bool _ = T.bool _
    rw [T.bool.injEq, Bool.eq_iff_iff]
    simp only [ltI_iff, ltI_not, leI_iff, leI_not, eqI_iff, eqI_not, List.length_map, bif_and, bif_or, Bool.and_eq_true, Bool.and_eq_false_iff, Bool.or_eq_true, Bool.or_eq_false_iff, Bool.not_eq_true', Bool.not_eq_false', Int.toNat_natCast, beq_iff_eq, beq_eq_false_iff_ne, decide_eq_true_eq, decide_eq_false_iff_not, bel_iff, bel_not, wthn_iff, wthn_not, Bool.false_eq_true, Bool.not_eq_true, Bool.and_true, Bool.true_and, Bool.and_false, Bool.false_and, reduceCtorEq, true_iff, false_iff, iff_true, iff_false, Bool.not_true, Bool.not_false] at *
    omega
def lsetsN (x : Ins) : Int := if x.op = 26 ∨ x.op = 28 ∨ x.op = 31 ∨ x.op = 32 then -1 else x.d
theorem lsets81 (x : Ins) : PCalls Tryd.prog 39 [x.t] (fun r => r = .int .i64 (lsetsN x)) := by
  refine PCalls.of_body ttOk Tryd.func39 rfl ?_
  repeat' ((conv => whnf); first | (with_reducible first | refine onBool_intro (fun _ => ?_) (fun _ => ?_) | refine And.intro (Ob.mk (Nat.le_of_ble_eq_true rfl)) ?_ | refine And.intro (Ob.mk rfl) ?_ | exact ⟨rfl, rfl⟩ | refine And.intro (Ob.mk (fun h => h)) ?_) | (with_reducible refine Or.inl (And.intro (Ob.mk (Flat.map ?_)) ?_); exact fun _ => rfl) | (refine Or.inl (And.intro (Ob.mk (flat_of rfl)) ?_)) | (refine Or.inl (And.intro (Ob.mk ⟨rfl, rfl, rfl, rfl⟩) ?_)) | (refine Or.inl (And.intro (Ob.mk ⟨rfl, rfl, rfl⟩) ?_)) | (refine And.intro (Ob.mk ⟨rfl, rfl⟩) ?_) | (with_reducible refine Or.inr ?_) | (refine And.intro (Ob.mk (flat_of rfl)) ?_) | (with_reducible refine And.intro (Ob.mk (Flat.map ?_)) ?_; exact fun _ => rfl) | (with_reducible first | exact Ob.mk (Flat.map fun _ => rfl) | refine And.intro ?_ ?_ | apply exG.mk | apply exGS.mk | exact Dd.nil) | (refine Dd.same _ ?_) | (refine Dd.dead _ ?_) | (with_reducible first | apply exQ.mk | apply exP.mk) | (refine EqP.mk rfl rfl) | (with_reducible apply exW.mk) | (refine EqW.mk rfl) | (with_reducible first | intro _ | refine Dn.mk ?_) | (refine exS.full (by first | rfl | (simp; done) | (simp; omega)) ?_) | (refine And.intro (Ob.mk ⟨rfl, rfl, by first | rfl | (simp; done) | (simp; omega)⟩) ?_) | (with_reducible refine exE.mapD ?_) | (refine exL.int ?_) | (with_reducible first | refine Up0.mk rfl ?_ | refine Up0i.mk rfl ?_ | refine Up1.mk rfl ?_ | refine Up1i.mk rfl ?_ | refine Up2.mk rfl ?_ | refine Up2i.mk rfl ?_) | (refine Col.mk rfl rfl rfl ?_) | (refine Coli.mk rfl rfl rfl rfl ?_))
  all_goals
    show T.int _ _ = T.int _ _
    unfold lsetsN
    (try simp only [ltI_iff, ltI_not, leI_iff, leI_not, eqI_iff, eqI_not, List.length_map, bif_and, bif_or, Bool.and_eq_true, Bool.and_eq_false_iff, Bool.or_eq_true, Bool.or_eq_false_iff, Bool.not_eq_true', Bool.not_eq_false', Int.toNat_natCast, beq_iff_eq, beq_eq_false_iff_ne, decide_eq_true_eq, decide_eq_false_iff_not] at *)
    congr 1
    repeat' split
    all_goals first | rfl | omega
theorem luses57 (x : Ins) (hx : x.args.length ≤ 2 ^ 20) : PCalls Tryd.prog 60 [x.t] (fun r => r = ilist (usesN x)) := by
  refine PCalls.coarse ?_
  refine PCalls.of_body ttOk Tryd.func60 rfl ?_
  repeat' ((conv => whnf); first | (with_reducible first | refine onBool_intro (fun _ => ?_) (fun _ => ?_) | refine And.intro (Ob.mk (Nat.le_of_ble_eq_true rfl)) ?_ | refine And.intro (Ob.mk rfl) ?_ | exact ⟨rfl, rfl⟩ | refine And.intro (Ob.mk (fun h => h)) ?_) | (with_reducible refine Or.inl (And.intro (Ob.mk (Flat.map ?_)) ?_); exact fun _ => rfl) | (refine Or.inl (And.intro (Ob.mk (flat_of rfl)) ?_)) | (refine Or.inl (And.intro (Ob.mk ⟨rfl, rfl, rfl, rfl⟩) ?_)) | (refine Or.inl (And.intro (Ob.mk ⟨rfl, rfl, rfl⟩) ?_)) | (refine And.intro (Ob.mk ⟨rfl, rfl⟩) ?_) | (with_reducible refine Or.inr ?_) | (refine And.intro (Ob.mk (flat_of rfl)) ?_) | (with_reducible refine And.intro (Ob.mk (Flat.map ?_)) ?_; exact fun _ => rfl) | (with_reducible first | exact Ob.mk (Flat.map fun _ => rfl) | refine And.intro ?_ ?_ | apply exG.mk | apply exGS.mk | exact Dd.nil) | (refine Dd.same _ ?_) | (refine Dd.dead _ ?_) | (with_reducible first | apply exQ.mk | apply exP.mk) | (refine EqP.mk rfl rfl) | (with_reducible apply exW.mk) | (refine EqW.mk rfl) | (with_reducible first | intro _ | refine Dn.mk ?_) | (refine exS.full (by first | rfl | (simp; done) | (simp; omega)) ?_) | (refine And.intro (Ob.mk ⟨rfl, rfl, by first | rfl | (simp; done) | (simp; omega)⟩) ?_) | (with_reducible refine exE.mapD ?_) | (refine exL.int ?_) | (with_reducible first | refine Up0.mk rfl ?_ | refine Up0i.mk rfl ?_ | refine Up1.mk rfl ?_ | refine Up1i.mk rfl ?_ | refine Up2.mk rfl ?_ | refine Up2i.mk rfl ?_) | (refine Col.mk rfl rfl rfl ?_) | (refine Coli.mk rfl rfl rfl rfl ?_))
  all_goals (try (refine Ob.mk ?_; first | assumption | exact ⟨rfl, rfl⟩ | exact ⟨rfl, rfl, rfl⟩ | (refine ⟨rfl, rfl, ?_⟩; simp only [List.length_map, List.length_take, List.length_append, els_len, List.length_replicate]; omega) | (intro h; exact h) | (intro h; rw [h]; rfl) | (intro h; simp_all; done) | (refine bytes_le (n := 1048577) ?_ rfl; simp only [ltI_iff, ltI_not, leI_iff, leI_not, eqI_iff, eqI_not, List.length_map, bif_and, bif_or, Bool.and_eq_true, Bool.and_eq_false_iff, Bool.or_eq_true, Bool.or_eq_false_iff, Bool.not_eq_true', Bool.not_eq_false', Int.toNat_natCast, beq_iff_eq, beq_eq_false_iff_ne, decide_eq_true_eq, decide_eq_false_iff_not, bel_iff, bel_not, wthn_iff, wthn_not, els_len, mixL_len, Nat.zero_add, List.length_set, List.length_take] at *; omega) | (simp only [ltI_iff, ltI_not, leI_iff, leI_not, eqI_iff, eqI_not, List.length_map, bif_and, bif_or, Bool.and_eq_true, Bool.and_eq_false_iff, Bool.or_eq_true, Bool.or_eq_false_iff, Bool.not_eq_true', Bool.not_eq_false', Int.toNat_natCast, beq_iff_eq, beq_eq_false_iff_ne, decide_eq_true_eq, decide_eq_false_iff_not, bel_iff, bel_not, wthn_iff, wthn_not, els_len, mixL_len, Nat.zero_add, List.length_set, List.length_take, Int.ofNat_eq_natCast] at *; omega)))
  all_goals
    show Le _ _
    (try simp only [bif_and, bif_or, leI_iff, leI_not, eqI_iff, eqI_not, Bool.and_eq_true, Bool.and_eq_false_iff, Bool.or_eq_true, Bool.or_eq_false_iff] at *)
    have hk : kindN x.op = (if x.op = 1 then 1 else if 2 ≤ x.op ∧ x.op ≤ 5 then 2 else if 6 ≤ x.op ∧ x.op ≤ 24 then 3 else if 25 ≤ x.op ∧ x.op ≤ 29 then x.op - 21 else if x.op = 30 then 9 else if x.op = 31 ∨ x.op = 32 then 10 else 0) := rfl
    first
    | (have e : usesN x = [x.a, x.b] := by
        unfold usesN; rw [if_neg, if_pos] <;> (repeat' split at hk) <;> omega
       rw [e]; exact Le.refl _)
    | (have e : usesN x = [x.a] := by
        unfold usesN; rw [if_pos]; (repeat' split at hk) <;> omega
       rw [e]; exact Le.refl _)
    | (have e : usesN x = x.args := by
        unfold usesN; rw [if_neg, if_neg, if_pos] <;> (repeat' split at hk) <;> omega
       rw [e]; simp [ilist, List.take_of_length_le]; exact Le.refl _)
    | (have e : usesN x = [] := by
        unfold usesN; rw [if_neg, if_neg, if_neg] <;> (repeat' split at hk) <;> omega
       rw [e]; exact Le.nsl _)
theorem lendUses58 (x : End) : PCalls Tryd.prog 61 [x.t] (fun r => r = ilist (eUsesN x)) := by
  refine PCalls.coarse ?_
  refine PCalls.of_body ttOk Tryd.func61 rfl ?_
  repeat' ((conv => whnf); first | (with_reducible first | refine onBool_intro (fun _ => ?_) (fun _ => ?_) | refine And.intro (Ob.mk (Nat.le_of_ble_eq_true rfl)) ?_ | refine And.intro (Ob.mk rfl) ?_ | exact ⟨rfl, rfl⟩ | refine And.intro (Ob.mk (fun h => h)) ?_) | (with_reducible refine Or.inl (And.intro (Ob.mk (Flat.map ?_)) ?_); exact fun _ => rfl) | (refine Or.inl (And.intro (Ob.mk (flat_of rfl)) ?_)) | (refine Or.inl (And.intro (Ob.mk ⟨rfl, rfl, rfl, rfl⟩) ?_)) | (refine Or.inl (And.intro (Ob.mk ⟨rfl, rfl, rfl⟩) ?_)) | (refine And.intro (Ob.mk ⟨rfl, rfl⟩) ?_) | (with_reducible refine Or.inr ?_) | (refine And.intro (Ob.mk (flat_of rfl)) ?_) | (with_reducible refine And.intro (Ob.mk (Flat.map ?_)) ?_; exact fun _ => rfl) | (with_reducible first | exact Ob.mk (Flat.map fun _ => rfl) | refine And.intro ?_ ?_ | apply exG.mk | apply exGS.mk | exact Dd.nil) | (refine Dd.same _ ?_) | (refine Dd.dead _ ?_) | (with_reducible first | apply exQ.mk | apply exP.mk) | (refine EqP.mk rfl rfl) | (with_reducible apply exW.mk) | (refine EqW.mk rfl) | (with_reducible first | intro _ | refine Dn.mk ?_) | (refine exS.full (by first | rfl | (simp; done) | (simp; omega)) ?_) | (refine And.intro (Ob.mk ⟨rfl, rfl, by first | rfl | (simp; done) | (simp; omega)⟩) ?_) | (with_reducible refine exE.mapD ?_) | (refine exL.int ?_) | (with_reducible first | refine Up0.mk rfl ?_ | refine Up0i.mk rfl ?_ | refine Up1.mk rfl ?_ | refine Up1i.mk rfl ?_ | refine Up2.mk rfl ?_ | refine Up2i.mk rfl ?_) | (refine Col.mk rfl rfl rfl ?_) | (refine Coli.mk rfl rfl rfl rfl ?_))
  all_goals (try (refine Ob.mk ?_; first | assumption | exact ⟨rfl, rfl⟩ | exact ⟨rfl, rfl, rfl⟩ | (refine ⟨rfl, rfl, ?_⟩; simp only [List.length_map, List.length_take, List.length_append, els_len, List.length_replicate]; omega) | (intro h; exact h) | (intro h; rw [h]; rfl) | (intro h; simp_all; done) | (refine bytes_le (n := 1048577) ?_ rfl; simp only [ltI_iff, ltI_not, leI_iff, leI_not, eqI_iff, eqI_not, List.length_map, bif_and, bif_or, Bool.and_eq_true, Bool.and_eq_false_iff, Bool.or_eq_true, Bool.or_eq_false_iff, Bool.not_eq_true', Bool.not_eq_false', Int.toNat_natCast, beq_iff_eq, beq_eq_false_iff_ne, decide_eq_true_eq, decide_eq_false_iff_not, bel_iff, bel_not, wthn_iff, wthn_not, els_len, mixL_len, Nat.zero_add, List.length_set, List.length_take] at *; omega) | (simp only [ltI_iff, ltI_not, leI_iff, leI_not, eqI_iff, eqI_not, List.length_map, bif_and, bif_or, Bool.and_eq_true, Bool.and_eq_false_iff, Bool.or_eq_true, Bool.or_eq_false_iff, Bool.not_eq_true', Bool.not_eq_false', Int.toNat_natCast, beq_iff_eq, beq_eq_false_iff_ne, decide_eq_true_eq, decide_eq_false_iff_not, bel_iff, bel_not, wthn_iff, wthn_not, els_len, mixL_len, Nat.zero_add, List.length_set, List.length_take, Int.ofNat_eq_natCast] at *; omega)))
  all_goals
    show Le _ _
    (try simp only [bif_and, bif_or, leI_iff, leI_not, eqI_iff, eqI_not, Bool.and_eq_true, Bool.and_eq_false_iff, Bool.or_eq_true, Bool.or_eq_false_iff, Bool.not_eq_true', Bool.not_eq_false'] at *)
    first
    | (have e : eUsesN x = [x.a, x.b] := by
        unfold eUsesN; rw [if_pos]; omega
       rw [e]; exact Le.refl _)
    | (have e : eUsesN x = [x.a] := by
        unfold eUsesN; rw [if_neg (by omega)]; split <;> first | rfl | (rw [if_pos (by omega)])
       rw [e]; exact Le.refl _)
    | (have e : eUsesN x = [] := by
        unfold eUsesN; rw [if_neg (by omega), if_neg (by omega), if_neg (by omega)]
       rw [e]; exact Le.nsl _)
end Go.Proofs.YtgnafgebenlffaaDoor.Am

/- One instruction back, on words. -/
namespace Go.Proofs.YtgnafgebenlffaaDoor.Am
open Go Go.Proofs
set_option maxRecDepth 10000
set_option maxHeartbeats 2000000
set_option linter.unusedVariables false
set_option linter.unusedSimpArgs false
theorem add79k (p : Nat → Bool) (z : Int) (hz : Ob (0 ≤ z ∧ z < 8000)) {q : SV → Sto → Prop} (hq : q (.tup []) [.row 102 1 (wordsT fun u => if u = z.toNat then true else p u)]) : ICalls Tryd.prog 81 [.pl 0 0 [] 0 0, .t (.int .i64 z)] [.row 102 1 (wordsT p)] q := by
  obtain ⟨t, rfl⟩ := Int.eq_ofNat_of_zero_le hz.out.1
  exact ICalls.mono (add79 p t (by have := hz.out.2; omega)) fun v σ h => by obtain ⟨rfl, rfl⟩ := h.out; exact hq
theorem drop82k (p : Nat → Bool) (z : Int) (hz : Ob (0 ≤ z ∧ z < 8000)) {q : SV → Sto → Prop} (hq : q (.tup []) [.row 102 1 (wordsT fun u => if u = z.toNat then false else p u)]) : ICalls Tryd.prog 83 [.pl 0 0 [] 0 0, .t (.int .i64 z)] [.row 102 1 (wordsT p)] q := by
  obtain ⟨t, rfl⟩ := Int.eq_ofNat_of_zero_le hz.out.1
  exact ICalls.mono (drop82 p t (by have := hz.out.2; omega)) fun v σ h => by obtain ⟨rfl, rfl⟩ := h.out; exact hq
abbrev xS (x : Ins) : SV := .agg [.t (.int .i64 x.op), .t (.int .i64 x.d), .t (.int .i64 x.a), .t (.int .i64 x.b), .t (.int .i64 x.f), .t (.int .u32 x.n), .t (ilist x.args), .t (ilist x.arrs)]
theorem back62 (x : Ins) (hx : x.args.length ≤ 2 ^ 20) (ho : 1 ≤ x.op ∧ x.op ≤ 32) (hu : ∀ t ∈ usesN x, 0 ≤ t ∧ t < 8000) (hs : setsN x < 8000) (f : Nat → Bool) :
    ICalls Tryd.prog 75 [.pl 0 0 [] 0 0, xS x] [.row 102 1 (wordsT f)] (fun v σ => Ob (v = .tup [] ∧ σ = [.row 102 1 (wordsT (backF x f)), ivar x])) := by
  have hul := uses_len hx
  have hU : ∀ i, i < (usesN x).length → 0 ≤ nthD (usesN x) i ∧ nthD (usesN x) i < 8000 := fun i hi => hu _ (nthD_mem hi)
  have h81 : PCalls Tryd.prog 39 [x.t] (fun r => r = .int .i64 (setsN x)) := by rw [setsN_eq ho]; exact lsets81 x
  refine ICalls.inline (I := fun f => Nat.beq f 81 || Nat.beq f 83) ttOk Tryd.func75 rfl ?_
  repeat' ((conv => whnf); first | (with_reducible first | refine onBool_intro (fun _ => ?_) (fun _ => ?_) | refine And.intro (Ob.mk (Nat.le_of_ble_eq_true rfl)) ?_ | refine And.intro (Ob.mk rfl) ?_ | exact ⟨rfl, rfl⟩ | refine And.intro (Ob.mk (fun h => h)) ?_) | (with_reducible refine Or.inl (And.intro (Ob.mk (Flat.map ?_)) ?_); exact fun _ => rfl) | (refine Or.inl (And.intro (Ob.mk (flat_of rfl)) ?_)) | (refine Or.inl (And.intro (Ob.mk ⟨rfl, rfl, rfl, rfl⟩) ?_)) | (refine Or.inl (And.intro (Ob.mk ⟨rfl, rfl, rfl⟩) ?_)) | (refine And.intro (Ob.mk ⟨rfl, rfl⟩) ?_) | (with_reducible refine Or.inr ?_) | (refine And.intro (Ob.mk (flat_of rfl)) ?_) | (with_reducible refine And.intro (Ob.mk (Flat.map ?_)) ?_; exact fun _ => rfl) | (with_reducible first | exact Ob.mk (Flat.map fun _ => rfl) | refine And.intro ?_ ?_ | apply exG.mk | apply exGS.mk | exact Dd.nil) | (refine Dd.same _ ?_) | (refine Dd.dead _ ?_) | (with_reducible first | apply exQ.mk | apply exP.mk) | (refine EqP.mk rfl rfl) | (with_reducible apply exW.mk) | (refine EqW.mk rfl) | (with_reducible first | intro _ | refine Dn.mk ?_) | (refine exS.full (by first | rfl | (simp; done) | (simp; omega)) ?_) | (refine And.intro (Ob.mk ⟨rfl, rfl, by first | rfl | (simp; done) | (simp; omega)⟩) ?_) | (with_reducible refine exE.mapD ?_) | (refine exL.int ?_) | (with_reducible first | refine Up0.mk rfl ?_ | refine Up0i.mk rfl ?_ | refine Up1.mk rfl ?_ | refine Up1i.mk rfl ?_ | refine Up2.mk rfl ?_ | refine Up2i.mk rfl ?_) | (refine Col.mk rfl rfl rfl ?_) | (refine Coli.mk rfl rfl rfl rfl ?_) | (refine PCalls.mono h81 ?_; rintro _ rfl) | (refine PCalls.mono (luses57 _ hx) ?_; rintro _ rfl) | (refine ICalls.frame [0] rfl (drop82k _ _ ?_ ?_)))
  all_goals (try (refine Ob.mk ?_; first | assumption | exact ⟨rfl, rfl⟩ | exact ⟨rfl, rfl, rfl⟩ | (refine ⟨rfl, rfl, ?_⟩; simp only [List.length_map, List.length_take, List.length_append, els_len, List.length_replicate]; omega) | (intro h; exact h) | (intro h; rw [h]; rfl) | (intro h; simp_all; done) | (refine bytes_le (n := 1048577) ?_ rfl; simp only [ltI_iff, ltI_not, leI_iff, leI_not, eqI_iff, eqI_not, List.length_map, bif_and, bif_or, Bool.and_eq_true, Bool.and_eq_false_iff, Bool.or_eq_true, Bool.or_eq_false_iff, Bool.not_eq_true', Bool.not_eq_false', Int.toNat_natCast, beq_iff_eq, beq_eq_false_iff_ne, decide_eq_true_eq, decide_eq_false_iff_not, bel_iff, bel_not, wthn_iff, wthn_not, els_len, mixL_len, Nat.zero_add, List.length_set, List.length_take] at *; omega) | (simp only [ltI_iff, ltI_not, leI_iff, leI_not, eqI_iff, eqI_not, List.length_map, bif_and, bif_or, Bool.and_eq_true, Bool.and_eq_false_iff, Bool.or_eq_true, Bool.or_eq_false_iff, Bool.not_eq_true', Bool.not_eq_false', Int.toNat_natCast, beq_iff_eq, beq_eq_false_iff_ne, decide_eq_true_eq, decide_eq_false_iff_not, bel_iff, bel_not, wthn_iff, wthn_not, els_len, mixL_len, Nat.zero_add, List.length_set, List.length_take, Int.ofNat_eq_natCast] at *; omega)))
  all_goals
    conv => whnf
    refine LoopVC.upS 17 [] (usesN x).length (fun i => [.row 102 1 (wordsT fun t => ((usesN x).take i).contains (t : Int) || (f t && !(setsN x == (t : Int)))), ivar x]) (fun _ => True) ?_ ?_
    · repeat' ((conv => whnf); first | (with_reducible first | refine onBool_intro (fun _ => ?_) (fun _ => ?_) | refine And.intro (Ob.mk (Nat.le_of_ble_eq_true rfl)) ?_ | refine And.intro (Ob.mk rfl) ?_ | exact ⟨rfl, rfl⟩ | refine And.intro (Ob.mk (fun h => h)) ?_) | (with_reducible refine Or.inl (And.intro (Ob.mk (Flat.map ?_)) ?_); exact fun _ => rfl) | (refine Or.inl (And.intro (Ob.mk (flat_of rfl)) ?_)) | (refine Or.inl (And.intro (Ob.mk ⟨rfl, rfl, rfl, rfl⟩) ?_)) | (refine Or.inl (And.intro (Ob.mk ⟨rfl, rfl, rfl⟩) ?_)) | (refine And.intro (Ob.mk ⟨rfl, rfl⟩) ?_) | (with_reducible refine Or.inr ?_) | (refine And.intro (Ob.mk (flat_of rfl)) ?_) | (with_reducible refine And.intro (Ob.mk (Flat.map ?_)) ?_; exact fun _ => rfl) | (with_reducible first | exact Ob.mk (Flat.map fun _ => rfl) | refine And.intro ?_ ?_ | apply exG.mk | apply exGS.mk | exact Dd.nil) | (refine Dd.same _ ?_) | (refine Dd.dead _ ?_) | (with_reducible first | apply exQ.mk | apply exP.mk) | (refine EqP.mk rfl rfl) | (with_reducible apply exW.mk) | (refine EqW.mk rfl) | (with_reducible first | intro _ | refine Dn.mk ?_) | (refine exS.full (by first | rfl | (simp; done) | (simp; omega)) ?_) | (refine And.intro (Ob.mk ⟨rfl, rfl, by first | rfl | (simp; done) | (simp; omega)⟩) ?_) | (with_reducible refine exE.mapD ?_) | (refine exL.int ?_) | (with_reducible first | refine Up0.mk rfl ?_ | refine Up0i.mk rfl ?_ | refine Up1.mk rfl ?_ | refine Up1i.mk rfl ?_ | refine Up2.mk rfl ?_ | refine Up2i.mk rfl ?_) | (refine Col.mk rfl rfl rfl ?_) | (refine Coli.mk rfl rfl rfl rfl ?_) | (refine UpSi.mk ?_))
      simp only [ltI_iff, ltI_not, leI_iff, leI_not, eqI_iff, eqI_not, List.length_map, bif_and, bif_or, Bool.and_eq_true, Bool.and_eq_false_iff, Bool.or_eq_true, Bool.or_eq_false_iff, Bool.not_eq_true', Bool.not_eq_false', Int.toNat_natCast, beq_iff_eq, beq_eq_false_iff_ne, decide_eq_true_eq, decide_eq_false_iff_not] at *
      refine Ob.mk ⟨congrArg (fun y => [SObj.row 102 1 y, ivar x]) (wordsT_congr fun t ht => ?_), trivial⟩
      first
      | (have h3 : 0 ≤ setsN x := by omega
         by_cases e : t = (setsN x).toNat
         · rw [if_pos e]
           have : (setsN x == (t : Int)) = true := by rw [beq_iff_eq]; omega
           rw [this]; simp
         · rw [if_neg e]
           have : (setsN x == (t : Int)) = false := by rw [beq_eq_false_iff_ne]; omega
           rw [this]; simp)
      | (have : (setsN x == (t : Int)) = false := by rw [beq_eq_false_iff_ne]; omega
         rw [this]; simp)
    · rintro i hi -
      repeat' ((conv => whnf); first | (with_reducible first | refine onBool_intro (fun _ => ?_) (fun _ => ?_) | refine And.intro (Ob.mk (Nat.le_of_ble_eq_true rfl)) ?_ | refine And.intro (Ob.mk rfl) ?_ | exact ⟨rfl, rfl⟩ | refine And.intro (Ob.mk (fun h => h)) ?_) | (with_reducible refine Or.inl (And.intro (Ob.mk (Flat.map ?_)) ?_); exact fun _ => rfl) | (refine Or.inl (And.intro (Ob.mk (flat_of rfl)) ?_)) | (refine Or.inl (And.intro (Ob.mk ⟨rfl, rfl, rfl, rfl⟩) ?_)) | (refine Or.inl (And.intro (Ob.mk ⟨rfl, rfl, rfl⟩) ?_)) | (refine And.intro (Ob.mk ⟨rfl, rfl⟩) ?_) | (with_reducible refine Or.inr ?_) | (refine And.intro (Ob.mk (flat_of rfl)) ?_) | (with_reducible refine And.intro (Ob.mk (Flat.map ?_)) ?_; exact fun _ => rfl) | (with_reducible first | exact Ob.mk (Flat.map fun _ => rfl) | refine And.intro ?_ ?_ | apply exG.mk | apply exGS.mk | exact Dd.nil) | (refine Dd.same _ ?_) | (refine Dd.dead _ ?_) | (with_reducible first | apply exQ.mk | apply exP.mk) | (refine EqP.mk rfl rfl) | (with_reducible apply exW.mk) | (refine EqW.mk rfl) | (with_reducible first | intro _ | refine Dn.mk ?_) | (refine exS.full (by first | rfl | (simp; done) | (simp; omega)) ?_) | (refine And.intro (Ob.mk ⟨rfl, rfl, by first | rfl | (simp; done) | (simp; omega)⟩) ?_) | (with_reducible refine exE.mapD ?_) | (refine exL.int ?_) | (with_reducible first | refine Up0.mk rfl ?_ | refine Up0i.mk rfl ?_ | refine Up1.mk rfl ?_ | refine Up1i.mk rfl ?_ | refine Up2.mk rfl ?_ | refine Up2i.mk rfl ?_) | (refine Col.mk rfl rfl rfl ?_) | (refine Coli.mk rfl rfl rfl rfl ?_) | (refine UpS.mk ?_) | (refine ICalls.frame [0] rfl (add79k _ _ ?_ ?_)))
      all_goals (try (refine Ob.mk ?_; first | assumption | exact ⟨rfl, rfl⟩ | exact ⟨rfl, rfl, rfl⟩ | (refine ⟨rfl, rfl, ?_⟩; simp only [List.length_map, List.length_take, List.length_append, els_len, List.length_replicate]; omega) | (intro h; exact h) | (intro h; rw [h]; rfl) | (intro h; simp_all; done) | (refine bytes_le (n := 1048577) ?_ rfl; simp only [ltI_iff, ltI_not, leI_iff, leI_not, eqI_iff, eqI_not, List.length_map, bif_and, bif_or, Bool.and_eq_true, Bool.and_eq_false_iff, Bool.or_eq_true, Bool.or_eq_false_iff, Bool.not_eq_true', Bool.not_eq_false', Int.toNat_natCast, beq_iff_eq, beq_eq_false_iff_ne, decide_eq_true_eq, decide_eq_false_iff_not, bel_iff, bel_not, wthn_iff, wthn_not, els_len, mixL_len, Nat.zero_add, List.length_set, List.length_take] at *; omega) | (simp only [ltI_iff, ltI_not, leI_iff, leI_not, eqI_iff, eqI_not, List.length_map, bif_and, bif_or, Bool.and_eq_true, Bool.and_eq_false_iff, Bool.or_eq_true, Bool.or_eq_false_iff, Bool.not_eq_true', Bool.not_eq_false', Int.toNat_natCast, beq_iff_eq, beq_eq_false_iff_ne, decide_eq_true_eq, decide_eq_false_iff_not, bel_iff, bel_not, wthn_iff, wthn_not, els_len, mixL_len, Nat.zero_add, List.length_set, List.length_take, Int.ofNat_eq_natCast] at *; omega)))
      · rename_i h2
        have hlt : i < (usesN x).length := by simp only [ltI_iff, ltI_not, leI_iff, leI_not, eqI_iff, eqI_not, List.length_map, bif_and, bif_or, Bool.and_eq_true, Bool.and_eq_false_iff, Bool.or_eq_true, Bool.or_eq_false_iff, Bool.not_eq_true', Bool.not_eq_false', Int.toNat_natCast, beq_iff_eq, beq_eq_false_iff_ne, decide_eq_true_eq, decide_eq_false_iff_not] at *; omega
        exact Ob.mk (hU i hlt)
      · rename_i h2 h3
        have hlt : i < (usesN x).length := by simp only [ltI_iff, ltI_not, leI_iff, leI_not, eqI_iff, eqI_not, List.length_map, bif_and, bif_or, Bool.and_eq_true, Bool.and_eq_false_iff, Bool.or_eq_true, Bool.or_eq_false_iff, Bool.not_eq_true', Bool.not_eq_false', Int.toNat_natCast, beq_iff_eq, beq_eq_false_iff_ne, decide_eq_true_eq, decide_eq_false_iff_not] at *; omega
        have hUi := hU i hlt
        refine Ob.mk ⟨hlt, addI_i64 (by omega) (by omega), congrArg (fun y => [SObj.row 102 1 y, ivar x]) (wordsT_congr fun t ht => ?_), trivial⟩
        rw [take_contains hlt]
        rw [Int.toNat_natCast]
        by_cases e : t = (nthD (usesN x) i).toNat
        · rw [if_pos e]
          have : ((t : Int) == nthD (usesN x) i) = true := by rw [beq_iff_eq]; omega
          rw [this]; simp
        · rw [if_neg e]
          have : ((t : Int) == nthD (usesN x) i) = false := by rw [beq_eq_false_iff_ne]; omega
          rw [this]; simp
      · rename_i h2
        have hge : (usesN x).length ≤ i := by simp only [ltI_iff, ltI_not, leI_iff, leI_not, eqI_iff, eqI_not, List.length_map, bif_and, bif_or, Bool.and_eq_true, Bool.and_eq_false_iff, Bool.or_eq_true, Bool.or_eq_false_iff, Bool.not_eq_true', Bool.not_eq_false', Int.toNat_natCast, beq_iff_eq, beq_eq_false_iff_ne, decide_eq_true_eq, decide_eq_false_iff_not] at *; omega
        rw [List.take_of_length_le hge]
        conv => whnf
        exact Ob.mk ⟨rfl, rfl⟩
end Go.Proofs.YtgnafgebenlffaaDoor.Am

/- What is needed behind a block's code, on words. -/
namespace Go.Proofs.YtgnafgebenlffaaDoor.Am
open Go Go.Proofs
set_option maxRecDepth 10000
set_option maxHeartbeats 2000000
set_option linter.unusedVariables false
set_option linter.unusedSimpArgs false
theorem natB_zero : ∀ n, natB n (fun _ => false) = 0
  | 0 => rfl
  | n + 1 => by simp [natB, natB_zero n]
theorem wordsT_zero : List.replicate 125 (T.int .u64 0) = wordsT fun _ => false := by
  apply List.ext_getElem
  · simp
  · intro j h1 h2
    simp only [List.getElem_replicate, List.getElem_map, List.getElem_range]
    rw [wordN, wordB, natB_zero]
    rfl
abbrev setsR (m : Nat) (a : Nat → Nat → Bool) : List T := (List.range m).map fun b => .arr (wordsT (a b))
theorem wordN_congr {p q : Nat → Bool} {i : Nat} (h : ∀ t, t / 64 = i → p t = q t) : wordN p i = wordN q i := by
  have : wordB p i = wordB q i := natB_eq fun k hk => h _ (by omega)
  rw [wordN, wordN, this]
theorem words64 {n : Int} (h : 0 ≤ n ∧ n ≤ 8000) : quoI .i64 (addI .i64 n 63) 64 = (((n.toNat + 63) / 64 : Nat) : Int) := by
  rw [addI_i64 (by omega) (by omega)]
  have e : n + 63 = ((n.toNat + 63 : Nat) : Int) := by omega
  rw [e]
  unfold quoI
  have : ((n.toNat + 63 : Nat) : Int).tdiv 64 = (((n.toNat + 63) / 64 : Nat) : Int) := rfl
  rw [this]
  simp only [IntKind.wrap, IntKind.bits, IntKind.signed]
  simp
  omega
theorem next55k (g : Graph) (b : Int) (hg : g.tiny) (hw : ∀ b ∈ g.blocks, ∀ x ∈ allN b.fin, I64 x) (hb : Ob (0 ≤ b ∧ b < g.blocks.length)) {q : T → Prop} (hq : q (ilist (nextN g b))) : PCalls Tryd.prog 58 [g.t, .int .i64 b] q :=
  PCalls.mono (next55 g b hg (hw _ (nthD_mem (by have := hb.out; omega)))) fun _ h => h ▸ hq
abbrev gS (g : Graph) : SV := .agg [.t (ilist g.params), .t (.int .i64 g.temps), .t (.sl 2 (g.arrays.map Arr.t)), .t (.sl 10 (g.blocks.map Block.t))]
theorem behind60 (g : Graph) (hg : g.fit) (hw : ∀ b ∈ g.blocks, ∀ x ∈ allN b.fin, I64 x) (b : Int) (hb : 0 ≤ b ∧ b < g.blocks.length) (a : Nat → Nat → Bool) (ep : Nat → Nat) (hep : ep 0 = 0) (hz : ∀ s, s < g.blocks.length → ∀ t, t < 8000 → a s t = true → t < g.temps.toNat) :
    ICalls Tryd.prog 73 [gS g, .t (.int .i64 b), .osl 0 0 g.blocks.length] [.nd ep (.row 102 125 (setsR g.blocks.length a))] (fun v σ => Ob (v = .pl 2 0 [] 0 0 ∧ σ = [.nd ep (.row 102 125 (setsR g.blocks.length a)), gvar g, .row 102 1 (wordsT (endF g a b.toNat))])) := by
  have ht := hg.temps
  have hm := hg.blocks
  have hnl := next_len hg.tiny b
  have hel := eUses_len (e := (nthD g.blocks b.toNat).fin)
  have hb1 : b.toNat < g.blocks.length := by omega
  have hN : ∀ i, i < (nextN g b).length → 0 ≤ nthD (nextN g b) i ∧ nthD (nextN g b) i < g.blocks.length := fun i hi => by
    have := hg.next b.toNat hb1
    rw [Int.toNat_of_nonneg hb.1] at this
    exact this _ (nthD_mem hi)
  have hE : ∀ i, i < (eUsesN (nthD g.blocks b.toNat).fin).length → 0 ≤ nthD (eUsesN (nthD g.blocks b.toNat).fin) i ∧ nthD (eUsesN (nthD g.blocks b.toNat).fin) i < g.temps := fun i hi => hg.ends _ (nthD_mem hb1) _ (nthD_mem hi)
  refine ICalls.inline (I := fun f => Nat.beq f 81) ttOk Tryd.func73 rfl ?_
  repeat' ((conv => whnf); first | (with_reducible first | refine onBool_intro (fun _ => ?_) (fun _ => ?_) | refine And.intro (Ob.mk (Nat.le_of_ble_eq_true rfl)) ?_ | refine And.intro (Ob.mk rfl) ?_ | exact ⟨rfl, rfl⟩ | refine And.intro (Ob.mk (fun h => h)) ?_) | (with_reducible refine Or.inl (And.intro (Ob.mk (Flat.map ?_)) ?_); exact fun _ => rfl) | (refine Or.inl (And.intro (Ob.mk (flat_of rfl)) ?_)) | (refine Or.inl (And.intro (Ob.mk ⟨rfl, rfl, rfl, rfl⟩) ?_)) | (refine Or.inl (And.intro (Ob.mk ⟨rfl, rfl, rfl⟩) ?_)) | (refine And.intro (Ob.mk ⟨rfl, rfl⟩) ?_) | (with_reducible refine Or.inr ?_) | (refine And.intro (Ob.mk (flat_of rfl)) ?_) | (with_reducible refine And.intro (Ob.mk (Flat.map ?_)) ?_; exact fun _ => rfl) | (with_reducible first | exact Ob.mk (Flat.map fun _ => rfl) | refine And.intro ?_ ?_ | apply exG.mk | apply exGS.mk | exact Dd.nil) | (refine Dd.same _ ?_) | (refine Dd.dead _ ?_) | (with_reducible first | apply exQ.mk | apply exP.mk) | (refine EqP.mk rfl rfl) | (with_reducible apply exW.mk) | (refine EqW.mk rfl) | (with_reducible first | intro _ | refine Dn.mk ?_) | (refine exS.full (by first | rfl | (simp; done) | (simp; omega)) ?_) | (refine And.intro (Ob.mk ⟨rfl, rfl, by first | rfl | (simp; done) | (simp; omega)⟩) ?_) | (with_reducible refine exE.mapD ?_) | (refine exL.int ?_) | (with_reducible first | refine Up0.mk rfl ?_ | refine Up0i.mk rfl ?_ | refine Up1.mk rfl ?_ | refine Up1i.mk rfl ?_ | refine Up2.mk rfl ?_ | refine Up2i.mk rfl ?_) | (refine Col.mk rfl rfl rfl ?_) | (refine Coli.mk rfl rfl rfl rfl ?_) | (refine next55k _ _ hg.tiny hw ?_ ?_))
  all_goals (try (refine Ob.mk ?_; first | assumption | exact ⟨rfl, rfl⟩ | exact ⟨rfl, rfl, rfl⟩ | (refine ⟨rfl, rfl, ?_⟩; simp only [List.length_map, List.length_take, List.length_append, els_len, List.length_replicate]; omega) | (intro h; exact h) | (intro h; rw [h]; rfl) | (intro h; simp_all; done) | (refine bytes_le (n := 1048577) ?_ rfl; simp only [ltI_iff, ltI_not, leI_iff, leI_not, eqI_iff, eqI_not, List.length_map, bif_and, bif_or, Bool.and_eq_true, Bool.and_eq_false_iff, Bool.or_eq_true, Bool.or_eq_false_iff, Bool.not_eq_true', Bool.not_eq_false', Int.toNat_natCast, beq_iff_eq, beq_eq_false_iff_ne, decide_eq_true_eq, decide_eq_false_iff_not, bel_iff, bel_not, wthn_iff, wthn_not, els_len, mixL_len, Nat.zero_add, List.length_set, List.length_take] at *; omega) | (simp only [ltI_iff, ltI_not, leI_iff, leI_not, eqI_iff, eqI_not, List.length_map, bif_and, bif_or, Bool.and_eq_true, Bool.and_eq_false_iff, Bool.or_eq_true, Bool.or_eq_false_iff, Bool.not_eq_true', Bool.not_eq_false', Int.toNat_natCast, beq_iff_eq, beq_eq_false_iff_ne, decide_eq_true_eq, decide_eq_false_iff_not, bel_iff, bel_not, wthn_iff, wthn_not, els_len, mixL_len, Nat.zero_add, List.length_set, List.length_take, Int.ofNat_eq_natCast] at *; omega)))
  · refine Ob.mk ?_
    rw [show (tt.at 102).zero = List.replicate 125 (.int .u64 0) from rfl]
    intro x hx
    rw [List.eq_of_mem_replicate hx]
    rfl
  conv => whnf
  refine LoopVC.upS 24 [] (nextN g b).length (fun i => [.nd ep (.row 102 125 (setsR g.blocks.length a)), gvar g, .row 102 1 (wordsT fun t => ((nextN g b).take i).any fun s => a s.toNat t)]) (fun _ => True) ?_ ?_
  · repeat' ((conv => whnf); first | (with_reducible first | refine onBool_intro (fun _ => ?_) (fun _ => ?_) | refine And.intro (Ob.mk (Nat.le_of_ble_eq_true rfl)) ?_ | refine And.intro (Ob.mk rfl) ?_ | exact ⟨rfl, rfl⟩ | refine And.intro (Ob.mk (fun h => h)) ?_) | (with_reducible refine Or.inl (And.intro (Ob.mk (Flat.map ?_)) ?_); exact fun _ => rfl) | (refine Or.inl (And.intro (Ob.mk (flat_of rfl)) ?_)) | (refine Or.inl (And.intro (Ob.mk ⟨rfl, rfl, rfl, rfl⟩) ?_)) | (refine Or.inl (And.intro (Ob.mk ⟨rfl, rfl, rfl⟩) ?_)) | (refine And.intro (Ob.mk ⟨rfl, rfl⟩) ?_) | (with_reducible refine Or.inr ?_) | (refine And.intro (Ob.mk (flat_of rfl)) ?_) | (with_reducible refine And.intro (Ob.mk (Flat.map ?_)) ?_; exact fun _ => rfl) | (with_reducible first | exact Ob.mk (Flat.map fun _ => rfl) | refine And.intro ?_ ?_ | apply exG.mk | apply exGS.mk | exact Dd.nil) | (refine Dd.same _ ?_) | (refine Dd.dead _ ?_) | (with_reducible first | apply exQ.mk | apply exP.mk) | (refine EqP.mk rfl rfl) | (with_reducible apply exW.mk) | (refine EqW.mk rfl) | (with_reducible first | intro _ | refine Dn.mk ?_) | (refine exS.full (by first | rfl | (simp; done) | (simp; omega)) ?_) | (refine And.intro (Ob.mk ⟨rfl, rfl, by first | rfl | (simp; done) | (simp; omega)⟩) ?_) | (with_reducible refine exE.mapD ?_) | (refine exL.int ?_) | (with_reducible first | refine Up0.mk rfl ?_ | refine Up0i.mk rfl ?_ | refine Up1.mk rfl ?_ | refine Up1i.mk rfl ?_ | refine Up2.mk rfl ?_ | refine Up2i.mk rfl ?_) | (refine Col.mk rfl rfl rfl ?_) | (refine Coli.mk rfl rfl rfl rfl ?_) | (refine UpSi.mk ?_))
    refine Ob.mk ⟨congrArg (fun y => [SObj.nd ep (.row 102 125 (setsR g.blocks.length a)), gvar g, .row 102 1 y]) ?_, trivial⟩
    exact wordsT_zero
  · rintro i hi -
    repeat' ((conv => whnf); first | (with_reducible first | refine onBool_intro (fun _ => ?_) (fun _ => ?_) | refine And.intro (Ob.mk (Nat.le_of_ble_eq_true rfl)) ?_ | refine And.intro (Ob.mk rfl) ?_ | exact ⟨rfl, rfl⟩ | refine And.intro (Ob.mk (fun h => h)) ?_) | (with_reducible refine Or.inl (And.intro (Ob.mk (Flat.map ?_)) ?_); exact fun _ => rfl) | (refine Or.inl (And.intro (Ob.mk (flat_of rfl)) ?_)) | (refine Or.inl (And.intro (Ob.mk ⟨rfl, rfl, rfl, rfl⟩) ?_)) | (refine Or.inl (And.intro (Ob.mk ⟨rfl, rfl, rfl⟩) ?_)) | (refine And.intro (Ob.mk ⟨rfl, rfl⟩) ?_) | (with_reducible refine Or.inr ?_) | (refine And.intro (Ob.mk (flat_of rfl)) ?_) | (with_reducible refine And.intro (Ob.mk (Flat.map ?_)) ?_; exact fun _ => rfl) | (with_reducible first | exact Ob.mk (Flat.map fun _ => rfl) | refine And.intro ?_ ?_ | apply exG.mk | apply exGS.mk | exact Dd.nil) | (refine Dd.same _ ?_) | (refine Dd.dead _ ?_) | (with_reducible first | apply exQ.mk | apply exP.mk) | (refine EqP.mk rfl rfl) | (with_reducible apply exW.mk) | (refine EqW.mk rfl) | (with_reducible first | intro _ | refine Dn.mk ?_) | (refine exS.full (by first | rfl | (simp; done) | (simp; omega)) ?_) | (refine And.intro (Ob.mk ⟨rfl, rfl, by first | rfl | (simp; done) | (simp; omega)⟩) ?_) | (with_reducible refine exE.mapD ?_) | (refine exL.int ?_) | (with_reducible first | refine Up0.mk rfl ?_ | refine Up0i.mk rfl ?_ | refine Up1.mk rfl ?_ | refine Up1i.mk rfl ?_ | refine Up2.mk rfl ?_ | refine Up2i.mk rfl ?_) | (refine Col.mk rfl rfl rfl ?_) | (refine Coli.mk rfl rfl rfl rfl ?_) | (refine UpS.mk ?_) | (refine PCalls.mono (lendUses58 _) ?_; rintro _ rfl))
    all_goals (try (refine Ob.mk ?_; first | assumption | exact ⟨rfl, rfl⟩ | exact ⟨rfl, rfl, rfl⟩ | (refine ⟨rfl, rfl, ?_⟩; simp only [List.length_map, List.length_take, List.length_append, els_len, List.length_replicate]; omega) | (intro h; exact h) | (intro h; rw [h]; rfl) | (intro h; simp_all; done) | (refine bytes_le (n := 1048577) ?_ rfl; simp only [ltI_iff, ltI_not, leI_iff, leI_not, eqI_iff, eqI_not, List.length_map, bif_and, bif_or, Bool.and_eq_true, Bool.and_eq_false_iff, Bool.or_eq_true, Bool.or_eq_false_iff, Bool.not_eq_true', Bool.not_eq_false', Int.toNat_natCast, beq_iff_eq, beq_eq_false_iff_ne, decide_eq_true_eq, decide_eq_false_iff_not, bel_iff, bel_not, wthn_iff, wthn_not, els_len, mixL_len, Nat.zero_add, List.length_set, List.length_take] at *; omega) | (simp only [ltI_iff, ltI_not, leI_iff, leI_not, eqI_iff, eqI_not, List.length_map, bif_and, bif_or, Bool.and_eq_true, Bool.and_eq_false_iff, Bool.or_eq_true, Bool.or_eq_false_iff, Bool.not_eq_true', Bool.not_eq_false', Int.toNat_natCast, beq_iff_eq, beq_eq_false_iff_ne, decide_eq_true_eq, decide_eq_false_iff_not, bel_iff, bel_not, wthn_iff, wthn_not, els_len, mixL_len, Nat.zero_add, List.length_set, List.length_take, Int.ofNat_eq_natCast] at *; omega)))
    all_goals (try exact Ob.mk hep.symm)
    · rename_i h1
      have hlt : i < (nextN g b).length := by simp only [ltI_iff, ltI_not, leI_iff, leI_not, eqI_iff, eqI_not, List.length_map, bif_and, bif_or, Bool.and_eq_true, Bool.and_eq_false_iff, Bool.or_eq_true, Bool.or_eq_false_iff, Bool.not_eq_true', Bool.not_eq_false', Int.toNat_natCast, beq_iff_eq, beq_eq_false_iff_ne, decide_eq_true_eq, decide_eq_false_iff_not] at *; omega
      have hNi := hN i hlt
      have hNb : (nthD (nextN g b) i).toNat < g.blocks.length := by omega
      conv => whnf
      refine LoopVC.upS 29 [] ((g.temps.toNat + 63) / 64) (fun j => [.nd ep (.row 102 125 (setsR g.blocks.length a)), gvar g, .row 102 1 (wordsT fun t => ((nextN g b).take i).any (fun s => a s.toNat t) || (decide (t < 64 * j) && a (nthD (nextN g b) i).toNat t))]) (fun _ => True) ?_ ?_
      · repeat' ((conv => whnf); first | (with_reducible first | refine onBool_intro (fun _ => ?_) (fun _ => ?_) | refine And.intro (Ob.mk (Nat.le_of_ble_eq_true rfl)) ?_ | refine And.intro (Ob.mk rfl) ?_ | exact ⟨rfl, rfl⟩ | refine And.intro (Ob.mk (fun h => h)) ?_) | (with_reducible refine Or.inl (And.intro (Ob.mk (Flat.map ?_)) ?_); exact fun _ => rfl) | (refine Or.inl (And.intro (Ob.mk (flat_of rfl)) ?_)) | (refine Or.inl (And.intro (Ob.mk ⟨rfl, rfl, rfl, rfl⟩) ?_)) | (refine Or.inl (And.intro (Ob.mk ⟨rfl, rfl, rfl⟩) ?_)) | (refine And.intro (Ob.mk ⟨rfl, rfl⟩) ?_) | (with_reducible refine Or.inr ?_) | (refine And.intro (Ob.mk (flat_of rfl)) ?_) | (with_reducible refine And.intro (Ob.mk (Flat.map ?_)) ?_; exact fun _ => rfl) | (with_reducible first | exact Ob.mk (Flat.map fun _ => rfl) | refine And.intro ?_ ?_ | apply exG.mk | apply exGS.mk | exact Dd.nil) | (refine Dd.same _ ?_) | (refine Dd.dead _ ?_) | (with_reducible first | apply exQ.mk | apply exP.mk) | (refine EqP.mk rfl rfl) | (with_reducible apply exW.mk) | (refine EqW.mk rfl) | (with_reducible first | intro _ | refine Dn.mk ?_) | (refine exS.full (by first | rfl | (simp; done) | (simp; omega)) ?_) | (refine And.intro (Ob.mk ⟨rfl, rfl, by first | rfl | (simp; done) | (simp; omega)⟩) ?_) | (with_reducible refine exE.mapD ?_) | (refine exL.int ?_) | (with_reducible first | refine Up0.mk rfl ?_ | refine Up0i.mk rfl ?_ | refine Up1.mk rfl ?_ | refine Up1i.mk rfl ?_ | refine Up2.mk rfl ?_ | refine Up2i.mk rfl ?_) | (refine Col.mk rfl rfl rfl ?_) | (refine Coli.mk rfl rfl rfl rfl ?_) | (refine UpSi.mk ?_))
        refine Ob.mk ⟨congrArg (fun y => [SObj.nd ep (.row 102 125 (setsR g.blocks.length a)), gvar g, .row 102 1 y]) (wordsT_congr fun t ht => ?_), trivial⟩
        simp
      · rintro j hj -
        repeat' ((conv => whnf); first | (with_reducible first | refine onBool_intro (fun _ => ?_) (fun _ => ?_) | refine And.intro (Ob.mk (Nat.le_of_ble_eq_true rfl)) ?_ | refine And.intro (Ob.mk rfl) ?_ | exact ⟨rfl, rfl⟩ | refine And.intro (Ob.mk (fun h => h)) ?_) | (with_reducible refine Or.inl (And.intro (Ob.mk (Flat.map ?_)) ?_); exact fun _ => rfl) | (refine Or.inl (And.intro (Ob.mk (flat_of rfl)) ?_)) | (refine Or.inl (And.intro (Ob.mk ⟨rfl, rfl, rfl, rfl⟩) ?_)) | (refine Or.inl (And.intro (Ob.mk ⟨rfl, rfl, rfl⟩) ?_)) | (refine And.intro (Ob.mk ⟨rfl, rfl⟩) ?_) | (with_reducible refine Or.inr ?_) | (refine And.intro (Ob.mk (flat_of rfl)) ?_) | (with_reducible refine And.intro (Ob.mk (Flat.map ?_)) ?_; exact fun _ => rfl) | (with_reducible first | exact Ob.mk (Flat.map fun _ => rfl) | refine And.intro ?_ ?_ | apply exG.mk | apply exGS.mk | exact Dd.nil) | (refine Dd.same _ ?_) | (refine Dd.dead _ ?_) | (with_reducible first | apply exQ.mk | apply exP.mk) | (refine EqP.mk rfl rfl) | (with_reducible apply exW.mk) | (refine EqW.mk rfl) | (with_reducible first | intro _ | refine Dn.mk ?_) | (refine exS.full (by first | rfl | (simp; done) | (simp; omega)) ?_) | (refine And.intro (Ob.mk ⟨rfl, rfl, by first | rfl | (simp; done) | (simp; omega)⟩) ?_) | (with_reducible refine exE.mapD ?_) | (refine exL.int ?_) | (with_reducible first | refine Up0.mk rfl ?_ | refine Up0i.mk rfl ?_ | refine Up1.mk rfl ?_ | refine Up1i.mk rfl ?_ | refine Up2.mk rfl ?_ | refine Up2i.mk rfl ?_) | (refine Col.mk rfl rfl rfl ?_) | (refine Coli.mk rfl rfl rfl rfl ?_) | (refine UpS.mk ?_) | (refine drawVC.mkM _ _ 15 15 [(14, [])] [[], [], [0], [0, 1, 2], [0, 1, 2, 3], [], [], [], [5, 6], [5, 6, 7, 8], [5, 6, 7, 8, 9], [0, 1, 2, 3, 4, 5, 6, 7, 8, 9, 10], [0], [0, 1, 2, 3, 4, 5, 6, 7, 8, 9, 10, 11, 12], [0, 1, 2, 3, 4, 5, 6, 7, 8, 9, 10, 11, 12, 13]] rfl (by kernel_rfl) ?_) | (refine exE.mapD (f := fun k => T.int .u64 (wordN (a (nthD (List.range g.blocks.length) (0 + (nthD (nextN g b) (i : Int).toNat).toNat))) k)) (bs := List.range 125) ?_))
        all_goals (try (refine Ob.mk ?_; first | assumption | exact ⟨rfl, rfl⟩ | exact ⟨rfl, rfl, rfl⟩ | (refine ⟨rfl, rfl, ?_⟩; simp only [List.length_map, List.length_take, List.length_append, els_len, List.length_replicate]; omega) | (intro h; exact h) | (intro h; rw [h]; rfl) | (intro h; simp_all; done) | (refine bytes_le (n := 1048577) ?_ rfl; simp only [ltI_iff, ltI_not, leI_iff, leI_not, eqI_iff, eqI_not, List.length_map, bif_and, bif_or, Bool.and_eq_true, Bool.and_eq_false_iff, Bool.or_eq_true, Bool.or_eq_false_iff, Bool.not_eq_true', Bool.not_eq_false', Int.toNat_natCast, beq_iff_eq, beq_eq_false_iff_ne, decide_eq_true_eq, decide_eq_false_iff_not, bel_iff, bel_not, wthn_iff, wthn_not, els_len, mixL_len, Nat.zero_add, List.length_set, List.length_take] at *; omega) | (simp only [ltI_iff, ltI_not, leI_iff, leI_not, eqI_iff, eqI_not, List.length_map, bif_and, bif_or, Bool.and_eq_true, Bool.and_eq_false_iff, Bool.or_eq_true, Bool.or_eq_false_iff, Bool.not_eq_true', Bool.not_eq_false', Int.toNat_natCast, beq_iff_eq, beq_eq_false_iff_ne, decide_eq_true_eq, decide_eq_false_iff_not, bel_iff, bel_not, wthn_iff, wthn_not, els_len, mixL_len, Nat.zero_add, List.length_set, List.length_take, Int.ofNat_eq_natCast] at *; omega)))
        all_goals (try exact Ob.mk hep.symm)
        all_goals (try (rename_i h2; rw [words64 ht, ltI_iff] at h2; refine Ob.mk ?_; (try simp only [List.length_map, List.length_range, Int.toNat_natCast, Nat.zero_add]); first | omega | (show (j : Int) < ((125 : Nat) : Int); omega) | (show j * 1 < 125; omega) | (show 0 + j * 1 < 125; omega)))
        · rename_i h2
          rw [words64 ht, ltI_iff] at h2
          have hj125 : j < 125 := by omega
          refine Ob.mk ⟨by omega, addI_i64 (by omega) (by omega), congrArg (fun y => [SObj.nd ep (.row 102 125 (setsR g.blocks.length a)), gvar g, .row 102 1 y]) ?_, trivial⟩
          simp only [Int.toNat_natCast, Nat.zero_add]
          rw [nthD_range hj125, nthD_range hNb]
          have hj2 : nthD (List.range 125) (j * (tt.at 100).size) = j := by
            show nthD (List.range 125) (j * 1) = j
            rw [Nat.mul_one, nthD_range hj125]
          rw [hj2, word_or]
          refine Eq.trans (congrArg (fun z => (wordsT fun t => ((nextN g b).take i).any (fun s => a s.toNat t) || (decide (t < 64 * j) && a (nthD (nextN g b) i).toNat t)).set j (.int .u64 z)) (wordN_congr (q := fun t => ((nextN g b).take i).any (fun s => a s.toNat t) || (decide (t < 64 * (j + 1)) && a (nthD (nextN g b) i).toNat t)) fun t ht2 => ?_)) (wordsT_set fun t ht2 => ?_)
          · have e1 : decide (t < 64 * j) = false := by rw [decide_eq_false_iff_not]; omega
            have e2 : decide (t < 64 * (j + 1)) = true := by rw [decide_eq_true_eq]; omega
            rw [e1, e2]; simp
          · have e1 : decide (t < 64 * j) = decide (t < 64 * (j + 1)) := by rw [decide_eq_decide]; omega
            rw [e1]
        · rename_i h2
          rw [words64 ht, ltI_not] at h2
          refine Ob.mk ⟨hlt, addI_i64 (by omega) (by omega), congrArg (fun y => [SObj.nd ep (.row 102 125 (setsR g.blocks.length a)), gvar g, .row 102 1 y]) (wordsT_congr fun t ht2 => ?_), trivial⟩
          rw [take_any hlt]
          cases hat : a (nthD (nextN g b) i).toNat t with
          | false => simp
          | true =>
            have := hz _ hNb t ht2 hat
            have : t < 64 * j := by omega
            simp [this]
    · rename_i h1
      have hge : (nextN g b).length ≤ i := by simp only [ltI_iff, ltI_not, leI_iff, leI_not, eqI_iff, eqI_not, List.length_map, bif_and, bif_or, Bool.and_eq_true, Bool.and_eq_false_iff, Bool.or_eq_true, Bool.or_eq_false_iff, Bool.not_eq_true', Bool.not_eq_false', Int.toNat_natCast, beq_iff_eq, beq_eq_false_iff_ne, decide_eq_true_eq, decide_eq_false_iff_not] at *; omega
      rw [List.take_of_length_le hge]
      conv => whnf
      refine LoopVC.upS 56 [] (eUsesN (nthD g.blocks b.toNat).fin).length (fun j => [.nd ep (.row 102 125 (setsR g.blocks.length a)), gvar g, .row 102 1 (wordsT fun t => (nextN g b).any (fun s => a s.toNat t) || ((eUsesN (nthD g.blocks b.toNat).fin).take j).contains (t : Int))]) (fun _ => True) ?_ ?_
      · repeat' ((conv => whnf); first | (with_reducible first | refine onBool_intro (fun _ => ?_) (fun _ => ?_) | refine And.intro (Ob.mk (Nat.le_of_ble_eq_true rfl)) ?_ | refine And.intro (Ob.mk rfl) ?_ | exact ⟨rfl, rfl⟩ | refine And.intro (Ob.mk (fun h => h)) ?_) | (with_reducible refine Or.inl (And.intro (Ob.mk (Flat.map ?_)) ?_); exact fun _ => rfl) | (refine Or.inl (And.intro (Ob.mk (flat_of rfl)) ?_)) | (refine Or.inl (And.intro (Ob.mk ⟨rfl, rfl, rfl, rfl⟩) ?_)) | (refine Or.inl (And.intro (Ob.mk ⟨rfl, rfl, rfl⟩) ?_)) | (refine And.intro (Ob.mk ⟨rfl, rfl⟩) ?_) | (with_reducible refine Or.inr ?_) | (refine And.intro (Ob.mk (flat_of rfl)) ?_) | (with_reducible refine And.intro (Ob.mk (Flat.map ?_)) ?_; exact fun _ => rfl) | (with_reducible first | exact Ob.mk (Flat.map fun _ => rfl) | refine And.intro ?_ ?_ | apply exG.mk | apply exGS.mk | exact Dd.nil) | (refine Dd.same _ ?_) | (refine Dd.dead _ ?_) | (with_reducible first | apply exQ.mk | apply exP.mk) | (refine EqP.mk rfl rfl) | (with_reducible apply exW.mk) | (refine EqW.mk rfl) | (with_reducible first | intro _ | refine Dn.mk ?_) | (refine exS.full (by first | rfl | (simp; done) | (simp; omega)) ?_) | (refine And.intro (Ob.mk ⟨rfl, rfl, by first | rfl | (simp; done) | (simp; omega)⟩) ?_) | (with_reducible refine exE.mapD ?_) | (refine exL.int ?_) | (with_reducible first | refine Up0.mk rfl ?_ | refine Up0i.mk rfl ?_ | refine Up1.mk rfl ?_ | refine Up1i.mk rfl ?_ | refine Up2.mk rfl ?_ | refine Up2i.mk rfl ?_) | (refine Col.mk rfl rfl rfl ?_) | (refine Coli.mk rfl rfl rfl rfl ?_) | (refine UpSi.mk ?_))
        refine Ob.mk ⟨congrArg (fun y => [SObj.nd ep (.row 102 125 (setsR g.blocks.length a)), gvar g, .row 102 1 y]) (wordsT_congr fun t ht => ?_), trivial⟩
        simp
      · rintro j hj -
        repeat' ((conv => whnf); first | (with_reducible first | refine onBool_intro (fun _ => ?_) (fun _ => ?_) | refine And.intro (Ob.mk (Nat.le_of_ble_eq_true rfl)) ?_ | refine And.intro (Ob.mk rfl) ?_ | exact ⟨rfl, rfl⟩ | refine And.intro (Ob.mk (fun h => h)) ?_) | (with_reducible refine Or.inl (And.intro (Ob.mk (Flat.map ?_)) ?_); exact fun _ => rfl) | (refine Or.inl (And.intro (Ob.mk (flat_of rfl)) ?_)) | (refine Or.inl (And.intro (Ob.mk ⟨rfl, rfl, rfl, rfl⟩) ?_)) | (refine Or.inl (And.intro (Ob.mk ⟨rfl, rfl, rfl⟩) ?_)) | (refine And.intro (Ob.mk ⟨rfl, rfl⟩) ?_) | (with_reducible refine Or.inr ?_) | (refine And.intro (Ob.mk (flat_of rfl)) ?_) | (with_reducible refine And.intro (Ob.mk (Flat.map ?_)) ?_; exact fun _ => rfl) | (with_reducible first | exact Ob.mk (Flat.map fun _ => rfl) | refine And.intro ?_ ?_ | apply exG.mk | apply exGS.mk | exact Dd.nil) | (refine Dd.same _ ?_) | (refine Dd.dead _ ?_) | (with_reducible first | apply exQ.mk | apply exP.mk) | (refine EqP.mk rfl rfl) | (with_reducible apply exW.mk) | (refine EqW.mk rfl) | (with_reducible first | intro _ | refine Dn.mk ?_) | (refine exS.full (by first | rfl | (simp; done) | (simp; omega)) ?_) | (refine And.intro (Ob.mk ⟨rfl, rfl, by first | rfl | (simp; done) | (simp; omega)⟩) ?_) | (with_reducible refine exE.mapD ?_) | (refine exL.int ?_) | (with_reducible first | refine Up0.mk rfl ?_ | refine Up0i.mk rfl ?_ | refine Up1.mk rfl ?_ | refine Up1i.mk rfl ?_ | refine Up2.mk rfl ?_ | refine Up2i.mk rfl ?_) | (refine Col.mk rfl rfl rfl ?_) | (refine Coli.mk rfl rfl rfl rfl ?_) | (refine UpS.mk ?_) | (refine ICalls.frame [2] rfl (add79k _ _ ?_ ?_)))
        all_goals (try (refine Ob.mk ?_; first | assumption | exact ⟨rfl, rfl⟩ | exact ⟨rfl, rfl, rfl⟩ | (refine ⟨rfl, rfl, ?_⟩; simp only [List.length_map, List.length_take, List.length_append, els_len, List.length_replicate]; omega) | (intro h; exact h) | (intro h; rw [h]; rfl) | (intro h; simp_all; done) | (refine bytes_le (n := 1048577) ?_ rfl; simp only [ltI_iff, ltI_not, leI_iff, leI_not, eqI_iff, eqI_not, List.length_map, bif_and, bif_or, Bool.and_eq_true, Bool.and_eq_false_iff, Bool.or_eq_true, Bool.or_eq_false_iff, Bool.not_eq_true', Bool.not_eq_false', Int.toNat_natCast, beq_iff_eq, beq_eq_false_iff_ne, decide_eq_true_eq, decide_eq_false_iff_not, bel_iff, bel_not, wthn_iff, wthn_not, els_len, mixL_len, Nat.zero_add, List.length_set, List.length_take] at *; omega) | (simp only [ltI_iff, ltI_not, leI_iff, leI_not, eqI_iff, eqI_not, List.length_map, bif_and, bif_or, Bool.and_eq_true, Bool.and_eq_false_iff, Bool.or_eq_true, Bool.or_eq_false_iff, Bool.not_eq_true', Bool.not_eq_false', Int.toNat_natCast, beq_iff_eq, beq_eq_false_iff_ne, decide_eq_true_eq, decide_eq_false_iff_not, bel_iff, bel_not, wthn_iff, wthn_not, els_len, mixL_len, Nat.zero_add, List.length_set, List.length_take, Int.ofNat_eq_natCast] at *; omega)))
        all_goals (try exact Ob.mk hep.symm)
        · rename_i h2
          have hltj : j < (eUsesN (nthD g.blocks b.toNat).fin).length := by simp only [ltI_iff, ltI_not, leI_iff, leI_not, eqI_iff, eqI_not, List.length_map, bif_and, bif_or, Bool.and_eq_true, Bool.and_eq_false_iff, Bool.or_eq_true, Bool.or_eq_false_iff, Bool.not_eq_true', Bool.not_eq_false', Int.toNat_natCast, beq_iff_eq, beq_eq_false_iff_ne, decide_eq_true_eq, decide_eq_false_iff_not] at *; omega
          have := hE j hltj
          exact Ob.mk (by rw [Int.toNat_natCast]; omega)
        · rename_i h2 h3
          have hltj : j < (eUsesN (nthD g.blocks b.toNat).fin).length := by simp only [ltI_iff, ltI_not, leI_iff, leI_not, eqI_iff, eqI_not, List.length_map, bif_and, bif_or, Bool.and_eq_true, Bool.and_eq_false_iff, Bool.or_eq_true, Bool.or_eq_false_iff, Bool.not_eq_true', Bool.not_eq_false', Int.toNat_natCast, beq_iff_eq, beq_eq_false_iff_ne, decide_eq_true_eq, decide_eq_false_iff_not] at *; omega
          have hEj := hE j hltj
          refine Ob.mk ⟨hltj, addI_i64 (by omega) (by omega), congrArg (fun y => [SObj.nd ep (.row 102 125 (setsR g.blocks.length a)), gvar g, .row 102 1 y]) (wordsT_congr fun t ht2 => ?_), trivial⟩
          rw [take_contains hltj, Int.toNat_natCast]
          by_cases e : t = (nthD (eUsesN (nthD g.blocks b.toNat).fin) j).toNat
          · rw [if_pos e]
            have : ((t : Int) == nthD (eUsesN (nthD g.blocks b.toNat).fin) j) = true := by rw [beq_iff_eq]; omega
            rw [this]; simp
          · rw [if_neg e]
            have : ((t : Int) == nthD (eUsesN (nthD g.blocks b.toNat).fin) j) = false := by rw [beq_eq_false_iff_ne]; omega
            rw [this]; simp
        · rename_i h2
          have hgej : (eUsesN (nthD g.blocks b.toNat).fin).length ≤ j := by simp only [ltI_iff, ltI_not, leI_iff, leI_not, eqI_iff, eqI_not, List.length_map, bif_and, bif_or, Bool.and_eq_true, Bool.and_eq_false_iff, Bool.or_eq_true, Bool.or_eq_false_iff, Bool.not_eq_true', Bool.not_eq_false', Int.toNat_natCast, beq_iff_eq, beq_eq_false_iff_ne, decide_eq_true_eq, decide_eq_false_iff_not] at *; omega
          rw [List.take_of_length_le hgej]
          conv => whnf
          refine Ob.mk ⟨rfl, congrArg (fun y => [SObj.nd ep (.row 102 125 (setsR g.blocks.length a)), gvar g, .row 102 1 y]) (wordsT_congr fun t ht2 => ?_)⟩
          unfold endF
          rw [Int.toNat_of_nonneg hb.1]
end Go.Proofs.YtgnafgebenlffaaDoor.Am
