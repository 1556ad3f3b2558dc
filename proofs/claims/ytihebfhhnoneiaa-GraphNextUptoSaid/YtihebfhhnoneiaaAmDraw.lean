/- A region whose order is drawn. -/
import Derived.Test.YtihebfhhnoneiaaAmCode
import Derived.Orders
namespace Go.Proofs.Ytihebfhhnoneiaa.Am
open Go.RowKit
set_option linter.unusedVariables false
set_option linter.unusedSimpArgs false

section
variable {P : Program} {tt : Tab} {own : Nat → Own} {F : Nat → Prop} {w : World} {σ : Sto} {env : Env} {a : Act} {N : Nat} {o : Oper}
variable {next : Act → World → Prop} {Q : Exit → Act → World → Prop}

theorem step_congr {C : FuncId → List T → (T → Prop) → Prop} {op : Op} {ty : TypeId} {env' : Env} {K : SV → Sto → Prop} (h : ∀ x ∈ op.operands.toList, ev env x = ev env' x) (hs : step C tt op ty env σ K) : step C tt op ty env' σ K := by
  have key : step C tt op ty env σ K = step C tt op ty env' σ K := by
    cases op
    case call c =>
      obtain ⟨callee, args, argTypes⟩ := c
      cases callee with
      | value f =>
        have h0 : ev env f = ev env' f := h f (by simp [Op.operands, Call.operands])
        have h1 : args.toList.map (ev env) = args.toList.map (ev env') := List.map_congr_left fun x hx => h x (by simp [Op.operands, Call.operands]; right; simpa using hx)
        simp only [step, h0, h1]
      | builtin b =>
        have h1 : ∀ x ∈ args.toList, ev env x = ev env' x := fun x hx => h x (by simp [Op.operands, Call.operands]; simpa using hx)
        cases b <;> simp only [step]
        all_goals
          generalize args.toList = l at h1
          cases argTypes.toList with
          | nil => rfl
          | cons t ts =>
            cases l with
            | nil => cases ts with
              | nil => rfl
              | cons _ us => cases us <;> rfl
            | cons x xs =>
              cases ts with
              | nil => cases xs with
                | nil => simp only [h1 x (by simp)]
                | cons => rfl
              | cons u us => cases xs with
                | nil => cases us <;> rfl
                | cons y ys => cases us with
                  | nil => cases ys with
                    | nil => simp only [h1 x (by simp), h1 y (by simp)]
                    | cons => rfl
                  | cons => cases ys <;> rfl
      | invoke r m => simp only [step]
    case build t parts =>
      have hp : ∀ p ∈ parts.toList, ev env p.2 = ev env' p.2 := fun p hp => h p.2 (by simp [Op.operands]; exact ⟨p.1, by simpa using hp⟩)
      simp only [step]
      have e1 : (parts.toList.foldl (fun cs (p : Nat × Operand) => cs) ([] : List SV)) = [] := by induction parts.toList <;> simp_all
      split
      · rename_i fs _
        have e2 : ∀ (l : List (Nat × Operand)) (acc : List SV), (∀ p ∈ l, ev env p.2 = ev env' p.2) → l.foldl (fun cs p => setCells cs ((nth fs p.1).getD (0, 0)).2 (ev env p.2).cells) acc = l.foldl (fun cs p => setCells cs ((nth fs p.1).getD (0, 0)).2 (ev env' p.2).cells) acc := by
          intro l
          induction l with
          | nil => intros; rfl
          | cons p l ih => intro acc hl; simp only [List.foldl_cons, hl p (by simp)]; exact ih _ fun q hq => hl q (by simp [hq])
        have e3 : ∀ (p q : Nat × Operand → Bool) (l : List (Nat × Operand)), (∀ x ∈ l, p x = q x) → l.all p = l.all q := by
          intro p q l
          induction l with
          | nil => intros; rfl
          | cons x l ih => intro hl; simp only [List.all_cons, hl x (by simp)]; rw [ih fun y hy => hl y (by simp [hy])]
        rw [e2 _ _ hp]
        congr 2
        exact e3 _ _ _ fun p h => by rw [hp p h]
      · rfl
    case buildSlice t n parts =>
      have hp : ∀ p ∈ parts.toList, ev env p.2 = ev env' p.2 := fun p hp => h p.2 (by simp [Op.operands]; exact ⟨p.1, by simpa using hp⟩)
      have e3 : ∀ (p q : Nat × Operand → Bool) (l : List (Nat × Operand)), (∀ x ∈ l, p x = q x) → l.all p = l.all q := by
        intro p q l
        induction l with
        | nil => intros; rfl
        | cons x l ih => intro hl; simp only [List.all_cons, hl x (by simp)]; rw [ih fun y hy => hl y (by simp [hy])]
      simp only [step]
      rw [List.map_congr_left hp]
      split
      · rename_i E _
        rw [e3 (fun p => (ev env p.snd).cells.all SV.leaf && (ev env p.snd).cells.length.beq (tt.at E).size) (fun p => (ev env' p.snd).cells.all SV.leaf && (ev env' p.snd).cells.length.beq (tt.at E).size) _ fun p h => by rw [hp p h]]
      · rfl
    case makeFunc fn first cap =>
      have h1 : cap.toList.map (ev env) = cap.toList.map (ev env') := List.map_congr_left fun x hx => h x (by simp [Op.operands]; right; simpa using hx)
      cases fn <;> simp only [step, h1]
    case makeMap t r => cases r <;> simp only [step]
    case lookup t m k b =>
      cases b
      · simp only [step, h m (by simp [Op.operands]), h k (by simp [Op.operands])]
      · simp only [step]
    case unOp op t x =>
      cases op <;> simp only [step, h x (by simp [Op.operands])]
    all_goals
      simp [Op.operands] at h
      simp only [step]
      try simp only [h]
  exact key ▸ hs
theorem mem_tmpsIn {xs : List Operand} {t : Nat} : t ∈ tmpsIn xs ↔ Operand.tmp t ∈ xs := by
  unfold tmpsIn
  rw [List.mem_filterMap]
  constructor
  · rintro ⟨x, hx, h⟩
    cases x <;> simp at h
    subst h
    exact hx
  · intro h
    exact ⟨_, h, rfl⟩

theorem step_sound' (ht : TabOk P tt) {K : SV → Sto → Prop} (hn : Next P o a own F w σ K next) (r : Rel own F w σ) {op : Op} {ty : TypeId} (hx : ∀ t ∈ tmpsIn op.operands.toList, VS own F w (env t) (a.tmps.getD t undef)) (ho : o.op = op) (hs : step (PCalls P) tt op ty env σ K) : o.wp P a w next Q := by
  let env' : Env := fun t => if t ∈ tmpsIn op.operands.toList then env t else .any
  have he : ∀ x ∈ op.operands.toList, ev env x = ev env' x := by
    intro x hx
    cases x with
    | tmp t => simp only [ev, env']; rw [if_pos (mem_tmpsIn.2 hx)]
    | _ => rfl
  refine step_sound ht hn r (fun x => ?_) ho (step_congr he hs)
  cases x with
  | tmp t =>
    simp only [ev, env']
    split
    · rename_i h; exact hx t h
    · exact .t _ _ (.any _)
  | const v => exact .t _ _ (.ofVal F w v)
  | global g => exact .t _ _ (.any _)
  | func f => exact .fn f [] #[] rfl (by simp)

theorem strip_out' {gc : Bool} : ∀ {xs : List Operand} {env : Env} {K : Env → Prop}, strip gc xs env K → ∃ env', K env' ∧ (gc = true → ∀ (t : Nat) {own : Nat → Own} {F : Nat → Prop} {w : World} {x : Value}, VS own F w (env t) x → VS own F w (env' t) x)
  | [], env, K, h => ⟨env, h, fun _ _ _ _ _ _ h => h⟩
  | .tmp t :: xs, env, K, h => by
    unfold strip at h
    split at h
    · rename_i c v hv
      obtain ⟨h1, h2⟩ := h
      have h1 := h1.out
      obtain ⟨env', h3, h4⟩ := strip_out' h2
      refine ⟨env', h3, fun hg j own F w x hj => h4 hg j ?_⟩
      unfold upd
      cases hb : Nat.beq j t with
      | true =>
        have := Nat.eq_of_beq_eq_true hb
        subst this
        rw [hv] at hj
        cases hj with
        | g _ _ _ _ h => exact h (h1 hg)
      | false => exact hj
    · exact strip_out' h
  | .const _ :: xs, env, K, h => strip_out' (xs := xs) h
  | .global _ :: xs, env, K, h => strip_out' (xs := xs) h
  | .func _ :: xs, env, K, h => strip_out' (xs := xs) h

theorem gcond_wanted' {ops : Array Oper} {j d : Nat} {want gc : Bool} (he : VS own F w (env d) (a.tmps.getD d undef)) (hg : o.guard = some (j, want)) (hd : dstOf ops.toList j = some d) (hc : gcond want (env d) = some gc) : Region.wanted o (yielded ops a.tmps) = gc := by
  refine gcond_wanted (N := a.tmps.size) (own := own) (F := F) (w := w) (env := fun t => if t = d then env d else .any) (o := o) ⟨rfl, fun t => ?_⟩ hg hd (by simpa using hc)
  dsimp only
  split
  · rename_i h; rw [h]; exact he
  · exact .t _ _ (.any _)

/-! ### what is said of an operation by itself -/
def FactS (P : Program) (ops : Array Oper) (σ : Sto) (Q : Exit → Act → World → Prop) (i : Nat) (o : Oper) (env : Env) (v : SV) : Prop :=
  ∀ (own : Nat → Own) (F : Nat → Prop) (w : World) (a : Act) (next : Act → World → Prop), Rel own F w σ → (∀ t ∈ readsOf ops.toList o, VS own F w (env t) (a.tmps.getD t undef)) →
    (∀ (own' : Nat → Own) (F' : Nat → Prop) (w' : World) (mv : Value), Ext σ.length own F w own' F' w' → Rel own' F' w' σ → VS own' F' w' v mv → next (a.put o.dst mv) w') → wpOp P ops Q i next a w
def FactA (P : Program) (ops : Array Oper) (tt : Tab) (Q : Exit → Act → World → Prop) (i : Nat) (o : Oper) (t : TypeId) : Prop :=
  ∀ (w : World) (a : Act) (next : Act → World → Prop), (∀ (z : Array Value), z.size = (tt.at t).zero.length → (∀ (F : Nat → Prop) (w : World) (j : Nat) (y : T) (v : Value), (tt.at t).zero[j]? = some y → z[j]? = some v → VT F w y v) →
    next (a.put o.dst (.pointer (some ⟨w.heap.size, 0, none⟩))) (w.alloc (.cells z t))) → wpOp P ops Q i next a w

theorem FactS.congr {ops : Array Oper} {i : Nat} {v : SV} {env' : Env} (h : FactS P ops σ Q i o env v) (he : ∀ t ∈ readsOf ops.toList o, env t = env' t) : FactS P ops σ Q i o env' v :=
  fun own F w a next r hx hn => h own F w a next r (fun t ht => by rw [he t ht]; exact hx t ht) hn

theorem factS_plain (ht : TabOk P tt) {ops : Array Oper} {i : Nat} {v : SV} (hi : ops[i]? = some o) (hg : o.guard = none) (hs : quiet (PCalls P) tt o env σ v) : FactS P ops σ Q i o env v := by
  intro own F w a next r hx hn
  simp only [wpOp, hi]
  have hw : Region.wanted o (yielded ops a.tmps) = true := by simp [Region.wanted, hg]
  rw [if_pos hw]
  left
  refine step_sound' ht ?_ r (fun t h => hx t (List.mem_append_left _ h)) rfl hs
  intro v' σ' own' F' w' mv hkk e r' hl hv
  rw [force_iff] at hkk
  obtain ⟨rfl, rfl⟩ := hkk
  exact hn own' F' w' mv e r' hv

theorem factS_guard (ht : TabOk P tt) {ops : Array Oper} {i : Nat} {K : Env → Sto → Prop} (hi : ops[i]? = some o) {j : Nat} {want : Bool} (hg : o.guard = some (j, want)) (hs : rop1q (PCalls P) tt ops.toList o K env σ) : ∃ v, FactS P ops σ Q i o env v ∧ K (put env o.dst v) σ := by
  unfold rop1q at hs
  rw [hg] at hs
  dsimp only at hs
  split at hs
  · exact hs.elim
  · rename_i d hdj
    split at hs
    · rename_i gc hgc
      obtain ⟨env', hx', hst⟩ := strip_out' hs
      obtain ⟨v, h1, h2⟩ := hx'.out
      refine ⟨.g gc v, ?_, h2⟩
      intro own F w a next r hx hn
      simp only [wpOp, hi]
      have hw := gcond_wanted' (o := o) (hx d (List.mem_append_right _ (by rw [hg]; simp [hdj]))) hg hdj hgc
      cases hgv : gc with
      | true =>
        rw [hgv] at hw h1 hst hn
        rw [if_pos hw]
        left
        refine step_sound' ht ?_ r (fun t h => hst rfl t (hx t (List.mem_append_left _ h))) rfl (h1 rfl)
        intro v' σ' own' F' w' mv hkk e r' hl hv
        rw [force_iff] at hkk
        obtain ⟨rfl, rfl⟩ := hkk
        exact hn own' F' w' mv e r' (.g _ _ _ (fun h => nomatch h) fun _ => hv)
      | false =>
        rw [hgv] at hw hn
        rw [if_neg (by rw [hw]; simp)]
        exact hn own F w _ (Ext.refl _ _ _ _) r (.g _ _ _ (fun _ => rfl) fun h => nomatch h)
    · exact hs.elim

theorem factA (ht : TabOk P tt) {ops : Array Oper} {i : Nat} {t : TypeId} (hi : ops[i]? = some o) (hg : o.guard = none) (ho : o.op = .alloc t) (hgood : (tt.at t).ti.good = true) : FactA P ops tt Q i o t := by
  intro w a next hn
  simp only [wpOp, hi]
  have hw : Region.wanted o (yielded ops a.tmps) = true := by simp [Region.wanted, hg]
  rw [if_pos hw]
  left
  obtain ⟨i, hi, hs, hb, hz0, z, hz, hzs, _, _, hzv⟩ := (ht.at t hgood).info
  refine wp_value (w' := w.alloc (.cells z.cells t)) (mv := .pointer (some ⟨w.heap.size, 0, none⟩)) ?_ (hn z.cells (by rw [hzs, hz0]) fun F w j y v hy hv => (hzv F w j y v hy hv).1)
  unfold execOp
  simp [ho, Instr.alloc, zeroValue, typeInfo, hi, hz, newVar, newRow]

/-! ### what is said of the operations together -/
def envs : List Oper → List SV → Env → Env
  | o :: l, v :: vs, env => envs l vs (put env o.dst v)
  | _, _, env => env

theorem envs_other : ∀ {l : List Oper} {vs : List SV} {env : Env} {t : Nat}, (∀ (j : Nat) (o : Oper), l[j]? = some o → o.dst ≠ some t) → envs l vs env t = env t
  | [], _, env, t, _ => rfl
  | o :: l, [], env, t, _ => rfl
  | o :: l, v :: vs, env, t, h => by
    unfold envs
    rw [envs_other (l := l) (fun j o' hj => h (j + 1) o' (by simpa using hj))]
    have h0 := h 0 o rfl
    cases hd : o.dst with
    | none => rfl
    | some d =>
      rw [hd] at h0
      simp only [put, upd]
      cases hb : Nat.beq t d with
      | true => exact absurd (by rw [Nat.eq_of_beq_eq_true hb]) h0
      | false => rfl

theorem envs_at : ∀ {l : List Oper} {vs : List SV} {env : Env} {t i : Nat} {o : Oper} {v : SV}, l[i]? = some o → vs[i]? = some v → o.dst = some t → (∀ (j : Nat) (o : Oper), l[j]? = some o → o.dst = some t → j = i) → envs l vs env t = v
  | [], _, env, t, i, o, v, h, _, _, _ => by simp at h
  | o' :: l, [], env, t, i, o, v, _, h, _, _ => by simp at h
  | o' :: l, v' :: vs, env, t, 0, o, v, h1, h2, h3, h4 => by
    simp at h1 h2
    subst h1 h2
    unfold envs
    rw [envs_other fun j o hj hd => by have := h4 (j + 1) o (by simpa using hj) hd; omega]
    rw [h3]
    simp [put, upd]
  | o' :: l, v' :: vs, env, t, i + 1, o, v, h1, h2, h3, h4 => by
    unfold envs
    exact envs_at (l := l) (i := i) (by simpa using h1) (by simpa using h2) h3 fun j o hj hd => by have := h4 (j + 1) o (by simpa using hj) hd; omega

theorem allIdx_spec {α : Type} {p : Nat → α → Bool} : ∀ {xs : List α} {i : Nat}, allIdx p i xs = true → ∀ (j : Nat) (x : α), xs[j]? = some x → p (i + j) x = true
  | [], _, _, j, x, h => by simp at h
  | y :: ys, i, h, 0, x, hx => by simp at hx; subst hx; simp [allIdx] at h; exact h.1
  | y :: ys, i, h, j + 1, x, hx => by
    simp [allIdx] at h
    have := allIdx_spec h.2 j x (by simpa using hx)
    rwa [show i + 1 + j = i + (j + 1) by omega] at this

theorem dops_out (ht : TabOk P tt) {ops : Array Oper} {K : Env → Option TypeId → Prop} : ∀ (l : List Oper) (i : Nat), (∀ j o, l[j]? = some o → ops[i + j]? = some o) → ∀ (al : Option TypeId) (env : Env), dops (PCalls P) tt ops.toList l al K env σ →
    ∃ (vs : List SV) (al' : Option TypeId) (ia : Option Nat), vs.length = l.length ∧ K (envs l vs env) al' ∧
      (∀ j o v, l[j]? = some o → vs[j]? = some v → some j ≠ ia → FactS P ops σ Q (i + j) o (envs (l.take j) (vs.take j) env) v) ∧
      (ia = none → al' = al) ∧ (∀ j, ia = some j → al = none ∧ ∃ t o, al' = some t ∧ l[j]? = some o ∧ isAlloc o = true ∧ FactA P ops tt Q (i + j) o t ∧ vs[j]? = some (.loc σ.length 0 0))
  | [], i, hl, al, env, h => ⟨[], al, none, rfl, h, by simp, fun _ => rfl, by simp⟩
  | o :: l, i, hl, al, env, h => by
    have hi : ops[i]? = some o := by simpa using hl 0 o rfl
    have hl' : ∀ j o, l[j]? = some o → ops[i + 1 + j]? = some o := fun j o' hj => by have := hl (j + 1) o' (by simpa using hj); rwa [show i + 1 + j = i + (j + 1) by omega]
    have plain : ∀ v, FactS P ops σ Q i o env v → dops (PCalls P) tt ops.toList l al K (put env o.dst v) σ → ∃ (vs : List SV) (al' : Option TypeId) (ia : Option Nat), vs.length = (o :: l).length ∧ K (envs (o :: l) vs env) al' ∧
      (∀ j o' v, (o :: l)[j]? = some o' → vs[j]? = some v → some j ≠ ia → FactS P ops σ Q (i + j) o' (envs ((o :: l).take j) (vs.take j) env) v) ∧
      (ia = none → al' = al) ∧ (∀ j, ia = some j → al = none ∧ ∃ t o', al' = some t ∧ (o :: l)[j]? = some o' ∧ isAlloc o' = true ∧ FactA P ops tt Q (i + j) o' t ∧ vs[j]? = some (.loc σ.length 0 0)) := by
      intro v hf hd
      obtain ⟨vs, al', ia, h1, h2, h3, h4, h5⟩ := dops_out ht l (i + 1) hl' al _ hd
      refine ⟨v :: vs, al', ia.map (· + 1), by simp [h1], h2, ?_, ?_, ?_⟩
      · intro j o' v' hj hv hne
        cases j with
        | zero => simp at hj hv; subst hj hv; exact hf
        | succ j =>
          have := h3 j o' v' (by simpa using hj) (by simpa using hv) (fun e => hne (by rw [← e]; rfl))
          rwa [show i + 1 + j = i + (j + 1) by omega] at this
      · intro e; exact h4 (by cases ia <;> simp_all)
      · intro j e
        cases ia with
        | none => simp at e
        | some j' =>
          simp at e
          subst e
          obtain ⟨h6, t, o', h7, h8, h9, h10, h11⟩ := h5 j' rfl
          refine ⟨h6, t, o', h7, by simpa using h8, h9, ?_, by simpa using h11⟩
          rwa [show i + 1 + j' = i + (j' + 1) by omega] at h10
    unfold dops at h
    split at h
    · rename_i t hop
      obtain ⟨hb, h⟩ := bif_elim h
      simp only [Bool.and_eq_true, Option.isNone_iff_eq_none] at hb
      obtain ⟨vs, al', ia, h1, h2, h3, h4, h5⟩ := dops_out ht l (i + 1) hl' (some t) _ h
      have hia : ia = none := by
        cases ia with
        | none => rfl
        | some j => have := (h5 j rfl).1; simp at this
      subst hia
      refine ⟨.loc σ.length 0 0 :: vs, al', some 0, by simp [h1], h2, ?_, by simp, ?_⟩
      · intro j o' v' hj hv hne
        cases j with
        | zero => simp at hne
        | succ j =>
          have := h3 j o' v' (by simpa using hj) (by simpa using hv) (by simp)
          rwa [show i + 1 + j = i + (j + 1) by omega] at this
      · intro j e
        simp at e
        subst e
        refine ⟨rfl, t, o, h4 rfl, rfl, by simp [isAlloc, hop], factA ht hi hb.2 hop hb.1, rfl⟩
    · split at h
      · rename_i hg
        obtain ⟨v, h1, h2⟩ := h.out
        exact plain v (factS_plain ht hi hg h1) h2
      · rename_i gw hg
        obtain ⟨j, want⟩ := gw
        obtain ⟨v, h1, h2⟩ := factS_guard (Q := Q) ht hi hg h
        exact plain v h1 h2
end
end Go.Proofs.Ytihebfhhnoneiaa.Am
