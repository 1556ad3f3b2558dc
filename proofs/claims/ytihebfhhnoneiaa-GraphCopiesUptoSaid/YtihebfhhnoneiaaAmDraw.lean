/- A region whose order is drawn. -/
import Derived.Test.YtihebfhhnoneiaaAmPart
import Derived.Orders
namespace Go.Proofs.Ytihebfhhnoneiaa.Am
open Go.RowKit
set_option linter.unusedVariables false
set_option linter.unusedSimpArgs false

section
variable {P : Program} {tt : Tab} {I : FuncId → Bool} {own : Nat → Own} {F : Nat → Prop} {w : World} {σ : Sto} {env : Env} {a : Act} {N : Nat} {o : Oper}
variable {next : Act → World → Prop} {Q : Exit → Act → World → Prop}

theorem step_congr {C : Ctr} {op : Op} {ty : TypeId} {env' : Env} {K : SV → Sto → Prop} (h : ∀ x ∈ op.operands.toList, ev env x = ev env' x) (hs : step C tt op ty env σ K) : step C tt op ty env' σ K := by
  have key : step C tt op ty env σ K = step C tt op ty env' σ K := by
    cases op
    case call c =>
      obtain ⟨callee, args, argTypes⟩ := c
      cases callee with
      | value f =>
        have h0 : ev env f = ev env' f := h f (by simp [Op.operands, Call.operands])
        have h1 : args.toList.map (ev env) = args.toList.map (ev env') := List.map_congr_left fun x hx => h x (by simp [Op.operands, Call.operands]; right; simpa using hx)
        simp only [step, h0, h1]
      | builtin b =>
        have h1 : ∀ x ∈ args.toList, ev env x = ev env' x := fun x hx => h x (by simp [Op.operands, Call.operands]; simpa using hx)
        cases b <;> simp only [step]
        all_goals first
          | (generalize args.toList = l at h1
             rcases l with _ | ⟨x, _ | ⟨y, _ | ⟨z, zs⟩⟩⟩ <;> first | rfl | (simp only [h1 x (by simp), h1 y (by simp)]; done))
          | skip
        all_goals
          generalize args.toList = l at h1
          cases argTypes.toList with
          | nil => rfl
          | cons t ts =>
            cases l with
            | nil => cases ts with
              | nil => rfl
              | cons _ us => cases us <;> rfl
            | cons x xs =>
              cases ts with
              | nil => cases xs with
                | nil => simp only [h1 x (by simp)]
                | cons => rfl
              | cons u us => cases xs with
                | nil => cases us <;> rfl
                | cons y ys => cases us with
                  | nil => cases ys with
                    | nil => simp only [h1 x (by simp), h1 y (by simp)]
                    | cons => rfl
                  | cons => cases ys <;> rfl
      | invoke r m => simp only [step]
    case build t parts =>
      have hp : ∀ p ∈ parts.toList, ev env p.2 = ev env' p.2 := fun p hp => h p.2 (by simp [Op.operands]; exact ⟨p.1, by simpa using hp⟩)
      simp only [step]
      have e1 : (parts.toList.foldl (fun cs (p : Nat × Operand) => cs) ([] : List SV)) = [] := by induction parts.toList <;> simp_all
      split
      · rename_i fs _
        have e2 : ∀ (l : List (Nat × Operand)) (acc : List SV), (∀ p ∈ l, ev env p.2 = ev env' p.2) → l.foldl (fun cs p => setCells cs ((nth fs p.1).getD (0, 0)).2 (ev env p.2).cells) acc = l.foldl (fun cs p => setCells cs ((nth fs p.1).getD (0, 0)).2 (ev env' p.2).cells) acc := by
          intro l
          induction l with
          | nil => intros; rfl
          | cons p l ih => intro acc hl; simp only [List.foldl_cons, hl p (by simp)]; exact ih _ fun q hq => hl q (by simp [hq])
        have e3 : ∀ (p q : Nat × Operand → Bool) (l : List (Nat × Operand)), (∀ x ∈ l, p x = q x) → l.all p = l.all q := by
          intro p q l
          induction l with
          | nil => intros; rfl
          | cons x l ih => intro hl; simp only [List.all_cons, hl x (by simp)]; rw [ih fun y hy => hl y (by simp [hy])]
        rw [e2 _ _ hp]
        congr 2
        exact e3 _ _ _ fun p h => by rw [hp p h]
      · rfl
    case buildSlice t n parts =>
      have hp : ∀ p ∈ parts.toList, ev env p.2 = ev env' p.2 := fun p hp => h p.2 (by simp [Op.operands]; exact ⟨p.1, by simpa using hp⟩)
      have e3 : ∀ (p q : Nat × Operand → Bool) (l : List (Nat × Operand)), (∀ x ∈ l, p x = q x) → l.all p = l.all q := by
        intro p q l
        induction l with
        | nil => intros; rfl
        | cons x l ih => intro hl; simp only [List.all_cons, hl x (by simp)]; rw [ih fun y hy => hl y (by simp [hy])]
      simp only [step]
      have e4 : parts.toList.flatMap (fun p => (ev env p.2).cells) = parts.toList.flatMap (fun p => (ev env' p.2).cells) := by
        have : ∀ (l : List (Nat × Operand)), (∀ p ∈ l, ev env p.2 = ev env' p.2) → l.flatMap (fun p => (ev env p.2).cells) = l.flatMap (fun p => (ev env' p.2).cells) := by
          intro l
          induction l with
          | nil => intros; rfl
          | cons x l ih => intro hl; simp only [List.flatMap_cons, hl x (by simp)]; rw [ih fun y hy => hl y (by simp [hy])]
        exact this _ hp
      rw [e4]
      split
      · rename_i E _
        rw [e3 (fun p => (ev env p.snd).cells.all SV.leaf && (ev env p.snd).cells.length.beq (tt.at E).size) (fun p => (ev env' p.snd).cells.all SV.leaf && (ev env' p.snd).cells.length.beq (tt.at E).size) _ fun p h => by rw [hp p h]]
      · rfl
    case makeFunc fn first cap =>
      have h1 : cap.toList.map (ev env) = cap.toList.map (ev env') := List.map_congr_left fun x hx => h x (by simp [Op.operands]; right; simpa using hx)
      cases fn <;> simp only [step, h1]
    case makeMap t r => cases r <;> simp only [step]
    case slice t x lo hi mx =>
      have hx : ev env x = ev env' x := h x (by simp [Op.operands])
      have hlo : loHi env lo = loHi env' lo := by
        cases lo with
        | none => rfl
        | some y => funext K; simp only [loHi, h y (by simp [Op.operands])]
      have hhi : hiOf env hi = hiOf env' hi := by
        cases hi with
        | none => rfl
        | some y => funext n K; simp only [hiOf, h y (by simp [Op.operands])]
      cases mx <;> simp only [step, hx, hlo, hhi]
    case lookup t m k b =>
      cases b
      · simp only [step, h m (by simp [Op.operands]), h k (by simp [Op.operands])]
      · simp only [step]
    case unOp op t x =>
      cases op <;> simp only [step, h x (by simp [Op.operands])]
    all_goals
      simp [Op.operands] at h
      simp only [step]
      try simp only [h]
  exact key ▸ hs
theorem mem_tmpsIn {xs : List Operand} {t : Nat} : t ∈ tmpsIn xs ↔ Operand.tmp t ∈ xs := by
  unfold tmpsIn
  rw [List.mem_filterMap]
  constructor
  · rintro ⟨x, hx, h⟩
    cases x <;> simp at h
    subst h
    exact hx
  · intro h
    exact ⟨_, h, rfl⟩

theorem step_sound' (ht : TabOk P tt) {K : SV → Sto → Prop} (hn : Next P o a own F w σ K next) (r : Rel own F w σ) {op : Op} {ty : TypeId} (hx : ∀ t ∈ tmpsIn op.operands.toList, VS own F w (env t) (a.tmps.getD t undef)) (ho : o.op = op) (hs : step (ctr P I) tt op ty env σ K) : o.wp P a w next Q := by
  let env' : Env := fun t => if t ∈ tmpsIn op.operands.toList then env t else .any
  have he : ∀ x ∈ op.operands.toList, ev env x = ev env' x := by
    intro x hx
    cases x with
    | tmp t => simp only [ev, env']; rw [if_pos (mem_tmpsIn.2 hx)]
    | _ => rfl
  refine step_sound ht hn r (fun x => ?_) ho (step_congr he hs)
  cases x with
  | tmp t =>
    simp only [ev, env']
    split
    · rename_i h; exact hx t h
    · exact .t _ _ (.any _)
  | const v => exact .t _ _ (.ofVal F w v)
  | global g => exact .t _ _ (.any _)
  | func f => exact .fn f [] #[] rfl (by simp)

theorem strip_out' {gc : Bool} : ∀ {xs : List Operand} {env : Env} {K : Env → Prop}, strip gc xs env K → ∃ env', K env' ∧ (gc = true → ∀ (t : Nat) {own : Nat → Own} {F : Nat → Prop} {w : World} {x : Value}, VS own F w (env t) x → VS own F w (env' t) x)
  | [], env, K, h => ⟨env, h, fun _ _ _ _ _ _ h => h⟩
  | .tmp t :: xs, env, K, h => by
    unfold strip at h
    split at h
    · rename_i c v hv
      obtain ⟨h1, h2⟩ := h
      have h1 := h1.out
      obtain ⟨env', h3, h4⟩ := strip_out' h2
      refine ⟨env', h3, fun hg j own F w x hj => h4 hg j ?_⟩
      unfold upd
      cases hb : Nat.beq j t with
      | true =>
        have := Nat.eq_of_beq_eq_true hb
        subst this
        rw [hv] at hj
        cases hj with
        | g _ _ _ _ h => exact h (h1 hg)
      | false => exact hj
    · exact strip_out' h
  | .const _ :: xs, env, K, h => strip_out' (xs := xs) h
  | .global _ :: xs, env, K, h => strip_out' (xs := xs) h
  | .func _ :: xs, env, K, h => strip_out' (xs := xs) h

theorem gcond_wanted' {ops : Array Oper} {j d : Nat} {want gc : Bool} (he : VS own F w (env d) (a.tmps.getD d undef)) (hg : o.guard = some (j, want)) (hd : dstOf ops.toList j = some d) (hc : gcond want (env d) = some gc) : Region.wanted o (yielded ops a.tmps) = gc := by
  refine gcond_wanted (N := a.tmps.size) (own := own) (F := F) (w := w) (env := fun t => if t = d then env d else .any) (o := o) ⟨rfl, fun t => ?_⟩ hg hd (by simpa using hc)
  dsimp only
  split
  · rename_i h; rw [h]; exact he
  · exact .t _ _ (.any _)

/-! ### what is said of an operation by itself -/
def FactS (P : Program) (ops : Array Oper) (σ : Sto) (Q : Exit → Act → World → Prop) (i : Nat) (o : Oper) (env : Env) (v : SV) : Prop :=
  ∀ (own : Nat → Own) (F : Nat → Prop) (w : World) (a : Act) (next : Act → World → Prop), Rel own F w σ → (∀ t ∈ readsOf ops.toList o, VS own F w (env t) (a.tmps.getD t undef)) →
    (∀ (own' : Nat → Own) (F' : Nat → Prop) (w' : World) (mv : Value), Ext σ.length own F w own' F' w' → Rel own' F' w' σ → VS own' F' w' v mv → next (a.put o.dst mv) w') → wpOp P ops Q i next a w
def FactP (P : Program) (ops : Array Oper) (σ Δ : Sto) (Q : Exit → Act → World → Prop) (i : Nat) (o : Oper) (env : Env) (v : SV) : Prop :=
  ∀ (own : Nat → Own) (F : Nat → Prop) (w : World) (a : Act) (next : Act → World → Prop), Rel own F w σ → (∀ t ∈ readsOf ops.toList o, VS own F w (env t) (a.tmps.getD t undef)) →
    (∀ (own' : Nat → Own) (F' : Nat → Prop) (w' : World) (mv : Value), Ext σ.length own F w own' F' w' → Rel own' F' w' (σ ++ Δ) → VS own' F' w' v mv → next (a.put o.dst mv) w') → wpOp P ops Q i next a w
/-- The same, told from what is ahead in the text. -/
structure FactX (c : Nat → Nat → Bool) (P : Program) (ops : Array Oper) (σ : Sto) (Q : Exit → Act → World → Prop) (i : Nat) (o : Oper) (env : Env) (v : SV) (Δ : Sto) (pl : List Sto) : Prop where
  opd : ∀ t ∈ readsOf ops.toList o, bdS (aliv σ.length (σ ++ mskL (c pl.length) 0 pl)) 4 (env t) = true
  val : bdS (aliv σ.length (σ ++ mskL (c pl.length) 0 pl ++ Δ)) 4 v = true
  iso : Δ.all isoO = true
  fact : FactP P ops (σ ++ mskL (c pl.length) 0 pl) Δ Q i o env v

theorem FactX.congr {c : Nat → Nat → Bool} {ops : Array Oper} {i : Nat} {v : SV} {Δ : Sto} {pl : List Sto} {env' : Env} (h : FactX c P ops σ Q i o env v Δ pl) (he : ∀ t ∈ readsOf ops.toList o, env t = env' t) : FactX c P ops σ Q i o env' v Δ pl :=
  ⟨fun t ht => by rw [← he t ht]; exact h.opd t ht, h.val, h.iso, fun own F w a next r hx hn => h.fact own F w a next r (fun t ht => by rw [he t ht]; exact hx t ht) hn⟩

theorem factP_plain (ht : TabOk P tt) {ops : Array Oper} {i : Nat} {v : SV} {Δ : Sto} (hi : ops[i]? = some o) (hg : o.guard = none) (hs : step (ctr P I) tt o.op o.type env σ fun v' σ' => force v' fun v' => EqP v' v σ' σ Δ) : FactP P ops σ Δ Q i o env v := by
  intro own F w a next r hx hn
  simp only [wpOp, hi]
  have hw : Region.wanted o (yielded ops a.tmps) = true := by simp [Region.wanted, hg]
  rw [if_pos hw]
  left
  refine step_sound' ht ?_ r (fun t h => hx t (List.mem_append_left _ h)) rfl hs
  intro v' σ' own' F' w' mv hkk e r' hl hv
  rw [force_iff] at hkk
  obtain ⟨rfl, rfl⟩ := hkk
  exact hn own' F' w' mv e r' hv

theorem factS_guard (ht : TabOk P tt) {ops : Array Oper} {i : Nat} {K : Env → Sto → Prop} (hi : ops[i]? = some o) {j : Nat} {want : Bool} (hg : o.guard = some (j, want)) (hs : rop1q (ctr P I) tt ops.toList o K env σ) : ∃ v, FactS P ops σ Q i o env v ∧ K (put env o.dst v) σ := by
  unfold rop1q at hs
  rw [hg] at hs
  dsimp only at hs
  split at hs
  · exact hs.elim
  · rename_i d hdj
    split at hs
    · rename_i gc hgc
      obtain ⟨env', hx', hst⟩ := strip_out' hs
      obtain ⟨v, h1, h2⟩ := hx'.out
      refine ⟨.g gc v, ?_, h2⟩
      intro own F w a next r hx hn
      simp only [wpOp, hi]
      have hw := gcond_wanted' (o := o) (hx d (List.mem_append_right _ (by rw [hg]; simp [hdj]))) hg hdj hgc
      cases hgv : gc with
      | true =>
        rw [hgv] at hw h1 hst hn
        rw [if_pos hw]
        left
        refine step_sound' ht ?_ r (fun t h => hst rfl t (hx t (List.mem_append_left _ h))) rfl (h1 rfl)
        intro v' σ' own' F' w' mv hkk e r' hl hv
        rw [force_iff] at hkk
        obtain ⟨rfl, rfl⟩ := hkk
        exact hn own' F' w' mv e r' (.g _ _ _ (fun h => nomatch h) fun _ => hv)
      | false =>
        rw [hgv] at hw hn
        rw [if_neg (by rw [hw]; simp)]
        exact hn own F w _ (Ext.refl _ _ _ _) r (.g _ _ _ (fun _ => rfl) fun h => nomatch h)
    · exact hs.elim

/-! ### what is said of the operations together -/
def envs : List Oper → List SV → Env → Env
  | o :: l, v :: vs, env => envs l vs (put env o.dst v)
  | _, _, env => env

theorem envs_other : ∀ {l : List Oper} {vs : List SV} {env : Env} {t : Nat}, (∀ (j : Nat) (o : Oper), l[j]? = some o → o.dst ≠ some t) → envs l vs env t = env t
  | [], _, env, t, _ => rfl
  | o :: l, [], env, t, _ => rfl
  | o :: l, v :: vs, env, t, h => by
    unfold envs
    rw [envs_other (l := l) (fun j o' hj => h (j + 1) o' (by simpa using hj))]
    have h0 := h 0 o rfl
    cases hd : o.dst with
    | none => rfl
    | some d =>
      rw [hd] at h0
      simp only [put, upd]
      cases hb : Nat.beq t d with
      | true => exact absurd (by rw [Nat.eq_of_beq_eq_true hb]) h0
      | false => rfl

theorem envs_at : ∀ {l : List Oper} {vs : List SV} {env : Env} {t i : Nat} {o : Oper} {v : SV}, l[i]? = some o → vs[i]? = some v → o.dst = some t → (∀ (j : Nat) (o : Oper), l[j]? = some o → o.dst = some t → j = i) → envs l vs env t = v
  | [], _, env, t, i, o, v, h, _, _, _ => by simp at h
  | o' :: l, [], env, t, i, o, v, _, h, _, _ => by simp at h
  | o' :: l, v' :: vs, env, t, 0, o, v, h1, h2, h3, h4 => by
    simp at h1 h2
    subst h1 h2
    unfold envs
    rw [envs_other fun j o hj hd => by have := h4 (j + 1) o (by simpa using hj) hd; omega]
    rw [h3]
    simp [put, upd]
  | o' :: l, v' :: vs, env, t, i + 1, o, v, h1, h2, h3, h4 => by
    unfold envs
    exact envs_at (l := l) (i := i) (by simpa using h1) (by simpa using h2) h3 fun j o hj hd => by have := h4 (j + 1) o (by simpa using hj) hd; omega

theorem allIdx_spec {α : Type} {p : Nat → α → Bool} : ∀ {xs : List α} {i : Nat}, allIdx p i xs = true → ∀ (j : Nat) (x : α), xs[j]? = some x → p (i + j) x = true
  | [], _, _, j, x, h => by simp at h
  | y :: ys, i, h, 0, x, hx => by simp at hx; subst hx; simp [allIdx] at h; exact h.1
  | y :: ys, i, h, j + 1, x, hx => by
    simp [allIdx] at h
    have := allIdx_spec h.2 j x (by simpa using hx)
    rwa [show i + 1 + j = i + (j + 1) by omega] at this

theorem dops_out {c : Nat → Nat → Bool} (ht : TabOk P tt) {ops : Array Oper} {K : Env → List Sto → Prop} {W : List Nat} : ∀ (l : List Oper) (pl : List Sto), (∀ j o, l[j]? = some o → ops[pl.length + j]? = some o) → ∀ (env : Env), dops (ctr P I) tt c ops.toList W l pl K env σ →
    ∃ (vs : List SV) (Δs : List Sto), vs.length = l.length ∧ Δs.length = l.length ∧ K (envs l vs env) (pl ++ Δs) ∧ (∀ j Δ, Δs[j]? = some Δ → W.contains (pl.length + j) = true → Δ = []) ∧
      ∀ j o v Δ, l[j]? = some o → vs[j]? = some v → Δs[j]? = some Δ → W.contains (pl.length + j) = false → FactX c P ops σ Q (pl.length + j) o (envs (l.take j) (vs.take j) env) v Δ (pl ++ Δs.take j)
  | [], pl, hl, env, h => ⟨[], [], rfl, rfl, by rw [List.append_nil]; exact h, by simp, by simp⟩
  | o :: l, pl, hl, env, h => by
    have hi : ops[pl.length]? = some o := by simpa using hl 0 o rfl
    have plain : ∀ v Δ, (W.contains pl.length = true → Δ = []) → (W.contains pl.length = false → FactX c P ops σ Q pl.length o env v Δ pl) → dops (ctr P I) tt c ops.toList W l (pl ++ [Δ]) K (put env o.dst v) σ → ∃ (vs : List SV) (Δs : List Sto), vs.length = (o :: l).length ∧ Δs.length = (o :: l).length ∧ K (envs (o :: l) vs env) (pl ++ Δs) ∧ (∀ j Δ, Δs[j]? = some Δ → W.contains (pl.length + j) = true → Δ = []) ∧
      ∀ j o' v Δ, (o :: l)[j]? = some o' → vs[j]? = some v → Δs[j]? = some Δ → W.contains (pl.length + j) = false → FactX c P ops σ Q (pl.length + j) o' (envs ((o :: l).take j) (vs.take j) env) v Δ (pl ++ Δs.take j) := by
      intro v Δ hnil hf hd
      obtain ⟨vs, Δs, h1, h2, h3, h5, h4⟩ := dops_out ht l (pl ++ [Δ]) (fun j o' hj => by
        have := hl (j + 1) o' (by simpa using hj)
        rw [List.length_append, List.length_singleton, show pl.length + 1 + j = pl.length + (j + 1) by omega]
        exact this) _ hd
      refine ⟨v :: vs, Δ :: Δs, by simp [h1], by simp [h2], by rw [List.append_assoc] at h3; exact h3, fun j Δ' hj hW => ?_, ?_⟩
      · cases j with
        | zero => simp at hj; subst hj; exact hnil (by simpa using hW)
        | succ j => exact h5 j Δ' (by simpa using hj) (by rw [List.length_append, List.length_singleton, show pl.length + 1 + j = pl.length + (j + 1) by omega]; exact hW)
      intro j o' v' Δ' hj hv hΔ hW
      cases j with
      | zero =>
        simp at hj hv hΔ
        subst hj hv hΔ
        simpa [envs] using hf (by simpa using hW)
      | succ j =>
        have := h4 j o' v' Δ' (by simpa using hj) (by simpa using hv) (by simpa using hΔ) (by rw [List.length_append, List.length_singleton, show pl.length + 1 + j = pl.length + (j + 1) by omega]; exact hW)
        rw [List.length_append, List.length_singleton, show pl.length + 1 + j = pl.length + (j + 1) by omega, List.append_assoc] at this
        exact this
    unfold dops at h
    cases hWc : W.contains pl.length with
    | true =>
      rw [hWc, cond_true, forceLs_iff] at h
      refine plain (match o.dst with | some d => env d | none => .any) [] (fun _ => rfl) (fun h => by rw [hWc] at h; exact nomatch h) ?_
      have e : put env o.dst (match o.dst with | some d => env d | none => .any) = env := by
        cases hd : o.dst with
        | none => rfl
        | some d =>
          funext t
          simp only [put, upd]
          cases hb : Nat.beq t d with
          | true => rw [Nat.eq_of_beq_eq_true hb]; rfl
          | false => rfl
      rw [e]
      exact h
    | false =>
    rw [hWc, cond_false] at h
    rw [forceSto_iff] at h
    obtain ⟨hb, h⟩ := bif_elim h
    have hb := List.all_eq_true.1 hb
    split at h
    · rename_i hg
      obtain ⟨v, Δ, h1, h2⟩ := h.out
      obtain ⟨hc, h2⟩ := bif_elim h2
      rw [forceLs_iff] at h2
      simp only [Bool.and_eq_true] at hc
      exact plain v Δ (fun h => by rw [hWc] at h; exact nomatch h) (fun _ => ⟨hb, hc.1, hc.2, factP_plain ht hi hg h1⟩) h2
    · rename_i gw hg
      obtain ⟨j, want⟩ := gw
      obtain ⟨v, h1, h2⟩ := factS_guard (Q := Q) ht hi hg h
      obtain ⟨hc, h2⟩ := bif_elim h2
      rw [forceLs_iff] at h2
      cases hd : o.dst with
      | some d =>
        rw [hd] at hc
        simp only [put, upd] at hc
        rw [show Nat.beq d d = true from Nat.beq_refl d, cond_true] at hc
        exact plain v [] (fun _ => rfl) (fun _ => ⟨hb, by rw [List.append_nil]; exact hc, rfl, fun own F w a next r hx hn => h1 own F w a next r hx fun own' F' w' mv e r' hv => hn own' F' w' mv e (by rw [List.append_nil]; exact r') hv⟩) h2
      | none =>
        -- nothing is yielded
        refine plain .any [] (fun _ => rfl) (fun _ => ⟨hb, rfl, rfl, fun own F w a next r hx hn => h1 own F w a next r hx fun own' F' w' mv e r' hv => hn own' F' w' mv e (by rw [List.append_nil]; exact r') (.t _ _ (.any _))⟩) ?_
        rw [hd] at h2 ⊢
        exact h2
/-- A write. -/
def FactW (P : Program) (ops : Array Oper) (σ σ' : Sto) (Q : Exit → Act → World → Prop) (i : Nat) (o : Oper) (env : Env) : Prop :=
  ∀ (own : Nat → Own) (F : Nat → Prop) (w : World) (a : Act) (next : Act → World → Prop), Rel own F w σ → (∀ t ∈ readsOf ops.toList o, VS own F w (env t) (a.tmps.getD t undef)) →
    (∀ (own' : Nat → Own) (F' : Nat → Prop) (w' : World) (mv : Value), Ext σ.length own F w own' F' w' → Rel own' F' w' σ' → next (a.put o.dst mv) w') → wpOp P ops Q i next a w
theorem lates_out (ht : TabOk P tt) {ops : Array Oper} {p : Prop} : ∀ (L : List Nat), lates (ctr P I) tt ops.toList env σ L p →
    p ∧ ∀ j o, j ∈ L → ops[j]? = some o → ∃ d, o.dst = some d ∧ FactP P ops σ [] Q j o env (env d)
  | [], h => ⟨h, by simp⟩
  | i :: L, h => by
    unfold lates at h
    split at h
    · rename_i o hi
      rw [nth_eq, Array.getElem?_toList] at hi
      split at h
      · rename_i d hg hd
        obtain ⟨h1, h2⟩ := h
        obtain ⟨h3, h4⟩ := lates_out ht L h2
        refine ⟨h3, fun j o' hj ho' => ?_⟩
        rcases List.mem_cons.1 hj with rfl | hj
        · rw [hi] at ho'; cases ho'
          exact ⟨d, hd, factP_plain ht hi hg h1⟩
        · exact h4 j o' hj ho'
      · exact h.elim
    · exact h.elim
theorem wops_out (ht : TabOk P tt) {ops : Array Oper} {K : Sto → Prop} : ∀ (W : List (Nat × List Nat)) {σ : Sto}, wops (ctr P I) tt ops.toList W K env σ →
    ∃ σs : Nat → Sto, σs 0 = σ ∧ K (σs W.length) ∧ (∀ k, k ≤ W.length → σ.length ≤ (σs k).length) ∧ ∀ (k : Nat) (w : Nat × List Nat), W[k]? = some w → ∃ o, ops[w.1]? = some o ∧ o.dst = none ∧ FactW P ops (σs k) (σs (k + 1)) Q w.1 o env ∧ (σs k).length ≤ (σs (k + 1)).length ∧
      ∀ j o, j ∈ w.2 → ops[j]? = some o → ∃ d, o.dst = some d ∧ FactP P ops (σs (k + 1)) [] Q j o env (env d)
  | [], σ, h => ⟨fun _ => σ, rfl, h, fun _ _ => Nat.le_refl _, by simp⟩
  | w :: W, σ, h => by
    unfold wops at h
    split at h
    · rename_i o ho
      rw [nth_eq, Array.getElem?_toList] at ho
      split at h
      · rename_i hg hd
        obtain ⟨s, h1, h2⟩ := h.out
        obtain ⟨hle, h2⟩ := bif_elim h2
        have hle := Nat.le_of_ble_eq_true hle
        obtain ⟨h3, h4⟩ := lates_out (Q := Q) ht w.2 h2
        obtain ⟨σs, g1, g2, g3, g4⟩ := wops_out ht W h3
        refine ⟨fun k => match k with | 0 => σ | k + 1 => σs k, rfl, g2, fun k hk => ?_, fun k w' hk => ?_⟩
        · cases k with
          | zero => exact Nat.le_refl _
          | succ k =>
            have := g3 k (by simpa using hk)
            exact Nat.le_trans hle this
        · cases k with
          | zero =>
            simp at hk
            subst hk
            refine ⟨o, ho, hd, ?_, by show σ.length ≤ (σs 0).length; rw [g1]; exact hle, fun j o' hj ho' => ?_⟩
            · show FactW P ops σ (σs 0) Q w.1 o env
              rw [g1]
              intro own F w0 a next r hx hn
              simp only [wpOp, ho]
              have hwt : Region.wanted o (yielded ops a.tmps) = true := by simp [Region.wanted, hg]
              rw [if_pos hwt]
              left
              refine step_sound' ht ?_ r (fun t h => hx t (List.mem_append_left _ h)) rfl h1
              intro v' σ' own' F' w' mv hkk e r' hl hv
              obtain ⟨rfl⟩ := hkk
              exact hn own' F' w' mv e r'
            · show ∃ d, o'.dst = some d ∧ FactP P ops (σs 0) [] Q j o' env (env d)
              rw [g1]
              exact h4 j o' hj ho'
          | succ k => exact g4 k w' (by simpa using hk)
      · exact h.elim
    · exact h.elim
end
end Go.Proofs.Ytihebfhhnoneiaa.Am
