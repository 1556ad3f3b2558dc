/- Code does what the abstract machine says. -/
import Derived.Test.YtgladinljapmkaaXG
import Derived.Orders
/- A region whose order is drawn. -/
namespace Go.Proofs.Ytgladinljapmkaa.Am
open Go.RowKit
set_option linter.unusedVariables false
set_option linter.unusedSimpArgs false
section
variable {P : Program} {tt : Tab} {I : FuncId → Bool} {own : Nat → Own} {F : Nat → Prop} {w : World} {σ : Sto} {env : Env} {a : Act} {N : Nat} {o : Oper}
variable {next : Act → World → Prop} {Q : Exit → Act → World → Prop}
theorem step_congr {C : Ctr} {op : Op} {ty : TypeId} {env' : Env} {K : SV → Sto → Prop} (h : ∀ x ∈ op.operands.toList, ev env x = ev env' x) (hs : step C tt op ty env σ K) : step C tt op ty env' σ K := by
  have key : step C tt op ty env σ K = step C tt op ty env' σ K := by
    cases op
    case call c =>
      obtain ⟨callee, args, argTypes⟩ := c
      cases callee with
      | value f =>
        have h0 : ev env f = ev env' f := h f (by simp [Op.operands, Call.operands])
        have h1 : args.toList.map (ev env) = args.toList.map (ev env') := List.map_congr_left fun x hx => h x (by simp [Op.operands, Call.operands]; right; simpa using hx)
        simp only [step, h0, h1]
      | builtin b =>
        have h1 : ∀ x ∈ args.toList, ev env x = ev env' x := fun x hx => h x (by simp [Op.operands, Call.operands]; simpa using hx)
        cases b <;> simp only [step]
        all_goals first
          | (generalize args.toList = l at h1
             rcases l with _ | ⟨x, _ | ⟨y, _ | ⟨z, zs⟩⟩⟩ <;> first | rfl | (simp only [h1 x (by simp), h1 y (by simp)]; done))
          | skip
        all_goals
          generalize args.toList = l at h1
          cases argTypes.toList with
          | nil => rfl
          | cons t ts =>
            cases l with
            | nil => cases ts with
              | nil => rfl
              | cons _ us => cases us <;> rfl
            | cons x xs =>
              cases ts with
              | nil => cases xs with
                | nil => simp only [h1 x (by simp)]
                | cons => rfl
              | cons u us => cases xs with
                | nil => cases us <;> rfl
                | cons y ys => cases us with
                  | nil => cases ys with
                    | nil => simp only [h1 x (by simp), h1 y (by simp)]
                    | cons => rfl
                  | cons => cases ys <;> rfl
      | invoke r m => simp only [step]
    case build t parts =>
      have hp : ∀ p ∈ parts.toList, ev env p.2 = ev env' p.2 := fun p hp => h p.2 (by simp [Op.operands]; exact ⟨p.1, by simpa using hp⟩)
      simp only [step]
      have e1 : (parts.toList.foldl (fun cs (p : Nat × Operand) => cs) ([] : List SV)) = [] := by induction parts.toList <;> simp_all
      split
      · rename_i fs _
        have e2 : ∀ (l : List (Nat × Operand)) (acc : List SV), (∀ p ∈ l, ev env p.2 = ev env' p.2) → l.foldl (fun cs p => setCells cs ((nth fs p.1).getD (0, 0)).2 (ev env p.2).cells) acc = l.foldl (fun cs p => setCells cs ((nth fs p.1).getD (0, 0)).2 (ev env' p.2).cells) acc := by
          intro l
          induction l with
          | nil => intros; rfl
          | cons p l ih => intro acc hl; simp only [List.foldl_cons, hl p (by simp)]; exact ih _ fun q hq => hl q (by simp [hq])
        have e3 : ∀ (p q : Nat × Operand → Bool) (l : List (Nat × Operand)), (∀ x ∈ l, p x = q x) → l.all p = l.all q := by
          intro p q l
          induction l with
          | nil => intros; rfl
          | cons x l ih => intro hl; simp only [List.all_cons, hl x (by simp)]; rw [ih fun y hy => hl y (by simp [hy])]
        rw [e2 _ _ hp]
        congr 2
        exact e3 _ _ _ fun p h => by rw [hp p h]
      · have e5 : ∀ (l : List (Nat × Operand)) (cs : List T), (∀ p ∈ l, ev env p.2 = ev env' p.2) → partA env l cs = partA env' l cs := by
          intro l
          induction l with
          | nil => intros; rfl
          | cons p l ih =>
            intro cs hl
            unfold partA
            rw [hl p (by simp)]
            split
            · rw [ih _ fun q hq => hl q (by simp [hq])]
            · rfl
        rw [e5 _ _ hp]
      · rfl
    case buildSlice t n parts =>
      have hp : ∀ p ∈ parts.toList, ev env p.2 = ev env' p.2 := fun p hp => h p.2 (by simp [Op.operands]; exact ⟨p.1, by simpa using hp⟩)
      have e3 : ∀ (p q : Nat × Operand → Bool) (l : List (Nat × Operand)), (∀ x ∈ l, p x = q x) → l.all p = l.all q := by
        intro p q l
        induction l with
        | nil => intros; rfl
        | cons x l ih => intro hl; simp only [List.all_cons, hl x (by simp)]; rw [ih fun y hy => hl y (by simp [hy])]
      simp only [step]
      have e4 : parts.toList.flatMap (fun p => (ev env p.2).cells) = parts.toList.flatMap (fun p => (ev env' p.2).cells) := by
        have : ∀ (l : List (Nat × Operand)), (∀ p ∈ l, ev env p.2 = ev env' p.2) → l.flatMap (fun p => (ev env p.2).cells) = l.flatMap (fun p => (ev env' p.2).cells) := by
          intro l
          induction l with
          | nil => intros; rfl
          | cons x l ih => intro hl; simp only [List.flatMap_cons, hl x (by simp)]; rw [ih fun y hy => hl y (by simp [hy])]
        exact this _ hp
      rw [e4]
      split
      · rename_i E _
        have e6 : bsA tt E n env parts.toList = bsA tt E n env' parts.toList := by
          funext σ K
          unfold bsA
          split
          · rename_i x hps
            rw [show ev env x = ev env' x from hp (0, x) (by rw [hps]; exact List.mem_singleton.2 rfl)]
          · rfl
        rw [e6]
        rw [e3 (fun p => (ev env p.snd).cells.all SV.leaf && (ev env p.snd).cells.length.beq (tt.at E).size) (fun p => (ev env' p.snd).cells.all SV.leaf && (ev env' p.snd).cells.length.beq (tt.at E).size) _ fun p h => by rw [hp p h]]
      · rfl
    case makeFunc fn first cap =>
      have h1 : cap.toList.map (ev env) = cap.toList.map (ev env') := List.map_congr_left fun x hx => h x (by simp [Op.operands]; right; simpa using hx)
      cases fn <;> simp only [step, h1]
    case makeMap t r => cases r <;> simp only [step]
    case slice t x lo hi mx =>
      have hx : ev env x = ev env' x := h x (by simp [Op.operands])
      have hlo : loHi env lo = loHi env' lo := by
        cases lo with
        | none => rfl
        | some y => funext K; simp only [loHi, h y (by simp [Op.operands])]
      have hhi : hiOf env hi = hiOf env' hi := by
        cases hi with
        | none => rfl
        | some y => funext n K; simp only [hiOf, h y (by simp [Op.operands])]
      cases mx <;> simp only [step, hx, hlo, hhi]
    case lookup t m k b =>
      cases b
      · simp only [step, h m (by simp [Op.operands]), h k (by simp [Op.operands])]
      · simp only [step]
    case unOp op t x =>
      cases op <;> simp only [step, h x (by simp [Op.operands])]
    all_goals
      simp [Op.operands] at h
      simp only [step]
      try simp only [h]
  exact key ▸ hs
theorem mem_tmpsIn {xs : List Operand} {t : Nat} : t ∈ tmpsIn xs ↔ Operand.tmp t ∈ xs := by
  unfold tmpsIn
  rw [List.mem_filterMap]
  constructor
  · rintro ⟨x, hx, h⟩
    cases x <;> simp at h
    subst h
    exact hx
  · intro h
    exact ⟨_, h, rfl⟩
theorem step_sound' (ht : TabOk P tt) {K : SV → Sto → Prop} (hn : Next P o a own F w σ K next) (r : Rel own F w σ) {op : Op} {ty : TypeId} (hx : ∀ t ∈ tmpsIn op.operands.toList, VS own F w (env t) (a.tmps.getD t undef)) (ho : o.op = op) (hs : step (ctr P I) tt op ty env σ K) : o.wp P a w next Q := by
  let env' : Env := fun t => if t ∈ tmpsIn op.operands.toList then env t else .any
  have he : ∀ x ∈ op.operands.toList, ev env x = ev env' x := by
    intro x hx
    cases x with
    | tmp t => simp only [ev, env']; rw [if_pos (mem_tmpsIn.2 hx)]
    | _ => rfl
  refine step_sound ht hn r (fun x => ?_) ho (step_congr he hs)
  cases x with
  | tmp t =>
    simp only [ev, env']
    split
    · rename_i h; exact hx t h
    · exact .t _ _ (.any _)
  | const v => exact .t _ _ (.ofVal F w v)
  | global g => exact .t _ _ (.any _)
  | func f => exact .fn f [] #[] rfl (by simp)
theorem strip_out' {gc : Bool} : ∀ {xs : List Operand} {env : Env} {K : Env → Prop}, strip gc xs env K → ∃ env', K env' ∧ (gc = true → ∀ (t : Nat) {own : Nat → Own} {F : Nat → Prop} {w : World} {x : Value}, VS own F w (env t) x → VS own F w (env' t) x)
  | [], env, K, h => ⟨env, h, fun _ _ _ _ _ _ h => h⟩
  | .tmp t :: xs, env, K, h => by
    unfold strip at h
    split at h
    · rename_i c v hv
      obtain ⟨h1, h2⟩ := h
      have h1 := h1.out
      obtain ⟨env', h3, h4⟩ := strip_out' h2
      refine ⟨env', h3, fun hg j own F w x hj => h4 hg j ?_⟩
      unfold upd
      cases hb : Nat.beq j t with
      | true =>
        have := Nat.eq_of_beq_eq_true hb
        subst this
        rw [hv] at hj
        cases hj with
        | g _ _ _ _ h => exact h (h1 hg)
      | false => exact hj
    · exact strip_out' h
  | .const _ :: xs, env, K, h => strip_out' (xs := xs) h
  | .global _ :: xs, env, K, h => strip_out' (xs := xs) h
  | .func _ :: xs, env, K, h => strip_out' (xs := xs) h
theorem gcond_wanted' {ops : Array Oper} {j d : Nat} {want gc : Bool} (he : VS own F w (env d) (a.tmps.getD d undef)) (hg : o.guard = some (j, want)) (hd : dstOf ops.toList j = some d) (hc : gcond want (env d) = some gc) : Region.wanted o (yielded ops a.tmps) = gc := by
  refine gcond_wanted (N := a.tmps.size) (own := own) (F := F) (w := w) (env := fun t => if t = d then env d else .any) (o := o) ⟨rfl, fun t => ?_⟩ hg hd (by simpa using hc)
  dsimp only
  split
  · rename_i h; rw [h]; exact he
  · exact .t _ _ (.any _)
/-! ### what is said of an operation by itself -/
def FactS (P : Program) (ops : Array Oper) (σ : Sto) (Q : Exit → Act → World → Prop) (i : Nat) (o : Oper) (env : Env) (v : SV) : Prop :=
  ∀ (ro : Option Nat) (nn : Nat) (own : Nat → Own) (F : Nat → Prop) (w : World) (a : Act) (next : Act → World → Prop), Rel own F w σ → (∀ t ∈ readsOf ops.toList o, VS own F w (env t) (a.tmps.getD t undef)) →
    (∀ (own' : Nat → Own) (F' : Nat → Prop) (w' : World) (mv : Value), Ext σ.length own F w own' F' w' → Rel own' F' w' σ → VS own' F' w' v mv → next (a.put o.dst mv) w') → wpOpIn (Fw ro) nn P ops Q i next a w
def FactP (P : Program) (ops : Array Oper) (σ Δ : Sto) (Q : Exit → Act → World → Prop) (i : Nat) (o : Oper) (env : Env) (v : SV) : Prop :=
  ∀ (ro : Option Nat) (nn : Nat) (own : Nat → Own) (F : Nat → Prop) (w : World) (a : Act) (next : Act → World → Prop), Rel own F w σ → (∀ t ∈ readsOf ops.toList o, VS own F w (env t) (a.tmps.getD t undef)) →
    (∀ (own' : Nat → Own) (F' : Nat → Prop) (w' : World) (mv : Value), Ext σ.length own F w own' F' w' → Rel own' F' w' (σ ++ Δ) → VS own' F' w' v mv → next (a.put o.dst mv) w') → wpOpIn (Fw ro) nn P ops Q i next a w
structure FactX (c : Nat → Nat → Bool) (P : Program) (ops : Array Oper) (σ : Sto) (Q : Exit → Act → World → Prop) (i : Nat) (o : Oper) (env : Env) (v : SV) (Δ : Sto) (pl : List Sto) : Prop where
  opd : ∀ t ∈ readsOf ops.toList o, bdS (aliv σ.length (σ ++ mskL (c pl.length) 0 pl)) 4 (env t) = true
  val : bdS (aliv σ.length (σ ++ mskL (c pl.length) 0 pl ++ Δ)) 4 v = true
  iso : Δ.all isoO = true
  fact : FactP P ops (σ ++ mskL (c pl.length) 0 pl) Δ Q i o env v
theorem FactX.congr {c : Nat → Nat → Bool} {ops : Array Oper} {i : Nat} {v : SV} {Δ : Sto} {pl : List Sto} {env' : Env} (h : FactX c P ops σ Q i o env v Δ pl) (he : ∀ t ∈ readsOf ops.toList o, env t = env' t) : FactX c P ops σ Q i o env' v Δ pl :=
  ⟨fun t ht => by rw [← he t ht]; exact h.opd t ht, h.val, h.iso, fun ro nn own F w a next r hx hn => h.fact ro nn own F w a next r (fun t ht => by rw [he t ht]; exact hx t ht) hn⟩
theorem factP_plain (ht : TabOk P tt) {ops : Array Oper} {i : Nat} {v : SV} {Δ : Sto} (hi : ops[i]? = some o) (hg : o.guard = none) (hs : step (ctr P I) tt o.op o.type env σ fun v' σ' => force v' fun v' => EqP v' v σ' σ Δ) : FactP P ops σ Δ Q i o env v := by
  intro ro nn own F w a next r hx hn
  simp only [wpOpIn, hi]
  have hw : Region.wanted o (yielded ops a.tmps) = true := by simp [Region.wanted, hg]
  rw [if_pos hw]
  refine wpIn_of_wp (step_defer hs) ?_
  refine step_sound' ht ?_ r (fun t h => hx t (List.mem_append_left _ h)) rfl hs
  intro v' σ' own' F' w' mv hkk e r' hl hv
  rw [force_iff] at hkk
  obtain ⟨rfl, rfl⟩ := hkk
  exact hn own' F' w' mv e r' hv
theorem factS_guard (ht : TabOk P tt) {ops : Array Oper} {i : Nat} {K : Env → Sto → Prop} (hi : ops[i]? = some o) {j : Nat} {want : Bool} (hg : o.guard = some (j, want)) (hs : rop1q (ctr P I) tt ops.toList o K env σ) : ∃ v, FactS P ops σ Q i o env v ∧ K (put env o.dst v) σ := by
  unfold rop1q at hs
  rw [hg] at hs
  dsimp only at hs
  split at hs
  · exact hs.elim
  · rename_i d hdj
    split at hs
    · rename_i gc hgc
      obtain ⟨env', hx', hst⟩ := strip_out' hs
      obtain ⟨v, h1, h2⟩ := hx'.out
      refine ⟨.g gc v, ?_, h2⟩
      intro ro nn own F w a next r hx hn
      simp only [wpOpIn, hi]
      have hw := gcond_wanted' (o := o) (hx d (List.mem_append_right _ (by rw [hg]; simp [hdj]))) hg hdj hgc
      cases hgv : gc with
      | true =>
        rw [hgv] at hw h1 hst hn
        rw [if_pos hw]
        refine wpIn_of_wp (step_defer (h1 rfl)) ?_
        refine step_sound' ht ?_ r (fun t h => hst rfl t (hx t (List.mem_append_left _ h))) rfl (h1 rfl)
        intro v' σ' own' F' w' mv hkk e r' hl hv
        rw [force_iff] at hkk
        obtain ⟨rfl, rfl⟩ := hkk
        exact hn own' F' w' mv e r' (.g _ _ _ (fun h => nomatch h) fun _ => hv)
      | false =>
        rw [hgv] at hw hn
        rw [if_neg (by rw [hw]; simp)]
        exact ⟨fun _ _ => trivial, hn own F w _ (Ext.refl _ _ _ _) r (.g _ _ _ (fun _ => rfl) fun h => nomatch h)⟩
    · exact hs.elim
/-! ### what is said of the operations together -/
def envs : List Oper → List SV → Env → Env
  | o :: l, v :: vs, env => envs l vs (put env o.dst v)
  | _, _, env => env
theorem envs_other : ∀ {l : List Oper} {vs : List SV} {env : Env} {t : Nat}, (∀ (j : Nat) (o : Oper), l[j]? = some o → o.dst ≠ some t) → envs l vs env t = env t
  | [], _, env, t, _ => rfl
  | o :: l, [], env, t, _ => rfl
  | o :: l, v :: vs, env, t, h => by
    unfold envs
    rw [envs_other (l := l) (fun j o' hj => h (j + 1) o' (by simpa using hj))]
    have h0 := h 0 o rfl
    cases hd : o.dst with
    | none => rfl
    | some d =>
      rw [hd] at h0
      simp only [put, upd]
      cases hb : Nat.beq t d with
      | true => exact absurd (by rw [Nat.eq_of_beq_eq_true hb]) h0
      | false => rfl
theorem envs_at : ∀ {l : List Oper} {vs : List SV} {env : Env} {t i : Nat} {o : Oper} {v : SV}, l[i]? = some o → vs[i]? = some v → o.dst = some t → (∀ (j : Nat) (o : Oper), l[j]? = some o → o.dst = some t → j = i) → envs l vs env t = v
  | [], _, env, t, i, o, v, h, _, _, _ => by simp at h
  | o' :: l, [], env, t, i, o, v, _, h, _, _ => by simp at h
  | o' :: l, v' :: vs, env, t, 0, o, v, h1, h2, h3, h4 => by
    simp at h1 h2
    subst h1 h2
    unfold envs
    rw [envs_other fun j o hj hd => by have := h4 (j + 1) o (by simpa using hj) hd; omega]
    rw [h3]
    simp [put, upd]
  | o' :: l, v' :: vs, env, t, i + 1, o, v, h1, h2, h3, h4 => by
    unfold envs
    exact envs_at (l := l) (i := i) (by simpa using h1) (by simpa using h2) h3 fun j o hj hd => by have := h4 (j + 1) o (by simpa using hj) hd; omega
theorem allIdx_spec {α : Type} {p : Nat → α → Bool} : ∀ {xs : List α} {i : Nat}, allIdx p i xs = true → ∀ (j : Nat) (x : α), xs[j]? = some x → p (i + j) x = true
  | [], _, _, j, x, h => by simp at h
  | y :: ys, i, h, 0, x, hx => by simp at hx; subst hx; simp [allIdx] at h; exact h.1
  | y :: ys, i, h, j + 1, x, hx => by
    simp [allIdx] at h
    have := allIdx_spec h.2 j x (by simpa using hx)
    rwa [show i + 1 + j = i + (j + 1) by omega] at this
theorem dops_out {c : Nat → Nat → Bool} (ht : TabOk P tt) {ops : Array Oper} {K : Env → List Sto → Prop} {W : List Nat} : ∀ (l : List Oper) (pl : List Sto), (∀ j o, l[j]? = some o → ops[pl.length + j]? = some o) → ∀ (env : Env), dops (ctr P I) tt c ops.toList W l pl K env σ →
    ∃ (vs : List SV) (Δs : List Sto), vs.length = l.length ∧ Δs.length = l.length ∧ K (envs l vs env) (pl ++ Δs) ∧ (∀ j Δ, Δs[j]? = some Δ → W.contains (pl.length + j) = true → Δ = []) ∧
      ∀ j o v Δ, l[j]? = some o → vs[j]? = some v → Δs[j]? = some Δ → W.contains (pl.length + j) = false → FactX c P ops σ Q (pl.length + j) o (envs (l.take j) (vs.take j) env) v Δ (pl ++ Δs.take j)
  | [], pl, hl, env, h => ⟨[], [], rfl, rfl, by rw [List.append_nil]; exact h, by simp, by simp⟩
  | o :: l, pl, hl, env, h => by
    have hi : ops[pl.length]? = some o := by simpa using hl 0 o rfl
    have plain : ∀ v Δ, (W.contains pl.length = true → Δ = []) → (W.contains pl.length = false → FactX c P ops σ Q pl.length o env v Δ pl) → dops (ctr P I) tt c ops.toList W l (pl ++ [Δ]) K (put env o.dst v) σ → ∃ (vs : List SV) (Δs : List Sto), vs.length = (o :: l).length ∧ Δs.length = (o :: l).length ∧ K (envs (o :: l) vs env) (pl ++ Δs) ∧ (∀ j Δ, Δs[j]? = some Δ → W.contains (pl.length + j) = true → Δ = []) ∧
      ∀ j o' v Δ, (o :: l)[j]? = some o' → vs[j]? = some v → Δs[j]? = some Δ → W.contains (pl.length + j) = false → FactX c P ops σ Q (pl.length + j) o' (envs ((o :: l).take j) (vs.take j) env) v Δ (pl ++ Δs.take j) := by
      intro v Δ hnil hf hd
      obtain ⟨vs, Δs, h1, h2, h3, h5, h4⟩ := dops_out ht l (pl ++ [Δ]) (fun j o' hj => by
        have := hl (j + 1) o' (by simpa using hj)
        rw [List.length_append, List.length_singleton, show pl.length + 1 + j = pl.length + (j + 1) by omega]
        exact this) _ hd
      refine ⟨v :: vs, Δ :: Δs, by simp [h1], by simp [h2], by rw [List.append_assoc] at h3; exact h3, fun j Δ' hj hW => ?_, ?_⟩
      · cases j with
        | zero => simp at hj; subst hj; exact hnil (by simpa using hW)
        | succ j => exact h5 j Δ' (by simpa using hj) (by rw [List.length_append, List.length_singleton, show pl.length + 1 + j = pl.length + (j + 1) by omega]; exact hW)
      intro j o' v' Δ' hj hv hΔ hW
      cases j with
      | zero =>
        simp at hj hv hΔ
        subst hj hv hΔ
        simpa [envs] using hf (by simpa using hW)
      | succ j =>
        have := h4 j o' v' Δ' (by simpa using hj) (by simpa using hv) (by simpa using hΔ) (by rw [List.length_append, List.length_singleton, show pl.length + 1 + j = pl.length + (j + 1) by omega]; exact hW)
        rw [List.length_append, List.length_singleton, show pl.length + 1 + j = pl.length + (j + 1) by omega, List.append_assoc] at this
        exact this
    unfold dops at h
    cases hWc : W.contains pl.length with
    | true =>
      rw [hWc, cond_true] at h
      cases hd : o.dst with
      | none =>
        rw [hd] at h
        simp only [forceLs_iff] at h
        refine plain .any [] (fun _ => rfl) (fun h => by rw [hWc] at h; exact nomatch h) ?_
        rw [hd]
        exact h
      | some d =>
        rw [hd] at h
        obtain ⟨v, h⟩ := exV.out h
        rw [forceLs_iff] at h
        refine plain v [] (fun _ => rfl) (fun h => by rw [hWc] at h; exact nomatch h) ?_
        rw [hd]
        exact h
    | false =>
    rw [hWc, cond_false] at h
    rw [forceSto_iff] at h
    obtain ⟨hb, h⟩ := bif_elim h
    have hb := List.all_eq_true.1 hb
    split at h
    · rename_i hg
      obtain ⟨v, Δ, h1, h2⟩ := h.out
      obtain ⟨hc, h2⟩ := bif_elim h2
      rw [forceLs_iff] at h2
      simp only [Bool.and_eq_true] at hc
      exact plain v Δ (fun h => by rw [hWc] at h; exact nomatch h) (fun _ => ⟨hb, hc.1, hc.2, factP_plain ht hi hg h1⟩) h2
    · rename_i gw hg
      obtain ⟨j, want⟩ := gw
      obtain ⟨v, h1, h2⟩ := factS_guard (Q := Q) ht hi hg h
      obtain ⟨hc, h2⟩ := bif_elim h2
      rw [forceLs_iff] at h2
      cases hd : o.dst with
      | some d =>
        rw [hd] at hc
        simp only [put, upd] at hc
        rw [show Nat.beq d d = true from Nat.beq_refl d, cond_true] at hc
        exact plain v [] (fun _ => rfl) (fun _ => ⟨hb, by rw [List.append_nil]; exact hc, rfl, fun ro nn own F w a next r hx hn => h1 ro nn own F w a next r hx fun own' F' w' mv e r' hv => hn own' F' w' mv e (by rw [List.append_nil]; exact r') hv⟩) h2
      | none =>
        -- nothing is yielded
        refine plain .any [] (fun _ => rfl) (fun _ => ⟨hb, rfl, rfl, fun ro nn own F w a next r hx hn => h1 ro nn own F w a next r hx fun own' F' w' mv e r' hv => hn own' F' w' mv e (by rw [List.append_nil]; exact r') (.t _ _ (.any _))⟩) ?_
        rw [hd] at h2 ⊢
        exact h2
def FactW (P : Program) (ops : Array Oper) (σ σ' : Sto) (Q : Exit → Act → World → Prop) (i : Nat) (o : Oper) (env : Env) : Prop :=
  ∀ (ro : Option Nat) (nn : Nat) (own : Nat → Own) (F : Nat → Prop) (w : World) (a : Act) (next : Act → World → Prop), Rel own F w σ → (∀ t ∈ readsOf ops.toList o, VS own F w (env t) (a.tmps.getD t undef)) →
    (∀ (own' : Nat → Own) (F' : Nat → Prop) (w' : World) (mv : Value), Ext σ.length own F w own' F' w' → Rel own' F' w' σ' → (∀ d, o.dst = some d → VS own' F' w' (env d) mv) → next (a.put o.dst mv) w') → wpOpIn (Fw ro) nn P ops Q i next a w
theorem lates_out (ht : TabOk P tt) {ops : Array Oper} {p : Prop} : ∀ (L : List Nat), lates (ctr P I) tt ops.toList env σ L p →
    p ∧ ∀ j o, j ∈ L → ops[j]? = some o → ∃ d, o.dst = some d ∧ FactP P ops σ [] Q j o env (env d)
  | [], h => ⟨h, by simp⟩
  | i :: L, h => by
    unfold lates at h
    split at h
    · rename_i o hi
      rw [nth_eq, Array.getElem?_toList] at hi
      split at h
      · rename_i d hg hd
        obtain ⟨h1, h2⟩ := h
        obtain ⟨h3, h4⟩ := lates_out ht L h2
        refine ⟨h3, fun j o' hj ho' => ?_⟩
        rcases List.mem_cons.1 hj with rfl | hj
        · rw [hi] at ho'; cases ho'
          exact ⟨d, hd, factP_plain ht hi hg h1⟩
        · exact h4 j o' hj ho'
      · exact h.elim
    · exact h.elim
theorem wops_out (ht : TabOk P tt) {ops : Array Oper} {K : Sto → Prop} : ∀ (W : List (Nat × List Nat)) {σ : Sto}, wops (ctr P I) tt ops.toList W K env σ →
    ∃ σs : Nat → Sto, σs 0 = σ ∧ K (σs W.length) ∧ (∀ k, k ≤ W.length → σ.length ≤ (σs k).length) ∧ ∀ (k : Nat) (w : Nat × List Nat), W[k]? = some w → ∃ o, ops[w.1]? = some o ∧ FactW P ops (σs k) (σs (k + 1)) Q w.1 o env ∧ (σs k).length ≤ (σs (k + 1)).length ∧
      ∀ j o, j ∈ w.2 → ops[j]? = some o → ∃ d, o.dst = some d ∧ FactP P ops (σs (k + 1)) [] Q j o env (env d)
  | [], σ, h => ⟨fun _ => σ, rfl, h, fun _ _ => Nat.le_refl _, by simp⟩
  | w :: W, σ, h => by
    unfold wops at h
    split at h
    · rename_i o ho
      rw [nth_eq, Array.getElem?_toList] at ho
      split at h
      · rename_i hg hd
        obtain ⟨s, h1, h2⟩ := h.out
        obtain ⟨hle, h2⟩ := bif_elim h2
        have hle := Nat.le_of_ble_eq_true hle
        obtain ⟨h3, h4⟩ := lates_out (Q := Q) ht w.2 h2
        obtain ⟨σs, g1, g2, g3, g4⟩ := wops_out ht W h3
        refine ⟨fun k => match k with | 0 => σ | k + 1 => σs k, rfl, g2, fun k hk => ?_, fun k w' hk => ?_⟩
        · cases k with
          | zero => exact Nat.le_refl _
          | succ k =>
            have := g3 k (by simpa using hk)
            exact Nat.le_trans hle this
        · cases k with
          | zero =>
            simp at hk
            subst hk
            refine ⟨o, ho, ?_, by show σ.length ≤ (σs 0).length; rw [g1]; exact hle, fun j o' hj ho' => ?_⟩
            · show FactW P ops σ (σs 0) Q w.1 o env
              rw [g1]
              intro ro nn own F w0 a next r hx hn
              simp only [wpOpIn, ho]
              have hwt : Region.wanted o (yielded ops a.tmps) = true := by simp [Region.wanted, hg]
              rw [if_pos hwt]
              refine wpIn_of_wp (step_defer h1) ?_
              refine step_sound' ht ?_ r (fun t h => hx t (List.mem_append_left _ h)) rfl h1
              intro v' σ' own' F' w' mv hkk e r' hl hv
              obtain ⟨rfl⟩ := hkk
              exact hn own' F' w' mv e r' fun d' hd' => by rw [hd] at hd'; exact nomatch hd'
            · show ∃ d, o'.dst = some d ∧ FactP P ops (σs 0) [] Q j o' env (env d)
              rw [g1]
              exact h4 j o' hj ho'
          | succ k => exact g4 k w' (by simpa using hk)
      · rename_i d hg hd
        obtain ⟨s, h1, h2⟩ := h.out
        obtain ⟨hle, h2⟩ := bif_elim h2
        have hle := Nat.le_of_ble_eq_true hle
        obtain ⟨h3, h4⟩ := lates_out (Q := Q) ht w.2 h2
        obtain ⟨σs, g1, g2, g3, g4⟩ := wops_out ht W h3
        refine ⟨fun k => match k with | 0 => σ | k + 1 => σs k, rfl, g2, fun k hk => ?_, fun k w' hk => ?_⟩
        · cases k with
          | zero => exact Nat.le_refl _
          | succ k =>
            have := g3 k (by simpa using hk)
            exact Nat.le_trans hle this
        · cases k with
          | zero =>
            simp at hk
            subst hk
            refine ⟨o, ho, ?_, by show σ.length ≤ (σs 0).length; rw [g1]; exact hle, fun j o' hj ho' => ?_⟩
            · show FactW P ops σ (σs 0) Q w.1 o env
              rw [g1]
              intro ro nn own F w0 a next r hx hn
              simp only [wpOpIn, ho]
              have hwt : Region.wanted o (yielded ops a.tmps) = true := by simp [Region.wanted, hg]
              rw [if_pos hwt]
              refine wpIn_of_wp (step_defer h1) ?_
              refine step_sound' ht ?_ r (fun t h => hx t (List.mem_append_left _ h)) rfl h1
              intro v' σ' own' F' w' mv hkk e r' hl hv
              rw [force_iff] at hkk
              obtain ⟨h5, h6⟩ := hkk
              subst h6
              exact hn own' F' w' mv e r' fun d' hd' => by rw [hd] at hd'; injection hd' with hd'; rw [← hd', ← h5]; exact hv
            · show ∃ d, o'.dst = some d ∧ FactP P ops (σs 0) [] Q j o' env (env d)
              rw [g1]
              exact h4 j o' hj ho'
          | succ k => exact g4 k w' (by simpa using hk)
      · exact h.elim
    · exact h.elim
end
end Go.Proofs.Ytgladinljapmkaa.Am

/- A region whose order is drawn: every order. -/
namespace Go.Proofs.Ytgladinljapmkaa.Am
open Go.RowKit
set_option linter.unusedVariables false
set_option linter.unusedSimpArgs false
section
variable {P : Program} {tt : Tab} {I : FuncId → Bool} {own : Nat → Own} {F : Nat → Prop} {w : World} {σ : Sto} {env : Env} {a : Act} {N : Nat} {o : Oper}
variable {next : Act → World → Prop} {Q : Exit → Act → World → Prop}
theorem bdS_mono {A B : Nat → Bool} (h : ∀ k, A k = true → B k = true) : ∀ (n : Nat) (x : SV), bdS A n x = true → bdS B n x = true
  | n, .t x, _ => by cases n <;> rfl
  | n, .ref k e p off len, hx => by cases n <;> exact h k hx
  | n, .pl k e p i off, hx => by cases n <;> exact h k hx
  | n, .mp k e p, hx => by cases n <;> exact h k hx
  | n + 1, .agg xs, hx => List.all_eq_true.2 fun x hm => bdS_mono h n x (List.all_eq_true.1 hx x hm)
  | n + 1, .tup xs, hx => List.all_eq_true.2 fun x hm => bdS_mono h n x (List.all_eq_true.1 hx x hm)
  | n + 1, .fn _ xs, hx => List.all_eq_true.2 fun x hm => bdS_mono h n x (List.all_eq_true.1 hx x hm)
  | n + 1, .g c x, hx => bdS_mono h n x hx
  | 0, .agg xs, hx => by simp [bdS] at hx
  | 0, .tup xs, hx => by simp [bdS] at hx
  | 0, .fn f xs, hx => by simp [bdS] at hx
  | 0, .g c x, hx => by simp [bdS] at hx
theorem isoO_ne {o : SObj} (h : isoO o = true) : o ≠ .dead := by rintro rfl; simp [isoO] at h
theorem isoO_bd {o : SObj} (h : isoO o = true) (A : Nat → Bool) : ∀ x ∈ o.cellsV, bdS A 4 x = true := by
  intro x hx
  simp only [isoO, Bool.and_eq_true] at h
  exact bdS_mono (A := fun _ => false) (fun k hk => by simp at hk) 4 x (List.all_eq_true.1 h.2 x hx)
theorem mskL_at : ∀ (pl : List Sto) (j k : Nat), k < (mskL (fun _ => true) j pl).length → ∃ (j' : Nat) (Δ : Sto) (q : Nat), pl[j']? = some Δ ∧ q < Δ.length ∧ ∀ c, (mskL c j pl)[k]? = if c (j + j') = true then Δ[q]? else some .dead
  | [], j, k, h => by simp [mskL] at h
  | Δ :: pl, j, k, h => by
    have hl : ∀ c : Nat → Bool, (bif c j then Δ else Δ.map fun _ => SObj.dead).length = Δ.length := by intro c; cases c j <;> simp
    rcases Nat.lt_or_ge k Δ.length with hk | hk
    · refine ⟨0, Δ, k, rfl, hk, fun c => ?_⟩
      rw [mskL_cons, List.getElem?_append_left (by rw [hl]; exact hk), Nat.add_zero]
      cases hc : c j with
      | true => rfl
      | false => simp [hk]
    · rw [mskL_cons, List.length_append, cond_true] at h
      obtain ⟨j', Δ', q, h1, h2, h3⟩ := mskL_at pl (j + 1) (k - Δ.length) (by omega)
      refine ⟨j' + 1, Δ', q, by simpa using h1, h2, fun c => ?_⟩
      rw [mskL_cons, List.getElem?_append_right (by rw [hl]; exact hk), hl, h3 c, show j + 1 + j' = j + (j' + 1) by omega]
theorem mskL_len {c c' : Nat → Bool} : ∀ (pl : List Sto) (j : Nat), (mskL c j pl).length = (mskL c' j pl).length
  | [], j => rfl
  | Δ :: pl, j => by
    have hl : ∀ c : Nat → Bool, (bif c j then Δ else Δ.map fun _ => SObj.dead).length = Δ.length := by intro c; cases c j <;> simp
    rw [mskL_cons, mskL_cons, List.length_append, List.length_append, hl, hl, mskL_len pl]
theorem mskL_append {c : Nat → Bool} : ∀ (pl pl' : List Sto) (j : Nat), mskL c j (pl ++ pl') = mskL c j pl ++ mskL c (j + pl.length) pl'
  | [], pl', j => rfl
  | Δ :: pl, pl', j => by
    rw [List.cons_append, mskL_cons, mskL_cons, mskL_append pl, List.append_assoc, List.length_cons, show j + 1 + pl.length = j + (pl.length + 1) by omega]
theorem mskL_congr {c c' : Nat → Bool} : ∀ (pl : List Sto) (j : Nat), (∀ i, i < pl.length → c (j + i) = c' (j + i)) → mskL c j pl = mskL c' j pl
  | [], j, h => rfl
  | Δ :: pl, j, h => by
    have h0 := h 0 (by simp)
    rw [Nat.add_zero] at h0
    have h1 : mskL c (j + 1) pl = mskL c' (j + 1) pl := mskL_congr pl (j + 1) fun i hi => by
      have := h (i + 1) (by simpa using hi)
      rw [show j + (i + 1) = j + 1 + i by omega] at this
      exact this
    rw [mskL_cons, mskL_cons, h0, h1]
theorem mskL_congr' {c c' : Nat → Bool} : ∀ (pl : List Sto) (j : Nat), (∀ (i : Nat) (Δ : Sto), pl[i]? = some Δ → Δ ≠ [] → c (j + i) = c' (j + i)) → mskL c j pl = mskL c' j pl
  | [], j, h => rfl
  | Δ :: pl, j, h => by
    have h1 : mskL c (j + 1) pl = mskL c' (j + 1) pl := mskL_congr' pl (j + 1) fun i Δ' hi hne => by
      have := h (i + 1) Δ' (by simpa using hi) hne
      rw [show j + (i + 1) = j + 1 + i by omega] at this
      exact this
    rw [mskL_cons, mskL_cons, h1]
    cases Δ with
    | nil => cases c j <;> cases c' j <;> rfl
    | cons o Δ =>
      have h0 := h 0 (o :: Δ) rfl (by simp)
      rw [Nat.add_zero] at h0
      rw [h0]
theorem Rel.deads (r : Rel own F w σ) {τ : Sto} (h : ∀ o ∈ τ, o = .dead) : Rel own F w (σ ++ τ) := by
  refine ⟨fun k hk => r.unb k (by rw [List.length_append] at hk; omega), r.inj, r.sep, r.fb, r.lb, fun k o ho => ?_⟩
  rcases Nat.lt_or_ge k σ.length with hk | hk
  · rw [List.getElem?_append_left hk] at ho
    exact r.obj k o ho
  · rw [List.getElem?_append_right hk] at ho
    rw [h o (List.mem_of_getElem? ho)]
    trivial
structure DC (cc : Nat → Nat → Bool) (P : Program) (ops : Array Oper) (m : Nat) (σ : Sto) (Q : Exit → Act → World → Prop) (E : Env) (val : Nat → SV) (pl : List Sto) (W : List Nat) (σs : Nat → Sto) : Prop where
  hm : m ≤ ops.size
  dlt : ∀ i o, ops[i]? = some o → ∀ j ∈ depsOf o, j < i
  rd : ∀ i o, i < m → ops[i]? = some o → ∀ t ∈ readsOf ops.toList o, ∀ j oj, j < m → ops[j]? = some oj → oj.dst = some t → j ∈ depsOf o
  cov : ∀ i o, m ≤ i → ops[i]? = some o → cover ops.toList i (depsOf o) = true
  ev : ∀ i o d, i < m → ops[i]? = some o → o.dst = some d → E d = val i
  len : pl.length = m
  base : ∀ o ∈ σ, ∀ x ∈ o.cellsV, bdS (fun k => Nat.blt k σ.length) 4 x = true
  fact : ∀ i o Δ, i < m → ops[i]? = some o → pl[i]? = some Δ → W.contains i = false → FactX cc P ops σ Q i o E (val i) Δ (pl.take i)
  cw : ∀ i j, cc i j = true → depC ops.toList i j = true
  s0 : σs 0 = σ ++ mskL (fun _ => true) 0 pl
  sl : ∀ k, k ≤ W.length → σ.length ≤ (σs k).length
  wlt : ∀ (k w : Nat), W[k]? = some w → w < m
  wch : ∀ (k k' w w' : Nat), k < k' → W[k]? = some w → W[k']? = some w' → w ≠ w' ∧ depB ops.toList (w' + 1) w' w = true
  wps : ∀ (k w j : Nat) (Δ : Sto), W[k]? = some w → pl[j]? = some Δ → Δ ≠ [] → depB ops.toList (w + 1) w j = true
  wnl : ∀ (k w : Nat), W[k]? = some w → pl[w]? = some []
  wf : ∀ (k w : Nat), W[k]? = some w → ∃ o, ops[w]? = some o ∧ FactW P ops (σs k) (σs (k + 1)) Q w o E ∧ (σs k).length ≤ (σs (k + 1)).length ∧
    ∀ j o, j < m → ops[j]? = some o → W.contains j = false → depB ops.toList (w + 1) w j = false → ∃ d, o.dst = some d ∧ FactP P ops (σs (k + 1)) [] Q j o E (E d)
structure DI (ops : Array Oper) (m : Nat) (σ : Sto) (E : Env) (pl : List Sto) (W : List Nat) (σs : Nat → Sto) (N : Nat) (own0 : Nat → Own) (F0 : Nat → Prop) (w0 : World) (a0 : Act) (M : List Nat)
    (listed : Array Bool) (own : Nat → Own) (F : Nat → Prop) (w : World) (a : Act) (p : Nat) : Prop where
  sz : listed.size = ops.size
  cl : ∀ i o, ops[i]? = some o → listed.getD i true = true → ∀ j ∈ depsOf o, listed.getD j true = true
  un : ∀ i, m ≤ i → i < ops.size → listed.getD i true = false
  pw : p ≤ W.length
  ph : ∀ (k w : Nat), W[k]? = some w → (listed.getD w true = true ↔ k < p)
  rel0 : p = 0 → Rel own F w (σ ++ mskL (fun j => listed.getD j true) 0 pl)
  relp : p ≠ 0 → Rel own F w (σs p)
  nof : p = 0 → ∀ k, σ.length ≤ k → (σ ++ mskL (fun j => listed.getD j true) 0 pl)[k]? = some .dead → own k = .no
  ext : Ext σ.length own0 F0 w0 own F w
  tsz : a.tmps.size = N
  dfr : a.defers = a0.defers
  same : Same M a0 a
  tm : ∀ t, (∀ j o, j < m → ops[j]? = some o → o.dst = some t → listed.getD j true = true) → VS own F w (E t) (a.tmps.getD t undef)
theorem depB_listed {ops : Array Oper} {listed : Array Bool} (cl : ∀ i o, ops[i]? = some o → listed.getD i true = true → ∀ j ∈ depsOf o, listed.getD j true = true) (j : Nat) : ∀ (f i : Nat), (∀ o, ops[i]? = some o → ∀ k ∈ depsOf o, listed.getD k true = true) → depB ops.toList f i j = true → listed.getD j true = true
  | 0, i, h, hd => by simp [depB] at hd
  | f + 1, i, h, hd => by
    unfold depB at hd
    rw [nth_eq, Array.getElem?_toList] at hd
    cases ho : ops[i]? with
    | none => rw [ho] at hd; simp at hd
    | some o =>
      rw [ho] at hd
      obtain ⟨k, hk, hq⟩ := List.any_eq_true.1 hd
      have hl := h o ho k hk
      simp only [Bool.or_eq_true, Bool.and_eq_true] at hq
      rcases hq with hq | ⟨_, hq⟩
      · rw [← Nat.eq_of_beq_eq_true hq]; exact hl
      · exact depB_listed cl j f k (fun o' ho' => cl k o' ho' hl) hq
theorem mem_depsOf {o : Oper} {j : Nat} : j ∈ depsOf o ↔ ∃ e ∈ o.after, Region.binds .any e = true ∧ e.on = j := by
  unfold depsOf
  simp [List.mem_map, List.mem_filter]
  constructor
  · rintro ⟨e, ⟨h1, h2⟩, h3⟩; exact ⟨e, by simpa using h1, h2, h3⟩
  · rintro ⟨e, h1, h2, h3⟩; exact ⟨e, ⟨by simpa using h1, h2⟩, h3⟩
theorem ready_iff {ops : Array Oper} {listed : Array Bool} (hsz : listed.size = ops.size) {i : Nat} (hd : ∀ o, ops[i]? = some o → ∀ j ∈ depsOf o, j < i) :
    i ∈ Region.ready .any ops listed ↔ listed.getD i true = false ∧ ∃ o, ops[i]? = some o ∧ ∀ j ∈ depsOf o, listed.getD j true = true := by
  rw [mem_ready]
  constructor
  · rintro ⟨h1, o, ho, h2⟩
    refine ⟨h1, o, ho, fun j hj => ?_⟩
    obtain ⟨e, he, hb, rfl⟩ := mem_depsOf.1 hj
    have := h2 e he hb
    simp only [Array.getD_eq_getD_getElem?] at this ⊢
    cases hq : listed[e.on]? with
    | none => rfl
    | some b => rw [hq] at this; exact this
  · rintro ⟨h1, o, ho, h2⟩
    refine ⟨h1, o, ho, fun e he hb => ?_⟩
    have hj := mem_depsOf.2 ⟨e, he, hb, rfl⟩
    have hlt := hd o ho _ hj
    have hi : i < ops.size := (Array.getElem?_eq_some_iff.1 ho).1
    have := h2 _ hj
    simp only [Array.getD_eq_getD_getElem?, Array.getElem?_eq_getElem (show e.on < listed.size by omega)] at this ⊢
    exact this
theorem cover_all {ops : Array Oper} {listed : Array Bool} (cl : ∀ i o, ops[i]? = some o → listed.getD i true = true → ∀ j ∈ depsOf o, listed.getD j true = true) :
    ∀ (j : Nat) (s : List Nat), cover ops.toList j s = true → (∀ x ∈ s, listed.getD x true = true) → ∀ k, k < j → listed.getD k true = true
  | 0, _, _, _, k, hk => by omega
  | j + 1, s, h, hs, k, hk => by
    simp only [cover, Bool.and_eq_true, List.contains_iff_mem] at h
    have hj := hs j h.1
    by_cases hkj : k = j
    · rw [hkj]; exact hj
    · refine cover_all cl j _ h.2 ?_ k (by omega)
      intro x hx
      rcases List.mem_append.1 hx with hx | hx
      · split at hx
        · rename_i o ho
          rw [nth_eq, Array.getElem?_toList] at ho
          exact cl j o ho hj x hx
        · simp at hx
      · exact hs x hx
theorem getD_set {listed : Array Bool} {i j : Nat} (hi : i < listed.size) : (listed.setIfInBounds i true).getD j true = true ↔ j = i ∨ listed.getD j true = true := by
  simp only [Array.getD_eq_getD_getElem?, Array.getElem?_setIfInBounds]
  by_cases h : i = j
  · subst h; simp [hi]
  · rw [if_neg h]; simp [Ne.symm h]
theorem getD_set_f {listed : Array Bool} {i j : Nat} (hi : i < listed.size) (h : (listed.setIfInBounds i true).getD j true = false) : j ≠ i ∧ listed.getD j true = false := by
  have := (not_congr (getD_set (j := j) hi)).1 (by rw [h]; simp)
  simp only [not_or, Bool.not_eq_true] at this
  exact this
theorem wpAny_tail {ro : Option Nat} {nn : Nat} {ops : Array Oper} {m : Nat} (dlt : ∀ i o, ops[i]? = some o → ∀ j ∈ depsOf o, j < i) (cov : ∀ i o, m ≤ i → ops[i]? = some o → cover ops.toList i (depsOf o) = true) :
    ∀ (fuel p : Nat) (listed : Array Bool) (a : Act) (w : World), m ≤ p → p ≤ ops.size → ops.size - p ≤ fuel → listed.size = ops.size → (∀ i, i < p → listed.getD i true = true) → (∀ i, p ≤ i → i < ops.size → listed.getD i true = false) →
      wpOpsIn (Fw ro) nn P ops Q (List.range' p (ops.size - p)) a w → wpAnyIn (Fw ro) nn P .any ops Q fuel listed a w := by
  have noready : ∀ (listed : Array Bool), (∀ i, i < ops.size → listed.getD i true = true) → Region.ready .any ops listed = [] := by
    intro listed h
    rw [List.eq_nil_iff_forall_not_mem]
    intro i hi
    obtain ⟨h1, o, ho, _⟩ := mem_ready.1 hi
    rw [h i (Array.getElem?_eq_some_iff.1 ho).1] at h1
    simp at h1
  intro fuel
  induction fuel with
  | zero =>
    intro p listed a w hmp hp hf hsz hl hu h
    have : p = ops.size := by omega
    subst this
    refine ⟨noready listed hl, ?_⟩
    simpa [wpOpsIn] using h
  | succ fuel ih =>
    intro p listed a w hmp hp hf hsz hl hu h
    have rdy : ∀ i ∈ Region.ready .any ops listed, i = p := by
      intro i hi
      have hi' := hi
      obtain ⟨_, o, ho, _⟩ := mem_ready.1 hi'
      obtain ⟨h1, o', ho', h2⟩ := (ready_iff hsz (dlt i)).1 hi
      rw [ho] at ho'; cases ho'
      have hip : p ≤ i := by
        rcases Nat.lt_or_ge i p with h' | h'
        · rw [hl i h'] at h1; simp at h1
        · exact h'
      have cl : ∀ i o, ops[i]? = some o → listed.getD i true = true → ∀ j ∈ depsOf o, listed.getD j true = true := by
        intro i o ho h3 j hj
        have hlt : i < ops.size := (Array.getElem?_eq_some_iff.1 ho).1
        have := dlt i o ho j hj
        refine hl j ?_
        rcases Nat.lt_or_ge i p with h' | h'
        · omega
        · rw [hu i h' hlt] at h3; simp at h3
      have := cover_all cl i _ (cov i o (by omega) ho) h2
      rcases Nat.lt_or_ge p i with h' | h'
      · have h4 := this p h'
        rw [hu p (Nat.le_refl _) (by have := (Array.getElem?_eq_some_iff.1 ho).1; omega)] at h4
        simp at h4
      · omega
    by_cases hpn : p = ops.size
    · subst hpn
      refine ⟨fun _ => by simpa [wpOpsIn] using h, fun i hi => ?_⟩
      rw [noready listed hl] at hi
      simp at hi
    · have hlt : p < ops.size := by omega
      have hpr : p ∈ Region.ready .any ops listed := by
        refine (ready_iff hsz (dlt p)).2 ⟨hu p (Nat.le_refl _) hlt, ops[p], Array.getElem?_eq_getElem hlt, fun j hj => hl j (dlt p _ (Array.getElem?_eq_getElem hlt) j hj)⟩
      refine ⟨fun e => by rw [e] at hpr; simp at hpr, fun i hi => ?_⟩
      have := rdy i hi
      subst this
      have hr : List.range' i (ops.size - i) = i :: List.range' (i + 1) (ops.size - (i + 1)) := by
        rw [show ops.size - i = (ops.size - (i + 1)) + 1 by omega, List.range'_succ]
      rw [hr, wpOpsIn_cons] at h
      refine wpOpIn_mono (fun a' w' h' => ih (i + 1) _ a' w' (by omega) (by omega) (by omega) (by simpa using hsz) ?_ ?_ h') h
      · intro j hj
        rw [getD_set (by omega)]
        rcases Nat.lt_or_ge j i with h' | h'
        · exact .inr (hl j h')
        · exact .inl (by omega)
      · intro j hj hjn
        rw [getD_set_ne true (by omega)]
        exact hu j (by omega) hjn
theorem draw_run {ro : Option Nat} {nn : Nat} {cc : Nat → Nat → Bool} {ops : Array Oper} {m : Nat} {E : Env} {val : Nat → SV} {pl : List Sto} {W : List Nat} {σs : Nat → Sto} {own0 : Nat → Own} {F0 : Nat → Prop} {w0 : World} {a0 : Act} {M : List Nat} (c : DC cc P ops m σ Q E val pl W σs)
    (hdN : ∀ o ∈ ops.toList, ∀ d, o.dst = some d → d < N) (hM : ∀ o ∈ ops.toList, ∀ d, o.dst = some d → d ∈ M)
    (fin : ∀ (listed : Array Bool) own F w a p, DI ops m σ E pl W σs N own0 F0 w0 a0 M listed own F w a p → (∀ i, i < m → listed.getD i true = true) → wpOpsIn (Fw ro) nn P ops Q (List.range' m (ops.size - m)) a w) :
    ∀ (fuel : Nat) (L : List Nat) (listed : Array Bool) own F w a p, L.length + (ops.size - m) ≤ fuel → (∀ i, i < m → listed.getD i true = false → i ∈ L) → DI ops m σ E pl W σs N own0 F0 w0 a0 M listed own F w a p → wpAnyIn (Fw ro) nn P .any ops Q fuel listed a w := by
  intro fuel
  induction fuel with
  | zero =>
    intro L listed own F w a p hL hun di
    have : L = [] := by cases L with | nil => rfl | cons => simp at hL
    subst this
    have hall : ∀ i, i < m → listed.getD i true = true := by
      intro i hi
      cases hq : listed.getD i true with
      | true => rfl
      | false => have := hun i hi hq; simp at this
    exact wpAny_tail c.dlt c.cov 0 m listed a w (Nat.le_refl _) c.hm (by omega) di.sz hall di.un (fin listed own F w a p di hall)
  | succ fuel ih =>
    intro L listed own F w a p hL hun di
    by_cases hall : ∀ i, i < m → listed.getD i true = true
    · exact wpAny_tail c.dlt c.cov (fuel + 1) m listed a w (Nat.le_refl _) c.hm (by omega) di.sz hall di.un (fin listed own F w a p di hall)
    · have hex : ∃ i, i < m ∧ listed.getD i true = false := by
        apply Classical.byContradiction
        intro h
        apply hall
        intro i hi
        cases hq : listed.getD i true with
        | true => rfl
        | false => exact absurd ⟨i, hi, hq⟩ h
      have hm := c.hm
      have rlt : ∀ i ∈ Region.ready .any ops listed, i < m := by
        intro i hi
        obtain ⟨h1, o, ho, h2⟩ := (ready_iff di.sz (c.dlt i)).1 hi
        rcases Nat.lt_or_ge i m with h | h
        · exact h
        · obtain ⟨k, hk, hk2⟩ := hex
          have := cover_all di.cl i _ (c.cov i o h ho) h2 k (by omega)
          rw [hk2] at this; simp at this
      have hne : Region.ready .any ops listed ≠ [] := by
        have key : ∀ n i, i ≤ n → i < m → listed.getD i true = false → ∃ j, j ∈ Region.ready .any ops listed := by
          intro n
          induction n with
          | zero =>
            intro i hi him hf
            have : i = 0 := by omega
            subst this
            exact ⟨0, (ready_iff di.sz (c.dlt 0)).2 ⟨hf, ops[0], Array.getElem?_eq_getElem (by omega), fun j hj => by have := c.dlt 0 _ (Array.getElem?_eq_getElem (by omega)) j hj; omega⟩⟩
          | succ n ihn =>
            intro i hi him hf
            by_cases hd : ∀ j ∈ depsOf ops[i], listed.getD j true = true
            · exact ⟨i, (ready_iff di.sz (c.dlt i)).2 ⟨hf, ops[i], Array.getElem?_eq_getElem (by omega), hd⟩⟩
            · have : ∃ j, j ∈ depsOf ops[i] ∧ listed.getD j true = false := by
                apply Classical.byContradiction
                intro h
                apply hd
                intro j hj
                cases hq : listed.getD j true with
                | true => rfl
                | false => exact absurd ⟨j, hj, hq⟩ h
              obtain ⟨j, hj, hjf⟩ := this
              have := c.dlt i _ (Array.getElem?_eq_getElem (by omega)) j hj
              exact ihn j (by omega) (by omega) hjf
        obtain ⟨i, hi, hf⟩ := hex
        obtain ⟨j, hj⟩ := key i i (Nat.le_refl _) hi hf
        intro e
        rw [e] at hj
        simp at hj
      refine ⟨fun e => absurd e hne, fun i hi => ?_⟩
      have him := rlt i hi
      obtain ⟨h1, o, ho, h2⟩ := (ready_iff di.sz (c.dlt i)).1 hi
      have hlt : i < ops.size := (Array.getElem?_eq_some_iff.1 ho).1
      have hmem : o ∈ ops.toList := by rw [Array.mem_toList_iff]; exact Array.mem_of_getElem? ho
      -- the next state
      have hunL : (L.erase i).length + (ops.size - m) ≤ fuel := by
        have := List.length_erase_of_mem (hun i him h1)
        have := List.length_pos_of_mem (hun i him h1)
        omega
      have hset0 : ∀ j, (listed.setIfInBounds i true).getD j true = true ↔ j = i ∨ listed.getD j true = true := fun j => getD_set (by rw [di.sz]; exact hlt)
      have hunS : ∀ j, j < m → (listed.setIfInBounds i true).getD j true = false → j ∈ L.erase i := by
        intro j hj hjf
        obtain ⟨h3, h4⟩ := getD_set_f (by rw [di.sz]; exact hlt) hjf
        exact (List.mem_erase_of_ne h3).2 (hun j hj h4)
      have hclS : ∀ k ok, ops[k]? = some ok → (listed.setIfInBounds i true).getD k true = true → ∀ j ∈ depsOf ok, (listed.setIfInBounds i true).getD j true = true := by
        intro k ok hok hk j hj
        rw [hset0] at hk ⊢
        rcases hk with rfl | hk
        · rw [ho] at hok; cases hok
          exact .inr (h2 j hj)
        · exact .inr (di.cl k ok hok hk j hj)
      have hunU : ∀ k, m ≤ k → k < ops.size → (listed.setIfInBounds i true).getD k true = false := by
        intro k hk hkn
        have h3 := di.un k hk hkn
        cases hq : (listed.setIfInBounds i true).getD k true with
        | false => rfl
        | true =>
          rcases (hset0 k).1 hq with h | h
          · omega
          · rw [h3] at h; exact nomatch h
      have hgetS : ∀ (mv : Value) (t : Nat), o.dst = some t → (a.put o.dst mv).tmps.getD t undef = mv := by
        intro mv t hto
        rw [hto]
        simp [Act.put, Array.getD_eq_getD_getElem?, Array.getElem?_setIfInBounds, di.tsz, hdN o hmem t hto]
      have hgetO : ∀ (mv : Value) (t : Nat), o.dst ≠ some t → (a.put o.dst mv).tmps.getD t undef = a.tmps.getD t undef := by
        intro mv t hto
        cases hd : o.dst with
        | none => rfl
        | some d =>
          have hdt : d ≠ t := fun e => hto (by rw [hd, e])
          simp [Act.put, Array.getD_eq_getD_getElem?, Array.getElem?_setIfInBounds, hdt]
      have htmO : ∀ (t : Nat), o.dst ≠ some t → (∀ j oj, j < m → ops[j]? = some oj → oj.dst = some t → (listed.setIfInBounds i true).getD j true = true) → VS own F w (E t) (a.tmps.getD t undef) := by
        intro t hto htw
        refine di.tm t fun j oj hj hoj hdj => ?_
        have h3 := htw j oj hj hoj hdj
        rw [hset0] at h3
        rcases h3 with rfl | h3
        · rw [ho] at hoj; cases hoj; exact absurd hdj hto
        · exact h3
      cases hWi : W.contains i with
      | true =>
        -- a write
        obtain ⟨k, hk⟩ := List.getElem?_of_mem (by simpa using hWi : i ∈ W)
        have hnk : ¬ k < p := fun h => by have := (di.ph k i hk).2 h; rw [h1] at this; exact nomatch this
        have hkp : k = p := by
          rcases Nat.lt_or_ge p k with h | h
          · have hpl' : p < W.length := by have := (List.getElem?_eq_some_iff.1 hk).1; omega
            have hwp := List.getElem?_eq_getElem hpl'
            have h3 := (c.wch p k _ i h hwp hk).2
            have h4 := depB_listed di.cl _ _ i (fun o' ho' => by rw [ho] at ho'; cases ho'; exact h2) h3
            have := (di.ph p _ hwp).1 h4
            omega
          · omega
        subst hkp
        obtain ⟨o', ho', hfw, hle, _⟩ := c.wf k i hk
        rw [ho] at ho'; cases ho'
        have hrel : Rel own F w (σs k) := by
          by_cases hp : k = 0
          · have := di.rel0 hp
            rw [hp, c.s0]
            have e : mskL (fun j => listed.getD j true) 0 pl = mskL (fun _ => true) 0 pl := mskL_congr' _ _ fun j Δ hj hne => by
              rw [Nat.zero_add]
              exact depB_listed di.cl _ _ i (fun o' ho' => by rw [ho] at ho'; cases ho'; exact h2) (c.wps k i j Δ hk hj hne)
            rw [← e]; exact this
          · exact di.relp hp
        refine hfw ro nn own F w a _ hrel (fun t ht => di.tm t fun j oj hj hoj hdj => h2 j (c.rd i o him ho t ht j oj hj hoj hdj)) ?_
        intro own' F' w' mv ex r' hvv
        refine ih (L.erase i) _ own' F' w' _ (k + 1) hunL hunS ⟨by simpa using di.sz, hclS, hunU, (List.getElem?_eq_some_iff.1 hk).1, fun k' w1 hk' => ?_, fun h => absurd h (by omega), fun _ => r', fun h => absurd h (by omega), di.ext.trans (ex.mono (c.sl k di.pw)), ?_, ?_, di.same.trans (Same.put a (hM o hmem) mv), fun t htw => ?_⟩
        · rw [hset0, di.ph k' w1 hk']
          constructor
          · rintro (h | h)
            · subst h
              rcases Nat.lt_trichotomy k' k with h3 | h3 | h3
              · exact absurd rfl (c.wch k' k _ _ h3 hk' hk).1
              · omega
              · exact absurd rfl (c.wch k k' _ _ h3 hk hk').1
            · omega
          · intro h
            rcases Nat.eq_or_lt_of_le (Nat.le_of_lt_succ h) with h3 | h3
            · subst h3
              rw [hk] at hk'
              injection hk' with hk'
              exact .inl hk'.symm
            · exact .inr h3
        · cases hd' : o.dst <;> simp [Act.put, di.tsz]
        · cases hd' : o.dst <;> exact di.dfr
        · by_cases hto : o.dst = some t
          · rw [hgetS mv t hto]; exact hvv t hto
          · rw [hgetO mv t hto]
            exact (htmO t hto htw).ext hrel ex
      | false =>
      have hWne : ∀ (k' w1 : Nat), W[k']? = some w1 → w1 ≠ i := by
        rintro k' w1 hk' rfl
        have : W.contains w1 = true := by simpa using List.mem_of_getElem? hk'
        rw [hWi] at this
        exact nomatch this
      have hphS : ∀ (k' w1 : Nat), W[k']? = some w1 → ((listed.setIfInBounds i true).getD w1 true = true ↔ k' < p) := by
        intro k' w1 hk'
        rw [hset0, di.ph k' w1 hk']
        constructor
        · rintro (h | h)
          · exact absurd h (hWne k' w1 hk')
          · exact h
        · exact .inr
      by_cases hp : p = 0
      case neg =>
        -- behind a write
        have hp1 : p - 1 < W.length := by have := di.pw; omega
        have hwp := List.getElem?_eq_getElem hp1
        have hwl := (di.ph (p - 1) _ hwp).2 (by omega)
        obtain ⟨ow, how, _, _, hlate⟩ := c.wf (p - 1) _ hwp
        have hnd : depB ops.toList (W[p - 1] + 1) W[p - 1] i = false := by
          cases hq : depB ops.toList (W[p - 1] + 1) W[p - 1] i with
          | false => rfl
          | true =>
            have := depB_listed di.cl _ _ _ (fun o' ho' => di.cl _ o' ho' hwl) hq
            rw [h1] at this
            exact nomatch this
        obtain ⟨d, hd, hfp⟩ := hlate i o him ho hWi hnd
        rw [show p - 1 + 1 = p by omega] at hfp
        refine hfp ro nn own F w a _ (di.relp hp) (fun t ht => di.tm t fun j oj hj hoj hdj => h2 j (c.rd i o him ho t ht j oj hj hoj hdj)) ?_
        intro own' F' w' mv ex r' hv
        rw [List.append_nil] at r'
        refine ih (L.erase i) _ own' F' w' _ p hunL hunS ⟨by simpa using di.sz, hclS, hunU, di.pw, hphS, fun h => absurd h hp, fun _ => r', fun h => absurd h hp, di.ext.trans (ex.mono (c.sl p di.pw)), ?_, ?_, di.same.trans (Same.put a (hM o hmem) mv), fun t htw => ?_⟩
        · cases hd' : o.dst <;> simp [Act.put, di.tsz]
        · cases hd' : o.dst <;> exact di.dfr
        · by_cases hto : o.dst = some t
          · rw [hgetS mv t hto]
            rw [hd] at hto
            injection hto with hto
            rw [← hto]; exact hv
          · rw [hgetO mv t hto]
            exact (htmO t hto htw).ext (di.relp hp) ex
      case pos =>
      have hpi : pl[i]? = some (pl[i]'(by rw [c.len]; exact him)) := List.getElem?_eq_getElem (by rw [c.len]; exact him)
      obtain ⟨Δ, hΔ⟩ : ∃ Δ, pl[i]? = some Δ := ⟨_, hpi⟩
      have fx := c.fact i o Δ him ho hΔ hWi
      have hlt' : (pl.take i).length = i := by rw [List.length_take, c.len]; omega
      have hfo := fx.opd
      have hfv := fx.val
      have hff := fx.fact
      rw [hlt'] at hfo hfv hff
      obtain ⟨D, hD⟩ : ∃ D, D = cc i := ⟨_, rfl⟩
      rw [← hD] at hfo hfv hff
      have hDl : ∀ j, D j = true → listed.getD j true = true := by
        intro j hj
        rw [hD] at hj
        exact depB_listed di.cl j _ i (fun o' ho' => by rw [ho] at ho'; cases ho'; exact h2) (c.cw i j hj)
      -- the whole, in three parts
      have hpl : pl = pl.take i ++ Δ :: pl.drop (i + 1) := by
        have h3 : pl.drop i = Δ :: pl.drop (i + 1) := by
          have h4 : i < pl.length := by rw [c.len]; exact him
          rw [List.drop_eq_getElem_cons h4]
          rw [List.getElem?_eq_getElem h4] at hΔ
          injection hΔ with hΔ
          rw [hΔ]
        rw [← h3, List.take_append_drop]
      have hm3 : ∀ cc : Nat → Bool, mskL cc 0 pl = mskL cc 0 (pl.take i) ++ ((bif cc i then Δ else Δ.map fun _ => SObj.dead) ++ mskL cc (i + 1) (pl.drop (i + 1))) := by
        intro cc
        conv => lhs; rw [hpl]
        rw [mskL_append, hlt', Nat.zero_add, mskL_cons]
      have hblen : ∀ cc : Nat → Bool, (bif cc i then Δ else Δ.map fun _ => SObj.dead).length = Δ.length := by intro cc; cases cc i <;> simp
      obtain ⟨σB, hσB⟩ : ∃ σB, σB = σ ++ mskL D 0 (pl.take i) := ⟨_, rfl⟩
      rw [← hσB] at hfo hfv hff
      have hBl : ∀ cc : Nat → Bool, σB.length = σ.length + (mskL cc 0 (pl.take i)).length := by intro cc; rw [hσB, List.length_append, mskL_len (c := D) (c' := cc)]
      obtain ⟨A, hA⟩ : ∃ A, A = aliv σ.length σB := ⟨_, rfl⟩
      rw [← hA] at hfo
      have hAi : ∀ k, A k = true ↔ k < σ.length ∨ ∃ o, σB[k]? = some o ∧ o ≠ .dead := by
        intro k
        rw [hA]
        unfold aliv
        rw [Bool.or_eq_true, nth_eq]
        constructor
        · rintro (h | h)
          · exact .inl (Nat.le_of_ble_eq_true h)
          · split at h
            · simp at h
            · rename_i o' hn ho'
              exact .inr ⟨o', ho', fun e => hn e⟩
            · simp at h
        · rintro (h | ⟨o', ho', hne⟩)
          · exact .inl (Nat.ble_eq_true_of_le h)
          · refine .inr ?_
            rw [ho']
            cases o' <;> first | rfl | exact absurd rfl hne
      have hAlt : ∀ k, A k = true → k < σB.length := by
        intro k hk
        rcases (hAi k).1 hk with h | ⟨o', ho', _⟩
        · have := hBl D; omega
        · exact (List.getElem?_eq_some_iff.1 ho').1
      have hbase : ∀ (B : Nat → Bool), (∀ k, k < σ.length → B k = true) → ∀ o ∈ σ, ∀ x ∈ o.cellsV, bdS B 4 x = true := fun B hB o' ho' x hx => bdS_mono (fun k hk => hB k (Nat.le_of_ble_eq_true hk)) 4 x (c.base o' ho' x hx)
      -- an object among those that were put there
      have hat : ∀ k, σ.length ≤ k → k < σB.length → ∃ (j : Nat) (Δj : Sto) (q : Nat) (oj : SObj), j < i ∧ pl[j]? = some Δj ∧ Δj[q]? = some oj ∧ isoO oj = true ∧ σB[k]? = (if D j = true then some oj else some .dead) ∧
          ∀ (cc : Nat → Bool) (τ : Sto), (σ ++ (mskL cc 0 (pl.take i) ++ τ))[k]? = (if cc j = true then some oj else some .dead) := by
        intro k hk hkl
        have hq : k - σ.length < (mskL (fun _ => true) 0 (pl.take i)).length := by have := hBl fun _ => true; omega
        obtain ⟨j, Δj, q, g1, g2, g3⟩ := mskL_at (pl.take i) 0 (k - σ.length) hq
        have hji : j < i := by have := (List.getElem?_eq_some_iff.1 g1).1; omega
        have hpj : pl[j]? = some Δj := by rw [List.getElem?_take_of_lt hji] at g1; exact g1
        have hjm : j < m := by omega
        obtain ⟨oo, hoo⟩ : ∃ oo, ops[j]? = some oo := ⟨_, Array.getElem?_eq_getElem (by omega)⟩
        have hWj : W.contains j = false := by
          cases hq : W.contains j with
          | false => rfl
          | true =>
            obtain ⟨k', hk'⟩ := List.getElem?_of_mem (by simpa using hq : j ∈ W)
            have := c.wnl k' j hk'
            rw [hpj] at this
            injection this with this
            subst this
            simp at g2
        have hiso := (c.fact j oo Δj hjm hoo hpj hWj).iso
        refine ⟨j, Δj, q, Δj[q], hji, hpj, List.getElem?_eq_getElem g2, List.all_eq_true.1 hiso _ (List.getElem_mem _), ?_, fun cc τ => ?_⟩
        · rw [hσB, List.getElem?_append_right hk, g3 D, Nat.zero_add, List.getElem?_eq_getElem g2]
        · have hc : k - σ.length < (mskL cc 0 (pl.take i)).length := by rw [mskL_len (c := cc) (c' := fun _ => true)]; exact hq
          rw [List.getElem?_append_right hk, List.getElem?_append_left hc, g3 cc, Nat.zero_add, List.getElem?_eq_getElem g2]
      have hrel := di.rel0 hp
      have hnof := di.nof hp
      rw [hm3] at hrel hnof
      have hli : listed.getD i true = false := h1
      have part : Rel (ownA own A) F w σB := by
        refine hrel.part hAlt fun k o' hk => ?_
        rcases Nat.lt_or_ge k σ.length with hks | hks
        · right
          have h5 : σ[k]? = some o' := by rw [hσB, List.getElem?_append_left hks] at hk; exact hk
          exact ⟨(hAi k).2 (.inl hks), by rw [List.getElem?_append_left hks]; exact h5, hbase A (fun k hk => (hAi k).2 (.inl hk)) o' (List.mem_of_getElem? h5)⟩
        · obtain ⟨j, Δj, q, oj, g1, g2, g3, g4, g5, g6⟩ := hat k hks (List.getElem?_eq_some_iff.1 hk).1
          rw [hk] at g5
          cases hDj : D j with
          | false => rw [hDj] at g5; simp at g5; exact .inl g5
          | true =>
            rw [hDj] at g5
            simp at g5
            subst g5
            exact .inr ⟨(hAi k).2 (.inr ⟨o', hk, isoO_ne g4⟩), by rw [g6, if_pos (hDl j hDj)], isoO_bd g4 A⟩
      refine hff ro nn (ownA own A) F w a _ part ?_ ?_
      · intro t ht
        refine bdS_VS (fun _ _ h => h) (fun k hk e p L hL => by rw [ownA_in hk]; exact hL) 4 _ _ (hfo t ht) (di.tm t fun j oj hj hoj hdj => ?_)
        exact h2 j (c.rd i o him ho t ht j oj hj hoj hdj)
      · intro own1 F1 w1 mv ex r1 hv
        have hΔiso : ∀ o' ∈ Δ, isoO o' = true := fun o' h => List.all_eq_true.1 fx.iso o' h
        obtain ⟨A', hA'd⟩ : ∃ A', A' = aliv σ.length (σB ++ Δ) := ⟨_, rfl⟩
        rw [← hA'd] at hfv
        have hA' : ∀ k, A' k = true ↔ A k = true ∨ (σB.length ≤ k ∧ k < σB.length + Δ.length) := by
          intro k
          rw [hA'd]
          unfold aliv
          rw [Bool.or_eq_true, nth_eq, hAi]
          constructor
          · rintro (h | h)
            · exact .inl (.inl (Nat.le_of_ble_eq_true h))
            · split at h
              · simp at h
              · rename_i o' hn ho'
                rcases Nat.lt_or_ge k σB.length with hk | hk
                · rw [List.getElem?_append_left hk] at ho'
                  exact .inl (.inr ⟨o', ho', fun e => hn e⟩)
                · have := (List.getElem?_eq_some_iff.1 ho').1
                  rw [List.length_append] at this
                  exact .inr ⟨hk, this⟩
              · simp at h
          · rintro ((h | ⟨o', ho', hne⟩) | ⟨h3, h4⟩)
            · exact .inl (Nat.ble_eq_true_of_le h)
            · refine .inr ?_
              rw [List.getElem?_append_left (List.getElem?_eq_some_iff.1 ho').1, ho']
              cases o' <;> first | rfl | exact absurd rfl hne
            · refine .inr ?_
              rw [List.getElem?_append_right h3, List.getElem?_eq_getElem (show k - σB.length < Δ.length by omega)]
              have := isoO_ne (hΔiso _ (List.getElem_mem (show k - σB.length < Δ.length by omega)))
              cases hq : Δ[k - σB.length] <;> first | rfl | (rw [hq] at this; exact absurd rfl this)
        obtain ⟨l', hl'⟩ : ∃ l' : Array Bool, l' = listed.setIfInBounds i true := ⟨_, rfl⟩
        have hset : ∀ j, l'.getD j true = true ↔ j = i ∨ listed.getD j true = true := fun j => by rw [hl']; exact getD_set (by rw [di.sz]; exact hlt)
        have hsame : ∀ j, j ≠ i → l'.getD j true = listed.getD j true := by
          intro j hj
          rw [Bool.eq_iff_iff, hset]
          constructor
          · rintro (h | h)
            · exact absurd h hj
            · exact h
          · exact .inr
        have hli' : l'.getD i true = true := (hset i).2 (.inl rfl)
        -- the memory behind it, told by places
        have hCk : ∀ k, (σ ++ mskL (fun j => l'.getD j true) 0 pl)[k]? = if A' k = true then (σB ++ Δ)[k]? else (σ ++ (mskL (fun j => listed.getD j true) 0 (pl.take i) ++ ((bif listed.getD i true then Δ else Δ.map fun _ => SObj.dead) ++ mskL (fun j => listed.getD j true) (i + 1) (pl.drop (i + 1)))))[k]? := by
          intro k
          rw [hm3]
          have hrest : mskL (fun j => l'.getD j true) (i + 1) (pl.drop (i + 1)) = mskL (fun j => listed.getD j true) (i + 1) (pl.drop (i + 1)) := mskL_congr _ _ fun q _ => hsame _ (by omega)
          rw [hrest, hli', hli, cond_true, cond_false]
          rcases Nat.lt_or_ge k σ.length with hks | hks
          · rw [if_pos ((hA' k).2 (.inl ((hAi k).2 (.inl hks)))), List.getElem?_append_left hks, List.getElem?_append_left (by have := hBl D; omega), hσB, List.getElem?_append_left hks]
          · rcases Nat.lt_or_ge k σB.length with hkb | hkb
            · obtain ⟨j, Δj, q, oj, g1, g2, g3, g4, g5, g6⟩ := hat k hks hkb
              rw [g6, g6, List.getElem?_append_left hkb, g5]
              try simp only
              rw [hsame j (by omega)]
              cases hDj : D j with
              | true =>
                rw [hDl j hDj]
                simp
              | false =>
                have : A' k = false := by
                  cases hq : A' k with
                  | false => rfl
                  | true =>
                    rcases (hA' k).1 hq with h | h
                    · rcases (hAi k).1 h with h | ⟨o', ho', hne⟩
                      · omega
                      · rw [g5, hDj] at ho'; simp at ho'; exact absurd ho'.symm hne
                    · omega
                rw [this]
                simp
            · have hb1 := hBl fun j => l'.getD j true
              have hb2 := hBl fun j => listed.getD j true
              rw [List.getElem?_append_right hks, List.getElem?_append_right (by omega), List.getElem?_append_right hkb]
              rw [List.getElem?_append_right hks (l₂ := mskL (fun j => listed.getD j true) 0 (pl.take i) ++ _), List.getElem?_append_right (l₁ := mskL (fun j => listed.getD j true) 0 (pl.take i)) (by omega)]
              have e1 : k - σ.length - (mskL (fun j => l'.getD j true) 0 (pl.take i)).length = k - σB.length := by omega
              have e2 : k - σ.length - (mskL (fun j => listed.getD j true) 0 (pl.take i)).length = k - σB.length := by omega
              rw [e1, e2]
              rcases Nat.lt_or_ge (k - σB.length) Δ.length with hkd | hkd
              · rw [if_pos ((hA' k).2 (.inr ⟨hkb, by omega⟩)), List.getElem?_append_left hkd]
              · have : A' k = false := by
                  cases hq : A' k with
                  | false => rfl
                  | true =>
                    rcases (hA' k).1 hq with h | h
                    · have := hAlt k h; omega
                    · omega
                rw [this, if_neg (by simp), List.getElem?_append_right hkd, List.getElem?_append_right (by simpa using hkd)]
                simp
        have hlenC : (σ ++ mskL (fun j => l'.getD j true) 0 pl).length = (σ ++ (mskL (fun j => listed.getD j true) 0 (pl.take i) ++ ((bif listed.getD i true then Δ else Δ.map fun _ => SObj.dead) ++ mskL (fun j => listed.getD j true) (i + 1) (pl.drop (i + 1))))).length := by
          rw [← hm3, List.length_append, List.length_append, mskL_len (c := fun j => l'.getD j true) (c' := fun j => listed.getD j true)]
        have hlenD : σB.length + Δ.length ≤ (σ ++ mskL (fun j => l'.getD j true) 0 pl).length := by
          have := hBl fun j => l'.getD j true
          have h5 : (bif l'.getD i true then Δ else Δ.map fun _ => SObj.dead).length = Δ.length := hblen fun j => l'.getD j true
          rw [hm3, List.length_append, List.length_append, List.length_append, h5]
          omega
        have hfree : ∀ k, σB.length ≤ k → k < σB.length + Δ.length → own k = .no := by
          intro k hk1 hk2
          have hb2 := hBl fun j => listed.getD j true
          refine hnof k (by omega) ?_
          rw [hli, cond_false, List.getElem?_append_right (by omega), List.getElem?_append_right (by omega), List.getElem?_append_left (by rw [List.length_map]; omega), List.getElem?_map, List.getElem?_eq_getElem (by omega)]
          rfl
        obtain ⟨r3, e3, v3, v4⟩ := hrel.merge (n := σ.length) (σC := σ ++ mskL (fun j => l'.getD j true) 0 pl) hAlt (fun k hk => (hAi k).2 (.inl hk)) r1 ex A' hA' hfree (by omega)
          (fun k hk => by
            rcases (hA' k).1 hk with h | h
            · have := hAlt k h; omega
            · omega)
          (fun k o' hk => by
            rw [hCk] at hk
            cases hAk : A' k with
            | false => rw [hAk, if_neg (by simp)] at hk; exact .inr (.inr ⟨rfl, hk⟩)
            | true =>
              rw [hAk, if_pos rfl] at hk
              refine .inr (.inl ⟨rfl, hk, ?_⟩)
              rcases Nat.lt_or_ge k σB.length with hkb | hkb
              · rw [List.getElem?_append_left hkb] at hk
                rcases Nat.lt_or_ge k σ.length with hks | hks
                · rw [hσB, List.getElem?_append_left hks] at hk
                  exact hbase A' (fun k hk => (hA' k).2 (.inl ((hAi k).2 (.inl hk)))) o' (List.mem_of_getElem? hk)
                · obtain ⟨j, Δj, q, oj, g1, g2, g3, g4, g5, g6⟩ := hat k hks hkb
                  rw [hk] at g5
                  cases hDj : D j with
                  | true => rw [hDj] at g5; simp at g5; subst g5; exact isoO_bd g4 A'
                  | false => rw [hDj] at g5; simp at g5; subst g5; intro x hx; simp [SObj.cellsV] at hx
              · rw [List.getElem?_append_right hkb] at hk
                exact isoO_bd (hΔiso o' (List.mem_of_getElem? hk)) A')
        refine ih (L.erase i) _ (ownM own1 own A') F1 w1 _ p hunL hunS ⟨by simpa using di.sz, hclS, hunU, di.pw, hphS, fun _ => by rw [← hl']; exact r3, fun h => absurd hp h, fun _ => ?_, di.ext.trans e3, ?_, ?_, di.same.trans (Same.put a (hM o hmem) mv), fun t htw => ?_⟩
        · rw [← hl']
          intro k hk hkd
          rw [hCk] at hkd
          cases hAk : A' k with
          | false =>
            rw [hAk, if_neg (by simp)] at hkd
            rw [ownM_out hAk]
            exact hnof k hk hkd
          | true =>
            rw [hAk, if_pos rfl] at hkd
            rcases (hA' k).1 hAk with h | ⟨h3, h4⟩
            · rcases (hAi k).1 h with h | ⟨o', ho', hne⟩
              · omega
              · rw [List.getElem?_append_left (List.getElem?_eq_some_iff.1 ho').1, ho'] at hkd
                injection hkd with hkd
                exact absurd hkd hne
            · rw [List.getElem?_append_right h3] at hkd
              exact absurd rfl (isoO_ne (hΔiso _ (List.mem_of_getElem? hkd)))
        · cases hd : o.dst <;> simp [Act.put, di.tsz]
        · cases hd : o.dst <;> exact di.dfr
        · by_cases hto : o.dst = some t
          · rw [hgetS mv t hto, c.ev i o t him ho hto]
            exact v4 _ _ hfv hv
          · rw [hgetO mv t hto]
            exact v3 _ _ (htmO t hto htw)
theorem drawVC_sound {ro : Option Nat} {nn : Nat} (ht : TabOk P tt) {id : Nat} {ops : Array Oper} {K : Env → Sto → Prop} (hd : ∀ o ∈ ops.toList, ∀ d, o.dst = some d → d < N) (hs : drawVC (ctr P I) tt ops.toList K env σ) (r : Rel own F w σ) (he : ER N own F w env a)
    (hk : Goes N (ops.toList.filterMap (·.dst)) a own F w σ K (Q .normal)) : (Code.region id ops true).wpIn (Fw ro) nn P Q a w := by
  unfold drawVC at hs
  obtain ⟨m, WL, cc, hc, hwk, hcw, hs⟩ := hs
  obtain ⟨W, hW⟩ : ∃ W, W = WL.map (·.1) := ⟨_, rfl⟩
  obtain ⟨hbs, hs⟩ := bif_elim hs
  have hc := hc.out
  have hwk := hwk.out
  unfold wOk at hwk
  rw [Bool.and_eq_true] at hwk
  rw [← hW] at hwk hs
  have hwkA : ∀ w ∈ WL, w.1 < m ∧ ∀ j o, (ops.toList.take m)[j]? = some o → j = w.1 ∨ W.contains j = true ∨ w.2.contains j = true ∨ depB ops.toList (w.1 + 1) w.1 j = true := by
    intro w hw
    have h5 := List.all_eq_true.1 hwk.1 w hw
    rw [Bool.and_eq_true] at h5
    refine ⟨Nat.le_of_ble_eq_true h5.1, fun j o hj => ?_⟩
    have h6 := allIdx_spec h5.2 j o hj
    rw [Nat.zero_add] at h6
    simp only [Bool.or_eq_true] at h6
    rcases h6 with ((h6 | h6) | h6) | h6
    · exact .inl (Nat.eq_of_beq_eq_true h6)
    · exact .inr (.inl h6)
    · exact .inr (.inr (.inl h6))
    · exact .inr (.inr (.inr h6))
  have hWk : ∀ (k w : Nat), W[k]? = some w → ∃ L, WL[k]? = some (w, L) := by
    intro k w hw
    rw [hW, List.getElem?_map, Option.map_eq_some_iff] at hw
    obtain ⟨x, hx, rfl⟩ := hw
    exact ⟨x.2, hx⟩
  have hWlen : W.length = WL.length := by rw [hW, List.length_map]
  unfold drawOk at hc
  simp only [Bool.and_eq_true] at hc
  obtain ⟨hm, hc⟩ := hc
  have hm : m ≤ ops.size := by simpa using Nat.le_of_ble_eq_true hm
  have hc := allIdx_spec hc
  simp only [Nat.zero_add, Array.getElem?_toList] at hc
  have tk : ∀ {j o}, (ops.toList.take m)[j]? = some o ↔ j < m ∧ ops[j]? = some o := by
    intro j o
    rw [List.getElem?_take]
    split
    · rename_i h; simp [h, Array.getElem?_toList]
    · rename_i h; simp [h]
  have hM : ∀ o ∈ ops.toList, ∀ d, o.dst = some d → d ∈ ops.toList.filterMap (·.dst) := fun o ho d hd => List.mem_filterMap.2 ⟨o, ho, hd⟩
  obtain ⟨vs, pl, h1, hpl, h2, hnil, h3⟩ := dops_out (Q := Q) ht (ops := ops) (ops.toList.take m) [] (fun j o h => by rw [List.length_nil, Nat.zero_add]; exact (tk.1 h).2) env hs
  rw [List.nil_append] at h2
  obtain ⟨hps, h2⟩ := bif_elim h2
  rw [forceSto_iff] at h2
  obtain ⟨σs, w1, w2, w3, w4⟩ := wops_out (Q := Q) ht WL h2
  rw [← hWlen] at w2 w3
  have hps := List.all_eq_true.1 hps
  have hvl : vs.length = m := by rw [h1]; simp; omega
  have hpll : pl.length = m := by rw [hpl]; simp; omega
  have hdlt : ∀ i o, ops[i]? = some o → ∀ j ∈ depsOf o, j < i := by
    intro i o ho j hj
    have := hc i o ho
    simp only [Bool.and_eq_true, List.all_eq_true] at this
    have := this.1 j hj
    exact Nat.le_of_ble_eq_true this
  have hpre : ∀ i o, i < m → ops[i]? = some o → (∀ t ∈ readsOf ops.toList o, ∀ j oj, j < m → ops[j]? = some oj → oj.dst = some t → j ∈ depsOf o) ∧ (∀ j oj d, j < m → ops[j]? = some oj → o.dst = some d → oj.dst = some d → i = j) := by
    intro i o hi ho
    have := hc i o ho
    have hlt : Nat.blt i m = true := Nat.ble_eq_true_of_le hi
    simp only [Bool.and_eq_true, hlt, cond_true, List.all_eq_true] at this
    obtain ⟨_, h6, h7⟩ := this
    refine ⟨fun t ht j oj hj hoj hd => ?_, fun j oj d hj hoj hd hd' => ?_⟩
    · have := allIdx_spec (h6 t ht) j oj (tk.2 ⟨hj, hoj⟩)
      simp [hd] at this
      exact this
    · have := allIdx_spec h7 j oj (tk.2 ⟨hj, hoj⟩)
      simp [hd, hd'] at this
      exact this
  have hE : ∀ i o d, i < m → ops[i]? = some o → o.dst = some d → envs (ops.toList.take m) vs env d = vs.getD i .any := by
    intro i o d hi ho hd
    refine envs_at (tk.2 ⟨hi, ho⟩) (by rw [List.getElem?_eq_getElem (show i < vs.length by omega)]; simp [List.getD_eq_getElem?_getD, List.getElem?_eq_getElem (show i < vs.length by omega)]) hd ?_
    intro j oj hj hdj
    obtain ⟨hj1, hj2⟩ := tk.1 hj
    exact ((hpre i o hi ho).2 j oj d hj1 hj2 hd hdj).symm
  have hchain : ∀ (W : List Nat), chainB ops.toList W = true → ∀ (k k' w w' : Nat), k < k' → W[k]? = some w → W[k']? = some w' → w ≠ w' ∧ depB ops.toList (w' + 1) w' w = true := by
    intro W
    induction W with
    | nil => intro _ k k' w w' _ h; simp at h
    | cons x W ihW =>
      intro hch k k' w w' hkk hw hw'
      simp only [chainB, Bool.and_eq_true] at hch
      obtain ⟨k'', rfl⟩ : ∃ k'', k' = k'' + 1 := ⟨k' - 1, by omega⟩
      have hw'' : W[k'']? = some w' := by simpa using hw'
      cases k with
      | zero =>
        simp at hw
        subst hw
        have h3 := List.all_eq_true.1 hch.1 w' (List.mem_of_getElem? hw'')
        simp only [Bool.and_eq_true, Bool.not_eq_true'] at h3
        refine ⟨fun e => ?_, h3.2⟩
        subst e
        have h4 := h3.1
        rw [Nat.beq_refl] at h4
        exact nomatch h4
      | succ k => exact ihW hch.2 k k'' w w' (by omega) (by simpa using hw) hw''
  have c : DC cc P ops m σ Q (envs (ops.toList.take m) vs env) (fun i => vs.getD i .any) pl W σs := by
    refine ⟨hm, hdlt, ?_, ?_, hE, hpll, ?_, ?_, hcw.out, w1, fun k hk => ?_, ?_, hchain W hwk.2, ?_, ?_, ?_⟩
    · intro i o hi ho t ht j oj hj hoj hd
      exact (hpre i o hi ho).1 t ht j oj hj hoj hd
    · intro i o hi ho
      have := hc i o ho
      have hlt : Nat.blt i m = false := by
        cases hb : Nat.blt i m with
        | false => rfl
        | true => have := Nat.le_of_ble_eq_true hb; omega
      simp only [Bool.and_eq_true, hlt, cond_false] at this
      exact this.2
    · intro o ho x hx
      exact List.all_eq_true.1 (List.all_eq_true.1 hbs o ho) x hx
    · intro i o Δ hi ho hΔ hWi
      have hv : vs[i]? = some (vs.getD i .any) := by rw [List.getD_eq_getElem?_getD, List.getElem?_eq_getElem (show i < vs.length by omega)]; rfl
      have hf := h3 i o _ Δ (tk.2 ⟨hi, ho⟩) hv hΔ (by rw [List.length_nil, Nat.zero_add]; exact hWi)
      rw [List.length_nil, Nat.zero_add, List.nil_append] at hf
      refine hf.congr fun t ht => ?_
      have htk : ∀ {j o'}, ((ops.toList.take m).take i)[j]? = some o' ↔ j < i ∧ j < m ∧ ops[j]? = some o' := by
        intro j o'
        rw [List.getElem?_take]
        split
        · rename_i h; rw [tk]; simp [h]
        · rename_i h; simp [h]
      by_cases hw : ∃ j oj, j < m ∧ ops[j]? = some oj ∧ oj.dst = some t
      · obtain ⟨j, oj, hj, hoj, hd⟩ := hw
        have a1 := (hpre i o hi ho).1 t ht j oj hj hoj hd
        have hji := hdlt i o ho j a1
        rw [hE j oj t hj hoj hd]
        refine envs_at (htk.2 ⟨hji, hj, hoj⟩) ?_ hd ?_
        · rw [List.getElem?_take, if_pos hji, List.getD_eq_getElem?_getD, List.getElem?_eq_getElem (show j < vs.length by omega)]; rfl
        · intro k ok hk hdk
          obtain ⟨_, hk1, hk2⟩ := htk.1 hk
          exact ((hpre j oj hj hoj).2 k ok t hk1 hk2 hd hdk).symm
      · rw [envs_other, envs_other]
        · intro j oj hj hd
          obtain ⟨b1, b2⟩ := tk.1 hj
          exact hw ⟨j, oj, b1, b2, hd⟩
        · intro j oj hj hd
          obtain ⟨_, b1, b2⟩ := htk.1 hj
          exact hw ⟨j, oj, b1, b2, hd⟩
    · have := w3 k hk
      rw [List.length_append] at this
      omega
    · intro k w hw
      obtain ⟨L, hL⟩ := hWk k w hw
      exact (hwkA _ (List.mem_of_getElem? hL)).1
    · intro k w j Δ hw hj hne
      obtain ⟨L, hL⟩ := hWk k w hw
      have h5 := allIdx_spec (hps _ (List.mem_of_getElem? hL)) j Δ hj
      rw [Nat.zero_add, Bool.or_eq_true] at h5
      have hjm : j < m := by have := (List.getElem?_eq_some_iff.1 hj).1; omega
      have hjW : W.contains j = false := by
        cases hq : W.contains j with
        | false => rfl
        | true => exact absurd (hnil j Δ hj (by rw [List.length_nil, Nat.zero_add]; exact hq)) hne
      rcases h5 with h5 | h5
      · cases Δ with
        | nil => exact absurd rfl hne
        | cons => simp at h5
      · rcases (hwkA _ (List.mem_of_getElem? hL)).2 j _ (tk.2 ⟨hjm, Array.getElem?_eq_getElem (by omega)⟩) with h6 | h6 | h6 | h6
        · have h7 : W.contains j = true := by rw [h6]; simpa using List.mem_of_getElem? hw
          rw [hjW] at h7; exact nomatch h7
        · rw [hjW] at h6; exact nomatch h6
        · rw [h6] at h5; simp at h5
        · exact h6
    · intro k w hw
      have hwm : w < pl.length := by
        obtain ⟨L, hL⟩ := hWk k w hw
        have := (hwkA _ (List.mem_of_getElem? hL)).1
        omega
      have hg := List.getElem?_eq_getElem hwm
      have := hnil w _ hg (by rw [List.length_nil, Nat.zero_add]; simpa using List.mem_of_getElem? hw)
      rw [hg, this]
    · intro k w hw
      obtain ⟨L, hL⟩ := hWk k w hw
      obtain ⟨o, g1, g3, g4, g5⟩ := w4 k _ hL
      refine ⟨o, g1, g3, g4, fun j o' hj ho' hjW hjd => ?_⟩
      rcases (hwkA _ (List.mem_of_getElem? hL)).2 j o' (tk.2 ⟨hj, ho'⟩) with h6 | h6 | h6 | h6
      · have h7 : W.contains j = true := by rw [h6]; simpa using List.mem_of_getElem? hw
        rw [hjW] at h7; exact nomatch h7
      · rw [hjW] at h6; exact nomatch h6
      · exact g5 j o' (by simpa using h6) ho'
      · rw [hjd] at h6; exact nomatch h6
  refine wpIn_region_any ht.mixed ?_
  obtain ⟨r1, e1⟩ := r.grow (w' := { w with drawn := w.drawn + 1 }) rfl rfl rfl (Nat.le_refl _) (fun _ _ => rfl)
  have hnone : ∀ j, j < m → (Array.replicate ops.size false).getD j true = false := by
    intro j hj
    simp [Array.getD_eq_getD_getElem?, Array.getElem?_replicate, show j < ops.size by omega]
  refine draw_run (N := N) (own0 := own) (F0 := F) (w0 := w) (a0 := a) (M := ops.toList.filterMap (·.dst)) c hd hM ?_ ops.size (List.range m) _ own F _ a 0 (by simp; omega) (fun i hi _ => List.mem_range.2 hi) ?_
  · intro listed own' F' w' a' p di hall
    have hpW : p = W.length := by
      rcases Nat.lt_or_ge p W.length with h | h
      · have hw := List.getElem?_eq_getElem h
        have := (di.ph p _ hw).1 (hall _ (c.wlt p _ hw))
        omega
      · have := di.pw; omega
    have hrel : Rel own' F' w' (σs W.length) := by
      by_cases hp : p = 0
      · have h5 := di.rel0 hp
        have hst : mskL (fun j => listed.getD j true) 0 pl = mskL (fun _ => true) 0 pl := mskL_congr _ _ fun i hi => by rw [Nat.zero_add]; exact hall i (by omega)
        rw [hst, ← c.s0] at h5
        rw [← hpW, hp]; exact h5
      · rw [← hpW]; exact di.relp hp
    have hle : σ.length ≤ (σs W.length).length := c.sl _ (Nat.le_refl _)
    have he2 : ER N own' F' w' (envs (ops.toList.take m) vs env) a' := ⟨di.tsz, fun t => di.tm t fun j oj hj hoj _ => hall j hj⟩
    have := rops_sound (ro := ro) (nn := nn) (Z := ⟨0, own', F', w', []⟩) (fun _ _ _ _ h => h.elim) ht hM hd (ops.toList.drop m) m rfl w2 hrel ⟨Nat.zero_le _, Ext.refl _ _ _ _, fun p hp => by cases hp⟩ he2 (hk.later di.ext hle di.dfr di.same)
    simpa using this
  · refine ⟨by simp, ?_, ?_, Nat.zero_le _, ?_, fun _ => r1.deads ?_, fun h => absurd rfl h, fun _ => ?_, e1, he.1, rfl, Same.refl _ _, ?_⟩
    · intro i o ho hl
      have hlt : i < ops.size := (Array.getElem?_eq_some_iff.1 ho).1
      simp [Array.getD_eq_getD_getElem?, Array.getElem?_replicate, hlt] at hl
    · intro i _ hlt
      simp [Array.getD_eq_getD_getElem?, Array.getElem?_replicate, hlt]
    · intro k w hw
      rw [hnone w (c.wlt k w hw)]
      simp
    · intro o ho
      obtain ⟨k, hk⟩ := List.getElem?_of_mem ho
      have hkl : k < (mskL (fun _ => true) 0 pl).length := by rw [mskL_len (c := fun _ => true) (c' := fun j => (Array.replicate ops.size false).getD j true)]; exact (List.getElem?_eq_some_iff.1 hk).1
      obtain ⟨j, Δ, q, g1, _, g3⟩ := mskL_at pl 0 k hkl
      rw [g3] at hk
      simp only [Nat.zero_add] at hk
      have hj : j < m := by have := (List.getElem?_eq_some_iff.1 g1).1; omega
      rw [hnone j hj] at hk
      simp at hk
      exact hk.symm
    · intro k hk _
      exact r.unb k hk
    · intro t htw
      rw [envs_other]
      · exact (he.2 t).ext r e1
      · intro j oj hj hdj
        obtain ⟨b1, b2⟩ := tk.1 hj
        have := htw j oj b1 b2 hdj
        rw [hnone j b1] at this
        exact nomatch this
end
end Go.Proofs.Ytgladinljapmkaa.Am

/- Code does what the abstract machine says. -/
namespace Go.Proofs.Ytgladinljapmkaa.Am
open Go.RowKit
set_option linter.unusedVariables false
set_option linter.unusedSimpArgs false
section
variable {P : Program} {tt : Tab} {I : FuncId → Bool} {own : Nat → Own} {F : Nat → Prop} {w : World} {σ : Sto} {env : Env} {a : Act} {N : Nat} {o : Oper}
variable {K : SV → Sto → Prop} {next : Act → World → Prop} {Q : Exit → Act → World → Prop}
/-! ### code -/
def AX.out : AX → Exit
  | .normal => .normal
  | .exit id => .exit id
  | .goto l => .goto l
  | .ret => .ret
theorem wpIn_loop_ghost {Fc : Fence} {nn : Nat} {c : Code} (I : Nat → Act → World → Prop) (n₀ : Nat) (h₀ : I n₀ a w)
    (round : ∀ n a w, I n a w → c.wpIn Fc nn P (Exit.then (fun a' w' => ∃ n', n' < n ∧ I n' a' w') Q) a w) : (Code.loop c).wpIn Fc nn P Q a w := by
  refine wpIn_loop (fun a w => ∃ n, I n a w) (fun a w => leastOf (fun n => I n a w)) ⟨n₀, h₀⟩ ?_
  intro a w hI
  refine wpIn_mono (round _ a w (leastOf_spec hI).1) ?_
  intro e a' w' hq
  cases e with
  | normal =>
    obtain ⟨n', hlt, hI'⟩ := hq
    exact show (∃ n, I n a' w') ∧ leastOf (fun n => I n a' w') < leastOf (fun n => I n a w) from ⟨⟨n', hI'⟩, Nat.lt_of_le_of_lt ((leastOf_spec ⟨n', hI'⟩).2 n' hI') hlt⟩
  | exit id => exact hq
  | goto l => exact hq
  | ret => exact hq
  | panic ch => exact hq
  | outgrown => exact hq
def marks (Ds : List Nat) : List Deferred := Ds.map fun D => { target := .collected D, args := #[] }
structure Mk (own : Nat → Own) (F : Nat → Prop) (w : World) (Ds : List Nat) : Prop where
  nd : Ds.Nodup
  at' : ∀ D ∈ Ds, w.heap[D]? = some (.deferred (some [])) ∧ ¬ F D ∧ ¬ Lv own D
def DM (a : Act) (w : World) (own' : Nat → Own) (F' : Nat → Prop) (w' : World) (a' : Act) : Prop :=
  ∃ Ds, a'.defers = marks Ds ++ a.defers ∧ Mk own' F' w' Ds ∧ ∀ D ∈ Ds, w.heap.size ≤ D
theorem Mk.nil {own : Nat → Own} {F : Nat → Prop} {w : World} : Mk own F w [] := ⟨List.nodup_nil, by simp⟩
theorem Mk.later {n : Nat} {own own' : Nat → Own} {F F' : Nat → Prop} {w w' : World} {Ds : List Nat} (h : Mk own F w Ds) (e : Ext n own F w own' F' w') : Mk own' F' w' Ds where
  nd := h.nd
  at' D hD := by
    obtain ⟨h1, h2, h3⟩ := h.at' D hD
    have hlt := (Array.getElem?_eq_some_iff.1 h1).1
    refine ⟨(e.fr _ hlt h3).trans h1, fun h => ?_, fun h => ?_⟩
    · rcases e.Fn _ h with h | h | h
      · exact h2 h
      · omega
      · exact h3 h
    · rcases e.on _ h with h | h
      · exact h3 h
      · omega
theorem DM.of_eq {a a' : Act} {w w' : World} {own' : Nat → Own} {F' : Nat → Prop} (h : a'.defers = a.defers) : DM a w own' F' w' a' := ⟨[], by simp [marks, h], .nil, by simp⟩
theorem DM.trans {n m : Nat} {own0 own1 own2 : Nat → Own} {F0 F1 F2 : Nat → Prop} {w0 w1 w2 : World} {a0 a1 a2 : Act} (h : DM a0 w0 own1 F1 w1 a1) (e1 : Ext m own0 F0 w0 own1 F1 w1) (e : Ext n own1 F1 w1 own2 F2 w2) (k : DM a1 w1 own2 F2 w2 a2) : DM a0 w0 own2 F2 w2 a2 := by
  obtain ⟨D1, h1, h2, h3⟩ := h
  obtain ⟨D2, k1, k2, k3⟩ := k
  refine ⟨D2 ++ D1, by rw [k1, h1]; simp [marks], ⟨?_, ?_⟩, ?_⟩
  · rw [List.nodup_append]
    refine ⟨k2.nd, h2.nd, fun x hx y hy hxy => ?_⟩
    subst hxy
    have := k3 x hx
    have := (Array.getElem?_eq_some_iff.1 (h2.at' x hy).1).1
    omega
  · intro D hD
    rcases List.mem_append.1 hD with h | h
    · exact k2.at' D h
    · exact (h2.later e).at' D h
  · intro D hD
    rcases List.mem_append.1 hD with h | h
    · have := k3 D h; have := e1.sz; omega
    · exact h3 D h
theorem Rel.other {w' : World} (r : Rel own F w σ) (hs : w.heap.size = w'.heap.size) (hh : ∀ b, F b ∨ Lv own b → w'.heap[b]? = w.heap[b]?) : Rel own F w' σ := by
  have hv : ∀ x v, VT F w x v → VT F w' x v := fun x v h => h.mono (fun _ h => h) fun b hb _ => hh b (.inl hb)
  have hs' : ∀ x v, VS own F w x v → VS own F w' x v := fun x v h => h.map' hv fun _ _ _ _ h => h
  exact ⟨r.unb, r.inj, r.sep, r.fb.same (Nat.le_of_eq hs) (fun b hb => hh b (.inl hb)), fun k b hb => hs ▸ r.lb k b hb, fun k o hk => (r.obj k o hk).keep (fun b hb => hh b (.inr ⟨k, hb⟩)) hv hs'⟩
theorem ER.other {w' : World} (h : ER N own F w env a) (hh : ∀ b, F b → w'.heap[b]? = w.heap[b]?) : ER N own F w' env a :=
  ⟨h.1, fun j => (h.2 j).map' (fun x v h => h.mono (fun _ h => h) fun b hb _ => hh b hb) fun _ _ _ _ h => h⟩
theorem Ext.other {n : Nat} {own own' : Nat → Own} {F F' : Nat → Prop} {w w1 w' : World} (e : Ext n own F w own' F' w1) (os : w'.os = w1.os) (tape : w'.tape = w1.tape) (output : w'.output = w1.output) (hs : w1.heap.size = w'.heap.size) (hh : ∀ b, b < w.heap.size → ¬ Lv own b → w'.heap[b]? = w1.heap[b]?) : Ext n own F w own' F' w' :=
  ⟨os.trans e.os, tape.trans e.tape, output.trans e.output, hs ▸ e.sz, fun b h1 h2 => (hh b h1 h2).trans (e.fr b h1 h2), e.Fm, e.Fn, e.on, e.ok⟩
theorem setL_ER : ∀ (ps : List Nat) (vs : List SV) (mvs : List Value) {env : Env} {a : Act}, (∀ p ∈ ps, p < N) → vs.length = ps.length → mvs.length = ps.length → (∀ (i : Nat) (x : SV) (v : Value), vs[i]? = some x → mvs[i]? = some v → VS own F w x v) → ER N own F w env a →
    ER N own F w (setL ps vs env) { a with tmps := (ps.zip mvs).foldl (fun t (p, v) => t.setIfInBounds p v) a.tmps }
  | [], vs, mvs, env, a, _, h1, h2, _, he => by
    obtain rfl := List.eq_nil_of_length_eq_zero h1
    exact he
  | p :: ps, [], mvs, env, a, _, h1, _, _, he => by simp at h1
  | p :: ps, v :: vs, [], env, a, _, _, h2, _, he => by simp at h2
  | p :: ps, v :: vs, m :: mvs, env, a, hp, h1, h2, hv, he => by
    unfold setL
    have := setL_ER ps vs mvs (a := { a with tmps := a.tmps.setIfInBounds p m }) (fun q hq => hp q (List.mem_cons_of_mem _ hq)) (by simpa using h1) (by simpa using h2) (fun i x u hx hu => hv (i + 1) x u (by simpa using hx) (by simpa using hu)) (he.upd (hp p List.mem_cons_self) (hv 0 v m rfl rfl))
    exact this
theorem enter_run {ro : Option Nat} (hr : ∀ l, ro = some l → ∃ rec, w.heap[l]? = some (.loop rec)) (fn : FuncId) (tmps : Array Value) (ps : Array Tmp) (as bd : Code) :
    ∃ (L : Nat) (Ds : List Nat) (rec : Loop) (w1 : World), (Instr.enterLoop fn tmps ps as bd ro).run P w = .ok (L, marks Ds) w1 ∧ w1.heap[L]? = some (.loop rec) ∧ rec.state = .ready ∧ rec.pending = none ∧ rec.tmps = tmps ∧ rec.params = ps ∧ rec.assign = as ∧ rec.body = bd ∧
      w.heap.size ≤ L ∧ w1.os = w.os ∧ w1.tape = w.tape ∧ w1.output = w.output ∧ w.heap.size ≤ w1.heap.size ∧ (∀ i, i < w.heap.size → w1.heap[i]? = w.heap[i]?) ∧ Ds.Nodup ∧ ∀ D ∈ Ds, w.heap.size ≤ D ∧ D ≠ L ∧ w1.heap[D]? = some (.deferred (some [])) := by
  have old : ∀ (w : World) (o : Obj) (i : Nat), i < w.heap.size → (w.alloc o).heap[i]? = w.heap[i]? := by
    intro w o i hi
    show (w.heap.push o)[i]? = _
    rw [Array.getElem?_push_lt hi, Array.getElem?_eq_getElem hi]
  cases ro with
  | none =>
    refine ⟨_, [w.heap.size], { state := .ready, pending := none, fn, tmps, params := ps, assign := as, body := bd, defers := w.heap.size }, _, run_enterLoop_outer fn tmps ps as bd, ?_, rfl, rfl, rfl, rfl, rfl, rfl, Nat.le_succ _, rfl, rfl, rfl, by simp only [World.size_alloc]; omega, ?_, by simp, ?_⟩
    · have := World.alloc_heap_new (w.alloc (.deferred (some []))) (.loop { state := .ready, pending := none, fn, tmps, params := ps, assign := as, body := bd, defers := w.heap.size })
      rwa [World.size_alloc] at this
    · intro i hi
      rw [old _ _ i (by simp only [World.size_alloc]; omega), old _ _ i hi]
    · intro D hD
      simp at hD
      subst hD
      refine ⟨Nat.le_refl _, by omega, ?_⟩
      rw [old _ _ _ (by simp only [World.size_alloc]; omega)]
      exact World.alloc_heap_new w _
  | some l =>
    obtain ⟨r0, h0⟩ := hr l rfl
    refine ⟨_, [], { state := .ready, pending := none, fn, tmps, params := ps, assign := as, body := bd, defers := r0.defers }, _, run_enterLoop_inner h0 fn tmps ps as bd, World.alloc_heap_new w _, rfl, rfl, rfl, rfl, rfl, rfl, Nat.le_refl _, rfl, rfl, rfl, by simp only [World.size_alloc]; omega, fun i hi => old _ _ i hi, List.nodup_nil, by simp⟩
def GoesX (N : Nat) (M : List Nat) (a : Act) (own : Nat → Own) (F : Nat → Prop) (w : World) (σ : Sto) (K : AX → Env → Sto → Prop) (Q : Exit → Act → World → Prop) : Prop :=
  ∀ (x : AX) (env' : Env) (σ' : Sto) (own' : Nat → Own) (F' : Nat → Prop) (w' : World) (a' : Act), K x env' σ' → Ext σ.length own F w own' F' w' → Rel own' F' w' σ' → σ.length ≤ σ'.length → ER N own' F' w' env' a' → DM a w own' F' w' a' → Same M a a' → Q x.out a' w'
theorem GoesX.mono {M M' : List Nat} {K : AX → Env → Sto → Prop} (h : GoesX N M a own F w σ K Q) (hm : ∀ j, j ∈ M' → j ∈ M) : GoesX N M' a own F w σ K Q :=
  fun x env' σ' own' F' w' a' hk e r l he hd hs => h x env' σ' own' F' w' a' hk e r l he hd (hs.mono hm)
theorem GoesX.goes {M : List Nat} {K : AX → Env → Sto → Prop} (h : GoesX N M a own F w σ K Q) (x : AX) : Goes N M a own F w σ (K x) (Q x.out) :=
  fun env' σ' own' F' w' a' hk e r l he hd hs => h x env' σ' own' F' w' a' hk e r l he (.of_eq hd) hs
def RO (ro : Option Nat) (own : Nat → Own) (w : World) : Prop := ∀ l, ro = some l → ∃ rec, w.heap[l]? = some (.loop rec) ∧ ¬ Lv own l
theorem RO.later {ro : Option Nat} {n : Nat} {own own' : Nat → Own} {F F' : Nat → Prop} {w w' : World} (h : RO ro own w) (e : Ext n own F w own' F' w') : RO ro own' w' := by
  intro l hl
  obtain ⟨rec, h1, h2⟩ := h l hl
  have hlt := (Array.getElem?_eq_some_iff.1 h1).1
  refine ⟨rec, (e.fr _ hlt h2).trans h1, fun h => ?_⟩
  rcases e.on _ h with h | h
  · exact h2 h
  · omega
theorem cwp_sound {Y : Nat → List SV → Sto → (SV → Sto → Prop) → Prop} {Z : Keep} (hY : ∀ l vs σ K, Y l vs σ K → ∃ rec, (l, Obj.loop rec) ∈ Z.bl ∧ YCalls P l rec Z vs σ fun σ' => K (.t (.bool true)) σ')
    (ht : TabOk P tt) : ∀ (c : Code), (∀ d ∈ mods c, d < N) → ∀ {ro : Option Nat} {nn : Nat} {Ka : AX → Env → Sto → Prop} {Q : Exit → Act → World → Prop} {own : Nat → Own} {F : Nat → Prop} {w : World} {σ : Sto} {env : Env} {a : Act},
    cwp (ctrY P I Y) tt N c Ka env σ → Rel own F w σ → Kept Z σ own F w → RO ro own w → ER N own F w env a → GoesX N (mods c) a own F w σ Ka Q → c.wpIn (Fw ro) nn P Q a w := by
  intro c
  induction c with
  | skip =>
    intro hm ro nn Ka Q own F w σ env a hs r kz hro he hk
    exact wpIn_skip (hk .normal _ _ _ _ _ _ hs (Ext.refl _ _ _ _) r (Nat.le_refl _) he (.of_eq rfl) (Same.refl _ _))
  | region id ops draw =>
    intro hm ro nn Ka Q own F w σ env a hs r kz hro he hk
    have hd : ∀ o ∈ ops.toList, ∀ d, o.dst = some d → d < N := fun o ho d hd => hm d (List.mem_filterMap.2 ⟨o, ho, hd⟩)
    have hM : ∀ o ∈ ops.toList, ∀ d, o.dst = some d → d ∈ mods (.region id ops draw) := fun o ho d hd => List.mem_filterMap.2 ⟨o, ho, hd⟩
    unfold cwp at hs
    cases draw with
    | true => exact drawVC_sound (I := I) ht hd hs r he (hk.goes .normal)
    | false =>
      refine wpIn_region ?_
      have := rops_sound (ro := ro) (nn := nn) hY ht hM hd ops.toList 0 rfl hs r kz he (hk.goes .normal)
      rwa [Array.length_toList, ← List.range_eq_range'] at this
  | seq x y ihx ihy =>
    intro hm ro nn Ka Q own F w σ env a hs r kz hro he hk
    refine wpIn_seq (ihx (fun d hd => hm d (List.mem_append.2 (.inl hd))) hs r kz hro he ?_)
    intro ax env' σ' own' F' w' a' hka e r' l he' hdf hsm
    have hsm' : Same (mods (.seq x y)) a a' := hsm.mono fun j hj => List.mem_append.2 (.inl hj)
    cases ax with
    | normal =>
      refine ihy (fun d hd => hm d (List.mem_append.2 (.inr hd))) hka r' (kz.later e l) (hro.later e) he' ?_
      intro ax2 env2 σ2 own2 F2 w2 a2 k2 e2 r2 l2 he2 hd2 hs2
      exact hk ax2 env2 σ2 own2 F2 w2 a2 k2 (e.trans (e2.mono l)) r2 (Nat.le_trans l l2) he2 (hdf.trans e e2 hd2) (hsm'.trans (hs2.mono fun j hj => List.mem_append.2 (.inr hj)))
    | exit id => exact hk (.exit id) _ _ _ _ _ _ hka e r' l he' hdf hsm'
    | goto l' => exact hk (.goto l') _ _ _ _ _ _ hka e r' l he' hdf hsm'
    | ret => exact hk .ret _ _ _ _ _ _ hka e r' l he' hdf hsm'
  | cond c x y ihx ihy =>
    intro hm ro nn Ka Q own F w σ env a hs r kz hro he hk
    cases c with
    | tmp t =>
      unfold cwp at hs
      have hv := he.2 t
      split at hs
      · rename_i cb hc
        rw [hc] at hv
        have hb := boolV hv
        cases cb with
        | true =>
          refine wpIn_cond_true (by exact hb) (ihx (fun d hd => hm d (List.mem_append.2 (.inl hd))) hs r kz hro (he.refine (hb ▸ .t _ _ (.bool _))) (hk.mono fun j hj => List.mem_append.2 (.inl hj)))
        | false =>
          refine wpIn_cond_false (by exact hb) (ihy (fun d hd => hm d (List.mem_append.2 (.inr hd))) hs r kz hro (he.refine (hb ▸ .t _ _ (.bool _))) (hk.mono fun j hj => List.mem_append.2 (.inr hj)))
      · exact hs.elim
    | _ => exact (by unfold cwp at hs; exact hs.elim)
  | block id c ih =>
    intro hm ro nn Ka Q own F w σ env a hs r kz hro he hk
    refine wpIn_block (ih hm hs r kz hro he ?_)
    intro ax env' σ' own' F' w' a' hka e r' l he' hdf hsm
    cases ax with
    | normal => exact hk .normal _ _ _ _ _ _ hka e r' l he' hdf hsm
    | exit i =>
      have hka : (bif Nat.beq i id then Ka .normal env' σ' else Ka (.exit i) env' σ') := hka
      simp only [AX.out, Exit.inBlock]
      cases hb : Nat.beq i id with
      | true =>
        rw [hb, cond_true] at hka
        rw [if_pos (Nat.eq_of_beq_eq_true hb)]
        exact hk .normal _ _ _ _ _ _ hka e r' l he' hdf hsm
      | false =>
        rw [hb, cond_false] at hka
        rw [if_neg (fun e => by rw [e] at hb; simp at hb)]
        exact hk (.exit i) _ _ _ _ _ _ hka e r' l he' hdf hsm
    | goto l' => exact hk (.goto l') _ _ _ _ _ _ hka e r' l he' hdf hsm
    | ret => exact hk .ret _ _ _ _ _ _ hka e r' l he' hdf hsm
  | loop c ih =>
    intro hm ro nn Ka Q own F w σ env a hs r kz hro he hk
    unfold cwp at hs
    obtain ⟨tl, hs, htl⟩ := mkTab_out hs
    rw [modsK_iff, List.append_nil] at hs
    obtain ⟨tl2, hs, htl2⟩ := tabNot_out hs
    have he2 : ∀ j, tabEnv tl2 j = .any ∨ (tabEnv tl2 j = env j ∧ j ∉ mods c) := by
      intro j
      rcases tabEnv_out (j := j) tl2 with h | ⟨p, h1, rfl, h3⟩
      · exact .inl h
      · exact .inr ⟨by rw [h3, htl p (htl2 p h1).1], by simpa using (htl2 p h1).2⟩
    have heO := he
    have he : ER N own F w (tabEnv tl) a := ⟨heO.1, fun j => by
      rcases tabEnv_out (j := j) tl with h | ⟨p, h1, rfl, h3⟩
      · rw [h]; exact .t _ _ (.any _)
      · rw [h3, htl p h1]; exact heO.2 p.1⟩
    obtain ⟨env', henv'⟩ : ∃ e, e = tabEnv tl := ⟨_, rfl⟩
    rw [← henv'] at hs he
    obtain ⟨env2, henv2⟩ : ∃ e, e = tabEnv tl2 := ⟨_, rfl⟩
    rw [← henv2] at hs he2
    unfold LoopVC at hs
    obtain ⟨S, N0, V, A, R, h0, h1⟩ := hs
    have hmc : mods (.loop c) = mods c := rfl
    obtain ⟨σ00, own00, h0, r00, e00, l00⟩ := thawV_sound V r h0
    obtain ⟨σ0, own0, h0, r0, e01, l01⟩ := adoptL_sound A r00 h0
    have e0 : Ext σ.length own F w own0 F w := e00.trans (e01.mono l00)
    have l0 : σ.length ≤ σ0.length := Nat.le_trans l00 l01
    obtain ⟨vals1, σ1, own1, h2, r1, e1', l1', len1, v1'⟩ := thaw_sound ht S (S.map env') r0 h0
    have e1 : Ext σ.length own F w own1 F w := e0.trans (e1'.mono l0)
    have l1 : σ.length ≤ σ1.length := Nat.le_trans l0 l1'
    have v1 : ∀ (i : Nat) (x y : SV) (v : Value), (S.map env')[i]? = some x → vals1[i]? = some y → VS own F w x v → VS own1 F w y v := fun i x y v hx hy hv => v1' i x y v hx hy (hv.ext r e0)
    obtain ⟨vals2, σ2, own2, ⟨m0, hR0⟩, r2, l2, len2, v2, ok2, lv2⟩ := headSt_sound r1 l1 h2
    refine wpIn_loop_ghost (fun m a' w' => ∃ (vals : List SV) (σh : Sto) (ownh : Nat → Own) (Fh : Nat → Prop), R m vals σh ∧ Rel ownh Fh w' σh ∧ Ext σ.length own F w ownh Fh w' ∧ σ.length ≤ σh.length ∧
      ER N ownh Fh w' (setL S vals env2) a' ∧ DM a w ownh Fh w' a' ∧ Same (mods c) a a') m0 ⟨vals2, σ2, own2, F, hR0, r2, e1.less ok2 lv2, l2, ?_, .of_eq rfl, Same.refl _ _⟩ ?_
    · refine ER.head r heO (e1.less ok2 lv2) (Same.refl _ _) he.1 he2 ?_
      intro i s v hi hv
      have hlt1 : i < vals1.length := by rw [len1]; simp; exact (List.getElem?_eq_some_iff.1 hi).1
      refine v2 i vals1[i] v _ (List.getElem?_eq_getElem hlt1) hv ?_
      exact v1 i (env' s) vals1[i] _ (by rw [List.getElem?_map, hi]; rfl) (List.getElem?_eq_getElem hlt1) (he.2 s)
    · rintro m a1 w1 ⟨vals, σh, ownh, Fh, hR, rh, eh, lh, heh, hdh, hsh⟩
      refine ih hm (h1 m vals σh hR) rh (kz.later eh lh) (hro.later eh) heh ?_
      intro ax env3 σ3 own3 F3 w3 a3 hka e3 r3 l3 he3 hd3 hs3
      cases ax with
      | normal =>
        have hka : headSt σ.length (S.map env3) σ3 fun vals σ2 => ∃ m', m' < m ∧ R m' vals σ2 := hka
        obtain ⟨vals4, σ4, own4, ⟨m', hm', hR4⟩, r4, l4, len4, v4, ok4, lv4⟩ := headSt_sound r3 (Nat.le_trans lh l3) hka
        have e4 : Ext σ.length own F w own4 F3 w3 := (eh.trans (e3.mono lh)).less ok4 lv4
        refine ⟨m', hm', vals4, σ4, own4, F3, hR4, r4, e4, l4, ?_, ?_, hsh.trans hs3⟩
        · refine ER.head r heO e4 (hsh.trans hs3) he3.1 he2 ?_
          intro i s v hi hv
          exact v4 i (env3 s) v _ (by rw [List.getElem?_map, hi]; rfl) hv (he3.2 s)
        · obtain ⟨Ds, q1, q2, q3⟩ := hdh.trans eh e3 hd3
          exact ⟨Ds, q1, ⟨q2.nd, fun D hD => ⟨(q2.at' D hD).1, (q2.at' D hD).2.1, fun h => (q2.at' D hD).2.2 (lv4 D h)⟩⟩, q3⟩
      | exit id => exact hk (.exit id) _ _ _ _ _ _ hka (eh.trans (e3.mono lh)) r3 (Nat.le_trans lh l3) he3 (hdh.trans eh e3 hd3) (hsh.trans hs3)
      | goto l' => exact hk (.goto l') _ _ _ _ _ _ hka (eh.trans (e3.mono lh)) r3 (Nat.le_trans lh l3) he3 (hdh.trans eh e3 hd3) (hsh.trans hs3)
      | ret => exact hk .ret _ _ _ _ _ _ hka (eh.trans (e3.mono lh)) r3 (Nat.le_trans lh l3) he3 (hdh.trans eh e3 hd3) (hsh.trans hs3)
  | exit id =>
    intro hm ro nn Ka Q own F w σ env a hs r kz hro he hk
    exact wpIn_exit (hk (.exit id) _ _ _ _ _ _ hs (Ext.refl _ _ _ _) r (Nat.le_refl _) he (.of_eq rfl) (Same.refl _ _))
  | label l =>
    intro hm ro nn Ka Q own F w σ env a hs r kz hro he hk
    exact wpIn_label (hk .normal _ _ _ _ _ _ hs (Ext.refl _ _ _ _) r (Nat.le_refl _) he (.of_eq rfl) (Same.refl _ _))
  | goto l =>
    intro hm ro nn Ka Q own F w σ env a hs r kz hro he hk
    exact wpIn_goto (hk (.goto l) _ _ _ _ _ _ hs (Ext.refl _ _ _ _) r (Nat.le_refl _) he (.of_eq rfl) (Same.refl _ _))
  | ret =>
    intro hm ro nn Ka Q own F w σ env a hs r kz hro he hk
    exact wpIn_ret (hk .ret _ _ _ _ _ _ hs (Ext.refl _ _ _ _) r (Nat.le_refl _) he (.of_eq rfl) (Same.refl _ _))
  | rangeFunc g ps as bd iha ihb =>
    intro hm ro nn Ka Q own F w σ env a hs r kz hro he hk
    have hma : ∀ d ∈ mods as, d < N := fun d hd => hm d (List.mem_append.2 (.inr (List.mem_append.2 (.inl hd))))
    have hmb : ∀ d ∈ mods bd, d < N := fun d hd => hm d (List.mem_append.2 (.inr (List.mem_append.2 (.inr hd))))
    have hmp : ∀ p ∈ ps.toList, p < N := fun d hd => hm d (List.mem_append.2 (.inl hd))
    obtain ⟨Y0, hY0⟩ : ∃ Y0 : List SV → Sto → (Sto → Prop) → Prop, Y0 = fun (args : List SV) (σ : Sto) (K : Sto → Prop) => Ob (args.length = ps.size) ∧ cwp (ctrY P I Y) tt N as (fun x env1 σ1 => match x with
      | .normal => cwp (ctrY P I Y) tt N bd (fun x _ σ2 => match x with | .normal => K σ2 | _ => False) env1 σ1
      | _ => False) (setL ps.toList args env) σ := ⟨_, rfl⟩
    have key : ∀ (f : FuncId) (vs : List SV) (cv : Array Value), a.eval g = .func (.func f) #[] cv → cv.size = vs.length → (∀ (i : Nat) (x : SV) (v : Value), vs[i]? = some x → cv[i]? = some v → VS own F w x v) →
        RCalls P f vs Y0 σ (fun σ' => Ka .normal env σ') → (Code.rangeFunc g ps as bd).wpIn (Fw ro) nn P Q a w := by
      intro f vs cv hg hsz hvs hrc
      unfold RCalls at hrc
      obtain ⟨⟨fn, hf1, hf2, hf3⟩, hrc⟩ := hrc
      refine wpIn_rangeFunc ?_
      intro fnid _
      obtain ⟨L, Ds, rec, w1, g1, g2, g3, g4, g5, g6, g7, g8, g9, g10, g11, g12, g13, g14, g15, g16⟩ := enter_run (P := P) (w := w) (ro := ro) (fun l hl => by obtain ⟨rec, h, _⟩ := hro l hl; exact ⟨rec, h⟩) fnid a.tmps ps as bd
      obtain ⟨r1, e1⟩ := r.grow g10 g11 g12 g13 g14
      have hlL : ¬ Lv own L := by rintro ⟨k, hb⟩; have := r.lb k L hb; omega
      have hfL : ¬ F L := fun h => by have := r.Fb L h; omega
      have he1 : ER N own F w1 env a := he.ext r e1
      refine ⟨L, marks Ds, w1, { target := .fn (.func f) cv, args := #[.func (.yield L) #[] #[]] }, w1, f, #[.func (.yield L) #[] #[]] ++ cv, w1, g1, ?_, fun _ _ => trivial, ?_, (fun h => nomatch h), ?_⟩
      · simp only [resolve, hg]
        simp [go_sem]
      · simp only [invoke, callFunc, Sem.run_bind, run_program, Result.andThen_ok, hf1, hf2, hf3]
        simp
      have hargs : (.func (.yield L) #[] #[] :: cv.toList).toArray = #[.func (.yield L) #[] #[]] ++ cv := by apply Array.ext'; simp
      rw [← hargs]
      refine (hrc (nn - 1) L rec own F w1 cv.toList (by simpa using hsz) (fun i x v h1 h2 => (hvs i x v h1 (by simpa using h2)).ext r e1) r1 g2 hlL ?_).mono ?_
      · -- a round
        intro vs' σ' K' hy
        rw [hY0] at hy
        obtain ⟨hlen, hy⟩ := hy
        have hlen := hlen.out
        unfold YCalls
        intro n2 own2 F2 w2 mvs hml hmv r2 k2 hrec2 hl2
        have hL2 : L < w2.heap.size := (Array.getElem?_eq_some_iff.1 hrec2).1
        have hL1 : L < w1.heap.size := (Array.getElem?_eq_some_iff.1 g2).1
        have hfL2 : ¬ F2 L := fun h => by
          rcases k2.ext.Fn _ h with h | h | h
          · exact hfL h
          · have : w1.heap.size ≤ L := h; omega
          · exact hlL h
        have kz2 : Kept Z σ' own2 F2 w2 := (kz.later e1 (Nat.le_refl _)).later k2.ext k2.len
        have hyr := run_yield (P := P) (args := mvs.toArray) hrec2 (by rw [g6]; simpa [hml] using hlen)
        refine ⟨rec.fn, _, rec.assign, rec.body, hyr, roundIn_of_wpIn trivial ?_⟩
        rw [g5, g6, g7, g8]
        have he2 : ER N own2 F2 w2 (setL ps.toList vs' env) { tmps := (ps.zip mvs.toArray).foldl (fun tmps (t, a) => tmps.setIfInBounds t a) a.tmps, defers := [] } := by
          have h0 : ER N own2 F2 w2 env { a with defers := [] } := ⟨(he1.ext r1 k2.ext).1, (he1.ext r1 k2.ext).2⟩
          have h1 := setL_ER ps.toList vs' mvs hmp (by simpa using hlen) (by simpa [hml] using hlen) hmv h0
          have h2 : (ps.zip mvs.toArray).foldl (fun tmps (t, a) => tmps.setIfInBounds t a) a.tmps = (ps.toList.zip mvs).foldl (fun t (p, v) => t.setIfInBounds p v) a.tmps := by
            rw [← Array.foldl_toList]; simp
          rw [h2]; exact h1
        refine iha hma hy r2 kz2 (fun l hl => by cases hl; exact ⟨rec, hrec2, hl2⟩) he2 ?_
        intro ax env3 σ3 own3 F3 w3 a3 hka e3 r3 l3 he3 hd3 hs3
        cases ax with
        | normal =>
          have hrec3 : w3.heap[L]? = some (.loop rec) := (e3.fr _ hL2 hl2).trans hrec2
          have hl3 : ¬ Lv own3 L := fun h => by rcases e3.on _ h with h | h <;> first | exact hl2 h | omega
          have hf3 : ¬ F3 L := fun h => by rcases e3.Fn _ h with h | h | h <;> first | exact hfL2 h | exact hl2 h | omega
          have hL3 := (Array.getElem?_eq_some_iff.1 hrec3).1
          refine ⟨_, run_beginRound hrec3 g3, ?_⟩
          obtain ⟨w4, hw4⟩ : ∃ w4, w4 = w3.putObj L (.loop { rec with state := .busy }) := ⟨_, rfl⟩
          rw [← hw4]
          have hh4 : ∀ b, b ≠ L → w4.heap[b]? = w3.heap[b]? := fun b hb => by rw [hw4]; exact World.putObj_heap_other hb
          have hs4 : w3.heap.size = w4.heap.size := by rw [hw4]; simp
          have hfo : ∀ b, F3 b ∨ Lv own3 b → w4.heap[b]? = w3.heap[b]? := fun b hb => hh4 b fun h => by subst h; rcases hb with h | h <;> first | exact hf3 h | exact hl3 h
          have r4 : Rel own3 F3 w4 σ3 := r3.other hs4 hfo
          have e34 : Ext σ'.length own2 F2 w2 own3 F3 w3 := e3
          have e14 : Ext σ.length own F w1 own3 F3 w3 := k2.ext.trans (e3.mono k2.len)
          have kz3 : Kept Z σ3 own3 F3 w3 := kz2.later e3 l3
          have kz4 : Kept Z σ3 own3 F3 w4 := ⟨kz3.len, kz3.ext.other (by rw [hw4]; rfl) (by rw [hw4]; rfl) (by rw [hw4]; rfl) hs4 (fun b hb _ => hh4 b fun h => by
              subst h
              have := kz.ext.sz
              omega), fun p hp => by
              refine ⟨?_, (kz3.same p hp).2⟩
              rw [hh4 p.1 fun h => ?_]
              · exact (kz3.same p hp).1
              · have := (Array.getElem?_eq_some_iff.1 (kz.same p hp).1).1
                omega⟩
          have hrec4 : w4.heap[L]? = some (.loop { rec with state := .busy }) := by rw [hw4]; exact World.putObj_heap_same hL3
          refine ihb hmb hka r4 kz4 (fun l hl => by cases hl; exact ⟨_, hrec4, hl3⟩) (he3.other fun b hb => hfo b (.inl hb)) ?_
          intro ax env5 σ5 own5 F5 w5 a5 hka5 e5 r5 l5 he5 hd5 hs5
          cases ax with
          | normal =>
            have hL4 : L < w4.heap.size := by omega
            have hrec5 : w5.heap[L]? = some (.loop { rec with state := .busy }) := (e5.fr _ hL4 hl3).trans hrec4
            have hl5 : ¬ Lv own5 L := fun h => by rcases e5.on _ h with h | h <;> first | exact hl3 h | omega
            have hf5 : ¬ F5 L := fun h => by rcases e5.Fn _ h with h | h | h <;> first | exact hf3 h | exact hl3 h | omega
            have hL5 := (Array.getElem?_eq_some_iff.1 hrec5).1
            refine ⟨_, _, run_endRound none hrec5, σ5, own5, F5, rfl, hka5, ?_, ?_, Nat.le_trans l3 l5⟩
            · have hhb : ∀ b, b ≠ L → (w5.putObj L (.loop { rec with state := .ready, pending := none })).heap[b]? = w5.heap[b]? := fun b hb => World.putObj_heap_other hb
              refine ⟨e5.os.trans ?_, e5.tape.trans ?_, e5.output.trans ?_, ?_, fun b hb hnb => ?_, fun b hb => e5.Fm b (e3.Fm b hb), fun b hb => ?_, fun b hb => ?_, fun k hk e p L hL => e5.ok k (by omega) e p L (e3.ok k hk e p L hL)⟩
              · rw [hw4]; exact e3.os
              · rw [hw4]; exact e3.tape
              · rw [hw4]; exact e3.output
              · have := e3.sz; have := e5.sz; simp; omega
              · by_cases hbL : b = L
                · subst hbL
                  rw [hrec2]
                  have : (Obj.loop { rec with state := .ready, pending := none }) = .loop rec := by cases rec; simp_all
                  simp only [Option.isNone_none, if_true]
                  rw [this]
                  exact World.putObj_heap_same hL5
                · simp only [Option.isNone_none, if_true]
                  rw [hhb b hbL, e5.fr b (by have := e3.sz; omega) (fun h => by rcases e3.on _ h with h | h <;> first | exact hnb h | omega), hh4 b hbL]
                  exact e3.fr b hb hnb
              · rcases e5.Fn b hb with h | h | h
                · exact e3.Fn b h
                · exact .inr (.inl (by have := e3.sz; omega))
                · rcases e3.on b h with h | h
                  · exact .inr (.inr h)
                  · exact .inr (.inl h)
              · rcases e5.on b hb with h | h
                · exact e3.on b h
                · exact .inr (by have := e3.sz; omega)
            · refine r5.other (by simp) fun b hb => World.putObj_heap_other fun h => ?_
              subst h
              rcases hb with h | h
              · exact hf5 h
              · exact hl5 h
          | exit id => exact hka5.elim
          | goto l' => exact hka5.elim
          | ret => exact hka5.elim
        | exit id => exact hka.elim
        | goto l' => exact hka.elim
        | ret => exact hka.elim
      · -- behind the loop
        rintro e w2 ⟨v, σ2, own2, F2, rfl, hka, e2, r2, l2⟩
        have hL1 : L < w1.heap.size := (Array.getElem?_eq_some_iff.1 g2).1
        have hrec2 : w2.heap[L]? = some (.loop rec) := (e2.fr _ hL1 hlL).trans g2
        have hl2 : ¬ Lv own2 L := fun h => by rcases e2.on _ h with h | h <;> first | exact hlL h | omega
        have hf2 : ¬ F2 L := fun h => by rcases e2.Fn _ h with h | h | h <;> first | exact hfL h | exact hlL h | omega
        refine ⟨none, _, by have := run_endLoop (P := P) hrec2 (by rw [g3]; simp); rw [g4] at this; exact this, ?_⟩
        obtain ⟨w3, hw3⟩ : ∃ w3, w3 = w2.putObj L (.loop { rec with state := .exhausted, pending := none }) := ⟨_, rfl⟩
        simp only
        rw [← hw3]
        have hh3 : ∀ b, b ≠ L → w3.heap[b]? = w2.heap[b]? := fun b hb => by rw [hw3]; exact World.putObj_heap_other hb
        have hs3 : w2.heap.size = w3.heap.size := by rw [hw3]; simp
        have hfo : ∀ b, F2 b ∨ Lv own2 b → w3.heap[b]? = w2.heap[b]? := fun b hb => hh3 b fun h => by subst h; rcases hb with h | h <;> first | exact hf2 h | exact hl2 h
        have e3 : Ext σ.length own F w own2 F2 w3 := (e1.trans e2).other (by rw [hw3]; rfl) (by rw [hw3]; rfl) (by rw [hw3]; rfl) hs3 fun b hb _ => hh3 b fun h => by subst h; omega
        refine hk .normal env σ2 own2 F2 w3 _ hka e3 (r2.other hs3 hfo) l2 ?_ ?_ (Same.refl _ _)
        · have h0 : ER N own2 F2 w2 env a := he1.ext r1 e2
          have h1 := h0.other (w' := w3) fun b hb => hfo b (.inl hb)
          exact ⟨h1.1, h1.2⟩
        · refine ⟨Ds, rfl, ⟨g15, fun D hD => ?_⟩, fun D hD => (g16 D hD).1⟩
          obtain ⟨q1, q2, q3⟩ := g16 D hD
          have hDl : ¬ Lv own D := by rintro ⟨k, hb⟩; have := r.lb k D hb; omega
          have hDf : ¬ F D := fun h => by have := r.Fb D h; omega
          have hD1 := (Array.getElem?_eq_some_iff.1 q3).1
          refine ⟨?_, fun h => ?_, fun h => ?_⟩
          · rw [hh3 D q2, e2.fr D hD1 hDl]; exact q3
          · rcases e2.Fn _ h with h | h | h <;> first | exact hDf h | exact hDl h | omega
          · rcases e2.on _ h with h | h <;> first | exact hDl h | omega
    unfold cwp at hs
    simp only at hs
    subst hY0
    have hv := he.ev g
    split at hs
    · rename_i f cap hc
      rw [hc] at hv
      generalize hm' : a.eval g = mf at hv
      cases hv with
      | fn _ _ cv hsz hcap => exact key f cap cv hm' hsz hcap hs
    · rename_i f cap hc
      rw [hc] at hv
      generalize hm' : a.eval g = mf at hv
      cases hv with
      | t _ _ hv =>
        cases hv with
        | fn _ _ cv hsz hcap =>
          refine key f (cap.map SV.t) cv hm' (by simpa using hsz) ?_ hs
          intro i x v h1 h2
          simp only [List.getElem?_map] at h1
          cases hc : cap[i]? with
          | none => simp [hc] at h1
          | some y => simp [hc] at h1; subst h1; exact .t _ _ (hcap i y v hc h2)
    · exact hs.elim
  | scope => intro hm ro nn Ka Q own F w σ env a hs; unfold cwp at hs; exact hs.elim
  | refuse => intro hm ro nn Ka Q own F w σ env a hs; unfold cwp at hs; exact hs.elim
end
end Go.Proofs.Ytgladinljapmkaa.Am
