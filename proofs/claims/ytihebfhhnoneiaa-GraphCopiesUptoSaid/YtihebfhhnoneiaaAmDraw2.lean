/- A region whose order is drawn: every order. -/
import Derived.Test.YtihebfhhnoneiaaAmDraw
namespace Go.Proofs.Ytihebfhhnoneiaa.Am
open Go.RowKit
set_option linter.unusedVariables false
set_option linter.unusedSimpArgs false

section
variable {P : Program} {tt : Tab} {I : FuncId → Bool} {own : Nat → Own} {F : Nat → Prop} {w : World} {σ : Sto} {env : Env} {a : Act} {N : Nat} {o : Oper}
variable {next : Act → World → Prop} {Q : Exit → Act → World → Prop}

theorem bdS_mono {A B : Nat → Bool} (h : ∀ k, A k = true → B k = true) : ∀ (n : Nat) (x : SV), bdS A n x = true → bdS B n x = true
  | n, .t x, _ => by cases n <;> rfl
  | n, .ref k e p off len, hx => by cases n <;> exact h k hx
  | n, .pl k e p i off, hx => by cases n <;> exact h k hx
  | n, .mp k e p, hx => by cases n <;> exact h k hx
  | n + 1, .agg xs, hx => List.all_eq_true.2 fun x hm => bdS_mono h n x (List.all_eq_true.1 hx x hm)
  | n + 1, .tup xs, hx => List.all_eq_true.2 fun x hm => bdS_mono h n x (List.all_eq_true.1 hx x hm)
  | n + 1, .fn _ xs, hx => List.all_eq_true.2 fun x hm => bdS_mono h n x (List.all_eq_true.1 hx x hm)
  | n + 1, .g c x, hx => bdS_mono h n x hx
  | 0, .agg xs, hx => by simp [bdS] at hx
  | 0, .tup xs, hx => by simp [bdS] at hx
  | 0, .fn f xs, hx => by simp [bdS] at hx
  | 0, .g c x, hx => by simp [bdS] at hx
theorem isoO_ne {o : SObj} (h : isoO o = true) : o ≠ .dead := by rintro rfl; simp [isoO] at h
theorem isoO_bd {o : SObj} (h : isoO o = true) (A : Nat → Bool) : ∀ x ∈ o.cellsV, bdS A 4 x = true := by
  intro x hx
  simp only [isoO, Bool.and_eq_true] at h
  exact bdS_mono (A := fun _ => false) (fun k hk => by simp at hk) 4 x (List.all_eq_true.1 h.2 x hx)

theorem mskL_at : ∀ (pl : List Sto) (j k : Nat), k < (mskL (fun _ => true) j pl).length → ∃ (j' : Nat) (Δ : Sto) (q : Nat), pl[j']? = some Δ ∧ q < Δ.length ∧ ∀ c, (mskL c j pl)[k]? = if c (j + j') = true then Δ[q]? else some .dead
  | [], j, k, h => by simp [mskL] at h
  | Δ :: pl, j, k, h => by
    have hl : ∀ c : Nat → Bool, (bif c j then Δ else Δ.map fun _ => SObj.dead).length = Δ.length := by intro c; cases c j <;> simp
    rcases Nat.lt_or_ge k Δ.length with hk | hk
    · refine ⟨0, Δ, k, rfl, hk, fun c => ?_⟩
      rw [mskL_cons, List.getElem?_append_left (by rw [hl]; exact hk), Nat.add_zero]
      cases hc : c j with
      | true => rfl
      | false => simp [hk]
    · rw [mskL_cons, List.length_append, cond_true] at h
      obtain ⟨j', Δ', q, h1, h2, h3⟩ := mskL_at pl (j + 1) (k - Δ.length) (by omega)
      refine ⟨j' + 1, Δ', q, by simpa using h1, h2, fun c => ?_⟩
      rw [mskL_cons, List.getElem?_append_right (by rw [hl]; exact hk), hl, h3 c, show j + 1 + j' = j + (j' + 1) by omega]
theorem mskL_len {c c' : Nat → Bool} : ∀ (pl : List Sto) (j : Nat), (mskL c j pl).length = (mskL c' j pl).length
  | [], j => rfl
  | Δ :: pl, j => by
    have hl : ∀ c : Nat → Bool, (bif c j then Δ else Δ.map fun _ => SObj.dead).length = Δ.length := by intro c; cases c j <;> simp
    rw [mskL_cons, mskL_cons, List.length_append, List.length_append, hl, hl, mskL_len pl]
theorem mskL_append {c : Nat → Bool} : ∀ (pl pl' : List Sto) (j : Nat), mskL c j (pl ++ pl') = mskL c j pl ++ mskL c (j + pl.length) pl'
  | [], pl', j => rfl
  | Δ :: pl, pl', j => by
    rw [List.cons_append, mskL_cons, mskL_cons, mskL_append pl, List.append_assoc, List.length_cons, show j + 1 + pl.length = j + (pl.length + 1) by omega]
theorem mskL_congr {c c' : Nat → Bool} : ∀ (pl : List Sto) (j : Nat), (∀ i, i < pl.length → c (j + i) = c' (j + i)) → mskL c j pl = mskL c' j pl
  | [], j, h => rfl
  | Δ :: pl, j, h => by
    have h0 := h 0 (by simp)
    rw [Nat.add_zero] at h0
    have h1 : mskL c (j + 1) pl = mskL c' (j + 1) pl := mskL_congr pl (j + 1) fun i hi => by
      have := h (i + 1) (by simpa using hi)
      rw [show j + (i + 1) = j + 1 + i by omega] at this
      exact this
    rw [mskL_cons, mskL_cons, h0, h1]

theorem mskL_congr' {c c' : Nat → Bool} : ∀ (pl : List Sto) (j : Nat), (∀ (i : Nat) (Δ : Sto), pl[i]? = some Δ → Δ ≠ [] → c (j + i) = c' (j + i)) → mskL c j pl = mskL c' j pl
  | [], j, h => rfl
  | Δ :: pl, j, h => by
    have h1 : mskL c (j + 1) pl = mskL c' (j + 1) pl := mskL_congr' pl (j + 1) fun i Δ' hi hne => by
      have := h (i + 1) Δ' (by simpa using hi) hne
      rw [show j + (i + 1) = j + 1 + i by omega] at this
      exact this
    rw [mskL_cons, mskL_cons, h1]
    cases Δ with
    | nil => cases c j <;> cases c' j <;> rfl
    | cons o Δ =>
      have h0 := h 0 (o :: Δ) rfl (by simp)
      rw [Nat.add_zero] at h0
      rw [h0]
theorem Rel.deads (r : Rel own F w σ) {τ : Sto} (h : ∀ o ∈ τ, o = .dead) : Rel own F w (σ ++ τ) := by
  refine ⟨fun k hk => r.unb k (by rw [List.length_append] at hk; omega), r.inj, r.sep, r.Fb, r.lb, fun k o ho => ?_⟩
  rcases Nat.lt_or_ge k σ.length with hk | hk
  · rw [List.getElem?_append_left hk] at ho
    exact r.obj k o ho
  · rw [List.getElem?_append_right hk] at ho
    rw [h o (List.mem_of_getElem? ho)]
    trivial

/-- What stays the same through one drawn region. -/
structure DC (cc : Nat → Nat → Bool) (P : Program) (ops : Array Oper) (m : Nat) (σ : Sto) (Q : Exit → Act → World → Prop) (E : Env) (val : Nat → SV) (pl : List Sto) (W : List Nat) (σs : Nat → Sto) : Prop where
  hm : m ≤ ops.size
  dlt : ∀ i o, ops[i]? = some o → ∀ j ∈ depsOf o, j < i
  rd : ∀ i o, i < m → ops[i]? = some o → ∀ t ∈ readsOf ops.toList o, ∀ j oj, j < m → ops[j]? = some oj → oj.dst = some t → j ∈ depsOf o
  cov : ∀ i o, m ≤ i → ops[i]? = some o → cover ops.toList i (depsOf o) = true
  ev : ∀ i o d, i < m → ops[i]? = some o → o.dst = some d → E d = val i
  len : pl.length = m
  base : ∀ o ∈ σ, ∀ x ∈ o.cellsV, bdS (fun k => Nat.blt k σ.length) 4 x = true
  fact : ∀ i o Δ, i < m → ops[i]? = some o → pl[i]? = some Δ → W.contains i = false → FactX cc P ops σ Q i o E (val i) Δ (pl.take i)
  cw : ∀ i j, cc i j = true → depC ops.toList i j = true
  s0 : σs 0 = σ ++ mskL (fun _ => true) 0 pl
  sl : ∀ k, k ≤ W.length → σ.length ≤ (σs k).length
  wlt : ∀ (k w : Nat), W[k]? = some w → w < m
  wch : ∀ (k k' w w' : Nat), k < k' → W[k]? = some w → W[k']? = some w' → w ≠ w' ∧ depB ops.toList (w' + 1) w' w = true
  wps : ∀ (k w j : Nat) (Δ : Sto), W[k]? = some w → pl[j]? = some Δ → Δ ≠ [] → depB ops.toList (w + 1) w j = true
  wnl : ∀ (k w : Nat), W[k]? = some w → pl[w]? = some []
  wf : ∀ (k w : Nat), W[k]? = some w → ∃ o, ops[w]? = some o ∧ o.dst = none ∧ FactW P ops (σs k) (σs (k + 1)) Q w o E ∧ (σs k).length ≤ (σs (k + 1)).length ∧
    ∀ j o, j < m → ops[j]? = some o → W.contains j = false → depB ops.toList (w + 1) w j = false → ∃ d, o.dst = some d ∧ FactP P ops (σs (k + 1)) [] Q j o E (E d)

/-- Between two operations. -/
structure DI (ops : Array Oper) (m : Nat) (σ : Sto) (E : Env) (pl : List Sto) (W : List Nat) (σs : Nat → Sto) (N : Nat) (own0 : Nat → Own) (F0 : Nat → Prop) (w0 : World) (a0 : Act) (M : List Nat)
    (listed : Array Bool) (own : Nat → Own) (F : Nat → Prop) (w : World) (a : Act) (p : Nat) : Prop where
  sz : listed.size = ops.size
  cl : ∀ i o, ops[i]? = some o → listed.getD i true = true → ∀ j ∈ depsOf o, listed.getD j true = true
  un : ∀ i, m ≤ i → i < ops.size → listed.getD i true = false
  pw : p ≤ W.length
  ph : ∀ (k w : Nat), W[k]? = some w → (listed.getD w true = true ↔ k < p)
  rel0 : p = 0 → Rel own F w (σ ++ mskL (fun j => listed.getD j true) 0 pl)
  relp : p ≠ 0 → Rel own F w (σs p)
  nof : p = 0 → ∀ k, σ.length ≤ k → (σ ++ mskL (fun j => listed.getD j true) 0 pl)[k]? = some .dead → own k = .no
  ext : Ext σ.length own0 F0 w0 own F w
  tsz : a.tmps.size = N
  dfr : a.defers = a0.defers
  same : Same M a0 a
  tm : ∀ t, (∀ j o, j < m → ops[j]? = some o → o.dst = some t → listed.getD j true = true) → VS own F w (E t) (a.tmps.getD t undef)

theorem depB_listed {ops : Array Oper} {listed : Array Bool} (cl : ∀ i o, ops[i]? = some o → listed.getD i true = true → ∀ j ∈ depsOf o, listed.getD j true = true) (j : Nat) : ∀ (f i : Nat), (∀ o, ops[i]? = some o → ∀ k ∈ depsOf o, listed.getD k true = true) → depB ops.toList f i j = true → listed.getD j true = true
  | 0, i, h, hd => by simp [depB] at hd
  | f + 1, i, h, hd => by
    unfold depB at hd
    rw [nth_eq, Array.getElem?_toList] at hd
    cases ho : ops[i]? with
    | none => rw [ho] at hd; simp at hd
    | some o =>
      rw [ho] at hd
      obtain ⟨k, hk, hq⟩ := List.any_eq_true.1 hd
      have hl := h o ho k hk
      simp only [Bool.or_eq_true, Bool.and_eq_true] at hq
      rcases hq with hq | ⟨_, hq⟩
      · rw [← Nat.eq_of_beq_eq_true hq]; exact hl
      · exact depB_listed cl j f k (fun o' ho' => cl k o' ho' hl) hq

theorem mem_depsOf {o : Oper} {j : Nat} : j ∈ depsOf o ↔ ∃ e ∈ o.after, Region.binds .any e = true ∧ e.on = j := by
  unfold depsOf
  simp [List.mem_map, List.mem_filter]
  constructor
  · rintro ⟨e, ⟨h1, h2⟩, h3⟩; exact ⟨e, by simpa using h1, h2, h3⟩
  · rintro ⟨e, h1, h2, h3⟩; exact ⟨e, ⟨by simpa using h1, h2⟩, h3⟩

theorem ready_iff {ops : Array Oper} {listed : Array Bool} (hsz : listed.size = ops.size) {i : Nat} (hd : ∀ o, ops[i]? = some o → ∀ j ∈ depsOf o, j < i) :
    i ∈ Region.ready .any ops listed ↔ listed.getD i true = false ∧ ∃ o, ops[i]? = some o ∧ ∀ j ∈ depsOf o, listed.getD j true = true := by
  rw [mem_ready]
  constructor
  · rintro ⟨h1, o, ho, h2⟩
    refine ⟨h1, o, ho, fun j hj => ?_⟩
    obtain ⟨e, he, hb, rfl⟩ := mem_depsOf.1 hj
    have := h2 e he hb
    simp only [Array.getD_eq_getD_getElem?] at this ⊢
    cases hq : listed[e.on]? with
    | none => rfl
    | some b => rw [hq] at this; exact this
  · rintro ⟨h1, o, ho, h2⟩
    refine ⟨h1, o, ho, fun e he hb => ?_⟩
    have hj := mem_depsOf.2 ⟨e, he, hb, rfl⟩
    have hlt := hd o ho _ hj
    have hi : i < ops.size := (Array.getElem?_eq_some_iff.1 ho).1
    have := h2 _ hj
    simp only [Array.getD_eq_getD_getElem?, Array.getElem?_eq_getElem (show e.on < listed.size by omega)] at this ⊢
    exact this

theorem cover_all {ops : Array Oper} {listed : Array Bool} (cl : ∀ i o, ops[i]? = some o → listed.getD i true = true → ∀ j ∈ depsOf o, listed.getD j true = true) :
    ∀ (j : Nat) (s : List Nat), cover ops.toList j s = true → (∀ x ∈ s, listed.getD x true = true) → ∀ k, k < j → listed.getD k true = true
  | 0, _, _, _, k, hk => by omega
  | j + 1, s, h, hs, k, hk => by
    simp only [cover, Bool.and_eq_true, List.contains_iff_mem] at h
    have hj := hs j h.1
    by_cases hkj : k = j
    · rw [hkj]; exact hj
    · refine cover_all cl j _ h.2 ?_ k (by omega)
      intro x hx
      rcases List.mem_append.1 hx with hx | hx
      · split at hx
        · rename_i o ho
          rw [nth_eq, Array.getElem?_toList] at ho
          exact cl j o ho hj x hx
        · simp at hx
      · exact hs x hx

theorem getD_set {listed : Array Bool} {i j : Nat} (hi : i < listed.size) : (listed.setIfInBounds i true).getD j true = true ↔ j = i ∨ listed.getD j true = true := by
  simp only [Array.getD_eq_getD_getElem?, Array.getElem?_setIfInBounds]
  by_cases h : i = j
  · subst h; simp [hi]
  · rw [if_neg h]; simp [Ne.symm h]

theorem getD_set_f {listed : Array Bool} {i j : Nat} (hi : i < listed.size) (h : (listed.setIfInBounds i true).getD j true = false) : j ≠ i ∧ listed.getD j true = false := by
  have := (not_congr (getD_set (j := j) hi)).1 (by rw [h]; simp)
  simp only [not_or, Bool.not_eq_true] at this
  exact this

/-- From place p on the order is the text's. -/
theorem wpAny_tail {ops : Array Oper} {m : Nat} (dlt : ∀ i o, ops[i]? = some o → ∀ j ∈ depsOf o, j < i) (cov : ∀ i o, m ≤ i → ops[i]? = some o → cover ops.toList i (depsOf o) = true) :
    ∀ (fuel p : Nat) (listed : Array Bool) (a : Act) (w : World), m ≤ p → p ≤ ops.size → ops.size - p ≤ fuel → listed.size = ops.size → (∀ i, i < p → listed.getD i true = true) → (∀ i, p ≤ i → i < ops.size → listed.getD i true = false) →
      wpOps P ops Q (List.range' p (ops.size - p)) a w → wpAny P .any ops Q fuel listed a w := by
  have noready : ∀ (listed : Array Bool), (∀ i, i < ops.size → listed.getD i true = true) → Region.ready .any ops listed = [] := by
    intro listed h
    rw [List.eq_nil_iff_forall_not_mem]
    intro i hi
    obtain ⟨h1, o, ho, _⟩ := mem_ready.1 hi
    rw [h i (Array.getElem?_eq_some_iff.1 ho).1] at h1
    simp at h1
  intro fuel
  induction fuel with
  | zero =>
    intro p listed a w hmp hp hf hsz hl hu h
    have : p = ops.size := by omega
    subst this
    refine ⟨noready listed hl, ?_⟩
    simpa [wpOps] using h
  | succ fuel ih =>
    intro p listed a w hmp hp hf hsz hl hu h
    have rdy : ∀ i ∈ Region.ready .any ops listed, i = p := by
      intro i hi
      have hi' := hi
      obtain ⟨_, o, ho, _⟩ := mem_ready.1 hi'
      obtain ⟨h1, o', ho', h2⟩ := (ready_iff hsz (dlt i)).1 hi
      rw [ho] at ho'; cases ho'
      have hip : p ≤ i := by
        rcases Nat.lt_or_ge i p with h' | h'
        · rw [hl i h'] at h1; simp at h1
        · exact h'
      have cl : ∀ i o, ops[i]? = some o → listed.getD i true = true → ∀ j ∈ depsOf o, listed.getD j true = true := by
        intro i o ho h3 j hj
        have hlt : i < ops.size := (Array.getElem?_eq_some_iff.1 ho).1
        have := dlt i o ho j hj
        refine hl j ?_
        rcases Nat.lt_or_ge i p with h' | h'
        · omega
        · rw [hu i h' hlt] at h3; simp at h3
      have := cover_all cl i _ (cov i o (by omega) ho) h2
      rcases Nat.lt_or_ge p i with h' | h'
      · have h4 := this p h'
        rw [hu p (Nat.le_refl _) (by have := (Array.getElem?_eq_some_iff.1 ho).1; omega)] at h4
        simp at h4
      · omega
    by_cases hpn : p = ops.size
    · subst hpn
      refine ⟨fun _ => by simpa [wpOps] using h, fun i hi => ?_⟩
      rw [noready listed hl] at hi
      simp at hi
    · have hlt : p < ops.size := by omega
      have hpr : p ∈ Region.ready .any ops listed := by
        refine (ready_iff hsz (dlt p)).2 ⟨hu p (Nat.le_refl _) hlt, ops[p], Array.getElem?_eq_getElem hlt, fun j hj => hl j (dlt p _ (Array.getElem?_eq_getElem hlt) j hj)⟩
      refine ⟨fun e => by rw [e] at hpr; simp at hpr, fun i hi => ?_⟩
      have := rdy i hi
      subst this
      have hr : List.range' i (ops.size - i) = i :: List.range' (i + 1) (ops.size - (i + 1)) := by
        rw [show ops.size - i = (ops.size - (i + 1)) + 1 by omega, List.range'_succ]
      rw [hr, wpOps_cons] at h
      refine wpOp_mono (fun a' w' h' => ih (i + 1) _ a' w' (by omega) (by omega) (by omega) (by simpa using hsz) ?_ ?_ h') h
      · intro j hj
        rw [getD_set (by omega)]
        rcases Nat.lt_or_ge j i with h' | h'
        · exact .inr (hl j h')
        · exact .inl (by omega)
      · intro j hj hjn
        rw [getD_set_ne true (by omega)]
        exact hu j (by omega) hjn

theorem draw_run {cc : Nat → Nat → Bool} {ops : Array Oper} {m : Nat} {E : Env} {val : Nat → SV} {pl : List Sto} {W : List Nat} {σs : Nat → Sto} {own0 : Nat → Own} {F0 : Nat → Prop} {w0 : World} {a0 : Act} {M : List Nat} (c : DC cc P ops m σ Q E val pl W σs)
    (hdN : ∀ o ∈ ops.toList, ∀ d, o.dst = some d → d < N) (hM : ∀ o ∈ ops.toList, ∀ d, o.dst = some d → d ∈ M)
    (fin : ∀ (listed : Array Bool) own F w a p, DI ops m σ E pl W σs N own0 F0 w0 a0 M listed own F w a p → (∀ i, i < m → listed.getD i true = true) → wpOps P ops Q (List.range' m (ops.size - m)) a w) :
    ∀ (fuel : Nat) (L : List Nat) (listed : Array Bool) own F w a p, L.length + (ops.size - m) ≤ fuel → (∀ i, i < m → listed.getD i true = false → i ∈ L) → DI ops m σ E pl W σs N own0 F0 w0 a0 M listed own F w a p → wpAny P .any ops Q fuel listed a w := by
  intro fuel
  induction fuel with
  | zero =>
    intro L listed own F w a p hL hun di
    have : L = [] := by cases L with | nil => rfl | cons => simp at hL
    subst this
    have hall : ∀ i, i < m → listed.getD i true = true := by
      intro i hi
      cases hq : listed.getD i true with
      | true => rfl
      | false => have := hun i hi hq; simp at this
    exact wpAny_tail c.dlt c.cov 0 m listed a w (Nat.le_refl _) c.hm (by omega) di.sz hall di.un (fin listed own F w a p di hall)
  | succ fuel ih =>
    intro L listed own F w a p hL hun di
    by_cases hall : ∀ i, i < m → listed.getD i true = true
    · exact wpAny_tail c.dlt c.cov (fuel + 1) m listed a w (Nat.le_refl _) c.hm (by omega) di.sz hall di.un (fin listed own F w a p di hall)
    · have hex : ∃ i, i < m ∧ listed.getD i true = false := by
        apply Classical.byContradiction
        intro h
        apply hall
        intro i hi
        cases hq : listed.getD i true with
        | true => rfl
        | false => exact absurd ⟨i, hi, hq⟩ h
      have hm := c.hm
      have rlt : ∀ i ∈ Region.ready .any ops listed, i < m := by
        intro i hi
        obtain ⟨h1, o, ho, h2⟩ := (ready_iff di.sz (c.dlt i)).1 hi
        rcases Nat.lt_or_ge i m with h | h
        · exact h
        · obtain ⟨k, hk, hk2⟩ := hex
          have := cover_all di.cl i _ (c.cov i o h ho) h2 k (by omega)
          rw [hk2] at this; simp at this
      have hne : Region.ready .any ops listed ≠ [] := by
        have key : ∀ n i, i ≤ n → i < m → listed.getD i true = false → ∃ j, j ∈ Region.ready .any ops listed := by
          intro n
          induction n with
          | zero =>
            intro i hi him hf
            have : i = 0 := by omega
            subst this
            exact ⟨0, (ready_iff di.sz (c.dlt 0)).2 ⟨hf, ops[0], Array.getElem?_eq_getElem (by omega), fun j hj => by have := c.dlt 0 _ (Array.getElem?_eq_getElem (by omega)) j hj; omega⟩⟩
          | succ n ihn =>
            intro i hi him hf
            by_cases hd : ∀ j ∈ depsOf ops[i], listed.getD j true = true
            · exact ⟨i, (ready_iff di.sz (c.dlt i)).2 ⟨hf, ops[i], Array.getElem?_eq_getElem (by omega), hd⟩⟩
            · have : ∃ j, j ∈ depsOf ops[i] ∧ listed.getD j true = false := by
                apply Classical.byContradiction
                intro h
                apply hd
                intro j hj
                cases hq : listed.getD j true with
                | true => rfl
                | false => exact absurd ⟨j, hj, hq⟩ h
              obtain ⟨j, hj, hjf⟩ := this
              have := c.dlt i _ (Array.getElem?_eq_getElem (by omega)) j hj
              exact ihn j (by omega) (by omega) hjf
        obtain ⟨i, hi, hf⟩ := hex
        obtain ⟨j, hj⟩ := key i i (Nat.le_refl _) hi hf
        intro e
        rw [e] at hj
        simp at hj
      refine ⟨fun e => absurd e hne, fun i hi => ?_⟩
      have him := rlt i hi
      obtain ⟨h1, o, ho, h2⟩ := (ready_iff di.sz (c.dlt i)).1 hi
      have hlt : i < ops.size := (Array.getElem?_eq_some_iff.1 ho).1
      have hmem : o ∈ ops.toList := by rw [Array.mem_toList_iff]; exact Array.mem_of_getElem? ho
      -- the next state
      have hunL : (L.erase i).length + (ops.size - m) ≤ fuel := by
        have := List.length_erase_of_mem (hun i him h1)
        have := List.length_pos_of_mem (hun i him h1)
        omega
      have hset0 : ∀ j, (listed.setIfInBounds i true).getD j true = true ↔ j = i ∨ listed.getD j true = true := fun j => getD_set (by rw [di.sz]; exact hlt)
      have hunS : ∀ j, j < m → (listed.setIfInBounds i true).getD j true = false → j ∈ L.erase i := by
        intro j hj hjf
        obtain ⟨h3, h4⟩ := getD_set_f (by rw [di.sz]; exact hlt) hjf
        exact (List.mem_erase_of_ne h3).2 (hun j hj h4)
      have hclS : ∀ k ok, ops[k]? = some ok → (listed.setIfInBounds i true).getD k true = true → ∀ j ∈ depsOf ok, (listed.setIfInBounds i true).getD j true = true := by
        intro k ok hok hk j hj
        rw [hset0] at hk ⊢
        rcases hk with rfl | hk
        · rw [ho] at hok; cases hok
          exact .inr (h2 j hj)
        · exact .inr (di.cl k ok hok hk j hj)
      have hunU : ∀ k, m ≤ k → k < ops.size → (listed.setIfInBounds i true).getD k true = false := by
        intro k hk hkn
        have h3 := di.un k hk hkn
        cases hq : (listed.setIfInBounds i true).getD k true with
        | false => rfl
        | true =>
          rcases (hset0 k).1 hq with h | h
          · omega
          · rw [h3] at h; exact nomatch h
      have hgetS : ∀ (mv : Value) (t : Nat), o.dst = some t → (a.put o.dst mv).tmps.getD t undef = mv := by
        intro mv t hto
        rw [hto]
        simp [Act.put, Array.getD_eq_getD_getElem?, Array.getElem?_setIfInBounds, di.tsz, hdN o hmem t hto]
      have hgetO : ∀ (mv : Value) (t : Nat), o.dst ≠ some t → (a.put o.dst mv).tmps.getD t undef = a.tmps.getD t undef := by
        intro mv t hto
        cases hd : o.dst with
        | none => rfl
        | some d =>
          have hdt : d ≠ t := fun e => hto (by rw [hd, e])
          simp [Act.put, Array.getD_eq_getD_getElem?, Array.getElem?_setIfInBounds, hdt]
      have htmO : ∀ (t : Nat), o.dst ≠ some t → (∀ j oj, j < m → ops[j]? = some oj → oj.dst = some t → (listed.setIfInBounds i true).getD j true = true) → VS own F w (E t) (a.tmps.getD t undef) := by
        intro t hto htw
        refine di.tm t fun j oj hj hoj hdj => ?_
        have h3 := htw j oj hj hoj hdj
        rw [hset0] at h3
        rcases h3 with rfl | h3
        · rw [ho] at hoj; cases hoj; exact absurd hdj hto
        · exact h3
      cases hWi : W.contains i with
      | true =>
        -- a write
        obtain ⟨k, hk⟩ := List.getElem?_of_mem (by simpa using hWi : i ∈ W)
        have hnk : ¬ k < p := fun h => by have := (di.ph k i hk).2 h; rw [h1] at this; exact nomatch this
        have hkp : k = p := by
          rcases Nat.lt_or_ge p k with h | h
          · have hpl' : p < W.length := by have := (List.getElem?_eq_some_iff.1 hk).1; omega
            have hwp := List.getElem?_eq_getElem hpl'
            have h3 := (c.wch p k _ i h hwp hk).2
            have h4 := depB_listed di.cl _ _ i (fun o' ho' => by rw [ho] at ho'; cases ho'; exact h2) h3
            have := (di.ph p _ hwp).1 h4
            omega
          · omega
        subst hkp
        obtain ⟨o', ho', hd, hfw, hle, _⟩ := c.wf k i hk
        rw [ho] at ho'; cases ho'
        have hrel : Rel own F w (σs k) := by
          by_cases hp : k = 0
          · have := di.rel0 hp
            rw [hp, c.s0]
            have e : mskL (fun j => listed.getD j true) 0 pl = mskL (fun _ => true) 0 pl := mskL_congr' _ _ fun j Δ hj hne => by
              rw [Nat.zero_add]
              exact depB_listed di.cl _ _ i (fun o' ho' => by rw [ho] at ho'; cases ho'; exact h2) (c.wps k i j Δ hk hj hne)
            rw [← e]; exact this
          · exact di.relp hp
        refine hfw own F w a _ hrel (fun t ht => di.tm t fun j oj hj hoj hdj => h2 j (c.rd i o him ho t ht j oj hj hoj hdj)) ?_
        intro own' F' w' mv ex r'
        refine ih (L.erase i) _ own' F' w' _ (k + 1) hunL hunS ⟨by simpa using di.sz, hclS, hunU, (List.getElem?_eq_some_iff.1 hk).1, fun k' w1 hk' => ?_, fun h => absurd h (by omega), fun _ => r', fun h => absurd h (by omega), di.ext.trans (ex.mono (c.sl k di.pw)), ?_, ?_, di.same.trans (Same.put a (hM o hmem) mv), fun t htw => ?_⟩
        · rw [hset0, di.ph k' w1 hk']
          constructor
          · rintro (h | h)
            · subst h
              rcases Nat.lt_trichotomy k' k with h3 | h3 | h3
              · exact absurd rfl (c.wch k' k _ _ h3 hk' hk).1
              · omega
              · exact absurd rfl (c.wch k k' _ _ h3 hk hk').1
            · omega
          · intro h
            rcases Nat.eq_or_lt_of_le (Nat.le_of_lt_succ h) with h3 | h3
            · subst h3
              rw [hk] at hk'
              injection hk' with hk'
              exact .inl hk'.symm
            · exact .inr h3
        · cases hd' : o.dst <;> simp [Act.put, di.tsz]
        · cases hd' : o.dst <;> exact di.dfr
        · rw [hgetO mv t (by rw [hd]; simp)]
          exact (htmO t (by rw [hd]; simp) htw).ext hrel ex
      | false =>
      have hWne : ∀ (k' w1 : Nat), W[k']? = some w1 → w1 ≠ i := by
        rintro k' w1 hk' rfl
        have : W.contains w1 = true := by simpa using List.mem_of_getElem? hk'
        rw [hWi] at this
        exact nomatch this
      have hphS : ∀ (k' w1 : Nat), W[k']? = some w1 → ((listed.setIfInBounds i true).getD w1 true = true ↔ k' < p) := by
        intro k' w1 hk'
        rw [hset0, di.ph k' w1 hk']
        constructor
        · rintro (h | h)
          · exact absurd h (hWne k' w1 hk')
          · exact h
        · exact .inr
      by_cases hp : p = 0
      case neg =>
        -- behind a write
        have hp1 : p - 1 < W.length := by have := di.pw; omega
        have hwp := List.getElem?_eq_getElem hp1
        have hwl := (di.ph (p - 1) _ hwp).2 (by omega)
        obtain ⟨ow, how, _, _, _, hlate⟩ := c.wf (p - 1) _ hwp
        have hnd : depB ops.toList (W[p - 1] + 1) W[p - 1] i = false := by
          cases hq : depB ops.toList (W[p - 1] + 1) W[p - 1] i with
          | false => rfl
          | true =>
            have := depB_listed di.cl _ _ _ (fun o' ho' => di.cl _ o' ho' hwl) hq
            rw [h1] at this
            exact nomatch this
        obtain ⟨d, hd, hfp⟩ := hlate i o him ho hWi hnd
        rw [show p - 1 + 1 = p by omega] at hfp
        refine hfp own F w a _ (di.relp hp) (fun t ht => di.tm t fun j oj hj hoj hdj => h2 j (c.rd i o him ho t ht j oj hj hoj hdj)) ?_
        intro own' F' w' mv ex r' hv
        rw [List.append_nil] at r'
        refine ih (L.erase i) _ own' F' w' _ p hunL hunS ⟨by simpa using di.sz, hclS, hunU, di.pw, hphS, fun h => absurd h hp, fun _ => r', fun h => absurd h hp, di.ext.trans (ex.mono (c.sl p di.pw)), ?_, ?_, di.same.trans (Same.put a (hM o hmem) mv), fun t htw => ?_⟩
        · cases hd' : o.dst <;> simp [Act.put, di.tsz]
        · cases hd' : o.dst <;> exact di.dfr
        · by_cases hto : o.dst = some t
          · rw [hgetS mv t hto]
            rw [hd] at hto
            injection hto with hto
            rw [← hto]; exact hv
          · rw [hgetO mv t hto]
            exact (htmO t hto htw).ext (di.relp hp) ex
      case pos =>
      have hpi : pl[i]? = some (pl[i]'(by rw [c.len]; exact him)) := List.getElem?_eq_getElem (by rw [c.len]; exact him)
      obtain ⟨Δ, hΔ⟩ : ∃ Δ, pl[i]? = some Δ := ⟨_, hpi⟩
      have fx := c.fact i o Δ him ho hΔ hWi
      have hlt' : (pl.take i).length = i := by rw [List.length_take, c.len]; omega
      have hfo := fx.opd
      have hfv := fx.val
      have hff := fx.fact
      rw [hlt'] at hfo hfv hff
      obtain ⟨D, hD⟩ : ∃ D, D = cc i := ⟨_, rfl⟩
      rw [← hD] at hfo hfv hff
      have hDl : ∀ j, D j = true → listed.getD j true = true := by
        intro j hj
        rw [hD] at hj
        exact depB_listed di.cl j _ i (fun o' ho' => by rw [ho] at ho'; cases ho'; exact h2) (c.cw i j hj)
      -- the whole, in three parts
      have hpl : pl = pl.take i ++ Δ :: pl.drop (i + 1) := by
        have h3 : pl.drop i = Δ :: pl.drop (i + 1) := by
          have h4 : i < pl.length := by rw [c.len]; exact him
          rw [List.drop_eq_getElem_cons h4]
          rw [List.getElem?_eq_getElem h4] at hΔ
          injection hΔ with hΔ
          rw [hΔ]
        rw [← h3, List.take_append_drop]
      have hm3 : ∀ cc : Nat → Bool, mskL cc 0 pl = mskL cc 0 (pl.take i) ++ ((bif cc i then Δ else Δ.map fun _ => SObj.dead) ++ mskL cc (i + 1) (pl.drop (i + 1))) := by
        intro cc
        conv => lhs; rw [hpl]
        rw [mskL_append, hlt', Nat.zero_add, mskL_cons]
      have hblen : ∀ cc : Nat → Bool, (bif cc i then Δ else Δ.map fun _ => SObj.dead).length = Δ.length := by intro cc; cases cc i <;> simp
      obtain ⟨σB, hσB⟩ : ∃ σB, σB = σ ++ mskL D 0 (pl.take i) := ⟨_, rfl⟩
      rw [← hσB] at hfo hfv hff
      have hBl : ∀ cc : Nat → Bool, σB.length = σ.length + (mskL cc 0 (pl.take i)).length := by intro cc; rw [hσB, List.length_append, mskL_len (c := D) (c' := cc)]
      obtain ⟨A, hA⟩ : ∃ A, A = aliv σ.length σB := ⟨_, rfl⟩
      rw [← hA] at hfo
      have hAi : ∀ k, A k = true ↔ k < σ.length ∨ ∃ o, σB[k]? = some o ∧ o ≠ .dead := by
        intro k
        rw [hA]
        unfold aliv
        rw [Bool.or_eq_true, nth_eq]
        constructor
        · rintro (h | h)
          · exact .inl (Nat.le_of_ble_eq_true h)
          · split at h
            · simp at h
            · rename_i o' hn ho'
              exact .inr ⟨o', ho', fun e => hn e⟩
            · simp at h
        · rintro (h | ⟨o', ho', hne⟩)
          · exact .inl (Nat.ble_eq_true_of_le h)
          · refine .inr ?_
            rw [ho']
            cases o' <;> first | rfl | exact absurd rfl hne
      have hAlt : ∀ k, A k = true → k < σB.length := by
        intro k hk
        rcases (hAi k).1 hk with h | ⟨o', ho', _⟩
        · have := hBl D; omega
        · exact (List.getElem?_eq_some_iff.1 ho').1
      have hbase : ∀ (B : Nat → Bool), (∀ k, k < σ.length → B k = true) → ∀ o ∈ σ, ∀ x ∈ o.cellsV, bdS B 4 x = true := fun B hB o' ho' x hx => bdS_mono (fun k hk => hB k (Nat.le_of_ble_eq_true hk)) 4 x (c.base o' ho' x hx)
      -- an object among those that were put there
      have hat : ∀ k, σ.length ≤ k → k < σB.length → ∃ (j : Nat) (Δj : Sto) (q : Nat) (oj : SObj), j < i ∧ pl[j]? = some Δj ∧ Δj[q]? = some oj ∧ isoO oj = true ∧ σB[k]? = (if D j = true then some oj else some .dead) ∧
          ∀ (cc : Nat → Bool) (τ : Sto), (σ ++ (mskL cc 0 (pl.take i) ++ τ))[k]? = (if cc j = true then some oj else some .dead) := by
        intro k hk hkl
        have hq : k - σ.length < (mskL (fun _ => true) 0 (pl.take i)).length := by have := hBl fun _ => true; omega
        obtain ⟨j, Δj, q, g1, g2, g3⟩ := mskL_at (pl.take i) 0 (k - σ.length) hq
        have hji : j < i := by have := (List.getElem?_eq_some_iff.1 g1).1; omega
        have hpj : pl[j]? = some Δj := by rw [List.getElem?_take_of_lt hji] at g1; exact g1
        have hjm : j < m := by omega
        obtain ⟨oo, hoo⟩ : ∃ oo, ops[j]? = some oo := ⟨_, Array.getElem?_eq_getElem (by omega)⟩
        have hWj : W.contains j = false := by
          cases hq : W.contains j with
          | false => rfl
          | true =>
            obtain ⟨k', hk'⟩ := List.getElem?_of_mem (by simpa using hq : j ∈ W)
            have := c.wnl k' j hk'
            rw [hpj] at this
            injection this with this
            subst this
            simp at g2
        have hiso := (c.fact j oo Δj hjm hoo hpj hWj).iso
        refine ⟨j, Δj, q, Δj[q], hji, hpj, List.getElem?_eq_getElem g2, List.all_eq_true.1 hiso _ (List.getElem_mem _), ?_, fun cc τ => ?_⟩
        · rw [hσB, List.getElem?_append_right hk, g3 D, Nat.zero_add, List.getElem?_eq_getElem g2]
        · have hc : k - σ.length < (mskL cc 0 (pl.take i)).length := by rw [mskL_len (c := cc) (c' := fun _ => true)]; exact hq
          rw [List.getElem?_append_right hk, List.getElem?_append_left hc, g3 cc, Nat.zero_add, List.getElem?_eq_getElem g2]
      have hrel := di.rel0 hp
      have hnof := di.nof hp
      rw [hm3] at hrel hnof
      have hli : listed.getD i true = false := h1
      have part : Rel (ownA own A) F w σB := by
        refine hrel.part hAlt fun k o' hk => ?_
        rcases Nat.lt_or_ge k σ.length with hks | hks
        · right
          have h5 : σ[k]? = some o' := by rw [hσB, List.getElem?_append_left hks] at hk; exact hk
          exact ⟨(hAi k).2 (.inl hks), by rw [List.getElem?_append_left hks]; exact h5, hbase A (fun k hk => (hAi k).2 (.inl hk)) o' (List.mem_of_getElem? h5)⟩
        · obtain ⟨j, Δj, q, oj, g1, g2, g3, g4, g5, g6⟩ := hat k hks (List.getElem?_eq_some_iff.1 hk).1
          rw [hk] at g5
          cases hDj : D j with
          | false => rw [hDj] at g5; simp at g5; exact .inl g5
          | true =>
            rw [hDj] at g5
            simp at g5
            subst g5
            exact .inr ⟨(hAi k).2 (.inr ⟨o', hk, isoO_ne g4⟩), by rw [g6, if_pos (hDl j hDj)], isoO_bd g4 A⟩
      refine hff (ownA own A) F w a _ part ?_ ?_
      · intro t ht
        refine bdS_VS (fun _ _ h => h) (fun k hk e p L hL => by rw [ownA_in hk]; exact hL) 4 _ _ (hfo t ht) (di.tm t fun j oj hj hoj hdj => ?_)
        exact h2 j (c.rd i o him ho t ht j oj hj hoj hdj)
      · intro own1 F1 w1 mv ex r1 hv
        have hΔiso : ∀ o' ∈ Δ, isoO o' = true := fun o' h => List.all_eq_true.1 fx.iso o' h
        obtain ⟨A', hA'd⟩ : ∃ A', A' = aliv σ.length (σB ++ Δ) := ⟨_, rfl⟩
        rw [← hA'd] at hfv
        have hA' : ∀ k, A' k = true ↔ A k = true ∨ (σB.length ≤ k ∧ k < σB.length + Δ.length) := by
          intro k
          rw [hA'd]
          unfold aliv
          rw [Bool.or_eq_true, nth_eq, hAi]
          constructor
          · rintro (h | h)
            · exact .inl (.inl (Nat.le_of_ble_eq_true h))
            · split at h
              · simp at h
              · rename_i o' hn ho'
                rcases Nat.lt_or_ge k σB.length with hk | hk
                · rw [List.getElem?_append_left hk] at ho'
                  exact .inl (.inr ⟨o', ho', fun e => hn e⟩)
                · have := (List.getElem?_eq_some_iff.1 ho').1
                  rw [List.length_append] at this
                  exact .inr ⟨hk, this⟩
              · simp at h
          · rintro ((h | ⟨o', ho', hne⟩) | ⟨h3, h4⟩)
            · exact .inl (Nat.ble_eq_true_of_le h)
            · refine .inr ?_
              rw [List.getElem?_append_left (List.getElem?_eq_some_iff.1 ho').1, ho']
              cases o' <;> first | rfl | exact absurd rfl hne
            · refine .inr ?_
              rw [List.getElem?_append_right h3, List.getElem?_eq_getElem (show k - σB.length < Δ.length by omega)]
              have := isoO_ne (hΔiso _ (List.getElem_mem (show k - σB.length < Δ.length by omega)))
              cases hq : Δ[k - σB.length] <;> first | rfl | (rw [hq] at this; exact absurd rfl this)
        obtain ⟨l', hl'⟩ : ∃ l' : Array Bool, l' = listed.setIfInBounds i true := ⟨_, rfl⟩
        have hset : ∀ j, l'.getD j true = true ↔ j = i ∨ listed.getD j true = true := fun j => by rw [hl']; exact getD_set (by rw [di.sz]; exact hlt)
        have hsame : ∀ j, j ≠ i → l'.getD j true = listed.getD j true := by
          intro j hj
          rw [Bool.eq_iff_iff, hset]
          constructor
          · rintro (h | h)
            · exact absurd h hj
            · exact h
          · exact .inr
        have hli' : l'.getD i true = true := (hset i).2 (.inl rfl)
        -- the memory behind it, told by places
        have hCk : ∀ k, (σ ++ mskL (fun j => l'.getD j true) 0 pl)[k]? = if A' k = true then (σB ++ Δ)[k]? else (σ ++ (mskL (fun j => listed.getD j true) 0 (pl.take i) ++ ((bif listed.getD i true then Δ else Δ.map fun _ => SObj.dead) ++ mskL (fun j => listed.getD j true) (i + 1) (pl.drop (i + 1)))))[k]? := by
          intro k
          rw [hm3]
          have hrest : mskL (fun j => l'.getD j true) (i + 1) (pl.drop (i + 1)) = mskL (fun j => listed.getD j true) (i + 1) (pl.drop (i + 1)) := mskL_congr _ _ fun q _ => hsame _ (by omega)
          rw [hrest, hli', hli, cond_true, cond_false]
          rcases Nat.lt_or_ge k σ.length with hks | hks
          · rw [if_pos ((hA' k).2 (.inl ((hAi k).2 (.inl hks)))), List.getElem?_append_left hks, List.getElem?_append_left (by have := hBl D; omega), hσB, List.getElem?_append_left hks]
          · rcases Nat.lt_or_ge k σB.length with hkb | hkb
            · obtain ⟨j, Δj, q, oj, g1, g2, g3, g4, g5, g6⟩ := hat k hks hkb
              rw [g6, g6, List.getElem?_append_left hkb, g5]
              try simp only
              rw [hsame j (by omega)]
              cases hDj : D j with
              | true =>
                rw [hDl j hDj]
                simp
              | false =>
                have : A' k = false := by
                  cases hq : A' k with
                  | false => rfl
                  | true =>
                    rcases (hA' k).1 hq with h | h
                    · rcases (hAi k).1 h with h | ⟨o', ho', hne⟩
                      · omega
                      · rw [g5, hDj] at ho'; simp at ho'; exact absurd ho'.symm hne
                    · omega
                rw [this]
                simp
            · have hb1 := hBl fun j => l'.getD j true
              have hb2 := hBl fun j => listed.getD j true
              rw [List.getElem?_append_right hks, List.getElem?_append_right (by omega), List.getElem?_append_right hkb]
              rw [List.getElem?_append_right hks (l₂ := mskL (fun j => listed.getD j true) 0 (pl.take i) ++ _), List.getElem?_append_right (l₁ := mskL (fun j => listed.getD j true) 0 (pl.take i)) (by omega)]
              have e1 : k - σ.length - (mskL (fun j => l'.getD j true) 0 (pl.take i)).length = k - σB.length := by omega
              have e2 : k - σ.length - (mskL (fun j => listed.getD j true) 0 (pl.take i)).length = k - σB.length := by omega
              rw [e1, e2]
              rcases Nat.lt_or_ge (k - σB.length) Δ.length with hkd | hkd
              · rw [if_pos ((hA' k).2 (.inr ⟨hkb, by omega⟩)), List.getElem?_append_left hkd]
              · have : A' k = false := by
                  cases hq : A' k with
                  | false => rfl
                  | true =>
                    rcases (hA' k).1 hq with h | h
                    · have := hAlt k h; omega
                    · omega
                rw [this, if_neg (by simp), List.getElem?_append_right hkd, List.getElem?_append_right (by simpa using hkd)]
                simp
        have hlenC : (σ ++ mskL (fun j => l'.getD j true) 0 pl).length = (σ ++ (mskL (fun j => listed.getD j true) 0 (pl.take i) ++ ((bif listed.getD i true then Δ else Δ.map fun _ => SObj.dead) ++ mskL (fun j => listed.getD j true) (i + 1) (pl.drop (i + 1))))).length := by
          rw [← hm3, List.length_append, List.length_append, mskL_len (c := fun j => l'.getD j true) (c' := fun j => listed.getD j true)]
        have hlenD : σB.length + Δ.length ≤ (σ ++ mskL (fun j => l'.getD j true) 0 pl).length := by
          have := hBl fun j => l'.getD j true
          have h5 : (bif l'.getD i true then Δ else Δ.map fun _ => SObj.dead).length = Δ.length := hblen fun j => l'.getD j true
          rw [hm3, List.length_append, List.length_append, List.length_append, h5]
          omega
        have hfree : ∀ k, σB.length ≤ k → k < σB.length + Δ.length → own k = .no := by
          intro k hk1 hk2
          have hb2 := hBl fun j => listed.getD j true
          refine hnof k (by omega) ?_
          rw [hli, cond_false, List.getElem?_append_right (by omega), List.getElem?_append_right (by omega), List.getElem?_append_left (by rw [List.length_map]; omega), List.getElem?_map, List.getElem?_eq_getElem (by omega)]
          rfl
        obtain ⟨r3, e3, v3, v4⟩ := hrel.merge (n := σ.length) (σC := σ ++ mskL (fun j => l'.getD j true) 0 pl) hAlt (fun k hk => (hAi k).2 (.inl hk)) r1 ex A' hA' hfree (by omega)
          (fun k hk => by
            rcases (hA' k).1 hk with h | h
            · have := hAlt k h; omega
            · omega)
          (fun k o' hk => by
            rw [hCk] at hk
            cases hAk : A' k with
            | false => rw [hAk, if_neg (by simp)] at hk; exact .inr (.inr ⟨rfl, hk⟩)
            | true =>
              rw [hAk, if_pos rfl] at hk
              refine .inr (.inl ⟨rfl, hk, ?_⟩)
              rcases Nat.lt_or_ge k σB.length with hkb | hkb
              · rw [List.getElem?_append_left hkb] at hk
                rcases Nat.lt_or_ge k σ.length with hks | hks
                · rw [hσB, List.getElem?_append_left hks] at hk
                  exact hbase A' (fun k hk => (hA' k).2 (.inl ((hAi k).2 (.inl hk)))) o' (List.mem_of_getElem? hk)
                · obtain ⟨j, Δj, q, oj, g1, g2, g3, g4, g5, g6⟩ := hat k hks hkb
                  rw [hk] at g5
                  cases hDj : D j with
                  | true => rw [hDj] at g5; simp at g5; subst g5; exact isoO_bd g4 A'
                  | false => rw [hDj] at g5; simp at g5; subst g5; intro x hx; simp [SObj.cellsV] at hx
              · rw [List.getElem?_append_right hkb] at hk
                exact isoO_bd (hΔiso o' (List.mem_of_getElem? hk)) A')
        refine ih (L.erase i) _ (ownM own1 own A') F1 w1 _ p hunL hunS ⟨by simpa using di.sz, hclS, hunU, di.pw, hphS, fun _ => by rw [← hl']; exact r3, fun h => absurd hp h, fun _ => ?_, di.ext.trans e3, ?_, ?_, di.same.trans (Same.put a (hM o hmem) mv), fun t htw => ?_⟩
        · rw [← hl']
          intro k hk hkd
          rw [hCk] at hkd
          cases hAk : A' k with
          | false =>
            rw [hAk, if_neg (by simp)] at hkd
            rw [ownM_out hAk]
            exact hnof k hk hkd
          | true =>
            rw [hAk, if_pos rfl] at hkd
            rcases (hA' k).1 hAk with h | ⟨h3, h4⟩
            · rcases (hAi k).1 h with h | ⟨o', ho', hne⟩
              · omega
              · rw [List.getElem?_append_left (List.getElem?_eq_some_iff.1 ho').1, ho'] at hkd
                injection hkd with hkd
                exact absurd hkd hne
            · rw [List.getElem?_append_right h3] at hkd
              exact absurd rfl (isoO_ne (hΔiso _ (List.mem_of_getElem? hkd)))
        · cases hd : o.dst <;> simp [Act.put, di.tsz]
        · cases hd : o.dst <;> exact di.dfr
        · by_cases hto : o.dst = some t
          · rw [hgetS mv t hto, c.ev i o t him ho hto]
            exact v4 _ _ hfv hv
          · rw [hgetO mv t hto]
            exact v3 _ _ (htmO t hto htw)
theorem drawVC_sound (ht : TabOk P tt) {id : Nat} {ops : Array Oper} {K : Env → Sto → Prop} (hd : ∀ o ∈ ops.toList, ∀ d, o.dst = some d → d < N) (hs : drawVC (ctr P I) tt ops.toList K env σ) (r : Rel own F w σ) (he : ER N own F w env a)
    (hk : Goes N (ops.toList.filterMap (·.dst)) a own F w σ K (Q .normal)) : (Code.region id ops true).wp P Q a w := by
  unfold drawVC at hs
  obtain ⟨m, WL, cc, hc, hwk, hcw, hs⟩ := hs
  obtain ⟨W, hW⟩ : ∃ W, W = WL.map (·.1) := ⟨_, rfl⟩
  obtain ⟨hbs, hs⟩ := bif_elim hs
  have hc := hc.out
  have hwk := hwk.out
  unfold wOk at hwk
  rw [Bool.and_eq_true] at hwk
  rw [← hW] at hwk hs
  have hwkA : ∀ w ∈ WL, w.1 < m ∧ ∀ j o, (ops.toList.take m)[j]? = some o → j = w.1 ∨ W.contains j = true ∨ w.2.contains j = true ∨ depB ops.toList (w.1 + 1) w.1 j = true := by
    intro w hw
    have h5 := List.all_eq_true.1 hwk.1 w hw
    rw [Bool.and_eq_true] at h5
    refine ⟨Nat.le_of_ble_eq_true h5.1, fun j o hj => ?_⟩
    have h6 := allIdx_spec h5.2 j o hj
    rw [Nat.zero_add] at h6
    simp only [Bool.or_eq_true] at h6
    rcases h6 with ((h6 | h6) | h6) | h6
    · exact .inl (Nat.eq_of_beq_eq_true h6)
    · exact .inr (.inl h6)
    · exact .inr (.inr (.inl h6))
    · exact .inr (.inr (.inr h6))
  have hWk : ∀ (k w : Nat), W[k]? = some w → ∃ L, WL[k]? = some (w, L) := by
    intro k w hw
    rw [hW, List.getElem?_map, Option.map_eq_some_iff] at hw
    obtain ⟨x, hx, rfl⟩ := hw
    exact ⟨x.2, hx⟩
  have hWlen : W.length = WL.length := by rw [hW, List.length_map]
  unfold drawOk at hc
  simp only [Bool.and_eq_true] at hc
  obtain ⟨hm, hc⟩ := hc
  have hm : m ≤ ops.size := by simpa using Nat.le_of_ble_eq_true hm
  have hc := allIdx_spec hc
  simp only [Nat.zero_add, Array.getElem?_toList] at hc
  have tk : ∀ {j o}, (ops.toList.take m)[j]? = some o ↔ j < m ∧ ops[j]? = some o := by
    intro j o
    rw [List.getElem?_take]
    split
    · rename_i h; simp [h, Array.getElem?_toList]
    · rename_i h; simp [h]
  have hM : ∀ o ∈ ops.toList, ∀ d, o.dst = some d → d ∈ ops.toList.filterMap (·.dst) := fun o ho d hd => List.mem_filterMap.2 ⟨o, ho, hd⟩
  obtain ⟨vs, pl, h1, hpl, h2, hnil, h3⟩ := dops_out (Q := Q) ht (ops := ops) (ops.toList.take m) [] (fun j o h => by rw [List.length_nil, Nat.zero_add]; exact (tk.1 h).2) env hs
  rw [List.nil_append] at h2
  obtain ⟨hps, h2⟩ := bif_elim h2
  rw [forceSto_iff] at h2
  obtain ⟨σs, w1, w2, w3, w4⟩ := wops_out (Q := Q) ht WL h2
  rw [← hWlen] at w2 w3
  have hps := List.all_eq_true.1 hps
  have hvl : vs.length = m := by rw [h1]; simp; omega
  have hpll : pl.length = m := by rw [hpl]; simp; omega
  have hdlt : ∀ i o, ops[i]? = some o → ∀ j ∈ depsOf o, j < i := by
    intro i o ho j hj
    have := hc i o ho
    simp only [Bool.and_eq_true, List.all_eq_true] at this
    have := this.1 j hj
    exact Nat.le_of_ble_eq_true this
  have hpre : ∀ i o, i < m → ops[i]? = some o → (∀ t ∈ readsOf ops.toList o, ∀ j oj, j < m → ops[j]? = some oj → oj.dst = some t → j ∈ depsOf o) ∧ (∀ j oj d, j < m → ops[j]? = some oj → o.dst = some d → oj.dst = some d → i = j) := by
    intro i o hi ho
    have := hc i o ho
    have hlt : Nat.blt i m = true := Nat.ble_eq_true_of_le hi
    simp only [Bool.and_eq_true, hlt, cond_true, List.all_eq_true] at this
    obtain ⟨_, h6, h7⟩ := this
    refine ⟨fun t ht j oj hj hoj hd => ?_, fun j oj d hj hoj hd hd' => ?_⟩
    · have := allIdx_spec (h6 t ht) j oj (tk.2 ⟨hj, hoj⟩)
      simp [hd] at this
      exact this
    · have := allIdx_spec h7 j oj (tk.2 ⟨hj, hoj⟩)
      simp [hd, hd'] at this
      exact this
  have hE : ∀ i o d, i < m → ops[i]? = some o → o.dst = some d → envs (ops.toList.take m) vs env d = vs.getD i .any := by
    intro i o d hi ho hd
    refine envs_at (tk.2 ⟨hi, ho⟩) (by rw [List.getElem?_eq_getElem (show i < vs.length by omega)]; simp [List.getD_eq_getElem?_getD, List.getElem?_eq_getElem (show i < vs.length by omega)]) hd ?_
    intro j oj hj hdj
    obtain ⟨hj1, hj2⟩ := tk.1 hj
    exact ((hpre i o hi ho).2 j oj d hj1 hj2 hd hdj).symm
  have hchain : ∀ (W : List Nat), chainB ops.toList W = true → ∀ (k k' w w' : Nat), k < k' → W[k]? = some w → W[k']? = some w' → w ≠ w' ∧ depB ops.toList (w' + 1) w' w = true := by
    intro W
    induction W with
    | nil => intro _ k k' w w' _ h; simp at h
    | cons x W ihW =>
      intro hch k k' w w' hkk hw hw'
      simp only [chainB, Bool.and_eq_true] at hch
      obtain ⟨k'', rfl⟩ : ∃ k'', k' = k'' + 1 := ⟨k' - 1, by omega⟩
      have hw'' : W[k'']? = some w' := by simpa using hw'
      cases k with
      | zero =>
        simp at hw
        subst hw
        have h3 := List.all_eq_true.1 hch.1 w' (List.mem_of_getElem? hw'')
        simp only [Bool.and_eq_true, Bool.not_eq_true'] at h3
        refine ⟨fun e => ?_, h3.2⟩
        subst e
        have h4 := h3.1
        rw [Nat.beq_refl] at h4
        exact nomatch h4
      | succ k => exact ihW hch.2 k k'' w w' (by omega) (by simpa using hw) hw''
  have c : DC cc P ops m σ Q (envs (ops.toList.take m) vs env) (fun i => vs.getD i .any) pl W σs := by
    refine ⟨hm, hdlt, ?_, ?_, hE, hpll, ?_, ?_, hcw.out, w1, fun k hk => ?_, ?_, hchain W hwk.2, ?_, ?_, ?_⟩
    · intro i o hi ho t ht j oj hj hoj hd
      exact (hpre i o hi ho).1 t ht j oj hj hoj hd
    · intro i o hi ho
      have := hc i o ho
      have hlt : Nat.blt i m = false := by
        cases hb : Nat.blt i m with
        | false => rfl
        | true => have := Nat.le_of_ble_eq_true hb; omega
      simp only [Bool.and_eq_true, hlt, cond_false] at this
      exact this.2
    · intro o ho x hx
      exact List.all_eq_true.1 (List.all_eq_true.1 hbs o ho) x hx
    · intro i o Δ hi ho hΔ hWi
      have hv : vs[i]? = some (vs.getD i .any) := by rw [List.getD_eq_getElem?_getD, List.getElem?_eq_getElem (show i < vs.length by omega)]; rfl
      have hf := h3 i o _ Δ (tk.2 ⟨hi, ho⟩) hv hΔ (by rw [List.length_nil, Nat.zero_add]; exact hWi)
      rw [List.length_nil, Nat.zero_add, List.nil_append] at hf
      refine hf.congr fun t ht => ?_
      have htk : ∀ {j o'}, ((ops.toList.take m).take i)[j]? = some o' ↔ j < i ∧ j < m ∧ ops[j]? = some o' := by
        intro j o'
        rw [List.getElem?_take]
        split
        · rename_i h; rw [tk]; simp [h]
        · rename_i h; simp [h]
      by_cases hw : ∃ j oj, j < m ∧ ops[j]? = some oj ∧ oj.dst = some t
      · obtain ⟨j, oj, hj, hoj, hd⟩ := hw
        have a1 := (hpre i o hi ho).1 t ht j oj hj hoj hd
        have hji := hdlt i o ho j a1
        rw [hE j oj t hj hoj hd]
        refine envs_at (htk.2 ⟨hji, hj, hoj⟩) ?_ hd ?_
        · rw [List.getElem?_take, if_pos hji, List.getD_eq_getElem?_getD, List.getElem?_eq_getElem (show j < vs.length by omega)]; rfl
        · intro k ok hk hdk
          obtain ⟨_, hk1, hk2⟩ := htk.1 hk
          exact ((hpre j oj hj hoj).2 k ok t hk1 hk2 hd hdk).symm
      · rw [envs_other, envs_other]
        · intro j oj hj hd
          obtain ⟨b1, b2⟩ := tk.1 hj
          exact hw ⟨j, oj, b1, b2, hd⟩
        · intro j oj hj hd
          obtain ⟨_, b1, b2⟩ := htk.1 hj
          exact hw ⟨j, oj, b1, b2, hd⟩
    · have := w3 k hk
      rw [List.length_append] at this
      omega
    · intro k w hw
      obtain ⟨L, hL⟩ := hWk k w hw
      exact (hwkA _ (List.mem_of_getElem? hL)).1
    · intro k w j Δ hw hj hne
      obtain ⟨L, hL⟩ := hWk k w hw
      have h5 := allIdx_spec (hps _ (List.mem_of_getElem? hL)) j Δ hj
      rw [Nat.zero_add, Bool.or_eq_true] at h5
      have hjm : j < m := by have := (List.getElem?_eq_some_iff.1 hj).1; omega
      have hjW : W.contains j = false := by
        cases hq : W.contains j with
        | false => rfl
        | true => exact absurd (hnil j Δ hj (by rw [List.length_nil, Nat.zero_add]; exact hq)) hne
      rcases h5 with h5 | h5
      · cases Δ with
        | nil => exact absurd rfl hne
        | cons => simp at h5
      · rcases (hwkA _ (List.mem_of_getElem? hL)).2 j _ (tk.2 ⟨hjm, Array.getElem?_eq_getElem (by omega)⟩) with h6 | h6 | h6 | h6
        · have h7 : W.contains j = true := by rw [h6]; simpa using List.mem_of_getElem? hw
          rw [hjW] at h7; exact nomatch h7
        · rw [hjW] at h6; exact nomatch h6
        · rw [h6] at h5; simp at h5
        · exact h6
    · intro k w hw
      have hwm : w < pl.length := by
        obtain ⟨L, hL⟩ := hWk k w hw
        have := (hwkA _ (List.mem_of_getElem? hL)).1
        omega
      have hg := List.getElem?_eq_getElem hwm
      have := hnil w _ hg (by rw [List.length_nil, Nat.zero_add]; simpa using List.mem_of_getElem? hw)
      rw [hg, this]
    · intro k w hw
      obtain ⟨L, hL⟩ := hWk k w hw
      obtain ⟨o, g1, g2, g3, g4, g5⟩ := w4 k _ hL
      refine ⟨o, g1, g2, g3, g4, fun j o' hj ho' hjW hjd => ?_⟩
      rcases (hwkA _ (List.mem_of_getElem? hL)).2 j o' (tk.2 ⟨hj, ho'⟩) with h6 | h6 | h6 | h6
      · have h7 : W.contains j = true := by rw [h6]; simpa using List.mem_of_getElem? hw
        rw [hjW] at h7; exact nomatch h7
      · rw [hjW] at h6; exact nomatch h6
      · exact g5 j o' (by simpa using h6) ho'
      · rw [hjd] at h6; exact nomatch h6
  refine wp_region_any ht.mixed ?_
  obtain ⟨r1, e1⟩ := r.grow (w' := { w with drawn := w.drawn + 1 }) rfl rfl rfl (Nat.le_refl _) (fun _ _ => rfl)
  have hnone : ∀ j, j < m → (Array.replicate ops.size false).getD j true = false := by
    intro j hj
    simp [Array.getD_eq_getD_getElem?, Array.getElem?_replicate, show j < ops.size by omega]
  refine draw_run (N := N) (own0 := own) (F0 := F) (w0 := w) (a0 := a) (M := ops.toList.filterMap (·.dst)) c hd hM ?_ ops.size (List.range m) _ own F _ a 0 (by simp; omega) (fun i hi _ => List.mem_range.2 hi) ?_
  · intro listed own' F' w' a' p di hall
    have hpW : p = W.length := by
      rcases Nat.lt_or_ge p W.length with h | h
      · have hw := List.getElem?_eq_getElem h
        have := (di.ph p _ hw).1 (hall _ (c.wlt p _ hw))
        omega
      · have := di.pw; omega
    have hrel : Rel own' F' w' (σs W.length) := by
      by_cases hp : p = 0
      · have h5 := di.rel0 hp
        have hst : mskL (fun j => listed.getD j true) 0 pl = mskL (fun _ => true) 0 pl := mskL_congr _ _ fun i hi => by rw [Nat.zero_add]; exact hall i (by omega)
        rw [hst, ← c.s0] at h5
        rw [← hpW, hp]; exact h5
      · rw [← hpW]; exact di.relp hp
    have hle : σ.length ≤ (σs W.length).length := c.sl _ (Nat.le_refl _)
    have he2 : ER N own' F' w' (envs (ops.toList.take m) vs env) a' := ⟨di.tsz, fun t => di.tm t fun j oj hj hoj _ => hall j hj⟩
    have := rops_sound ht hM hd (ops.toList.drop m) m rfl w2 hrel he2 (hk.later di.ext hle di.dfr di.same)
    simpa using this
  · refine ⟨by simp, ?_, ?_, Nat.zero_le _, ?_, fun _ => r1.deads ?_, fun h => absurd rfl h, fun _ => ?_, e1, he.1, rfl, Same.refl _ _, ?_⟩
    · intro i o ho hl
      have hlt : i < ops.size := (Array.getElem?_eq_some_iff.1 ho).1
      simp [Array.getD_eq_getD_getElem?, Array.getElem?_replicate, hlt] at hl
    · intro i _ hlt
      simp [Array.getD_eq_getD_getElem?, Array.getElem?_replicate, hlt]
    · intro k w hw
      rw [hnone w (c.wlt k w hw)]
      simp
    · intro o ho
      obtain ⟨k, hk⟩ := List.getElem?_of_mem ho
      have hkl : k < (mskL (fun _ => true) 0 pl).length := by rw [mskL_len (c := fun _ => true) (c' := fun j => (Array.replicate ops.size false).getD j true)]; exact (List.getElem?_eq_some_iff.1 hk).1
      obtain ⟨j, Δ, q, g1, _, g3⟩ := mskL_at pl 0 k hkl
      rw [g3] at hk
      simp only [Nat.zero_add] at hk
      have hj : j < m := by have := (List.getElem?_eq_some_iff.1 g1).1; omega
      rw [hnone j hj] at hk
      simp at hk
      exact hk.symm
    · intro k hk _
      exact r.unb k hk
    · intro t htw
      rw [envs_other]
      · exact (he.2 t).ext r e1
      · intro j oj hj hdj
        obtain ⟨b1, b2⟩ := tk.1 hj
        have := htw j oj b1 b2 hdj
        rw [hnone j b1] at this
        exact nomatch this
end
end Go.Proofs.Ytihebfhhnoneiaa.Am
