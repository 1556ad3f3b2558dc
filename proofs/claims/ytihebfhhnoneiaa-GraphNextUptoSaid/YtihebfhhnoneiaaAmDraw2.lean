/- A region whose order is drawn: every order. -/
import Derived.Test.YtihebfhhnoneiaaAmDraw
namespace Go.Proofs.Ytihebfhhnoneiaa.Am
open Go.RowKit
set_option linter.unusedVariables false
set_option linter.unusedSimpArgs false

section
variable {P : Program} {tt : Tab} {own : Nat → Own} {F : Nat → Prop} {w : World} {σ : Sto} {env : Env} {a : Act} {N : Nat} {o : Oper}
variable {next : Act → World → Prop} {Q : Exit → Act → World → Prop}

/-- What stays the same through one drawn region. -/
structure DC (P : Program) (tt : Tab) (ops : Array Oper) (m : Nat) (σ : Sto) (Q : Exit → Act → World → Prop) (E : Env) (val : Nat → SV) (ia : Option Nat) (ta : TypeId) : Prop where
  hm : m ≤ ops.size
  dlt : ∀ i o, ops[i]? = some o → ∀ j ∈ depsOf o, j < i
  rd : ∀ i o, i < m → ops[i]? = some o → ∀ t ∈ readsOf ops.toList o, ∀ j oj, j < m → ops[j]? = some oj → oj.dst = some t → j ∈ depsOf o ∧ some j ≠ ia
  ds : ∀ i j oi oj d, i < m → j < m → ops[i]? = some oi → ops[j]? = some oj → oi.dst = some d → oj.dst = some d → i = j
  cov : ∀ i o, m ≤ i → ops[i]? = some o → cover ops.toList i (depsOf o) = true
  fact : ∀ i o, i < m → ops[i]? = some o → some i ≠ ia → FactS P ops σ Q i o E (val i)
  ev : ∀ i o d, i < m → ops[i]? = some o → o.dst = some d → E d = val i
  al : ∀ i, ia = some i → i < m ∧ val i = .loc σ.length 0 0 ∧ ∃ o, ops[i]? = some o ∧ FactA P ops tt Q i o ta

/-- Between two operations. -/
structure DI (tt : Tab) (ops : Array Oper) (m : Nat) (σ : Sto) (E : Env) (ia : Option Nat) (ta : TypeId) (N : Nat) (own0 : Nat → Own) (F0 : Nat → Prop) (w0 : World) (a0 : Act) (M : List Nat)
    (listed : Array Bool) (own : Nat → Own) (F : Nat → Prop) (w : World) (a : Act) : Prop where
  sz : listed.size = ops.size
  cl : ∀ i o, ops[i]? = some o → listed.getD i true = true → ∀ j ∈ depsOf o, listed.getD j true = true
  un : ∀ i, m ≤ i → i < ops.size → listed.getD i true = false
  rel : Rel own F w σ
  ext : Ext σ.length own0 F0 w0 own F w
  tsz : a.tmps.size = N
  dfr : a.defers = a0.defers
  same : Same M a0 a
  tm : ∀ t, (∀ j o, j < m → ops[j]? = some o → o.dst = some t → listed.getD j true = true ∧ some j ≠ ia) → VS own F w (E t) (a.tmps.getD t undef)
  al : ∀ i, ia = some i → listed.getD i true = true → ∃ (nb : Nat) (z : Array Value), w.heap[nb]? = some (.cells z ta (0, 0)) ∧ ¬ F nb ∧ ¬ Lv own nb ∧ w0.heap.size ≤ nb ∧ nb < w.heap.size ∧ z.size = (tt.at ta).zero.length ∧
    (∀ (F : Nat → Prop) (w : World) (j : Nat) (y : T) (v : Value), (tt.at ta).zero[j]? = some y → z[j]? = some v → VT F w y v) ∧ ∀ o d, ops[i]? = some o → o.dst = some d → a.tmps.getD d undef = .pointer (some ⟨nb, 0, none⟩)

theorem mem_depsOf {o : Oper} {j : Nat} : j ∈ depsOf o ↔ ∃ e ∈ o.after, Region.binds .any e = true ∧ e.on = j := by
  unfold depsOf
  simp [List.mem_map, List.mem_filter]
  constructor
  · rintro ⟨e, ⟨h1, h2⟩, h3⟩; exact ⟨e, by simpa using h1, h2, h3⟩
  · rintro ⟨e, h1, h2, h3⟩; exact ⟨e, ⟨by simpa using h1, h2⟩, h3⟩

theorem ready_iff {ops : Array Oper} {listed : Array Bool} (hsz : listed.size = ops.size) {i : Nat} (hd : ∀ o, ops[i]? = some o → ∀ j ∈ depsOf o, j < i) :
    i ∈ Region.ready .any ops listed ↔ listed.getD i true = false ∧ ∃ o, ops[i]? = some o ∧ ∀ j ∈ depsOf o, listed.getD j true = true := by
  rw [mem_ready]
  constructor
  · rintro ⟨h1, o, ho, h2⟩
    refine ⟨h1, o, ho, fun j hj => ?_⟩
    obtain ⟨e, he, hb, rfl⟩ := mem_depsOf.1 hj
    have := h2 e he hb
    simp only [Array.getD_eq_getD_getElem?] at this ⊢
    cases hq : listed[e.on]? with
    | none => rfl
    | some b => rw [hq] at this; exact this
  · rintro ⟨h1, o, ho, h2⟩
    refine ⟨h1, o, ho, fun e he hb => ?_⟩
    have hj := mem_depsOf.2 ⟨e, he, hb, rfl⟩
    have hlt := hd o ho _ hj
    have hi : i < ops.size := (Array.getElem?_eq_some_iff.1 ho).1
    have := h2 _ hj
    simp only [Array.getD_eq_getD_getElem?, Array.getElem?_eq_getElem (show e.on < listed.size by omega)] at this ⊢
    exact this

theorem cover_all {ops : Array Oper} {listed : Array Bool} (cl : ∀ i o, ops[i]? = some o → listed.getD i true = true → ∀ j ∈ depsOf o, listed.getD j true = true) :
    ∀ (j : Nat) (s : List Nat), cover ops.toList j s = true → (∀ x ∈ s, listed.getD x true = true) → ∀ k, k < j → listed.getD k true = true
  | 0, _, _, _, k, hk => by omega
  | j + 1, s, h, hs, k, hk => by
    simp only [cover, Bool.and_eq_true, List.contains_iff_mem] at h
    have hj := hs j h.1
    by_cases hkj : k = j
    · rw [hkj]; exact hj
    · refine cover_all cl j _ h.2 ?_ k (by omega)
      intro x hx
      rcases List.mem_append.1 hx with hx | hx
      · split at hx
        · rename_i o ho
          rw [nth_eq, Array.getElem?_toList] at ho
          exact cl j o ho hj x hx
        · simp at hx
      · exact hs x hx

theorem getD_set {listed : Array Bool} {i j : Nat} (hi : i < listed.size) : (listed.setIfInBounds i true).getD j true = true ↔ j = i ∨ listed.getD j true = true := by
  simp only [Array.getD_eq_getD_getElem?, Array.getElem?_setIfInBounds]
  by_cases h : i = j
  · subst h; simp [hi]
  · rw [if_neg h]; simp [Ne.symm h]

theorem getD_set_f {listed : Array Bool} {i j : Nat} (hi : i < listed.size) (h : (listed.setIfInBounds i true).getD j true = false) : j ≠ i ∧ listed.getD j true = false := by
  have := (not_congr (getD_set (j := j) hi)).1 (by rw [h]; simp)
  simp only [not_or, Bool.not_eq_true] at this
  exact this

/-- From place p on the order is the text's. -/
theorem wpAny_tail {ops : Array Oper} {m : Nat} (dlt : ∀ i o, ops[i]? = some o → ∀ j ∈ depsOf o, j < i) (cov : ∀ i o, m ≤ i → ops[i]? = some o → cover ops.toList i (depsOf o) = true) :
    ∀ (fuel p : Nat) (listed : Array Bool) (a : Act) (w : World), m ≤ p → p ≤ ops.size → ops.size - p ≤ fuel → listed.size = ops.size → (∀ i, i < p → listed.getD i true = true) → (∀ i, p ≤ i → i < ops.size → listed.getD i true = false) →
      wpOps P ops Q (List.range' p (ops.size - p)) a w → wpAny P .any ops Q fuel listed a w := by
  have noready : ∀ (listed : Array Bool), (∀ i, i < ops.size → listed.getD i true = true) → Region.ready .any ops listed = [] := by
    intro listed h
    rw [List.eq_nil_iff_forall_not_mem]
    intro i hi
    obtain ⟨h1, o, ho, _⟩ := mem_ready.1 hi
    rw [h i (Array.getElem?_eq_some_iff.1 ho).1] at h1
    simp at h1
  intro fuel
  induction fuel with
  | zero =>
    intro p listed a w hmp hp hf hsz hl hu h
    have : p = ops.size := by omega
    subst this
    refine ⟨noready listed hl, ?_⟩
    simpa [wpOps] using h
  | succ fuel ih =>
    intro p listed a w hmp hp hf hsz hl hu h
    have rdy : ∀ i ∈ Region.ready .any ops listed, i = p := by
      intro i hi
      have hi' := hi
      obtain ⟨_, o, ho, _⟩ := mem_ready.1 hi'
      obtain ⟨h1, o', ho', h2⟩ := (ready_iff hsz (dlt i)).1 hi
      rw [ho] at ho'; cases ho'
      have hip : p ≤ i := by
        rcases Nat.lt_or_ge i p with h' | h'
        · rw [hl i h'] at h1; simp at h1
        · exact h'
      have cl : ∀ i o, ops[i]? = some o → listed.getD i true = true → ∀ j ∈ depsOf o, listed.getD j true = true := by
        intro i o ho h3 j hj
        have hlt : i < ops.size := (Array.getElem?_eq_some_iff.1 ho).1
        have := dlt i o ho j hj
        refine hl j ?_
        rcases Nat.lt_or_ge i p with h' | h'
        · omega
        · rw [hu i h' hlt] at h3; simp at h3
      have := cover_all cl i _ (cov i o (by omega) ho) h2
      rcases Nat.lt_or_ge p i with h' | h'
      · have h4 := this p h'
        rw [hu p (Nat.le_refl _) (by have := (Array.getElem?_eq_some_iff.1 ho).1; omega)] at h4
        simp at h4
      · omega
    by_cases hpn : p = ops.size
    · subst hpn
      refine ⟨fun _ => by simpa [wpOps] using h, fun i hi => ?_⟩
      rw [noready listed hl] at hi
      simp at hi
    · have hlt : p < ops.size := by omega
      have hpr : p ∈ Region.ready .any ops listed := by
        refine (ready_iff hsz (dlt p)).2 ⟨hu p (Nat.le_refl _) hlt, ops[p], Array.getElem?_eq_getElem hlt, fun j hj => hl j (dlt p _ (Array.getElem?_eq_getElem hlt) j hj)⟩
      refine ⟨fun e => by rw [e] at hpr; simp at hpr, fun i hi => ?_⟩
      have := rdy i hi
      subst this
      have hr : List.range' i (ops.size - i) = i :: List.range' (i + 1) (ops.size - (i + 1)) := by
        rw [show ops.size - i = (ops.size - (i + 1)) + 1 by omega, List.range'_succ]
      rw [hr, wpOps_cons] at h
      refine wpOp_mono (fun a' w' h' => ih (i + 1) _ a' w' (by omega) (by omega) (by omega) (by simpa using hsz) ?_ ?_ h') h
      · intro j hj
        rw [getD_set (by omega)]
        rcases Nat.lt_or_ge j i with h' | h'
        · exact .inr (hl j h')
        · exact .inl (by omega)
      · intro j hj hjn
        rw [getD_set_ne true (by omega)]
        exact hu j (by omega) hjn

theorem draw_run {ops : Array Oper} {m : Nat} {E : Env} {val : Nat → SV} {ia : Option Nat} {ta : TypeId} {own0 : Nat → Own} {F0 : Nat → Prop} {w0 : World} {a0 : Act} {M : List Nat} (c : DC P tt ops m σ Q E val ia ta)
    (hdN : ∀ o ∈ ops.toList, ∀ d, o.dst = some d → d < N) (hM : ∀ o ∈ ops.toList, ∀ d, o.dst = some d → d ∈ M)
    (fin : ∀ (listed : Array Bool) own F w a, DI tt ops m σ E ia ta N own0 F0 w0 a0 M listed own F w a → (∀ i, i < m → listed.getD i true = true) → wpOps P ops Q (List.range' m (ops.size - m)) a w) :
    ∀ (fuel : Nat) (L : List Nat) (listed : Array Bool) own F w a, L.length + (ops.size - m) ≤ fuel → (∀ i, i < m → listed.getD i true = false → i ∈ L) → DI tt ops m σ E ia ta N own0 F0 w0 a0 M listed own F w a → wpAny P .any ops Q fuel listed a w := by
  intro fuel
  induction fuel with
  | zero =>
    intro L listed own F w a hL hun di
    have : L = [] := by cases L with | nil => rfl | cons => simp at hL
    subst this
    have hall : ∀ i, i < m → listed.getD i true = true := by
      intro i hi
      cases hq : listed.getD i true with
      | true => rfl
      | false => have := hun i hi hq; simp at this
    exact wpAny_tail c.dlt c.cov 0 m listed a w (Nat.le_refl _) c.hm (by omega) di.sz hall di.un (fin listed own F w a di hall)
  | succ fuel ih =>
    intro L listed own F w a hL hun di
    by_cases hall : ∀ i, i < m → listed.getD i true = true
    · exact wpAny_tail c.dlt c.cov (fuel + 1) m listed a w (Nat.le_refl _) c.hm (by omega) di.sz hall di.un (fin listed own F w a di hall)
    · have hex : ∃ i, i < m ∧ listed.getD i true = false := by
        apply Classical.byContradiction
        intro h
        apply hall
        intro i hi
        cases hq : listed.getD i true with
        | true => rfl
        | false => exact absurd ⟨i, hi, hq⟩ h
      have hm := c.hm
      have rlt : ∀ i ∈ Region.ready .any ops listed, i < m := by
        intro i hi
        obtain ⟨h1, o, ho, h2⟩ := (ready_iff di.sz (c.dlt i)).1 hi
        rcases Nat.lt_or_ge i m with h | h
        · exact h
        · obtain ⟨k, hk, hk2⟩ := hex
          have := cover_all di.cl i _ (c.cov i o h ho) h2 k (by omega)
          rw [hk2] at this; simp at this
      have hne : Region.ready .any ops listed ≠ [] := by
        have key : ∀ n i, i ≤ n → i < m → listed.getD i true = false → ∃ j, j ∈ Region.ready .any ops listed := by
          intro n
          induction n with
          | zero =>
            intro i hi him hf
            have : i = 0 := by omega
            subst this
            exact ⟨0, (ready_iff di.sz (c.dlt 0)).2 ⟨hf, ops[0], Array.getElem?_eq_getElem (by omega), fun j hj => by have := c.dlt 0 _ (Array.getElem?_eq_getElem (by omega)) j hj; omega⟩⟩
          | succ n ihn =>
            intro i hi him hf
            by_cases hd : ∀ j ∈ depsOf ops[i], listed.getD j true = true
            · exact ⟨i, (ready_iff di.sz (c.dlt i)).2 ⟨hf, ops[i], Array.getElem?_eq_getElem (by omega), hd⟩⟩
            · have : ∃ j, j ∈ depsOf ops[i] ∧ listed.getD j true = false := by
                apply Classical.byContradiction
                intro h
                apply hd
                intro j hj
                cases hq : listed.getD j true with
                | true => rfl
                | false => exact absurd ⟨j, hj, hq⟩ h
              obtain ⟨j, hj, hjf⟩ := this
              have := c.dlt i _ (Array.getElem?_eq_getElem (by omega)) j hj
              exact ihn j (by omega) (by omega) hjf
        obtain ⟨i, hi, hf⟩ := hex
        obtain ⟨j, hj⟩ := key i i (Nat.le_refl _) hi hf
        intro e
        rw [e] at hj
        simp at hj
      refine ⟨fun e => absurd e hne, fun i hi => ?_⟩
      have him := rlt i hi
      obtain ⟨h1, o, ho, h2⟩ := (ready_iff di.sz (c.dlt i)).1 hi
      have hlt : i < ops.size := (Array.getElem?_eq_some_iff.1 ho).1
      have hmem : o ∈ ops.toList := by rw [Array.mem_toList_iff]; exact Array.mem_of_getElem? ho
      -- the next state
      have after : ∀ (own' : Nat → Own) (F' : Nat → Prop) (w' : World) (mv : Value), Ext σ.length own F w own' F' w' → Rel own' F' w' σ → (some i ≠ ia → VS own' F' w' (val i) mv) →
          (ia = some i → ∃ (nb : Nat) (z : Array Value), w'.heap[nb]? = some (.cells z ta (0, 0)) ∧ ¬ F' nb ∧ ¬ Lv own' nb ∧ w0.heap.size ≤ nb ∧ nb < w'.heap.size ∧ z.size = (tt.at ta).zero.length ∧
            (∀ (F : Nat → Prop) (w : World) (j : Nat) (y : T) (v : Value), (tt.at ta).zero[j]? = some y → z[j]? = some v → VT F w y v) ∧ mv = .pointer (some ⟨nb, 0, none⟩)) →
          wpAny P .any ops Q fuel (listed.setIfInBounds i true) (a.put o.dst mv) w' := by
        intro own' F' w' mv e r' hv hal
        refine ih (L.erase i) _ own' F' w' _ ?_ ?_ ?_
        · have := List.length_erase_of_mem (hun i him h1)
          have := List.length_pos_of_mem (hun i him h1)
          omega
        · intro j hj hjf
          obtain ⟨h3, h4⟩ := getD_set_f (by rw [di.sz]; exact hlt) hjf
          exact (List.mem_erase_of_ne h3).2 (hun j hj h4)
        · refine ⟨by simpa using di.sz, ?_, ?_, r', di.ext.trans e, ?_, ?_, ?_, ?_, ?_⟩
          · intro k ok hok hk j hj
            rw [getD_set (by rw [di.sz]; exact hlt)] at hk ⊢
            rcases hk with rfl | hk
            · rw [ho] at hok; cases hok
              exact .inr (h2 j hj)
            · exact .inr (di.cl k ok hok hk j hj)
          · intro k hk hkn
            rw [getD_set_ne true (by omega)]
            exact di.un k hk hkn
          · cases hd : o.dst <;> simp [Act.put, di.tsz]
          · cases hd : o.dst <;> exact di.dfr
          · exact di.same.trans (Same.put a (hM o hmem) mv)
          · intro t htw
            by_cases hto : o.dst = some t
            · have h5 := (htw i o him ho hto).2
              have hget : (a.put o.dst mv).tmps.getD t undef = mv := by
                rw [hto]
                simp [Act.put, Array.getD_eq_getD_getElem?, Array.getElem?_setIfInBounds, di.tsz, hdN o hmem t hto]
              rw [hget, c.ev i o t him ho hto]
              exact hv h5
            · have hget : (a.put o.dst mv).tmps.getD t undef = a.tmps.getD t undef := by
                cases hd : o.dst with
                | none => rfl
                | some d =>
                  have hdt : d ≠ t := fun e => hto (by rw [hd, e])
                  simp [Act.put, Array.getD_eq_getD_getElem?, Array.getElem?_setIfInBounds, hdt]
              rw [hget]
              refine (di.tm t ?_).ext di.rel e
              intro j oj hj hoj hdj
              obtain ⟨h3, h4⟩ := htw j oj hj hoj hdj
              rw [getD_set (by rw [di.sz]; exact hlt)] at h3
              rcases h3 with rfl | h3
              · rw [ho] at hoj; cases hoj; exact absurd hdj hto
              · exact ⟨h3, h4⟩
          · intro k hk hkl
            rw [getD_set (by rw [di.sz]; exact hlt)] at hkl
            by_cases hki : k = i
            · subst hki
              obtain ⟨nb, z, a1, a2, a3, a4, a5, a6, a7, a8⟩ := hal hk
              refine ⟨nb, z, a1, a2, a3, a4, a5, a6, a7, ?_⟩
              intro o' d ho' hd
              rw [ho] at ho'; cases ho'
              rw [hd, ← a8]
              simp [Act.put, Array.getD_eq_getD_getElem?, Array.getElem?_setIfInBounds, di.tsz, hdN o hmem d hd]
            · obtain ⟨nb, z, a1, a2, a3, a4, a5, a6, a7, a8⟩ := di.al k hk (hkl.resolve_left hki)
              refine ⟨nb, z, by rw [e.fr nb a5 a3]; exact a1, ?_, ?_, a4, Nat.lt_of_lt_of_le a5 e.sz, a6, a7, ?_⟩
              · intro h
                rcases e.Fn nb h with h | h | h
                · exact a2 h
                · omega
                · exact a3 h
              · intro h
                rcases e.on nb h with h | h
                · exact a3 h
                · omega
              · intro o' d ho' hd
                rw [← a8 o' d ho' hd]
                cases hdd : o.dst with
                | none => rfl
                | some d' =>
                  have hdt : d' ≠ d := by
                    intro e'
                    subst e'
                    exact hki (c.ds k i o' o d' (c.al k hk).1 him ho' ho hd hdd)
                  simp [Act.put, Array.getD_eq_getD_getElem?, Array.getElem?_setIfInBounds, hdt]
      by_cases hia : some i = ia
      · obtain ⟨_, hv, o', ho', hfa⟩ := c.al i hia.symm
        rw [ho] at ho'; cases ho'
        refine hfa w a _ fun z hz hzv => ?_
        have hg := di.rel.grow (w' := w.alloc (.cells z ta)) rfl rfl rfl (by simp) (fun i hi => Below.heap_alloc w _ i hi)
        refine after own F _ _ hg.2 hg.1 (fun h => absurd hia h) fun _ => ⟨w.heap.size, z, heap_alloc_new w _, ?_, ?_, di.ext.sz, by simp, hz, hzv, rfl⟩
        · intro h; have := di.rel.Fb _ h; omega
        · intro h; have := di.rel.lb _ h; omega
      · refine c.fact i o him ho hia own F w a _ di.rel ?_ ?_
        · intro t ht
          refine di.tm t fun j oj hj hoj hdj => ?_
          obtain ⟨h3, h4⟩ := c.rd i o him ho t ht j oj hj hoj hdj
          exact ⟨h2 j h3, h4⟩
        · intro own' F' w' mv e r' hv
          exact after own' F' w' mv e r' (fun _ => hv) fun h => absurd h.symm hia
theorem drawVC_sound (ht : TabOk P tt) {id : Nat} {ops : Array Oper} {K : Env → Sto → Prop} (hd : ∀ o ∈ ops.toList, ∀ d, o.dst = some d → d < N) (hs : drawVC (PCalls P) tt ops.toList K env σ) (r : Rel own F w σ) (he : ER N own F w env a)
    (hk : Goes N (ops.toList.filterMap (·.dst)) a own F w σ K (Q .normal)) : (Code.region id ops true).wp P Q a w := by
  unfold drawVC at hs
  obtain ⟨m, hc, hs⟩ := hs
  have hc := hc.out
  unfold drawOk at hc
  simp only [Bool.and_eq_true] at hc
  obtain ⟨hm, hc⟩ := hc
  have hm : m ≤ ops.size := by simpa using Nat.le_of_ble_eq_true hm
  have hc := allIdx_spec hc
  simp only [Nat.zero_add, Array.getElem?_toList] at hc
  have tk : ∀ {j o}, (ops.toList.take m)[j]? = some o ↔ j < m ∧ ops[j]? = some o := by
    intro j o
    rw [List.getElem?_take]
    split
    · rename_i h; simp [h, Array.getElem?_toList]
    · rename_i h; simp [h]
  have hM : ∀ o ∈ ops.toList, ∀ d, o.dst = some d → d ∈ ops.toList.filterMap (·.dst) := fun o ho d hd => List.mem_filterMap.2 ⟨o, ho, hd⟩
  obtain ⟨vs, al', ia, h1, h2, h3, h4, h5⟩ := dops_out (Q := Q) ht (ops := ops) (ops.toList.take m) 0 (fun j o h => by rw [Nat.zero_add]; exact (tk.1 h).2) none env hs
  have hvl : vs.length = m := by rw [h1]; simp; omega
  have hdlt : ∀ i o, ops[i]? = some o → ∀ j ∈ depsOf o, j < i := by
    intro i o ho j hj
    have := hc i o ho
    simp only [Bool.and_eq_true, List.all_eq_true] at this
    have := this.1 j hj
    exact Nat.le_of_ble_eq_true this
  have hpre : ∀ i o, i < m → ops[i]? = some o → (∀ t ∈ readsOf ops.toList o, ∀ j oj, j < m → ops[j]? = some oj → oj.dst = some t → j ∈ depsOf o ∧ isAlloc oj = false) ∧ (∀ j oj d, j < m → ops[j]? = some oj → o.dst = some d → oj.dst = some d → i = j) := by
    intro i o hi ho
    have := hc i o ho
    have hlt : Nat.blt i m = true := Nat.ble_eq_true_of_le hi
    simp only [Bool.and_eq_true, hlt, cond_true, List.all_eq_true] at this
    obtain ⟨_, h6, h7⟩ := this
    refine ⟨fun t ht j oj hj hoj hd => ?_, fun j oj d hj hoj hd hd' => ?_⟩
    · have := allIdx_spec (h6 t ht) j oj (tk.2 ⟨hj, hoj⟩)
      simp [hd] at this
      exact this
    · have := allIdx_spec h7 j oj (tk.2 ⟨hj, hoj⟩)
      simp [hd, hd'] at this
      exact this
  have hE : ∀ i o d, i < m → ops[i]? = some o → o.dst = some d → envs (ops.toList.take m) vs env d = vs.getD i .any := by
    intro i o d hi ho hd
    refine envs_at (tk.2 ⟨hi, ho⟩) (by rw [List.getElem?_eq_getElem (show i < vs.length by omega)]; simp [List.getD_eq_getElem?_getD, List.getElem?_eq_getElem (show i < vs.length by omega)]) hd ?_
    intro j oj hj hdj
    obtain ⟨hj1, hj2⟩ := tk.1 hj
    exact ((hpre i o hi ho).2 j oj d hj1 hj2 hd hdj).symm
  have halia : ∀ j, ia = some j → j < m ∧ ∃ t o, al' = some t ∧ ops[j]? = some o ∧ isAlloc o = true ∧ FactA P ops tt Q j o t ∧ vs.getD j .any = .loc σ.length 0 0 := by
    intro j hj
    obtain ⟨_, t, o, a1, a2, a3, a4, a5⟩ := h5 j hj
    obtain ⟨b1, b2⟩ := tk.1 a2
    refine ⟨b1, t, o, a1, b2, a3, by simpa using a4, ?_⟩
    rw [List.getD_eq_getElem?_getD, a5]; rfl
  obtain ⟨ta, hta⟩ : ∃ ta, ta = al'.getD 0 := ⟨_, rfl⟩
  have c : DC P tt ops m σ Q (envs (ops.toList.take m) vs env) (fun i => vs.getD i .any) ia ta := by
    refine ⟨hm, hdlt, ?_, ?_, ?_, ?_, hE, ?_⟩
    · intro i o hi ho t ht j oj hj hoj hd
      obtain ⟨a1, a2⟩ := (hpre i o hi ho).1 t ht j oj hj hoj hd
      refine ⟨a1, fun e => ?_⟩
      obtain ⟨_, _, o', _, b2, b3, _⟩ := halia j e.symm
      rw [hoj] at b2; cases b2
      rw [a2] at b3; simp at b3
    · intro i j oi oj d hi hj hoi hoj hd hd'
      exact (hpre i oi hi hoi).2 j oj d hj hoj hd hd'
    · intro i o hi ho
      have := hc i o ho
      have hlt : Nat.blt i m = false := by
        cases hb : Nat.blt i m with
        | false => rfl
        | true => have := Nat.le_of_ble_eq_true hb; omega
      simp only [Bool.and_eq_true, hlt, cond_false] at this
      exact this.2
    · intro i o hi ho hne
      have hv : vs[i]? = some (vs.getD i .any) := by rw [List.getD_eq_getElem?_getD, List.getElem?_eq_getElem (show i < vs.length by omega)]; rfl
      have hf := h3 i o _ (tk.2 ⟨hi, ho⟩) hv hne
      rw [Nat.zero_add] at hf
      refine hf.congr fun t ht => ?_
      have htk : ∀ {j o'}, ((ops.toList.take m).take i)[j]? = some o' ↔ j < i ∧ j < m ∧ ops[j]? = some o' := by
        intro j o'
        rw [List.getElem?_take]
        split
        · rename_i h; rw [tk]; simp [h]
        · rename_i h; simp [h]
      by_cases hw : ∃ j oj, j < m ∧ ops[j]? = some oj ∧ oj.dst = some t
      · obtain ⟨j, oj, hj, hoj, hd⟩ := hw
        obtain ⟨a1, a2⟩ := (hpre i o hi ho).1 t ht j oj hj hoj hd
        have hji := hdlt i o ho j a1
        rw [hE j oj t hj hoj hd]
        refine envs_at (htk.2 ⟨hji, hj, hoj⟩) ?_ hd ?_
        · rw [List.getElem?_take, if_pos hji, List.getD_eq_getElem?_getD, List.getElem?_eq_getElem (show j < vs.length by omega)]; rfl
        · intro k ok hk hdk
          obtain ⟨_, hk1, hk2⟩ := htk.1 hk
          exact ((hpre j oj hj hoj).2 k ok t hk1 hk2 hd hdk).symm
      · rw [envs_other, envs_other]
        · intro j oj hj hd
          obtain ⟨b1, b2⟩ := tk.1 hj
          exact hw ⟨j, oj, b1, b2, hd⟩
        · intro j oj hj hd
          obtain ⟨_, b1, b2⟩ := htk.1 hj
          exact hw ⟨j, oj, b1, b2, hd⟩
    · intro i hi
      obtain ⟨a1, t, o, a2, a3, a4, a5, a6⟩ := halia i hi
      refine ⟨a1, a6, o, a3, ?_⟩
      rw [hta, a2]; exact a5
  refine wp_region_any ht.mixed ?_
  obtain ⟨r1, e1⟩ := r.grow (w' := { w with drawn := w.drawn + 1 }) rfl rfl rfl (Nat.le_refl _) (fun _ _ => rfl)
  refine draw_run (N := N) (own0 := own) (F0 := F) (w0 := w) (a0 := a) (M := ops.toList.filterMap (·.dst)) c hd hM ?_ ops.size (List.range m) _ own F _ a (by simp; omega) (fun i hi _ => List.mem_range.2 hi) ?_
  · intro listed own' F' w' a' di hall
    have hdrop : ∀ {σ' : Sto} {own2 : Nat → Own}, rops (PCalls P) tt ops.toList (ops.toList.drop m) K (envs (ops.toList.take m) vs env) σ' → Rel own2 F' w' σ' → Ext σ.length own F w own2 F' w' → σ.length ≤ σ'.length → ER N own2 F' w' (envs (ops.toList.take m) vs env) a' → wpOps P ops Q (List.range' m (ops.size - m)) a' w' := by
      intro σ' own2 hr r2 e2 hl he2
      have := rops_sound ht hM hd (ops.toList.drop m) m rfl hr r2 he2 (hk.later e2 hl di.dfr di.same)
      simpa using this
    cases hia : ia with
    | none =>
      rw [h4 hia] at h2
      refine hdrop h2 di.rel di.ext (Nat.le_refl _) ⟨di.tsz, fun t => di.tm t fun j oj hj hoj _ => ⟨hall j hj, by rw [hia]; simp⟩⟩
    | some i =>
      obtain ⟨him, t, o, a2, a3, a4, a5, a6⟩ := halia i hia
      rw [a2] at h2
      have htat : ta = t := by rw [hta, a2]; rfl
      subst htat
      obtain ⟨nb, z, b1, b2, b3, b4, b5, b6, b7, b8⟩ := di.al i hia (hall i him)
      obtain ⟨r2, hown⟩ := di.rel.adopt nb 1 (tt.at ta).zero.length 1 b2 b3 b5 (.var ta ((tt.at ta).zero.map .t)) (fun own2 _ => by
        refine ⟨nb, z, by simp, b1, by simp [b6], ?_⟩
        intro j x v hx hv
        rw [List.getElem?_map] at hx
        cases hq : (tt.at ta).zero[j]? with
        | none => rw [hq] at hx; simp at hx
        | some y =>
          rw [hq] at hx
          simp at hx
          subst hx
          exact .t _ _ (b7 _ _ j y v hq hv))
      refine hdrop h2 r2 ?_ (by simp) ⟨di.tsz, fun t => ?_⟩
      · refine { di.ext with on := ?_, ok := ?_ }
        · intro b hb
          rcases Lv_ownAt hb with rfl | h
          · exact .inr b4
          · exact di.ext.on b h
        · intro k hk
          have : ownAt own' σ.length (.live nb 1 (tt.at ta).zero.length 1) k = own' k := by unfold ownAt; rw [if_neg (by omega)]
          rw [this]
          exact di.ext.ok k hk
      · by_cases hto : o.dst = some t
        · rw [hE i o t him a3 hto, a6, b8 o t a3 hto]
          have := VS.loc (own := ownAt own' σ.length (.live nb 1 (tt.at ta).zero.length 1)) (F := F') (w := w') σ.length 0 0 nb 1 (tt.at ta).zero.length 1 (by unfold ownAt; rw [if_pos rfl])
          simpa using this
        · refine (di.tm t fun j oj hj hoj hdj => ⟨hall j hj, fun e => ?_⟩).own_mono hown
          rw [hia] at e
          simp at e
          subst e
          rw [a3] at hoj; cases hoj
          exact hto hdj
  · refine ⟨by simp, ?_, ?_, r1, e1, he.1, rfl, Same.refl _ _, ?_, ?_⟩
    · intro i o ho hl
      have hlt : i < ops.size := (Array.getElem?_eq_some_iff.1 ho).1
      simp [Array.getD_eq_getD_getElem?, Array.getElem?_replicate, hlt] at hl
    · intro i _ hlt
      simp [Array.getD_eq_getD_getElem?, Array.getElem?_replicate, hlt]
    · intro t htw
      rw [envs_other]
      · exact (he.2 t).ext r e1
      · intro j oj hj hdj
        obtain ⟨b1, b2⟩ := tk.1 hj
        have := (htw j oj b1 b2 hdj).1
        simp [Array.getD_eq_getD_getElem?, Array.getElem?_replicate, show j < ops.size by omega] at this
    · intro i hi hl
      obtain ⟨him, _⟩ := halia i hi
      simp [Array.getD_eq_getD_getElem?, Array.getElem?_replicate, show i < ops.size by omega] at hl
end
end Go.Proofs.Ytihebfhhnoneiaa.Am
