/- A function's body and its contract. -/
import Derived.Test.YtihebfhhnoneiaaAmCwp
namespace Go.Proofs.Ytihebfhhnoneiaa.Am
open Go.RowKit
set_option linter.unusedVariables false
set_option linter.unusedSimpArgs false

section
variable {P : Program} {tt : Tab} {I : FuncId → Bool}

theorem resK_out (ht : TabOk P tt) {own : Nat → Own} {F : Nat → Prop} {w : World} {σ : Sto} {env : Env} {tmps : Array Value} (r : Rel own F w σ) (he : ∀ j, VS own F w (env j) (tmps.getD j undef)) (f : ResultVar → Sem Value)
    (f1 : ∀ t, f (.tmp t) = pure (tmps.getD t undef)) (f2 : ∀ a t, f (.cell a t) = (do loadVar t (← asAddr (tmps.getD a undef)))) :
    ∀ (rs : List ResultVar) {K : List SV → Prop}, resK tt env σ rs K → ∃ (vs : List SV) (mvs : List Value), K vs ∧ mvs.length = vs.length ∧ (∀ (i : Nat) (x : SV) (v : Value), vs[i]? = some x → mvs[i]? = some v → VS own F w x v) ∧
      (rs.mapM f).run P w = .ok mvs w
  | [], K, h => ⟨[], [], h, rfl, by simp, rfl⟩
  | .tmp t :: rs, K, h => by
    obtain ⟨vs, mvs, h1, h2, h3, h4⟩ := resK_out ht r he f f1 f2 rs h
    refine ⟨_ :: vs, tmps.getD t undef :: mvs, h1, by simp [h2], ?_, ?_⟩
    · intro i x v hx hv
      cases i with
      | zero => simp at hx hv; subst hx; subst hv; simpa using he t
      | succ i => exact h3 i x v (by simpa using hx) (by simpa using hv)
    · rw [List.mapM_cons, f1]
      simp only [Sem.run_bind, Sem.run_pure, Result.andThen_ok, h4]
  | .cell d t :: rs, K, h => by
    obtain ⟨ad, x0, u, g1, g2, g3, g4⟩ := load_out ht r (he d) h
    obtain ⟨vs, mvs, h1, h2, h3, h4⟩ := resK_out ht r he f f1 f2 rs g3
    refine ⟨_ :: vs, u :: mvs, h1, by simp [h2], ?_, ?_⟩
    · intro i x v hx hv
      cases i with
      | zero => simp at hx hv; subst hx; subst hv; exact g4
      | succ i => exact h3 i x v (by simpa using hx) (by simpa using hv)
    · have hc : (f (.cell d t)).run P w = .ok u w := by
        rw [f2, g1]
        simp only [asAddr, Sem.run_bind, Sem.run_pure, Result.andThen_ok, g2]
      rw [List.mapM_cons, Sem.run_bind, hc]
      simp only [Sem.run_bind, Sem.run_pure, Result.andThen_ok, h4]

theorem run_results (ht : TabOk P tt) {fn : Func} {own : Nat → Own} {F : Nat → Prop} {w : World} {σ : Sto} {env : Env} {tmps : Array Value} (r : Rel own F w σ) (he : ∀ j, VS own F w (env j) (tmps.getD j undef)) {K : List SV → Prop} (h : resK tt env σ fn.results.toList K) :
    ∃ (vs : List SV) (mv : Value), K vs ∧ VS own F w (res1 vs) mv ∧ (results fn tmps).run P w = .ok mv w := by
  have key : ∃ f : ResultVar → Sem Value, (∀ t, f (.tmp t) = pure (tmps.getD t undef)) ∧ (∀ a t, f (.cell a t) = (do loadVar t (← asAddr (tmps.getD a undef)))) ∧
      results fn tmps = (do let vs ← fn.results.mapM f; pure (if h : vs.size = 1 then vs[0] else .tuple vs)) := ⟨_, fun _ => rfl, fun _ _ => rfl, rfl⟩
  obtain ⟨f, f1, f2, hres⟩ := key
  obtain ⟨vs, mvs, h1, h2, h3, h4⟩ := resK_out (P := P) ht r he f f1 f2 _ h
  have hrun : (results fn tmps).run P w = .ok (if h : mvs.toArray.size = 1 then mvs.toArray[0] else .tuple mvs.toArray) w := by
    rw [hres, Sem.run_bind, Array.mapM_eq_mapM_toList, Sem.run_map, h4]
    rfl
  refine ⟨vs, _, h1, ?_, hrun⟩
  cases vs with
  | nil =>
    have : mvs = [] := by cases mvs with | nil => rfl | cons => simp at h2
    subst this
    exact .tup _ _ rfl (by simp)
  | cons x vs =>
    cases mvs with
    | nil => simp at h2
    | cons u mvs =>
      cases vs with
      | nil =>
        have : mvs = [] := by cases mvs with | nil => rfl | cons => simp at h2
        subst this
        exact h3 0 x u rfl rfl
      | cons y vs =>
        cases mvs with
        | nil => simp at h2
        | cons u' mvs =>
          rw [dif_neg (by simp)]
          exact .tup _ _ (by simpa using h2) fun i x v hx hv => h3 i x v hx (by simpa using hv)

theorem VT.clean {F : Nat → Prop} {w : World} {x : T} (h : Plain x) : ∀ {v : Value}, VT F w x v → VT (fun _ => False) w x v := by
  induction h with
  | agg xs _ ih =>
    intro v hv
    cases hv with
    | agg _ vs hs hh => exact .agg _ _ hs fun i x v hx hv => ih x (List.mem_of_getElem? hx) (hh i x v hx hv)
  | bool b => intro v hv; cases hv; exact .bool _
  | int k n => intro v hv; cases hv; exact .int _ _
  | str s => intro v hv; cases hv; exact .str _
  | nsl => intro v hv; cases hv; exact .nsl
  | esl => intro v hv; cases hv; exact .esl _
  | nptr => intro v hv; cases hv; exact .nptr
  | nfn => intro v hv; cases hv; exact .nfn
  | nif => intro v hv; cases hv; exact .nif
  | any => intro v hv; exact .any _
theorem CleanN.at : ∀ {p : Path} {nd n : Nd}, CleanN nd → nodeAt nd p = some n → CleanN n
  | [], nd, n, h, hp => by rw [nodeAt_nil] at hp; injection hp with hp; subst hp; exact h
  | (i, j) :: p, .map .., n, h, hp => by rw [nodeAt_map] at hp; exact nomatch hp
  | (i, j) :: p, .row E s ts, n, h, hp => by
    obtain ⟨x, c, m, h1, h2, h3, h4⟩ := nodeAt_cons.1 hp
    have hc := h x (List.mem_of_getElem? h1) c (List.mem_of_getElem? h2)
    refine CleanN.at (nd := m) ?_ h4
    cases hc with
    | plain _ hp => cases hp <;> exact nomatch h3
    | nst E sz xs hh => injection h3 with h3; subst h3; exact hh
    | nmp kk es hh => injection h3 with h3; subst h3; exact hh
theorem TreeOk.clean {F : Nat → Prop} {w : World} {c : Path → Option Loc} {nd : Nd} (h : TreeOk F w c nd) (hc : CleanN nd) : TreeOk (fun _ => False) w c nd := by
  refine ⟨fun p n hp => ?_, h.2⟩
  have hcn := hc.at hp
  have hn := h.1 p n hp
  cases n with
  | row E sz xs =>
    rcases hn with g | ⟨b, o, cap, vals, g1, g3, g4, g5, g6, g7, g8, g9, g10, g11⟩
    · exact .inl g
    · refine .inr ⟨b, o, cap, vals, g1, g3, g4, g5, g6, g7, g8, g9, fun i x j y v hx hy hv => ?_, g11⟩
      have h1 := g10 i x j y v hx hy hv
      have h2 := hcn x (List.mem_of_getElem? hx) y (List.mem_of_getElem? hy)
      cases h2 with
      | plain _ hp => cases y <;> first | exact VT.clean hp h1 | exact nomatch hp
      | nst E sz xs hh => exact h1
      | nmp kk es hh => exact h1
  | map kk es =>
    obtain ⟨b, ents, clock, g1, g2, g3, g4, g5, g6⟩ := hn
    exact ⟨b, ents, clock, g1, g2, g3, g4, fun i kv e hx he => VT.clean (hcn kv (List.mem_of_getElem? hx)) (g5 i kv e hx he), g6⟩

theorem takDs_sound {F : Nat → Prop} {w : World} {f : SV → Sto → (SV → Sto → Prop) → Prop}
    (ih : ∀ {own : Nat → Own} {σ : Sto} {s : SV} {v : Value} {K : SV → Sto → Prop}, Rel own F w σ → VS own F w s v → f s σ K → ∃ s' σ' own', K s' σ' ∧ Rel own' F w σ' ∧ Ext σ.length own F w own' F w ∧ σ.length ≤ σ'.length ∧ VS own' F w s' v) :
    ∀ {ss : List SV} {vs : List Value} {own : Nat → Own} {σ : Sto} {K : List SV → Sto → Prop}, Rel own F w σ → vs.length = ss.length → (∀ (i : Nat) (x : SV) (v : Value), ss[i]? = some x → vs[i]? = some v → VS own F w x v) → takDs f ss σ K →
    ∃ ss' σ' own', K ss' σ' ∧ Rel own' F w σ' ∧ Ext σ.length own F w own' F w ∧ σ.length ≤ σ'.length ∧ ss'.length = ss.length ∧ ∀ (i : Nat) (x : SV) (v : Value), ss'[i]? = some x → vs[i]? = some v → VS own' F w x v
  | [], vs, own, σ, K, r, hl, hv, h => ⟨[], σ, own, h, r, Ext.refl _ _ _ _, Nat.le_refl _, rfl, by simp⟩
  | s :: ss, [], own, σ, K, r, hl, hv, h => by simp at hl
  | s :: ss, v :: vs, own, σ, K, r, hl, hv, h => by
    obtain ⟨s', σ1, own1, h1, r1, e1, l1, v1⟩ := ih r (hv 0 s v rfl rfl) h
    obtain ⟨ss', σ2, own2, h2, r2, e2, l2, hl2, v2⟩ := takDs_sound ih (vs := vs) r1 (by simpa using hl) (fun i x v hx hv' => (hv (i + 1) x v (by simpa using hx) (by simpa using hv')).ext r e1) h1
    refine ⟨s' :: ss', σ2, own2, h2, r2, e1.trans (e2.mono l1), by omega, by simp [hl2], fun i x u hx hu => ?_⟩
    cases i with
    | zero => simp at hx hu; subst hx hu; exact v1.ext r1 e2
    | succ i => exact v2 i x u (by simpa using hx) (by simpa using hu)
theorem takD_sound {F : Nat → Prop} {w : World} : ∀ (n : Nat) {own : Nat → Own} {σ : Sto} {s : SV} {v : Value} {K : SV → Sto → Prop}, Rel own F w σ → VS own F w s v → takD n s σ K → ∃ s' σ' own', K s' σ' ∧ Rel own' F w σ' ∧ Ext σ.length own F w own' F w ∧ σ.length ≤ σ'.length ∧ VS own' F w s' v := by
  intro n
  induction n with
  | zero => intro own σ s v K r hv h; exact tak1_sound r hv (by cases s <;> exact h)
  | succ n ih =>
    intro own σ s v K r hv h
    cases s with
    | agg xs =>
      cases hv with
      | agg _ vs hs hh =>
        obtain ⟨ys, σ', own', h1, h2, h3, h4, h5, h6⟩ := takDs_sound ih (vs := vs.toList) r (by simpa using hs) (fun i x v hx hv => hh i x v hx (by simpa using hv)) h
        exact ⟨_, σ', own', h1, h2, h3, h4, .agg _ _ (by rw [hs, h5]) fun i x v hx hv => h6 i x v hx (by simpa using hv)⟩
    | tup xs =>
      cases hv with
      | tup _ vs hs hh =>
        obtain ⟨ys, σ', own', h1, h2, h3, h4, h5, h6⟩ := takDs_sound ih (vs := vs.toList) r (by simpa using hs) (fun i x v hx hv => hh i x v hx (by simpa using hv)) h
        exact ⟨_, σ', own', h1, h2, h3, h4, .tup _ _ (by rw [hs, h5]) fun i x v hx hv => h6 i x v hx (by simpa using hv)⟩
    | _ => exact tak1_sound r hv h

theorem opn_plain {x : T} (h : x.plain = true) (d n : Nat) : opn d n x = (.t x, []) := by
  cases x <;> first | (cases d <;> rfl) | simp [T.plain] at h
theorem opnL_plain {d : Nat} : ∀ {xs : List T} {n : Nat}, xs.all T.plain = true → opnL (opn d) n xs = (xs.map SV.t, [])
  | [], n, _ => rfl
  | x :: xs, n, h => by
    simp only [List.all_cons, Bool.and_eq_true] at h
    simp only [opnL, opn_plain h.1, opnL_plain h.2]
    rfl
theorem opn_flat {x : T} (h : x.flat = true) (d n : Nat) {own : Nat → Own} {w : World} {v : Value} (hv : VT (fun _ => False) w x v) : (opn d n x).2 = [] ∧ VS own (fun _ => False) w (opn d n x).1 v := by
  have many : ∀ {xs : List T} {vs : Array Value}, vs.size = xs.length → (∀ (i : Nat) (x : T) (v : Value), xs[i]? = some x → vs[i]? = some v → VT (fun _ => False) w x v) → vs.size = (xs.map SV.t).length ∧ ∀ (i : Nat) (x : SV) (v : Value), (xs.map SV.t)[i]? = some x → vs[i]? = some v → VS own (fun _ => False) w x v := by
    intro xs vs hs hh
    refine ⟨by simpa using hs, fun i x v hx hv => ?_⟩
    rw [List.getElem?_map] at hx
    cases hq : xs[i]? with
    | none => rw [hq] at hx; simp at hx
    | some y => rw [hq] at hx; simp at hx; subst hx; exact .t _ _ (hh i y v hq hv)
  have leaf : ∀ {y : T}, y.plain = true → VT (fun _ => False) w y v → (opn d n y).2 = [] ∧ VS own (fun _ => False) w (opn d n y).1 v := fun hp hv => by rw [opn_plain hp]; exact ⟨rfl, .t _ _ hv⟩
  cases x with
  | agg xs =>
    cases d with
    | zero => exact ⟨rfl, .t _ _ hv⟩
    | succ d =>
      have e : opn (d + 1) n (.agg xs) = (.agg (opnL (opn d) n xs).1, (opnL (opn d) n xs).2) := rfl
      rw [e, opnL_plain h]
      cases hv with
      | agg _ vs hs hh => exact ⟨rfl, .agg _ _ (many hs hh).1 (many hs hh).2⟩
  | tup xs =>
    cases d with
    | zero => exact ⟨rfl, .t _ _ hv⟩
    | succ d =>
      have e : opn (d + 1) n (.tup xs) = (.tup (opnL (opn d) n xs).1, (opnL (opn d) n xs).2) := rfl
      rw [e, opnL_plain h]
      cases hv with
      | tup _ vs hs hh => exact ⟨rfl, .tup _ _ (many hs hh).1 (many hs hh).2⟩
  | _ => exact leaf h hv

/-- What has been closed: its objects, and its value. -/
structure Cls (own : Nat → Own) (w : World) (σ : Sto) (d : Nat) (x : T) (L : List Nat) (mv : Value) : Prop where
  len : (opn d 0 x).2.length = L.length
  obj : ∀ (i k : Nat), L[i]? = some k → ∃ ep nd, σ[k]? = some (.nd ep nd) ∧ (opn d 0 x).2[i]? = some (.nd e0 nd) ∧ CleanN nd
  val : ∀ (own2 : Nat → Own) (m : Nat), (∀ (i k : Nat), L[i]? = some k → (own2 (m + i)).am 0 [] = (own k).am 0 []) → VS own2 (fun _ => False) w (opn d m x).1 mv

theorem clsKs_out {own : Nat → Own} {F : Nat → Prop} {w : World} {σ : Sto} {d : Nat} (ih : ∀ {s : SV} {v : Value} {K : T → List Nat → Prop}, VS own F w s v → clsK d σ s K → ∃ x L, K x L ∧ Cls own w σ d x L v) :
    ∀ {ss : List SV} {vs : List Value} {K : List T → List Nat → Prop}, vs.length = ss.length → (∀ (i : Nat) (x : SV) (v : Value), ss[i]? = some x → vs[i]? = some v → VS own F w x v) → clsKs (clsK d σ) ss K →
    ∃ ys L, K ys L ∧ ys.length = ss.length ∧ (opnL (opn d) 0 ys).2.length = L.length ∧ (∀ (i k : Nat), L[i]? = some k → ∃ ep nd, σ[k]? = some (.nd ep nd) ∧ (opnL (opn d) 0 ys).2[i]? = some (.nd e0 nd) ∧ CleanN nd) ∧
      ∀ (own2 : Nat → Own) (m : Nat), (∀ (i k : Nat), L[i]? = some k → (own2 (m + i)).am 0 [] = (own k).am 0 []) → (opnL (opn d) m ys).1.length = ss.length ∧ ∀ (i : Nat) (x : SV) (v : Value), (opnL (opn d) m ys).1[i]? = some x → vs[i]? = some v → VS own2 (fun _ => False) w x v
  | [], vs, K, hl, hv, h => ⟨[], [], h, rfl, rfl, by simp, fun own2 m _ => ⟨rfl, by simp [opnL]⟩⟩
  | s :: ss, [], K, hl, hv, h => by simp at hl
  | s :: ss, v :: vs, K, hl, hv, h => by
    obtain ⟨y, L1, h1, c1⟩ := ih (hv 0 s v rfl rfl) h
    obtain ⟨ys, L2, h2, h3, h4, h5, h6⟩ := clsKs_out ih (vs := vs) (by simpa using hl) (fun i x v hx hv' => hv (i + 1) x v (by simpa using hx) (by simpa using hv')) h1
    have es : ∀ n m, (opnL (opn d) n ys).2 = (opnL (opn d) m ys).2 := fun n m => opnL_snd (opn_snd d) ys n m
    refine ⟨y :: ys, L1 ++ L2, h2, by simp [h3], ?_, fun i k hi => ?_, fun own2 m hm => ?_⟩
    · simp only [opnL, List.length_append]
      rw [es _ 0, c1.len, h4]
    · simp only [opnL]
      rw [es _ 0]
      rcases Nat.lt_or_ge i L1.length with hlt | hlt
      · rw [List.getElem?_append_left hlt] at hi
        rw [List.getElem?_append_left (by rw [c1.len]; exact hlt)]
        exact c1.obj i k hi
      · rw [List.getElem?_append_right hlt] at hi
        rw [List.getElem?_append_right (by rw [c1.len]; exact hlt), c1.len]
        exact h5 _ k hi
    · simp only [opnL]
      have hlen : (opn d m y).2.length = L1.length := by rw [opn_snd d m 0 y]; exact c1.len
      obtain ⟨g1, g2⟩ := h6 own2 (m + (opn d m y).2.length) (fun i k hi => by
        have := hm (L1.length + i) k (by rw [List.getElem?_append_right (by omega)]; simpa using hi)
        rw [hlen, Nat.add_assoc]; exact this)
      refine ⟨by simp [g1], fun i x u hx hu => ?_⟩
      cases i with
      | zero =>
        simp at hx hu
        subst hx hu
        exact c1.val own2 m fun i k hi => hm i k (by rw [List.getElem?_append_left (List.getElem?_eq_some_iff.1 hi).1]; exact hi)
      | succ i => exact g2 i x u (by simpa using hx) (by simpa using hu)

theorem clsK_out {own : Nat → Own} {F : Nat → Prop} {w : World} {σ : Sto} (r : Rel own F w σ) : ∀ (d : Nat) {s : SV} {v : Value} {K : T → List Nat → Prop}, VS own F w s v → clsK d σ s K → ∃ x L, K x L ∧ Cls own w σ d x L v := by
  intro d
  induction d with
  | zero => intro s v K hv h; cases s <;> exact h.elim
  | succ d ih =>
    intro s v K hv h
    cases s with
    | agg xs =>
      cases hv with
      | agg _ vs hs hh =>
        obtain ⟨ys, L, h1, h2, h3, h4, h5⟩ := clsKs_out ih (vs := vs.toList) (by simpa using hs) (fun i x v hx hv => hh i x v hx (by simpa using hv)) h
        refine ⟨_, L, h1, h3, h4, fun own2 m hm => ?_⟩
        obtain ⟨g1, g2⟩ := h5 own2 m hm
        exact .agg _ _ (by rw [hs, g1]) fun i x v hx hv => g2 i x v hx (by simpa using hv)
    | tup xs =>
      cases hv with
      | tup _ vs hs hh =>
        obtain ⟨ys, L, h1, h2, h3, h4, h5⟩ := clsKs_out ih (vs := vs.toList) (by simpa using hs) (fun i x v hx hv => hh i x v hx (by simpa using hv)) h
        refine ⟨_, L, h1, h3, h4, fun own2 m hm => ?_⟩
        obtain ⟨g1, g2⟩ := h5 own2 m hm
        exact .tup _ _ (by rw [hs, g1]) fun i x v hx hv => g2 i x v hx (by simpa using hv)
    | t y =>
      obtain ⟨hf, h⟩ := bif_elim0 h
      cases hv with
      | t _ _ hv =>
        have hv0 : VT (fun _ => False) w y v := hv.flat_any hf
        exact ⟨y, [], h, by rw [(opn_flat (own := own) hf (d + 1) 0 hv0).1]; rfl, by simp, fun own2 m _ => (opn_flat hf (d + 1) m hv0).2⟩
    | ref k e p off len =>
      unfold clsK at h
      split at h
      · rename_i ep E sz ts hk
        obtain ⟨h1, h2, h3⟩ := h
        obtain ⟨g1, g2, g3⟩ := h1.out
        subst g1 g2
        have h2 := h2.out
        obtain ⟨hT, hB, hep, hfr⟩ := nd_obj r hk
        rw [nth_eq] at hk
        refine ⟨_, [k], h3, rfl, fun i k' hi => ?_, fun own2 m hm => ?_⟩
        · cases i with
          | zero => simp at hi; subst hi; exact ⟨ep, _, hk, rfl, h2⟩
          | succ i => simp at hi
        · have ha := hm 0 k rfl
          rw [Nat.add_zero] at ha
          show VS own2 (fun _ => False) w (.ref m 0 [] 0 ts.length) v
          rw [← g3]
          cases hv with
          | ref _ _ _ _ _ b o sz cap mm hh hl hm hn => exact .ref _ _ _ _ _ b o sz cap mm (ha.trans hh) hl hm hn
          | refE _ _ _ a hh => exact .refE _ _ _ a (ha.trans hh)
          | refZ _ _ _ _ a hh => exact absurd hh (by omega)
      · exact h.elim
    | mp k e p =>
      unfold clsK at h
      split at h
      · rename_i ep kk es hk
        obtain ⟨h1, h2, h3⟩ := h
        have g1 := h1.out
        subst g1
        have h2 := h2.out
        rw [nth_eq] at hk
        refine ⟨_, [k], h3, rfl, fun i k' hi => ?_, fun own2 m hm => ?_⟩
        · cases i with
          | zero => simp at hi; subst hi; exact ⟨ep, _, hk, rfl, h2⟩
          | succ i => simp at hi
        · have ha := hm 0 k rfl
          rw [Nat.add_zero] at ha
          show VS own2 (fun _ => False) w (.mp m 0 []) v
          cases hv with
          | mp _ _ _ b o sz cap mm hh => exact .mp _ _ _ b o sz cap mm (ha.trans hh)
      · exact h.elim
    | _ => exact h.elim


theorem start_rel {F : Nat → Prop} {w : World} (h3 : ∀ b, F b → b < w.heap.size) : Rel (fun _ => Own.no) F w [] :=
  ⟨fun _ _ => rfl, fun _ _ _ h => h.elim, fun _ _ h => h.elim, h3, fun _ _ h => h.elim, fun k o h => by simp at h⟩

theorem of_body_core (I : FuncId → Bool) (ht : TabOk P tt) {f : FuncId} {fn : Func} {ts : List T} {post : T → Prop} (hf : P.funcs[f]? = some fn) (hn : (fn.name == "runtime.NumGoroutine") = false) {c : Code} (hc : fn.body = some c)
    (hck : ((mods c).all (fun d => Nat.blt d fn.ntmps) && Nat.ble ts.length fn.ntmps) = true) {R : Env → Sto → Prop} (hb : cwp (ctr P I) tt fn.ntmps c (fun x env σ => match x with | .normal => R env σ | .ret => R env σ | _ => False) (argEnv ts) [])
    (hfin : ∀ (F : Nat → Prop) (w w' : World) (own' : Nat → Own) (F' : Nat → Prop) (env' : Env) (σ' : Sto) (tmps : Array Value), (∀ b, F' b → F b ∨ w.heap.size ≤ b) → (∀ b, F b → F' b) → (∀ k b, (own' k).bl b → w.heap.size ≤ b) → Rel own' F' w' σ' → (∀ j, VS own' F' w' (env' j) (tmps.getD j undef)) → R env' σ' →
      ∃ v, (results fn tmps).run P w' = .ok v w' ∧ ∃ (r : T) (F2 : Nat → Prop), post r ∧ RT F2 w.heap.size w' r v ∧ (∀ b, F2 b → F b ∨ w.heap.size ≤ b) ∧ (∀ b, F2 b → b < w'.heap.size) ∧ (∀ b, F b → F2 b)) : PCalls P f ts post := by
  simp only [Bool.and_eq_true] at hck
  obtain ⟨k1, k3⟩ := hck
  have k3 := Nat.le_of_ble_eq_true k3
  have hm : ∀ d ∈ mods c, d < fn.ntmps := fun d hd => by
    have := (List.all_eq_true.1 k1) d hd
    simpa [Nat.blt_eq] using this
  unfold PCalls
  refine ⟨⟨fn, hf, hn, by rw [hc]; rfl⟩, ?_⟩
  intro F w vs h1 h2 h3
  refine calls_of_wp hf hc ?_
  have noLv : ∀ b, ¬ Lv (fun _ => Own.no) b := by rintro b ⟨k, h⟩; exact h.elim
  have r := start_rel h3
  have he : ER fn.ntmps (fun _ => Own.no) F w (argEnv ts) { tmps := vs.toArray ++ Array.replicate (fn.ntmps - vs.toArray.size) undef, defers := [] } := by
    refine ⟨by simp; omega, fun j => ?_⟩
    unfold argEnv
    split
    · rename_i x hx
      rw [nth_eq] at hx
      have hlt : j < vs.length := by have := (List.getElem?_eq_some_iff.1 hx).1; omega
      have hget : (vs.toArray ++ Array.replicate (fn.ntmps - vs.toArray.size) undef).getD j undef = vs[j] := by
        simp [Array.getD_eq_getD_getElem?, Array.getElem?_append, hlt]
      rw [hget]
      exact .t _ _ (h2 j x _ hx (List.getElem?_eq_getElem hlt))
    · exact .t _ _ (.any _)
  refine cwp_sound ht c hm hb r he ?_
  intro ax env' σ' own' F' w' a' hka e r' l he' hd hs
  have fin : R env' σ' → a'.defers = [] ∧ ∃ v, (results fn a'.tmps).run P w' = .ok v w' ∧
      ∃ (r : T) (mv : Value) (F' : Nat → Prop), Ending.returned v = .returned mv ∧ post r ∧ RT F' w.heap.size w' r mv ∧ (∀ b, F' b → F b ∨ w.heap.size ≤ b) ∧ (∀ b, F' b → b < w'.heap.size) ∧ (∀ b, F b → F' b) ∧ Below w.heap.size w w' := by
    intro hk
    obtain ⟨v, g1, rr, F2, g2, g3, g4, g5, g6⟩ := hfin F w w' own' F' env' σ' a'.tmps (fun b hb => by
      rcases e.Fn b hb with h | h | h
      · exact .inl h
      · exact .inr h
      · exact absurd h (noLv b)) e.Fm (fun k b hb => (e.on b ⟨k, hb⟩).resolve_left (noLv b)) r' he'.2 hk
    exact ⟨hd, v, g1, rr, v, F2, rfl, g2, g3, g4, g5, g6, ⟨e.os, e.tape, e.output, e.sz, fun k hk => e.fr k hk (noLv k)⟩⟩
  cases ax with
  | normal => exact fin hka
  | ret => exact fin hka
  | exit id => exact hka.elim
  | goto l => exact hka.elim

theorem PCalls.of_bodyI (I : FuncId → Bool) (ht : TabOk P tt) {f : FuncId} {fn : Func} {ts : List T} {post : T → Prop} (hf : P.funcs[f]? = some fn) (hn : (fn.name == "runtime.NumGoroutine") = false) (hb : body (ctr P I) tt fn ts post) : PCalls P f ts post := by
  unfold body at hb
  split at hb
  · exact hb.elim
  · rename_i c hc
    obtain ⟨hck, hb⟩ := bif_elim hb
    refine of_body_core I ht hf hn hc hck hb ?_
    intro F w w' own' F' env' σ' tmps hF hFm hL r' he' hk
    unfold Am.fin at hk
    obtain ⟨vs, mv, hk, hv, hrun⟩ := run_results ht r' he' hk
    obtain ⟨t, hk, hvt⟩ := frzK_VT r' 20 hv hk
    refine ⟨mv, hrun, t, _, hk.out, .of_VT hvt, ?_, ?_, fun b hb => .inl (hFm b hb)⟩
    · rintro b (h | ⟨k, _, h4⟩)
      · exact hF b h
      · exact .inr (hL k b h4)
    · rintro b (h | ⟨k, _, h4⟩)
      · exact r'.Fb b h
      · exact r'.lb k b h4

theorem PCalls.of_bodyOI (I : FuncId → Bool) (ht : TabOk P tt) {f : FuncId} {fn : Func} {ts : List T} {post : T → Prop} (hf : P.funcs[f]? = some fn) (hn : (fn.name == "runtime.NumGoroutine") = false) (hb : bodyO (ctr P I) tt fn ts post) : PCalls P f ts post := by
  unfold bodyO at hb
  split at hb
  · exact hb.elim
  · rename_i c hc
    obtain ⟨hck, hb⟩ := bif_elim hb
    refine of_body_core I ht hf hn hc hck hb ?_
    intro F w w' own0 F' env' σ0 tmps hF hFm hL r0 he' hk
    unfold Am.finO at hk
    obtain ⟨vs, mv, hk, hv, hrun⟩ := run_results ht r0 he' hk
    obtain ⟨s', σ', own', hk, r', e', l', hv'⟩ := takD_sound 4 r0 hv hk
    obtain ⟨x, L, hk, c⟩ := clsK_out r' 4 hv' hk
    obtain ⟨hun, hk⟩ := bif_elim0 hk
    have hnd := unlikeIds_nodup hun
    have hL' : ∀ k b, (own' k).bl b → w.heap.size ≤ b := by
      intro k b hb
      rcases e'.on b ⟨k, hb⟩ with ⟨j, hj⟩ | h
      · exact hL j b hj
      · have := r'.lb k b hb; omega
    refine ⟨mv, hrun, .own x, F', hk.out, ?_, hF, r'.Fb, hFm⟩
    let ownx : Nat → Own := fun i => match L[i]? with
      | some k => match σ'[k]? with
        | some (.nd ep _) => ⟨fun e p => if e = 0 then (own' k).cur ep p else none, (own' k).bl⟩
        | _ => .no
      | none => .no
    have hat : ∀ i k ep nd, L[i]? = some k → σ'[k]? = some (.nd ep nd) → ownx i = ⟨fun e p => if e = 0 then (own' k).cur ep p else none, (own' k).bl⟩ := by
      intro i k ep nd h1 h2
      show (match L[i]? with
        | some k => match σ'[k]? with
          | some (.nd ep _) => (⟨fun e p => if e = 0 then (own' k).cur ep p else none, (own' k).bl⟩ : Own)
          | _ => .no
        | none => .no) = _
      rw [h1]
      simp only [h2]
    have hbl : ∀ i b, (ownx i).bl b → ∃ k, L[i]? = some k ∧ (own' k).bl b := by
      intro i b hb
      cases hi : L[i]? with
      | none =>
        have : ownx i = .no := by
          show (match L[i]? with
            | some k => match σ'[k]? with
              | some (.nd ep _) => (⟨fun e p => if e = 0 then (own' k).cur ep p else none, (own' k).bl⟩ : Own)
              | _ => .no
            | none => .no) = _
          rw [hi]
        rw [this] at hb
        exact hb.elim
      | some k =>
        obtain ⟨ep, nd, h1, _, _⟩ := c.obj i k hi
        rw [hat i k ep nd hi h1] at hb
        exact ⟨k, rfl, hb⟩
    refine ⟨ownx, ⟨fun i hi => ?_, fun i j b h1 h2 => ?_, fun i b _ h => h, fun b h => h.elim, fun i b h1 => ?_, fun i o ho => ?_⟩, c.val ownx 0 fun i k hi => ?_, fun i b h1 => ?_⟩
    · rw [c.len] at hi
      show (match L[i]? with
        | some k => match σ'[k]? with
          | some (.nd ep _) => (⟨fun e p => if e = 0 then (own' k).cur ep p else none, (own' k).bl⟩ : Own)
          | _ => .no
        | none => .no) = _
      rw [List.getElem?_eq_none hi]
    · obtain ⟨k, g1, g2⟩ := hbl i b h1
      obtain ⟨k', g3, g4⟩ := hbl j b h2
      have := r'.inj k k' b g2 g4
      subst this
      have q1 := (List.getElem?_eq_some_iff.1 g1).1
      exact (List.getElem?_inj q1 hnd).1 (g1.trans g3.symm)
    · obtain ⟨k, _, g2⟩ := hbl i b h1
      exact r'.lb k b g2
    · have hi : i < L.length := by rw [← c.len]; exact (List.getElem?_eq_some_iff.1 ho).1
      obtain ⟨ep, nd, h1, h2, h3⟩ := c.obj i _ (List.getElem?_eq_getElem hi)
      rw [ho] at h2
      injection h2 with h2
      subst h2
      rw [hat i _ ep nd (List.getElem?_eq_getElem hi) h1]
      obtain ⟨hT, hB, hep, hfr⟩ := r'.obj _ _ h1
      have hcur : (⟨fun e p => if e = 0 then (own' L[i]).cur ep p else none, (own' L[i]).bl⟩ : Own).cur e0 = (own' L[i]).cur ep := by
        funext p
        show (if e0 p.length = 0 then (own' L[i]).cur ep p else none) = _
        rw [if_pos (show e0 p.length = 0 from rfl)]
      refine ⟨by rw [hcur]; exact hT.clean h3, by rw [hcur]; exact hB, rfl, fun e p he => ?_⟩
      show (if e = 0 then _ else none) = none
      rw [if_neg (by simp [e0] at he; omega)]
    · obtain ⟨ep, nd, h1, h2, h3⟩ := c.obj i k hi
      rw [Nat.zero_add, hat i k ep nd hi h1]
      obtain ⟨hT, hB, hep, hfr⟩ := r'.obj _ _ h1
      show (if (0 : Nat) = 0 then (own' k).am (ep 0) [] else none) = _
      rw [if_pos rfl, hep]
    · obtain ⟨k, _, g2⟩ := hbl i b h1
      exact ⟨hL' k b g2, r'.sep k b g2⟩

theorem PCalls.of_body (ht : TabOk P tt) {f : FuncId} {fn : Func} {ts : List T} {post : T → Prop} (hf : P.funcs[f]? = some fn) (hn : (fn.name == "runtime.NumGoroutine") = false) (hb : body (ctr P fun _ => false) tt fn ts post) : PCalls P f ts post := PCalls.of_bodyI _ ht hf hn hb
theorem PCalls.of_bodyO (ht : TabOk P tt) {f : FuncId} {fn : Func} {ts : List T} {post : T → Prop} (hf : P.funcs[f]? = some fn) (hn : (fn.name == "runtime.NumGoroutine") = false) (hb : bodyO (ctr P fun _ => false) tt fn ts post) : PCalls P f ts post := PCalls.of_bodyOI _ ht hf hn hb

/-- A call gone through in place. -/
theorem ICalls.inline (ht : TabOk P tt) {f : FuncId} {fn : Func} {vs : List SV} {σ : Sto} {K : SV → Sto → Prop} (hf : P.funcs[f]? = some fn) (hn : (fn.name == "runtime.NumGoroutine") = false) (hb : bodyI (ctr P I) tt fn vs σ K) : ICalls P f vs σ K := by
  unfold bodyI at hb
  split at hb
  · exact hb.elim
  · rename_i c hc
    obtain ⟨hck, hb⟩ := bif_elim hb
    simp only [Bool.and_eq_true] at hck
    obtain ⟨k1, k3⟩ := hck
    have k3 := Nat.le_of_ble_eq_true k3
    have hm : ∀ d ∈ mods c, d < fn.ntmps := fun d hd => by
      have := (List.all_eq_true.1 k1) d hd
      simpa [Nat.blt_eq] using this
    unfold ICalls
    refine ⟨⟨fn, hf, hn, by rw [hc]; rfl⟩, ?_⟩
    intro own F w mvs h1 h2 r
    refine calls_of_wp hf hc ?_
    have he : ER fn.ntmps own F w (argEnvS vs) { tmps := mvs.toArray ++ Array.replicate (fn.ntmps - mvs.toArray.size) undef, defers := [] } := by
      refine ⟨by simp; omega, fun j => ?_⟩
      unfold argEnvS
      split
      · rename_i x hx
        rw [nth_eq] at hx
        have hlt : j < mvs.length := by have := (List.getElem?_eq_some_iff.1 hx).1; omega
        have hget : (mvs.toArray ++ Array.replicate (fn.ntmps - mvs.toArray.size) undef).getD j undef = mvs[j] := by
          simp [Array.getD_eq_getD_getElem?, Array.getElem?_append, hlt]
        rw [hget]
        exact h2 j x _ hx (List.getElem?_eq_getElem hlt)
      · exact .t _ _ (.any _)
    refine cwp_sound ht c hm hb r he ?_
    intro ax env' σ' own' F' w' a' hka e r' l he' hd hs
    have fin : (resK tt env' σ' fn.results.toList fun vs => K (res1 vs) σ') → a'.defers = [] ∧ ∃ v, (results fn a'.tmps).run P w' = .ok v w' ∧
        ∃ (v2 : SV) (σ2 : Sto) (own2 : Nat → Own) (F2 : Nat → Prop) (mv : Value), Ending.returned v = .returned mv ∧ K v2 σ2 ∧ Ext σ.length own F w own2 F2 w' ∧ Rel own2 F2 w' σ2 ∧ σ.length ≤ σ2.length ∧ VS own2 F2 w' v2 mv := by
      intro hk
      obtain ⟨vs, mv, hk, hv, hrun⟩ := run_results ht r' he'.2 hk
      exact ⟨hd, mv, hrun, _, σ', own', F', mv, rfl, hk, e, r', l, hv⟩
    cases ax with
    | normal => exact fin hka
    | ret => exact fin hka
    | exit id => exact hka.elim
    | goto l => exact hka.elim


/-- Such a result may be taken as one that nobody writes any more. -/
theorem PCalls.freeze {f : FuncId} {ts : List T} {E : TypeId} {sz : Nat} {xs : List T} (h : PCalls P f ts fun r => r = .own (.nst E sz xs)) : PCalls P f ts fun r => r = .nst E sz xs := by
  unfold PCalls at *
  refine ⟨h.1, ?_⟩
  intro F w vs h1 h2 h3
  refine (h.2 F w vs h1 h2 h3).mono ?_
  rintro e w' ⟨r, mv, F', rfl, rfl, ⟨ownx, rx, vx, hx⟩, g1, g2, g3, g4⟩
  have hk : nth [SObj.nd e0 (.row E sz xs)] 0 = some (.nd e0 (.row E sz xs)) := rfl
  have hv := ref_VT (G := fun b => F' b ∨ (ownx 0).bl b) rx vx hk rfl (E := E) (sz := sz) (xs := xs) nodeAt_nil (fun _ h => h.elim) (fun b hb => .inr hb)
  have hvt : VT (fun b => F' b ∨ (ownx 0).bl b) w' (.nst E sz xs) mv := .nst _ _ _ _ (by simpa using hv)
  refine ⟨_, mv, fun b => F' b ∨ (ownx 0).bl b, rfl, rfl, hvt, ?_, ?_, fun b hb => .inl (g3 b hb), g4⟩
  · rintro b (h | h)
    · exact g1 b h
    · exact .inr (hx 0 b h).1
  · rintro b (h | h)
    · exact g2 b h
    · exact rx.lb 0 b h
def T.notOwn : T → Bool
  | .own _ => false
  | _ => true
/-- A result that is all the caller's own, read. -/
theorem PCalls.freezeK {f : FuncId} {ts : List T} {x : T} {q : T → Prop} (h : PCalls P f ts fun r => r = .own x) (hf : frzK 20 (opn 4 0 x).2 (opn 4 0 x).1 fun t => t.notOwn = true ∧ q t) : PCalls P f ts q := by
  unfold PCalls at *
  refine ⟨h.1, ?_⟩
  intro F w vs h1 h2 h3
  refine (h.2 F w vs h1 h2 h3).mono ?_
  rintro e w' ⟨r, mv, F', rfl, rfl, ⟨ownx, rx, vx, hx⟩, g1, g2, g3, g4⟩
  obtain ⟨t, ⟨ht, hq⟩, hvt⟩ := frzK_VT rx 20 vx hf
  obtain ⟨L, hL⟩ : ∃ L, L = ids 20 (opn 4 0 x).2 (opn 4 0 x).1 := ⟨_, rfl⟩
  rw [← hL] at hvt
  have hvt' : RT (fun b => F' b ∨ Fk ownx (fun _ => False) L b) w.heap.size w' t mv := by
    have hv : VT (fun b => F' b ∨ Fk ownx (fun _ => False) L b) w' t mv := hvt.sub fun b hb => .inr hb
    cases t <;> first | exact hv | exact nomatch ht
  refine ⟨_, mv, fun b => F' b ∨ Fk ownx (fun _ => False) L b, rfl, hq, hvt', ?_, ?_, fun b hb => .inl (g3 b hb), g4⟩
  · rintro b (h | ⟨h | ⟨k, hk, h⟩⟩)
    · exact g1 b h
    · exact h.elim
    · exact .inr (hx k b h).1
  · rintro b (h | ⟨h | ⟨k, hk, h⟩⟩)
    · exact g2 b h
    · exact h.elim
    · exact rx.lb k b h
end
end Go.Proofs.Ytihebfhhnoneiaa.Am
