/- The data of the program's graphs as plain Lean, and how they lie in memory. -/
import Derived.Test.YtgladinljapmkaaXH
/- A function's body and its contract. -/
namespace Go.Proofs.Ytgladinljapmkaa.Am
open Go.RowKit
set_option linter.unusedVariables false
set_option linter.unusedSimpArgs false
section
variable {P : Program} {tt : Tab} {I : FuncId → Bool}
theorem resK_out (ht : TabOk P tt) {own : Nat → Own} {F : Nat → Prop} {w : World} {σ : Sto} {env : Env} {tmps : Array Value} (r : Rel own F w σ) (he : ∀ j, VS own F w (env j) (tmps.getD j undef)) (f : ResultVar → Sem Value)
    (f1 : ∀ t, f (.tmp t) = pure (tmps.getD t undef)) (f2 : ∀ a t, f (.cell a t) = (do loadVar t (← asAddr (tmps.getD a undef)))) :
    ∀ (rs : List ResultVar) {K : List SV → Prop}, resK tt env σ rs K → ∃ (vs : List SV) (mvs : List Value), K vs ∧ mvs.length = vs.length ∧ (∀ (i : Nat) (x : SV) (v : Value), vs[i]? = some x → mvs[i]? = some v → VS own F w x v) ∧
      (rs.mapM f).run P w = .ok mvs w
  | [], K, h => ⟨[], [], h, rfl, by simp, rfl⟩
  | .tmp t :: rs, K, h => by
    obtain ⟨vs, mvs, h1, h2, h3, h4⟩ := resK_out ht r he f f1 f2 rs h
    refine ⟨_ :: vs, tmps.getD t undef :: mvs, h1, by simp [h2], ?_, ?_⟩
    · intro i x v hx hv
      cases i with
      | zero => simp at hx hv; subst hx; subst hv; simpa using he t
      | succ i => exact h3 i x v (by simpa using hx) (by simpa using hv)
    · rw [List.mapM_cons, f1]
      simp only [Sem.run_bind, Sem.run_pure, Result.andThen_ok, h4]
  | .cell d t :: rs, K, h => by
    obtain ⟨ad, x0, u, g1, g2, g3, g4⟩ : ∃ (ad : Addr) (x : SV) (u : Value), tmps.getD d undef = .pointer (some ad) ∧ (loadVar t ad).run P w = .ok u w ∧ (resK tt env σ rs fun vs => K (x :: vs)) ∧ VS own F w x u := by
      unfold resK at h
      cases hia : isArr (tt.at t).ti with
      | true => rw [hia, cond_true] at h; exact loadArr_out ht r (he d) (isArr_agg hia) h
      | false => rw [hia, cond_false] at h; exact load_out ht r (he d) h
    obtain ⟨vs, mvs, h1, h2, h3, h4⟩ := resK_out ht r he f f1 f2 rs g3
    refine ⟨_ :: vs, u :: mvs, h1, by simp [h2], ?_, ?_⟩
    · intro i x v hx hv
      cases i with
      | zero => simp at hx hv; subst hx; subst hv; exact g4
      | succ i => exact h3 i x v (by simpa using hx) (by simpa using hv)
    · have hc : (f (.cell d t)).run P w = .ok u w := by
        rw [f2, g1]
        simp only [asAddr, Sem.run_bind, Sem.run_pure, Result.andThen_ok, g2]
      rw [List.mapM_cons, Sem.run_bind, hc]
      simp only [Sem.run_bind, Sem.run_pure, Result.andThen_ok, h4]
theorem run_results (ht : TabOk P tt) {fn : Func} {own : Nat → Own} {F : Nat → Prop} {w : World} {σ : Sto} {env : Env} {tmps : Array Value} (r : Rel own F w σ) (he : ∀ j, VS own F w (env j) (tmps.getD j undef)) {K : List SV → Prop} (h : resK tt env σ fn.results.toList K) :
    ∃ (vs : List SV) (mv : Value), K vs ∧ VS own F w (res1 vs) mv ∧ (results fn tmps).run P w = .ok mv w := by
  have key : ∃ f : ResultVar → Sem Value, (∀ t, f (.tmp t) = pure (tmps.getD t undef)) ∧ (∀ a t, f (.cell a t) = (do loadVar t (← asAddr (tmps.getD a undef)))) ∧
      results fn tmps = (do let vs ← fn.results.mapM f; pure (if h : vs.size = 1 then vs[0] else .tuple vs)) := ⟨_, fun _ => rfl, fun _ _ => rfl, rfl⟩
  obtain ⟨f, f1, f2, hres⟩ := key
  obtain ⟨vs, mvs, h1, h2, h3, h4⟩ := resK_out (P := P) ht r he f f1 f2 _ h
  have hrun : (results fn tmps).run P w = .ok (if h : mvs.toArray.size = 1 then mvs.toArray[0] else .tuple mvs.toArray) w := by
    rw [hres, Sem.run_bind, Array.mapM_eq_mapM_toList, Sem.run_map, h4]
    rfl
  refine ⟨vs, _, h1, ?_, hrun⟩
  cases vs with
  | nil =>
    have : mvs = [] := by cases mvs with | nil => rfl | cons => simp at h2
    subst this
    exact .tup _ _ rfl (by simp)
  | cons x vs =>
    cases mvs with
    | nil => simp at h2
    | cons u mvs =>
      cases vs with
      | nil =>
        have : mvs = [] := by cases mvs with | nil => rfl | cons => simp at h2
        subst this
        exact h3 0 x u rfl rfl
      | cons y vs =>
        cases mvs with
        | nil => simp at h2
        | cons u' mvs =>
          rw [dif_neg (by simp)]
          exact .tup _ _ (by simpa using h2) fun i x v hx hv => h3 i x v hx (by simpa using hv)
theorem VT.clean {F : Nat → Prop} {w : World} {x : T} (h : Plain x) : ∀ {v : Value}, VT F w x v → VT (fun _ => False) w x v := by
  induction h with
  | agg xs _ ih =>
    intro v hv
    cases hv with
    | agg _ vs hs hh => exact .agg _ _ hs fun i x v hx hv => ih x (List.mem_of_getElem? hx) (hh i x v hx hv)
  | bool b => intro v hv; cases hv; exact .bool _
  | int k n => intro v hv; cases hv; exact .int _ _
  | str s => intro v hv; cases hv; exact .str _
  | nsl => intro v hv; cases hv; exact .nsl
  | esl => intro v hv; cases hv; exact .esl _
  | nptr => intro v hv; cases hv; exact .nptr
  | nfn => intro v hv; cases hv; exact .nfn
  | nif => intro v hv; cases hv; exact .nif
  | any => intro v hv; exact .any _
theorem CleanN.at : ∀ {p : Path} {nd n : Nd}, CleanN nd → nodeAt nd p = some n → CleanN n
  | [], nd, n, h, hp => by rw [nodeAt_nil] at hp; injection hp with hp; subst hp; exact h
  | (i, j) :: p, .map .., n, h, hp => by rw [nodeAt_map] at hp; exact nomatch hp
  | (i, j) :: p, .row E s ts, n, h, hp => by
    obtain ⟨x, c, m, h1, h2, h3, h4⟩ := nodeAt_cons.1 hp
    have hc := h x (List.mem_of_getElem? h1) c (List.mem_of_getElem? h2)
    refine CleanN.at (nd := m) ?_ h4
    cases hc with
    | plain _ hp => cases hp <;> exact nomatch h3
    | nst E sz xs hh => injection h3 with h3; subst h3; exact hh
    | nmp kk es hh => injection h3 with h3; subst h3; exact hh
theorem TreeOk.clean {F : Nat → Prop} {w : World} {c : Path → Option Loc} {nd : Nd} (h : TreeOk F w c nd) (hc : CleanN nd) : TreeOk (fun _ => False) w c nd := by
  refine ⟨fun p n hp => ?_, h.2⟩
  have hcn := hc.at hp
  have hn := h.1 p n hp
  cases n with
  | row E sz xs =>
    rcases hn with g | ⟨b, o, cap, vals, g1, g3, g4, g5, g6, g7, g8, g9, g10, g11⟩
    · exact .inl g
    · refine .inr ⟨b, o, cap, vals, g1, g3, g4, g5, g6, g7, g8, g9, fun i x j y v hx hy hv => ?_, g11⟩
      have h1 := g10 i x j y v hx hy hv
      have h2 := hcn x (List.mem_of_getElem? hx) y (List.mem_of_getElem? hy)
      cases h2 with
      | plain _ hp => cases y <;> first | exact VT.clean hp h1 | exact nomatch hp
      | nst E sz xs hh => exact h1
      | nmp kk es hh => exact h1
  | map kk es =>
    obtain ⟨b, ents, clock, g1, g2, g3, g4, g5, g6⟩ := hn
    exact ⟨b, ents, clock, g1, g2, g3, g4, fun i kv e hx he => VT.clean (hcn kv (List.mem_of_getElem? hx)) (g5 i kv e hx he), g6⟩
theorem takDs_sound {F : Nat → Prop} {w : World} {f : SV → Sto → (SV → Sto → Prop) → Prop}
    (ih : ∀ {own : Nat → Own} {σ : Sto} {s : SV} {v : Value} {K : SV → Sto → Prop}, Rel own F w σ → VS own F w s v → f s σ K → ∃ s' σ' own', K s' σ' ∧ Rel own' F w σ' ∧ Ext σ.length own F w own' F w ∧ σ.length ≤ σ'.length ∧ VS own' F w s' v) :
    ∀ {ss : List SV} {vs : List Value} {own : Nat → Own} {σ : Sto} {K : List SV → Sto → Prop}, Rel own F w σ → vs.length = ss.length → (∀ (i : Nat) (x : SV) (v : Value), ss[i]? = some x → vs[i]? = some v → VS own F w x v) → takDs f ss σ K →
    ∃ ss' σ' own', K ss' σ' ∧ Rel own' F w σ' ∧ Ext σ.length own F w own' F w ∧ σ.length ≤ σ'.length ∧ ss'.length = ss.length ∧ ∀ (i : Nat) (x : SV) (v : Value), ss'[i]? = some x → vs[i]? = some v → VS own' F w x v
  | [], vs, own, σ, K, r, hl, hv, h => ⟨[], σ, own, h, r, Ext.refl _ _ _ _, Nat.le_refl _, rfl, by simp⟩
  | s :: ss, [], own, σ, K, r, hl, hv, h => by simp at hl
  | s :: ss, v :: vs, own, σ, K, r, hl, hv, h => by
    obtain ⟨s', σ1, own1, h1, r1, e1, l1, v1⟩ := ih r (hv 0 s v rfl rfl) h
    obtain ⟨ss', σ2, own2, h2, r2, e2, l2, hl2, v2⟩ := takDs_sound ih (vs := vs) r1 (by simpa using hl) (fun i x v hx hv' => (hv (i + 1) x v (by simpa using hx) (by simpa using hv')).ext r e1) h1
    refine ⟨s' :: ss', σ2, own2, h2, r2, e1.trans (e2.mono l1), by omega, by simp [hl2], fun i x u hx hu => ?_⟩
    cases i with
    | zero => simp at hx hu; subst hx hu; exact v1.ext r1 e2
    | succ i => exact v2 i x u (by simpa using hx) (by simpa using hu)
theorem takD_sound {F : Nat → Prop} {w : World} : ∀ (n : Nat) {own : Nat → Own} {σ : Sto} {s : SV} {v : Value} {K : SV → Sto → Prop}, Rel own F w σ → VS own F w s v → takD n s σ K → ∃ s' σ' own', K s' σ' ∧ Rel own' F w σ' ∧ Ext σ.length own F w own' F w ∧ σ.length ≤ σ'.length ∧ VS own' F w s' v := by
  intro n
  induction n with
  | zero => intro own σ s v K r hv h; exact tak1_sound r hv (by cases s <;> exact h)
  | succ n ih =>
    intro own σ s v K r hv h
    cases s with
    | agg xs =>
      cases hv with
      | agg _ vs hs hh =>
        obtain ⟨ys, σ', own', h1, h2, h3, h4, h5, h6⟩ := takDs_sound ih (vs := vs.toList) r (by simpa using hs) (fun i x v hx hv => hh i x v hx (by simpa using hv)) h
        exact ⟨_, σ', own', h1, h2, h3, h4, .agg _ _ (by rw [hs, h5]) fun i x v hx hv => h6 i x v hx (by simpa using hv)⟩
    | tup xs =>
      cases hv with
      | tup _ vs hs hh =>
        obtain ⟨ys, σ', own', h1, h2, h3, h4, h5, h6⟩ := takDs_sound ih (vs := vs.toList) r (by simpa using hs) (fun i x v hx hv => hh i x v hx (by simpa using hv)) h
        exact ⟨_, σ', own', h1, h2, h3, h4, .tup _ _ (by rw [hs, h5]) fun i x v hx hv => h6 i x v hx (by simpa using hv)⟩
    | _ => exact tak1_sound r hv h
theorem opn_plain {x : T} (h : x.plain = true) (d n : Nat) : opn d n x = (.t x, []) := by
  cases x <;> first | (cases d <;> rfl) | simp [T.plain] at h
theorem opnL_plain {d : Nat} : ∀ {xs : List T} {n : Nat}, xs.all T.plain = true → opnL (opn d) n xs = (xs.map SV.t, [])
  | [], n, _ => rfl
  | x :: xs, n, h => by
    simp only [List.all_cons, Bool.and_eq_true] at h
    simp only [opnL, opn_plain h.1, opnL_plain h.2]
    rfl
theorem opn_flat {x : T} (h : x.flat = true) (d n : Nat) {own : Nat → Own} {w : World} {v : Value} (hv : VT (fun _ => False) w x v) : (opn d n x).2 = [] ∧ VS own (fun _ => False) w (opn d n x).1 v := by
  have many : ∀ {xs : List T} {vs : Array Value}, vs.size = xs.length → (∀ (i : Nat) (x : T) (v : Value), xs[i]? = some x → vs[i]? = some v → VT (fun _ => False) w x v) → vs.size = (xs.map SV.t).length ∧ ∀ (i : Nat) (x : SV) (v : Value), (xs.map SV.t)[i]? = some x → vs[i]? = some v → VS own (fun _ => False) w x v := by
    intro xs vs hs hh
    refine ⟨by simpa using hs, fun i x v hx hv => ?_⟩
    rw [List.getElem?_map] at hx
    cases hq : xs[i]? with
    | none => rw [hq] at hx; simp at hx
    | some y => rw [hq] at hx; simp at hx; subst hx; exact .t _ _ (hh i y v hq hv)
  have leaf : ∀ {y : T}, y.plain = true → VT (fun _ => False) w y v → (opn d n y).2 = [] ∧ VS own (fun _ => False) w (opn d n y).1 v := fun hp hv => by rw [opn_plain hp]; exact ⟨rfl, .t _ _ hv⟩
  cases x with
  | agg xs =>
    cases d with
    | zero => exact ⟨rfl, .t _ _ hv⟩
    | succ d =>
      have e : opn (d + 1) n (.agg xs) = (.agg (opnL (opn d) n xs).1, (opnL (opn d) n xs).2) := rfl
      rw [e, opnL_plain h]
      cases hv with
      | agg _ vs hs hh => exact ⟨rfl, .agg _ _ (many hs hh).1 (many hs hh).2⟩
  | tup xs =>
    cases d with
    | zero => exact ⟨rfl, .t _ _ hv⟩
    | succ d =>
      have e : opn (d + 1) n (.tup xs) = (.tup (opnL (opn d) n xs).1, (opnL (opn d) n xs).2) := rfl
      rw [e, opnL_plain h]
      cases hv with
      | tup _ vs hs hh => exact ⟨rfl, .tup _ _ (many hs hh).1 (many hs hh).2⟩
  | _ => exact leaf h hv
structure Cls (own : Nat → Own) (w : World) (σ : Sto) (d : Nat) (x : T) (L : List Nat) (mv : Value) : Prop where
  len : (opn d 0 x).2.length = L.length
  obj : ∀ (i k : Nat), L[i]? = some k → ∃ ep nd, σ[k]? = some (.nd ep nd) ∧ (opn d 0 x).2[i]? = some (.nd e0 nd) ∧ CleanN nd
  val : ∀ (own2 : Nat → Own) (m : Nat), (∀ (i k : Nat), L[i]? = some k → (own2 (m + i)).am 0 [] = (own k).am 0 []) → VS own2 (fun _ => False) w (opn d m x).1 mv
theorem clsKs_out {own : Nat → Own} {F : Nat → Prop} {w : World} {σ : Sto} {d : Nat} (ih : ∀ {s : SV} {v : Value} {K : T → List Nat → Prop}, VS own F w s v → clsK d σ s K → ∃ x L, K x L ∧ Cls own w σ d x L v) :
    ∀ {ss : List SV} {vs : List Value} {K : List T → List Nat → Prop}, vs.length = ss.length → (∀ (i : Nat) (x : SV) (v : Value), ss[i]? = some x → vs[i]? = some v → VS own F w x v) → clsKs (clsK d σ) ss K →
    ∃ ys L, K ys L ∧ ys.length = ss.length ∧ (opnL (opn d) 0 ys).2.length = L.length ∧ (∀ (i k : Nat), L[i]? = some k → ∃ ep nd, σ[k]? = some (.nd ep nd) ∧ (opnL (opn d) 0 ys).2[i]? = some (.nd e0 nd) ∧ CleanN nd) ∧
      ∀ (own2 : Nat → Own) (m : Nat), (∀ (i k : Nat), L[i]? = some k → (own2 (m + i)).am 0 [] = (own k).am 0 []) → (opnL (opn d) m ys).1.length = ss.length ∧ ∀ (i : Nat) (x : SV) (v : Value), (opnL (opn d) m ys).1[i]? = some x → vs[i]? = some v → VS own2 (fun _ => False) w x v
  | [], vs, K, hl, hv, h => ⟨[], [], h, rfl, rfl, by simp, fun own2 m _ => ⟨rfl, by simp [opnL]⟩⟩
  | s :: ss, [], K, hl, hv, h => by simp at hl
  | s :: ss, v :: vs, K, hl, hv, h => by
    obtain ⟨y, L1, h1, c1⟩ := ih (hv 0 s v rfl rfl) h
    obtain ⟨ys, L2, h2, h3, h4, h5, h6⟩ := clsKs_out ih (vs := vs) (by simpa using hl) (fun i x v hx hv' => hv (i + 1) x v (by simpa using hx) (by simpa using hv')) h1
    have es : ∀ n m, (opnL (opn d) n ys).2 = (opnL (opn d) m ys).2 := fun n m => opnL_snd (opn_snd d) ys n m
    refine ⟨y :: ys, L1 ++ L2, h2, by simp [h3], ?_, fun i k hi => ?_, fun own2 m hm => ?_⟩
    · simp only [opnL, List.length_append]
      rw [es _ 0, c1.len, h4]
    · simp only [opnL]
      rw [es _ 0]
      rcases Nat.lt_or_ge i L1.length with hlt | hlt
      · rw [List.getElem?_append_left hlt] at hi
        rw [List.getElem?_append_left (by rw [c1.len]; exact hlt)]
        exact c1.obj i k hi
      · rw [List.getElem?_append_right hlt] at hi
        rw [List.getElem?_append_right (by rw [c1.len]; exact hlt), c1.len]
        exact h5 _ k hi
    · simp only [opnL]
      have hlen : (opn d m y).2.length = L1.length := by rw [opn_snd d m 0 y]; exact c1.len
      obtain ⟨g1, g2⟩ := h6 own2 (m + (opn d m y).2.length) (fun i k hi => by
        have := hm (L1.length + i) k (by rw [List.getElem?_append_right (by omega)]; simpa using hi)
        rw [hlen, Nat.add_assoc]; exact this)
      refine ⟨by simp [g1], fun i x u hx hu => ?_⟩
      cases i with
      | zero =>
        simp at hx hu
        subst hx hu
        exact c1.val own2 m fun i k hi => hm i k (by rw [List.getElem?_append_left (List.getElem?_eq_some_iff.1 hi).1]; exact hi)
      | succ i => exact g2 i x u (by simpa using hx) (by simpa using hu)
theorem clsK_out {own : Nat → Own} {F : Nat → Prop} {w : World} {σ : Sto} (r : Rel own F w σ) : ∀ (d : Nat) {s : SV} {v : Value} {K : T → List Nat → Prop}, VS own F w s v → clsK d σ s K → ∃ x L, K x L ∧ Cls own w σ d x L v := by
  intro d
  induction d with
  | zero => intro s v K hv h; cases s <;> exact h.elim
  | succ d ih =>
    intro s v K hv h
    cases s with
    | agg xs =>
      cases hv with
      | agg _ vs hs hh =>
        obtain ⟨ys, L, h1, h2, h3, h4, h5⟩ := clsKs_out ih (vs := vs.toList) (by simpa using hs) (fun i x v hx hv => hh i x v hx (by simpa using hv)) h
        refine ⟨_, L, h1, h3, h4, fun own2 m hm => ?_⟩
        obtain ⟨g1, g2⟩ := h5 own2 m hm
        exact .agg _ _ (by rw [hs, g1]) fun i x v hx hv => g2 i x v hx (by simpa using hv)
    | tup xs =>
      cases hv with
      | tup _ vs hs hh =>
        obtain ⟨ys, L, h1, h2, h3, h4, h5⟩ := clsKs_out ih (vs := vs.toList) (by simpa using hs) (fun i x v hx hv => hh i x v hx (by simpa using hv)) h
        refine ⟨_, L, h1, h3, h4, fun own2 m hm => ?_⟩
        obtain ⟨g1, g2⟩ := h5 own2 m hm
        exact .tup _ _ (by rw [hs, g1]) fun i x v hx hv => g2 i x v hx (by simpa using hv)
    | t y =>
      obtain ⟨hf, h⟩ := bif_elim0 h
      cases hv with
      | t _ _ hv =>
        have hv0 : VT (fun _ => False) w y v := hv.flat_any hf
        exact ⟨y, [], h, by rw [(opn_flat (own := own) hf (d + 1) 0 hv0).1]; rfl, by simp, fun own2 m _ => (opn_flat hf (d + 1) m hv0).2⟩
    | ref k e p off len =>
      unfold clsK at h
      split at h
      · rename_i ep E sz ts hk
        obtain ⟨h1, h2, h3⟩ := h
        obtain ⟨g1, g2, g3⟩ := h1.out
        subst g1 g2
        have h2 := h2.out
        obtain ⟨hT, hB, hep, hfr⟩ := nd_obj r hk
        rw [nth_eq] at hk
        refine ⟨_, [k], h3, rfl, fun i k' hi => ?_, fun own2 m hm => ?_⟩
        · cases i with
          | zero => simp at hi; subst hi; exact ⟨ep, _, hk, rfl, h2⟩
          | succ i => simp at hi
        · have ha := hm 0 k rfl
          rw [Nat.add_zero] at ha
          show VS own2 (fun _ => False) w (.ref m 0 [] 0 ts.length) v
          rw [← g3]
          cases hv with
          | ref _ _ _ _ _ b o sz cap mm hh hl hm hn => exact .ref _ _ _ _ _ b o sz cap mm (ha.trans hh) hl hm hn
          | refE _ _ _ a hh => exact .refE _ _ _ a (ha.trans hh)
          | refZ _ _ _ _ a hh => exact absurd hh (by omega)
      · exact h.elim
    | mp k e p =>
      unfold clsK at h
      split at h
      · rename_i ep kk es hk
        obtain ⟨h1, h2, h3⟩ := h
        have g1 := h1.out
        subst g1
        have h2 := h2.out
        rw [nth_eq] at hk
        refine ⟨_, [k], h3, rfl, fun i k' hi => ?_, fun own2 m hm => ?_⟩
        · cases i with
          | zero => simp at hi; subst hi; exact ⟨ep, _, hk, rfl, h2⟩
          | succ i => simp at hi
        · have ha := hm 0 k rfl
          rw [Nat.add_zero] at ha
          show VS own2 (fun _ => False) w (.mp m 0 []) v
          cases hv with
          | mp _ _ _ b o sz cap mm hh => exact .mp _ _ _ b o sz cap mm (ha.trans hh)
      · exact h.elim
    | _ => exact h.elim
theorem start_rel {F : Nat → Prop} {w : World} (h3 : FB F w) : Rel (fun _ => Own.no) F w [] :=
  ⟨fun _ _ => rfl, fun _ _ _ h => h.elim, fun _ _ h => h.elim, h3, fun _ _ h => h.elim, fun k o h => by simp at h⟩
theorem leaves_marks {nn : Nat} {fn : Func} {tmps : Array Value} {R : Ending → World → Prop} : ∀ (Ds : List Nat) (w : World), Ds.Nodup → (∀ D ∈ Ds, w.heap[D]? = some (.deferred (some []))) →
    (∀ w' : World, w'.os = w.os → w'.tape = w.tape → w'.output = w.output → w.heap.size = w'.heap.size → (∀ b, b ∉ Ds → w'.heap[b]? = w.heap[b]?) → ∃ v, (results fn tmps).run P w' = .ok v w' ∧ R (.returned v) w') →
    LeavesInM (Fw none) nn P fn tmps R (marks Ds) .returning w
  | [], w, _, _, h => h w rfl rfl rfl rfl fun _ _ => rfl
  | D :: Ds, w, hn, hD, h => by
    have hD0 := hD D List.mem_cons_self
    have hlt := (Array.getElem?_eq_some_iff.1 hD0).1
    refine ⟨by simp, .inl ⟨D, _, rfl, run_takeDeferred hD0, ?_⟩⟩
    have hn' := List.nodup_cons.1 hn
    refine leaves_marks Ds _ hn'.2 (fun E hE => ?_) fun w' h1 h2 h3 h4 h5 => ?_
    · rw [World.putObj_heap_other fun (e : E = D) => hn'.1 (e ▸ hE)]
      exact hD E (List.mem_cons_of_mem _ hE)
    · refine h w' h1 h2 h3 (by simpa using h4) fun b hb => ?_
      rw [h5 b fun hh => hb (List.mem_cons_of_mem _ hh)]
      exact World.putObj_heap_other fun (e : b = D) => hb (e ▸ List.mem_cons_self)
theorem code_run {I : FuncId → Bool} {Y : Nat → List SV → Sto → (SV → Sto → Prop) → Prop} {Z : Keep} (hY : ∀ l vs σ K, Y l vs σ K → ∃ rec, (l, Obj.loop rec) ∈ Z.bl ∧ YCalls P l rec Z vs σ fun σ' => K (.t (.bool true)) σ')
    (ht : TabOk P tt) {nn : Nat} {f : FuncId} {fn : Func} (hf : P.funcs[f]? = some fn) {c : Code} (hc : fn.body = some c) (hm : ∀ d ∈ mods c, d < fn.ntmps) {own : Nat → Own} {F : Nat → Prop} {w : World} {σ : Sto} {env : Env} {args : Array Value} {Rt : Env → Sto → Prop} {R : Ending → World → Prop}
    (hb : cwp (ctrY P I Y) tt fn.ntmps c (fun x env σ => match x with | .normal => Rt env σ | .ret => Rt env σ | _ => False) env σ) (r : Rel own F w σ) (kz : Kept Z σ own F w)
    (he : ER fn.ntmps own F w env { tmps := args ++ Array.replicate (fn.ntmps - args.size) undef, defers := [] })
    (fin : ∀ (env' : Env) (σ' : Sto) (own' : Nat → Own) (F' : Nat → Prop) (w' : World) (tmps : Array Value), Rt env' σ' → Ext σ.length own F w own' F' w' → Rel own' F' w' σ' → σ.length ≤ σ'.length → (∀ j, VS own' F' w' (env' j) (tmps.getD j undef)) →
      ∃ v, (results fn tmps).run P w' = .ok v w' ∧ R (.returned v) w') : CallsIn (Fw none) nn P f args w R := by
  refine callsIn_of_wp_marks hf hc trivial ?_ rfl
  refine cwp_sound hY ht c hm hb r kz (fun _ h => nomatch h) he ?_
  intro ax env' σ' own' F' w' a' hka e r' l he' hd hs
  obtain ⟨Ds, hd1, hd2, hd3⟩ := hd
  rw [List.append_nil] at hd1
  have done : Rt env' σ' → LeavesInM (Fw none) nn P fn a'.tmps R a'.defers .returning w' := by
    intro hk
    rw [hd1]
    refine leaves_marks Ds w' hd2.nd (fun D hD => (hd2.at' D hD).1) ?_
    intro w2 h1 h2 h3 h4 h5
    have hfo : ∀ b, F' b ∨ Lv own' b → w2.heap[b]? = w'.heap[b]? := fun b hb => h5 b fun hD => by
      rcases hb with h | h
      · exact (hd2.at' b hD).2.1 h
      · exact (hd2.at' b hD).2.2 h
    exact fin env' σ' own' F' w2 a'.tmps hk (e.other h1 h2 h3 h4 fun b hb _ => h5 b fun hD => by have := hd3 b hD; omega) (r'.other h4 hfo) l (he'.other fun b hb => hfo b (.inl hb)).2
  cases ax with
  | normal => exact done hka
  | ret => exact done hka
  | exit id => exact hka.elim
  | goto l => exact hka.elim
theorem of_body_core (I : FuncId → Bool) (ht : TabOk P tt) {f : FuncId} {fn : Func} {ts : List T} {post : T → Prop} (hf : P.funcs[f]? = some fn) (hn : (fn.name == "runtime.NumGoroutine") = false) {c : Code} (hc : fn.body = some c)
    (hck : ((mods c).all (fun d => Nat.blt d fn.ntmps) && Nat.ble ts.length fn.ntmps) = true) {R : Env → Sto → Prop} (hb : cwp (ctr P I) tt fn.ntmps c (fun x env σ => match x with | .normal => R env σ | .ret => R env σ | _ => False) (argEnv ts) [])
    (hfin : ∀ (F : Nat → Prop) (w w' : World) (own' : Nat → Own) (F' : Nat → Prop) (env' : Env) (σ' : Sto) (tmps : Array Value), (∀ b, F' b → F b ∨ w.heap.size ≤ b) → (∀ b, F b → F' b) → (∀ k b, (own' k).bl b → w.heap.size ≤ b) → Rel own' F' w' σ' → (∀ j, VS own' F' w' (env' j) (tmps.getD j undef)) → R env' σ' →
      ∃ v, (results fn tmps).run P w' = .ok v w' ∧ ∃ (r : T) (F2 : Nat → Prop), post r ∧ RT F2 w.heap.size w' r v ∧ (∀ b, F2 b → F b ∨ w.heap.size ≤ b) ∧ (∀ b, F2 b → b < w'.heap.size) ∧ (∀ b, F b → F2 b)) : PCalls P f ts post := by
  simp only [Bool.and_eq_true] at hck
  obtain ⟨k1, k3⟩ := hck
  have k3 := Nat.le_of_ble_eq_true k3
  have hm : ∀ d ∈ mods c, d < fn.ntmps := fun d hd => by
    have := (List.all_eq_true.1 k1) d hd
    simpa [Nat.blt_eq] using this
  unfold PCalls
  refine ⟨⟨fn, hf, hn, by rw [hc]; rfl⟩, ?_⟩
  intro F w vs h1 h2 h3
  have noLv : ∀ b, ¬ Lv (fun _ => Own.no) b := by rintro b ⟨k, h⟩; exact h.elim
  have r := start_rel h3
  have he : ER fn.ntmps (fun _ => Own.no) F w (argEnv ts) { tmps := vs.toArray ++ Array.replicate (fn.ntmps - vs.toArray.size) undef, defers := [] } := by
    refine ⟨by simp; omega, fun j => ?_⟩
    unfold argEnv
    split
    · rename_i x hx
      rw [nth_eq] at hx
      have hlt : j < vs.length := by have := (List.getElem?_eq_some_iff.1 hx).1; omega
      have hget : (vs.toArray ++ Array.replicate (fn.ntmps - vs.toArray.size) undef).getD j undef = vs[j] := by
        simp [Array.getD_eq_getD_getElem?, Array.getElem?_append, hlt]
      rw [hget]
      exact .t _ _ (h2 j x _ hx (List.getElem?_eq_getElem hlt))
    · exact .t _ _ (.any _)
  refine callsIn_wide.1 (code_run (nn := 0) (Z := ⟨0, fun _ => Own.no, F, w, []⟩) (fun _ _ _ _ h => h.elim) ht hf hc hm hb r ⟨Nat.zero_le _, Ext.refl _ _ _ _, fun p hp => by cases hp⟩ he ?_)
  intro env' σ' own' F' w' tmps hk e r' l he'
  obtain ⟨v, g1, rr, F2, g2, g3, g4, g5, g6⟩ := hfin F w w' own' F' env' σ' tmps (fun b hb => by
    rcases e.Fn b hb with h | h | h
    · exact .inl h
    · exact .inr h
    · exact absurd h (noLv b)) e.Fm (fun k b hb => (e.on b ⟨k, hb⟩).resolve_left (noLv b)) r' he' hk
  exact ⟨v, g1, rr, v, F2, rfl, g2, g3, g4, g5, g6, ⟨e.os, e.tape, e.output, e.sz, fun k hk => e.fr k hk (noLv k)⟩⟩
theorem PCalls.of_bodyI (I : FuncId → Bool) (ht : TabOk P tt) {f : FuncId} {fn : Func} {ts : List T} {post : T → Prop} (hf : P.funcs[f]? = some fn) (hn : (fn.name == "runtime.NumGoroutine") = false) (hb : body (ctr P I) tt fn ts post) : PCalls P f ts post := by
  unfold body at hb
  split at hb
  · exact hb.elim
  · rename_i c hc
    obtain ⟨hck, hb⟩ := bif_elim hb
    refine of_body_core I ht hf hn hc hck hb ?_
    intro F w w' own' F' env' σ' tmps hF hFm hL r' he' hk
    unfold Am.fin at hk
    obtain ⟨vs, mv, hk, hv, hrun⟩ := run_results ht r' he' hk
    obtain ⟨t, hk, hvt⟩ := frzK_VT r' 20 hv hk
    refine ⟨mv, hrun, t, _, hk.out, .of_VT hvt, ?_, ?_, fun b hb => .inl (hFm b hb)⟩
    · rintro b (h | ⟨k, _, h4⟩)
      · exact hF b h
      · exact .inr (hL k b h4)
    · rintro b (h | ⟨k, _, h4⟩)
      · exact r'.Fb b h
      · exact r'.lb k b h4
theorem PCalls.of_bodyOI (I : FuncId → Bool) (ht : TabOk P tt) {f : FuncId} {fn : Func} {ts : List T} {post : T → Prop} (hf : P.funcs[f]? = some fn) (hn : (fn.name == "runtime.NumGoroutine") = false) (hb : bodyO (ctr P I) tt fn ts post) : PCalls P f ts post := by
  unfold bodyO at hb
  split at hb
  · exact hb.elim
  · rename_i c hc
    obtain ⟨hck, hb⟩ := bif_elim hb
    refine of_body_core I ht hf hn hc hck hb ?_
    intro F w w' own0 F' env' σ0 tmps hF hFm hL r0 he' hk
    unfold Am.finO at hk
    obtain ⟨vs, mv, hk, hv, hrun⟩ := run_results ht r0 he' hk
    obtain ⟨s', σ', own', hk, r', e', l', hv'⟩ := takD_sound 4 r0 hv hk
    obtain ⟨x, L, hk, c⟩ := clsK_out r' 4 hv' hk
    obtain ⟨hun, hk⟩ := bif_elim0 hk
    have hnd := unlikeIds_nodup hun
    have hL' : ∀ k b, (own' k).bl b → w.heap.size ≤ b := by
      intro k b hb
      rcases e'.on b ⟨k, hb⟩ with ⟨j, hj⟩ | h
      · exact hL j b hj
      · have := r'.lb k b hb; omega
    refine ⟨mv, hrun, .own x, F', hk.out, ?_, hF, r'.Fb, hFm⟩
    let ownx : Nat → Own := fun i => match L[i]? with
      | some k => match σ'[k]? with
        | some (.nd ep _) => ⟨fun e p => if e = 0 then (own' k).cur ep p else none, (own' k).bl⟩
        | _ => .no
      | none => .no
    have hat : ∀ i k ep nd, L[i]? = some k → σ'[k]? = some (.nd ep nd) → ownx i = ⟨fun e p => if e = 0 then (own' k).cur ep p else none, (own' k).bl⟩ := by
      intro i k ep nd h1 h2
      show (match L[i]? with
        | some k => match σ'[k]? with
          | some (.nd ep _) => (⟨fun e p => if e = 0 then (own' k).cur ep p else none, (own' k).bl⟩ : Own)
          | _ => .no
        | none => .no) = _
      rw [h1]
      simp only [h2]
    have hbl : ∀ i b, (ownx i).bl b → ∃ k, L[i]? = some k ∧ (own' k).bl b := by
      intro i b hb
      cases hi : L[i]? with
      | none =>
        have : ownx i = .no := by
          show (match L[i]? with
            | some k => match σ'[k]? with
              | some (.nd ep _) => (⟨fun e p => if e = 0 then (own' k).cur ep p else none, (own' k).bl⟩ : Own)
              | _ => .no
            | none => .no) = _
          rw [hi]
        rw [this] at hb
        exact hb.elim
      | some k =>
        obtain ⟨ep, nd, h1, _, _⟩ := c.obj i k hi
        rw [hat i k ep nd hi h1] at hb
        exact ⟨k, rfl, hb⟩
    refine ⟨ownx, ⟨fun i hi => ?_, fun i j b h1 h2 => ?_, fun i b h1 h => ?_, r'.fb.own, fun i b h1 => ?_, fun i o ho => ?_⟩, (c.val ownx 0 fun i k hi => ?_).map' (fun x v h => h.sub fun _ h => h.elim) (fun _ _ _ _ h => h), fun i b h1 => ?_⟩
    · rw [c.len] at hi
      show (match L[i]? with
        | some k => match σ'[k]? with
          | some (.nd ep _) => (⟨fun e p => if e = 0 then (own' k).cur ep p else none, (own' k).bl⟩ : Own)
          | _ => .no
        | none => .no) = _
      rw [List.getElem?_eq_none hi]
    · obtain ⟨k, g1, g2⟩ := hbl i b h1
      obtain ⟨k', g3, g4⟩ := hbl j b h2
      have := r'.inj k k' b g2 g4
      subst this
      have q1 := (List.getElem?_eq_some_iff.1 g1).1
      exact (List.getElem?_inj q1 hnd).1 (g1.trans g3.symm)
    · obtain ⟨k, _, g2⟩ := hbl i b h1
      exact r'.sep k b g2 (r'.fb.tf b h)
    · obtain ⟨k, _, g2⟩ := hbl i b h1
      exact r'.lb k b g2
    · have hi : i < L.length := by rw [← c.len]; exact (List.getElem?_eq_some_iff.1 ho).1
      obtain ⟨ep, nd, h1, h2, h3⟩ := c.obj i _ (List.getElem?_eq_getElem hi)
      rw [ho] at h2
      injection h2 with h2
      subst h2
      rw [hat i _ ep nd (List.getElem?_eq_getElem hi) h1]
      obtain ⟨hT, hB, hep, hfr⟩ := r'.obj _ _ h1
      have hcur : (⟨fun e p => if e = 0 then (own' L[i]).cur ep p else none, (own' L[i]).bl⟩ : Own).cur e0 = (own' L[i]).cur ep := by
        funext p
        show (if e0 p.length = 0 then (own' L[i]).cur ep p else none) = _
        rw [if_pos (show e0 p.length = 0 from rfl)]
      refine ⟨by rw [hcur]; exact (hT.clean h3).move (fun _ => rfl) (fun _ _ => rfl) fun x v hv => hv.sub fun _ h => h.elim, by rw [hcur]; exact hB, rfl, fun e p he => ?_⟩
      show (if e = 0 then _ else none) = none
      rw [if_neg (by simp [e0] at he; omega)]
    · obtain ⟨ep, nd, h1, h2, h3⟩ := c.obj i k hi
      rw [Nat.zero_add, hat i k ep nd hi h1]
      obtain ⟨hT, hB, hep, hfr⟩ := r'.obj _ _ h1
      show (if (0 : Nat) = 0 then (own' k).am (ep 0) [] else none) = _
      rw [if_pos rfl, hep]
    · obtain ⟨k, _, g2⟩ := hbl i b h1
      exact ⟨hL' k b g2, r'.sep k b g2⟩
theorem PCalls.of_body (ht : TabOk P tt) {f : FuncId} {fn : Func} {ts : List T} {post : T → Prop} (hf : P.funcs[f]? = some fn) (hn : (fn.name == "runtime.NumGoroutine") = false) (hb : body (ctr P fun _ => false) tt fn ts post) : PCalls P f ts post := PCalls.of_bodyI _ ht hf hn hb
theorem PCalls.of_bodyO (ht : TabOk P tt) {f : FuncId} {fn : Func} {ts : List T} {post : T → Prop} (hf : P.funcs[f]? = some fn) (hn : (fn.name == "runtime.NumGoroutine") = false) (hb : bodyO (ctr P fun _ => false) tt fn ts post) : PCalls P f ts post := PCalls.of_bodyOI _ ht hf hn hb
theorem argEnvS_ER {own : Nat → Own} {F : Nat → Prop} {w : World} {vs : List SV} {mvs : List Value} {nt : Nat} (k3 : vs.length ≤ nt) (h1 : mvs.length = vs.length) (h2 : ∀ (i : Nat) (x : SV) (v : Value), vs[i]? = some x → mvs[i]? = some v → VS own F w x v) :
    ER nt own F w (argEnvS vs) { tmps := mvs.toArray ++ Array.replicate (nt - mvs.toArray.size) undef, defers := [] } := by
  refine ⟨by simp; omega, fun j => ?_⟩
  unfold argEnvS
  split
  · rename_i x hx
    rw [nth_eq] at hx
    have hlt : j < mvs.length := by have := (List.getElem?_eq_some_iff.1 hx).1; omega
    have hget : (mvs.toArray ++ Array.replicate (nt - mvs.toArray.size) undef).getD j undef = mvs[j] := by
      simp [Array.getD_eq_getD_getElem?, Array.getElem?_append, hlt]
    rw [hget]
    exact h2 j x _ hx (List.getElem?_eq_getElem hlt)
  · exact .t _ _ (.any _)
theorem ICalls.inline (ht : TabOk P tt) {f : FuncId} {fn : Func} {vs : List SV} {σ : Sto} {K : SV → Sto → Prop} (hf : P.funcs[f]? = some fn) (hn : (fn.name == "runtime.NumGoroutine") = false) (hb : bodyI (ctr P I) tt fn vs σ K) : ICalls P f vs σ K := by
  unfold bodyI at hb
  split at hb
  · exact hb.elim
  · rename_i c hc
    obtain ⟨hck, hb⟩ := bif_elim hb
    simp only [Bool.and_eq_true] at hck
    obtain ⟨k1, k3⟩ := hck
    have hm : ∀ d ∈ mods c, d < fn.ntmps := fun d hd => by
      have := (List.all_eq_true.1 k1) d hd
      simpa [Nat.blt_eq] using this
    unfold ICalls
    refine ⟨⟨fn, hf, hn, by rw [hc]; rfl⟩, ?_⟩
    intro own F w mvs h1 h2 r
    refine callsIn_wide.1 (code_run (nn := 0) (Z := ⟨0, own, F, w, []⟩) (fun _ _ _ _ h => h.elim) ht hf hc hm hb r ⟨Nat.zero_le _, Ext.refl _ _ _ _, fun p hp => by cases hp⟩ (argEnvS_ER (Nat.le_of_ble_eq_true k3) h1 h2) ?_)
    intro env' σ' own' F' w' tmps hk e r' l he'
    obtain ⟨vs, mv, hk, hv, hrun⟩ := run_results ht r' he' hk
    exact ⟨mv, hrun, _, σ', own', F', mv, rfl, hk, e, r', l, hv⟩
theorem RCalls.inline (I : FuncId → Bool) (ht : TabOk P tt) {f : FuncId} {fn : Func} {vs : List SV} {Y : List SV → Sto → (Sto → Prop) → Prop} {σ : Sto} {K : Sto → Prop} (hf : P.funcs[f]? = some fn) (hn : (fn.name == "runtime.NumGoroutine") = false)
    (hb : ∀ l, bodyI (ctrY P I fun l' args σ K => Nat.beq l' l = true ∧ Y args σ (K (.t (.bool true)))) tt fn (.t (.yl l) :: vs) σ fun _ σ' => K σ') : RCalls P f vs Y σ K := by
  have hb0 := hb 0
  unfold bodyI at hb hb0
  split at hb0
  · exact hb0.elim
  · rename_i c hc
    obtain ⟨hck, _⟩ := bif_elim hb0
    simp only [Bool.and_eq_true] at hck
    obtain ⟨k1, k3⟩ := hck
    have hm : ∀ d ∈ mods c, d < fn.ntmps := fun d hd => by
      have := (List.all_eq_true.1 k1) d hd
      simpa [Nat.blt_eq] using this
    unfold RCalls
    refine ⟨⟨fn, hf, hn, by rw [hc]; rfl⟩, ?_⟩
    intro nn l rec own F w mvs h1 h2 r hl hlo hY
    have hb := hb l
    rw [hc] at hb
    obtain ⟨_, hb⟩ := bif_elim hb
    refine code_run (Z := ⟨σ.length, own, F, w, [(l, .loop rec)]⟩) ?_ ht hf hc hm hb r ⟨Nat.le_refl _, Ext.refl _ _ _ _, fun p hp => by simp at hp; subst hp; exact ⟨hl, hlo⟩⟩
      (argEnvS_ER (mvs := .func (.yield l) #[] #[] :: mvs) (Nat.le_of_ble_eq_true k3) (by simp [h1]) ?_) ?_
    · rintro l' vs' σ' K' ⟨h3, h4⟩
      rw [Nat.eq_of_beq_eq_true h3]
      refine ⟨rec, List.mem_cons_self, ?_⟩
      have h5 := hY _ _ _ h4
      unfold YCalls at h5 ⊢
      intro nn own F w mvs g1 g2 g3 g4
      exact h5 nn own F w mvs g1 g2 g3 ⟨g4.len, g4.ext, fun p hp => by cases hp⟩
    · intro i x v hx hv
      cases i with
      | zero => simp at hx hv; subst hx hv; exact .t _ _ (.yl l)
      | succ i => exact h2 i x v (by simpa using hx) (by simpa using hv)
    · intro env' σ' own' F' w' tmps hk e r' l he'
      obtain ⟨vs, mv, hk, hv, hrun⟩ := run_results ht r' he' hk
      exact ⟨mv, hrun, mv, σ', own', F', rfl, hk, e, r', l⟩
end
end Go.Proofs.Ytgladinljapmkaa.Am

/- Trees that say less of the same value: 'nil' is an empty slice. -/
namespace Go.Proofs.Ytgladinljapmkaa.Am
set_option linter.unusedVariables false
set_option linter.unusedSimpArgs false
inductive Le : T → T → Prop where
  | refl (x : T) : Le x x
  | nsl (sz : Nat) : Le .nsl (.sl sz [])
  | esl (sz : Nat) : Le .esl (.sl sz [])
  | any (x : T) : Le x .any
  | nst (E : TypeId) (sz : Nat) (xs ys : List T) (h : Le (.sl sz xs) (.sl sz ys)) : Le (.nst E sz xs) (.sl sz ys)
  | agg (xs ys : List T) (hl : xs.length = ys.length) (h : ∀ (i : Nat) (x y : T), xs[i]? = some x → ys[i]? = some y → Le x y) : Le (.agg xs) (.agg ys)
  | tup (xs ys : List T) (hl : xs.length = ys.length) (h : ∀ (i : Nat) (x y : T), xs[i]? = some x → ys[i]? = some y → Le x y) : Le (.tup xs) (.tup ys)
  | sl (sz : Nat) (xs ys : List T) (hl : xs.length = ys.length) (hz : ∀ y ∈ ys, y.cells.length = sz) (h : ∀ (i : Nat) (x y : T) (j : Nat) (c d : T), xs[i]? = some x → ys[i]? = some y → x.cells[j]? = some c → y.cells[j]? = some d → Le c d) : Le (.sl sz xs) (.sl sz ys)
inductive LeL : List T → List T → Prop where
  | nil : LeL [] []
  | cons {x y : T} {xs ys : List T} (h : Le x y) (hs : LeL xs ys) : LeL (x :: xs) (y :: ys)
theorem LeL.refl : ∀ xs, LeL xs xs
  | [] => .nil
  | x :: xs => .cons (.refl x) (LeL.refl xs)
theorem LeL.out {xs ys : List T} (h : LeL xs ys) : xs.length = ys.length ∧ ∀ (i : Nat) (x y : T), xs[i]? = some x → ys[i]? = some y → Le x y := by
  induction h with
  | nil => exact ⟨rfl, by simp⟩
  | cons h hs ih =>
    refine ⟨by simp [ih.1], fun i x y hx hy => ?_⟩
    cases i with
    | zero => simp at hx hy; subst hx hy; exact h
    | succ i => exact ih.2 i x y (by simpa using hx) (by simpa using hy)
theorem Le.aggL {xs ys : List T} (h : LeL xs ys) : Le (.agg xs) (.agg ys) := .agg _ _ h.out.1 h.out.2
theorem VT.le {F : Nat → Prop} {w : World} {x y : T} (h : Le x y) : ∀ {v : Value}, VT F w x v → VT F w y v := by
  induction h with
  | refl x => exact id
  | nsl sz => intro v h; cases h; exact .sl0 sz _ _
  | esl sz => intro v h; cases h; exact .sl0 sz _ _
  | any x => intro v _; exact .any v
  | nst E sz xs ys _ ih => intro v h; cases h with | nst _ _ _ _ h => exact ih h
  | agg xs ys hl _ ih =>
    intro v h
    cases h with
    | agg _ vs hs h =>
      refine .agg _ _ (by omega) fun i y v hy hv => ?_
      have hi := (List.getElem?_eq_some_iff.1 hy).1
      exact ih i _ y (List.getElem?_eq_getElem (by omega)) hy (h i _ v (List.getElem?_eq_getElem (by omega)) hv)
  | tup xs ys hl _ ih =>
    intro v h
    cases h with
    | tup _ vs hs h =>
      refine .tup _ _ (by omega) fun i y v hy hv => ?_
      have hi := (List.getElem?_eq_some_iff.1 hy).1
      exact ih i _ y (List.getElem?_eq_getElem (by omega)) hy (h i _ v (List.getElem?_eq_getElem (by omega)) hv)
  | sl sz xs ys hl hz _ ih =>
    intro v h
    cases h with
    | sl0 _ a c =>
      have : ys = [] := by cases ys with | nil => rfl | cons => simp at hl
      subst this
      exact .sl0 _ _ _
    | sl _ _ b off c vals hp hc hn hF hz' hcell h1 h =>
      rw [hl]
      refine .sl sz ys b off c vals (fun e => hp (by subst e; cases xs with | nil => rfl | cons => simp at hl)) (by omega) (by omega) hF hz (by rw [← hl]; exact hcell) (by rw [← hl]; exact h1) ?_
      intro i y j d hy hd
      have hi := (List.getElem?_eq_some_iff.1 hy).1
      have hj := (List.getElem?_eq_some_iff.1 hd).1
      have hx : xs[i]? = some (xs[i]'(by omega)) := List.getElem?_eq_getElem (by omega)
      have hxl := hz' _ (List.getElem_mem (show i < xs.length by omega))
      have hyl := hz y (List.mem_of_getElem? hy)
      exact ih i _ y j _ d hx hy (List.getElem?_eq_getElem (by omega)) hd (h i _ j _ hx (List.getElem?_eq_getElem (by omega)))
theorem Le.slmap {α : Type} {f g : α → T} {sz : Nat} {l : List α} (h : ∀ a, LeL (f a).cells (g a).cells) (hz : ∀ a, (g a).cells.length = sz) : Le (.sl sz (l.map f)) (.sl sz (l.map g)) := by
  refine .sl _ _ _ (by simp) (fun y hy => ?_) fun i x y j c d hx hy hc hd => ?_
  · obtain ⟨a, _, rfl⟩ := List.mem_map.1 hy
    exact hz a
  · rw [List.getElem?_map, Option.map_eq_some_iff] at hx hy
    obtain ⟨a, h1, rfl⟩ := hx
    obtain ⟨b, h2, rfl⟩ := hy
    rw [h1] at h2
    injection h2 with h2
    subst h2
    exact (h a).out.2 j c d hc hd
section
variable {P : Program}
theorem RT.le {F : Nat → Prop} {n : Nat} {w : World} {x y : T} {v : Value} (h : RT F n w x v) (hl : Le x y) : RT F n w y v := by
  cases x with
  | own z =>
    cases hl with
    | refl => exact h
    | any => exact .any v
  | _ => exact .of_VT (VT.le hl h)
theorem PCalls.le {f : FuncId} {ts : List T} {p q : T → Prop} (h : PCalls P f ts p) (k : ∀ r, p r → ∃ r', Le r r' ∧ q r') : PCalls P f ts q := by
  unfold PCalls at *
  refine ⟨h.1, ?_⟩
  intro F w vs h1 h2 h3
  refine (h.2 F w vs h1 h2 h3).mono ?_
  rintro e w' ⟨r, mv, F', h4, h5, h6, h7⟩
  obtain ⟨r', k1, k2⟩ := k r h5
  exact ⟨r', mv, F', h4, k2, h6.le k1, h7⟩
theorem PCalls.coarse {f : FuncId} {ts : List T} {x : T} (h : PCalls P f ts fun r => Le r x) : PCalls P f ts fun r => r = x := h.le fun r hr => ⟨x, hr, rfl⟩
theorem PCalls.args {f : FuncId} {ts ts' : List T} {p : T → Prop} (hl : ts.length = ts'.length) (hle : ∀ (i : Nat) (x y : T), ts[i]? = some x → ts'[i]? = some y → Le x y) (h : PCalls P f ts' p) : PCalls P f ts p := by
  unfold PCalls at *
  refine ⟨h.1, ?_⟩
  intro F w vs h1 h2 h3
  refine h.2 F w vs (by omega) ?_ h3
  intro i y v hy hv
  have hi := (List.getElem?_eq_some_iff.1 hy).1
  exact (h2 i _ v (List.getElem?_eq_getElem (by omega)) hv).le (hle i _ y (List.getElem?_eq_getElem (by omega)) hy)
theorem PCalls.argsL {f : FuncId} {ts ts' : List T} {p : T → Prop} (hl : LeL ts ts') (h : PCalls P f ts' p) : PCalls P f ts p := h.args hl.out.1 hl.out.2
end
end Go.Proofs.Ytgladinljapmkaa.Am

/- The data of the program's graphs as plain Lean, and how they lie in memory. -/
namespace Go.Proofs.Ytgladinljapmkaa.Am
set_option linter.unusedVariables false
set_option linter.unusedSimpArgs false
structure Ins where
  (op d a b f n : Int)
  (args arrs : List Int)
  deriving Inhabited, DecidableEq
structure Case where
  (n to : Int)
  deriving Inhabited, DecidableEq
structure End where
  (kind op a b n to els : Int)
  (cases : List Case)
  (targets : List Int)
  deriving Inhabited, DecidableEq
structure Arr where
  (kind n : Int)
  deriving Inhabited, DecidableEq
structure Block where
  (code : List Ins)
  (fin : End)
  deriving Inhabited, DecidableEq
structure Graph where
  (params : List Int)
  (temps : Int)
  (arrays : List Arr)
  (blocks : List Block)
  deriving Inhabited, DecidableEq
structure Module where
  (globals arrays : List Int)
  (funcs : List Graph)
  (main : Int)
  deriving Inhabited, DecidableEq
abbrev ti (n : Int) : T := .int .i64 n
abbrev ilist (l : List Int) : T := .sl 1 (l.map fun n => .int .i64 n)
abbrev ulist (l : List Int) : T := .sl 1 (l.map fun n => .int .u32 n)
def Ins.t (x : Ins) : T := .agg [.int .i64 x.op, .int .i64 x.d, .int .i64 x.a, .int .i64 x.b, .int .i64 x.f, .int .u32 x.n, .sl 1 (x.args.map fun n => .int .i64 n), .sl 1 (x.arrs.map fun n => .int .i64 n)]
def Case.t (x : Case) : T := .agg [.int .u32 x.n, .int .i64 x.to]
def End.t (x : End) : T := .agg [.int .i64 x.kind, .int .i64 x.op, .int .i64 x.a, .int .i64 x.b, .int .u32 x.n, .int .i64 x.to, .int .i64 x.els, .sl 2 (x.cases.map Case.t), .sl 1 (x.targets.map fun n => .int .i64 n)]
def Arr.t (x : Arr) : T := .agg [.int .i64 x.kind, .int .i64 x.n]
def Block.t (x : Block) : T := .agg [.sl 8 (x.code.map Ins.t), .int .i64 x.fin.kind, .int .i64 x.fin.op, .int .i64 x.fin.a, .int .i64 x.fin.b, .int .u32 x.fin.n, .int .i64 x.fin.to, .int .i64 x.fin.els, .sl 2 (x.fin.cases.map Case.t), .sl 1 (x.fin.targets.map fun n => .int .i64 n)]
def Graph.t (x : Graph) : T := .agg [.sl 1 (x.params.map fun n => .int .i64 n), .int .i64 x.temps, .sl 2 (x.arrays.map Arr.t), .sl 10 (x.blocks.map Block.t)]
def Module.t (x : Module) : T := .agg [.sl 1 (x.globals.map fun n => .int .u32 n), .sl 1 (x.arrays.map fun n => .int .i64 n), .sl 4 (x.funcs.map Graph.t), .int .i64 x.main]
/-! Loops that count one variable up, where the memory of the call's own is told for each count. -/
def StR (st : Nat → Sto) (n : Nat) (R : Nat → Prop) (m : Nat) (vals : List SV) (σ2 : Sto) : Prop := ∃ i : Nat, σ2 = st i ∧ vals = [.t (.int .i64 i)] ∧ i ≤ n ∧ m = n - i ∧ R i
@[irreducible] def UpS (st : Nat → Sto) (n : Nat) (R : Nat → Prop) (lim : Nat) (vals : List SV) (σ2 : Sto) : Prop := ∃ m', m' < lim ∧ StR st n R m' vals σ2
@[irreducible] def UpSi (st : Nat → Sto) (n : Nat) (R : Nat → Prop) (vals : List SV) (σ2 : Sto) : Prop := ∃ m : Nat, StR st n R m vals σ2
theorem UpS.mk {st : Nat → Sto} {σ2 : Sto} {n : Nat} {R : Nat → Prop} {i : Nat} {x : Int} (h : Ob (i < n ∧ x = i + 1 ∧ σ2 = st (i + 1) ∧ R (i + 1))) : UpS st n R (n - i) [.t (.int .i64 x)] σ2 := by
  obtain ⟨h1, h2, h3, h4⟩ := h.out
  unfold UpS
  exact ⟨n - (i + 1), by omega, i + 1, h3, by rw [h2]; rfl, h1, rfl, h4⟩
theorem UpSi.mk {st : Nat → Sto} {σ2 : Sto} {n : Nat} {R : Nat → Prop} (h : Ob (σ2 = st 0 ∧ R 0)) : UpSi st n R [.t (.int .i64 0)] σ2 := by
  obtain ⟨h1, h2⟩ := h.out
  unfold UpSi
  exact ⟨n, 0, h1, rfl, Nat.zero_le _, rfl, h2⟩
theorem LoopVC.upS {env2 : Env} {body : (AX → Env → Sto → Prop) → Env → Sto → Prop} {Q : AX → Env → Sto → Prop} {env : Env} {σ : Sto} (s : Nat) (V : List (Nat × Nat × TypeId × Nat)) (n : Nat) (st : Nat → Sto) (R : Nat → Prop)
    (h0 : thawV V σ fun σ00 => adoptL [] σ00 fun σ0 => thaw [] [s] ([s].map env) σ0 fun vals σ1 => headSt σ.length vals σ1 fun vals σ2 => UpSi st n R vals σ2)
    (h1 : ∀ i : Nat, i ≤ n → R i → body (AX.seq (fun env1 σ1 => headSt σ.length ([s].map env1) σ1 fun vals σ2 => UpS st n R (n - i) vals σ2) Q) (setL [s] [.t (.int .i64 i)] (env2)) (st i)) : LoopVC env2 body Q env σ := by
  unfold UpSi at h0
  unfold UpS at h1
  refine LoopVC.mkA [s] [] V [] (StR st n R) h0 ?_
  rintro m vals σ' ⟨i, rfl, rfl, hi, rfl, hr⟩
  exact h1 i hi hr
/-! The same, where the memory of each count is told by a predicate. -/
def StP (n : Nat) (st : Nat → Sto → Prop) (m : Nat) (vals : List SV) (σ2 : Sto) : Prop := ∃ i : Nat, st i σ2 ∧ vals = [.t (.int .i64 i)] ∧ i ≤ n ∧ m = n - i
@[irreducible] def UpP (n : Nat) (st : Nat → Sto → Prop) (lim : Nat) (vals : List SV) (σ2 : Sto) : Prop := ∃ m', m' < lim ∧ StP n st m' vals σ2
@[irreducible] def UpPi (n : Nat) (st : Nat → Sto → Prop) (vals : List SV) (σ2 : Sto) : Prop := ∃ m : Nat, StP n st m vals σ2
theorem UpP.mk {st : Nat → Sto → Prop} {σ2 : Sto} {n : Nat} {i : Nat} {x : Int} (h : Ob (i < n ∧ x = i + 1 ∧ st (i + 1) σ2)) : UpP n st (n - i) [.t (.int .i64 x)] σ2 := by
  obtain ⟨h1, h2, h3⟩ := h.out
  unfold UpP
  exact ⟨n - (i + 1), by omega, i + 1, h3, by rw [h2]; rfl, h1, rfl⟩
theorem UpPi.mk {st : Nat → Sto → Prop} {σ2 : Sto} {n : Nat} (h : Ob (st 0 σ2)) : UpPi n st [.t (.int .i64 0)] σ2 := by
  unfold UpPi
  exact ⟨n, 0, h.out, rfl, Nat.zero_le _, rfl⟩
theorem Flat.map {α : Type} {f : α → T} {l : List α} (h : ∀ a, (f a).cells.all noNst = true) : Flat (l.map f) := by
  intro y hy c hc
  obtain ⟨a, _, rfl⟩ := List.mem_map.1 hy
  exact List.all_eq_true.1 (h a) c hc
theorem flat_of {l : List T} (h : (l.all fun y => y.cells.all noNst) = true) : Flat l := fun y hy c hc => List.all_eq_true.1 (List.all_eq_true.1 h y hy) c hc
attribute [simp] els_len
theorem exE.setSame {xs : List T} {i : Nat} {y : T} {K : T → Prop} (hi : i < xs.length) (h : K y) : exE (xs.set i y) i K := exE.at (x := y) (by rw [nth_eq, List.getElem?_set_self hi]) h
def mixL {α : Type} (f g : α → T) (l : List α) (j : Nat) : List T := (l.take j).map f ++ (l.drop j).map g
theorem mixL_len {α : Type} {f g : α → T} {l : List α} {j : Nat} : (mixL f g l j).length = l.length := by unfold mixL; simp; omega
theorem Flat.nil : Flat [] := fun _ h => nomatch h
theorem bytes_le {l b n : Nat} (h : l ≤ n) (hb : Nat.ble (n * b) (2 ^ 47) = true) : l * b ≤ 2 ^ 47 := Nat.le_trans (Nat.mul_le_mul_right _ h) (Nat.le_of_ble_eq_true hb)
theorem bif_and (c x : Bool) : (bif c then x else false) = (c && x) := by cases c <;> rfl
theorem bif_or (c x : Bool) : (bif c then true else x) = (c || x) := by cases c <;> rfl
theorem take_succ_nthD {α : Type} [Inhabited α] {l : List α} {i : Nat} (h : i < l.length) : l.take (i + 1) = l.take i ++ [nthD l i] := by
  rw [nthD_get h, List.take_succ_eq_append_getElem h]
def bel (n m : Int) : Bool := decide (0 ≤ n ∧ n < m)
def wthn (n l h : Int) : Bool := decide (l ≤ n ∧ n ≤ h)
theorem bel_iff {n m : Int} : bel n m = true ↔ 0 ≤ n ∧ n < m := by unfold bel; simp
theorem bel_not {n m : Int} : bel n m = false ↔ ¬ (0 ≤ n ∧ n < m) := by unfold bel; simp
theorem wthn_iff {n l h : Int} : wthn n l h = true ↔ l ≤ n ∧ n ≤ h := by unfold wthn; simp
theorem wthn_not {n l h : Int} : wthn n l h = false ↔ ¬ (l ≤ n ∧ n ≤ h) := by unfold wthn; simp
theorem bel_eq (n m : Int) : (bif leI 0 n then ltI n m else false) = bel n m := by
  unfold leI ltI bel
  by_cases h1 : 0 ≤ n <;> by_cases h2 : n < m <;> simp [h1, h2]
end Go.Proofs.Ytgladinljapmkaa.Am
