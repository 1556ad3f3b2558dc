/- A function's body and its contract. -/
import Derived.Test.YtihebfhhnoneiaaAmCwp
namespace Go.Proofs.Ytihebfhhnoneiaa.Am
open Go.RowKit
set_option linter.unusedVariables false
set_option linter.unusedSimpArgs false

section
variable {P : Program} {tt : Tab}

theorem resK_out (ht : TabOk P tt) {own : Nat → Own} {F : Nat → Prop} {w : World} {σ : Sto} {env : Env} {tmps : Array Value} (r : Rel own F w σ) (he : ∀ j, VS own F w (env j) (tmps.getD j undef)) (f : ResultVar → Sem Value)
    (f1 : ∀ t, f (.tmp t) = pure (tmps.getD t undef)) (f2 : ∀ a t, f (.cell a t) = (do loadVar t (← asAddr (tmps.getD a undef)))) :
    ∀ (rs : List ResultVar) {K : List SV → Prop}, resK tt env σ rs K → ∃ (vs : List SV) (mvs : List Value), K vs ∧ mvs.length = vs.length ∧ (∀ (i : Nat) (x : SV) (v : Value), vs[i]? = some x → mvs[i]? = some v → VS own F w x v) ∧
      (rs.mapM f).run P w = .ok mvs w
  | [], K, h => ⟨[], [], h, rfl, by simp, rfl⟩
  | .tmp t :: rs, K, h => by
    obtain ⟨vs, mvs, h1, h2, h3, h4⟩ := resK_out ht r he f f1 f2 rs h
    refine ⟨_ :: vs, tmps.getD t undef :: mvs, h1, by simp [h2], ?_, ?_⟩
    · intro i x v hx hv
      cases i with
      | zero => simp at hx hv; subst hx; subst hv; simpa using he t
      | succ i => exact h3 i x v (by simpa using hx) (by simpa using hv)
    · rw [List.mapM_cons, f1]
      simp only [Sem.run_bind, Sem.run_pure, Result.andThen_ok, h4]
  | .cell d t :: rs, K, h => by
    obtain ⟨ad, x0, u, g1, g2, g3, g4⟩ := load_out ht r (he d) h
    obtain ⟨vs, mvs, h1, h2, h3, h4⟩ := resK_out ht r he f f1 f2 rs g3
    refine ⟨_ :: vs, u :: mvs, h1, by simp [h2], ?_, ?_⟩
    · intro i x v hx hv
      cases i with
      | zero => simp at hx hv; subst hx; subst hv; exact g4
      | succ i => exact h3 i x v (by simpa using hx) (by simpa using hv)
    · have hc : (f (.cell d t)).run P w = .ok u w := by
        rw [f2, g1]
        simp only [asAddr, Sem.run_bind, Sem.run_pure, Result.andThen_ok, g2]
      rw [List.mapM_cons, Sem.run_bind, hc]
      simp only [Sem.run_bind, Sem.run_pure, Result.andThen_ok, h4]

theorem run_results (ht : TabOk P tt) {fn : Func} {own : Nat → Own} {F : Nat → Prop} {w : World} {σ : Sto} {env : Env} {tmps : Array Value} (r : Rel own F w σ) (he : ∀ j, VS own F w (env j) (tmps.getD j undef)) {K : List SV → Prop} (h : resK tt env σ fn.results.toList K) :
    ∃ (vs : List SV) (mv : Value), K vs ∧ VS own F w (res1 vs) mv ∧ (results fn tmps).run P w = .ok mv w := by
  have key : ∃ f : ResultVar → Sem Value, (∀ t, f (.tmp t) = pure (tmps.getD t undef)) ∧ (∀ a t, f (.cell a t) = (do loadVar t (← asAddr (tmps.getD a undef)))) ∧
      results fn tmps = (do let vs ← fn.results.mapM f; pure (if h : vs.size = 1 then vs[0] else .tuple vs)) := ⟨_, fun _ => rfl, fun _ _ => rfl, rfl⟩
  obtain ⟨f, f1, f2, hres⟩ := key
  obtain ⟨vs, mvs, h1, h2, h3, h4⟩ := resK_out (P := P) ht r he f f1 f2 _ h
  have hrun : (results fn tmps).run P w = .ok (if h : mvs.toArray.size = 1 then mvs.toArray[0] else .tuple mvs.toArray) w := by
    rw [hres, Sem.run_bind, Array.mapM_eq_mapM_toList, Sem.run_map, h4]
    rfl
  refine ⟨vs, _, h1, ?_, hrun⟩
  cases vs with
  | nil =>
    have : mvs = [] := by cases mvs with | nil => rfl | cons => simp at h2
    subst this
    exact .tup _ _ rfl (by simp)
  | cons x vs =>
    cases mvs with
    | nil => simp at h2
    | cons u mvs =>
      cases vs with
      | nil =>
        have : mvs = [] := by cases mvs with | nil => rfl | cons => simp at h2
        subst this
        exact h3 0 x u rfl rfl
      | cons y vs =>
        cases mvs with
        | nil => simp at h2
        | cons u' mvs =>
          rw [dif_neg (by simp)]
          exact .tup _ _ (by simpa using h2) fun i x v hx hv => h3 i x v hx (by simpa using hv)

theorem PCalls.of_body (ht : TabOk P tt) {f : FuncId} {fn : Func} {ts : List T} {post : T → Prop} (hf : P.funcs[f]? = some fn) (hn : (fn.name == "runtime.NumGoroutine") = false) (hb : body (PCalls P) tt fn ts post) : PCalls P f ts post := by
  unfold body at hb
  split at hb
  · exact hb.elim
  · rename_i c hc
    obtain ⟨hck, hb⟩ := bif_elim hb
    simp only [Bool.and_eq_true] at hck
    obtain ⟨k1, k3⟩ := hck
    have k3 := Nat.le_of_ble_eq_true k3
    have hm : ∀ d ∈ mods c, d < fn.ntmps := fun d hd => by
      have := (List.all_eq_true.1 k1) d hd
      simpa [Nat.blt_eq] using this
    unfold PCalls
    refine ⟨⟨fn, hf, hn, by rw [hc]; rfl⟩, ?_⟩
    intro F w vs h1 h2 h3
    refine calls_of_wp hf hc ?_
    have noLv : ∀ b, ¬ Lv (fun _ => Own.unborn) b := by rintro b ⟨k, c, s, m, h, _⟩; exact nomatch h
    have r : Rel (fun _ => .unborn) F w [] := ⟨fun _ _ => rfl, (fun k k' b c s m c' s' m' h => nomatch h), fun b h => absurd h (noLv b), h3, fun b h => absurd h (noLv b), fun k o h => by simp at h⟩
    have he : ER fn.ntmps (fun _ => .unborn) F w (argEnv ts) { tmps := vs.toArray ++ Array.replicate (fn.ntmps - vs.toArray.size) undef, defers := [] } := by
      refine ⟨by simp; omega, fun j => ?_⟩
      unfold argEnv
      split
      · rename_i x hx
        rw [nth_eq] at hx
        have hlt : j < vs.length := by have := (List.getElem?_eq_some_iff.1 hx).1; omega
        have hget : (vs.toArray ++ Array.replicate (fn.ntmps - vs.toArray.size) undef).getD j undef = vs[j] := by
          simp [Array.getD_eq_getD_getElem?, Array.getElem?_append, hlt]
        rw [hget]
        exact .t _ _ (h2 j x _ hx (List.getElem?_eq_getElem hlt))
      · exact .t _ _ (.any _)
    refine cwp_sound ht c hm hb r he ?_
    intro ax env' σ' own' F' w' a' hka e r' l he' hd hs
    have fin : fin tt fn post env' σ' → a'.defers = [] ∧ ∃ v, (results fn a'.tmps).run P w' = .ok v w' ∧
        ∃ (r : T) (mv : Value) (F' : Nat → Prop), Ending.returned v = .returned mv ∧ post r ∧ RT F' w.heap.size w' r mv ∧ (∀ b, F' b → F b ∨ w.heap.size ≤ b) ∧ (∀ b, F' b → b < w'.heap.size) ∧ (∀ b, F b → F' b) ∧ Below w.heap.size w w' := by
      intro hk
      unfold Am.fin at hk
      obtain ⟨vs, mv, hk, hv, hrun⟩ := run_results ht r' he'.2 hk
      split at hk
      · rename_i t hft
        have hF : ∀ b, F' b → F b ∨ w.heap.size ≤ b := fun b hb => by
          rcases e.Fn b hb with h | h | h
          · exact .inl h
          · exact .inr h
          · exact absurd h (noLv b)
        have hL : ∀ b, Lv own' b → w.heap.size ≤ b := fun b hb => (e.on b hb).resolve_left (noLv b)
        refine ⟨hd, mv, hrun, t, mv, _, rfl, hk.out, .of_VT (frz_VT r' 20 hv hft), ?_, ?_, fun b hb => .inl (e.Fm b hb), ⟨e.os, e.tape, e.output, e.sz, fun k hk => e.fr k hk (noLv k)⟩⟩
        · rintro b (h | ⟨k, c, s, m, _, h4, h5⟩)
          · exact hF b h
          · exact .inr (hL b ⟨k, c, s, m, h4, h5⟩)
        · rintro b (h | ⟨k, c, s, m, _, h4, h5⟩)
          · exact r'.Fb b h
          · exact r'.lb b ⟨k, c, s, m, h4, h5⟩
      · exact hk.elim
    cases ax with
    | normal => exact fin hka
    | ret => exact fin hka
    | exit id => exact hka.elim
    | goto l => exact hka.elim


theorem PCalls.of_bodyO (ht : TabOk P tt) {f : FuncId} {fn : Func} {ts : List T} (E : TypeId) (sz : Nat) {post : T → Prop} (hf : P.funcs[f]? = some fn) (hn : (fn.name == "runtime.NumGoroutine") = false) (hb : bodyO (PCalls P) tt E sz fn ts post) : PCalls P f ts post := by
  unfold bodyO at hb
  split at hb
  · exact hb.elim
  · rename_i c hc
    obtain ⟨hck, hb⟩ := bif_elim hb
    simp only [Bool.and_eq_true] at hck
    obtain ⟨k1, k3⟩ := hck
    have k3 := Nat.le_of_ble_eq_true k3
    have hm : ∀ d ∈ mods c, d < fn.ntmps := fun d hd => by
      have := (List.all_eq_true.1 k1) d hd
      simpa [Nat.blt_eq] using this
    unfold PCalls
    refine ⟨⟨fn, hf, hn, by rw [hc]; rfl⟩, ?_⟩
    intro F w vs h1 h2 h3
    refine calls_of_wp hf hc ?_
    have noLv : ∀ b, ¬ Lv (fun _ => Own.unborn) b := by rintro b ⟨k, c, s, m, h, _⟩; exact nomatch h
    have r : Rel (fun _ => .unborn) F w [] := ⟨fun _ _ => rfl, (fun k k' b c s m c' s' m' h => nomatch h), fun b h => absurd h (noLv b), h3, fun b h => absurd h (noLv b), fun k o h => by simp at h⟩
    have he : ER fn.ntmps (fun _ => .unborn) F w (argEnv ts) { tmps := vs.toArray ++ Array.replicate (fn.ntmps - vs.toArray.size) undef, defers := [] } := by
      refine ⟨by simp; omega, fun j => ?_⟩
      unfold argEnv
      split
      · rename_i x hx
        rw [nth_eq] at hx
        have hlt : j < vs.length := by have := (List.getElem?_eq_some_iff.1 hx).1; omega
        have hget : (vs.toArray ++ Array.replicate (fn.ntmps - vs.toArray.size) undef).getD j undef = vs[j] := by
          simp [Array.getD_eq_getD_getElem?, Array.getElem?_append, hlt]
        rw [hget]
        exact .t _ _ (h2 j x _ hx (List.getElem?_eq_getElem hlt))
      · exact .t _ _ (.any _)
    refine cwp_sound ht c hm hb r he ?_
    intro ax env' σ' own' F' w' a' hka e r' l he' hd hs
    have fin : finO tt E sz fn post env' σ' → a'.defers = [] ∧ ∃ v, (results fn a'.tmps).run P w' = .ok v w' ∧
        ∃ (r : T) (mv : Value) (F' : Nat → Prop), Ending.returned v = .returned mv ∧ post r ∧ RT F' w.heap.size w' r mv ∧ (∀ b, F' b → F b ∨ w.heap.size ≤ b) ∧ (∀ b, F' b → b < w'.heap.size) ∧ (∀ b, F b → F' b) ∧ Below w.heap.size w w' := by
      intro hk
      unfold Am.finO at hk
      obtain ⟨vs, mv, hk, hv, hrun⟩ := run_results ht r' he'.2 hk
      have hF : ∀ b, F' b → F b ∨ w.heap.size ≤ b := fun b hb => by
        rcases e.Fn b hb with h | h | h
        · exact .inl h
        · exact .inr h
        · exact absurd h (noLv b)
      have hL : ∀ b, Lv own' b → w.heap.size ≤ b := fun b hb => (e.on b hb).resolve_left (noLv b)
      have hbel : Below w.heap.size w w' := ⟨e.os, e.tape, e.output, e.sz, fun k hk => e.fr k hk (noLv k)⟩
      split at hk
      · rename_i k off len hvs
        split at hk
        · rename_i E' sz' ts' hrow
          obtain ⟨h1, hk⟩ := hk
          obtain ⟨rfl, rfl, rfl, rfl⟩ := h1.out
          rw [hvs] at hv
          refine ⟨hd, mv, hrun, _, mv, F', rfl, hk.out, ?_, hF, r'.Fb, e.Fm, hbel⟩
          rcases osl_row r' hrow hv with ⟨ho1, h0, _, _, ad0, hmv⟩ | ⟨b, cap, vals, ho1, hmv, hle, hsz0, hh, hvs, hcap, h48, hcl, hts, hone2⟩
          · subst h0
            exact .inl ⟨rfl, ad0, hmv⟩
          · have hlv : Lv own' b := ⟨k, _, _, _, ho1, by omega⟩
            exact .inr ⟨b, cap, by rw [hmv]; simp, hL b hlv, r'.sep b hlv, .inr ⟨b, cap, vals, rfl, hsz0, hh, hvs, hcap, h48, hcl, hts, hone2⟩⟩
        · exact hk.elim
      · rename_i hvs
        rw [hvs] at hv
        cases hv with
        | t _ _ hv =>
          cases hv
          exact ⟨hd, _, hrun, _, _, F', rfl, hk.out, .inl ⟨rfl, _, rfl⟩, hF, r'.Fb, e.Fm, hbel⟩
      · rename_i hvs
        rw [hvs] at hv
        cases hv with
        | t _ _ hv =>
          cases hv
          exact ⟨hd, _, hrun, _, _, F', rfl, hk.out, .inl ⟨rfl, _, rfl⟩, hF, r'.Fb, e.Fm, hbel⟩
      · exact hk.elim
    cases ax with
    | normal => exact fin hka
    | ret => exact fin hka
    | exit id => exact hka.elim
    | goto l => exact hka.elim


/-- Such a result may be taken as one that nobody writes any more. -/
theorem PCalls.freeze {f : FuncId} {ts : List T} {E : TypeId} {sz : Nat} {xs : List T} (h : PCalls P f ts fun r => r = .own E (.sl sz xs)) : PCalls P f ts fun r => r = .sl sz xs := by
  unfold PCalls at *
  refine ⟨h.1, ?_⟩
  intro F w vs h1 h2 h3
  refine (h.2 F w vs h1 h2 h3).mono ?_
  rintro e w' ⟨r, mv, F', rfl, rfl, h6, g1, g2, g3, g4⟩
  rcases h6 with ⟨rfl, ad, rfl⟩ | ⟨b, cap, rfl, hnb, hFb, hor⟩
  · exact ⟨_, _, F', rfl, rfl, .sl0 _ _ _, g1, g2, g3, g4⟩
  · rcases hor with ⟨h0, h1⟩ | ⟨b', cap', vals, h0, hpos, hh, hvs, hcap, h48, hcl, hts, hone⟩
    · subst h1
      exact ⟨_, _, F', rfl, rfl, .sl0 _ _ _, g1, g2, g3, g4⟩
    · injection h0 with i1 i2
      subst i1 i2
      have hbl : b < w'.heap.size := (Array.getElem?_eq_some_iff.1 hh).1
      refine ⟨_, _, fun x => F' x ∨ x = b, rfl, rfl, ?_, ?_, ?_, fun x hx => .inl (g3 x hx), g4⟩
      · rcases Nat.eq_zero_or_pos xs.length with h0 | h0
        · have : xs = [] := List.eq_nil_of_length_eq_zero h0
          subst this
          exact .sl0 _ _ _
        · have hin : ∀ j, j < xs.length * sz → j < vals.size := fun j hj => by
            have := Nat.mul_le_mul_right sz hcap
            omega
          refine .sl sz xs b 0 cap (fun j => vals.getD j undef) (by intro hn; rw [hn] at h0; simp at h0) hcap h48 (.inr rfl) hcl ?_ hone ?_
          · intro j hj
            have := hin j hj
            simp [World.cell?, hh, Array.getElem?_eq_getElem this, Array.getD_eq_getD_getElem?]
          · intro i x j y hx hy
            have hi : i < xs.length := (List.getElem?_eq_some_iff.1 hx).1
            have hj : j < sz := by rw [← hcl x (List.mem_of_getElem? hx)]; exact (List.getElem?_eq_some_iff.1 hy).1
            have hlt : i * sz + j < xs.length * sz := by
              have : (i + 1) * sz ≤ xs.length * sz := Nat.mul_le_mul_right _ hi
              rw [Nat.add_mul, Nat.one_mul] at this
              omega
            have hl2 := hin _ hlt
            have hv := (hts i x j y _ hx hy (Array.getElem?_eq_getElem hl2)).sub (F' := fun x => F' x ∨ x = b) fun _ h => .inl h
            simpa [Array.getD_eq_getD_getElem?, Array.getElem?_eq_getElem hl2] using hv
      · rintro x (hx | rfl)
        · exact g1 x hx
        · exact .inr hnb
      · rintro x (hx | rfl)
        · exact g2 x hx
        · exact hbl
end
end Go.Proofs.Ytihebfhhnoneiaa.Am
