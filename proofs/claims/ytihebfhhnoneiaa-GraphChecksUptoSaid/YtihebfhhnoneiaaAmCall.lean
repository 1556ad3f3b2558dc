/- Calls; each operation's law together. -/
import Derived.Test.YtihebfhhnoneiaaAmOps9
namespace Go.Proofs.Ytihebfhhnoneiaa.Am
open Go.RowKit
set_option linter.unusedVariables false
set_option linter.unusedSimpArgs false

section
variable {P : Program} {tt : Tab} {own : Nat → Own} {F : Nat → Prop} {w : World} {σ : Sto} {env : Env} {a : Act} {N : Nat} {o : Oper}
variable {K : SV → Sto → Prop} {next : Act → World → Prop} {Q : Exit → Act → World → Prop}

/-- Behind a call all that was there stands. -/
theorem Rel.calm {F' : Nat → Prop} {w' : World} (r : Rel own F w σ) (hb : Below w.heap.size w w') (h1 : ∀ b, F b → F' b) (h2 : ∀ b, F' b → F b ∨ w.heap.size ≤ b) (h3 : ∀ b, F' b → b < w'.heap.size) : Rel own F' w' σ ∧ Ext σ.length own F w own F' w' := by
  have e : Ext σ.length own F w own F' w' := by
    refine ⟨hb.os, hb.tape, hb.output, hb.size, fun b hb' _ => hb.block b hb', h1, ?_, fun _ h => .inl h, fun _ _ => .inl rfl⟩
    intro b hb'
    rcases h2 b hb' with h | h
    · exact .inl h
    · exact .inr (.inl h)
  refine ⟨⟨r.unb, r.inj, ?_, h3, ?_, ?_⟩, e⟩
  · intro b hl hF
    rcases h2 b hF with h | h
    · exact r.sep b hl h
    · have := r.lb b hl; omega
  · intro b hl
    have := r.lb b hl
    have := hb.size
    omega
  · intro k ob hk
    refine (r.obj k ob hk).ext r e rfl ?_
    intro b c s m hk' hp
    exact hb.block b (r.lb b ⟨k, c, s, m, hk', hp⟩)

theorem VT.plain_any {F' : Nat → Prop} {w' : World} {x : T} {v : Value} (hf : x.plain = true) (h : VT F' w' x v) : VT F w x v := by
  cases h <;> first | exact .bool _ | exact .int _ _ | exact .str _ | exact .nsl | exact .nptr | exact .nfn | exact .nif | (simp [T.plain] at hf)

theorem VT.flat_any {F' : Nat → Prop} {w' : World} {x : T} {v : Value} (hf : x.flat = true) (h : VT F' w' x v) : VT F w x v := by
  cases h with
  | agg xs vs hs h =>
    refine .agg xs vs hs fun i x v hx hv => ?_
    exact (h i x v hx hv).plain_any ((List.all_eq_true.1 hf) x (List.mem_of_getElem? hx))
  | tup xs vs hs h =>
    refine .tup xs vs hs fun i x v hx hv => ?_
    exact (h i x v hx hv).plain_any ((List.all_eq_true.1 hf) x (List.mem_of_getElem? hx))
  | bool b => exact .bool _
  | int k n => exact .int _ _
  | str s => exact .str _
  | nsl => exact .nsl
  | nptr => exact .nptr
  | nfn => exact .nfn
  | nif => exact .nif
  | _ => simp [T.flat, T.plain] at hf

theorem call_sound (hn : Next P o a own F w σ K next) (r : Rel own F w σ) {f : FuncId} {vs : List SV} {mvs : List Value} (hrun : (∃ fn, P.funcs[f]? = some fn ∧ (fn.name == "runtime.NumGoroutine") = false ∧ fn.body.isNone = false) → (execOp a.eval o).run P w = .ok (.enter f mvs.toArray) w)
    (hl : mvs.length = vs.length) (hv : ∀ (i : Nat) (x : SV) (v : Value), vs[i]? = some x → mvs[i]? = some v → VS own F w x v)
    (hs : match frzL σ vs with
      | some ts => PCalls P f ts fun r => bif r.flat then K (.t r) σ else forceSto (kills (vs.flatMap (ids 20 σ)) σ) (K (.t r))
      | none => False) : o.wp P a w next Q := by
  cases hf : frzL σ vs with
  | none => rw [hf] at hs; exact hs.elim
  | some ts =>
    simp only [hf] at hs
    unfold PCalls at hs
    obtain ⟨hfn, hs⟩ := hs
    have hrun := hrun hfn
    unfold Oper.wp
    rw [hrun]
    have hts := mapO_len hf
    refine (hs (Fk own F (vs.flatMap (ids 20 σ))) w mvs (by omega) ?_ ?_).mono ?_
    · intro i x v hx hv'
      obtain ⟨y, hy, hfy⟩ := mapO_get hf i x hx
      exact (frz_VT r 20 (hv i y v hy hv') hfy).sub fun b hb => hb.mono fun k hk => List.mem_flatMap.2 ⟨y, List.mem_of_getElem? hy, hk⟩
    · rintro b (h | ⟨k, c, s, m, _, h1, h2⟩)
      · exact r.Fb b h
      · exact r.lb b ⟨k, c, s, m, h1, h2⟩
    · rintro e w' ⟨rr, mv, F', rfl, hp, hvt, g1, g2, g3, g4⟩
      cases hfl : rr.flat with
      | true =>
        rw [hfl, cond_true] at hp
        obtain ⟨r1, e1⟩ := r.calm g4 (fun _ h => h) (fun _ h => .inl h) (fun b hb => by have := r.Fb b hb; have := g4.size; omega)
        exact hn _ _ _ _ _ _ hp e1 r1 (Nat.le_refl _) (.t _ _ (hvt.flat_any hfl))
      | false =>
        rw [hfl, cond_false, forceSto_iff] at hp
        obtain ⟨r1, e1⟩ := r.kill (vs.flatMap (ids 20 σ))
        obtain ⟨r2, e2⟩ := r1.calm g4 g3 g1 g2
        exact hn _ _ _ _ _ _ hp (e1.trans (e2.mono (by simp [kills_len]))) r2 (by simp [kills_len]) (.t _ _ hvt)

theorem op_call (hn : Next P o a own F w σ K next) (r : Rel own F w σ) {fo : Operand} {args : Array Operand} {argTypes : Array TypeId} (ho : o.op = .call { callee := .value fo, args, argTypes }) (hx : ∀ x, VS own F w (ev env x) (a.eval x))
    (hs : match (generalizing := false) ev env fo with
    | .fn f cap => (match frzL σ (args.toList.map (ev env) ++ cap) with
      | some ts => PCalls P f ts fun r => bif r.flat then K (.t r) σ else forceSto (kills ((args.toList.map (ev env) ++ cap).flatMap (ids 20 σ)) σ) (K (.t r))
      | none => False)
    | .t (.fn f cap) => (match frzL σ (args.toList.map (ev env) ++ cap.map SV.t) with
      | some ts => PCalls P f ts fun r => bif r.flat then K (.t r) σ else forceSto (kills ((args.toList.map (ev env) ++ cap.map SV.t).flatMap (ids 20 σ)) σ) (K (.t r))
      | none => False)
    | _ => False) : o.wp P a w next Q := by
  have hf := hx fo
  have hargs : ∀ (i : Nat) (x : SV) (v : Value), (args.toList.map (ev env))[i]? = some x → (args.toList.map a.eval)[i]? = some v → VS own F w x v := by
    intro i x v h1 h2
    simp only [List.getElem?_map] at h1 h2
    cases hc : args.toList[i]? with
    | none => simp [hc] at h1
    | some y => simp [hc] at h1 h2; subst h1 h2; exact hx y
  have run : ∀ (f : FuncId) (cap : Array Value), a.eval fo = .func (.func f) #[] cap → (∃ fn, P.funcs[f]? = some fn ∧ (fn.name == "runtime.NumGoroutine") = false ∧ fn.body.isNone = false) →
      (execOp a.eval o).run P w = .ok (.enter f (args.toList.map a.eval ++ cap.toList).toArray) w := by
    rintro f cap hfv ⟨fn, h1, h2, h3⟩
    have e : (args.toList.map a.eval ++ cap.toList).toArray = args.map a.eval ++ cap := by apply Array.ext'; simp
    rw [e]
    unfold execOp
    simp only [ho, resolve, hfv, Deferred.ofValue, Sem.run_bind, Sem.run_pure, Result.andThen_ok, invoke, callFunc, run_program, h1, h2, h3]
    simp
  generalize hsv : ev env fo = sf at hf hs
  have comb : ∀ {cap : List SV} {cv : Array Value}, cv.size = cap.length → (∀ (i : Nat) (x : SV) (v : Value), cap[i]? = some x → cv[i]? = some v → VS own F w x v) →
      ∀ (i : Nat) (x : SV) (v : Value), (args.toList.map (ev env) ++ cap)[i]? = some x → (args.toList.map a.eval ++ cv.toList)[i]? = some v → VS own F w x v := by
    intro cap cv hsz hcap i x v h1 h2
    rcases Nat.lt_or_ge i args.toList.length with h | h
    · rw [List.getElem?_append_left (by simpa using h)] at h1 h2
      exact hargs i x v h1 h2
    · rw [List.getElem?_append_right (by simpa using h)] at h1 h2
      simp only [List.length_map] at h1 h2
      exact hcap _ x v h1 (by simpa using h2)
  split at hs
  · rename_i f cap
    generalize hm : a.eval fo = mf at hf
    cases hf with
    | fn _ _ cv hsz hcap =>
      exact call_sound hn r (run f cv hm) (by simp [hsz]) (comb hsz hcap) hs
  · rename_i f cap
    generalize hm : a.eval fo = mf at hf
    cases hf with
    | t _ _ hf =>
      cases hf with
      | fn _ _ cv hsz hcap =>
        refine call_sound hn r (run f cv hm) (by simp [hsz]) (comb (cap := cap.map SV.t) (by simpa using hsz) ?_) hs
        intro i x v h1 h2
        simp only [List.getElem?_map] at h1
        cases hc : cap[i]? with
        | none => simp [hc] at h1
        | some y => simp [hc] at h1; subst h1; exact .t _ _ (hcap i y v hc h2)
  · exact hs.elim

end
end Go.Proofs.Ytihebfhhnoneiaa.Am
