/- Calls; each operation's law together. -/
import Derived.Test.YtihebfhhnoneiaaAmOps9
namespace Go.Proofs.Ytihebfhhnoneiaa.Am
open Go.RowKit
set_option linter.unusedVariables false
set_option linter.unusedSimpArgs false

section
variable {P : Program} {tt : Tab} {own : Nat → Own} {F : Nat → Prop} {w : World} {σ : Sto} {env : Env} {a : Act} {N : Nat} {o : Oper}
variable {K : SV → Sto → Prop} {next : Act → World → Prop} {Q : Exit → Act → World → Prop}

/-- Behind a call all that was there stands. -/
theorem Rel.calm {F' : Nat → Prop} {w' : World} (r : Rel own F w σ) (hb : Below w.heap.size w w') (h1 : ∀ b, F b → F' b) (h2 : ∀ b, F' b → F b ∨ w.heap.size ≤ b) (h3 : ∀ b, F' b → b < w'.heap.size) : Rel own F' w' σ ∧ Ext σ.length own F w own F' w' := by
  have e : Ext σ.length own F w own F' w' := by
    refine ⟨hb.os, hb.tape, hb.output, hb.size, fun b hb' _ => hb.block b hb', h1, ?_, fun _ h => .inl h, fun _ _ => .inl rfl⟩
    intro b hb'
    rcases h2 b hb' with h | h
    · exact .inl h
    · exact .inr (.inl h)
  refine ⟨⟨r.unb, r.inj, ?_, h3, ?_, ?_⟩, e⟩
  · intro b hl hF
    rcases h2 b hF with h | h
    · exact r.sep b hl h
    · have := r.lb b hl; omega
  · intro b hl
    have := r.lb b hl
    have := hb.size
    omega
  · intro k ob hk
    refine (r.obj k ob hk).ext r e rfl ?_
    intro b c s m hk' hp
    exact hb.block b (r.lb b ⟨k, c, s, m, hk', hp⟩)

theorem VT.plain_any {F' : Nat → Prop} {w' : World} {x : T} {v : Value} (hf : x.plain = true) (h : VT F' w' x v) : VT F w x v := by
  cases h <;> first | exact .bool _ | exact .int _ _ | exact .str _ | exact .nsl | exact .nptr | exact .nfn | exact .nif | (simp [T.plain] at hf)

theorem VT.flat_any {F' : Nat → Prop} {w' : World} {x : T} {v : Value} (hf : x.flat = true) (h : VT F' w' x v) : VT F w x v := by
  cases h with
  | agg xs vs hs h =>
    refine .agg xs vs hs fun i x v hx hv => ?_
    exact (h i x v hx hv).plain_any ((List.all_eq_true.1 hf) x (List.mem_of_getElem? hx))
  | tup xs vs hs h =>
    refine .tup xs vs hs fun i x v hx hv => ?_
    exact (h i x v hx hv).plain_any ((List.all_eq_true.1 hf) x (List.mem_of_getElem? hx))
  | bool b => exact .bool _
  | int k n => exact .int _ _
  | str s => exact .str _
  | nsl => exact .nsl
  | nptr => exact .nptr
  | nfn => exact .nfn
  | nif => exact .nif
  | _ => simp [T.flat, T.plain] at hf

theorem VS.own_mono {own' : Nat → Own} (hk : ∀ k, own k ≠ .unborn → own' k = own k) {x : SV} {v : Value} (h : VS own F w x v) : VS own' F w x v := by
  induction h with
  | t x v h => exact .t x v h
  | loc k i off b c s m h => exact .loc k i off b c s m (by rw [hk k (by rw [h]; simp), h])
  | locD k i off p h => exact .locD _ _ _ _ (by rw [hk k (by rw [h]; simp), h])
  | osl k off len b c s m h hl hm hn => exact .osl k off len b c s m (by rw [hk k (by rw [h]; simp), h]) hl hm hn
  | oslN k a h => exact .oslN k a (by rw [hk k (by rw [h]; simp), h])
  | oslD k off len a m c h => exact .oslD _ _ _ _ _ _ (by rw [hk k (by rw [h]; simp), h])
  | map k b c s m h => exact .map k b c s m (by rw [hk k (by rw [h]; simp), h])
  | mapD k p h => exact .mapD _ _ (by rw [hk k (by rw [h]; simp), h])
  | agg xs vs hs _ ih => exact .agg xs vs hs ih
  | tup xs vs hs _ ih => exact .tup xs vs hs ih
  | fn f xs vs hs _ ih => exact .fn f xs vs hs ih
  | g c x v h0 _ ih => exact .g c x v h0 ih

theorem OR.own_mono {own' : Nat → Own} (hk : ∀ k, own k ≠ .unborn → own' k = own k) {ow : Own} {o : SObj} (h : OR own F w ow o) : OR own' F w ow o := by
  cases o with
  | dead => trivial
  | var E cs =>
    obtain ⟨b, vals, h1, h2, h3, h4⟩ := h
    exact ⟨b, vals, h1, h2, h3, fun j x v hx hv => (h4 j x v hx hv).own_mono hk⟩
  | row E sz ts => exact h
  | map kk es => exact h

/-- A block that nobody has, taken in as an object. -/
theorem Rel.adopt (r : Rel own F w σ) (b c s m : Nat) (hF : ¬ F b) (hl : ¬ Lv own b) (hb : b < w.heap.size) (o : SObj) (ho : ∀ own', (∀ k, own k ≠ .unborn → own' k = own k) → OR own' F w (.live b c s m) o) :
    Rel (ownAt own σ.length (.live b c s m)) F w (σ ++ [o]) ∧ (∀ k, own k ≠ .unborn → ownAt own σ.length (.live b c s m) k = own k) := by
  have hold : ∀ k, own k ≠ .unborn → ownAt own σ.length (.live b c s m) k = own k := by
    intro k hk
    unfold ownAt
    rw [if_neg]
    intro e
    exact hk (r.unb k (by omega))
  have hnew : ownAt own σ.length (.live b c s m) σ.length = .live b c s m := by unfold ownAt; rw [if_pos rfl]
  refine ⟨⟨?_, ?_, ?_, r.Fb, ?_, ?_⟩, hold⟩
  · intro k hk
    simp at hk
    unfold ownAt
    rw [if_neg (by omega)]
    exact r.unb k (by omega)
  · intro k k' x c1 s1 m1 c2 s2 m2 hk hp hk' hp'
    unfold ownAt at hk hk'
    split at hk <;> split at hk'
    · omega
    · injection hk with h1 h2 h3
      subst h1
      exact absurd ⟨_, _, _, _, hk', hp'⟩ hl
    · injection hk' with h1 h2 h3
      subst h1
      exact absurd ⟨_, _, _, _, hk, hp⟩ hl
    · exact r.inj k k' x c1 s1 m1 c2 s2 m2 hk hp hk' hp'
  · intro x hx
    rcases Lv_ownAt hx with rfl | h
    · exact hF
    · exact r.sep x h
  · intro x hx
    rcases Lv_ownAt hx with rfl | h
    · exact hb
    · exact r.lb x h
  · intro k o' hk
    rcases Nat.lt_or_ge k σ.length with h | h
    · rw [List.getElem?_append_left h] at hk
      have : ownAt own σ.length (.live b c s m) k = own k := by unfold ownAt; rw [if_neg (by omega)]
      rw [this]
      exact (r.obj k o' hk).own_mono hold
    · rw [List.getElem?_append_right h] at hk
      have hk0 : k = σ.length := by
        rcases Nat.eq_or_lt_of_le h with h1 | h1
        · exact h1.symm
        · obtain ⟨d, hd⟩ : ∃ d, k - σ.length = d + 1 := ⟨k - σ.length - 1, by omega⟩
          rw [hd] at hk; simp at hk
      subst hk0
      simp at hk
      subst hk
      rw [hnew]
      exact ho _ hold

theorem call_sound (hn : Next P o a own F w σ K next) (r : Rel own F w σ) {f : FuncId} {vs : List SV} {mvs : List Value} (hrun : (∃ fn, P.funcs[f]? = some fn ∧ (fn.name == "runtime.NumGoroutine") = false ∧ fn.body.isNone = false) → (execOp a.eval o).run P w = .ok (.enter f mvs.toArray) w)
    (hl : mvs.length = vs.length) (hv : ∀ (i : Nat) (x : SV) (v : Value), vs[i]? = some x → mvs[i]? = some v → VS own F w x v)
    (hs : match frzL σ vs with
      | some ts => PCalls P f ts (callK (vs.flatMap (ids 20 σ)) σ K)
      | none => False) : o.wp P a w next Q := by
  cases hf : frzL σ vs with
  | none => rw [hf] at hs; exact hs.elim
  | some ts =>
    simp only [hf] at hs
    unfold PCalls at hs
    obtain ⟨hfn, hs⟩ := hs
    have hrun := hrun hfn
    unfold Oper.wp
    rw [hrun]
    have hts := mapO_len hf
    refine (hs (Fk own F (vs.flatMap (ids 20 σ))) w mvs (by omega) ?_ ?_).mono ?_
    · intro i x v hx hv'
      obtain ⟨y, hy, hfy⟩ := mapO_get hf i x hx
      exact (frz_VT r 20 (hv i y v hy hv') hfy).sub fun b hb => hb.mono fun k hk => List.mem_flatMap.2 ⟨y, List.mem_of_getElem? hy, hk⟩
    · rintro b (h | ⟨k, c, s, m, _, h1, h2⟩)
      · exact r.Fb b h
      · exact r.lb b ⟨k, c, s, m, h1, h2⟩
    · rintro e w' ⟨rr, mv, F', rfl, hp, hvt, g1, g2, g3, g4⟩
      have old : RT F' w.heap.size w' rr mv = VT F' w' rr mv → (bif rr.flat then K (.t rr) σ else forceSto (kills (vs.flatMap (ids 20 σ)) σ) (K (.t rr))) → next (a.put o.dst mv) w' := by
        intro hrt hp
        rw [hrt] at hvt
        cases hfl : rr.flat with
        | true =>
          rw [hfl, cond_true] at hp
          obtain ⟨r1, e1⟩ := r.calm g4 (fun _ h => h) (fun _ h => .inl h) (fun b hb => by have := r.Fb b hb; have := g4.size; omega)
          exact hn _ _ _ _ _ _ hp e1 r1 (Nat.le_refl _) (.t _ _ (hvt.flat_any hfl))
        | false =>
          rw [hfl, cond_false, forceSto_iff] at hp
          obtain ⟨r1, e1⟩ := r.kill (vs.flatMap (ids 20 σ))
          obtain ⟨r2, e2⟩ := r1.calm g4 g3 g1 g2
          exact hn _ _ _ _ _ _ hp (e1.trans (e2.mono (by simp [kills_len]))) r2 (by simp [kills_len]) (.t _ _ hvt)
      unfold callK at hp
      split at hp
      · rename_i E sz xs
        rw [forceSto_iff] at hp
        obtain ⟨r1, e1⟩ := r.kill (vs.flatMap (ids 20 σ))
        obtain ⟨r2, e2⟩ := r1.calm g4 g3 g1 g2
        have e12 := e1.trans (e2.mono (by simp [kills_len]))
        have hkl := kills_len (vs.flatMap (ids 20 σ)) σ
        rcases hvt with ⟨rfl, ad, rfl⟩ | ⟨b, cap, rfl, hnb, hFb, hor⟩
        · have hp2 := r2.push 0 0 0 0 (.inr rfl) (fun h => absurd h (by omega)) (w' := w') rfl rfl rfl (Nat.le_refl _) (fun _ _ => rfl) (.row E sz []) (fun _ _ _ _ => .inl ⟨rfl, rfl⟩)
          refine hn _ _ _ _ _ _ hp (e12.trans (hp2.2.mono (by omega))) hp2.1 (by simp; omega) (.oslN _ _ ?_)
          unfold ownAt
          rw [if_pos hkl.symm]
        · rcases hor with ⟨h0, h1⟩ | ⟨b', cap', vals, h0, hpos, hh, hvs, hcap, h48, hcl, hts, hone⟩
          · injection h0 with i1 i2 i3 i4
            subst h1 i1 i2
            have hp2 := r2.push 0 0 0 0 (.inr rfl) (fun h => absurd h (by omega)) (w' := w') rfl rfl rfl (Nat.le_refl _) (fun _ _ => rfl) (.row E sz []) (fun _ _ _ _ => .inl ⟨rfl, rfl⟩)
            refine hn _ _ _ _ _ _ hp (e12.trans (hp2.2.mono (by omega))) hp2.1 (by simp; omega) (.oslN _ _ ?_)
            unfold ownAt
            rw [if_pos hkl.symm]
          · injection h0 with i1 i2
            subst i1 i2
            have hbl : b < w'.heap.size := (Array.getElem?_eq_some_iff.1 hh).1
            have hlv : ¬ Lv (ownK own (vs.flatMap (ids 20 σ))) b := fun h => by have := r1.lb b h; omega
            obtain ⟨r3, hold⟩ := r2.adopt b cap sz xs.length hFb hlv hbl (.row E sz xs) (fun _ _ => .inr ⟨b, cap, vals, rfl, hpos, hh, hvs, hcap, h48, hcl, hts, hone⟩)
            refine hn _ _ _ _ _ _ hp ⟨e12.os, e12.tape, e12.output, e12.sz, e12.fr, e12.Fm, e12.Fn, ?_, ?_⟩ r3 (by simp; omega) ?_
            · intro x hx
              rcases Lv_ownAt hx with rfl | h
              · exact .inr hnb
              · exact e12.on x h
            · intro k hk
              have : ownAt (ownK own (vs.flatMap (ids 20 σ))) (kills (vs.flatMap (ids 20 σ)) σ).length (.live b cap sz xs.length) k = ownK own (vs.flatMap (ids 20 σ)) k := by unfold ownAt; rw [if_neg (by omega)]
              rw [this]
              exact e12.ok k hk
            · have hat : ownAt (ownK own (vs.flatMap (ids 20 σ))) (kills (vs.flatMap (ids 20 σ)) σ).length (.live b cap sz xs.length) σ.length = .live b cap sz xs.length := by unfold ownAt; rw [if_pos hkl.symm]
              have := VS.osl (F := F') (w := w') σ.length 0 xs.length _ _ _ _ hat (by omega) hcap h48
              simpa using this
      · exact hp.elim
      · rename_i hne hne2
        refine old ?_ hp
        cases rr with
        | own E x => exact absurd rfl (hne2 E x)
        | _ => rfl

theorem op_call (hn : Next P o a own F w σ K next) (r : Rel own F w σ) {fo : Operand} {args : Array Operand} {argTypes : Array TypeId} (ho : o.op = .call { callee := .value fo, args, argTypes }) (hx : ∀ x, VS own F w (ev env x) (a.eval x))
    (hs : match (generalizing := false) ev env fo with
    | .fn f cap => (match frzL σ (args.toList.map (ev env) ++ cap) with
      | some ts => PCalls P f ts (callK ((args.toList.map (ev env) ++ cap).flatMap (ids 20 σ)) σ K)
      | none => False)
    | .t (.fn f cap) => (match frzL σ (args.toList.map (ev env) ++ cap.map SV.t) with
      | some ts => PCalls P f ts (callK ((args.toList.map (ev env) ++ cap.map SV.t).flatMap (ids 20 σ)) σ K)
      | none => False)
    | _ => False) : o.wp P a w next Q := by
  have hf := hx fo
  have hargs : ∀ (i : Nat) (x : SV) (v : Value), (args.toList.map (ev env))[i]? = some x → (args.toList.map a.eval)[i]? = some v → VS own F w x v := by
    intro i x v h1 h2
    simp only [List.getElem?_map] at h1 h2
    cases hc : args.toList[i]? with
    | none => simp [hc] at h1
    | some y => simp [hc] at h1 h2; subst h1 h2; exact hx y
  have run : ∀ (f : FuncId) (cap : Array Value), a.eval fo = .func (.func f) #[] cap → (∃ fn, P.funcs[f]? = some fn ∧ (fn.name == "runtime.NumGoroutine") = false ∧ fn.body.isNone = false) →
      (execOp a.eval o).run P w = .ok (.enter f (args.toList.map a.eval ++ cap.toList).toArray) w := by
    rintro f cap hfv ⟨fn, h1, h2, h3⟩
    have e : (args.toList.map a.eval ++ cap.toList).toArray = args.map a.eval ++ cap := by apply Array.ext'; simp
    rw [e]
    unfold execOp
    simp only [ho, resolve, hfv, Deferred.ofValue, Sem.run_bind, Sem.run_pure, Result.andThen_ok, invoke, callFunc, run_program, h1, h2, h3]
    simp
  generalize hsv : ev env fo = sf at hf hs
  have comb : ∀ {cap : List SV} {cv : Array Value}, cv.size = cap.length → (∀ (i : Nat) (x : SV) (v : Value), cap[i]? = some x → cv[i]? = some v → VS own F w x v) →
      ∀ (i : Nat) (x : SV) (v : Value), (args.toList.map (ev env) ++ cap)[i]? = some x → (args.toList.map a.eval ++ cv.toList)[i]? = some v → VS own F w x v := by
    intro cap cv hsz hcap i x v h1 h2
    rcases Nat.lt_or_ge i args.toList.length with h | h
    · rw [List.getElem?_append_left (by simpa using h)] at h1 h2
      exact hargs i x v h1 h2
    · rw [List.getElem?_append_right (by simpa using h)] at h1 h2
      simp only [List.length_map] at h1 h2
      exact hcap _ x v h1 (by simpa using h2)
  split at hs
  · rename_i f cap
    generalize hm : a.eval fo = mf at hf
    cases hf with
    | fn _ _ cv hsz hcap =>
      exact call_sound hn r (run f cv hm) (by simp [hsz]) (comb hsz hcap) hs
  · rename_i f cap
    generalize hm : a.eval fo = mf at hf
    cases hf with
    | t _ _ hf =>
      cases hf with
      | fn _ _ cv hsz hcap =>
        refine call_sound hn r (run f cv hm) (by simp [hsz]) (comb (cap := cap.map SV.t) (by simpa using hsz) ?_) hs
        intro i x v h1 h2
        simp only [List.getElem?_map] at h1
        cases hc : cap[i]? with
        | none => simp [hc] at h1
        | some y => simp [hc] at h1; subst h1; exact .t _ _ (hcap i y v hc h2)
  · exact hs.elim

end
end Go.Proofs.Ytihebfhhnoneiaa.Am
