/- Calls; each operation's law together. -/
import Derived.Test.YtihebfhhnoneiaaAmOps9
namespace Go.Proofs.Ytihebfhhnoneiaa.Am
open Go.RowKit
set_option linter.unusedVariables false
set_option linter.unusedSimpArgs false

section
variable {P : Program} {tt : Tab} {own : Nat → Own} {F : Nat → Prop} {w : World} {σ : Sto} {env : Env} {a : Act} {N : Nat} {o : Oper}
variable {K : SV → Sto → Prop} {next : Act → World → Prop} {Q : Exit → Act → World → Prop}

/-- Behind a call all that was there stands. -/
theorem Rel.calm {F' : Nat → Prop} {w' : World} (r : Rel own F w σ) (hb : Below w.heap.size w w') (h1 : ∀ b, F b → F' b) (h2 : ∀ b, F' b → F b ∨ w.heap.size ≤ b) (h3 : ∀ b, F' b → b < w'.heap.size) : Rel own F' w' σ ∧ Ext σ.length own F w own F' w' := by
  have hv : ∀ x v, VT F w x v → VT F' w' x v := fun x v h => h.mono h1 fun b _ hb' => hb.block b hb'
  have hs : ∀ x v, VS own F w x v → VS own F' w' x v := fun x v h => h.map' hv fun _ _ _ _ h => h
  refine ⟨⟨r.unb, r.inj, fun k b hl hF => ?_, h3, fun k b hl => ?_, fun k ob hk => (r.obj k ob hk).keep (fun b hl => hb.block b (r.lb k b hl)) hv hs⟩, hb.os, hb.tape, hb.output, hb.size, fun b hb' _ => hb.block b hb', h1, fun b hb' => ?_, fun _ h => .inl h, fun _ _ _ _ _ h => h⟩
  · rcases h2 b hF with h | h
    · exact r.sep k b hl h
    · have := r.lb k b hl; omega
  · have := r.lb k b hl
    have := hb.size
    omega
  · rcases h2 b hb' with h | h
    · exact .inl h
    · exact .inr (.inl h)

theorem VT.plain_any {F' : Nat → Prop} {w' : World} {x : T} {v : Value} (hf : x.plain = true) (h : VT F' w' x v) : VT F w x v := by
  cases h <;> first | exact .bool _ | exact .int _ _ | exact .str _ | exact .nsl | exact .nptr | exact .nfn | exact .nif | exact .esl _ | (simp [T.plain] at hf)

theorem VT.flat_any {F' : Nat → Prop} {w' : World} {x : T} {v : Value} (hf : x.flat = true) (h : VT F' w' x v) : VT F w x v := by
  cases h with
  | agg xs vs hs h =>
    refine .agg xs vs hs fun i x v hx hv => ?_
    exact (h i x v hx hv).plain_any ((List.all_eq_true.1 hf) x (List.mem_of_getElem? hx))
  | tup xs vs hs h =>
    refine .tup xs vs hs fun i x v hx hv => ?_
    exact (h i x v hx hv).plain_any ((List.all_eq_true.1 hf) x (List.mem_of_getElem? hx))
  | bool b => exact .bool _
  | int k n => exact .int _ _
  | str s => exact .str _
  | nsl => exact .nsl
  | esl a => exact .esl a
  | nptr => exact .nptr
  | nfn => exact .nfn
  | nif => exact .nif
  | _ => simp [T.flat, T.plain] at hf


/-! ### results of one's own -/
theorem opnL_snd {f : Nat → T → SV × Sto} (hf : ∀ n m x, (f n x).2 = (f m x).2) : ∀ (xs : List T) (n m : Nat), (opnL f n xs).2 = (opnL f m xs).2
  | [], n, m => rfl
  | x :: xs, n, m => by
    simp only [opnL]
    rw [hf n m x, opnL_snd hf xs _ (m + (f m x).2.length)]
theorem opn_snd : ∀ (d n m : Nat) (x : T), (opn d n x).2 = (opn d m x).2
  | 0, n, m, x => by cases x <;> rfl
  | d + 1, n, m, x => by
    cases x <;> first | rfl | exact opnL_snd (opn_snd d) _ n m
theorem opnL_nd {f : Nat → T → SV × Sto} (hf : ∀ n x, ∀ o ∈ (f n x).2, ∃ m, o = SObj.nd e0 m) : ∀ (xs : List T) (n : Nat), ∀ o ∈ (opnL f n xs).2, ∃ m, o = SObj.nd e0 m
  | [], n, o, h => by simp [opnL] at h
  | x :: xs, n, o, h => by
    simp only [opnL, List.mem_append] at h
    rcases h with h | h
    · exact hf _ _ o h
    · exact opnL_nd hf xs _ o h
theorem opn_nd : ∀ (d n : Nat) (x : T), ∀ o ∈ (opn d n x).2, ∃ m, o = SObj.nd e0 m
  | 0, n, x, o, h => by cases x <;> simp [opn] at h
  | d + 1, n, x, o, h => by
    cases x <;> first
      | (simp [opn] at h; done)
      | (simp [opn] at h; exact ⟨_, h⟩)
      | exact opnL_nd (opn_nd d) _ n o h
theorem opnL_VS {ow ow' : Nat → Own} {w : World} {s : Nat} {f : Nat → T → SV × Sto} (hl : ∀ n m x, (f n x).2 = (f m x).2) (hf : ∀ m x v, VS ow (fun _ => False) w (f m x).1 v → VS ow' F w (f (m + s) x).1 v) :
    ∀ (xs : List T) (m : Nat), (opnL f (m + s) xs).1.length = (opnL f m xs).1.length ∧ ∀ (i : Nat) (y : SV) (v : Value), (opnL f (m + s) xs).1[i]? = some y → ∃ y0, (opnL f m xs).1[i]? = some y0 ∧ (VS ow (fun _ => False) w y0 v → VS ow' F w y v)
  | [], m => ⟨rfl, by simp [opnL]⟩
  | x :: xs, m => by
    have e : m + s + (f (m + s) x).2.length = m + (f m x).2.length + s := by rw [hl (m + s) m x]; omega
    obtain ⟨h1, h2⟩ := opnL_VS hl hf xs (m + (f m x).2.length)
    simp only [opnL, e]
    refine ⟨by simp [h1], fun i y v hy => ?_⟩
    cases i with
    | zero => simp at hy; subst hy; exact ⟨_, rfl, hf m x v⟩
    | succ i =>
      obtain ⟨y0, g1, g2⟩ := h2 i y v (by simpa using hy)
      exact ⟨y0, by simpa using g1, g2⟩
theorem opn_VS {ow ow' : Nat → Own} {w : World} {s : Nat} (ha : ∀ k e p L, (ow k).am e p = some L → (ow' (k + s)).am e p = some L) : ∀ (d m : Nat) (x : T) (v : Value), VS ow (fun _ => False) w (opn d m x).1 v → VS ow' F w (opn d (m + s) x).1 v := by
  intro d
  have leaf : ∀ {x : T} {v : Value}, VS ow (fun _ => False) w (.t x) v → VS ow' F w (.t x) v := by
    intro x v h
    cases h with
    | t _ _ h => exact .t _ _ (h.sub fun _ h => h.elim)
  induction d with
  | zero => intro m x v h; cases x <;> exact leaf h
  | succ d ih =>
    intro m x v h
    cases x with
    | nst E sz xs =>
      have h : VS ow (fun _ => False) w (.ref m 0 [] 0 xs.length) v := h
      show VS ow' F w (.ref (m + s) 0 [] 0 xs.length) v
      generalize xs.length = l at h ⊢
      cases h with
      | ref _ _ _ _ _ b o sz cap mm hh hl hm hn => exact .ref _ _ _ _ _ b o sz cap mm (ha _ _ _ _ hh) hl hm hn
      | refE _ _ _ a hh => exact .refE _ _ _ a (ha _ _ _ _ hh)
      | refZ _ _ _ _ a hh => exact absurd hh (by omega)
    | nmp kk es =>
      have h : VS ow (fun _ => False) w (.mp m 0 []) v := h
      show VS ow' F w (.mp (m + s) 0 []) v
      cases h with
      | mp _ _ _ b o sz cap mm hh => exact .mp _ _ _ b o sz cap mm (ha _ _ _ _ hh)
    | agg xs =>
      obtain ⟨h1, h2⟩ := opnL_VS (F := F) (opn_snd d) ih xs m
      have h : VS ow (fun _ => False) w (.agg (opnL (opn d) m xs).1) v := h
      show VS ow' F w (.agg (opnL (opn d) (m + s) xs).1) v
      cases h with
      | agg _ vs hs hh =>
        refine .agg _ _ (by rw [hs, h1]) fun i y u hy hu => ?_
        obtain ⟨y0, g1, g2⟩ := h2 i y u hy
        exact g2 (hh i y0 u g1 hu)
    | tup xs =>
      obtain ⟨h1, h2⟩ := opnL_VS (F := F) (opn_snd d) ih xs m
      have h : VS ow (fun _ => False) w (.tup (opnL (opn d) m xs).1) v := h
      show VS ow' F w (.tup (opnL (opn d) (m + s) xs).1) v
      cases h with
      | tup _ vs hs hh =>
        refine .tup _ _ (by rw [hs, h1]) fun i y u hy hu => ?_
        obtain ⟨y0, g1, g2⟩ := h2 i y u hy
        exact g2 (hh i y0 u g1 hu)
    | _ => exact leaf h

/-- Memory that a callee has made, taken over. -/
theorem Rel.join {w' : World} {ownx : Nat → Own} {σx : Sto} {n : Nat} (r : Rel own F w' σ) (rx : Rel ownx (fun _ => False) w' σx) (hnd : ∀ o ∈ σx, ∃ m, o = SObj.nd e0 m) (hn : ∀ k b, (own k).bl b → b < n) (hF : ∀ b, F b → b < n) (hx : ∀ k b, (ownx k).bl b → n ≤ b) :
    Rel (fun k => if k < σ.length then own k else ownx (k - σ.length)) F w' (σ ++ σx) := by
  have hL : ∀ k b, ((fun k => if k < σ.length then own k else ownx (k - σ.length)) k).bl b → (k < σ.length ∧ (own k).bl b) ∨ (σ.length ≤ k ∧ (ownx (k - σ.length)).bl b) := by
    intro k b h
    by_cases hk : k < σ.length
    · simp only [if_pos hk] at h; exact .inl ⟨hk, h⟩
    · simp only [if_neg hk] at h; exact .inr ⟨by omega, h⟩
  refine ⟨fun k hk => ?_, fun k k' b h1 h2 => ?_, fun k b h hF' => ?_, r.Fb, fun k b h => ?_, fun k o hk => ?_⟩
  · simp at hk
    simp only [if_neg (show ¬ k < σ.length by omega)]
    exact rx.unb _ (by omega)
  · rcases hL k b h1 with ⟨p1, q1⟩ | ⟨p1, q1⟩ <;> rcases hL k' b h2 with ⟨p2, q2⟩ | ⟨p2, q2⟩
    · exact r.inj _ _ b q1 q2
    · have := hn k b q1; have := hx _ b q2; omega
    · have := hn k' b q2; have := hx _ b q1; omega
    · have := rx.inj _ _ b q1 q2; omega
  · rcases hL k b h with ⟨p1, q1⟩ | ⟨p1, q1⟩
    · exact r.sep k b q1 hF'
    · have := hF b hF'; have := hx _ b q1; omega
  · rcases hL k b h with ⟨p1, q1⟩ | ⟨p1, q1⟩
    · exact r.lb k b q1
    · exact rx.lb _ b q1
  · rcases Nat.lt_or_ge k σ.length with h | h
    · rw [List.getElem?_append_left h] at hk
      simp only [if_pos h]
      refine (r.obj k o hk).keep (fun _ _ => rfl) (fun _ _ h => h) fun x v hv => hv.map' (fun _ _ h => h) fun j e p L hL' => ?_
      simp only [if_pos (r.lt_of hL')]
      exact hL'
    · rw [List.getElem?_append_right h] at hk
      simp only [if_neg (show ¬ k < σ.length by omega)]
      obtain ⟨m, rfl⟩ := hnd o (List.mem_of_getElem? hk)
      obtain ⟨h1, h2, h3, h4⟩ := rx.obj _ _ hk
      exact ⟨h1.move (fun _ => rfl) (fun _ _ => rfl) fun x v hv => hv.sub fun _ h => h.elim, h2, h3, h4⟩

theorem call_sound (hn : Next P o a own F w σ K next) (r : Rel own F w σ) {f : FuncId} {vs : List SV} {mvs : List Value} (hrun : (∃ fn, P.funcs[f]? = some fn ∧ (fn.name == "runtime.NumGoroutine") = false ∧ fn.body.isNone = false) → (execOp a.eval o).run P w = .ok (.enter f mvs.toArray) w)
    (hl : mvs.length = vs.length) (hv : ∀ (i : Nat) (x : SV) (v : Value), vs[i]? = some x → mvs[i]? = some v → VS own F w x v)
    (hs : frzL σ vs fun ts => PCalls P f ts (callK (vs.flatMap (ids 20 σ)) σ K)) : o.wp P a w next Q := by
  obtain ⟨ts, hs, hts, hvt0⟩ := frzKs_out (n := 20) (fun hv hs => frzK_VT r 20 hv hs) hl hv hs
  unfold PCalls at hs
  obtain ⟨hfn, hs⟩ := hs
  have hrun := hrun hfn
  unfold Oper.wp
  rw [hrun]
  refine (hs (Fk own F (vs.flatMap (ids 20 σ))) w mvs (by omega) hvt0 ?_).mono ?_
  · rintro b (h | ⟨k, _, h1⟩)
    · exact r.Fb b h
    · exact r.lb k b h1
  · rintro e w' ⟨rr, mv, F', rfl, hp, hvt, g1, g2, g3, g4⟩
    obtain ⟨rc, ec⟩ := r.calm g4 (fun _ h => h) (fun _ h => .inl h) (fun b hb => by have := r.Fb b hb; have := g4.size; omega)
    have old : RT F' w.heap.size w' rr mv = VT F' w' rr mv → (bif rr.flat then K (.t rr) σ else forceSto (kills (vs.flatMap (ids 20 σ)) σ) (K (.t rr))) → next (a.put o.dst mv) w' := by
      intro hrt hp
      rw [hrt] at hvt
      cases hfl : rr.flat with
      | true =>
        rw [hfl, cond_true] at hp
        exact hn _ _ _ _ _ _ hp ec rc (Nat.le_refl _) (.t _ _ (hvt.flat_any hfl))
      | false =>
        rw [hfl, cond_false, forceSto_iff] at hp
        obtain ⟨r1, e1⟩ := r.kill (vs.flatMap (ids 20 σ))
        obtain ⟨r2, e2⟩ := r1.calm g4 g3 g1 g2
        exact hn _ _ _ _ _ _ hp (e1.trans (e2.mono (by simp [kills_len]))) r2 (by simp [kills_len]) (.t _ _ hvt)
    unfold callK at hp
    split at hp
    · rename_i x
      rw [forceSto_iff] at hp
      obtain ⟨ownx, rx, vx, hx⟩ := hvt
      have hj := rc.join rx (opn_nd 4 0 x) r.lb r.Fb (fun k b h => (hx k b h).1)
      rw [opn_snd 4 0 σ.length x] at hj
      refine hn _ _ _ _ _ _ hp ⟨ec.os, ec.tape, ec.output, ec.sz, ec.fr, ec.Fm, ec.Fn, ?_, ?_⟩ hj (by simp) ?_
      · rintro b ⟨k, hk⟩
        by_cases h : k < σ.length
        · simp only [if_pos h] at hk; exact .inl ⟨k, hk⟩
        · simp only [if_neg h] at hk; exact .inr (hx _ b hk).1
      · intro k hk e p L hL
        simp only [if_pos hk]
        exact hL
      · have := opn_VS (F := F) (ow := ownx) (ow' := fun k => if k < σ.length then own k else ownx (k - σ.length)) (w := w') (s := σ.length) (fun k e p L hL => by
          simp only [if_neg (show ¬ k + σ.length < σ.length by omega), Nat.add_sub_cancel]
          exact hL) 4 0 x mv vx
        rwa [Nat.zero_add] at this
    · rename_i hne
      refine old ?_ (by rw [killsF_iff] at hp; exact hp)
      cases rr with
      | own x => exact absurd rfl (hne x)
      | _ => rfl

theorem icall_sound (hn : Next P o a own F w σ K next) (r : Rel own F w σ) {f : FuncId} {vs : List SV} {mvs : List Value} (hrun : (∃ fn, P.funcs[f]? = some fn ∧ (fn.name == "runtime.NumGoroutine") = false ∧ fn.body.isNone = false) → (execOp a.eval o).run P w = .ok (.enter f mvs.toArray) w)
    (hl : mvs.length = vs.length) (hv : ∀ (i : Nat) (x : SV) (v : Value), vs[i]? = some x → mvs[i]? = some v → VS own F w x v) (hs : ICalls P f vs σ K) : o.wp P a w next Q := by
  unfold ICalls at hs
  obtain ⟨hfn, hs⟩ := hs
  have hrun := hrun hfn
  unfold Oper.wp
  rw [hrun]
  refine (hs own F w mvs hl hv r).mono ?_
  rintro e w' ⟨v, σ', own', F', mv, rfl, hk, e1, r1, hlen, hvs⟩
  exact hn _ _ _ _ _ _ hk e1 r1 hlen hvs

theorem op_call {I : FuncId → Bool} (hn : Next P o a own F w σ K next) (r : Rel own F w σ) {fo : Operand} {args : Array Operand} {argTypes : Array TypeId} (ho : o.op = .call { callee := .value fo, args, argTypes }) (hx : ∀ x, VS own F w (ev env x) (a.eval x))
    (hs : match (generalizing := false) ev env fo with
    | .fn f cap => (bif I f then ICalls P f (args.toList.map (ev env) ++ cap) σ K else frzL σ (args.toList.map (ev env) ++ cap) fun ts => PCalls P f ts (callK ((args.toList.map (ev env) ++ cap).flatMap (ids 20 σ)) σ K))
    | .t (.fn f cap) => (bif I f then ICalls P f (args.toList.map (ev env) ++ cap.map SV.t) σ K else frzL σ (args.toList.map (ev env) ++ cap.map SV.t) fun ts => PCalls P f ts (callK ((args.toList.map (ev env) ++ cap.map SV.t).flatMap (ids 20 σ)) σ K))
    | _ => False) : o.wp P a w next Q := by
  have hf := hx fo
  have hargs : ∀ (i : Nat) (x : SV) (v : Value), (args.toList.map (ev env))[i]? = some x → (args.toList.map a.eval)[i]? = some v → VS own F w x v := by
    intro i x v h1 h2
    simp only [List.getElem?_map] at h1 h2
    cases hc : args.toList[i]? with
    | none => simp [hc] at h1
    | some y => simp [hc] at h1 h2; subst h1 h2; exact hx y
  have run : ∀ (f : FuncId) (cap : Array Value), a.eval fo = .func (.func f) #[] cap → (∃ fn, P.funcs[f]? = some fn ∧ (fn.name == "runtime.NumGoroutine") = false ∧ fn.body.isNone = false) →
      (execOp a.eval o).run P w = .ok (.enter f (args.toList.map a.eval ++ cap.toList).toArray) w := by
    rintro f cap hfv ⟨fn, h1, h2, h3⟩
    have e : (args.toList.map a.eval ++ cap.toList).toArray = args.map a.eval ++ cap := by apply Array.ext'; simp
    rw [e]
    unfold execOp
    simp only [ho, resolve, hfv, Deferred.ofValue, Sem.run_bind, Sem.run_pure, Result.andThen_ok, invoke, callFunc, run_program, h1, h2, h3]
    simp
  generalize hsv : ev env fo = sf at hf hs
  have comb : ∀ {cap : List SV} {cv : Array Value}, cv.size = cap.length → (∀ (i : Nat) (x : SV) (v : Value), cap[i]? = some x → cv[i]? = some v → VS own F w x v) →
      ∀ (i : Nat) (x : SV) (v : Value), (args.toList.map (ev env) ++ cap)[i]? = some x → (args.toList.map a.eval ++ cv.toList)[i]? = some v → VS own F w x v := by
    intro cap cv hsz hcap i x v h1 h2
    rcases Nat.lt_or_ge i args.toList.length with h | h
    · rw [List.getElem?_append_left (by simpa using h)] at h1 h2
      exact hargs i x v h1 h2
    · rw [List.getElem?_append_right (by simpa using h)] at h1 h2
      simp only [List.length_map] at h1 h2
      exact hcap _ x v h1 (by simpa using h2)
  split at hs
  · rename_i f cap
    generalize hm : a.eval fo = mf at hf
    cases hf with
    | fn _ _ cv hsz hcap =>
      cases hI : I f with
      | true => rw [hI] at hs; exact icall_sound hn r (run f cv hm) (by simp [hsz]) (comb hsz hcap) hs
      | false => rw [hI] at hs; exact call_sound hn r (run f cv hm) (by simp [hsz]) (comb hsz hcap) hs
  · rename_i f cap
    generalize hm : a.eval fo = mf at hf
    cases hf with
    | t _ _ hf =>
      cases hf with
      | fn _ _ cv hsz hcap =>
        have hcs : ∀ (i : Nat) (x : SV) (v : Value), (args.toList.map (ev env) ++ cap.map SV.t)[i]? = some x → (args.toList.map a.eval ++ cv.toList)[i]? = some v → VS own F w x v := by
          refine comb (cap := cap.map SV.t) (by simpa using hsz) ?_
          intro i x v h1 h2
          simp only [List.getElem?_map] at h1
          cases hc : cap[i]? with
          | none => simp [hc] at h1
          | some y => simp [hc] at h1; subst h1; exact .t _ _ (hcap i y v hc h2)
        cases hI : I f with
        | true => rw [hI] at hs; exact icall_sound hn r (run f cv hm) (by simp [hsz]) hcs hs
        | false => rw [hI] at hs; exact call_sound hn r (run f cv hm) (by simp [hsz]) hcs hs
  · exact hs.elim

end
end Go.Proofs.Ytihebfhhnoneiaa.Am
