/- Arrays of the call's own: rows of a fixed length; arrays as values. -/
import Derived.Test.YtgladinljapmkaaXE
/- Calls; each operation's law together. -/
namespace Go.Proofs.Ytgladinljapmkaa.Am
open Go.RowKit
set_option linter.unusedVariables false
set_option linter.unusedSimpArgs false
section
variable {P : Program} {tt : Tab} {own : Nat → Own} {F : Nat → Prop} {w : World} {σ : Sto} {env : Env} {a : Act} {N : Nat} {o : Oper}
variable {K : SV → Sto → Prop} {next : Act → World → Prop} {Q : Exit → Act → World → Prop}
theorem Rel.calm {F' : Nat → Prop} {w' : World} (r : Rel own F w σ) (hb : Below w.heap.size w w') (h1 : ∀ b, F b → F' b) (h2 : ∀ b, F' b → F b ∨ w.heap.size ≤ b) (h3 : ∀ b, F' b → b < w'.heap.size) : Rel own F' w' σ ∧ Ext σ.length own F w own F' w' := by
  have hv : ∀ x v, VT F w x v → VT F' w' x v := fun x v h => h.mono h1 fun b _ hb' => hb.block b hb'
  have hs : ∀ x v, VS own F w x v → VS own F' w' x v := fun x v h => h.map' hv fun _ _ _ _ h => h
  refine ⟨⟨r.unb, r.inj, fun k b hl hF => ?_, r.fb.mono h3 h1 (fun b hb' => hb.block b (r.Fb b hb')), fun k b hl => ?_, fun k ob hk => (r.obj k ob hk).keep (fun b hl => hb.block b (r.lb k b hl)) hv hs⟩, hb.os, hb.tape, hb.output, hb.size, fun b hb' _ => hb.block b hb', h1, fun b hb' => ?_, fun _ h => .inl h, fun _ _ _ _ _ h => h⟩
  · rcases h2 b hF with h | h
    · exact r.sep k b hl h
    · have := r.lb k b hl; omega
  · have := r.lb k b hl
    have := hb.size
    omega
  · rcases h2 b hb' with h | h
    · exact .inl h
    · exact .inr (.inl h)
theorem VT.plain_any {F' : Nat → Prop} {w' : World} {x : T} {v : Value} (hf : x.plain = true) (h : VT F' w' x v) : VT F w x v := by
  cases h <;> first | exact .bool _ | exact .int _ _ | exact .str _ | exact .nsl | exact .nptr | exact .nfn | exact .nif | exact .esl _ | (simp [T.plain] at hf)
theorem VT.flat_any {F' : Nat → Prop} {w' : World} {x : T} {v : Value} (hf : x.flat = true) (h : VT F' w' x v) : VT F w x v := by
  cases h with
  | agg xs vs hs h =>
    refine .agg xs vs hs fun i x v hx hv => ?_
    exact (h i x v hx hv).plain_any ((List.all_eq_true.1 hf) x (List.mem_of_getElem? hx))
  | tup xs vs hs h =>
    refine .tup xs vs hs fun i x v hx hv => ?_
    exact (h i x v hx hv).plain_any ((List.all_eq_true.1 hf) x (List.mem_of_getElem? hx))
  | bool b => exact .bool _
  | int k n => exact .int _ _
  | str s => exact .str _
  | nsl => exact .nsl
  | esl a => exact .esl a
  | nptr => exact .nptr
  | nfn => exact .nfn
  | nif => exact .nif
  | _ => simp [T.flat, T.plain] at hf
/-! ### results of one's own -/
theorem opnL_snd {f : Nat → T → SV × Sto} (hf : ∀ n m x, (f n x).2 = (f m x).2) : ∀ (xs : List T) (n m : Nat), (opnL f n xs).2 = (opnL f m xs).2
  | [], n, m => rfl
  | x :: xs, n, m => by
    simp only [opnL]
    rw [hf n m x, opnL_snd hf xs _ (m + (f m x).2.length)]
theorem opn_snd : ∀ (d n m : Nat) (x : T), (opn d n x).2 = (opn d m x).2
  | 0, n, m, x => by cases x <;> rfl
  | d + 1, n, m, x => by
    cases x <;> first | rfl | exact opnL_snd (opn_snd d) _ n m
theorem opnL_nd {f : Nat → T → SV × Sto} (hf : ∀ n x, ∀ o ∈ (f n x).2, ∃ m, o = SObj.nd e0 m) : ∀ (xs : List T) (n : Nat), ∀ o ∈ (opnL f n xs).2, ∃ m, o = SObj.nd e0 m
  | [], n, o, h => by simp [opnL] at h
  | x :: xs, n, o, h => by
    simp only [opnL, List.mem_append] at h
    rcases h with h | h
    · exact hf _ _ o h
    · exact opnL_nd hf xs _ o h
theorem opn_nd : ∀ (d n : Nat) (x : T), ∀ o ∈ (opn d n x).2, ∃ m, o = SObj.nd e0 m
  | 0, n, x, o, h => by cases x <;> simp [opn] at h
  | d + 1, n, x, o, h => by
    cases x <;> first
      | (simp [opn] at h; done)
      | (simp [opn] at h; exact ⟨_, h⟩)
      | exact opnL_nd (opn_nd d) _ n o h
theorem opnL_VS {G : Nat → Prop} {ow ow' : Nat → Own} {w : World} {s : Nat} {f : Nat → T → SV × Sto} (hl : ∀ n m x, (f n x).2 = (f m x).2) (hf : ∀ m x v, VS ow G w (f m x).1 v → VS ow' F w (f (m + s) x).1 v) :
    ∀ (xs : List T) (m : Nat), (opnL f (m + s) xs).1.length = (opnL f m xs).1.length ∧ ∀ (i : Nat) (y : SV) (v : Value), (opnL f (m + s) xs).1[i]? = some y → ∃ y0, (opnL f m xs).1[i]? = some y0 ∧ (VS ow G w y0 v → VS ow' F w y v)
  | [], m => ⟨rfl, by simp [opnL]⟩
  | x :: xs, m => by
    have e : m + s + (f (m + s) x).2.length = m + (f m x).2.length + s := by rw [hl (m + s) m x]; omega
    obtain ⟨h1, h2⟩ := opnL_VS hl hf xs (m + (f m x).2.length)
    simp only [opnL, e]
    refine ⟨by simp [h1], fun i y v hy => ?_⟩
    cases i with
    | zero => simp at hy; subst hy; exact ⟨_, rfl, hf m x v⟩
    | succ i =>
      obtain ⟨y0, g1, g2⟩ := h2 i y v (by simpa using hy)
      exact ⟨y0, by simpa using g1, g2⟩
theorem opn_VS {G : Nat → Prop} (hG : ∀ b, G b → F b) {ow ow' : Nat → Own} {w : World} {s : Nat} (ha : ∀ k e p L, (ow k).am e p = some L → (ow' (k + s)).am e p = some L) : ∀ (d m : Nat) (x : T) (v : Value), VS ow G w (opn d m x).1 v → VS ow' F w (opn d (m + s) x).1 v := by
  intro d
  have leaf : ∀ {x : T} {v : Value}, VS ow G w (.t x) v → VS ow' F w (.t x) v := by
    intro x v h
    cases h with
    | t _ _ h => exact .t _ _ (h.sub hG)
  induction d with
  | zero => intro m x v h; cases x <;> exact leaf h
  | succ d ih =>
    intro m x v h
    cases x with
    | nst E sz xs =>
      have h : VS ow G w (.ref m 0 [] 0 xs.length) v := h
      show VS ow' F w (.ref (m + s) 0 [] 0 xs.length) v
      generalize xs.length = l at h ⊢
      cases h with
      | ref _ _ _ _ _ b o sz cap mm hh hl hm hn => exact .ref _ _ _ _ _ b o sz cap mm (ha _ _ _ _ hh) hl hm hn
      | refE _ _ _ a hh => exact .refE _ _ _ a (ha _ _ _ _ hh)
      | refZ _ _ _ _ a hh => exact absurd hh (by omega)
    | nmp kk es =>
      have h : VS ow G w (.mp m 0 []) v := h
      show VS ow' F w (.mp (m + s) 0 []) v
      cases h with
      | mp _ _ _ b o sz cap mm hh => exact .mp _ _ _ b o sz cap mm (ha _ _ _ _ hh)
    | agg xs =>
      obtain ⟨h1, h2⟩ := opnL_VS (F := F) (opn_snd d) ih xs m
      have h : VS ow G w (.agg (opnL (opn d) m xs).1) v := h
      show VS ow' F w (.agg (opnL (opn d) (m + s) xs).1) v
      cases h with
      | agg _ vs hs hh =>
        refine .agg _ _ (by rw [hs, h1]) fun i y u hy hu => ?_
        obtain ⟨y0, g1, g2⟩ := h2 i y u hy
        exact g2 (hh i y0 u g1 hu)
    | tup xs =>
      obtain ⟨h1, h2⟩ := opnL_VS (F := F) (opn_snd d) ih xs m
      have h : VS ow G w (.tup (opnL (opn d) m xs).1) v := h
      show VS ow' F w (.tup (opnL (opn d) (m + s) xs).1) v
      cases h with
      | tup _ vs hs hh =>
        refine .tup _ _ (by rw [hs, h1]) fun i y u hy hu => ?_
        obtain ⟨y0, g1, g2⟩ := h2 i y u hy
        exact g2 (hh i y0 u g1 hu)
    | _ => exact leaf h
theorem Rel.join {w' : World} {ownx : Nat → Own} {σx : Sto} {n : Nat} (r : Rel own F w' σ) (rx : Rel ownx TF w' σx) (hnd : ∀ o ∈ σx, ∃ m, o = SObj.nd e0 m) (hn : ∀ k b, (own k).bl b → b < n) (hF : ∀ b, F b → b < n) (hx : ∀ k b, (ownx k).bl b → n ≤ b) :
    Rel (fun k => if k < σ.length then own k else ownx (k - σ.length)) F w' (σ ++ σx) := by
  have hL : ∀ k b, ((fun k => if k < σ.length then own k else ownx (k - σ.length)) k).bl b → (k < σ.length ∧ (own k).bl b) ∨ (σ.length ≤ k ∧ (ownx (k - σ.length)).bl b) := by
    intro k b h
    by_cases hk : k < σ.length
    · simp only [if_pos hk] at h; exact .inl ⟨hk, h⟩
    · simp only [if_neg hk] at h; exact .inr ⟨by omega, h⟩
  refine ⟨fun k hk => ?_, fun k k' b h1 h2 => ?_, fun k b h hF' => ?_, r.fb, fun k b h => ?_, fun k o hk => ?_⟩
  · simp at hk
    simp only [if_neg (show ¬ k < σ.length by omega)]
    exact rx.unb _ (by omega)
  · rcases hL k b h1 with ⟨p1, q1⟩ | ⟨p1, q1⟩ <;> rcases hL k' b h2 with ⟨p2, q2⟩ | ⟨p2, q2⟩
    · exact r.inj _ _ b q1 q2
    · have := hn k b q1; have := hx _ b q2; omega
    · have := hn k' b q2; have := hx _ b q1; omega
    · have := rx.inj _ _ b q1 q2; omega
  · rcases hL k b h with ⟨p1, q1⟩ | ⟨p1, q1⟩
    · exact r.sep k b q1 hF'
    · have := hF b hF'; have := hx _ b q1; omega
  · rcases hL k b h with ⟨p1, q1⟩ | ⟨p1, q1⟩
    · exact r.lb k b q1
    · exact rx.lb _ b q1
  · rcases Nat.lt_or_ge k σ.length with h | h
    · rw [List.getElem?_append_left h] at hk
      simp only [if_pos h]
      refine (r.obj k o hk).keep (fun _ _ => rfl) (fun _ _ h => h) fun x v hv => hv.map' (fun _ _ h => h) fun j e p L hL' => ?_
      simp only [if_pos (r.lt_of hL')]
      exact hL'
    · rw [List.getElem?_append_right h] at hk
      simp only [if_neg (show ¬ k < σ.length by omega)]
      obtain ⟨m, rfl⟩ := hnd o (List.mem_of_getElem? hk)
      obtain ⟨h1, h2, h3, h4⟩ := rx.obj _ _ hk
      exact ⟨h1.move (fun _ => rfl) (fun _ _ => rfl) fun x v hv => hv.sub r.fb.tf, h2, h3, h4⟩
theorem call_sound (hn : Next P o a own F w σ K next) (r : Rel own F w σ) {f : FuncId} {vs : List SV} {mvs : List Value} (hrun : (∃ fn, P.funcs[f]? = some fn ∧ (fn.name == "runtime.NumGoroutine") = false ∧ fn.body.isNone = false) → (execOp a.eval o).run P w = .ok (.enter f mvs.toArray) w)
    (hl : mvs.length = vs.length) (hv : ∀ (i : Nat) (x : SV) (v : Value), vs[i]? = some x → mvs[i]? = some v → VS own F w x v)
    (hs : frzL σ vs fun ts => PCalls P f ts (callK (vs.flatMap (ids 20 σ)) σ K)) : o.wp P a w next Q := by
  obtain ⟨ts, hs, hts, hvt0⟩ := frzKs_out (n := 20) (fun hv hs => frzK_VT r 20 hv hs) hl hv hs
  unfold PCalls at hs
  obtain ⟨hfn, hs⟩ := hs
  have hrun := hrun hfn
  unfold Oper.wp
  rw [hrun]
  refine (hs (Fk own F (vs.flatMap (ids 20 σ))) w mvs (by omega) hvt0 ?_).mono ?_
  · refine r.fb.mono ?_ (fun _ h => .inl h) fun _ _ => rfl
    rintro b (h | ⟨k, _, h1⟩)
    · exact r.Fb b h
    · exact r.lb k b h1
  · rintro e w' ⟨rr, mv, F', rfl, hp, hvt, g1, g2, g3, g4⟩
    obtain ⟨rc, ec⟩ := r.calm g4 (fun _ h => h) (fun _ h => .inl h) (fun b hb => by have := r.Fb b hb; have := g4.size; omega)
    have old : RT F' w.heap.size w' rr mv = VT F' w' rr mv → (bif rr.flat then K (.t rr) σ else forceSto (kills (vs.flatMap (ids 20 σ)) σ) (K (.t rr))) → next (a.put o.dst mv) w' := by
      intro hrt hp
      rw [hrt] at hvt
      cases hfl : rr.flat with
      | true =>
        rw [hfl, cond_true] at hp
        exact hn _ _ _ _ _ _ hp ec rc (Nat.le_refl _) (.t _ _ (hvt.flat_any hfl))
      | false =>
        rw [hfl, cond_false, forceSto_iff] at hp
        obtain ⟨r1, e1⟩ := r.kill (vs.flatMap (ids 20 σ))
        obtain ⟨r2, e2⟩ := r1.calm g4 g3 g1 g2
        exact hn _ _ _ _ _ _ hp (e1.trans (e2.mono (by simp [kills_len]))) r2 (by simp [kills_len]) (.t _ _ hvt)
    unfold callK at hp
    split at hp
    · rename_i x
      rw [forceSto_iff] at hp
      obtain ⟨ownx, rx, vx, hx⟩ := hvt
      have hj := rc.join rx (opn_nd 4 0 x) r.lb r.Fb (fun k b h => (hx k b h).1)
      rw [opn_snd 4 0 σ.length x] at hj
      refine hn _ _ _ _ _ _ hp ⟨ec.os, ec.tape, ec.output, ec.sz, ec.fr, ec.Fm, ec.Fn, ?_, ?_⟩ hj (by simp) ?_
      · rintro b ⟨k, hk⟩
        by_cases h : k < σ.length
        · simp only [if_pos h] at hk; exact .inl ⟨k, hk⟩
        · simp only [if_neg h] at hk; exact .inr (hx _ b hk).1
      · intro k hk e p L hL
        simp only [if_pos hk]
        exact hL
      · have := opn_VS (F := F) rc.fb.tf (ow := ownx) (ow' := fun k => if k < σ.length then own k else ownx (k - σ.length)) (w := w') (s := σ.length) (fun k e p L hL => by
          simp only [if_neg (show ¬ k + σ.length < σ.length by omega), Nat.add_sub_cancel]
          exact hL) 4 0 x mv vx
        rwa [Nat.zero_add] at this
    · rename_i hne
      refine old ?_ (by rw [killsF_iff] at hp; exact hp)
      cases rr with
      | own x => exact absurd rfl (hne x)
      | _ => rfl
theorem icall_sound (hn : Next P o a own F w σ K next) (r : Rel own F w σ) {f : FuncId} {vs : List SV} {mvs : List Value} (hrun : (∃ fn, P.funcs[f]? = some fn ∧ (fn.name == "runtime.NumGoroutine") = false ∧ fn.body.isNone = false) → (execOp a.eval o).run P w = .ok (.enter f mvs.toArray) w)
    (hl : mvs.length = vs.length) (hv : ∀ (i : Nat) (x : SV) (v : Value), vs[i]? = some x → mvs[i]? = some v → VS own F w x v) (hs : ICalls P f vs σ K) : o.wp P a w next Q := by
  unfold ICalls at hs
  obtain ⟨hfn, hs⟩ := hs
  have hrun := hrun hfn
  unfold Oper.wp
  rw [hrun]
  refine (hs own F w mvs hl hv r).mono ?_
  rintro e w' ⟨v, σ', own', F', mv, rfl, hk, e1, r1, hlen, hvs⟩
  exact hn _ _ _ _ _ _ hk e1 r1 hlen hvs
theorem op_call {I : FuncId → Bool} (hn : Next P o a own F w σ K next) (r : Rel own F w σ) {fo : Operand} {args : Array Operand} {argTypes : Array TypeId} (ho : o.op = .call { callee := .value fo, args, argTypes }) (hx : ∀ x, VS own F w (ev env x) (a.eval x))
    (hs : match (generalizing := false) ev env fo with
    | .fn f cap => (bif I f then ICalls P f (args.toList.map (ev env) ++ cap) σ K else frzL σ (args.toList.map (ev env) ++ cap) fun ts => PCalls P f ts (callK ((args.toList.map (ev env) ++ cap).flatMap (ids 20 σ)) σ K))
    | .t (.fn f cap) => (bif I f then ICalls P f (args.toList.map (ev env) ++ cap.map SV.t) σ K else frzL σ (args.toList.map (ev env) ++ cap.map SV.t) fun ts => PCalls P f ts (callK ((args.toList.map (ev env) ++ cap.map SV.t).flatMap (ids 20 σ)) σ K))
    | _ => False) : o.wp P a w next Q := by
  have hf := hx fo
  have hargs : ∀ (i : Nat) (x : SV) (v : Value), (args.toList.map (ev env))[i]? = some x → (args.toList.map a.eval)[i]? = some v → VS own F w x v := by
    intro i x v h1 h2
    simp only [List.getElem?_map] at h1 h2
    cases hc : args.toList[i]? with
    | none => simp [hc] at h1
    | some y => simp [hc] at h1 h2; subst h1 h2; exact hx y
  have run : ∀ (f : FuncId) (cap : Array Value), a.eval fo = .func (.func f) #[] cap → (∃ fn, P.funcs[f]? = some fn ∧ (fn.name == "runtime.NumGoroutine") = false ∧ fn.body.isNone = false) →
      (execOp a.eval o).run P w = .ok (.enter f (args.toList.map a.eval ++ cap.toList).toArray) w := by
    rintro f cap hfv ⟨fn, h1, h2, h3⟩
    have e : (args.toList.map a.eval ++ cap.toList).toArray = args.map a.eval ++ cap := by apply Array.ext'; simp
    rw [e]
    unfold execOp
    simp only [ho, resolve, hfv, Deferred.ofValue, Sem.run_bind, Sem.run_pure, Result.andThen_ok, invoke, callFunc, run_program, h1, h2, h3]
    simp
  generalize hsv : ev env fo = sf at hf hs
  have comb : ∀ {cap : List SV} {cv : Array Value}, cv.size = cap.length → (∀ (i : Nat) (x : SV) (v : Value), cap[i]? = some x → cv[i]? = some v → VS own F w x v) →
      ∀ (i : Nat) (x : SV) (v : Value), (args.toList.map (ev env) ++ cap)[i]? = some x → (args.toList.map a.eval ++ cv.toList)[i]? = some v → VS own F w x v := by
    intro cap cv hsz hcap i x v h1 h2
    rcases Nat.lt_or_ge i args.toList.length with h | h
    · rw [List.getElem?_append_left (by simpa using h)] at h1 h2
      exact hargs i x v h1 h2
    · rw [List.getElem?_append_right (by simpa using h)] at h1 h2
      simp only [List.length_map] at h1 h2
      exact hcap _ x v h1 (by simpa using h2)
  split at hs
  · rename_i f cap
    generalize hm : a.eval fo = mf at hf
    cases hf with
    | fn _ _ cv hsz hcap =>
      cases hI : I f with
      | true => rw [hI] at hs; exact icall_sound hn r (run f cv hm) (by simp [hsz]) (comb hsz hcap) hs
      | false => rw [hI] at hs; exact call_sound hn r (run f cv hm) (by simp [hsz]) (comb hsz hcap) hs
  · rename_i f cap
    generalize hm : a.eval fo = mf at hf
    cases hf with
    | t _ _ hf =>
      cases hf with
      | fn _ _ cv hsz hcap =>
        have hcs : ∀ (i : Nat) (x : SV) (v : Value), (args.toList.map (ev env) ++ cap.map SV.t)[i]? = some x → (args.toList.map a.eval ++ cv.toList)[i]? = some v → VS own F w x v := by
          refine comb (cap := cap.map SV.t) (by simpa using hsz) ?_
          intro i x v h1 h2
          simp only [List.getElem?_map] at h1
          cases hc : cap[i]? with
          | none => simp [hc] at h1
          | some y => simp [hc] at h1; subst h1; exact .t _ _ (hcap i y v hc h2)
        cases hI : I f with
        | true => rw [hI] at hs; exact icall_sound hn r (run f cv hm) (by simp [hsz]) hcs hs
        | false => rw [hI] at hs; exact call_sound hn r (run f cv hm) (by simp [hsz]) hcs hs
  · exact hs.elim
end
end Go.Proofs.Ytgladinljapmkaa.Am

/- Arrays of the call's own: rows of a fixed length; arrays as values. -/
namespace Go.Proofs.Ytgladinljapmkaa.Am
open Go.RowKit
set_option linter.unusedVariables false
set_option linter.unusedSimpArgs false
section
variable {P : Program} {tt : Tab} {own : Nat → Own} {F : Nat → Prop} {w : World} {σ : Sto} {env : Env} {a : Act} {N : Nat} {o : Oper}
variable {K : SV → Sto → Prop} {next : Act → World → Prop} {Q : Exit → Act → World → Prop}
theorem leaf1_flat {xs : List T} (h : FlatA xs) {x : T} (hx : x ∈ xs) : x.cells = [x] ∧ x.nd? = none := leaf1_cells (h x hx)
theorem leaf1_one {F : Nat → Prop} {w : World} {x : T} {v : Value} (h : leaf1 x = true) (hv : VT F w x v) : v.oneCell' = true := by
  cases hv <;> first | rfl | exact nomatch h
theorem leaf1_ok {F : Nat → Prop} {w : World} {c : Path → Option Loc} {p : Path} {i j : Nat} {y : T} {v : Value} (h : leaf1 y = true) : CellOk F w c p i j y v ↔ VT F w y v := by
  cases y <;> first | exact Iff.rfl | exact nomatch h
theorem cellOk_of {F : Nat → Prop} {w : World} {c : Path → Option Loc} {p : Path} {i j : Nat} {y : T} {v : Value} (h : y.nd? = none) (hv : VT F w y v) : CellOk F w c p i j y v := by
  cases y <;> first | exact hv | exact nomatch h
theorem TreeOk.flat {c : Path → Option Loc} {E : TypeId} {sz : Nat} {xs : List T} (hf : Flat xs) (h : NodeOk F w c [] (.row E sz xs)) : TreeOk F w c (.row E sz xs) := by
  have only : ∀ p n, nodeAt (.row E sz xs) p = some n → p = [] := by
    intro p n hp
    cases p with
    | nil => rfl
    | cons q p =>
      obtain ⟨i, j⟩ := q
      obtain ⟨x, y, m, h1, h2, h3, _⟩ := nodeAt_cons.1 hp
      have := hf x (List.mem_of_getElem? h1) y (List.mem_of_getElem? h2)
      rw [noNst_nd.1 this] at h3
      exact nomatch h3
  refine ⟨fun p n hp => ?_, fun p p' n n' _ _ _ _ _ _ _ _ _ hp hp' _ _ => (only p n hp).trans (only p' n' hp').symm⟩
  obtain rfl := only p n hp
  rw [nodeAt_nil] at hp
  injection hp with hp
  subst hp
  exact h
theorem Flat.of {xs : List T} (h : FlatA xs) : Flat xs := fun x hx c hc => by
  rw [(leaf1_flat h hx).1] at hc
  simp at hc
  subst hc
  exact noNst_nd.2 (leaf1_flat h hx).2
def ownA1 (b n : Nat) : Own := ⟨fun e p => if e = 0 ∧ p = [] then some (.at b 0 1 n n) else none, fun x => x = b⟩
theorem ownA1_at {b n : Nat} : (ownA1 b n).am 0 [] = some (.at b 0 1 n n) := by unfold ownA1; simp
theorem op_arrNew (hn : Next P o a own F w σ K next) (r : Rel own F w σ) {t : TypeId} {ys : List T} {vals : Array Value} (hrun : (execOp a.eval o).run P w = .ok (.value (.pointer (some ⟨w.heap.size, 0, none⟩))) (w.alloc (.cells vals t)))
    (hs : vals.size = ys.length) (h48 : ys.length ≤ 2 ^ 48) (hpos : 0 < ys.length) (hfl : FlatA ys) (hv : ∀ (j : Nat) (x : T) (v : Value), ys[j]? = some x → vals[j]? = some v → VT F w x v) (hk : K (.pl σ.length 0 [] 0 0) (σ ++ [.row t 1 ys])) : o.wp P a w next Q := by
  have hp := r.pushE (w' := w.alloc (.cells vals t)) (ownA1 w.heap.size ys.length) (fun b hb => by
      have hb : b = w.heap.size := hb
      subst hb; simp) rfl rfl rfl (by simp) (fun i hi => Below.heap_alloc w _ i hi) (.row t 1 ys) (fun own' _ h2 _ => by
    have hc : (ownA1 w.heap.size ys.length).cur e0 [] = some (.at w.heap.size 0 1 ys.length ys.length) := ownA1_at
    refine ⟨TreeOk.flat (Flat.of hfl) (.inr ⟨w.heap.size, 0, ys.length, vals, hc, by omega, hpos, heap_alloc_new w _, by omega, Nat.le_refl _, h48, fun x hx => by rw [(leaf1_flat hfl hx).1]; rfl, fun i x j y v hx hy hv' => ?_, fun j hj => ?_⟩), ?_, rfl, ?_⟩
    · have hx' := leaf1_flat hfl (List.mem_of_getElem? hx)
      rw [hx'.1] at hy
      cases j with
      | zero =>
        simp at hy
        subst hy
        refine (leaf1_ok (hfl _ (List.mem_of_getElem? hx))).2 (h2 _ _ (hv i x v hx ?_))
        simpa using hv'
      | succ j => simp at hy
    · have hlt : j < vals.size := by omega
      have : vals.getD (0 + j) undef = vals[j] := by simp [Array.getD_eq_getD_getElem?, Array.getElem?_eq_getElem hlt]
      rw [this]
      exact leaf1_one (hfl _ (List.getElem_mem (show j < ys.length by omega))) (hv j _ _ (List.getElem?_eq_getElem (by omega)) (Array.getElem?_eq_getElem hlt))
    · rintro b ⟨p, n, o', s, cp, m, h1, h3⟩
      have h3 : (if e0 p.length = 0 ∧ p = [] then some (Loc.at w.heap.size 0 1 ys.length ys.length) else none) = some (.at b o' s cp m) := h3
      split at h3
      · injection h3 with h3; injection h3 with h3; exact h3.symm
      · exact nomatch h3
    · intro e p he
      show (if e = 0 ∧ p = [] then _ else none) = none
      rw [if_neg fun h => by have := h.1; simp [e0] at he; omega])
  refine wp_value hrun (hn _ _ _ _ _ _ hk hp.2 hp.1 (by simp) ?_)
  have := VS.pl (own := upd1 own σ.length (ownA1 w.heap.size ys.length)) (F := F) (w := w.alloc (.cells vals t)) σ.length 0 [] 0 0 w.heap.size 0 1 ys.length ys.length (by rw [upd1_same]; exact ownA1_at)
  simpa using this
theorem op_buildSliceA (ht : TabOk P tt) (hn : Next P o a own F w σ K next) (r : Rel own F w σ) {t : TypeId} {n : Nat} {parts : Array (Nat × Operand)} {E : TypeId} (ho : o.op = .buildSlice t n parts) (hti : (tt.at t).ti = .slice E)
    (hx : ∀ x, VS own F w (ev env x) (a.eval x)) (hag : (tt.at E).ti.isAgg = true) (hs : bsA tt E n env parts.toList σ K) : o.wp P a w next Q := by
  unfold bsA at hs
  split at hs
  · rename_i x hps
    split at hs
    · rename_i ys hy
      obtain ⟨hb, h1, h2, hs2⟩ := bif_elim0 hs
      clear hs
      simp only [Bool.and_eq_true] at hb
      obtain ⟨⟨⟨b1, b2⟩, b3⟩, b4⟩ := hb
      have b1 := Nat.eq_of_beq_eq_true b1
      have b3 : 1 < (tt.at E).size := Nat.le_of_ble_eq_true b3
      have b4 := Nat.le_of_ble_eq_true b4
      subst b1
      rw [forceTs_iff, forceSto_iff] at hs2
      have h1 := h1.out
      have h2 := h2.out
      have hT := ht.at E b2
      obtain ⟨i, hi, hsz, hbb, hz0, z, hz, hzs, hza, _, hzv⟩ := hT.info
      have hTt := ht.at t (by rw [hti]; rfl)
      have hxv := hx x
      rw [hy] at hxv
      generalize hm : a.eval x = mv at hxv
      cases hxv with
      | t _ _ hxv =>
        cases hxv with
        | arr _ vs hvs hv =>
          have hp := r.pushE (w' := w.alloc (.cells vs E)) (ownN (.at w.heap.size 0 (tt.at E).size 1 1) (fun b => b = w.heap.size)) (fun b hb => by
              have hb : b = w.heap.size := hb
              subst hb; simp) rfl rfl rfl (by simp) (fun i hi => Below.heap_alloc w _ i hi) (.row E (tt.at E).size [.arr ys]) (fun own' _ g2 _ => by
            have hc : (ownN (.at w.heap.size 0 (tt.at E).size 1 1) (fun b => b = w.heap.size)).cur e0 [] = some (.at w.heap.size 0 (tt.at E).size 1 1) := ownN_at
            refine ⟨TreeOk.flat (fun x hx c hc => by
                simp at hx; subst hx
                exact noNst_nd.2 (leaf1_flat h2 hc).2) (.inr ⟨w.heap.size, 0, 1, vs, hc, by omega, by omega, heap_alloc_new w _, by omega, Nat.le_refl _, by simp, fun x hx => by simp at hx; subst hx; exact h1, fun i x j y v hx hy hv' => ?_, fun j hj => ?_⟩), ?_, rfl, ?_⟩
            · cases i with
              | zero =>
                simp at hx
                subst hx
                have hy : ys[j]? = some y := hy
                refine (leaf1_ok (h2 _ (List.mem_of_getElem? hy))).2 (g2 _ _ (hv j y v hy ?_))
                simpa using hv'
              | succ i => simp at hx
            · have hj : j < (tt.at E).size := by simpa using hj
              have hlt : j < vs.size := by omega
              have : vs.getD (0 + j) undef = vs[j] := by simp [Array.getD_eq_getD_getElem?, Array.getElem?_eq_getElem hlt]
              rw [this]
              exact leaf1_one (h2 _ (List.getElem_mem (show j < ys.length by omega))) (hv j _ _ (List.getElem?_eq_getElem (by omega)) (Array.getElem?_eq_getElem hlt))
            · rintro b ⟨p, n, o', s, cp, m, q1, q3⟩
              cases p with
              | nil =>
                have q3 : (ownN (.at w.heap.size 0 (tt.at E).size 1 1) (fun b => b = w.heap.size)).am 0 [] = some (.at b o' s cp m) := q3
                rw [ownN_at] at q3
                injection q3 with q3; injection q3 with q3; exact q3.symm
              | cons q p =>
                have q3 : (ownN (.at w.heap.size 0 (tt.at E).size 1 1) (fun b => b = w.heap.size)).am (e0 (q :: p).length) (q :: p) = some (.at b o' s cp m) := q3
                rw [ownN_no (.inr (by simp))] at q3
                exact nomatch q3
            · intro e p he
              exact ownN_no (.inl (by simp [e0] at he; omega)))
          refine wp_value (w' := w.alloc (.cells vs E)) (mv := .slice (some ⟨w.heap.size, 0, none⟩) 1 1) ?_ (hn _ _ _ _ _ _ hs2 hp.2 hp.1 (by simp) ?_)
          · have hpp : parts = #[(0, x)] := by
              apply Array.ext'; exact hps
            subst hpp
            obtain ⟨vs', hfill, hvs'⟩ := fill_seq (sz := (tt.at E).size) [Value.agg vs] 0 ((Array.range (1 * (tt.at E).size)).map (z.cells[· % z.cells.size]!)) (by rw [Array.size_map, Array.size_range, List.length_singleton]) (fun v hv => by simp at hv; subst hv; show vs.size = _; omega)
            have hve : vs' = vs := by
              apply Array.ext'
              rw [hvs']; simp [Value.cells]
            subst hve
            unfold execOp
            simp only [ho, Instr.buildSlice, Sem.run_bind, run_underlying (und_slice hTt hti), Result.andThen_ok, run_size hT w]
            rw [if_neg (by omega), if_neg (by omega)]
            simp only [zeroValue, typeInfo, Sem.run_bind, run_program, Result.andThen_ok, hi, Sem.run_pure, hz]
            have e1 : ((#[(0, x)] : Array (Nat × Operand)).map fun (i, x) => (i, a.eval x)).toList = ([Value.agg vs'].zipIdx 0).map fun p => (p.2, p.1) := by simp [hm]
            rw [e1, hfill]
            simp [newRow]
          · have := VS.ref (own := upd1 own σ.length (ownN (.at w.heap.size 0 (tt.at E).size 1 1) (fun b => b = w.heap.size))) (F := F) (w := w.alloc (.cells vs E)) σ.length 0 [] 0 1 w.heap.size 0 (tt.at E).size 1 1 (by rw [upd1_same]; exact ownN_at) (Nat.le_refl _) (Nat.le_refl _) (by omega)
            simpa using this
    · exact hs.elim
  · exact hs.elim
theorem op_allocArr (ht : TabOk P tt) (hn : Next P o a own F w σ K next) (r : Rel own F w σ) {t : TypeId} (ho : o.op = .alloc t) (hg : (tt.at t).ti.good = true) (hz1 : (tt.at t).zero.all leaf1 = true)
    (hk : arrNew tt t (tt.at t).zero σ K) : o.wp P a w next Q := by
  unfold arrNew at hk
  obtain ⟨hp, hk⟩ := bif_elim0 hk
  rw [Bool.and_eq_true] at hp
  obtain ⟨hp, h48⟩ := hp
  have h48 := Nat.le_of_ble_eq_true h48
  rw [forceSto_iff] at hk
  obtain ⟨i, hi, hs, hb, hz0, z, hz, hzs, _, _, hzv⟩ := (ht.at t hg).info
  refine op_arrNew hn r (vals := z.cells) ?_ (by simp [hzs, hz0]) (by omega) (by have := Nat.le_of_ble_eq_true hp; omega) (fun x hx => List.all_eq_true.1 hz1 x hx) (fun j x v hx hv => (hzv F w j x v hx hv).1) hk
  unfold execOp
  simp [ho, Instr.alloc, zeroValue, typeInfo, hi, hz, newVar, newRow]
theorem op_boxArr (hn : Next P o a own F w σ K next) (r : Rel own F w σ) {t : TypeId} {x : Operand} (ho : o.op = .box t x) {ys : List T} (hv : VS own F w (.t (.arr ys)) (a.eval x)) (hl : ys.length = (tt.at t).size) (hfl : FlatA ys)
    (hk : arrNew tt t ys σ K) : o.wp P a w next Q := by
  unfold arrNew at hk
  obtain ⟨hp, hk⟩ := bif_elim0 hk
  rw [Bool.and_eq_true] at hp
  obtain ⟨hp, h48⟩ := hp
  have h48 := Nat.le_of_ble_eq_true h48
  rw [forceSto_iff] at hk
  generalize hm : a.eval x = mv at hv
  cases hv with
  | t _ _ hv =>
    cases hv with
    | arr _ vs hs h =>
      refine op_arrNew hn r (vals := vs) ?_ hs (by omega) (by have := Nat.le_of_ble_eq_true hp; omega) hfl h hk
      unfold execOp
      simp [ho, Instr.box, newVar, newRow, hm, Value.cells]
theorem op_buildArr (ht : TabOk P tt) (hn : Next P o a own F w σ K next) (r : Rel own F w σ) {t : TypeId} {parts : Array (Nat × Operand)} {m : Nat} {e : TypeId} (ho : o.op = .build t parts) (hti : (tt.at t).ti = .arr m e) (hp : parts.toList.isEmpty = true) (he : (tt.at e).ti.good = true)
    (hk : K (.t (.arr (tt.at t).zero)) σ) : o.wp P a w next Q := by
  have hg : (tt.at t).ti.good = true := by rw [hti]; rfl
  obtain ⟨i, hi, hs, hb, hz0, z, hz, hzs, _, _, hzv⟩ := (ht.at t hg).info
  have hpe : parts = #[] := by
    apply Array.ext'
    simpa using hp
  subst hpe
  have hu := und_arr (ht.at t hg) hti
  obtain ⟨ie, hie, _⟩ := (ht.at e he).info
  refine op_pure hn r (mv := .agg z.cells) ?_ hk (.t _ _ (.arr _ _ (by rw [hzs, hz0]) fun j x v hx hv => (hzv F w j x v hx hv).1))
  unfold execOp
  simp [ho, Instr.build, zeroValue, typeInfo, hi, hz, run_underlying hu, Instr.fill, sizeOf, hie]
theorem partA_ok {env : Env} {rho : Operand → Value} (hx : ∀ x, VS own F w (ev env x) (rho x)) : ∀ (ps : List (Nat × Operand)) (cs cs' : List T) (vs : Array Value), partA env ps cs = some cs' → vs.size = cs.length → (∀ (i : Nat) (x : T) (v : Value), cs[i]? = some x → vs[i]? = some v → VT F w x v) →
    ∃ vs' : Array Value, Instr.fill (fun i => some (i * 1, 1)) vs (ps.map fun p => (p.1, rho p.2)) = some vs' ∧ vs'.size = cs'.length ∧ ∀ (i : Nat) (x : T) (v : Value), cs'[i]? = some x → vs'[i]? = some v → VT F w x v
  | [], cs, cs', vs, h, hs, hv => by
    injection h with h; subst h
    exact ⟨vs, rfl, hs, hv⟩
  | (i, x) :: ps, cs, cs', vs, h, hs, hv => by
    unfold partA at h
    have hxv := hx x
    generalize hu : rho x = u at hxv
    split at h
    · rename_i y hy
      rw [hy] at hxv
      cases hb : (leaf1 y && Nat.blt i cs.length) with
      | false => rw [hb] at h; exact nomatch h
      | true =>
        rw [hb, cond_true] at h
        rw [Bool.and_eq_true] at hb
        have hi : i < cs.length := Nat.le_of_ble_eq_true hb.2
        have hyv : VT F w y u := by cases hxv with | t _ _ h => exact h
        have h1 : u.cells = #[u] := by
          have hl := hb.1
          cases hyv <;> first | rfl | (simp [leaf1] at hl)
        obtain ⟨vs', g1, g2, g3⟩ := partA_ok hx ps (cs.set i y) cs' (vs.setIfInBounds i u) h (by simp [hs]) (fun j z v hz hv' => by
          rw [List.getElem?_set] at hz
          rw [Array.getElem?_setIfInBounds] at hv'
          by_cases e : i = j
          · subst e
            rw [if_pos rfl] at hz hv'
            rw [if_pos hi] at hz
            rw [if_pos (by omega)] at hv'
            injection hz with hz; injection hv' with hv'
            subst hz hv'; exact hyv
          · rw [if_neg e] at hz hv'
            exact hv j z v hz hv')
        refine ⟨vs', ?_, g2, g3⟩
        simp only [List.map_cons, Instr.fill, hu]
        rw [h1, if_neg (by simp; omega)]
        have : (#[u].zipIdx.foldl (fun cs (x : Value × Nat) => cs.setIfInBounds (i * 1 + x.2) x.1) vs) = vs.setIfInBounds i u := by simp
        rw [this]
        exact g1
    · exact nomatch h
theorem op_buildArr2 (ht : TabOk P tt) (hn : Next P o a own F w σ K next) (r : Rel own F w σ) {t : TypeId} {parts : Array (Nat × Operand)} {m : Nat} {e : TypeId} (ho : o.op = .build t parts) (hti : (tt.at t).ti = .arr m e) (hx : ∀ x, VS own F w (ev env x) (a.eval x)) (he : (tt.at e).ti.good = true) (hag : (tt.at e).ti.isAgg = false)
    {cs : List T} (hp : partA env parts.toList (tt.at t).zero = some cs) (hk : K (.t (.arr cs)) σ) : o.wp P a w next Q := by
  have hg : (tt.at t).ti.good = true := by rw [hti]; rfl
  obtain ⟨i, hi, hs, hb, hz0, z, hz, hzs, _, _, hzv⟩ := (ht.at t hg).info
  have hu := und_arr (ht.at t hg) hti
  have hsz : (tt.at e).size = 1 := (ht.at e he).one hag
  obtain ⟨vs', g1, g2, g3⟩ := partA_ok hx parts.toList _ cs z.cells hp (by rw [hzs, hz0]) fun j x v hx hv => (hzv F w j x v hx hv).1
  refine op_pure hn r (mv := .agg vs') ?_ hk (.t _ _ (.arr _ _ g2 g3))
  have e2 : (parts.map fun (i, x) => (i, a.eval x)).toList = parts.toList.map fun p => (p.1, a.eval p.2) := by simp
  have e3 : (sizeOf e).run P w = .ok 1 w := by rw [run_size (ht.at e he) w, hsz]
  unfold execOp
  simp only [ho, Instr.build, zeroValue, typeInfo, Sem.run_bind, run_program, Result.andThen_ok, hi, Sem.run_pure, hz, run_underlying hu, e2, e3, g1]
theorem loadArr_out (ht : TabOk P tt) (r : Rel own F w σ) {t : TypeId} {sv : SV} {mv : Value} (hv : VS own F w sv mv) (hagg : (tt.at t).ti.isAgg = true) {K : SV → Prop} (hs : loadArr tt t sv σ K) :
    ∃ (ad : Addr) (x : SV) (u : Value), mv = .pointer (some ad) ∧ (loadVar t ad).run P w = .ok u w ∧ K x ∧ VS own F w x u := by
  unfold loadArr at hs
  cases hg : (tt.at t).ti.good with
  | false => rw [hg] at hs; exact hs.elim
  | true =>
    have hT := ht.at t hg
    rw [hg, cond_true] at hs
    have mk : ∀ (ys : List T) (b off : Nat) (f : Nat → Value), ys.length = (tt.at t).size → (∀ j, j < ys.length → w.cell? ⟨b, off + j, none⟩ = some (f j)) → (∀ (j : Nat) (y : T), ys[j]? = some y → VT F w y (f j)) → mv = .pointer (some ⟨b, off, none⟩) → K (.t (.arr ys)) →
        ∃ (ad : Addr) (x : SV) (u : Value), mv = .pointer (some ad) ∧ (loadVar t ad).run P w = .ok u w ∧ K x ∧ VS own F w x u := by
      intro ys b off f hl hc hy hm hk
      refine ⟨_, _, _, hm, run_loadVar hT w b off f fun j hj => hc j (by omega), hk, ?_⟩
      rw [if_pos hagg]
      refine .t _ _ (.arr _ _ (by simp [hl]) fun j x v hx hv => ?_)
      simp only [List.getElem?_toArray, List.getElem?_map] at hv
      have hj : j < (tt.at t).size := by rw [← hl]; exact (List.getElem?_eq_some_iff.1 hx).1
      rw [List.getElem?_range hj] at hv
      simp at hv
      subst hv
      exact hy j x hx
    split at hs
    · rename_i cs
      obtain ⟨h1, h2⟩ := hs
      cases hv with
      | t _ _ hv =>
        cases hv with
        | ptr _ b off vals hF hcell h => exact mk cs b off vals h1.out hcell h rfl h2
    · rename_i k ee p i off
      split at hs
      · rename_i ep E sz xs hk
        obtain ⟨hTr, hB, hep, hfr⟩ := nd_obj r hk
        cases hsz : Nat.beq sz 1 with
        | true =>
          rw [hsz, cond_true] at hs
          obtain ⟨h1, h2, h3, h4⟩ := hs
          have h1 := h1.out
          have h2 := h2.out
          have h3 := h3.out
          obtain ⟨h5, h6⟩ := h4.out
          have h5 := h5.out
          have hsz := Nat.eq_of_beq_eq_true hsz
          subst hsz h1 h2
          rcases hTr.1 [] _ nodeAt_nil with ⟨rfl, ad, ha⟩ | ⟨b, o, cap, vals, g1, g3, g4, g5, g6, g7, g8, g9, g10, g11⟩
          · exact (by
              cases hv with
              | pl _ _ _ _ _ b' o' sz' cap' m' h =>
                have h' : (own k).cur ep [] = some (.at b' o' sz' cap' m') := h
                rw [ha] at h'; exact nomatch h')
          · have hm := pl_out g1 hv
            have hlen : ((xs.drop i).take (tt.at t).size).length = (tt.at t).size := by simp; omega
            refine mk _ b (o + i) (fun j => vals.getD (o + i + j) undef) hlen (fun j hj => cell_of g5 (by rw [hlen] at hj; omega)) (fun j y hy => ?_) (by simpa using hm) h6
            have hjl := (List.getElem?_eq_some_iff.1 hy).1
            rw [hlen] at hjl
            rw [List.getElem?_take, if_pos hjl, List.getElem?_drop] at hy
            have hlf : leaf1 y = true := h5 y (List.mem_of_getElem? (show ((xs.drop i).take (tt.at t).size)[j]? = some y by rw [List.getElem?_take, if_pos hjl, List.getElem?_drop]; exact hy))
            have hlt : o + i + j < vals.size := by omega
            have := g10 (i + j) y 0 y (vals.getD (o + i + j) undef) hy (by rw [(leaf1_cells hlf).1]; rfl) (by rw [show o + (i + j) * 1 + 0 = o + i + j by omega]; simp [Array.getD_eq_getD_getElem?, Array.getElem?_eq_getElem hlt])
            exact (leaf1_ok hlf).1 this
        | false =>
          rw [hsz, cond_false] at hs
          obtain ⟨h1, h2, h0, h3, h4⟩ := hs
          have h1 := h1.out
          have h2 := h2.out
          have h0 := h0.out
          have h3 := h3.out
          obtain ⟨h5, h6⟩ := h4.out (x := xs[i]) (by rw [nth_eq]; exact List.getElem?_eq_getElem h3)
          have h5 := h5.out
          subst h1 h2
          rcases hTr.1 [] _ nodeAt_nil with ⟨rfl, ad, ha⟩ | ⟨b, o, cap, vals, g1, g3, g4, g5, g6, g7, g8, g9, g10, g11⟩
          · simp at h3
          · have hm := pl_out g1 hv
            have hcl := g9 xs[i] (List.getElem_mem h3)
            have hle : (i + 1) * sz ≤ cap * sz := Nat.mul_le_mul_right _ (by omega)
            rw [Nat.add_mul, Nat.one_mul] at hle
            refine mk _ b (o + i * sz) (fun j => vals.getD (o + i * sz + j) undef) (by omega) (fun j hj => cell_of g5 (by omega)) (fun j y hy => ?_) (by simpa using hm) h6
            have hjl := (List.getElem?_eq_some_iff.1 hy).1
            have hlf : leaf1 y = true := h5 y (List.mem_of_getElem? hy)
            have hlt : o + i * sz + j < vals.size := by omega
            have := g10 i xs[i] j y (vals.getD (o + i * sz + j) undef) (List.getElem?_eq_getElem h3) hy (by simp [Array.getD_eq_getD_getElem?, Array.getElem?_eq_getElem hlt])
            exact (leaf1_ok hlf).1 this
      · exact hs.elim
    · exact hs.elim
theorem op_loadArr (ht : TabOk P tt) (hn : Next P o a own F w σ K next) (r : Rel own F w σ) {t : TypeId} {x : Operand} (ho : o.op = .load t x) (hagg : (tt.at t).ti.isAgg = true) {sv : SV} (hv : VS own F w sv (a.eval x))
    (hs : loadArr tt t sv σ fun v => K v σ) : o.wp P a w next Q := by
  obtain ⟨ad, y, u, h1, h2, h3, h4⟩ := loadArr_out (P := P) ht r hv hagg hs
  refine op_pure hn r ?_ h3 h4
  unfold execOp
  simp only [ho, h1, Instr.loadAt, Instr.sureAddr, Sem.run_bind, Sem.run_pure, Result.andThen_ok, h2]
theorem op_indexArr (ht : TabOk P tt) (hn : Next P o a own F w σ K next) (r : Rel own F w σ) {t : TypeId} {x i : Operand} {m : Nat} {e : TypeId} {xs : List T} {k : IntKind} {n : Int} (ho : o.op = .index t x i) (hti : (tt.at t).ti = .arr m e) (hx : VS own F w (.t (.arr xs)) (a.eval x)) (hi : VS own F w (.t (.int k n)) (a.eval i))
    (hg : (tt.at e).ti.good = true) (hagg : (tt.at e).ti.isAgg = false) (h0 : 0 ≤ n ∧ n < m) (hl : xs.length = m) (hs : exE xs n.toNat fun x => K (.t x) σ) : o.wp P a w next Q := by
  have hT := ht.at e hg
  have hu := und_arr (ht.at t (by rw [hti]; rfl)) hti
  have hs1 := hT.one hagg
  have hi := intV hi
  generalize hm : a.eval x = mv at hx
  cases hx with
  | t _ _ hx =>
    cases hx with
    | arr _ vs hvs h =>
      have hlt : n.toNat < xs.length := by omega
      have hlt' : n.toNat < vs.size := by omega
      have hx := hs.out (x := xs[n.toNat]) (by rw [nth_eq]; exact List.getElem?_eq_getElem hlt)
      refine op_pure hn r (mv := vs[n.toNat]) ?_ hx (.t _ _ (h _ _ _ (List.getElem?_eq_getElem hlt) (Array.getElem?_eq_getElem hlt')))
      unfold execOp
      simp only [ho, hm, hi, Instr.index, asIntOf, Sem.run_bind, Sem.run_pure, Result.andThen_ok, run_underlying hu, if_pos h0, run_size hT, hs1, Nat.mul_one, part, run_isAgg hT, hagg]
      simp [Array.getElem?_eq_getElem hlt']
theorem Rel.storeFlat (r : Rel own F w σ) {k : Nat} {ep : Nat → Nat} {E : TypeId} {sz : Nat} {xs xs' : List T} (hk : σ[k]? = some (.nd ep (.row E sz xs))) (hf : Flat xs') (hl : xs'.length = xs.length) (hz : ∀ x ∈ xs', x.cells.length = sz) {b o cap : Nat} {vals : Array Value}
    (g1 : (own k).cur ep [] = some (.at b o sz cap xs.length)) (g3 : 0 < sz) (g4 : 0 < cap) (g5 : w.heap[b]? = some (.cells vals E (0, 0))) (g6 : o + cap * sz ≤ vals.size) (g7 : xs.length ≤ cap) (g8 : xs.length ≤ 2 ^ 48) (vals' : Array Value) (hvs : vals'.size = vals.size)
    (hc : ∀ (i : Nat) (x : T) (j : Nat) (y : T) (v : Value), xs'[i]? = some x → x.cells[j]? = some y → vals'[o + i * sz + j]? = some v → VT F w y v ∧ y.nd? = none ∧ v.oneCell' = true) :
    Rel own F (w.setRow b vals') (σ.set k (.nd ep (.row E sz xs'))) ∧ Ext σ.length own F w own F (w.setRow b vals') := by
  obtain ⟨hT, hB, hep, hfr⟩ := r.obj k _ hk
  have hbk : (own k).bl b := hB b ⟨[], _, _, _, _, _, nodeAt_nil, g1⟩
  have hwr := r.turn (k := k) (own k) (fun _ h => h) (fun _ _ _ h => h) (Rel.lt_obj hk) (w' := w.setRow b vals') rfl rfl rfl (by simp) (fun i hi => heap_setRow_other w b _ i fun e => hi (e ▸ hbk)) (.nd ep (.row E sz xs')) (fun hv _ => by
    refine ⟨TreeOk.flat hf (.inr ⟨b, o, cap, vals', by rw [hl]; exact g1, g3, g4, setRow_heap w b vals _ E (0, 0) g5, by omega, by omega, by omega, hz, fun i x j y v h1 h2 h3 => ?_, fun j hj => ?_⟩), ?_, hep, hfr⟩
    · obtain ⟨q1, q2, _⟩ := hc i x j y v h1 h2 h3
      exact cellOk_of q2 (hv _ _ q1)
    · have hi : j / sz < xs'.length := Nat.div_lt_of_lt_mul (by rw [Nat.mul_comm]; exact hj)
      have hmd : j % sz < sz := Nat.mod_lt _ g3
      have hle : xs.length * sz ≤ cap * sz := Nat.mul_le_mul_right _ g7
      have hlt : o + j < vals'.size := by rw [hl] at hj; omega
      have hcl := hz xs'[j / sz] (List.getElem_mem hi)
      have hjj : j / sz * sz + j % sz = j := by rw [Nat.mul_comm]; exact Nat.div_add_mod j sz
      obtain ⟨q1, _, q2⟩ := hc (j / sz) xs'[j / sz] (j % sz) (xs'[j / sz].cells[j % sz]'(by omega)) vals'[o + j] (List.getElem?_eq_getElem hi) (List.getElem?_eq_getElem (by omega)) (by rw [Nat.add_assoc, hjj]; exact Array.getElem?_eq_getElem hlt)
      have : vals'.getD (o + j) undef = vals'[o + j] := by simp [Array.getD_eq_getD_getElem?, Array.getElem?_eq_getElem hlt]
      rw [this]
      exact q2
    · rintro b' ⟨p, n, o', s, cp, m, h1, h3⟩
      have hp : p = [] := by
        cases p with
        | nil => rfl
        | cons q p =>
          obtain ⟨i, j⟩ := q
          obtain ⟨x, y, m, h1, h2, h3, _⟩ := nodeAt_cons.1 h1
          have := hf x (List.mem_of_getElem? h1) y (List.mem_of_getElem? h2)
          rw [noNst_nd.1 this] at h3
          exact nomatch h3
      subst hp
      exact hB b' ⟨[], _, _, _, _, _, nodeAt_nil, h3⟩)
  rw [upd1_id] at hwr
  exact hwr
theorem op_storeArr (ht : TabOk P tt) (hn : Next P o a own F w σ K next) (r : Rel own F w σ) {t : TypeId} {x y : Operand} (ho : o.op = .store t x y) {sx sy : SV} (hx : VS own F w sx (a.eval x)) (hy : VS own F w sy (a.eval y))
    (hs : storeArr tt t sx sy σ fun σ' => K .any σ') : o.wp P a w next Q := by
  unfold storeArr at hs
  have hs0 := bif_elim0 hs
  clear hs
  obtain ⟨hgp, hs⟩ := hs0
  simp only [Bool.and_eq_true] at hgp
  have hT := ht.at t hgp.1
  have hpos := Nat.le_of_ble_eq_true hgp.2
  split at hs
  · rename_i k ee p i off ys
    split at hs
    · rename_i ep E sz xs hk
      have hk0 := hk
      obtain ⟨hTr, hB, hep, hfr⟩ := nd_obj r hk
      rw [nth_eq] at hk
      generalize hmy : a.eval y = my at hy
      cases hy with
      | t _ _ hy =>
        cases hy with
        | arr _ us hus huy =>
          have run : ∀ (b off : Nat) (cur : Array Value) (E : TypeId), a.eval x = .pointer (some ⟨b, off, none⟩) → w.heap[b]? = some (.cells cur E (0, 0)) → us.size = (tt.at t).size → (∀ u ∈ us.toList, u.oneCell' = true) → off + (tt.at t).size ≤ cur.size →
              (execOp a.eval o).run P w = .ok .skip (w.setRow b (cur.toList.take off ++ us.toList ++ cur.toList.drop (off + (tt.at t).size)).toArray) := by
            intro b off cur E hx hb hsz hone hfit
            unfold execOp
            simp only [ho, hx, hmy, Instr.storeAt, Instr.sureAddr, Sem.run_bind, Sem.run_pure, Result.andThen_ok]
            have := run_storeVar_at (P := P) hT w b off (.agg us) cur E hb hsz hone hfit
            simp only [Value.cells] at this
            simp only [this, Result.andThen_ok]
          have one : FlatA ys → ∀ u ∈ us.toList, u.oneCell' = true := by
            intro hfl u hu
            obtain ⟨j, hj⟩ := List.getElem?_of_mem hu
            have hj' : us[j]? = some u := by simpa using hj
            have hlt : j < ys.length := by rw [← hus]; exact (Array.getElem?_eq_some_iff.1 hj').1
            exact leaf1_one (hfl _ (List.getElem_mem hlt)) (huy j _ _ (List.getElem?_eq_getElem hlt) hj')
          have place : ∀ (hee : ee = ep 0), 0 < xs.length → ∃ (b o cap : Nat) (vals : Array Value), (own k).cur ep [] = some (.at b o sz cap xs.length) ∧ 0 < sz ∧ 0 < cap ∧ w.heap[b]? = some (.cells vals E (0, 0)) ∧ o + cap * sz ≤ vals.size ∧ xs.length ≤ cap ∧ xs.length ≤ 2 ^ 48 ∧
              (∀ x ∈ xs, x.cells.length = sz) ∧ (∀ (i : Nat) (x : T) (j : Nat) (y : T) (v : Value), xs[i]? = some x → x.cells[j]? = some y → vals[o + i * sz + j]? = some v → CellOk F w ((own k).cur ep) [] i j y v) ∧ a.eval x = .pointer (some ⟨b, o + i * sz + off, none⟩) := by
            intro hee hx0
            rcases hTr.1 [] _ nodeAt_nil with ⟨rfl, ad, ha⟩ | ⟨b, o, cap, vals, g1, g3, g4, g5, g6, g7, g8, g9, g10, g11⟩
            · simp at hx0
            · subst hee
              exact ⟨b, o, cap, vals, g1, g3, g4, g5, g6, g7, g8, g9, g10, pl_out g1 hx⟩
          cases hsz : Nat.beq sz 1 with
          | true =>
            rw [hsz, cond_true] at hs
            obtain ⟨h1, h2, h3, h4, h5, h6, h7⟩ := hs
            have h1 := h1.out
            have h2 := h2.out
            have h3 := h3.out
            have h4 := h4.out
            have h5 := h5.out
            have h6 := h6.out
            rw [forceSto_iff] at h7
            have hsz := Nat.eq_of_beq_eq_true hsz
            obtain ⟨b, o1, cap, vals, g1, g3, g4, g5, g6, g7, g8, g9, g10, hm⟩ := place h1 (by omega)
            subst hsz h2 h3
            simp only [Nat.zero_mul, Nat.add_zero] at hm
            have hfit : o1 + (tt.at t).size ≤ vals.size := by omega
            have hrun := run b o1 vals E hm g5 (by omega) (one h6) hfit
            have hsp : ∀ j, (vals.toList.take o1 ++ us.toList ++ vals.toList.drop (o1 + (tt.at t).size))[j]? = if o1 ≤ j ∧ j < o1 + (tt.at t).size then us[j - o1]? else vals[j]? := by
              intro j
              have h := splice_get vals.toList us.toList o1 j (by simp; omega)
              rw [show us.toList.length = (tt.at t).size by simp; omega] at h
              rw [h]; simp
            have hst := r.storeFlat (xs' := ys) hk (Flat.of h6) (by omega) (fun z hz => by rw [(leaf1_flat h6 hz).1]; rfl) g1 g3 g4 g5 g6 g7 g8 (vals.toList.take o1 ++ us.toList ++ vals.toList.drop (o1 + (tt.at t).size)).toArray (by simp; omega) (fun q z j u v hz hu hv => by
              have hzl := leaf1_flat h6 (List.mem_of_getElem? hz)
              rw [hzl.1] at hu
              cases j with
              | zero =>
                simp at hu
                subst hu
                have hql := (List.getElem?_eq_some_iff.1 hz).1
                rw [List.getElem?_toArray, hsp, if_pos (by omega)] at hv
                rw [show o1 + q * 1 + 0 - o1 = q by omega] at hv
                exact ⟨huy q z v hz hv, (leaf1_flat h6 (List.mem_of_getElem? hz)).2, leaf1_one (h6 z (List.mem_of_getElem? hz)) (huy q z v hz hv)⟩
              | succ j => simp at hu)
            exact wp_skip' hrun (hn _ _ _ _ _ _ h7 hst.2 hst.1 (by simp) (.t _ _ (.any _)))
          | false =>
            rw [hsz, cond_false] at hs
            obtain ⟨h1, h2, h3, h4, h5, h6, h6', h7⟩ := hs
            have h1 := h1.out
            have h2 := h2.out
            have h3 := h3.out
            have h4 := h4.out
            have h5 := h5.out
            have h6 := h6.out
            have h6' := h6'.out
            rw [forceSto_iff] at h7
            obtain ⟨b, o1, cap, vals, g1, g3, g4, g5, g6, g7, g8, g9, g10, hm⟩ := place h1 (by omega)
            subst h2
            rw [Nat.add_zero] at hm
            have hle : (i + 1) * sz ≤ cap * sz := Nat.mul_le_mul_right _ (by omega)
            rw [Nat.add_mul, Nat.one_mul] at hle
            have hfit : o1 + i * sz + (tt.at t).size ≤ vals.size := by omega
            have hrun := run b (o1 + i * sz) vals E hm g5 (by omega) (one h6) hfit
            have hsp : ∀ j, (vals.toList.take (o1 + i * sz) ++ us.toList ++ vals.toList.drop (o1 + i * sz + (tt.at t).size))[j]? = if o1 + i * sz ≤ j ∧ j < o1 + i * sz + (tt.at t).size then us[j - (o1 + i * sz)]? else vals[j]? := by
              intro j
              have h := splice_get vals.toList us.toList (o1 + i * sz) j (by simp; omega)
              rw [show us.toList.length = (tt.at t).size by simp; omega] at h
              rw [h]; simp
            have hyf : Flat [T.arr ys] := fun z hz c hc => by
              simp at hz
              subst hz
              exact noNst_nd.2 (leaf1_flat h6 hc).2
            have hst := r.storeFlat (xs' := xs.set i (.arr ys)) hk (fun z hz c hc => by
                rcases List.mem_or_eq_of_mem_set hz with h | h
                · exact h6' z h c hc
                · exact hyf z (by simp [h]) c hc) (by simp) (fun z hz => by
                rcases List.mem_or_eq_of_mem_set hz with h | h
                · exact g9 z h
                · rw [h]; show ys.length = sz; omega) g1 g3 g4 g5 g6 g7 g8 (vals.toList.take (o1 + i * sz) ++ us.toList ++ vals.toList.drop (o1 + i * sz + (tt.at t).size)).toArray (by simp; omega) (fun q z j u v hz hu hv => by
              rw [List.getElem?_toArray, hsp] at hv
              rw [List.getElem?_set] at hz
              by_cases hqi : i = q
              · subst hqi
                rw [if_pos rfl, if_pos h4] at hz
                injection hz with hz
                subst hz
                have hju : j < ys.length := (List.getElem?_eq_some_iff.1 (show ys[j]? = some u from hu)).1
                rw [if_pos (by omega), show o1 + i * sz + j - (o1 + i * sz) = j by omega] at hv
                exact ⟨huy j u v hu hv, (leaf1_flat h6 (List.mem_of_getElem? (show ys[j]? = some u from hu))).2, leaf1_one (h6 u (List.mem_of_getElem? (show ys[j]? = some u from hu))) (huy j u v hu hv)⟩
              · rw [if_neg hqi] at hz
                have hj : j < sz := by
                  have := (List.getElem?_eq_some_iff.1 hu).1
                  rw [g9 z (List.mem_of_getElem? hz)] at this; exact this
                have hne : ¬ (o1 + i * sz ≤ o1 + q * sz + j ∧ o1 + q * sz + j < o1 + i * sz + (tt.at t).size) := by
                  rintro ⟨q1, q2⟩
                  rcases Nat.lt_or_gt_of_ne hqi with h | h
                  · have := Nat.mul_le_mul_right sz (show i + 1 ≤ q by omega)
                    rw [Nat.add_mul, Nat.one_mul] at this; omega
                  · have := Nat.mul_le_mul_right sz (show q + 1 ≤ i by omega)
                    rw [Nat.add_mul, Nat.one_mul] at this; omega
                rw [if_neg hne] at hv
                have hco := g10 q z j u v hz hu hv
                have hnn : u.nd? = none := noNst_nd.1 (h6' z (List.mem_of_getElem? hz) u (List.mem_of_getElem? hu))
                have hv1 : VT F w u v := by cases u <;> first | exact hco | exact nomatch hnn
                have hone : v.oneCell' = true := by
                  have hql := (List.getElem?_eq_some_iff.1 hz).1
                  rcases hTr.1 [] _ nodeAt_nil with ⟨rfl, ad, ha⟩ | ⟨b2, o2, cap2, vals2, q1, _, _, q5, _, _, _, _, _, q11⟩
                  · simp at h4
                  · rw [q1] at g1
                    injection g1 with g1
                    injection g1 with e1 e2 e3 e4 e5
                    subst e1 e2
                    rw [q5] at g5
                    injection g5 with g5
                    injection g5 with g5
                    subst g5
                    have hjl : q * sz + j < xs.length * sz := by
                      have := Nat.mul_le_mul_right sz (show q + 1 ≤ xs.length by omega)
                      rw [Nat.add_mul, Nat.one_mul] at this; omega
                    have := q11 (q * sz + j) hjl
                    rw [← Nat.add_assoc] at this
                    simpa [Array.getD_eq_getD_getElem?, hv] using this
                exact ⟨hv1, hnn, hone⟩)
            exact wp_skip' hrun (hn _ _ _ _ _ _ h7 hst.2 hst.1 (by simp) (.t _ _ (.any _)))
    · exact hs.elim
  · exact hs.elim
end
end Go.Proofs.Ytgladinljapmkaa.Am
