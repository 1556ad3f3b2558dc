/- All operations, regions, code. -/
import Derived.Test.YtihebfhhnoneiaaAmCall
import Derived.Deep.LoopGhost
namespace Go.Proofs.Ytihebfhhnoneiaa.Am
open Go.RowKit
set_option linter.unusedVariables false
set_option linter.unusedSimpArgs false

section
variable {P : Program} {tt : Tab} {own : Nat → Own} {F : Nat → Prop} {w : World} {σ : Sto} {env : Env} {a : Act} {N : Nat} {o : Oper}
variable {K : SV → Sto → Prop} {next : Act → World → Prop} {Q : Exit → Act → World → Prop}

theorem bif_elim {b : Bool} {p : Prop} (h : bif b then p else False) : b = true ∧ p := by
  cases b
  · exact h.elim
  · exact ⟨rfl, h⟩

theorem step_sound (ht : TabOk P tt) (hn : Next P o a own F w σ K next) (r : Rel own F w σ) (hx : ∀ x, VS own F w (ev env x) (a.eval x)) {op : Op} {ty : TypeId} (ho : o.op = op) (hs : step (PCalls P) tt op ty env σ K) : o.wp P a w next Q := by
  unfold step at hs
  split at hs
  · exact op_move hn r (.inl ho) (hx _) hs
  · exact op_move hn r (.inr ho) (hx _) hs
  · rename_i c x y
    have hc := hx c
    split at hs
    · rename_i cb hcb
      rw [hcb] at hc
      exact op_pick hn r ho hc (hx x) (hx y) hs
    · exact hs.elim
  · rename_i t
    cases hg : (tt.at t).ti.good with
    | false => rw [hg] at hs; exact hs.elim
    | true =>
      rw [hg, cond_true, forceSto_iff] at hs
      exact op_alloc ht hn r ho hg hs
  · rename_i t x
    cases hl : (ev env x).cells.all SV.leaf with
    | false => rw [hl] at hs; exact hs.elim
    | true =>
      rw [hl, cond_true, forceSto_iff] at hs
      exact op_box hn r ho (hx x) hl hs
  · exact op_load ht hn r ho (hx _) hs
  · exact op_store ht hn r ho (hx _) (hx _) hs
  · rename_i s x f
    cases hf : hasField tt s f with
    | false => rw [hf] at hs; exact hs.elim
    | true =>
      rw [hf, cond_true] at hs
      exact op_fieldAddr ht hn r ho (hx x) hf hs
  · exact op_nilCheck hn r ho (hx _) hs
  · rename_i s x f
    cases hf : hasField tt s f with
    | false => rw [hf] at hs; exact hs.elim
    | true =>
      rw [hf, cond_true] at hs
      exact op_field ht hn r ho (hx x) hf hs
  · exact op_indexAddr ht hn r ho (hx _) (hx _) hs
  · rename_i op t x y yt
    have h1 := norm_VS (hx x)
    have h2 := norm_VS (hx y)
    split at hs
    · rename_i tx ty e1 e2
      rw [e1] at h1
      rw [e2] at h2
      cases h1 with
      | t _ _ h1 =>
        cases h2 with
        | t _ _ h2 => exact op_binOp ht hn r ho h1 h2 hs
    · exact hs.elim
  · rename_i t x
    have h1 := hx x
    split at hs
    · rename_i b e; rw [e] at h1; exact op_not hn r ho h1 hs
    · exact hs.elim
  · rename_i t x
    have h1 := hx x
    split at hs
    · rename_i k n e; rw [e] at h1; exact op_neg hn r ho h1 hs
    · exact hs.elim
  · rename_i s d x
    have h1 := hx x
    split at hs
    · rename_i k0 k j n e1 e2 e3
      rw [e3] at h1
      exact op_convert ht hn r ho e2 (und_int (ht.at s (by rw [e1]; rfl)) e1) h1 hs
    · exact hs.elim
  · rename_i t parts
    split at hs
    · rename_i fs hti
      obtain ⟨hb, hs⟩ := bif_elim hs
      simp only [Bool.and_eq_true] at hb
      exact op_build ht hn r ho hti hx hb.1 hb.2 hs
    · exact hs.elim
  · rename_i t n parts
    split at hs
    · rename_i E hti
      rcases Bool.eq_false_or_eq_true ((tt.at E).ti.good && Nat.beq n 0 && parts.toList.isEmpty) with hb0 | hb0
      · rw [hb0] at hs
        simp only [Bool.and_eq_true] at hb0
        have hn0 := Nat.eq_of_beq_eq_true hb0.1.2
        subst hn0
        exact op_buildSlice0 ht hn r ho hti hb0.1.1 hb0.2 hs
      rw [hb0] at hs
      simp only [cond_false] at hs
      obtain ⟨hb, hs⟩ := bif_elim hs
      simp only [Bool.and_eq_true] at hb
      obtain ⟨⟨⟨⟨⟨b1, b2⟩, b3⟩, b4⟩, b5⟩, b6⟩ := hb
      split at hs
      · rename_i ts hfr
        rw [forceSto_iff] at hs
        exact op_buildSlice ht hn r ho hti hx b1 (by simpa [Nat.blt_eq] using b2) (by simpa [Nat.blt_eq] using b3) (Nat.le_of_ble_eq_true b4) b5 b6 hfr hs
      · exact hs.elim
    · exact hs.elim
  · rename_i f first cap
    obtain ⟨hb, hs⟩ := bif_elim hs
    exact op_makeFunc hn r ho hb hx hs
  · rename_i t
    split at hs
    · split at hs
      · rw [forceSto_iff] at hs
        exact op_makeMap hn r ho hs
      · exact hs.elim
    · exact hs.elim
  · rename_i t m k
    have h1 := hx m
    have h2 := hx k
    split at hs
    · rename_i kt e m' kk n e1 e2 e3
      rw [e2] at h1
      rw [e3] at h2
      split at hs
      · rename_i kk' kk2 es e4 e5
        obtain ⟨hb, hs⟩ := bif_elim hs
        exact op_lookup ht hn r ho e1 e4 h1 h2 e5 hb hs.out
      · exact hs.elim
    · exact hs.elim
  · rename_i t m k v
    have h1 := hx m
    have h2 := hx k
    have h3 := hx v
    split at hs
    · rename_i kt e m' kk n v' e1 e2 e3 e4
      rw [e2] at h1
      rw [e3] at h2
      rw [e4] at h3
      split at hs
      · rename_i kk' kk2 es e5 e6
        obtain ⟨hb, hs⟩ := bif_elim hs
        rw [forceSto_iff] at hs
        exact op_mapUpdate ht hn r ho e1 e5 h1 h2 h3 e6 hb hs
      · exact hs.elim
    · exact hs.elim
  · rename_i x i
    exact op_extract hn r ho (hx x) hs
  · rename_i args argTypes
    split at hs
    · rename_i t x e1 e2
      have ea : argTypes = #[t] := by apply Array.ext'; exact e1
      have eb : args = #[x] := by apply Array.ext'; exact e2
      subst ea eb
      exact op_len ht hn r ho (hx x) hs
    · exact hs.elim
  · rename_i args argTypes
    split at hs
    · rename_i t u x y e1 e2
      have ea : argTypes = #[t, u] := by apply Array.ext'; exact e1
      have eb : args = #[x, y] := by apply Array.ext'; exact e2
      subst ea eb
      split at hs
      · rename_i E E' e3 e4
        exact op_append ht hn r ho e3 e4 (hx x) (hx y) hs
      · exact hs.elim
    · exact hs.elim
  · rename_i fo args argTypes
    exact op_call hn r ho hx hs
  · exact hs.elim

/-- Variables that are not written. -/
def Same (M : List Nat) (a a' : Act) : Prop := ∀ j, j ∉ M → a'.tmps.getD j undef = a.tmps.getD j undef
theorem Same.refl (M : List Nat) (a : Act) : Same M a a := fun _ _ => rfl
theorem Same.trans {M : List Nat} {a b c : Act} (h : Same M a b) (k : Same M b c) : Same M a c := fun j hj => (k j hj).trans (h j hj)
theorem Same.mono {M M' : List Nat} {a b : Act} (h : Same M a b) (hm : ∀ j, j ∈ M → j ∈ M') : Same M' a b := fun j hj => h j fun h' => hj (hm j h')
theorem Same.put {M : List Nat} (a : Act) {d : Option Nat} (hd : ∀ i, d = some i → i ∈ M) (v : Value) : Same M a (a.put d v) := by
  intro j hj
  cases d with
  | none => rfl
  | some d =>
    have hne : d ≠ j := fun e => hj (e ▸ hd d rfl)
    simp [Act.put, Array.getD_eq_getD_getElem?, Array.getElem?_setIfInBounds, hne]

/-- What goes on behind a piece of code. -/
def Goes (N : Nat) (M : List Nat) (a : Act) (own : Nat → Own) (F : Nat → Prop) (w : World) (σ : Sto) (K : Env → Sto → Prop) (next : Act → World → Prop) : Prop :=
  ∀ (env' : Env) (σ' : Sto) (own' : Nat → Own) (F' : Nat → Prop) (w' : World) (a' : Act), K env' σ' → Ext σ.length own F w own' F' w' → Rel own' F' w' σ' → σ.length ≤ σ'.length → ER N own' F' w' env' a' → a'.defers = a.defers → Same M a a' → next a' w'

theorem Goes.later {own' : Nat → Own} {F' : Nat → Prop} {w' : World} {σ' : Sto} {K : Env → Sto → Prop} {M : List Nat} {a a' : Act} (h : Goes N M a own F w σ K next) (e : Ext σ.length own F w own' F' w') (hl : σ.length ≤ σ'.length) (hd : a'.defers = a.defers) (hs : Same M a a') : Goes N M a' own' F' w' σ' K next :=
  fun env2 σ2 own2 F2 w2 a2 hk e2 r2 l2 he hd2 hs2 => h env2 σ2 own2 F2 w2 a2 hk (e.trans (e2.mono hl)) r2 (Nat.le_trans hl l2) he (hd2.trans hd) (hs.trans hs2)

theorem ER.refine (he : ER N own F w env a) {t : Nat} {v : SV} (h : VS own F w v (a.tmps.getD t undef)) : ER N own F w (Am.upd env t v) a := by
  refine ⟨he.1, fun j => ?_⟩
  unfold Am.upd
  cases hb : Nat.beq j t with
  | true => rw [Nat.eq_of_beq_eq_true hb]; exact h
  | false => exact he.2 j

theorem strip_out {gc : Bool} : ∀ {xs : List Operand} {env : Env} {K : Env → Prop}, strip gc xs env K → ∃ env', K env' ∧ (gc = true → ∀ {own : Nat → Own} {F : Nat → Prop} {w : World} {a : Act}, ER N own F w env a → ER N own F w env' a)
  | [], env, K, h => ⟨env, h, fun _ _ _ _ _ h => h⟩
  | .tmp t :: xs, env, K, h => by
    unfold strip at h
    split at h
    · rename_i c v hv
      obtain ⟨h1, h2⟩ := h
      have h1 := h1.out
      obtain ⟨env', h3, h4⟩ := strip_out h2
      refine ⟨env', h3, fun hg own F w a he => h4 hg (he.refine ?_)⟩
      have := he.2 t
      rw [hv] at this
      cases this with
      | g _ _ _ _ h => exact h (h1 hg)
    · exact strip_out h
  | .const _ :: xs, env, K, h => strip_out (xs := xs) h
  | .global _ :: xs, env, K, h => strip_out (xs := xs) h
  | .func _ :: xs, env, K, h => strip_out (xs := xs) h

theorem yielded_at {ops : Array Oper} {j d : Nat} (hd : dstOf ops.toList j = some d) (tmps : Array Value) : yielded ops tmps j = match tmps[d]? with | some (.bool b) => some b | _ => none := by
  unfold dstOf at hd
  split at hd
  · rename_i o ho
    rw [nth_eq, Array.getElem?_toList] at ho
    simp only [yielded, ho, Option.bind_some, hd]
    cases hq : tmps[d]? with
    | none => rfl
    | some v => cases v <;> rfl
  · simp at hd

theorem gcond_wanted (he : ER N own F w env a) {ops : Array Oper} {j d : Nat} {want gc : Bool} (hg : o.guard = some (j, want)) (hd : dstOf ops.toList j = some d) (hc : gcond want (env d) = some gc) : Region.wanted o (yielded ops a.tmps) = gc := by
  have hv := he.2 d
  have hget : ∀ b, a.tmps.getD d undef = .bool b → a.tmps[d]? = some (.bool b) := by
    intro b hb
    rw [Array.getD_eq_getD_getElem?] at hb
    cases hq : a.tmps[d]? with
    | none => rw [hq] at hb; simp [undef] at hb
    | some v => rw [hq] at hb; simp at hb; rw [hb]
  have hnone : a.tmps.getD d undef = undef → (match a.tmps[d]? with | some (.bool b) => some b | _ => none) = none := by
    intro hb
    rw [Array.getD_eq_getD_getElem?] at hb
    cases hq : a.tmps[d]? with
    | none => rfl
    | some v => rw [hq] at hb; simp at hb; rw [hb]; rfl
  simp only [Region.wanted, hg]
  rw [yielded_at hd]
  unfold gcond at hc
  split at hc
  · rename_i c e
    rw [e] at hv
    rw [hget c (boolV hv)]
    cases want <;> cases c <;> simp at hc <;> subst hc <;> rfl
  · rename_i c e' e
    rw [e] at hv
    cases hv with
    | g _ _ _ h0 h =>
      cases c with
      | true =>
        rw [hget e' (boolV (h rfl))]
        cases want <;> cases e' <;> simp at hc <;> subst hc <;> rfl
      | false =>
        rw [hnone (h0 rfl)]
        cases want <;> simp at hc <;> subst hc <;> rfl
  · simp at hc

theorem rop1_sound (ht : TabOk P tt) {ops : Array Oper} {i : Nat} {rest : List Nat} {K : Env → Sto → Prop} (ho : ops[i]? = some o) (hd : ∀ d, o.dst = some d → d < N) (hs : rop1 (PCalls P) tt ops.toList o K env σ) (r : Rel own F w σ) (he : ER N own F w env a)
    {M : List Nat} (hM : ∀ d, o.dst = some d → d ∈ M) (hk : Goes N M a own F w σ K (wpOps P ops Q rest)) : wpOps P ops Q (i :: rest) a w := by
  simp only [wpOps, ho]
  unfold rop1 at hs
  split at hs
  · rename_i hg
    have hw : Region.wanted o (yielded ops a.tmps) = true := by simp [Region.wanted, hg]
    rw [if_pos hw]
    left
    refine step_sound ht ?_ r (fun x => he.ev x) rfl hs
    intro v σ' own' F' w' mv hkk e r' hl hv
    rw [force_iff] at hkk
    exact hk _ _ _ _ _ _ hkk e r' hl ((he.ext r e).put hd hv) (by cases o.dst <;> rfl) (Same.put a hM _)
  · rename_i j want hg
    split at hs
    · exact hs.elim
    · rename_i d hdj
      split at hs
      · rename_i gc hgc
        have hw := gcond_wanted (o := o) he hg hdj hgc
        obtain ⟨env', hx, hst⟩ := strip_out (N := N) hs
        obtain ⟨v, σ2, h1, hdd, h2⟩ := hx.out
        cases hgv : gc with
        | true =>
          rw [hgv] at hw h1 h2 hst
          rw [if_pos hw]
          left
          have he' := hst rfl he
          refine step_sound ht ?_ r (fun x => he'.ev x) rfl (h1 rfl)
          intro v' σ' own' F' w' mv hkk e r' hl hv
          rw [force_iff] at hkk
          obtain ⟨rfl, rfl⟩ := hkk
          exact hk _ _ _ _ _ _ h2 e r' hl ((he.ext r e).put hd (.g _ _ _ (fun h => nomatch h) fun _ => hv)) (by cases o.dst <;> rfl) (Same.put a hM _)
        | false =>
          rw [hgv] at hw h2
          rw [if_neg (by rw [hw]; simp)]
          obtain ⟨L, rfl⟩ := hdd.out
          obtain ⟨r0, e0⟩ := r.kill L
          exact hk _ _ _ _ _ _ h2 e0 r0 (Nat.le_of_eq (kills_len L σ).symm) ((he.ext r e0).put hd (.g _ _ _ (fun _ => rfl) fun h => nomatch h)) (by cases o.dst <;> rfl) (Same.put a hM _)
      · exact hs.elim

theorem rops_sound (ht : TabOk P tt) {ops : Array Oper} {K : Env → Sto → Prop} {M : List Nat} (hM : ∀ o ∈ ops.toList, ∀ d, o.dst = some d → d ∈ M) (hd : ∀ o ∈ ops.toList, ∀ d, o.dst = some d → d < N) : ∀ (l : List Oper) (i : Nat), ops.toList.drop i = l →
    ∀ {own : Nat → Own} {F : Nat → Prop} {w : World} {σ : Sto} {env : Env} {a : Act}, rops (PCalls P) tt ops.toList l K env σ → Rel own F w σ → ER N own F w env a → Goes N M a own F w σ K (Q .normal) → wpOps P ops Q (List.range' i l.length) a w
  | [], i, _, own, F, w, σ, env, a, hs, r, he, hk => hk env σ own F w a hs (Ext.refl _ _ _ _) r (Nat.le_refl _) he rfl (Same.refl _ _)
  | o :: l, i, hl, own, F, w, σ, env, a, hs, r, he, hk => by
    have hio : ops[i]? = some o := by
      have : (ops.toList.drop i)[0]? = some o := by rw [hl]; rfl
      simpa using this
    have hdl : ops.toList.drop (i + 1) = l := by
      have : (ops.toList.drop i).drop 1 = l := by rw [hl]; rfl
      rwa [List.drop_drop] at this
    simp only [List.length_cons, List.range'_succ]
    have hmem : o ∈ ops.toList := by rw [Array.mem_toList_iff]; exact Array.mem_of_getElem? hio
    refine rop1_sound ht hio (hd o hmem) hs r he (hM o hmem) ?_
    intro env' σ' own' F' w' a' hkk e r' hlen he' hdf hsm
    exact rops_sound ht hM hd l (i + 1) hdl hkk r' he' (hk.later e hlen hdf hsm)

/-! ### the state at a loop's head -/
theorem rowIds_nodup : ∀ (vs : List SV) (acc : List Nat), acc.Nodup → (rowIds vs acc).Nodup
  | [], acc, h => by unfold rowIds; unfold List.Nodup at *; rw [List.pairwise_reverse]; exact h.imp fun h => h.symm
  | v :: vs, acc, h => by
    cases v with
    | osl k off len =>
      unfold rowIds
      cases hc : acc.contains k with
      | true => exact rowIds_nodup vs acc h
      | false =>
        refine rowIds_nodup vs (k :: acc) (List.nodup_cons.2 ⟨by simpa using hc, h⟩)
    | _ => exact rowIds_nodup vs acc h

theorem idx_some : ∀ {sel : List Nat} {n k j : Nat}, idx n k sel = some j → n ≤ j ∧ sel[j - n]? = some k
  | [], n, k, j, h => by simp [idx] at h
  | i :: sel, n, k, j, h => by
    unfold idx at h
    cases hb : Nat.beq k i with
    | true =>
      rw [hb] at h
      simp at h
      subst h
      exact ⟨Nat.le_refl _, by simp [Nat.eq_of_beq_eq_true hb]⟩
    | false =>
      rw [hb] at h
      obtain ⟨h1, h2⟩ := idx_some (sel := sel) h
      refine ⟨by omega, ?_⟩
      rw [show j - n = (j - (n + 1)) + 1 by omega]
      simpa using h2
theorem idx_none : ∀ {sel : List Nat} {n k : Nat}, idx n k sel = none → k ∉ sel
  | [], n, k, _ => by simp
  | i :: sel, n, k, h => by
    unfold idx at h
    cases hb : Nat.beq k i with
    | true => rw [hb] at h; simp at h
    | false =>
      rw [hb] at h
      have := idx_none (sel := sel) h
      have hne : k ≠ i := by intro e; subst e; simp at hb
      simp [hne, this]

/-- Rows numbered anew. -/
def ownR (own : Nat → Own) (n : Nat) (sel : List Nat) : Nat → Own := fun i => if i < n then (if i ∈ sel then (match own i with | .unborn => .unborn | _ => .dead) else own i) else match sel[i - n]? with
  | some k => own k
  | none => .unborn

theorem ownR_live {n : Nat} {sel : List Nat} {i b c s m : Nat} (h : ownR own n sel i = .live b c s m) : ∃ k, own k = .live b c s m ∧ ((i < n ∧ k = i ∧ i ∉ sel) ∨ (n ≤ i ∧ sel[i - n]? = some k)) := by
  unfold ownR at h
  split at h
  · split at h
    · cases ho : own i <;> simp [ho] at h
    · exact ⟨i, h, .inl ⟨by assumption, rfl, by assumption⟩⟩
  · split at h
    · rename_i k hk
      exact ⟨k, h, .inr ⟨by omega, hk⟩⟩
    · exact nomatch h

theorem remap_VS {n : Nat} {sel : List Nat} {x : SV} {v : Value} (hv : VS own F w x v) : VS (ownR own n sel) F w (remap n sel x) v := by
  have hat : ∀ {k j : Nat}, idx n k sel = some j → ownR own n sel j = own k := by
    intro k j h
    obtain ⟨h1, h2⟩ := idx_some h
    unfold ownR
    rw [if_neg (by omega), h2]
  have hst : ∀ {k : Nat}, idx n k sel = none → k < n → ownR own n sel k = own k := by
    intro k h h1
    unfold ownR
    rw [if_pos h1, if_neg (idx_none h)]
  cases x with
  | t x => cases hv with | t _ _ hv => exact .t _ _ hv
  | agg xs => exact .t _ _ (.any _)
  | tup xs => exact .t _ _ (.any _)
  | fn f xs => exact .t _ _ (.any _)
  | g c x => exact .t _ _ (.any _)
  | osl k off len =>
    simp only [remap]
    cases hid : idx n k sel with
    | none => exact .t _ _ (.any _)
    | some j =>
      simp only
      cases hv with
      | osl _ _ _ b c s m h hl hm hnn => exact .osl _ _ _ b c s m ((hat hid).trans h) hl hm hnn
      | oslN _ ad h => exact .oslN _ ad ((hat hid).trans h)
      | oslD _ _ _ ad nn c h => exact .oslD _ _ _ ad nn c ((hat hid).trans h)
  | loc k i off =>
    simp only [remap]
    cases hid : idx n k sel with
    | some j =>
      simp only
      cases hv with
      | loc _ _ _ b c s m h => exact .loc _ _ _ b c s m ((hat hid).trans h)
      | locD _ _ _ p h => exact .locD _ _ _ p ((hat hid).trans h)
    | none =>
      simp only
      cases hlt : Nat.blt k n with
      | false => exact .t _ _ (.any _)
      | true =>
        have hlt : k < n := by simpa [Nat.blt_eq] using hlt
        simp only [cond_true]
        cases hv with
        | loc _ _ _ b c s m h => exact .loc _ _ _ b c s m ((hst hid hlt).trans h)
        | locD _ _ _ p h => exact .locD _ _ _ p ((hst hid hlt).trans h)
  | map k =>
    simp only [remap]
    cases hlt : Nat.blt k n with
    | false => exact .t _ _ (.any _)
    | true =>
      have hlt : k < n := by simpa [Nat.blt_eq] using hlt
      simp only [cond_true]
      by_cases hks : k ∈ sel
      · have hd : ownR own n sel k = .dead ∨ own k = .unborn := by
          unfold ownR
          rw [if_pos hlt, if_pos hks]
          cases own k <;> simp
        cases hv with
        | map _ b c s m h => exact .mapD _ _ (hd.resolve_right (by rw [h]; simp))
        | mapD _ p h => exact .mapD _ _ (hd.resolve_right (by rw [h]; simp))
      · have ho : ownR own n sel k = own k := by unfold ownR; rw [if_pos hlt, if_neg hks]
        cases hv with
        | map _ b c s m h => exact .map _ b c s m (ho.trans h)
        | mapD _ p h => exact .mapD _ _ (ho.trans h)

theorem headSt_sound {n : Nat} {vals : List SV} {K : List SV → Sto → Prop} (r : Rel own F w σ) (hn : n ≤ σ.length) (hs : headSt n vals σ K) :
    ∃ (vals' : List SV) (σ' : Sto) (own' : Nat → Own), K vals' σ' ∧ Rel own' F w σ' ∧ n ≤ σ'.length ∧ vals'.length = vals.length ∧ (∀ (i : Nat) (x y : SV) (v : Value), vals[i]? = some x → vals'[i]? = some y → VS own F w x v → VS own' F w y v) ∧
      (∀ k, k < n → own' k = own k ∨ own' k = .dead) ∧ ∀ b, Lv own' b → Lv own b := by
  unfold headSt at hs
  simp only at hs
  obtain ⟨hb, hs⟩ := bif_elim hs
  rw [forceSto_iff, forceSs_iff] at hs
  have hrows := hb
  have hnd := rowIds_nodup (vals ++ (σ.take n).flatMap SObj.cellsV) [] List.nodup_nil
  generalize hsel : rowIds (vals ++ (σ.take n).flatMap SObj.cellsV) [] = sel at *
  have hrow : ∀ k, k ∈ sel → ∃ E sz ts, σ[k]? = some (.row E sz ts) := by
    intro k hk
    have := (List.all_eq_true.1 hrows) k hk
    split at this
    · rename_i E sz ts hq
      rw [nth_eq] at hq
      exact ⟨E, sz, ts, hq⟩
    · exact absurd this (by simp)
  have hLv : ∀ b, Lv (ownR own n sel) b → Lv own b := by
    rintro b ⟨i, c, s, m, h1, h2⟩
    obtain ⟨k, hk, _⟩ := ownR_live h1
    exact ⟨k, c, s, m, hk, h2⟩
  have hlen : (((kills sel σ).take n).map (SObj.remap n sel) ++ sel.map fun k => (nth σ k).getD .dead).length = n + sel.length := by simp [kills_len]; omega
  refine ⟨_, _, ownR own n sel, hs, ⟨?_, ?_, fun b hb => r.sep b (hLv b hb), r.Fb, fun b hb => r.lb b (hLv b hb), ?_⟩, by rw [hlen]; omega, by simp, ?_, ?_, hLv⟩
  · intro k hk
    rw [hlen] at hk
    unfold ownR
    rw [if_neg (by omega), List.getElem?_eq_none (by omega)]
  · intro i j b c s m c' s' m' h1 h2 h3 h4
    obtain ⟨k, hk, hk'⟩ := ownR_live h1
    obtain ⟨l, hl, hl'⟩ := ownR_live h3
    have := r.inj k l b c s m c' s' m' hk h2 hl h4
    subst this
    rcases hk' with ⟨q1, q2, q3⟩ | ⟨q1, q2⟩ <;> rcases hl' with ⟨p1, p2, p3⟩ | ⟨p1, p2⟩
    · omega
    · exact absurd (List.mem_of_getElem? p2) (by rw [q2]; exact q3)
    · exact absurd (List.mem_of_getElem? q2) (by rw [p2]; exact p3)
    · have g1 := (List.getElem?_eq_some_iff.1 q2).1
      have g2 := (List.getElem?_eq_some_iff.1 p2).1
      have : i - n = j - n := (List.getElem?_inj g1 hnd).1 (q2.trans p2.symm)
      omega
  · intro i ob hi
    rcases Nat.lt_or_ge i n with h | h
    · rw [List.getElem?_append_left (by simp [kills_len]; omega), List.getElem?_map, List.getElem?_take, if_pos h, kills_get] at hi
      by_cases him : i ∈ sel
      · simp [him, show i < σ.length by omega] at hi
        rw [← hi]; trivial
      · simp only [him, if_false] at hi
        cases hq : σ[i]? with
        | none => rw [hq] at hi; simp at hi
        | some o0 =>
          rw [hq] at hi
          simp at hi
          subst hi
          have ho : ownR own n sel i = own i := by unfold ownR; rw [if_pos h, if_neg him]
          rw [ho]
          have := r.obj i o0 hq
          cases o0 with
          | dead => trivial
          | row E sz ts => exact this
          | map kk es => exact this
          | var E cs =>
            obtain ⟨b, vals2, q1, q2, q3, q4⟩ := this
            refine ⟨b, vals2, by simpa using q1, q2, by simpa using q3, fun j x v hx hv => ?_⟩
            rw [List.getElem?_map] at hx
            cases hc : cs[j]? with
            | none => rw [hc] at hx; simp at hx
            | some x0 =>
              rw [hc] at hx
              simp at hx
              subst hx
              exact remap_VS (q4 j x0 v hc hv)
    · rw [List.getElem?_append_right (by simp [kills_len]; omega)] at hi
      have e : i - (((kills sel σ).take n).map (SObj.remap n sel)).length = i - n := by simp [kills_len]; omega
      rw [e, List.getElem?_map] at hi
      cases hk : sel[i - n]? with
      | none => simp [hk] at hi
      | some k =>
        obtain ⟨E, sz, ts, hq⟩ := hrow k (List.mem_of_getElem? hk)
        simp [hk, nth_eq, hq] at hi
        subst hi
        have ho : ownR own n sel i = own k := by unfold ownR; rw [if_neg (by omega), hk]
        rw [ho]
        exact r.obj k _ hq
  · intro i x y v hx hy hv
    rw [List.getElem?_map, hx] at hy
    simp at hy
    subst hy
    exact remap_VS hv
  · intro k hk
    unfold ownR
    rw [if_pos hk]
    split
    · cases ho : own k
      · exact .inl rfl
      · exact .inr rfl
      · exact .inr rfl
    · exact .inl rfl

theorem thawV_sound : ∀ (V : List (Nat × Nat × TypeId × Nat)) {own : Nat → Own} {σ : Sto} {K : Sto → Prop}, Rel own F w σ → thawV V σ K →
    ∃ (σ' : Sto) (own' : Nat → Own), K σ' ∧ Rel own' F w σ' ∧ Ext σ.length own F w own' F w ∧ σ.length ≤ σ'.length := by
  intro V
  induction V with
  | nil => intro own σ K r h; exact ⟨σ, own, h, r, Ext.refl _ _ _ _, Nat.le_refl _⟩
  | cons x V ih =>
    intro own σ K r h
    obtain ⟨k, j, E, sz⟩ := x
    unfold thawV at h
    split at h
    · rename_i E' cs hk
      rw [nth_eq] at hk
      split at h
      · rename_i hj
        rw [nth_eq] at hj
        have hkl : k < σ.length := (List.getElem?_eq_some_iff.1 hk).1
        obtain ⟨r1, e1⟩ := r.push 0 0 0 0 (.inr rfl) (fun h => by omega) (w' := w) rfl rfl rfl (Nat.le_refl _) (fun _ _ => rfl) (.row E sz []) (fun own' h1 h2 e => .inl ⟨rfl, rfl⟩)
        have hk1 : (σ ++ [SObj.row E sz []])[k]? = some (.var E' cs) := by rw [List.getElem?_append_left hkl]; exact hk
        obtain ⟨b, vals, q1, q2, q3, q4⟩ := r1.obj k _ hk1
        have ho : ownAt own σ.length (.live 0 0 0 0) σ.length = .live 0 0 0 0 := by unfold ownAt; rw [if_pos rfl]
        obtain ⟨r2, e2⟩ := r1.write k b 1 cs.length 1 q1 (by omega) (w' := w) rfl rfl rfl rfl (fun _ _ => rfl) (.var E' (cs.set j (.osl σ.length 0 0))) (fun _ => by
          refine ⟨b, vals, by simp, q2, by simpa using q3, fun i x v hx hv => ?_⟩
          rw [List.getElem?_set] at hx
          split at hx
          · rename_i hji
            subst hji
            split at hx
            · simp at hx
              subst hx
              have := q4 j (.t .nsl) v hj hv
              cases this with
              | t _ _ h => cases h; exact .oslN _ _ ho
            · simp at hx
          · exact q4 i x v hx hv)
        have hset : (σ ++ [SObj.row E sz []]).set k (.var E' (cs.set j (.osl σ.length 0 0))) = σ.set k (.var E' (cs.set j (.osl σ.length 0 0))) ++ [.row E sz []] := by rw [List.set_append_left _ _ hkl]
        rw [hset] at r2
        obtain ⟨σ', own', h1, h2, h3, h4⟩ := ih r2 h
        simp only [List.length_append, List.length_set, List.length_singleton] at h3 h4 e2
        exact ⟨σ', own', h1, h2, (e1.trans (e2.mono (by omega))).trans (h3.mono (by omega)), by omega⟩
      · exact ih r h
    · exact ih r h

theorem thaw_sound (ht : TabOk P tt) {N0 : List (Nat × TypeId × Nat)} : ∀ (S : List Nat) (vals : List SV) {own : Nat → Own} {σ : Sto} {K : List SV → Sto → Prop}, Rel own F w σ → thaw N0 S vals σ K →
    ∃ (vals' : List SV) (σ' : Sto) (own' : Nat → Own), K vals' σ' ∧ Rel own' F w σ' ∧ Ext σ.length own F w own' F w ∧ σ.length ≤ σ'.length ∧ vals'.length = vals.length ∧ (∀ (i : Nat) (x y : SV) (v : Value), vals[i]? = some x → vals'[i]? = some y → VS own F w x v → VS own' F w y v) := by
  intro S
  induction S with
  | nil =>
    intro vals own σ K r h
    exact ⟨vals, σ, own, by unfold thaw at h; exact h, r, Ext.refl _ _ _ _, Nat.le_refl _, rfl, fun i x y v hx hy hv => by rw [hx] at hy; injection hy with hy; rw [← hy]; exact hv⟩
  | cons s S ih =>
    intro vals own σ K r h
    cases vals with
    | nil =>
      exact ⟨[], σ, own, by unfold thaw at h; exact h, r, Ext.refl _ _ _ _, Nat.le_refl _, rfl, fun i x y v hx => by simp at hx⟩
    | cons v0 vals =>
      unfold thaw at h
      split at h
      · rename_i E sz _
        have hp := r.push 0 0 0 0 (.inr rfl) (fun h => by omega) (w' := w) rfl rfl rfl (Nat.le_refl _) (fun _ _ => rfl) (.row E sz []) (fun own' h1 h2 e => .inl ⟨rfl, rfl⟩)
        obtain ⟨vals', σ', own', h1, h2, h3, h4, h5, h6⟩ := ih vals hp.1 h
        simp only [List.length_append, List.length_singleton] at h3 h4
        refine ⟨_, σ', own', h1, h2, hp.2.trans (h3.mono (by omega)), by omega, by simp [h5], fun i x y v hx hy hv => ?_⟩
        cases i with
        | zero =>
          simp at hx hy
          subst hx hy
          cases hv with
          | t _ _ hv =>
            cases hv
            have ho : ownAt own σ.length (.live 0 0 0 0) σ.length = .live 0 0 0 0 := by unfold ownAt; rw [if_pos rfl]
            exact (VS.oslN (F := F) (w := w) σ.length none ho).ext hp.1 (by simpa using h3)
        | succ i => exact h6 i x y v (by simpa using hx) (by simpa using hy) (hv.ext r hp.2)
      · obtain ⟨vals', σ', own', h1, h2, h3, h4, h5, h6⟩ := ih vals r h
        refine ⟨_, σ', own', h1, h2, h3, h4, by simp [h5], fun i x y v hx hy hv => ?_⟩
        cases i with
        | zero =>
          simp at hx hy
          subst hx hy
          exact hv.ext r h3
        | succ i => exact h6 i x y v (by simpa using hx) (by simpa using hy) hv

theorem setL_VS : ∀ (S : List Nat) (vals : List SV) (env : Env) (j : Nat), (∃ (i : Nat) (v : SV), S[i]? = some j ∧ vals[i]? = some v ∧ setL S vals env j = v) ∨ setL S vals env j = env j
  | [], vals, env, j => .inr (by unfold setL; rfl)
  | s :: S, [], env, j => .inr (by unfold setL; rfl)
  | s :: S, v :: vals, env, j => by
    unfold setL
    rcases setL_VS S vals (upd env s v) j with ⟨i, u, h1, h2, h3⟩ | h
    · exact .inl ⟨i + 1, u, by simpa using h1, by simpa using h2, h3⟩
    · rw [h]
      unfold upd
      cases hb : Nat.beq j s with
      | true =>
        have := Nat.eq_of_beq_eq_true hb
        subst this
        exact .inl ⟨0, v, rfl, rfl, rfl⟩
      | false => exact .inr rfl

theorem _root_.Go.Proofs.Ytihebfhhnoneiaa.Am.Ext.less {n : Nat} {own own1 own2 : Nat → Own} {F F1 : Nat → Prop} {w w1 : World} (e : Ext n own F w own1 F1 w1) (h : ∀ k, k < n → own2 k = own1 k ∨ own2 k = .dead) (hl : ∀ b, Lv own2 b → Lv own1 b) : Ext n own F w own2 F1 w1 where
  os := e.os
  tape := e.tape
  output := e.output
  sz := e.sz
  fr := e.fr
  Fm := e.Fm
  Fn := e.Fn
  on b hb := e.on b (hl b hb)
  ok k hk := by
    rcases h k hk with h | h
    · rw [h]; exact e.ok k hk
    · exact .inr h

theorem ER.head {own' : Nat → Own} {F' : Nat → Prop} {w' : World} {a' : Act} {M S : List Nat} {vals : List SV} (r : Rel own F w σ) (he : ER N own F w env a) (e : Ext σ.length own F w own' F' w') (hs : Same M a a') (hN : a'.tmps.size = N)
    (hv : ∀ (i s : Nat) (v : SV), S[i]? = some s → vals[i]? = some v → VS own' F' w' v (a'.tmps.getD s undef)) : ER N own' F' w' (setL S vals (anyOn M env)) a' := by
  refine ⟨hN, fun j => ?_⟩
  rcases setL_VS S vals (anyOn M env) j with ⟨i, v, h1, h2, h3⟩ | h
  · rw [h3]; exact hv i j v h1 h2
  · rw [h]
    unfold anyOn
    cases hc : M.contains j with
    | true => exact .t _ _ (.any _)
    | false =>
      simp only [cond_false]
      rw [hs j (by simpa using hc)]
      exact (he.2 j).ext r e

end
end Go.Proofs.Ytihebfhhnoneiaa.Am
