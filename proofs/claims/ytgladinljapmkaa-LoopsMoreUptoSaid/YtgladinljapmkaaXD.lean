/- Signs, kinds, structs built, closures, maps, tuples, lengths. -/
import Derived.Test.YtgladinljapmkaaXC
import Derived.RangeFuncNested
import Derived.RangeFuncLeaves
import Derived.OrdersIn
import Derived.TacticsIn
import Derived.ChangeKeysEq
/- Each operation does what the abstract machine says: loads, stores, new variables. -/
namespace Go.Proofs.Ytgladinljapmkaa.Am
open Go.RowKit
set_option linter.unusedVariables false
set_option linter.unusedSimpArgs false
section
variable {P : Program} {tt : Tab} {own : Nat → Own} {F : Nat → Prop} {w : World} {σ : Sto} {env : Env} {a : Act} {N : Nat} {o : Oper}
def RT (F : Nat → Prop) (n : Nat) (w : World) (r : T) (v : Value) : Prop := match r with
  | .own x => ∃ own', Rel own' TF w (opn 4 0 x).2 ∧ VS own' TF w (opn 4 0 x).1 v ∧ ∀ k b, (own' k).bl b → n ≤ b ∧ ¬ F b
  | r => VT F w r v
theorem RT.of_VT {F : Nat → Prop} {n : Nat} {w : World} {r : T} {v : Value} (h : VT F w r v) : RT F n w r v := by
  cases r <;> first | exact h | cases h
@[irreducible] def PCalls (P : Program) (f : FuncId) (ts : List T) (post : T → Prop) : Prop :=
  (∃ fn, P.funcs[f]? = some fn ∧ (fn.name == "runtime.NumGoroutine") = false ∧ fn.body.isNone = false) ∧ ∀ (F : Nat → Prop) (w : World) (vs : List Value), vs.length = ts.length → (∀ (i : Nat) (x : T) (v : Value), ts[i]? = some x → vs[i]? = some v → VT F w x v) → FB F w →
    Calls P f vs.toArray w fun e w' => ∃ (r : T) (mv : Value) (F' : Nat → Prop), e = .returned mv ∧ post r ∧ RT F' w.heap.size w' r mv ∧ (∀ b, F' b → F b ∨ w.heap.size ≤ b) ∧ (∀ b, F' b → b < w'.heap.size) ∧ (∀ b, F b → F' b) ∧ Below w.heap.size w w'
@[irreducible] def ICalls (P : Program) (f : FuncId) (vs : List SV) (σ : Sto) (K : SV → Sto → Prop) : Prop :=
  (∃ fn, P.funcs[f]? = some fn ∧ (fn.name == "runtime.NumGoroutine") = false ∧ fn.body.isNone = false) ∧ ∀ (own : Nat → Own) (F : Nat → Prop) (w : World) (mvs : List Value), mvs.length = vs.length →
    (∀ (i : Nat) (x : SV) (v : Value), vs[i]? = some x → mvs[i]? = some v → VS own F w x v) → Rel own F w σ →
    Calls P f mvs.toArray w fun e w' => ∃ (v : SV) (σ' : Sto) (own' : Nat → Own) (F' : Nat → Prop) (mv : Value), e = .returned mv ∧ K v σ' ∧ Ext σ.length own F w own' F' w' ∧ Rel own' F' w' σ' ∧ σ.length ≤ σ'.length ∧ VS own' F' w' v mv
abbrev Fw (ro : Option Nat) : Fence := { fn := fun _ => True, depth := none, alive := false, round := ro }
structure Keep where
  n0 : Nat
  own : Nat → Own
  F : Nat → Prop
  w : World
  bl : List (Nat × Obj)
structure Kept (Z : Keep) (σ : Sto) (own : Nat → Own) (F : Nat → Prop) (w : World) : Prop where
  len : Z.n0 ≤ σ.length
  ext : Ext Z.n0 Z.own Z.F Z.w own F w
  same : ∀ p ∈ Z.bl, w.heap[p.1]? = some p.2 ∧ ¬ Lv own p.1
theorem Kept.later {Z : Keep} {own own' : Nat → Own} {F F' : Nat → Prop} {w w' : World} {σ σ' : Sto} (k : Kept Z σ own F w) (e : Ext σ.length own F w own' F' w') (hl : σ.length ≤ σ'.length) : Kept Z σ' own' F' w' where
  len := Nat.le_trans k.len hl
  ext := k.ext.trans (e.mono k.len)
  same p hp := by
    obtain ⟨h1, h2⟩ := k.same p hp
    have hlt := (Array.getElem?_eq_some_iff.1 h1).1
    refine ⟨(e.fr _ hlt h2).trans h1, fun h => ?_⟩
    rcases e.on _ h with h | h
    · exact h2 h
    · omega
@[irreducible] def YCalls (P : Program) (l : Nat) (rec : Loop) (Z : Keep) (vs : List SV) (σ : Sto) (K : Sto → Prop) : Prop :=
  ∀ (nn : Nat) (own : Nat → Own) (F : Nat → Prop) (w : World) (mvs : List Value), mvs.length = vs.length → (∀ (i : Nat) (x : SV) (v : Value), vs[i]? = some x → mvs[i]? = some v → VS own F w x v) → Rel own F w σ → Kept Z σ own F w → w.heap[l]? = some (.loop rec) → ¬ Lv own l →
    YieldAt (Fw none) nn P l mvs.toArray w fun e w' => ∃ (σ' : Sto) (own' : Nat → Own) (F' : Nat → Prop), e = .returned (.bool true) ∧ K σ' ∧ Ext σ.length own F w own' F' w' ∧ Rel own' F' w' σ' ∧ σ.length ≤ σ'.length
@[irreducible] def RCalls (P : Program) (f : FuncId) (vs : List SV) (Y : List SV → Sto → (Sto → Prop) → Prop) (σ : Sto) (K : Sto → Prop) : Prop :=
  (∃ fn, P.funcs[f]? = some fn ∧ (fn.name == "runtime.NumGoroutine") = false ∧ fn.body.isNone = false) ∧ ∀ (nn l : Nat) (rec : Loop) (own : Nat → Own) (F : Nat → Prop) (w : World) (mvs : List Value), mvs.length = vs.length →
    (∀ (i : Nat) (x : SV) (v : Value), vs[i]? = some x → mvs[i]? = some v → VS own F w x v) → Rel own F w σ → w.heap[l]? = some (.loop rec) → ¬ Lv own l →
    (∀ vs' σ' K', Y vs' σ' K' → YCalls P l rec ⟨σ.length, own, F, w, []⟩ vs' σ' K') →
    CallsIn (Fw none) nn P f (.func (.yield l) #[] #[] :: mvs).toArray w fun e w' => ∃ (v : Value) (σ' : Sto) (own' : Nat → Own) (F' : Nat → Prop), e = .returned v ∧ K σ' ∧ Ext σ.length own F w own' F' w' ∧ Rel own' F' w' σ' ∧ σ.length ≤ σ'.length
abbrev ctrY (P : Program) (I : FuncId → Bool) (Y : Nat → List SV → Sto → (SV → Sto → Prop) → Prop) : Ctr := ⟨PCalls P, ICalls P, I, Y, RCalls P⟩
abbrev ctr (P : Program) (I : FuncId → Bool) : Ctr := ctrY P I fun _ _ _ _ => False
theorem PCalls.mono {f : FuncId} {ts : List T} {p q : T → Prop} (h : PCalls P f ts p) (k : ∀ r, p r → q r) : PCalls P f ts q := by
  unfold PCalls at *
  refine ⟨h.1, ?_⟩
  intro F w vs h1 h2 h3
  refine (h.2 F w vs h1 h2 h3).mono ?_
  rintro e w' ⟨r, mv, F', h4, h5, h6⟩
  exact ⟨r, mv, F', h4, k r h5, h6⟩
theorem ICalls.mono {f : FuncId} {vs : List SV} {p q : SV → Sto → Prop} (h : ICalls P f vs σ p) (k : ∀ r s, p r s → q r s) : ICalls P f vs σ q := by
  unfold ICalls at *
  refine ⟨h.1, ?_⟩
  intro own F w mvs h1 h2 h3
  refine (h.2 own F w mvs h1 h2 h3).mono ?_
  rintro e w' ⟨v, σ', own', F', mv, h4, h5, h6⟩
  exact ⟨v, σ', own', F', mv, h4, k v σ' h5, h6⟩
def Next (P : Program) (o : Oper) (a : Act) (own : Nat → Own) (F : Nat → Prop) (w : World) (σ : Sto) (K : SV → Sto → Prop) (next : Act → World → Prop) : Prop :=
  ∀ (v : SV) (σ' : Sto) (own' : Nat → Own) (F' : Nat → Prop) (w' : World) (mv : Value), K v σ' → Ext σ.length own F w own' F' w' → Rel own' F' w' σ' → σ.length ≤ σ'.length → VS own' F' w' v mv → next (a.put o.dst mv) w'
variable {K : SV → Sto → Prop} {next : Act → World → Prop} {Q : Exit → Act → World → Prop}
theorem wp_value {mv : Value} {w' : World} (h : (execOp a.eval o).run P w = .ok (.value mv) w') (hn : next (a.put o.dst mv) w') : o.wp P a w next Q := by
  unfold Oper.wp; rw [h]; exact hn
theorem wp_skip' {w' : World} (h : (execOp a.eval o).run P w = .ok .skip w') (hn : next (a.put o.dst undef) w') : o.wp P a w next Q := by
  unfold Oper.wp; rw [h]; exact hn
theorem Next.pure (hn : Next P o a own F w σ K next) (r : Rel own F w σ) {v : SV} {mv : Value} (hk : K v σ) (hv : VS own F w v mv) : next (a.put o.dst mv) w :=
  hn v σ own F w mv hk (Ext.refl _ _ _ _) r (Nat.le_refl _) hv
theorem op_pure (hn : Next P o a own F w σ K next) (r : Rel own F w σ) {v : SV} {mv : Value} (h : (execOp a.eval o).run P w = .ok (.value mv) w) (hk : K v σ) (hv : VS own F w v mv) : o.wp P a w next Q :=
  wp_value h (hn.pure r hk hv)
/-! ### reading what is of the call's own -/
theorem pl_out {k e : Nat} {p : Path} {i off b o sz cap m : Nat} {mv : Value} (h : (own k).am e p = some (.at b o sz cap m)) (hv : VS own F w (.pl k e p i off) mv) : mv = .pointer (some ⟨b, o + i * sz + off, none⟩) := by
  cases hv with
  | pl _ _ _ _ _ b' o' sz' cap' m' h' =>
    rw [h] at h'
    injection h' with h'
    injection h' with e1 e2 e3
    subst e1 e2 e3
    rfl
theorem var_obj (r : Rel own F w σ) {k : Nat} {E : TypeId} {cs : List SV} (hk : nth σ k = some (.var E cs)) :
    ∃ (b : Nat) (vals : Array Value), (own k).am 0 [] = some (.at b 0 cs.length 1 1) ∧ (own k).bl b ∧ w.heap[b]? = some (.cells vals E (0, 0)) ∧ vals.size = cs.length ∧
      (∀ (j : Nat) (x : SV) (v : Value), cs[j]? = some x → vals[j]? = some v → VS own F w x v) ∧ (∀ v ∈ vals.toList, v.oneCell' = true) ∧ ∀ e p, 0 < e ∨ p ≠ [] → (own k).am e p = none := by
  rw [nth_eq] at hk
  exact r.obj k _ hk
theorem pl_e0 (r : Rel own F w σ) {k : Nat} {E : TypeId} {cs : List SV} (hk : nth σ k = some (.var E cs)) {e i off : Nat} {mv : Value} (hv : VS own F w (.pl k e [] i off) mv) : e = 0 := by
  obtain ⟨_, _, _, _, _, _, _, _, h⟩ := var_obj r hk
  cases hv with
  | pl _ _ _ _ _ b' o' sz' cap' m' h' =>
    rcases Nat.eq_zero_or_pos e with h0 | h0
    · exact h0
    · rw [h e [] (.inl h0)] at h'; exact nomatch h'
theorem cell_of {b j : Nat} {vals : Array Value} {E : TypeId} {fr : Nat × Nat} (hb : w.heap[b]? = some (.cells vals E fr)) (hj : j < vals.size) : w.cell? ⟨b, j, none⟩ = some (vals.getD j undef) := by
  rw [cell_of_row w b j vals E fr hb]
  simp [Array.getElem?_eq_getElem hj, Array.getD_eq_getD_getElem?]
/-! ### load -/
theorem mkT_VT {agg : Bool} {n : Nat} {cs : List T} {f : Nat → Value} (hn : n ≤ cs.length) (h1 : agg = false → n = 1) (h : ∀ (j : Nat) (y : T), cs[j]? = some y → j < n → VT F w y (f j)) :
    VT F w (mkT agg n cs) (if agg then .agg ((List.range n).map f).toArray else f 0) := by
  cases agg with
  | true =>
    simp only [mkT, cond_true, if_true]
    refine .agg _ _ (by simp; omega) ?_
    intro i x v hx hv
    have hi : i < n := by
      have := (Array.getElem?_eq_some_iff.1 hv).1
      simpa using this
    simp [List.getElem?_take, hi] at hx
    simp [hi] at hv
    subst hv
    exact h i x hx hi
  | false =>
    have := h1 rfl
    subst this
    simp only [mkT, cond_false, Bool.false_eq_true, if_false]
    cases cs with
    | nil => simp at hn
    | cons c cs => exact h 0 c rfl (by omega)
theorem mkS_VS {agg : Bool} {n : Nat} {cs : List SV} {f : Nat → Value} (hn : n ≤ cs.length) (h1 : agg = false → n = 1) (h : ∀ (j : Nat) (y : SV), cs[j]? = some y → j < n → VS own F w y (f j)) :
    VS own F w (mkS agg n cs) (if agg then .agg ((List.range n).map f).toArray else f 0) := by
  cases agg with
  | true =>
    simp only [mkS, cond_true, if_true]
    refine .agg _ _ (by simp; omega) ?_
    intro i x v hx hv
    have hi : i < n := by
      have := (Array.getElem?_eq_some_iff.1 hv).1
      simpa using this
    simp [List.getElem?_take, hi] at hx
    simp [hi] at hv
    subst hv
    exact h i x hx hi
  | false =>
    have := h1 rfl
    subst this
    simp only [mkS, cond_false, Bool.false_eq_true, if_false]
    cases cs with
    | nil => simp at hn
    | cons c cs => exact h 0 c rfl (by omega)
theorem TOk.one {t : TypeId} {e : TE} (h : TOk P t e) : e.ti.isAgg = false → e.size = 1 := by
  obtain ⟨i, _, _, _, _, z, _, _, _, h1, _⟩ := h.info
  exact fun ha => (h1 ha).2
theorem mapO_len {α β : Type} {f : α → Option β} : ∀ {xs : List α} {ys : List β}, mapO f xs = some ys → ys.length = xs.length
  | [], ys, h => by simp [mapO] at h; subst h; rfl
  | x :: xs, ys, h => by
    simp only [mapO] at h
    split at h
    · exact nomatch h
    · split at h
      · exact nomatch h
      · rename_i zs hz
        injection h with h
        subst h
        simp [mapO_len hz]
theorem mapO_get {α β : Type} {f : α → Option β} : ∀ {xs : List α} {ys : List β}, mapO f xs = some ys → ∀ (i : Nat) (y : β), ys[i]? = some y → ∃ x, xs[i]? = some x ∧ f x = some y
  | [], ys, h, i, y, hy => by simp [mapO] at h; subst h; simp at hy
  | x :: xs, ys, h, i, y, hy => by
    simp only [mapO] at h
    split at h
    · exact nomatch h
    · rename_i z hz
      split at h
      · exact nomatch h
      · rename_i zs hzs
        injection h with h
        subst h
        cases i with
        | zero => simp at hy; subst hy; exact ⟨x, rfl, hz⟩
        | succ i => simpa using mapO_get hzs i y (by simpa using hy)
theorem norm_VS {x : SV} {v : Value} (h : VS own F w x v) : VS own F w (normS x) v := by
  unfold normS
  split
  · rename_i xs
    split
    · rename_i ts hm
      cases h with
      | agg _ vs hs h =>
        refine .t _ _ (.agg _ _ (by rw [hs, mapO_len hm]) fun i x v hx hv => ?_)
        obtain ⟨y, hy, hfy⟩ := mapO_get hm i x hx
        split at hfy
        · simp at hfy
          subst hfy
          have := h i _ v hy hv
          cases this with
          | t _ _ h => exact h
        · simp at hfy
    · exact h
  · exact h
theorem nd_obj (r : Rel own F w σ) {k : Nat} {ep : Nat → Nat} {nd : Nd} (hk : nth σ k = some (.nd ep nd)) :
    TreeOk F w ((own k).cur ep) nd ∧ (∀ b, Bk ((own k).cur ep) nd b → (own k).bl b) ∧ ep 0 = 0 ∧ ∀ e p, ep p.length < e → (own k).am e p = none := by
  rw [nth_eq] at hk
  exact r.obj k _ hk
theorem cellsR_get {k e : Nat} {p : Path} {i : Nat} : ∀ {ys : List T} {m j : Nat} {s : SV}, (cellsR k e p i m ys)[j]? = some s → ∃ y, ys[j]? = some y ∧ s = (match y with | .nst _ _ xs => SV.ref k e (p ++ [(i, m + j)]) 0 xs.length | .nmp _ _ => SV.mp k e (p ++ [(i, m + j)]) | y => .t y)
  | [], m, j, s, h => by simp [cellsR] at h
  | y :: ys, m, 0, s, h => by simp [cellsR] at h; exact ⟨y, rfl, by rw [← h]; rfl⟩
  | y :: ys, m, j + 1, s, h => by
    simp only [cellsR, List.getElem?_cons_succ] at h
    obtain ⟨z, h1, h2⟩ := cellsR_get h
    exact ⟨z, by simpa using h1, by rw [h2, show m + 1 + j = m + (j + 1) by omega]⟩
theorem cellsR_length {k e : Nat} {p : Path} {i : Nat} : ∀ {ys : List T} {m : Nat}, (cellsR k e p i m ys).length = ys.length
  | [], m => rfl
  | y :: ys, m => by simp [cellsR, cellsR_length]
theorem VS.refL {k e : Nat} {p : Path} {L : Loc} {len : Nat} (h : (own k).am e p = some L) (hl : match L with | .e _ => len = 0 | .at _ _ _ cap m => m = len ∧ m ≤ cap ∧ m ≤ 2 ^ 48) : VS own F w (.ref k e p 0 len) L.val := by
  cases L with
  | e ad => simp only at hl; subst hl; exact .refE k e p ad h
  | «at» b o sz cap m =>
    obtain ⟨rfl, h1, h2⟩ := hl
    have := VS.ref (F := F) (w := w) k e p 0 m b o sz cap m h (by omega) h1 h2
    simpa [Loc.val] using this
theorem NodeOk.loc {c : Path → Option Loc} {p : Path} {E : TypeId} {sz : Nat} {xs : List T} (h : NodeOk F w c p (.row E sz xs)) : ∃ L, c p = some L ∧ (match L with | .e _ => xs.length = 0 | .at _ _ _ cap m => m = xs.length ∧ m ≤ cap ∧ m ≤ 2 ^ 48) := by
  rcases h with ⟨rfl, a, ha⟩ | ⟨b, o, cap, vals, h1, _, _, _, _, h6, h7, _⟩
  · exact ⟨_, ha, rfl⟩
  · exact ⟨_, h1, rfl, h6, h7⟩
theorem pl_load (ht : TabOk P tt) (r : Rel own F w σ) {t : TypeId} (hg : (tt.at t).ti.good = true) {k e : Nat} {p : Path} {i off : Nat} {mv : Value} (hv : VS own F w (.pl k e p i off) mv) {ep : Nat → Nat} {nd : Nd} (hk : nth σ k = some (.nd ep nd)) (he : e = ep p.length) {K : SV → Prop}
    (hs : nodeK nd p fun m => match m with
      | .row E sz xs => bif isArr (tt.at E).ti && !(tt.at t).ti.isAgg && !Nat.beq sz 1 then Ob (i < xs.length) ∧ Ob (off < sz) ∧ exE xs i fun x => exE x.cells off fun y => bif leaf1 y then K (.t y) else False
        else Ob (i < xs.length) ∧ Ob (off + (tt.at t).size ≤ sz) ∧ exE xs i fun x => K (normS (mkS (tt.at t).ti.isAgg (tt.at t).size ((cellsR k (ep (p.length + 1)) p i 0 x.cells).drop off)))
      | .map .. => False) :
    ∃ (b o : Nat) (f : Nat → Value) (x : SV), mv = .pointer (some ⟨b, o, none⟩) ∧ (∀ j, j < (tt.at t).size → w.cell? ⟨b, o + j, none⟩ = some (f j)) ∧ K x ∧ VS own F w x (if (tt.at t).ti.isAgg then .agg ((List.range (tt.at t).size).map f).toArray else f 0) := by
  have hT := ht.at t hg
  obtain ⟨n, hp, h1⟩ := nodeK_out hs
  obtain ⟨hTr, hB, hep, hfr⟩ := nd_obj r hk
  subst he
  cases n with
  | map => exact h1.elim
  | row E s xs =>
    cases hca : isArr (tt.at E).ti && !(tt.at t).ti.isAgg && !Nat.beq s 1 with
    | true =>
      simp only [hca, cond_true] at h1
      obtain ⟨h2, h3, h4⟩ := h1
      have h2 := h2.out
      have h3 := h3.out
      have hx := h4.out (x := xs[i]) (by rw [nth_eq]; exact List.getElem?_eq_getElem h2)
      simp only [Bool.and_eq_true, Bool.not_eq_true'] at hca
      have hagg := hca.1.2
      have h1s := hT.one hagg
      rcases hTr.1 p _ hp with ⟨rfl, _⟩ | ⟨b, o, cap, vals, g1, g3, g4, g5, g6, g7, g8, g9, g10, g11⟩
      · simp at h2
      · have hmv := pl_out g1 hv
        have hle : (i + 1) * s ≤ cap * s := Nat.mul_le_mul_right _ (by omega)
        rw [Nat.add_mul, Nat.one_mul] at hle
        have hcl := g9 xs[i] (List.getElem_mem h2)
        have hy := hx.out (x := xs[i].cells[off]'(by omega)) (by rw [nth_eq]; exact List.getElem?_eq_getElem (by omega))
        obtain ⟨hlf, hK⟩ := bif_elim0 hy
        have hlt : o + i * s + off < vals.size := by omega
        have hget : vals[o + i * s + off]? = some (vals.getD (o + i * s + off) undef) := by simp [Array.getD_eq_getD_getElem?, Array.getElem?_eq_getElem hlt]
        have hc := g10 i xs[i] off _ _ (List.getElem?_eq_getElem h2) (List.getElem?_eq_getElem (by omega)) hget
        refine ⟨b, o + i * s + off, fun j => vals.getD (o + i * s + off + j) undef, _, hmv, fun j hj => cell_of g5 (by omega), hK, ?_⟩
        rw [hagg]
        simp only [Bool.false_eq_true, if_false, Nat.add_zero]
        refine .t _ _ ?_
        generalize xs[i].cells[off]'(by omega) = y at hlf hc
        cases y <;> first | exact hc | exact nomatch hlf
    | false =>
    simp only [hca, cond_false] at h1
    obtain ⟨h2, h3, h4⟩ := h1
    have h2 := h2.out
    have h3 := h3.out
    have hx := h4.out (x := xs[i]) (by rw [nth_eq]; exact List.getElem?_eq_getElem h2)
    rcases hTr.1 p _ hp with ⟨rfl, _⟩ | ⟨b, o, cap, vals, g1, g3, g4, g5, g6, g7, g8, g9, g10, g11⟩
    · simp at h2
    · have hmv := pl_out g1 hv
      have hle : (i + 1) * s ≤ cap * s := Nat.mul_le_mul_right _ (by omega)
      rw [Nat.add_mul, Nat.one_mul] at hle
      refine ⟨b, o + i * s + off, fun j => vals.getD (o + i * s + off + j) undef, _, hmv, fun j hj => cell_of g5 (by omega), hx, norm_VS (mkS_VS (by have := g9 xs[i] (List.getElem_mem h2); simp [cellsR_length]; omega) hT.one ?_)⟩
      intro j y hy hj
      rw [List.getElem?_drop] at hy
      obtain ⟨z, hz, he⟩ := cellsR_get hy
      have hlt : o + i * s + off + j < vals.size := by omega
      have hget : vals[o + i * s + (off + j)]? = some (vals.getD (o + i * s + off + j) undef) := by
        rw [show o + i * s + (off + j) = o + i * s + off + j by omega]
        simp [Array.getD_eq_getD_getElem?, Array.getElem?_eq_getElem hlt]
      have hc := g10 i xs[i] (off + j) z _ (List.getElem?_eq_getElem h2) hz hget
      rw [he]
      cases hzn : z.nd? with
      | none => cases z <;> first | exact .t _ _ hc | exact nomatch hzn
      | some m =>
        have hnd : nodeAt nd (p ++ [(i, off + j)]) = some m := by
          rw [nodeAt_append hp]
          exact nodeAt_cons.2 ⟨xs[i], z, m, List.getElem?_eq_getElem h2, hz, hzn, nodeAt_nil⟩
        have e := nd_of hzn
        subst e
        have hlen : (p ++ [(i, off + j)]).length = p.length + 1 := by simp
        cases m with
        | row E2 s2 x2 =>
          obtain ⟨L, q1, q2⟩ := hc
          obtain ⟨L', q3, q4⟩ := (hTr.1 _ _ hnd).loc
          rw [q1] at q3
          injection q3 with q3
          subst q3
          rw [q2]
          have q1' : (own k).am (ep (p.length + 1)) (p ++ [(i, off + j)]) = some L := by rw [← hlen]; exact q1
          show VS own F w (.ref k (ep (p.length + 1)) (p ++ [(i, 0 + (off + j))]) 0 x2.length) L.val
          rw [Nat.zero_add]
          refine VS.refL q1' ?_
          cases L with
          | e => exact q4
          | «at» => exact ⟨q4.1, q4.2.1, q4.2.2⟩
        | map k2 e2 =>
          obtain ⟨L, q1, q2⟩ := hc
          obtain ⟨b2, ents, clock, q3, _⟩ := hTr.1 _ _ hnd
          rw [q1] at q3
          injection q3 with q3
          subst q3
          rw [q2]
          show VS own F w (.mp k (ep (p.length + 1)) (p ++ [(i, 0 + (off + j))])) (.map (some b2))
          rw [Nat.zero_add]
          have q1' : (own k).am (ep (p.length + 1)) (p ++ [(i, off + j)]) = some (.at b2 0 0 1 1) := by rw [← hlen]; exact q1
          exact .mp _ _ _ _ _ _ _ _ q1'
theorem load_out (ht : TabOk P tt) (r : Rel own F w σ) {t : TypeId} {sv : SV} {mv : Value} (hv : VS own F w sv mv) {K : SV → Prop} (hs : loadOp tt t sv σ K) :
    ∃ (ad : Addr) (x : SV) (u : Value), mv = .pointer (some ad) ∧ (loadVar t ad).run P w = .ok u w ∧ K x ∧ VS own F w x u := by
  unfold loadOp at hs
  simp only at hs
  cases hg : (tt.at t).ti.good with
  | false => rw [hg] at hs; exact hs.elim
  | true =>
    have hT := ht.at t hg
    rw [hg, cond_true] at hs
    split at hs
    · rename_i cs
      obtain ⟨h1, h2⟩ := hs
      have h1 := h1.out
      cases hv with
      | t _ _ hv =>
        cases hv with
        | ptr _ b off vals hF hcell h =>
          exact ⟨_, _, _, rfl, run_loadVar hT w b off vals fun j hj => hcell j (by omega), h2, .t _ _ (mkT_VT h1 hT.one fun j y hy _ => h j y hy)⟩
    · rename_i k ee p i off
      split at hs
      · rename_i E cs hk
        split at hs
        · obtain ⟨h1, h2, h3⟩ := hs
          have h1 := h1.out
          have h2 := h2.out
          subst h1
          have he := pl_e0 r hk hv
          subst he
          obtain ⟨b, vals, ho1, ho2, hb, hsz, hcs, _⟩ := var_obj r hk
          have hm := pl_out ho1 hv
          simp only [Nat.zero_mul, Nat.add_zero, Nat.zero_add] at hm
          refine ⟨_, _, _, hm, run_loadVar hT w b off (fun j => vals.getD (off + j) undef) fun j hj => cell_of hb (by omega), h3, mkS_VS (by simp; omega) hT.one ?_⟩
          intro j y hy hj
          simp only [List.getElem?_drop] at hy
          refine hcs (off + j) y _ hy ?_
          simp [Array.getD_eq_getD_getElem?, Array.getElem?_eq_getElem (show off + j < vals.size by omega)]
        · exact hs.elim
      · rename_i ep nd hk
        obtain ⟨h1, h2⟩ := hs
        obtain ⟨b, o, f, x, hm, hc, hK, hv2⟩ := pl_load ht r hg hv hk h1.out h2
        exact ⟨_, x, _, hm, run_loadVar hT w b o f hc, hK, hv2⟩
      · exact hs.elim
    · exact hs.elim
theorem op_load (ht : TabOk P tt) (hn : Next P o a own F w σ K next) (r : Rel own F w σ) {t : TypeId} {x : Operand} (ho : o.op = .load t x) {sv : SV} (hv : VS own F w sv (a.eval x))
    (hs : loadOp tt t sv σ fun v => K v σ) : o.wp P a w next Q := by
  obtain ⟨ad, y, u, h1, h2, h3, h4⟩ := load_out (P := P) ht r hv hs
  refine op_pure hn r ?_ h3 h4
  unfold execOp
  simp only [ho, h1, Instr.loadAt, Instr.sureAddr, Sem.run_bind, Sem.run_pure, Result.andThen_ok, h2]
/-! ### new variables -/
def ownV (b n : Nat) : Own := ⟨fun e p => if e = 0 ∧ p = [] then some (.at b 0 n 1 1) else none, fun x => x = b⟩
theorem ownV_at {b n : Nat} : (ownV b n).am 0 [] = some (.at b 0 n 1 1) := by unfold ownV; simp
theorem ownV_no {b n e : Nat} {p : Path} (h : 0 < e ∨ p ≠ []) : (ownV b n).am e p = none := by
  unfold ownV
  show (if e = 0 ∧ p = [] then _ else none) = none
  rw [if_neg fun h' => by
    rcases h with h | h
    · omega
    · exact h h'.2]
theorem op_new (hn : Next P o a own F w σ K next) (r : Rel own F w σ) {E : TypeId} {cs : List SV} {vals : Array Value} (hrun : (execOp a.eval o).run P w = .ok (.value (.pointer (some ⟨w.heap.size, 0, none⟩))) (w.alloc (.cells vals E)))
    (hs : vals.size = cs.length) (hv : ∀ (j : Nat) (x : SV) (v : Value), cs[j]? = some x → vals[j]? = some v → VS own F w x v) (h1 : ∀ v ∈ vals.toList, v.oneCell' = true) (hk : K (.loc σ.length 0 0) (σ ++ [.var E cs])) : o.wp P a w next Q := by
  have hp := r.pushE (w' := w.alloc (.cells vals E)) (ownV w.heap.size cs.length) (fun b hb => by
      have hb : b = w.heap.size := hb
      subst hb; simp) rfl rfl rfl (by simp) (fun i hi => Below.heap_alloc w _ i hi) (.var E cs)
    (fun own' _ _ h3 => show OR own' F _ (ownV w.heap.size cs.length) (.var E cs) from ⟨w.heap.size, vals, ownV_at, rfl, heap_alloc_new w _, hs, fun j x v hx hv' => h3 _ _ (hv j x v hx hv'), h1, fun e p h => ownV_no h⟩)
  refine wp_value hrun (hn _ _ _ _ _ _ hk hp.2 hp.1 (by simp) ?_)
  have := VS.pl (own := upd1 own σ.length (ownV w.heap.size cs.length)) (F := F) (w := w.alloc (.cells vals E)) σ.length 0 [] 0 0 w.heap.size 0 cs.length 1 1 (by rw [upd1_same]; exact ownV_at)
  simpa using this
theorem op_alloc (ht : TabOk P tt) (hn : Next P o a own F w σ K next) (r : Rel own F w σ) {t : TypeId} (ho : o.op = .alloc t) (hg : (tt.at t).ti.good = true)
    (hk : K (.loc σ.length 0 0) (σ ++ [.var t ((tt.at t).zero.map .t)])) : o.wp P a w next Q := by
  obtain ⟨i, hi, hs, hb, hz0, z, hz, hzs, _, _, hzv⟩ := (ht.at t hg).info
  refine op_new hn r (vals := z.cells) ?_ (by simp [hzs, hz0]) ?_ ?_ hk
  · unfold execOp
    simp [ho, Instr.alloc, zeroValue, typeInfo, hi, hz, newVar, newRow]
  · intro j x v hx hv
    simp only [List.getElem?_map] at hx
    cases hj : (tt.at t).zero[j]? with
    | none => simp [hj] at hx
    | some y =>
      simp [hj] at hx
      subst hx
      exact .t _ _ (hzv F w j y v hj hv).1
  · intro v hv
    obtain ⟨j, hj⟩ := List.getElem?_of_mem hv
    have hlt : j < (tt.at t).zero.length := by rw [hz0, ← hzs]; simpa using (List.getElem?_eq_some_iff.1 hj).1
    exact (hzv F w j _ v (List.getElem?_eq_getElem hlt) (by simpa using hj)).2
theorem op_box (hn : Next P o a own F w σ K next) (r : Rel own F w σ) {t : TypeId} {x : Operand} (ho : o.op = .box t x) {sv : SV} (hv : VS own F w sv (a.eval x)) (hl : sv.cells.all SV.leaf = true)
    (hk : K (.loc σ.length 0 0) (σ ++ [.var t sv.cells])) : o.wp P a w next Q := by
  obtain ⟨h1, h3, h2⟩ := hv.cells hl
  refine op_new hn r (vals := (a.eval x).cells) ?_ h1 h2 h3 hk
  unfold execOp
  simp [ho, Instr.box, newVar, newRow]
end
end Go.Proofs.Ytgladinljapmkaa.Am

/- What is frozen; rows taken out of trees, and put into them; stores. -/
namespace Go.Proofs.Ytgladinljapmkaa.Am
open Go.RowKit
set_option linter.unusedVariables false
set_option linter.unusedSimpArgs false
section
variable {P : Program} {tt : Tab} {own : Nat → Own} {F : Nat → Prop} {w : World} {σ : Sto} {env : Env} {a : Act} {N : Nat} {o : Oper}
variable {K : SV → Sto → Prop} {next : Act → World → Prop} {Q : Exit → Act → World → Prop}
/-! ### freezing -/
theorem Fk.mono {L L' : List Nat} {b : Nat} (h : Fk own F L b) (hL : ∀ k, k ∈ L → k ∈ L') : Fk own F L' b := by
  rcases h with h | ⟨k, h1, h2⟩
  · exact .inl h
  · exact .inr ⟨k, hL k h1, h2⟩
theorem VT.part {sz : Nat} {xs : List T} {b o c m off len : Nat} (h : VT F w (.sl sz xs) (.slice (some ⟨b, o, none⟩) m c)) (hm : m = xs.length) (hl : off + len ≤ xs.length) (hc : xs.length ≤ c) : VT F w (.sl sz ((xs.drop off).take len)) (.slice (some ⟨b, o + off * sz, none⟩) len (c - off)) := by
  subst hm
  have hlen : ((xs.drop off).take len).length = len := by simp; omega
  by_cases h0 : len = 0
  · subst h0; simp; exact .sl0 _ _ _
  · generalize hv : Value.slice (some ⟨b, o, none⟩) xs.length c = v at h
    cases h with
    | sl0 => simp at hl; omega
    | sl _ _ b' o' c' vals hp hcc hn hF hz hcell h1 hh =>
      injection hv with e1 e2 e3
      injection e1 with e1
      injection e1 with e1 e4
      subst e1 e4 e3
      have := VT.sl (F := F) (w := w) sz ((xs.drop off).take len) b (o + off * sz) (c - off) (fun j => vals (off * sz + j)) (by intro h; rw [h] at hlen; simp at hlen; omega) (by omega) (by omega) hF
        (fun x hx => hz x (List.drop_subset _ _ (List.take_subset _ _ hx)))
        (fun j hj => by
          rw [hlen] at hj
          have hle : (off + len) * sz ≤ xs.length * sz := Nat.mul_le_mul_right _ (by omega)
          rw [Nat.add_mul] at hle
          rw [Nat.add_assoc]
          exact hcell _ (by omega))
        (fun j hj => by
          rw [hlen] at hj
          have hle : (off + len) * sz ≤ xs.length * sz := Nat.mul_le_mul_right _ (by omega)
          rw [Nat.add_mul] at hle
          exact h1 _ (by omega))
        (fun i x j y hx hy => by
          have hi : i < len := by
            have := (List.getElem?_eq_some_iff.1 hx).1
            rw [hlen] at this; exact this
          simp [hi] at hx
          have := hh (off + i) x j y hx hy
          rwa [Nat.add_mul, Nat.add_assoc] at this)
      rw [hlen] at this
      exact this
theorem ref_VT (r : Rel own F w σ) {k e : Nat} {p : Path} {off len : Nat} {v : Value} (hv : VS own F w (.ref k e p off len) v) {ep : Nat → Nat} {nd : Nd} (hk : nth σ k = some (.nd ep nd)) (he : e = ep p.length) {E : TypeId} {sz : Nat} {xs : List T} (hp : nodeAt nd p = some (.row E sz xs)) {G : Nat → Prop} (hF : ∀ b, F b → G b) (hG : ∀ b, (own k).bl b → G b) :
    VT G w (.sl sz ((xs.drop off).take len)) v := by
  obtain ⟨hT, hB, hep, hfr⟩ := nd_obj r hk
  subst he
  obtain ⟨L, h1, h2⟩ := (hT.1 p _ hp).loc
  have hw : VT G w (.sl sz xs) L.val := by
    have := tree_VT (G := G) hF hT.1 (fun b hb => hG b (hB b hb)) _ p (.row E sz xs) L (Nat.le_refl _) hp h1
    cases this with
    | nst _ _ _ _ h => exact h
  have h1' : (own k).am (ep p.length) p = some L := h1
  cases hv with
  | refZ => simp; exact .sl0 _ _ _
  | refE _ _ _ a h =>
    rw [h1'] at h
    injection h with h
    subst h
    have h2 : xs.length = 0 := h2
    have : xs = [] := List.eq_nil_of_length_eq_zero h2
    subst this
    simp
    exact .sl0 _ _ _
  | ref _ _ _ _ _ b o' sz' cap m h hl hm hn =>
    rw [h1'] at h
    injection h with h
    subst h
    obtain ⟨q1, q2, q3⟩ := h2
    have hsz : sz' = sz := by
      rcases hT.1 p _ hp with ⟨_, a, ha⟩ | ⟨b2, o2, cap2, vals2, ha, _⟩
      · rw [h1] at ha; exact nomatch ha
      · rw [h1] at ha; injection ha with ha; injection ha
    subst hsz
    exact hw.part q1 (by omega) (by omega)
theorem frzKs_out {n : Nat} (ih : ∀ {x : SV} {v : Value} {K : T → Prop}, VS own F w x v → frzK n σ x K → ∃ t, K t ∧ VT (Fk own F (ids n σ x)) w t v) :
    ∀ {xs : List SV} {vs : List Value} {K : List T → Prop}, vs.length = xs.length → (∀ (i : Nat) (x : SV) (v : Value), xs[i]? = some x → vs[i]? = some v → VS own F w x v) → frzKs (frzK n σ) xs K →
      ∃ ts, K ts ∧ ts.length = xs.length ∧ ∀ (i : Nat) (x : T) (v : Value), ts[i]? = some x → vs[i]? = some v → VT (Fk own F (xs.flatMap (ids n σ))) w x v
  | [], vs, K, hl, h, hs => ⟨[], hs, rfl, by simp⟩
  | x :: xs, [], K, hl, h, hs => by simp at hl
  | x :: xs, v :: vs, K, hl, h, hs => by
    obtain ⟨t, h1, h2⟩ := ih (h 0 x v rfl rfl) hs
    obtain ⟨ts, h3, h4, h5⟩ := frzKs_out ih (vs := vs) (by simpa using hl) (fun i x v hx hv => h (i + 1) x v (by simpa using hx) (by simpa using hv)) h1
    refine ⟨t :: ts, h3, by simp [h4], fun i y u hy hu => ?_⟩
    cases i with
    | zero =>
      simp at hy hu
      subst hy hu
      exact h2.sub fun b hb => hb.mono fun k hk => by simp [hk]
    | succ i =>
      refine (h5 i y u (by simpa using hy) (by simpa using hu)).sub fun b hb => hb.mono fun k hk => ?_
      rw [List.flatMap_cons]; exact List.mem_append.2 (.inr hk)
theorem frzK_VT (r : Rel own F w σ) : ∀ (n : Nat) {x : SV} {v : Value} {K : T → Prop}, VS own F w x v → frzK n σ x K → ∃ t, K t ∧ VT (Fk own F (ids n σ x)) w t v := by
  intro n
  induction n with
  | zero =>
    intro x v K hv hs
    cases x with
    | t x =>
      cases hv with
      | t _ _ h => exact ⟨x, hs, h.sub fun b hb => .inl hb⟩
    | _ => exact hs.elim
  | succ n ih =>
    intro x v K hv hs
    cases x with
    | t x =>
      cases hv with
      | t _ _ h => exact ⟨x, hs, h.sub fun b hb => .inl hb⟩
    | agg xs =>
      cases hv with
      | agg _ vs hsz h =>
        obtain ⟨ts, h1, h2, h3⟩ := frzKs_out ih (vs := vs.toList) (by simpa using hsz) (fun i x v hx hv => h i x v hx (by simpa using hv)) hs
        exact ⟨_, h1, .agg _ _ (by rw [hsz, h2]) fun i x v hx hv => h3 i x v hx (by simpa using hv)⟩
    | tup xs =>
      cases hv with
      | tup _ vs hsz h =>
        obtain ⟨ts, h1, h2, h3⟩ := frzKs_out ih (vs := vs.toList) (by simpa using hsz) (fun i x v hx hv => h i x v hx (by simpa using hv)) hs
        exact ⟨_, h1, .tup _ _ (by rw [hsz, h2]) fun i x v hx hv => h3 i x v hx (by simpa using hv)⟩
    | fn f xs =>
      cases hv with
      | fn _ _ vs hsz h =>
        obtain ⟨ts, h1, h2, h3⟩ := frzKs_out ih (vs := vs.toList) (by simpa using hsz) (fun i x v hx hv => h i x v hx (by simpa using hv)) hs
        exact ⟨_, h1, .fn _ _ _ (by rw [hsz, h2]) fun i x v hx hv => h3 i x v hx (by simpa using hv)⟩
    | g c x => exact hs.elim
    | mp k e p =>
      unfold frzK at hs
      split at hs
      · rename_i ep nd hk
        obtain ⟨h1, h2⟩ := hs
        have h1 := h1.out
        obtain ⟨m, hp, h3⟩ := nodeK_out h2
        obtain ⟨hT, hB, hep, hfr⟩ := nd_obj r hk
        cases m with
        | row => exact h3.elim
        | map kk es =>
          obtain ⟨b, ents, clock, g1, g2, g3, g4, g5, g6⟩ := hT.1 p _ hp
          have g1' : (own k).am e p = some (.at b 0 0 1 1) := by rw [h1]; exact g1
          cases hv with
          | mp _ _ _ b' o' sz' cap' m' h =>
            rw [g1'] at h
            injection h with h
            injection h with e1
            subst e1
            exact ⟨_, h3, .map kk es b ents clock (.inr ⟨k, by simp [ids], hB b ⟨p, _, _, _, _, _, hp, g1⟩⟩) g2 g3 g4 (fun i kv e hx he => (g5 i kv e hx he).sub fun b hb => .inl hb) g6⟩
      · exact hs.elim
    | ref k e p off len =>
      unfold frzK at hs
      split at hs
      · rename_i ep nd hk
        obtain ⟨h1, h2⟩ := hs
        obtain ⟨m, hp, h3⟩ := nodeK_out h2
        cases m with
        | map => exact h3.elim
        | row E sz xs => exact ⟨_, h3.out, ref_VT r hv hk h1.out hp (fun b hb => .inl hb) fun b hb => .inr ⟨k, by simp [ids], hb⟩⟩
      · exact hs.elim
    | pl k e p i off =>
      unfold frzK at hs
      split at hs
      · rename_i E cs hk
        split at hs
        · have he := pl_e0 r hk hv
          subst he
          obtain ⟨b, vals, ho1, ho2, hb, hsz, hcs, _⟩ := var_obj r hk
          have hm := pl_out ho1 hv
          simp only [Nat.zero_mul, Nat.add_zero, Nat.zero_add] at hm
          subst hm
          obtain ⟨ts, h1, h2, h3⟩ := frzKs_out ih (vs := vals.toList) (by simpa using hsz) (fun i x v hx hv => hcs i x v hx (by simpa using hv)) hs
          refine ⟨_, h1, .ptr _ b off (fun j => vals.getD (off + j) undef) (.inr ⟨k, by simp [ids], ho2⟩) (fun j hj => cell_of hb (by simp at hj; omega)) ?_⟩
          intro j y hy
          simp only [List.getElem?_drop] at hy
          have hlt : off + j < vals.size := by
            have := (List.getElem?_eq_some_iff.1 hy).1
            omega
          have e : vals.getD (off + j) undef = vals[off + j] := by simp [Array.getD_eq_getD_getElem?, Array.getElem?_eq_getElem hlt]
          rw [e]
          exact (h3 (off + j) y _ hy (by simp [Array.getElem?_eq_getElem hlt])).sub fun b hb => hb.mono fun k' hk' => by
            simp only [ids, hk, List.mem_cons]; exact .inr hk'
        · exact hs.elim
      · rename_i ep nd hk
        obtain ⟨h1, h2⟩ := hs
        have h1 := h1.out
        subst h1
        obtain ⟨m, hp, h3⟩ := nodeK_out h2
        obtain ⟨hT, hB, hep, hfr⟩ := nd_obj r hk
        cases m with
        | map => exact h3.elim
        | row E sz xs =>
          obtain ⟨h4, h5⟩ := h3
          have h4 := h4.out
          have h5 := h5.out (x := xs[i]) (by rw [nth_eq]; exact List.getElem?_eq_getElem h4)
          rcases hT.1 p _ hp with ⟨rfl, _⟩ | ⟨b, o, cap, vals, g1, g3, g4, g5, g6, g7, g8, g9, g10, g11⟩
          · simp at h4
          have hm := pl_out g1 hv
          subst hm
          have hxi := g9 xs[i] (List.getElem_mem h4)
          have hle : (i + 1) * sz ≤ cap * sz := Nat.mul_le_mul_right _ (by omega)
          rw [Nat.add_mul, Nat.one_mul] at hle
          have hbl : Fk own F (ids (n + 1) σ (.pl k (ep p.length) p i off)) b := .inr ⟨k, by simp [ids], hB b ⟨p, _, _, _, _, _, hp, g1⟩⟩
          refine ⟨_, h5, .ptr _ b _ (fun j => vals.getD (o + i * sz + off + j) undef) hbl (fun j hj => cell_of g5 (by simp at hj; omega)) ?_⟩
          intro j y hy
          simp only [List.getElem?_drop] at hy
          have hj : off + j < sz := by rw [← hxi]; exact (List.getElem?_eq_some_iff.1 hy).1
          have hlt : o + i * sz + (off + j) < vals.size := by omega
          have e : vals.getD (o + i * sz + off + j) undef = vals[o + i * sz + (off + j)] := by
            rw [show o + i * sz + off + j = o + i * sz + (off + j) by omega]
            simp [Array.getD_eq_getD_getElem?, Array.getElem?_eq_getElem hlt]
          rw [e]
          have hc := g10 i xs[i] (off + j) y _ (List.getElem?_eq_getElem h4) hy (Array.getElem?_eq_getElem hlt)
          have hG : ∀ b, (own k).bl b → Fk own F (ids (n + 1) σ (.pl k (ep p.length) p i off)) b := fun b hb => .inr ⟨k, by simp [ids], hb⟩
          cases hyn : y.nd? with
          | none => cases y <;> first | exact VT.sub hc fun b hb => .inl hb | exact nomatch hyn
          | some m =>
            have e := nd_of hyn
            subst e
            have hnd : nodeAt nd (p ++ [(i, off + j)]) = some m := by
              rw [nodeAt_append hp]
              exact nodeAt_cons.2 ⟨xs[i], _, m, List.getElem?_eq_getElem h4, hy, nd_toT m, nodeAt_nil⟩
            cases m with
            | row E2 s2 x2 =>
              obtain ⟨L, q1, q2⟩ := hc
              rw [q2]
              exact tree_VT (fun b hb => .inl hb) hT.1 (fun b hb => hG b (hB b hb)) _ _ (.row E2 s2 x2) L (Nat.le_refl _) hnd q1
            | map k2 e2 =>
              obtain ⟨L, q1, q2⟩ := hc
              rw [q2]
              exact tree_VT (fun b hb => .inl hb) hT.1 (fun b hb => hG b (hB b hb)) _ _ (.map k2 e2) L (Nat.le_refl _) hnd q1
      · exact hs.elim
/-! ### taking out -/
theorem lastP_eq : ∀ (q : Nat × Nat) (p : Path), (lastP q p).1 ++ [(lastP q p).2] = q :: p
  | q, [] => rfl
  | q, q' :: p => by simp [lastP, lastP_eq q' p]
theorem detK_sound (r : Rel own F w σ) {k e : Nat} {q : Nat × Nat} {p : Path} {K : Nd → Sto → Prop} (h : detK k e q p σ K) :
    ∃ own' σ' m, K m σ' ∧ Rel own' F w σ' ∧ Ext σ.length own F w own' F w ∧ σ'.length = σ.length + 1 ∧ (∀ L, (own k).am e (q :: p) = some L → (own' σ.length).am 0 [] = some L) ∧ nth σ' σ.length = some (.nd e0 m) := by
  unfold detK at h
  split at h
  · rename_i ep nd hk
    obtain ⟨h1, h2⟩ := h
    have h1 := h1.out
    subst h1
    have hl := lastP_eq q p
    generalize hlp : lastP q p = lp at h2 hl
    obtain ⟨p0, i, j⟩ := lp
    simp only at h2 hl
    obtain ⟨n, hp, h3⟩ := updK_out h2
    cases n with
    | map => exact h3.elim
    | row E sz xs =>
      obtain ⟨h4, h5⟩ := h3
      have h4 := h4.out
      have h5 := h5.out (x := xs[i]) (by rw [nth_eq]; exact List.getElem?_eq_getElem h4)
      split at h5
      · rename_i c hc
        rw [nth_eq] at hc
        split at h5
        · rename_i m hm
          obtain ⟨n2, hp2, h6⟩ := nodeK_out h5
          have hp3 : nodeAt nd (p0 ++ [(i, j)]) = some m := by
            rw [nodeAt_append hp]
            exact nodeAt_cons.2 ⟨xs[i], c, m, List.getElem?_eq_getElem h4, hc, hm, nodeAt_nil⟩
          rw [hl, hp2] at hp3
          injection hp3 with hp3
          subst hp3
          rw [nth_eq] at hk
          obtain ⟨own', r', e', g1, g2⟩ := r.detach hk hp (List.getElem?_eq_getElem h4) hc hm
          refine ⟨own', _, n2, h6, r', e', by simp, fun L hL => g1 L ?_, ?_⟩
          · rw [hl]; exact hL
          · rw [nth_eq, List.getElem?_append_right (by simp)]; simp
        · exact h5.elim
      · exact h5.elim
  · exact h.elim
theorem tak1_sound (r : Rel own F w σ) {s : SV} {v : Value} (hv : VS own F w s v) {K : SV → Sto → Prop} (h : tak1 s σ K) :
    ∃ s' σ' own', K s' σ' ∧ Rel own' F w σ' ∧ Ext σ.length own F w own' F w ∧ σ.length ≤ σ'.length ∧ VS own' F w s' v := by
  unfold tak1 at h
  split at h
  · rename_i k e q p off len
    obtain ⟨own', σ', m, h1, r', e', hl, ha, _⟩ := detK_sound r h
    obtain ⟨h2, h3⟩ := h1
    have h2 := h2.out
    subst h2
    refine ⟨_, σ', own', h3, r', e', by omega, ?_⟩
    cases hv with
    | refZ _ _ _ _ a ho => exact absurd ho (by omega)
    | refE _ _ _ a hh => exact .refE _ _ _ a (ha _ hh)
    | ref _ _ _ _ _ b o sz cap mm hh hl1 hm hn => exact .ref _ _ _ _ _ b o sz cap mm (ha _ hh) hl1 hm hn
  · rename_i k e q p
    obtain ⟨own', σ', m, h1, r', e', hl, ha, _⟩ := detK_sound r h
    refine ⟨_, σ', own', h1, r', e', by omega, ?_⟩
    cases hv with
    | mp _ _ _ b o sz cap mm h => exact .mp _ _ _ b o sz cap mm (ha _ h)
  · exact ⟨s, σ, own, h, r, Ext.refl _ _ _ _, Nat.le_refl _, hv⟩
theorem takL_sound : ∀ {ss : List SV} {vs : List Value} {own : Nat → Own} {σ : Sto} {K : List SV → Sto → Prop}, Rel own F w σ → vs.length = ss.length → (∀ (i : Nat) (x : SV) (v : Value), ss[i]? = some x → vs[i]? = some v → VS own F w x v) → takL ss σ K →
    ∃ ss' σ' own', K ss' σ' ∧ Rel own' F w σ' ∧ Ext σ.length own F w own' F w ∧ σ.length ≤ σ'.length ∧ ss'.length = ss.length ∧ ∀ (i : Nat) (x : SV) (v : Value), ss'[i]? = some x → vs[i]? = some v → VS own' F w x v
  | [], vs, own, σ, K, r, hl, hv, h => ⟨[], σ, own, h, r, Ext.refl _ _ _ _, Nat.le_refl _, rfl, by simp⟩
  | s :: ss, [], own, σ, K, r, hl, hv, h => by simp at hl
  | s :: ss, v :: vs, own, σ, K, r, hl, hv, h => by
    obtain ⟨s', σ1, own1, h1, r1, e1, l1, v1⟩ := tak1_sound r (hv 0 s v rfl rfl) h
    obtain ⟨ss', σ2, own2, h2, r2, e2, l2, hl2, v2⟩ := takL_sound (vs := vs) r1 (by simpa using hl) (fun i x v hx hv' => (hv (i + 1) x v (by simpa using hx) (by simpa using hv')).ext r e1) h1
    refine ⟨s' :: ss', σ2, own2, h2, r2, e1.trans (e2.mono l1), by omega, by simp [hl2], fun i x u hx hu => ?_⟩
    cases i with
    | zero => simp at hx hu; subst hx hu; exact v1.ext r1 e2
    | succ i => exact v2 i x u (by simpa using hx) (by simpa using hu)
theorem keepK_sound {k ep1 : Nat} {p : Path} {i : Nat} : ∀ {ss : List SV} {j : Nat} {vs : List Value} {own : Nat → Own} {σ : Sto} {K : List SV → Sto → Prop}, Rel own F w σ → vs.length = ss.length → (∀ (t : Nat) (x : SV) (v : Value), ss[t]? = some x → vs[t]? = some v → VS own F w x v) → keepK k ep1 p i j ss σ K →
    ∃ ss' σ' own', K ss' σ' ∧ Rel own' F w σ' ∧ Ext σ.length own F w own' F w ∧ σ.length ≤ σ'.length ∧ ss'.length = ss.length ∧ (∀ (t : Nat) (x : SV) (v : Value), ss'[t]? = some x → vs[t]? = some v → VS own' F w x v) ∧
      (∀ (t : Nat) (k2 e2 : Nat) (q : Nat × Nat) (p2 : Path) (off2 len2 : Nat), ss'[t]? = some (.ref k2 e2 (q :: p2) off2 len2) → k2 = k ∧ q :: p2 = p ++ [(i, j + t)] ∧ off2 = 0 ∧ e2 = ep1) ∧
      (∀ (t : Nat) (k2 e2 : Nat) (q : Nat × Nat) (p2 : Path), ss'[t]? = some (.mp k2 e2 (q :: p2)) → k2 = k ∧ q :: p2 = p ++ [(i, j + t)] ∧ e2 = ep1)
  | [], j, vs, own, σ, K, r, hl, hv, h => ⟨[], σ, own, h, r, Ext.refl _ _ _ _, Nat.le_refl _, rfl, by simp, by simp, by simp⟩
  | s :: ss, j, [], own, σ, K, r, hl, hv, h => by simp at hl
  | s :: ss, j, v :: vs, own, σ, K, r, hl, hv, h => by
    have taken : (tak1 s σ fun s' σ' => keepK k ep1 p i (j + 1) ss σ' fun ss' σ'' => K (s' :: ss') σ'') → ((∀ k2 e2 q p2 off2 len2, s ≠ .ref k2 e2 (q :: p2) off2 len2) ∧ (∀ k2 e2 q p2, s ≠ .mp k2 e2 (q :: p2))) ∨ True →
        ∃ ss' σ' own', K ss' σ' ∧ Rel own' F w σ' ∧ Ext σ.length own F w own' F w ∧ σ.length ≤ σ'.length ∧ ss'.length = (s :: ss).length ∧ (∀ (t : Nat) (x : SV) (u : Value), ss'[t]? = some x → (v :: vs)[t]? = some u → VS own' F w x u) ∧
      (∀ (t : Nat) (k2 e2 : Nat) (q : Nat × Nat) (p2 : Path) (off2 len2 : Nat), ss'[t]? = some (.ref k2 e2 (q :: p2) off2 len2) → k2 = k ∧ q :: p2 = p ++ [(i, j + t)] ∧ off2 = 0 ∧ e2 = ep1) ∧
      (∀ (t : Nat) (k2 e2 : Nat) (q : Nat × Nat) (p2 : Path), ss'[t]? = some (.mp k2 e2 (q :: p2)) → k2 = k ∧ q :: p2 = p ++ [(i, j + t)] ∧ e2 = ep1) := by
      intro h _
      have key : ∃ s' σ' own', (keepK k ep1 p i (j + 1) ss σ' fun ss' σ'' => K (s' :: ss') σ'') ∧ Rel own' F w σ' ∧ Ext σ.length own F w own' F w ∧ σ.length ≤ σ'.length ∧ VS own' F w s' v ∧
          (∀ k2 e2 q p2 off2 len2, s' ≠ .ref k2 e2 (q :: p2) off2 len2) ∧ (∀ k2 e2 q p2, s' ≠ .mp k2 e2 (q :: p2)) := by
        have h0 := hv 0 s v rfl rfl
        unfold tak1 at h
        split at h
        · rename_i k e q p off len
          obtain ⟨own', σ', m, h1, r', e', hl, ha, _⟩ := detK_sound r h
          obtain ⟨h2, h3⟩ := h1
          have h2 := h2.out
          subst h2
          refine ⟨_, σ', own', h3, r', e', by omega, ?_, by simp, by simp⟩
          cases h0 with
          | refZ _ _ _ _ a ho => exact absurd ho (by omega)
          | refE _ _ _ a hh => exact .refE _ _ _ a (ha _ hh)
          | ref _ _ _ _ _ b o sz cap mm hh hl1 hm hn => exact .ref _ _ _ _ _ b o sz cap mm (ha _ hh) hl1 hm hn
        · rename_i k e q p
          obtain ⟨own', σ', m, h1, r', e', hl, ha, _⟩ := detK_sound r h
          refine ⟨_, σ', own', h1, r', e', by omega, ?_, by simp, by simp⟩
          cases h0 with
          | mp _ _ _ b o sz cap mm h => exact .mp _ _ _ b o sz cap mm (ha _ h)
        · rename_i n1 n2
          exact ⟨s, σ, own, h, r, Ext.refl _ _ _ _, Nat.le_refl _, h0, fun k2 e2 q p2 off2 len2 e => n1 k2 e2 q p2 off2 len2 e, fun k2 e2 q p2 e => n2 k2 e2 q p2 e⟩
      obtain ⟨s', σ1, own1, h1, r1, e1, l1, v1, n1, n2⟩ := key
      obtain ⟨ss', σ2, own2, h2, r2, e2, l2, hl2, v2, c1, c2⟩ := keepK_sound (vs := vs) r1 (by simpa using hl) (fun i x v hx hv' => (hv (i + 1) x v (by simpa using hx) (by simpa using hv')).ext r e1) h1
      refine ⟨s' :: ss', σ2, own2, h2, r2, e1.trans (e2.mono l1), by omega, by simp [hl2], fun i x u hx hu => ?_, fun t k2 e2 q p2 off2 len2 ht => ?_, fun t k2 e2 q p2 ht => ?_⟩
      · cases i with
        | zero => simp at hx hu; subst hx hu; exact v1.ext r1 e2
        | succ i => exact v2 i x u (by simpa using hx) (by simpa using hu)
      · cases t with
        | zero => simp at ht; exact absurd ht (n1 _ _ _ _ _ _)
        | succ t => have := c1 t k2 e2 q p2 off2 len2 (by simpa using ht); rwa [show j + 1 + t = j + (t + 1) by omega] at this
      · cases t with
        | zero => simp at ht; exact absurd ht (n2 _ _ _ _)
        | succ t => have := c2 t k2 e2 q p2 (by simpa using ht); rwa [show j + 1 + t = j + (t + 1) by omega] at this
    unfold keepK at h
    split at h
    · rename_i k2 e2 q p2 off2 len2
      rcases h with ⟨h1, h⟩ | h
      · have h1 := h1.out
        obtain ⟨ss', σ2, own2, h2, r2, e2', l2, hl2, v2, c1, c2⟩ := keepK_sound (vs := vs) r (by simpa using hl) (fun i x v hx hv' => hv (i + 1) x v (by simpa using hx) (by simpa using hv')) h
        refine ⟨_ :: ss', σ2, own2, h2, r2, e2', l2, by simp [hl2], fun i x u hx hu => ?_, fun t k3 e3 q3 p3 off3 len3 ht => ?_, fun t k3 e3 q3 p3 ht => ?_⟩
        · cases i with
          | zero => simp at hx hu; subst hx hu; exact (hv 0 _ v rfl rfl).ext r e2'
          | succ i => exact v2 i x u (by simpa using hx) (by simpa using hu)
        · cases t with
          | zero => simp at ht; obtain ⟨rfl, rfl, ⟨rfl, rfl⟩, rfl, rfl⟩ := ht; exact h1
          | succ t => have := c1 t k3 e3 q3 p3 off3 len3 (by simpa using ht); rwa [show j + 1 + t = j + (t + 1) by omega] at this
        · cases t with
          | zero => simp at ht
          | succ t => have := c2 t k3 e3 q3 p3 (by simpa using ht); rwa [show j + 1 + t = j + (t + 1) by omega] at this
      · exact taken h (.inr trivial)
    · rename_i k2 e2 q p2
      rcases h with ⟨h1, h⟩ | h
      · have h1 := h1.out
        obtain ⟨ss', σ2, own2, h2, r2, e2', l2, hl2, v2, c1, c2⟩ := keepK_sound (vs := vs) r (by simpa using hl) (fun i x v hx hv' => hv (i + 1) x v (by simpa using hx) (by simpa using hv')) h
        refine ⟨_ :: ss', σ2, own2, h2, r2, e2', l2, by simp [hl2], fun i x u hx hu => ?_, fun t k3 e3 q3 p3 off3 len3 ht => ?_, fun t k3 e3 q3 p3 ht => ?_⟩
        · cases i with
          | zero => simp at hx hu; subst hx hu; exact (hv 0 _ v rfl rfl).ext r e2'
          | succ i => exact v2 i x u (by simpa using hx) (by simpa using hu)
        · cases t with
          | zero => simp at ht
          | succ t => have := c1 t k3 e3 q3 p3 off3 len3 (by simpa using ht); rwa [show j + 1 + t = j + (t + 1) by omega] at this
        · cases t with
          | zero => simp at ht; obtain ⟨rfl, rfl, rfl, rfl⟩ := ht; exact h1
          | succ t => have := c2 t k3 e3 q3 p3 (by simpa using ht); rwa [show j + 1 + t = j + (t + 1) by omega] at this
      · exact taken h (.inr trivial)
    · exact taken h (.inr trivial)
def Part (own : Nat → Own) (F : Nat → Prop) (w : World) (σ : Sto) (s : SV) (y : T) (u : Value) : Prop :=
  y.cells = [y] ∧ ((y.nd? = none ∧ VT F w y u ∧ rootId s = none) ∨ ∃ k ep n L, rootId s = some k ∧ σ[k]? = some (.nd ep n) ∧ y = n.toT ∧ (own k).am 0 [] = some L ∧ u = n.lv L)
theorem leaf1_cells {y : T} (h : leaf1 y = true) : y.cells = [y] ∧ y.nd? = none := by cases y <;> first | exact ⟨rfl, rfl⟩ | simp [leaf1] at h
theorem partK_out (r : Rel own F w σ) {s : SV} {u : Value} (hv : VS own F w s u) {K : T → Prop} (h : partK σ s K) : ∃ y, K y ∧ Part own F w σ s y u := by
  unfold partK at h
  split at h
  · rename_i y
    cases hl : leaf1 y with
    | false => rw [hl] at h; exact h.elim
    | true =>
      rw [hl] at h
      obtain ⟨h1, h2⟩ := leaf1_cells hl
      cases hv with
      | t _ _ hv => exact ⟨y, h, h1, .inl ⟨h2, hv, rfl⟩⟩
  · rename_i k e off len
    split at h
    · rename_i ep E s ts hk
      obtain ⟨h1, h2⟩ := h
      obtain ⟨h11, h12, h13⟩ := h1.out
      subst h11 h12
      obtain ⟨hT, hB, hep, hfr⟩ := nd_obj r hk
      obtain ⟨L, q1, q2⟩ := (hT.1 [] _ nodeAt_nil).loc
      have q1' : (own k).am 0 [] = some L := by rw [← hep]; exact q1
      rw [nth_eq] at hk
      refine ⟨_, h2, rfl, .inr ⟨k, ep, .row E s ts, L, rfl, hk, rfl, q1', ?_⟩⟩
      cases hv with
      | refZ _ _ _ _ a ho => exact absurd ho (by omega)
      | refE _ _ _ a h => rw [q1'] at h; injection h with h; subst h; rfl
      | ref _ _ _ _ _ b o sz cap mm h hl hm hn =>
        rw [q1'] at h
        injection h with h
        subst h
        obtain ⟨g1, _, _⟩ := q2
        rw [g1, ← h13]
        simp [Nd.lv, Loc.val]
    · exact h.elim
  · rename_i k e
    split at h
    · rename_i ep kk es hk
      obtain ⟨h1, h2⟩ := h
      have h1 := h1.out
      subst h1
      obtain ⟨hT, hB, hep, hfr⟩ := nd_obj r hk
      obtain ⟨b, ents, clock, g1, _⟩ := hT.1 [] _ nodeAt_nil
      have g1' : (own k).am 0 [] = some (.at b 0 0 1 1) := by
        have g2 : (own k).am (ep 0) [] = some (.at b 0 0 1 1) := g1
        rw [hep] at g2; exact g2
      rw [nth_eq] at hk
      refine ⟨_, h2, rfl, .inr ⟨k, ep, .map kk es, _, rfl, hk, rfl, g1', ?_⟩⟩
      cases hv with
      | mp _ _ _ b' o sz cap mm h =>
        rw [g1'] at h
        injection h with h
        injection h with e1
        subst e1
        rfl
    · exact h.elim
  · rename_i f xs
    split at h
    · rename_i ts hm
      refine ⟨_, h, rfl, .inl ⟨rfl, ?_, rfl⟩⟩
      cases hv with
      | fn _ _ vs hs hh =>
        refine .fn _ _ _ (by rw [hs, mapO_len hm]) fun i x v hx hv => ?_
        obtain ⟨y, hy, hfy⟩ := mapO_get hm i x hx
        split at hfy
        · simp at hfy
          subst hfy
          have := hh i _ v hy hv
          cases this with
          | t _ _ h => exact h
        · simp at hfy
    · exact h.elim
  · exact h.elim
theorem partL_out (r : Rel own F w σ) : ∀ {ss : List SV} {us : List Value} {K : List T → Prop}, us.length = ss.length → (∀ (i : Nat) (x : SV) (v : Value), ss[i]? = some x → us[i]? = some v → VS own F w x v) → partL σ ss K →
    ∃ ys, K ys ∧ ys.length = ss.length ∧ ∀ (i : Nat) (s : SV) (y : T) (u : Value), ss[i]? = some s → ys[i]? = some y → us[i]? = some u → Part own F w σ s y u
  | [], us, K, hl, hv, h => ⟨[], h, rfl, by simp⟩
  | s :: ss, [], K, hl, hv, h => by simp at hl
  | s :: ss, u :: us, K, hl, hv, h => by
    obtain ⟨y, h1, h2⟩ := partK_out r (hv 0 s u rfl rfl) h
    obtain ⟨ys, h3, h4, h5⟩ := partL_out r (us := us) (by simpa using hl) (fun i x v hx hv' => hv (i + 1) x v (by simpa using hx) (by simpa using hv')) h1
    refine ⟨y :: ys, h3, by simp [h4], fun i s' y' u' hs hy hu => ?_⟩
    cases i with
    | zero => simp at hs hy hu; subst hs hy hu; exact h2
    | succ i => exact h5 i s' y' u' (by simpa using hs) (by simpa using hy) (by simpa using hu)
theorem unlikeIds_nodup : ∀ {L : List Nat}, unlikeIds L = true → L.Nodup
  | [], _ => List.nodup_nil
  | k :: L, h => by
    simp only [unlikeIds, Bool.and_eq_true, Bool.not_eq_true'] at h
    exact List.nodup_cons.2 ⟨by simpa using h.1, unlikeIds_nodup h.2⟩
end
end Go.Proofs.Ytgladinljapmkaa.Am

/- Stores. -/
namespace Go.Proofs.Ytgladinljapmkaa.Am
open Go.RowKit
set_option linter.unusedVariables false
set_option linter.unusedSimpArgs false
theorem putIds_mem : ∀ {ss : List SV} {t k : Nat} {s : SV}, ss[t]? = some s → rootId s = some k → k ∈ putIds ss
  | [], t, k, s, h, _ => by simp at h
  | x :: ss, 0, k, s, h, hr => by simp at h; subst h; rw [putIds_cons, hr]; simp
  | x :: ss, t + 1, k, s, h, hr => by
    have := putIds_mem (ss := ss) (by simpa using h) hr
    rw [putIds_cons]
    split
    · exact List.mem_cons_of_mem _ this
    · exact this
theorem putIds_one : ∀ {ss : List SV} {t t' k : Nat} {s s' : SV}, (putIds ss).Nodup → ss[t]? = some s → rootId s = some k → ss[t']? = some s' → rootId s' = some k → t = t'
  | [], t, t', k, s, s', _, h, _, _, _ => by simp at h
  | x :: ss, 0, 0, k, s, s', _, _, _, _, _ => rfl
  | x :: ss, 0, t' + 1, k, s, s', hn, h, hr, h', hr' => by
    simp at h; subst h
    rw [putIds_cons, hr] at hn
    exact absurd (putIds_mem (by simpa using h') hr') (List.nodup_cons.1 hn).1
  | x :: ss, t + 1, 0, k, s, s', hn, h, hr, h', hr' => by
    simp at h'; subst h'
    rw [putIds_cons, hr'] at hn
    exact absurd (putIds_mem (by simpa using h) hr) (List.nodup_cons.1 hn).1
  | x :: ss, t + 1, t' + 1, k, s, s', hn, h, hr, h', hr' => by
    have hn' : (putIds ss).Nodup := by
      rw [putIds_cons] at hn
      split at hn
      · exact (List.nodup_cons.1 hn).2
      · exact hn
    exact congrArg (· + 1) (putIds_one hn' (by simpa using h) hr (by simpa using h') hr')
section
variable {P : Program} {tt : Tab} {own : Nat → Own} {F : Nat → Prop} {w : World} {σ : Sto} {env : Env} {a : Act} {N : Nat} {o : Oper}
variable {K : SV → Sto → Prop} {next : Act → World → Prop} {Q : Exit → Act → World → Prop}
theorem run_storeVar_at {t : TypeId} {e : TE} (h : TOk P t e) (w : World) (b off : Nat) (v : Value) (cur : Array Value) (E : TypeId) (hb : w.heap[b]? = some (.cells cur E (0, 0))) (hs : v.cells.size = e.size)
    (h1 : ∀ u ∈ v.cells.toList, u.oneCell' = true) (hfit : off + e.size ≤ cur.size) :
    (storeVar t ⟨b, off, none⟩ v).run P w = .ok () (w.setRow b (cur.toList.take off ++ v.cells.toList ++ cur.toList.drop (off + e.size)).toArray) := by
  have hst := run_storeCells_at P b off E v.cells.toList 0 cur w hb (by simpa [hs] using hfit) h1
  simp only [Nat.add_zero, Array.length_toList, hs] at hst
  simp [storeVar, run_size h, hs, hst]
def Comes (own : Nat → Own) (F : Nat → Prop) (w : World) (σ : Sto) (old : T) (s : SV) (y : T) (u : Value) : Prop :=
  Part own F w σ s y u ∨ (y = old ∧ rootId s = none ∧ ((∃ k e q p off E sz ts, s = .ref k e (q :: p) off ts.length ∧ y = .nst E sz ts) ∨ ∃ k e q p kk es, s = .mp k e (q :: p) ∧ y = .nmp kk es))
theorem cellsT_out (r : Rel own F w σ) : ∀ {xs : List T} {ss : List SV} {us : List Value} {K : List T → Prop}, us.length = ss.length → (∀ (i : Nat) (x : SV) (v : Value), ss[i]? = some x → us[i]? = some v → VS own F w x v) → cellsT σ xs ss K →
    ∃ ys, K ys ∧ ys.length = ss.length ∧ ss.length ≤ xs.length ∧ ∀ (i : Nat) (old : T) (s : SV) (y : T) (u : Value), xs[i]? = some old → ss[i]? = some s → ys[i]? = some y → us[i]? = some u → Comes own F w σ old s y u
  | xs, [], us, K, hl, hv, h => ⟨[], by unfold cellsT at h; exact h, rfl, by simp, by simp⟩
  | [], s :: ss, us, K, hl, hv, h => by unfold cellsT at h; exact h.elim
  | x :: xs, s :: ss, [], K, hl, hv, h => by simp at hl
  | x :: xs, s :: ss, u :: us, K, hl, hv, h => by
    have go : ∀ {y : T}, (cellsT σ xs ss fun ys => K (y :: ys)) → Comes own F w σ x s y u → ∃ ys, K ys ∧ ys.length = (s :: ss).length ∧ (s :: ss).length ≤ (x :: xs).length ∧ ∀ (i : Nat) (old : T) (s' : SV) (y : T) (u' : Value), (x :: xs)[i]? = some old → (s :: ss)[i]? = some s' → ys[i]? = some y → (u :: us)[i]? = some u' → Comes own F w σ old s' y u' := by
      intro y h1 h2
      obtain ⟨ys, h3, h4, h5, h6⟩ := cellsT_out r (us := us) (by simpa using hl) (fun i x v hx hv' => hv (i + 1) x v (by simpa using hx) (by simpa using hv')) h1
      refine ⟨y :: ys, h3, by simp [h4], by simpa using h5, fun i old s' y' u' ho hs hy hu => ?_⟩
      cases i with
      | zero => simp at ho hs hy hu; subst ho hs hy hu; exact h2
      | succ i => exact h6 i old s' y' u' (by simpa using ho) (by simpa using hs) (by simpa using hy) (by simpa using hu)
    unfold cellsT at h
    split at h
    · rename_i k e q p off len
      split at h
      · rename_i E sz ts
        obtain ⟨h1, h2⟩ := h
        have h1 := h1.out
        subst h1
        exact go h2 (.inr ⟨rfl, rfl, .inl ⟨_, _, _, _, _, _, _, _, rfl, rfl⟩⟩)
      · exact h.elim
    · rename_i k e q p
      split at h
      · exact go h (.inr ⟨rfl, rfl, .inr ⟨_, _, _, _, _, _, rfl, rfl⟩⟩)
      · exact h.elim
    · obtain ⟨y, h1, h2⟩ := partK_out r (hv 0 s u rfl rfl) h
      exact go h1 (.inl h2)
theorem setT_setT {sz j : Nat} {x a b : T} (hx : x.cells.length = sz) (hj : j < sz) (ha : a.cells = [a]) : setT sz (setT sz x j [a]) j [b] = setT sz x j [b] := by
  unfold setT
  cases hs : Nat.beq sz 1 with
  | true => rfl
  | false =>
    simp only [cond_false]
    have hag : ∀ l : List T, (T.agg l).cells = l := fun _ => rfl
    rw [hag]
    congr 1
    apply List.ext_getElem?
    intro n
    have g1 := splice_get x.cells [a] j n (by simp; omega)
    have g2 := splice_get (x.cells.take j ++ [a] ++ x.cells.drop (j + [a].length)) [b] j n (by simp; omega)
    have g3 := splice_get x.cells [b] j n (by simp; omega)
    rw [g2, g3, g1]
    split
    · rfl
    · rename_i hc; exact if_neg hc
theorem setAt_setAt : ∀ (p : Path) {nd n0 m m' : Nd}, nodeAt nd p = some n0 → WF nd → setAt (setAt nd p m) p m' = setAt nd p m'
  | [], nd, n0, m, m', hp, hw => by cases nd <;> rfl
  | (i, j) :: p, .map .., n0, m, m', hp, hw => by rw [nodeAt_map] at hp; exact nomatch hp
  | (i, j) :: p, .row E s ts, n0, m, m', hp, hw => by
    obtain ⟨x, c, m0, h1, h2, h3, h4⟩ := nodeAt_cons.1 hp
    have hi := (List.getElem?_eq_some_iff.1 h1).1
    have hcx := hw [] E s ts nodeAt_nil x (List.mem_of_getElem? h1)
    have hj : j < s := by rw [← hcx]; exact (List.getElem?_eq_some_iff.1 h2).1
    have hset : ∀ m, setAt (.row E s ts) ((i, j) :: p) m = .row E s (ts.set i (setT s x j [(setAt m0 p m).toT])) := fun m => by simp only [setAt, nth_eq, h1, h2, h3]
    rw [hset, hset]
    have g1 : (ts.set i (setT s x j [(setAt m0 p m).toT]))[i]? = some (setT s x j [(setAt m0 p m).toT]) := by rw [List.getElem?_set, if_pos rfl, if_pos hi]
    have g2 : (setT s x j [(setAt m0 p m).toT]).cells[j]? = some (setAt m0 p m).toT := by rw [setT_get1 hcx hj (toT_cells _), if_pos rfl]
    simp only [setAt, nth_eq, g1, g2, nd_toT, List.set_set]
    rw [setAt_setAt p h4 (hw.sub (p := [(i, j)]) (nodeAt_cons.2 ⟨x, c, m0, h1, h2, h3, nodeAt_nil⟩)), setT_setT hcx hj (toT_cells _)]
theorem kills_set : ∀ {L : List Nat} {σ : Sto} {k : Nat} {o : SObj}, k ∉ L → kills L (σ.set k o) = (kills L σ).set k o
  | [], σ, k, o, _ => rfl
  | j :: L, σ, k, o, h => by
    simp only [List.mem_cons, not_or] at h
    simp only [kills]
    rw [List.set_comm _ _ (show k ≠ j from h.1)]
    exact kills_set h.2
def plainOf (s : SV) (y : T) : T := match rootId s with | some _ => .any | none => y
theorem store_nd (r : Rel own F w σ) {k : Nat} {ep : Nat → Nat} {nd : Nd} (hk : nth σ k = some (.nd ep nd)) {p : Path} {E : TypeId} {sz : Nat} {xs : List T} (hp : nodeAt nd p = some (.row E sz xs)) {i off : Nat} (hi : i < xs.length) {ss : List SV} {ys : List T} {us : List Value}
    (hl : us.length = ss.length) (hly : ys.length = ss.length) (hn : 0 < ss.length) (ho : off + ss.length ≤ sz) (hu1 : ∀ u ∈ us, u.oneCell' = true) (hv : ∀ (t : Nat) (x : SV) (v : Value), ss[t]? = some x → us[t]? = some v → VS own F w x v)
    (hc : ∀ (t : Nat) (old : T) (s : SV) (y : T) (u : Value), xs[i].cells[off + t]? = some old → ss[t]? = some s → ys[t]? = some y → us[t]? = some u → Comes own F w σ old s y u)
    (c1 : ∀ (t : Nat) (k2 e2 : Nat) (q : Nat × Nat) (p2 : Path) (off2 len2 : Nat), ss[t]? = some (.ref k2 e2 (q :: p2) off2 len2) → k2 = k ∧ q :: p2 = p ++ [(i, off + t)] ∧ off2 = 0 ∧ e2 = ep (p.length + 1))
    (c2 : ∀ (t : Nat) (k2 e2 : Nat) (q : Nat × Nat) (p2 : Path), ss[t]? = some (.mp k2 e2 (q :: p2)) → k2 = k ∧ q :: p2 = p ++ [(i, off + t)] ∧ e2 = ep (p.length + 1))
    (hun : unlikeIds (putIds ss) = true) (hkn : (putIds ss).contains k = false) {mv : Value} (hmv : VS own F w (.pl k (ep p.length) p i off) mv) :
    ∃ (b a : Nat) (cur : Array Value), mv = .pointer (some ⟨b, a, none⟩) ∧ w.heap[b]? = some (.cells cur E (0, 0)) ∧ a + us.length ≤ cur.size ∧
      ∃ own', Rel own' F (w.setRow b (cur.toList.take a ++ us ++ cur.toList.drop (a + us.length)).toArray) ((kills (putIds ss) σ).set k (.nd (bif (putIds ss).isEmpty then ep else bumpE (p.length + 1) ep) (setAt nd p (.row E sz (xs.set i (setT sz xs[i] off ys)))))) ∧
        Ext σ.length own F w own' F (w.setRow b (cur.toList.take a ++ us ++ cur.toList.drop (a + us.length)).toArray) := by
  obtain ⟨hT, hB, hep, hfr⟩ := nd_obj r hk
  have hxi := hT.wf p E sz xs hp xs[i] (List.getElem_mem hi)
  have hold : ∀ t, t < ss.length → ∃ old, xs[i].cells[off + t]? = some old := fun t ht => ⟨_, List.getElem?_eq_getElem (by omega)⟩
  have hcells : ∀ (t : Nat) (y : T), ys[t]? = some y → y.cells = [y] := by
    intro t y hy
    have ht : t < ss.length := by rw [← hly]; exact (List.getElem?_eq_some_iff.1 hy).1
    obtain ⟨old, ho'⟩ := hold t ht
    rcases hc t old _ y _ ho' (List.getElem?_eq_getElem ht) hy (List.getElem?_eq_getElem (by omega)) with h | ⟨rfl, _, h⟩
    · exact h.1
    · rcases h with ⟨_, _, _, _, _, _, _, _, _, rfl⟩ | ⟨_, _, _, _, _, _, _, rfl⟩ <;> rfl
  let ysP := List.zipWith plainOf ss ys
  have hlP : ysP.length = ss.length := by simp [ysP, hly]
  have hgetP : ∀ (t : Nat) (y : T), ysP[t]? = some y → ∃ s y0, ss[t]? = some s ∧ ys[t]? = some y0 ∧ y = plainOf s y0 := by
    intro t y hy
    simp only [ysP, List.getElem?_zipWith] at hy
    cases h1 : ss[t]? with
    | none => simp [h1] at hy
    | some s =>
      cases h2 : ys[t]? with
      | none => simp [h1, h2] at hy
      | some y0 => simp [h1, h2] at hy; exact ⟨s, y0, rfl, rfl, hy.symm⟩
  have hcP : ∀ y ∈ ysP, y.cells = [y] := by
    intro y hy
    obtain ⟨t, ht⟩ := List.getElem?_of_mem hy
    obtain ⟨s, y0, _, h2, rfl⟩ := hgetP t y ht
    unfold plainOf
    split
    · rfl
    · exact hcells t y0 h2
  have hcY : ∀ y ∈ ys, y.cells = [y] := fun y hy => by
    obtain ⟨t, ht⟩ := List.getElem?_of_mem hy
    exact hcells t y ht
  rw [nth_eq] at hk
  obtain ⟨b, a, cur, g1, g2, g3, r2, e2, o', cap, m, g4, g5⟩ := r.storeRow hk hp hi (off := off) (ys := ysP) (us := us) (by omega) (by intro h; rw [h] at hlP; simp at hlP; omega) (by omega) hcP hu1 (fun t y u hy hu => by
    obtain ⟨s, y0, h1, h2, rfl⟩ := hgetP t y hy
    have ht : t < ss.length := (List.getElem?_eq_some_iff.1 h1).1
    obtain ⟨old, h3⟩ := hold t ht
    have hcm := hc t old s y0 u h3 h1 h2 hu
    unfold plainOf
    cases hr : rootId s with
    | some k2 => exact ⟨VT.any _, fun h => absurd rfl h⟩
    | none =>
      rcases hcm with ⟨_, ⟨h4, h5, _⟩ | ⟨k2, _, _, _, h4, _⟩⟩ | ⟨rfl, _, h4⟩
      · refine ⟨?_, fun h => absurd h4 h⟩
        simp only
        cases y0 <;> first | exact h5 | exact nomatch h4
      · rw [hr] at h4; exact nomatch h4
      · refine ⟨?_, fun _ => h3⟩
        have hlen : (p ++ [(i, off + t)]).length = p.length + 1 := by simp
        have hvt := hv t s u h1 hu
        rcases h4 with ⟨k2, ee, q, p2, off2, E2, s2, ts, rfl, rfl⟩ | ⟨k2, ee, q, p2, kk, es, rfl, rfl⟩
        · obtain ⟨rfl, h6, rfl, rfl⟩ := c1 t k2 ee q p2 off2 _ h1
          have hnd : nodeAt nd (p ++ [(i, off + t)]) = some (.row E2 s2 ts) := by
            rw [nodeAt_append hp]
            exact nodeAt_cons.2 ⟨xs[i], _, _, List.getElem?_eq_getElem hi, h3, rfl, nodeAt_nil⟩
          obtain ⟨L, q1, q2⟩ := (hT.1 _ _ hnd).loc
          refine ⟨L, q1, ?_⟩
          have q1' : (own k2).am (ep (p.length + 1)) (q :: p2) = some L := by rw [h6, ← hlen]; exact q1
          generalize hq : ts.length = l at hvt q2
          cases hvt with
          | refZ _ _ _ _ a ho => exact absurd ho (by omega)
          | refE _ _ _ a h => rw [q1'] at h; injection h with h; subst h; rfl
          | ref _ _ _ _ _ b o sz cap mm h hl hm hn =>
            rw [q1'] at h
            injection h with h
            subst h
            obtain ⟨w1, _, _⟩ := q2
            rw [w1]
            simp [Loc.val]
        · obtain ⟨rfl, h6, rfl⟩ := c2 t k2 ee q p2 h1
          have hnd : nodeAt nd (p ++ [(i, off + t)]) = some (.map kk es) := by
            rw [nodeAt_append hp]
            exact nodeAt_cons.2 ⟨xs[i], _, _, List.getElem?_eq_getElem hi, h3, rfl, nodeAt_nil⟩
          obtain ⟨b2, ents, clock, q1, _⟩ := hT.1 _ _ hnd
          refine ⟨_, q1, ?_⟩
          have q1' : (own k2).am (ep (p.length + 1)) (q :: p2) = some (.at b2 0 0 1 1) := by rw [h6, ← hlen]; exact q1
          cases hvt with
          | mp _ _ _ b o sz cap mm h =>
            rw [q1'] at h
            injection h with h
            injection h with w1
            subst w1
            rfl) hmv
  rw [hlP, ← hl] at g3
  rw [hlP, ← hl] at r2 e2
  refine ⟨b, a, cur, g1, g2, g3, ?_⟩
  have hkL : k ∉ putIds ss := by simpa using hkn
  cases hem : (putIds ss).isEmpty with
  | true =>
    have hnil : putIds ss = [] := by simpa using hem
    have hPP : ysP = ys := by
      apply List.ext_getElem?
      intro t
      cases h2 : ys[t]? with
      | none =>
        have := List.getElem?_eq_none_iff.1 h2
        exact List.getElem?_eq_none (by omega)
      | some y0 =>
        have ht : t < ss.length := by rw [← hly]; exact (List.getElem?_eq_some_iff.1 h2).1
        simp only [ysP, List.getElem?_zipWith, List.getElem?_eq_getElem ht, h2, plainOf]
        cases hr : rootId ss[t] with
        | none => rfl
        | some k2 =>
          have := putIds_mem (List.getElem?_eq_getElem ht) hr
          rw [hnil] at this
          simp at this
    rw [hPP] at r2
    rw [hnil]
    exact ⟨own, r2, e2⟩
  | false =>
    simp only [cond_false]
    have hk2 : (σ.set k (.nd ep (setAt nd p (.row E sz (xs.set i (setT sz xs[i] off ysP))))))[k]? = some (.nd ep (setAt nd p (.row E sz (xs.set i (setT sz xs[i] off ysP))))) := by
      rw [List.getElem?_set, if_pos rfl, if_pos (Rel.lt_obj hk)]
    have hp2 := nodeAt_setAt_at p (m := .row E sz (xs.set i (setT sz xs[i] off ysP))) hp hT.wf
    have hx2 : (xs.set i (setT sz xs[i] off ysP))[i]? = some (setT sz xs[i] off ysP) := by rw [List.getElem?_set, if_pos rfl, if_pos hi]
    have nP : ysP ≠ [] := by intro h; rw [h] at hlP; simp at hlP; omega
    have nY : ys ≠ [] := by intro h; rw [h] at hly; simp at hly; omega
    have getY := setT_get (off := off) (ys := ys) hxi (by omega) nY hcY
    have getP := setT_get (off := off) (ys := ysP) hxi (by omega) nP hcP
    have hvals : ∀ t, t < us.length → (cur.toList.take a ++ us ++ cur.toList.drop (a + us.length)).toArray[a + t]? = us[t]? := by
      intro t ht
      rw [List.getElem?_toArray, splice_get _ _ _ _ (by simp; omega), if_pos ⟨by omega, by omega⟩]
      congr 1; omega
    obtain ⟨own', r3, e3⟩ := r2.grafts (k := k) hk2 hp2 hx2 (x' := setT sz xs[i] off ys) (setT_len hxi (by omega) nY hcY) (putIds ss) hkL
      (fun j => if off ≤ j then (match ss[j - off]? with | some s => rootId s | none => none) else none) (b := b) (o := o') (cap := cap) (m := m) g4 (setRow_heap w b cur _ E (0, 0) g2)
      (fun j k2 hj => by
        split at hj
        · rename_i hoj
          split at hj
          · rename_i s hs
            have ht : j - off < ss.length := (List.getElem?_eq_some_iff.1 hs).1
            obtain ⟨old, ho'⟩ := hold (j - off) ht
            rw [show off + (j - off) = j by omega] at ho'
            have hy : ys[j - off]? = some ys[j - off] := List.getElem?_eq_getElem (by omega)
            have hu : us[j - off]? = some us[j - off] := List.getElem?_eq_getElem (by omega)
            have hcm := hc (j - off) old s _ _ (by rw [show off + (j - off) = j by omega]; exact ho') hs hy hu
            refine ⟨putIds_mem hs hj, ?_⟩
            rcases hcm with ⟨_, ⟨_, _, h4⟩ | ⟨k3, ep3, n3, L, h4, h5, h6, h7, h8⟩⟩ | ⟨_, h4, _⟩
            · rw [hj] at h4; exact nomatch h4
            · rw [hj] at h4
              injection h4 with h4
              subst h4
              have hne : k ≠ k2 := fun e => hkL (e ▸ putIds_mem hs hj)
              refine ⟨ep3, n3, .any, us[j - off], L, ?_, ?_, rfl, ?_, ?_, h7, h8⟩
              · rw [List.getElem?_set, if_neg hne]; exact h5
              · rw [getP, if_pos ⟨hoj, by omega⟩]
                simp only [ysP, List.getElem?_zipWith, hs, hy, plainOf, hj]
              · rw [getY, if_pos ⟨hoj, by omega⟩, hy, h6]
              · rw [show o' + i * sz + j = a + (j - off) by omega, hvals _ (by omega)]
                exact hu
            · rw [hj] at h4; exact nomatch h4
          · exact nomatch hj
        · exact nomatch hj)
      (fun j j' k2 h1 h2 => by
        split at h1
        · split at h2
          · split at h1
            · rename_i s1 hs1
              split at h2
              · rename_i s2 hs2
                have := putIds_one (unlikeIds_nodup hun) hs1 h1 hs2 h2
                omega
              · exact nomatch h2
            · exact nomatch h1
          · exact nomatch h2
        · exact nomatch h1)
      (fun j hj => by
        rw [getY, getP, hly, hlP]
        by_cases hr : off ≤ j ∧ j < off + ss.length
        · rw [if_pos hr, if_pos hr]
          have hs : ss[j - off]? = some ss[j - off] := List.getElem?_eq_getElem (by omega)
          have hy : ys[j - off]? = some ys[j - off] := List.getElem?_eq_getElem (by omega)
          rw [if_pos hr.1, hs] at hj
          simp only at hj
          simp only [ysP, List.getElem?_zipWith, hs, hy, plainOf, hj]
        · rw [if_neg hr, if_neg hr])
    rw [setAt_setAt p hp hT.wf, List.set_set, kills_set hkL, List.set_set] at r3
    simp only [List.length_set] at e3
    exact ⟨own', r3, e2.trans e3⟩
theorem op_store (ht : TabOk P tt) (hn : Next P o a own F w σ K next) (r : Rel own F w σ) {t : TypeId} {x y : Operand} (ho : o.op = .store t x y) {sx sy : SV} (hx : VS own F w sx (a.eval x)) (hy : VS own F w sy (a.eval y))
    (hs : storeOp tt t sx sy σ fun σ' => K .any σ') : o.wp P a w next Q := by
  unfold storeOp at hs
  simp only at hs
  cases hg : (tt.at t).ti.good with
  | false => rw [hg] at hs; exact hs.elim
  | true =>
    cases hl : sy.cells.all SV.leaf with
    | false => rw [hg, hl] at hs; exact hs.elim
    | true =>
      have hT := ht.at t hg
      rw [hg, hl, Bool.true_and, cond_true] at hs
      obtain ⟨hc1, hc2, hc3⟩ := hy.cells hl
      have run : ∀ (b off : Nat) (cur : Array Value) (E : TypeId), a.eval x = .pointer (some ⟨b, off, none⟩) → w.heap[b]? = some (.cells cur E (0, 0)) → (a.eval y).cells.size = (tt.at t).size → off + (tt.at t).size ≤ cur.size →
          (execOp a.eval o).run P w = .ok .skip (w.setRow b (cur.toList.take off ++ (a.eval y).cells.toList ++ cur.toList.drop (off + (tt.at t).size)).toArray) := by
        intro b off cur E hx hb hsz hfit
        unfold execOp
        simp only [ho, hx, Instr.storeAt, Instr.sureAddr, Sem.run_bind, Sem.run_pure, Result.andThen_ok, run_storeVar_at hT w b off _ cur E hb hsz hc2 hfit]
      split at hs
      · rename_i k ee p i off
        split at hs
        · rename_i E cs hk
          split at hs
          · obtain ⟨h1, h2, h3, h4⟩ := hs
            have h1 := h1.out
            have h2 := h2.out
            have h3 := h3.out
            subst h1
            rw [forceSto_iff] at h4
            have he := pl_e0 r hk hx
            subst he
            obtain ⟨b, vals, ho1, ho2, hb, hsz, hcs, hone, hno⟩ := var_obj r hk
            have hm := pl_out ho1 hx
            simp only [Nat.zero_mul, Nat.add_zero, Nat.zero_add] at hm
            have hrun := run b off vals E hm hb (by omega) (by omega)
            have hlen : (a.eval y).cells.toList.length = (tt.at t).size := by simp; omega
            have hsl : (setCells cs off sy.cells).length = cs.length := by unfold setCells; simp; omega
            rw [nth_eq] at hk
            have hwr := r.turn (k := k) (own k) (fun _ h => h) (fun _ _ _ h => h) (Rel.lt_obj hk) (w' := w.setRow b (vals.toList.take off ++ (a.eval y).cells.toList ++ vals.toList.drop (off + (tt.at t).size)).toArray) rfl rfl rfl (by simp)
              (fun i hi => heap_setRow_other w b _ i fun e => hi (e ▸ ho2)) (.var E (setCells cs off sy.cells)) (fun _ hvs => by
                refine ⟨b, _, by rw [hsl]; exact ho1, ho2, setRow_heap w b vals _ E (0, 0) hb, by rw [hsl]; simp; omega, ?_, ?_, hno⟩
                · intro j z v hz hv
                  unfold setCells at hz
                  rw [splice_get _ _ _ _ (by omega)] at hz
                  rw [List.getElem?_toArray] at hv
                  have hsp := splice_get vals.toList (a.eval y).cells.toList off j (by simp; omega)
                  rw [hlen] at hsp
                  rw [hsp] at hv
                  split at hz
                  · rename_i hc
                    rw [if_pos (by omega)] at hv
                    exact hvs _ _ (hc3 (j - off) z v hz (by simpa using hv))
                  · rename_i hc
                    rw [if_neg (by omega)] at hv
                    exact hvs _ _ (hcs j z v hz (by simpa using hv))
                · intro v hv
                  simp only [List.mem_append] at hv
                  rcases hv with (hv | hv) | hv
                  · exact hone v (List.take_subset _ _ hv)
                  · exact hc2 v hv
                  · exact hone v (List.drop_subset _ _ hv))
            rw [upd1_id] at hwr
            exact wp_skip' hrun (hn _ _ _ _ _ _ h4 hwr.2 hwr.1 (by simp) (.t _ _ (.any _)))
          · exact hs.elim
        · rename_i ep0 nd0 hk0
          obtain ⟨ss, σ1, own1, h1, r1, e1, l1, hls, hvs, c1, c2⟩ := keepK_sound (vs := (a.eval y).cells.toList) r (by simpa using hc1) (fun t x v hx hv => hc3 t x v hx (by simpa using hv)) hs
          split at h1
          · rename_i ep nd hk
            cases hu : unlikeIds (putIds ss) && !(putIds ss).contains k && !ss.isEmpty with
            | false => rw [hu] at h1; exact h1.elim
            | true =>
              rw [hu] at h1
              simp only [Bool.and_eq_true, Bool.not_eq_true'] at hu
              obtain ⟨g1, g2, g3, g4⟩ := h1
              have g1 := g1.out
              have g2 := g2.out
              have g3 := g3.out
              obtain ⟨n, hp, g5⟩ := updK_out g4
              cases n with
              | map => exact g5.elim
              | row E sz xs =>
                obtain ⟨g6, g7, g8⟩ := g5
                have g6 := g6.out
                have g7 := g7.out
                have g8 := g8.out (x := xs[i]) (by rw [nth_eq]; exact List.getElem?_eq_getElem g6)
                obtain ⟨ys, h2, h3, h4, h5⟩ := cellsT_out r1 (us := (a.eval y).cells.toList) (by simp; omega) (fun t x v hx hv => hvs t x v hx hv) g8
                rw [forceSto_iff] at h2
                subst g2
                rw [← g3] at c1 c2
                have hz : 0 < ss.length := by
                  cases ss with
                  | nil => simp at hu
                  | cons => simp
                obtain ⟨b, ad, cur, k1, k2, k3, own', r', e'⟩ := store_nd r1 hk hp g6 (off := off) (ss := ss) (ys := ys) (us := (a.eval y).cells.toList) (by simp; omega) h3 (by omega) (by omega) hc2 hvs
                  (fun t old s y u q1 q2 q3 q4 => h5 t old s y u (by rw [List.getElem?_drop]; exact q1) q2 q3 q4) c1 c2 hu.1.1 hu.1.2 (hx.ext r e1)
                have hsz : (a.eval y).cells.toList.length = (tt.at t).size := by simp; omega
                have hb0 : w.heap[b]? = some (.cells cur E (0, 0)) := k2
                have hrun := run b ad cur E k1 hb0 (by simpa using hsz) (by omega)
                rw [← hsz] at hrun
                exact wp_skip' hrun (hn _ _ _ _ _ _ h2 (e1.trans (e'.mono l1)) r' (by simp [kills_len]; exact l1) (.t _ _ (.any _)))
          · exact h1.elim
        · exact hs.elim
      · exact hs.elim
end
end Go.Proofs.Ytgladinljapmkaa.Am

/- Fields, indexes, numbers, comparisons, what is built. -/
namespace Go.Proofs.Ytgladinljapmkaa.Am
open Go.RowKit
set_option linter.unusedVariables false
set_option linter.unusedSimpArgs false
section
variable {P : Program} {tt : Tab} {own : Nat → Own} {F : Nat → Prop} {w : World} {σ : Sto} {env : Env} {a : Act} {N : Nat} {o : Oper}
variable {K : SV → Sto → Prop} {next : Act → World → Prop} {Q : Exit → Act → World → Prop}
theorem hasField_ok (ht : TabOk P tt) {s f : Nat} (h : hasField tt s f = true) : ∃ (fields : Array Field) (fd : Field), P.underlying s = some (.struct fields) ∧ fields[f]? = some fd ∧ fd.type = (fieldOf tt s f).1 ∧ fd.offset = (fieldOf tt s f).2 ∧
    TOk P fd.type (tt.at (fieldOf tt s f).1) ∧ 0 < (tt.at (fieldOf tt s f).1).size := by
  unfold hasField at h
  split at h
  · rename_i fs hfs
    have hg : (tt.at s).ti.good = true := by rw [hfs]; rfl
    obtain ⟨fields, hu, hm⟩ := und_struct (ht.at s hg) hfs
    have hfo : fieldOf tt s f = (nth fs f).getD (0, 0) := by unfold fieldOf; rw [hfs]
    split at h
    · rename_i x hx
      simp only [Bool.and_eq_true] at h
      rw [hfo, hx]
      rw [nth_eq, ← hm, List.getElem?_map, Array.getElem?_toList] at hx
      cases hfd : fields[f]? with
      | none => simp [hfd] at hx
      | some fd =>
        simp [hfd] at hx
        subst hx
        exact ⟨fields, fd, hu, hfd, rfl, rfl, ht.at _ h.1, by simpa [Nat.blt_eq] using h.2⟩
    · exact absurd h (by simp)
  · exact absurd h (by simp)
theorem op_fieldAddr (ht : TabOk P tt) (hn : Next P o a own F w σ K next) (r : Rel own F w σ) {s : TypeId} {x : Operand} {f : Nat} (ho : o.op = .fieldAddr s x f) {sx : SV} (hx : VS own F w sx (a.eval x)) (hf : hasField tt s f = true)
    (hs : match (generalizing := false) sx with
      | .t (.ptr cs) => K (.t (.ptr (cs.drop (fieldOf tt s f).2))) σ
      | .pl k e p i off => K (.pl k e p i (off + (fieldOf tt s f).2)) σ
      | _ => False) : o.wp P a w next Q := by
  obtain ⟨fields, fd, hu, hfd, h1, h2, hT, h3⟩ := hasField_ok ht hf
  have run : ∀ (b off : Nat), a.eval x = .pointer (some ⟨b, off, none⟩) → (execOp a.eval o).run P w = .ok (.value (.pointer (some ⟨b, off + (fieldOf tt s f).2, none⟩))) w := by
    intro b off hx
    unfold execOp
    have hz : ¬ (tt.at (fieldOf tt s f).1).size = 0 := by omega
    simp only [ho, hx, Instr.fieldAt, Sem.run_bind, run_underlying hu, Result.andThen_ok, hfd, Instr.sureAddr, Sem.run_pure, fieldPlace, run_size hT, hz, if_false, add_plain, h2]
  split at hs
  · rename_i cs
    generalize hm : a.eval x = mv at hx
    cases hx with
    | t _ _ hv =>
      cases hv with
      | ptr _ b off vals hF hcell h =>
        refine op_pure hn r (run b off hm) hs (.t _ _ (.ptr _ b _ (fun j => vals ((fieldOf tt s f).2 + j)) hF ?_ ?_))
        · intro j hj
          rw [Nat.add_assoc]
          exact hcell _ (by simp at hj; omega)
        · intro j y hy
          rw [List.getElem?_drop] at hy
          exact h _ y hy
  · rename_i k e p i off
    generalize hm : a.eval x = mv at hx
    cases hx with
    | pl _ _ _ _ _ b o' sz cap m h =>
      refine op_pure hn r (run b _ hm) hs ?_
      rw [Nat.add_assoc]
      exact .pl k e p i _ b o' sz cap m h
  · exact hs.elim
theorem op_nilCheck (hn : Next P o a own F w σ K next) (r : Rel own F w σ) {x : Operand} (ho : o.op = .nilCheck x) {sx : SV} (hx : VS own F w sx (a.eval x))
    (hs : match (generalizing := false) sx with
      | .t (.ptr cs) => K (.t (.ptr cs)) σ
      | .pl k e p i off => K (.pl k e p i off) σ
      | _ => False) : o.wp P a w next Q := by
  split at hs
  · rename_i cs
    generalize hm : a.eval x = mv at hx
    cases hx with
    | t _ _ hv =>
      cases hv with
      | ptr _ b off vals hF hcell h =>
        refine op_pure hn r (mv := .pointer (some ⟨b, off, none⟩)) ?_ hs (.t _ _ (.ptr _ b off vals hF hcell h))
        unfold execOp
        simp [ho, hm]
  · rename_i k e p i off
    generalize hm : a.eval x = mv at hx
    have hx0 := hx
    cases hx with
    | pl _ _ _ _ _ b o' sz cap m h =>
      refine op_pure hn r ?_ hs hx0
      unfold execOp
      simp [ho, hm]
  · exact hs.elim
theorem run_part {t : TypeId} {e : TE} (h : TOk P t e) (w : World) (cs : Array Value) (off : Nat) (hfit : off + e.size ≤ cs.size) :
    (part t cs off).run P w = .ok (if e.ti.isAgg then .agg ((List.range e.size).map fun j => cs.getD (off + j) undef).toArray else cs.getD (off + 0) undef) w := by
  unfold part
  rw [Sem.run_bind, run_isAgg h]
  simp only [Result.andThen_ok]
  cases ha : e.ti.isAgg with
  | true =>
    simp only [if_true, Sem.run_bind, run_size h, Result.andThen_ok, Sem.run_pure]
    congr 2
    apply Array.ext'
    apply List.ext_getElem?
    intro j
    simp only [Array.toList_extract, List.extract_eq_take_drop, List.getElem?_take, List.getElem?_drop, Array.getElem?_toList, List.getElem?_map]
    by_cases hj : j < e.size
    · simp [hj, show j < off + e.size - off by omega, Array.getD_eq_getD_getElem?, Array.getElem?_eq_getElem (show off + j < cs.size by omega)]
    · simp [hj, show ¬ j < off + e.size - off by omega]
  | false =>
    have := h.one ha
    simp [Array.getElem?_eq_getElem (show off < cs.size by omega), Array.getD_eq_getD_getElem?]
theorem op_field (ht : TabOk P tt) (hn : Next P o a own F w σ K next) (r : Rel own F w σ) {s : TypeId} {x : Operand} {f : Nat} (ho : o.op = .field s x f) {sx : SV} (hx : VS own F w sx (a.eval x)) (hf : hasField tt s f = true)
    (hs : match (generalizing := false) sx with
      | .t (.agg cs) => Ob ((fieldOf tt s f).2 + (tt.at (fieldOf tt s f).1).size ≤ cs.length) ∧ K (.t (mkT (tt.at (fieldOf tt s f).1).ti.isAgg (tt.at (fieldOf tt s f).1).size (cs.drop (fieldOf tt s f).2))) σ
      | .agg cs => Ob ((fieldOf tt s f).2 + (tt.at (fieldOf tt s f).1).size ≤ cs.length) ∧ K (mkS (tt.at (fieldOf tt s f).1).ti.isAgg (tt.at (fieldOf tt s f).1).size (cs.drop (fieldOf tt s f).2)) σ
      | _ => False) : o.wp P a w next Q := by
  obtain ⟨fields, fd, hu, hfd, h1, h2, hT, h3⟩ := hasField_ok ht hf
  have run : ∀ (vs : Array Value), a.eval x = .agg vs → (fieldOf tt s f).2 + (tt.at (fieldOf tt s f).1).size ≤ vs.size →
      (execOp a.eval o).run P w = .ok (.value (if (tt.at (fieldOf tt s f).1).ti.isAgg then .agg ((List.range (tt.at (fieldOf tt s f).1).size).map fun j => vs.getD ((fieldOf tt s f).2 + j) undef).toArray else vs.getD ((fieldOf tt s f).2 + 0) undef)) w := by
    intro vs hx hfit
    unfold execOp
    simp only [ho, hx, Instr.field, Sem.run_bind, run_underlying hu, Result.andThen_ok, hfd, asAgg, Sem.run_pure, h2, run_part hT w vs _ hfit]
  split at hs
  · rename_i cs
    obtain ⟨h4, h5⟩ := hs
    have h4 := h4.out
    generalize hm : a.eval x = mv at hx
    cases hx with
    | t _ _ hv =>
      cases hv with
      | agg _ vs hsz h =>
        refine op_pure hn r (run vs hm (by omega)) h5 (.t _ _ (mkT_VT (f := fun j => vs.getD ((fieldOf tt s f).2 + j) undef) (by simp; omega) hT.one fun j y hy hj => ?_))
        rw [List.getElem?_drop] at hy
        refine h _ y _ hy ?_
        simp [Array.getD_eq_getD_getElem?, Array.getElem?_eq_getElem (show (fieldOf tt s f).2 + j < vs.size by omega)]
  · rename_i cs
    obtain ⟨h4, h5⟩ := hs
    have h4 := h4.out
    generalize hm : a.eval x = mv at hx
    cases hx with
    | agg _ vs hsz h =>
      refine op_pure hn r (run vs hm (by omega)) h5 (mkS_VS (f := fun j => vs.getD ((fieldOf tt s f).2 + j) undef) (by simp; omega) hT.one fun j y hy hj => ?_)
      rw [List.getElem?_drop] at hy
      refine h _ y _ hy ?_
      simp [Array.getD_eq_getD_getElem?, Array.getElem?_eq_getElem (show (fieldOf tt s f).2 + j < vs.size by omega)]
  · exact hs.elim
theorem op_indexAddr (ht : TabOk P tt) (hn : Next P o a own F w σ K next) (r : Rel own F w σ) {t : TypeId} {x i : Operand} (ho : o.op = .indexAddr t x i) {sx si : SV} (hx : VS own F w sx (a.eval x)) (hi : VS own F w si (a.eval i))
    (hs : match (generalizing := false) (tt.at t).ti, sx, si with
    | .slice e, .t (.sl sz xs), .t (.int _ n) => bif Nat.beq sz (tt.at e).size && (tt.at e).ti.good then Ob (0 ≤ n) ∧ Ob (n < xs.length) ∧ exE xs n.toNat fun x => K (.t (.ptr x.cells)) σ else False
    | .slice e, .ref k ee p off len, .t (.int _ n) => match nth σ k with
      | some (.nd ep nd) => Ob (ee = ep p.length) ∧ nodeK nd p fun m => match m with
        | .row _ sz _ => bif Nat.beq sz (tt.at e).size && (tt.at e).ti.good then Ob (0 ≤ n) ∧ Ob (n < len) ∧ K (.pl k ee p (off + n.toNat) 0) σ else False
        | .map .. => False
      | _ => False
    | .arr m e, .pl k ee p i off, .t (.int _ n) => bif (tt.at e).ti.good then Ob (0 ≤ n) ∧ Ob (n < m) ∧ (match p, nth σ k with
      | [], some (.nd ep (.row _ sz _)) => bif Nat.beq sz 1 && Nat.beq (tt.at e).size 1 then Ob (ee = ep 0) ∧ K (.pl k ee [] (i + n.toNat) off) σ else K (.pl k ee [] i (off + n.toNat * (tt.at e).size)) σ
      | p, _ => K (.pl k ee p i (off + n.toNat * (tt.at e).size)) σ) else False
    | _, _, _ => False) : o.wp P a w next Q := by
  have run : ∀ (e : TypeId) (b off len cap : Nat) (kk : IntKind) (n : Int), (tt.at t).ti = .slice e → (tt.at e).ti.good = true → a.eval x = .slice (some ⟨b, off, none⟩) len cap → a.eval i = .int kk n → 0 ≤ n → n < len →
      (execOp a.eval o).run P w = .ok (.value (.pointer (some ⟨b, off + n.toNat * (tt.at e).size, none⟩))) w := by
    intro e b off len cap kk n he hge hx hi h0 h1
    have hu := und_slice (ht.at t (by rw [he]; rfl)) he
    unfold execOp
    simp only [ho, hx, hi, Instr.indexAt, asIntOf, Sem.run_bind, Sem.run_pure, Result.andThen_ok, run_underlying hu, if_pos (And.intro h0 h1), run_size (ht.at e hge), add_plain]
  split at hs
  · rename_i e sz xs kk n he
    cases hb : Nat.beq sz (tt.at e).size && (tt.at e).ti.good with
    | false => rw [hb] at hs; exact hs.elim
    | true =>
      rw [hb] at hs
      simp only [Bool.and_eq_true] at hb
      have hsz := Nat.eq_of_beq_eq_true hb.1
      obtain ⟨h1, h2, h3⟩ := hs
      have h1 := h1.out
      have h2 := h2.out
      have hlt : n.toNat < xs.length := by omega
      have h3 := h3.out (x := xs[n.toNat]) (by rw [nth_eq]; exact List.getElem?_eq_getElem hlt)
      generalize hmi : a.eval i = mi at hi
      generalize hmx : a.eval x = mx at hx
      cases hi with
      | t _ _ hi =>
        cases hi
        cases hx with
        | t _ _ hx =>
          cases hx with
          | sl0 => simp at h2; omega
          | sl _ _ b off c vals hp hc hnn hF hz hcell h1c h =>
            refine op_pure hn r (run e b off _ c _ n he hb.2 hmx hmi h1 h2) h3 (.t _ _ (.ptr _ b _ (fun j => vals (n.toNat * sz + j)) hF ?_ ?_))
            · intro j hj
              rw [hz _ (List.getElem_mem hlt)] at hj
              rw [← hsz, Nat.add_assoc]
              refine hcell _ ?_
              have hle : (n.toNat + 1) * sz ≤ xs.length * sz := Nat.mul_le_mul_right _ (by omega)
              rw [Nat.add_mul, Nat.one_mul] at hle
              omega
            · intro j y hy
              exact h n.toNat _ j y (List.getElem?_eq_getElem hlt) hy
  · rename_i e k ee p off len kk n he
    split at hs
    · rename_i ep nd hk
      obtain ⟨hee, hs⟩ := hs
      have hee := hee.out
      subst hee
      obtain ⟨nn, hp, h5⟩ := nodeK_out hs
      obtain ⟨hT, hB, hep, hfr⟩ := nd_obj r hk
      cases nn with
      | map => exact h5.elim
      | row E sz xs =>
        obtain ⟨hb, h1, h2, h3⟩ := bif_elim0 h5
        simp only [Bool.and_eq_true] at hb
        have hsz := Nat.eq_of_beq_eq_true hb.1
        have h1 := h1.out
        have h2 := h2.out
        generalize hmi : a.eval i = mi at hi
        generalize hmx : a.eval x = mx at hx
        cases hi with
        | t _ _ hi =>
          cases hi
          cases hx with
          | refE => omega
          | refZ => omega
          | ref _ _ _ _ _ b o' sz' cap m h hl hm hnn =>
            have hs2 : sz' = sz := by
              have h' : (own k).cur ep p = some (.at b o' sz' cap m) := h
              rcases hT.1 p _ hp with ⟨_, a, ha⟩ | ⟨b2, o2, cap2, vals2, ha, _⟩
              · rw [h'] at ha; exact nomatch ha
              · rw [h'] at ha; injection ha with ha; injection ha
            subst hs2
            refine op_pure hn r (run e b _ len _ _ n he hb.2 hmx hmi h1 h2) h3 ?_
            have := VS.pl (own := own) (F := F) (w := w) k (ep p.length) p (off + n.toNat) 0 b o' sz' cap m h
            rw [Nat.add_mul, Nat.add_zero, hsz, ← Nat.add_assoc] at this
            rw [hsz]
            exact this
    · exact hs.elim
  · rename_i m e k ee p i0 off kk n he
    obtain ⟨hb, h1, h2, h3⟩ := bif_elim0 hs
    have h1 := h1.out
    have h2 := h2.out
    generalize hmi : a.eval i = mi at hi
    generalize hmx : a.eval x = mx at hx
    cases hi with
    | t _ _ hi =>
      cases hi
      cases hx with
      | pl _ _ _ _ _ b o' sz cap mm h =>
        have hu := und_arr (ht.at t (by rw [he]; rfl)) he
        have hrun : (execOp a.eval o).run P w = .ok (.value (.pointer (some ⟨b, o' + i0 * sz + off + n.toNat * (tt.at e).size, none⟩))) w := by
          unfold execOp
          simp only [ho, hmx, hmi, Instr.indexAt, asIntOf, Sem.run_bind, Sem.run_pure, Result.andThen_ok, run_underlying hu, Instr.sureAddr, if_pos (And.intro h1 h2), run_size (ht.at e hb), add_plain]
        have hold : VS own F w (.pl k ee p i0 (off + n.toNat * (tt.at e).size)) (.pointer (some ⟨b, o' + i0 * sz + off + n.toNat * (tt.at e).size, none⟩)) := by
          rw [Nat.add_assoc]
          exact .pl k ee p i0 _ b o' sz cap mm h
        split at h3
        · rename_i ep E2 sz2 xs2 hk
          cases hq : Nat.beq sz2 1 && Nat.beq (tt.at e).size 1 with
          | false => rw [hq, cond_false] at h3; exact op_pure hn r hrun h3 hold
          | true =>
            rw [hq, cond_true] at h3
            obtain ⟨h4, h5⟩ := h3
            have h4 := h4.out
            simp only [Bool.and_eq_true] at hq
            have q1 := Nat.eq_of_beq_eq_true hq.1
            have q2 := Nat.eq_of_beq_eq_true hq.2
            obtain ⟨hTr, _, hep, _⟩ := nd_obj r hk
            have hsz : sz = 1 := by
              have h' : (own k).cur ep [] = some (.at b o' sz cap mm) := by rw [h4] at h; exact h
              rcases hTr.1 [] _ nodeAt_nil with ⟨_, a, ha⟩ | ⟨b2, o2, cap2, vals2, ha, _⟩
              · rw [h'] at ha; exact nomatch ha
              · rw [h'] at ha; injection ha with ha; injection ha with _ _ e3; omega
            refine op_pure hn r hrun h5 ?_
            have := VS.pl (own := own) (F := F) (w := w) k ee [] (i0 + n.toNat) off b o' sz cap mm h
            rw [hsz] at this ⊢
            rw [q2, show o' + i0 * 1 + off + n.toNat * 1 = o' + (i0 + n.toNat) * 1 + off by omega]
            exact this
        · exact op_pure hn r hrun h3 hold
  · exact hs.elim
theorem op_move (hn : Next P o a own F w σ K next) (r : Rel own F w σ) {x : Operand} (ho : o.op = .move x ∨ o.op = .assign x) {sx : SV} (hx : VS own F w sx (a.eval x)) (hs : K sx σ) : o.wp P a w next Q := by
  refine op_pure hn r (mv := a.eval x) ?_ hs hx
  unfold execOp
  rcases ho with ho | ho <;> simp [ho]
theorem op_pick (hn : Next P o a own F w σ K next) (r : Rel own F w σ) {c x y : Operand} (ho : o.op = .pick c x y) {cb : Bool} (hc : VS own F w (.t (.bool cb)) (a.eval c)) {sx sy : SV} (hx : VS own F w sx (a.eval x)) (hy : VS own F w sy (a.eval y))
    (hs : pickOp cb sx sy fun v => K v σ) : o.wp P a w next Q := by
  generalize hmc : a.eval c = mc at hc
  cases hc with
  | t _ _ hc =>
    cases hc
    have run : (execOp a.eval o).run P w = .ok (.value (if cb then a.eval x else a.eval y)) w := by
      unfold execOp
      simp [ho, hmc, asBool]
    have bval : ∀ {b : Bool} {v : Value}, VS own F w (.t (.bool b)) v → v = .bool b := by
      intro b v h
      cases h with
      | t _ _ h => cases h; rfl
    have gval : ∀ {e b : Bool} {v : Value}, VS own F w (.g e (.t (.bool b))) v → e = true → v = .bool b := by
      intro e b v h he
      cases h with
      | g _ _ _ _ h => exact bval (h he)
    unfold pickOp at hs
    split at hs
    · rename_i p q
      refine op_pure hn r run hs ?_
      cases cb
      · rw [show (if false = true then a.eval x else a.eval y) = a.eval y from rfl, bval hy]; exact .t _ _ (.bool _)
      · rw [show (if true = true then a.eval x else a.eval y) = a.eval x from rfl, bval hx]; exact .t _ _ (.bool _)
    · obtain ⟨h1, hs⟩ := hs
      have h1 := h1.out
      refine op_pure hn r run hs ?_
      cases cb
      · rw [show (if false = true then a.eval x else a.eval y) = a.eval y from rfl, bval hy]; exact .t _ _ (.bool _)
      · rw [show (if true = true then a.eval x else a.eval y) = a.eval x from rfl, gval hx (h1 rfl)]; exact .t _ _ (.bool _)
    · obtain ⟨h1, hs⟩ := hs
      have h1 := h1.out
      refine op_pure hn r run hs ?_
      cases cb
      · rw [show (if false = true then a.eval x else a.eval y) = a.eval y from rfl, gval hy (h1 rfl)]; exact .t _ _ (.bool _)
      · rw [show (if true = true then a.eval x else a.eval y) = a.eval x from rfl, bval hx]; exact .t _ _ (.bool _)
    · obtain ⟨h1, h2, hs⟩ := hs
      have h1 := h1.out
      have h2 := h2.out
      refine op_pure hn r run hs ?_
      cases cb
      · rw [show (if false = true then a.eval x else a.eval y) = a.eval y from rfl, gval hy (h2 rfl)]; exact .t _ _ (.bool _)
      · rw [show (if true = true then a.eval x else a.eval y) = a.eval x from rfl, gval hx (h1 rfl)]; exact .t _ _ (.bool _)
    · exact hs.elim
end
end Go.Proofs.Ytgladinljapmkaa.Am

/- Numbers, comparisons, what is built, maps, lengths. -/
namespace Go.Proofs.Ytgladinljapmkaa.Am
open Go.RowKit
set_option linter.unusedVariables false
set_option linter.unusedSimpArgs false
section
variable {P : Program} {tt : Tab} {own : Nat → Own} {F : Nat → Prop} {w : World} {σ : Sto} {env : Env} {a : Act} {N : Nat} {o : Oper}
variable {K : SV → Sto → Prop} {next : Act → World → Prop} {Q : Exit → Act → World → Prop}
theorem run_intOp {op : BinOp} {t : TypeId} {x y : Operand} {k k' : IntKind} {n m : Int} {K : T → Prop} (hk : (match op with | .shl => true | .shr => true | _ => sameK k k') = true) (h : intOp op k n m K) :
    ∃ (r : T) (v : Value), K r ∧ (do eqGuard op t x y (.int k n) (.int k' m); Go.binOp op t (.int k n) (.int k' m) : Sem Value).run P w = .ok v w ∧ VT F w r v := by
  cases op with
  | shl =>
    obtain ⟨h1, h2⟩ := h
    have h1 := h1.out
    exact ⟨_, _, h2, by simp [eqGuard, Go.binOp, Op.shift, shlI, show ¬ m < 0 by omega], .int _ _⟩
  | shr =>
    obtain ⟨h1, h2⟩ := h
    have h1 := h1.out
    exact ⟨_, _, h2, by simp [eqGuard, Go.binOp, Op.shift, shrI, show ¬ m < 0 by omega], .int _ _⟩
  | _ =>
   have := sameK_eq hk
   subst this
   simp only [intOp] at h
   first
    | exact h.elim
    | (refine ⟨_, _, h, ?_, .int _ _⟩; simp [eqGuard, Go.binOp, Op.intArith, addI, subI, mulI]; done)
    | (refine ⟨_, _, h, ?_, .int _ _⟩; simp [eqGuard, Go.binOp, Op.intBits, andI, orI, xorI, andnI]; done)
    | (refine ⟨_, _, h, ?_, .bool _⟩; simp [eqGuard, Go.binOp, Op.intCmp, eqI_beq, ltI_dec, leI_dec]; done)
    | (refine ⟨_, _, h, ?_, .bool _⟩; simp [eqGuard, Go.binOp, Op.intCmp, eqI_beq, ltI_dec, leI_dec]; rfl)
    | (obtain ⟨h1, h2⟩ := h; have h1 := h1.out; refine ⟨_, _, h2, ?_, .int _ _⟩; simp [eqGuard, Go.binOp, Op.intDiv, quoI, remI, h1]; done)
    | (obtain ⟨h1, h2⟩ := h; have h1 := h1.out; refine ⟨_, _, h2, ?_, .int _ _⟩; simp [eqGuard, Go.binOp, Op.intDiv, quoI, remI, h1]; rfl)
theorem run_addS {p q : ByteArray} (h : p.size + q.size ≤ 9223372036854775807) : (Op.stringOp .add p q).run P w = .ok (.string (addS p q)) w := by
  have h2 : ¬ (((p.size + q.size : Nat) : Int) > IntKind.i64.max) := by
    have : IntKind.i64.max = 9223372036854775807 := by decide
    omega
  unfold Op.stringOp
  simp only [if_neg h2]
  unfold addS
  rfl
theorem eqF_cons {f : TypeId × Nat} {fs : List (TypeId × Nat)} {x y : T} {xs ys : List T} {b : Bool} (h : eqF tt (f :: fs) (x :: xs) (y :: ys) = some b) :
    ∃ c d, eqT1 (tt.at f.1).ti x y = some c ∧ eqF tt fs xs ys = some d ∧ b = (c && d) := by
  have gen : (match eqT1 (tt.at f.1).ti x y, eqF tt fs xs ys with | some a, some b => some (a && b) | _, _ => none) = some b → ∃ c d, eqT1 (tt.at f.1).ti x y = some c ∧ eqF tt fs xs ys = some d ∧ b = (c && d) := by
    intro h
    split at h
    · rename_i p q hp hq
      simp at h
      exact ⟨p, q, hp, hq, h.symm⟩
    · simp at h
  cases fs with
  | cons g gs => exact gen (by rw [eqF] at h <;> first | exact h | (intros; simp_all))
  | nil =>
    cases xs with
    | cons z zs => exact absurd h (by simp [eqF])
    | nil =>
      cases ys with
      | cons z zs => exact absurd h (by simp [eqF])
      | nil => exact ⟨b, true, by simpa [eqF] using h, by simp [eqF], by simp⟩
theorem run_equalIn1 (ht : TabOk P tt) {t : TypeId} {x y : T} {v u : Value} {c : Bool} (d : Nat) (h : eqT1 (tt.at t).ti x y = some c) (hx : VT F w x v) (hy : VT F w y u) :
    (Op.equalIn (d + 1) t v u).run P w = .ok c w ∧ (tt.at t).ti.good = true ∧ (tt.at t).ti.isAgg = false := by
  unfold eqT1 at h
  split at h
  · rename_i k j p k2 q hti
    cases hb : sameK j k2 with
    | false => rw [hb] at h; simp at h
    | true =>
      rw [hb] at h
      simp at h
      cases hx; cases hy
      have := sameK_eq hb
      subst this
      have hu := und_int (ht.at t (by rw [hti]; rfl)) hti
      exact ⟨by simp [Op.equalIn, run_underlying hu]; rw [← h, eqI_beq], by rw [hti]; rfl, by rw [hti]; rfl⟩
  · rename_i p q hti
    cases hx; cases hy
    have hu := und_bool (ht.at t (by rw [hti]; rfl)) hti
    simp at h
    exact ⟨by simp [Op.equalIn, run_underlying hu]; exact h, by rw [hti]; rfl, by rw [hti]; rfl⟩
  · rename_i p q hti
    cases hx; cases hy
    have hu := und_str (ht.at t (by rw [hti]; rfl)) hti
    simp at h
    exact ⟨by simp [Op.equalIn, run_underlying hu, beq_toListBytes]; rw [← h]; unfold eqS; rfl, by rw [hti]; rfl, by rw [hti]; rfl⟩
  · simp at h
theorem eqFields_plain (ht : TabOk P tt) : ∀ (fs : List Field) (n d : Nat) (xs ys : Array Value) (zs us : List T) (b : Bool), offsOk P n fs = true → eqF tt (fs.map fun f => (f.type, f.offset)) zs us = some b →
    (∀ i z, zs[i]? = some z → ∃ v, xs[n + i]? = some v ∧ VT F w z v) → (∀ i z, us[i]? = some z → ∃ v, ys[n + i]? = some v ∧ VT F w z v) → (Op.eqFields (d + 1) xs ys fs).run P w = .ok b w := by
  intro fs
  induction fs with
  | nil =>
    intro n d xs ys zs us b _ he _ _
    cases zs <;> cases us <;> simp [eqF] at he
    subst he; rfl
  | cons f fs ih =>
    intro n d xs ys zs us b ho he hx hy
    cases zs with
    | nil => cases us <;> cases fs <;> simp [eqF] at he
    | cons z zs =>
      cases us with
      | nil => cases zs <;> cases fs <;> simp [eqF] at he
      | cons u us =>
        simp only [offsOk, Bool.and_eq_true] at ho
        obtain ⟨⟨h1, h2⟩, h4⟩ := ho
        have h1 := Nat.eq_of_beq_eq_true h1
        obtain ⟨c, e, hc, hes, rfl⟩ := eqF_cons he
        obtain ⟨v, hv, hvz⟩ := hx 0 z rfl
        obtain ⟨v', hv', hvu⟩ := hy 0 u rfl
        simp only [Nat.add_zero] at hv hv'
        obtain ⟨q1, q2, q3⟩ := run_equalIn1 ht d hc hvz hvu
        have hagg : (isAgg f.type).run P w = .ok false w := by rw [run_isAgg (ht.at _ q2), q3]
        have p1 : (part f.type xs f.offset).run P w = .ok v w := by simp [part, hagg, h1, hv]
        have p2 : (part f.type ys f.offset).run P w = .ok v' w := by simp [part, hagg, h1, hv']
        have p3 := ih (n + 1) d xs ys zs us e h4 hes (fun i z hz => by have := hx (i + 1) z (by simpa using hz); rwa [show n + (i + 1) = n + 1 + i by omega] at this)
          (fun i z hz => by have := hy (i + 1) z (by simpa using hz); rwa [show n + (i + 1) = n + 1 + i by omega] at this)
        have hn' : f.name ≠ "_" := by simpa using h2
        rw [Op.eqFields]
        simp only [if_pos hn', Sem.run_bind, p1, p2, q1, Result.andThen_ok]
        cases c
        · simp
        · simpa using p3
theorem run_eqBool (ht : TabOk P tt) {t : TypeId} (hti : (tt.at t).ti = .bool) (x y : Operand) (p q : Bool) (w : World) :
    (do eqGuard .eql t x y (.bool p) (.bool q); Go.binOp .eql t (.bool p) (.bool q) : Sem Value).run P w = .ok (.bool (p == q)) w ∧
    (do eqGuard .neq t x y (.bool p) (.bool q); Go.binOp .neq t (.bool p) (.bool q) : Sem Value).run P w = .ok (.bool (!(p == q))) w := by
  have h := (run_equalIn1 (F := fun _ => True) (w := w) ht 9999 (x := .bool p) (y := .bool q) (c := p == q) (by rw [hti]; rfl) (.bool p) (.bool q)).1
  have h' : (Op.equal t (.bool p) (.bool q)).run P w = .ok (p == q) w := h
  constructor
  · have e : Go.binOp .eql t (.bool p) (.bool q) = (do pure (.bool (← Op.equal t (.bool p) (.bool q)))) := rfl
    rw [e]
    simp [eqGuard, h']
  · have e : Go.binOp .neq t (.bool p) (.bool q) = (do pure (.bool (!(← Op.equal t (.bool p) (.bool q))))) := rfl
    rw [e]
    simp [eqGuard, h']
theorem run_eqNil (ht : TabOk P tt) {t e : TypeId} (hti : (tt.at t).ti = .slice e) (x y : Operand) (ad : Option Addr) (n c : Nat) (w : World) :
    (do eqGuard .eql t x y (.slice ad n c) (.slice none 0 0); Go.binOp .eql t (.slice ad n c) (.slice none 0 0) : Sem Value).run P w = .ok (.bool ad.isNone) w ∧
    (do eqGuard .neq t x y (.slice ad n c) (.slice none 0 0); Go.binOp .neq t (.slice ad n c) (.slice none 0 0) : Sem Value).run P w = .ok (.bool (!ad.isNone)) w := by
  have hu := und_slice (ht.at t (by rw [hti]; rfl)) hti
  have h0 : ∀ d, (Op.equalIn (d + 1) t (.slice ad n c) (.slice none 0 0)).run P w = .ok ad.isNone w := by
    intro d
    cases ad <;> simp [Op.equalIn, run_underlying hu]
  have h' : (Op.equal t (.slice ad n c) (.slice none 0 0)).run P w = .ok ad.isNone w := h0 9999
  constructor
  · have e : Go.binOp .eql t (.slice ad n c) (.slice none 0 0) = (do pure (.bool (← Op.equal t (.slice ad n c) (.slice none 0 0)))) := rfl
    rw [e]
    simp [eqGuard, h']
  · have e : Go.binOp .neq t (.slice ad n c) (.slice none 0 0) = (do pure (.bool (!(← Op.equal t (.slice ad n c) (.slice none 0 0))))) := rfl
    rw [e]
    simp [eqGuard, h']
theorem run_eqItems_int (d : Nat) {e : TypeId} {k : IntKind} (he : P.underlying e = some (.int k)) (hag : (isAgg e).run P w = .ok false w) (xs ys : Array Value) (zs us : List T) (hx : ∀ (i : Nat) (x : T), zs[i]? = some x → ∃ v, xs[i]? = some v ∧ VT F w x v) (hy : ∀ (i : Nat) (x : T), us[i]? = some x → ∃ v, ys[i]? = some v ∧ VT F w x v)
    (hz : IntA k zs) (hu : IntA k us) : ∀ (is : List Nat), (∀ i ∈ is, i < zs.length ∧ i < us.length) → ∃ r : Bool, (Op.eqItems (d + 1) e 1 xs ys is).run P w = .ok r w ∧ (r = true ↔ ∀ i ∈ is, zs[i]? = us[i]?)
  | [], _ => ⟨true, by simp [Op.eqItems], by simp⟩
  | i :: is, hb => by
    obtain ⟨r', hr', hiff⟩ := run_eqItems_int d he hag xs ys zs us hx hy hz hu is fun j hj => hb j (List.mem_cons_of_mem _ hj)
    obtain ⟨h1, h2⟩ := hb i List.mem_cons_self
    obtain ⟨n, hn⟩ := hz zs[i] (List.getElem_mem h1)
    obtain ⟨m, hm⟩ := hu us[i] (List.getElem_mem h2)
    obtain ⟨v, hv1, hv2⟩ := hx i _ (List.getElem?_eq_getElem h1)
    obtain ⟨v', hv1', hv2'⟩ := hy i _ (List.getElem?_eq_getElem h2)
    rw [hn] at hv2
    rw [hm] at hv2'
    cases hv2
    cases hv2'
    have p1 : (part e xs (i * 1)).run P w = .ok (.int k n) w := by simp [part, hag, hv1]
    have p2 : (part e ys (i * 1)).run P w = .ok (.int k m) w := by simp [part, hag, hv1']
    have p3 : (Op.equalIn (d + 1) e (.int k n) (.int k m)).run P w = .ok (n == m) w := run_equalIn_int w d e k k n m he
    have key : zs[i]? = us[i]? ↔ n = m := by
      rw [List.getElem?_eq_getElem h1, List.getElem?_eq_getElem h2, hn, hm]
      simp
    simp only [Op.eqItems, Sem.run_bind, p1, p2, p3, Result.andThen_ok]
    cases hnm : n == m
    · refine ⟨false, by simp, ?_⟩
      simp only [List.forall_mem_cons, key, Bool.false_eq_true, false_iff, not_and]
      intro h
      simp [h] at hnm
    · refine ⟨r', by simpa using hr', ?_⟩
      rw [hiff]
      simp only [List.forall_mem_cons, key]
      have : n = m := by simpa using hnm
      simp [this]
theorem op_binOp (ht : TabOk P tt) (hn : Next P o a own F w σ K next) (r : Rel own F w σ) {op : BinOp} {t yt : TypeId} {x y : Operand} (ho : o.op = .binOp op t x y yt) {tx ty : T} (hx : VT F w tx (a.eval x)) (hy : VT F w ty (a.eval y))
    (hs : binT tt op t tx ty fun v => K (.t v) σ) : o.wp P a w next Q := by
  have fin : ∀ {r' : T} {v : Value}, K (.t r') σ → (do eqGuard op t x y (a.eval x) (a.eval y); Go.binOp op t (a.eval x) (a.eval y) : Sem Value).run P w = .ok v w → VT F w r' v → o.wp P a w next Q := by
    intro r' v hk hr hv
    refine op_pure hn r ?_ hk (.t _ _ hv)
    unfold execOp
    simp only [ho]
    rw [Sem.run_bind, hr]
    rfl
  generalize hmx : a.eval x = mx at hx fin
  generalize hmy : a.eval y = my at hy fin
  unfold binT at hs
  split at hs
  · rename_i k n k' m
    cases hx; cases hy
    obtain ⟨hb, hs⟩ := bif_elim0 hs
    obtain ⟨r', v, h1, h2, h3⟩ := run_intOp (P := P) (F := F) (w := w) (t := t) (x := x) (y := y) (k' := k') hb hs
    exact fin h1 h2 h3
  · rename_i p q
    cases hx; cases hy
    have hti : (tt.at t).ti = .bool := by
      revert hs
      split
      · intro _; assumption
      · intro hs; exact hs.elim
    rw [hti] at hs
    simp only [cond_true] at hs
    obtain ⟨e1, e2⟩ := run_eqBool ht hti x y p q w
    cases op <;> first
      | exact hs.elim
      | exact fin hs e1 (.bool _)
      | exact fin hs e2 (.bool _)
  · rename_i p q
    cases hx; cases hy
    cases op <;> first
      | exact hs.elim
      | (refine fin hs ?_ (.bool _); simp [eqGuard, Go.binOp, Op.stringOp, eqS, ltS]; done)
      | (refine fin hs ?_ (.bool _); simp [eqGuard, Go.binOp, Op.stringOp]; unfold eqS; rfl)
      | (refine fin hs.2 ?_ (.str _); simp [eqGuard, Go.binOp, run_addS hs.1.out]; done)
  · rename_i xs ys
    cases hx with
    | agg _ vs hvs hvx =>
      cases hy with
      | agg _ us hus huy =>
        cases hcm : (tt.at t).cmp with
        | false => rw [hcm] at hs; exact hs.elim
        | true =>
          rw [hcm, cond_true] at hs
          split at hs
          · rename_i fs hti
            split at hs
            · rename_i b hb
              obtain ⟨fields, hu, hfs⟩ := und_struct (ht.at t (by rw [hti]; rfl)) hti
              have hck := ht.cmp t hcm
              unfold cmpCheck at hck
              rw [hu] at hck
              simp only [Bool.and_eq_true, Bool.not_eq_true'] at hck
              obtain ⟨⟨c1, c2⟩, c3⟩ := hck
              have hfo : P.fieldsOf t = fields := by simp [Program.fieldsOf, hu]
              have ef := eqFields_plain ht (F := F) (w := w) fields.toList 0 9998 vs us xs ys b c3 (by rw [hfs]; exact hb)
                (fun i z hz => by
                  have hlt : i < vs.size := by rw [hvs]; exact (List.getElem?_eq_some_iff.1 hz).1
                  exact ⟨vs[i], by simp [Array.getElem?_eq_getElem hlt], hvx i z _ hz (Array.getElem?_eq_getElem hlt)⟩)
                (fun i z hz => by
                  have hlt : i < us.size := by rw [hus]; exact (List.getElem?_eq_some_iff.1 hz).1
                  exact ⟨us[i], by simp [Array.getElem?_eq_getElem hlt], huy i z _ hz (Array.getElem?_eq_getElem hlt)⟩)
              have eqr : (Op.equalIn 10000 t (.agg vs) (.agg us)).run P w = .ok b w := by
                rw [run_equalIn_struct (P := P) w 9999 t vs us (by rw [hfo]; exact hu) c1, hfo]; exact ef
              cases op <;> first
                | exact hs.elim
                | exact fin hs (by rw [Sem.run_bind, run_eqGuard_agg w _ t x y vs us c2]; simp only [Result.andThen_ok]; rw [run_eql_struct w, eqr]; rfl) (.bool _)
                | exact fin hs (by rw [Sem.run_bind, run_eqGuard_agg w _ t x y vs us c2]; simp only [Result.andThen_ok]; rw [run_neq_struct w, eqr]; rfl) (.bool _)
            · exact hs.elim
          · exact hs.elim
  · rename_i xs ys
    cases hx with
    | arr _ vs hvs hvx =>
      cases hy with
      | arr _ us hus huy =>
        cases hcm : (tt.at t).cmp with
        | false => rw [hcm] at hs; exact hs.elim
        | true =>
          rw [hcm, cond_true] at hs
          split at hs
          · rename_i m e hti
            split at hs
            · rename_i k hke
              obtain ⟨h1, h2, h3, h4, h5⟩ := hs
              have h1 := h1.out
              have h2 := h2.out
              have h3 := h3.out
              have h4 := h4.out
              have hu := und_arr (ht.at t (by rw [hti]; rfl)) hti
              have hck := ht.cmp t hcm
              unfold cmpCheck at hck
              rw [hu] at hck
              simp only [Bool.not_eq_true'] at hck
              have hTe := ht.at e (by rw [hke]; rfl)
              obtain ⟨i, hi1, hi2, _⟩ := hTe.info
              have hsz : (tt.at e).size = 1 := hTe.one (by rw [hke]; rfl)
              have hco : P.cellsOf e = 1 := by
                unfold Program.cellsOf
                rw [hi1]
                simp [hi2, hsz]
              obtain ⟨b, hb1, hb2⟩ := run_eqItems_int (P := P) (F := F) (w := w) 9998 (und_int hTe hke) (by rw [run_isAgg hTe, hke]; rfl) vs us xs ys
                (fun i x hx => by have hlt : i < vs.size := by rw [hvs]; exact (List.getElem?_eq_some_iff.1 hx).1
                                  exact ⟨vs[i], Array.getElem?_eq_getElem hlt, hvx i x _ hx (Array.getElem?_eq_getElem hlt)⟩)
                (fun i x hx => by have hlt : i < us.size := by rw [hus]; exact (List.getElem?_eq_some_iff.1 hx).1
                                  exact ⟨us[i], Array.getElem?_eq_getElem hlt, huy i x _ hx (Array.getElem?_eq_getElem hlt)⟩) h3 h4 (List.range m) (fun i hi => by have := List.mem_range.1 hi; omega)
              have hb3 : b = true ↔ xs = ys := by
                rw [hb2]
                constructor
                · intro h
                  apply List.ext_getElem?
                  intro i
                  rcases Nat.lt_or_ge i m with hi | hi
                  · exact h i (List.mem_range.2 hi)
                  · rw [List.getElem?_eq_none (by omega), List.getElem?_eq_none (by omega)]
                · rintro rfl i _; rfl
              have hb4 : eqA xs ys = b := by rw [Bool.eq_iff_iff, eqA_iff, hb3]
              rw [hb4] at h5
              have eqr : (Op.equalIn 10000 t (.agg vs) (.agg us)).run P w = .ok b w := by
                rw [run_equalIn_array (P := P) w 9999 vs us hu hi1, hco]; exact hb1
              cases op <;> first
                | exact hs.elim
                | exact h5.elim
                | exact fin h5 (by rw [Sem.run_bind, run_eqGuard_agg w _ t x y vs us hck]; simp only [Result.andThen_ok]; rw [run_eql_struct w, eqr]; rfl) (.bool _)
                | exact fin h5 (by rw [Sem.run_bind, run_eqGuard_agg w _ t x y vs us hck]; simp only [Result.andThen_ok]; rw [run_neq_struct w, eqr]; rfl) (.bool _)
            · exact hs.elim
          · exact hs.elim
  · have hti : ∃ e, (tt.at t).ti = .slice e := by
      revert hs
      split
      · intro _; exact ⟨_, by assumption⟩
      · intro hs; exact hs.elim
    obtain ⟨e, hti⟩ := hti
    rw [hti] at hs
    simp only [cond_true] at hs
    cases hy
    cases hx
    obtain ⟨e1, e2⟩ := run_eqNil ht hti x y none 0 0 w
    cases op <;> first
      | exact hs.elim
      | exact fin hs e1 (.bool _)
      | exact fin hs e2 (.bool _)
  · rename_i sz xs
    have hti : ∃ e, (tt.at t).ti = .slice e := by
      revert hs
      split
      · intro _; exact ⟨_, by assumption⟩
      · intro hs; exact hs.elim
    obtain ⟨e, hti⟩ := hti
    rw [hti] at hs
    simp only [cond_true] at hs
    cases hy
    cases hx with
    | sl _ _ b off c vals hp =>
      obtain ⟨e1, e2⟩ := run_eqNil ht hti x y (some ⟨b, off, none⟩) xs.length c w
      cases op <;> first
        | exact hs.elim
        | exact fin (hs false fun _ => rfl) e1 (.bool _)
        | exact fin (hs true fun _ => rfl) e2 (.bool _)
    | sl0 _ ad c =>
      obtain ⟨e1, e2⟩ := run_eqNil ht hti x y ad 0 c w
      cases op <;> first
        | exact hs.elim
        | exact fin (hs _ fun h => absurd rfl h) e1 (.bool _)
        | exact fin (hs _ fun h => absurd rfl h) e2 (.bool _)
  · exact hs.elim
end
end Go.Proofs.Ytgladinljapmkaa.Am

/- Signs, kinds, structs built, closures, maps, tuples, lengths. -/
namespace Go.Proofs.Ytgladinljapmkaa.Am
open Go.RowKit
set_option linter.unusedVariables false
set_option linter.unusedSimpArgs false
section
variable {P : Program} {tt : Tab} {own : Nat → Own} {F : Nat → Prop} {w : World} {σ : Sto} {env : Env} {a : Act} {N : Nat} {o : Oper}
variable {K : SV → Sto → Prop} {next : Act → World → Prop} {Q : Exit → Act → World → Prop}
theorem boolV {b : Bool} {v : Value} (h : VS own F w (.t (.bool b)) v) : v = .bool b := by
  cases h with
  | t _ _ h => cases h; rfl
theorem intV {k : IntKind} {n : Int} {v : Value} (h : VS own F w (.t (.int k n)) v) : v = .int k n := by
  cases h with
  | t _ _ h => cases h; rfl
theorem op_not (hn : Next P o a own F w σ K next) (r : Rel own F w σ) {t : TypeId} {x : Operand} {b : Bool} (ho : o.op = .unOp .not t x) (hx : VS own F w (.t (.bool b)) (a.eval x)) (hs : K (.t (.bool (!b))) σ) : o.wp P a w next Q := by
  refine op_pure hn r ?_ hs (.t _ _ (.bool _))
  unfold execOp
  simp [ho, boolV hx, Op.unary]
theorem op_neg (hn : Next P o a own F w σ K next) (r : Rel own F w σ) {t : TypeId} {x : Operand} {k : IntKind} {n : Int} (ho : o.op = .unOp .neg t x) (hx : VS own F w (.t (.int k n)) (a.eval x)) (hs : K (.t (.int k (subI k 0 n))) σ) : o.wp P a w next Q := by
  refine op_pure hn r ?_ hs (.t _ _ (.int _ _))
  unfold execOp
  simp [ho, intV hx, Op.unary, Op.intArith, subI]
theorem op_convert (ht : TabOk P tt) (hn : Next P o a own F w σ K next) (r : Rel own F w σ) {s d : TypeId} {x : Operand} {k j : IntKind} {n : Int} (ho : o.op = .convert s d x) (hti : (tt.at d).ti = .int k) {i : TypeDesc} (hsrc : P.underlying s = some i)
    (hx : VS own F w (.t (.int j n)) (a.eval x)) (hs : K (.t (.int k (cvtI k n))) σ) : o.wp P a w next Q := by
  have hu := und_int (ht.at d (by rw [hti]; rfl)) hti
  refine op_pure hn r ?_ hs (.t _ _ (.int _ _))
  unfold execOp
  simp only [ho, intV hx, convert, Sem.run_bind, run_underlying hu, run_underlying hsrc, Result.andThen_ok]
  simp [Conv.intToInt, cvtI]
theorem op_makeFunc (hn : Next P o a own F w σ K next) (r : Rel own F w σ) {f : FuncId} {first cap : Array Operand} (ho : o.op = .makeFunc (.func f) first cap) (hf : first.isEmpty = true)
    (hx : ∀ x, VS own F w (ev env x) (a.eval x)) (hs : K (.fn f (cap.toList.map (ev env))) σ) : o.wp P a w next Q := by
  have h0 : first = #[] := by simpa using hf
  refine op_pure hn r (mv := .func (.func f) #[] (cap.map a.eval)) ?_ hs (.fn f _ _ (by simp) ?_)
  · unfold execOp
    simp [ho, Instr.makeFunc, h0]
  · intro i x v hi hv
    simp only [List.getElem?_map, Array.getElem?_toList] at hi
    simp only [Array.getElem?_map] at hv
    cases hc : cap[i]? with
    | none => simp [hc] at hi
    | some y =>
      simp [hc] at hi hv
      subst hi hv
      exact hx y
def ownN (L : Loc) (bl : Nat → Prop) : Own := ⟨fun e p => if e = 0 ∧ p = [] then some L else none, bl⟩
theorem ownN_at {L : Loc} {bl : Nat → Prop} : (ownN L bl).am 0 [] = some L := by unfold ownN; simp
theorem ownN_no {L : Loc} {bl : Nat → Prop} {e : Nat} {p : Path} (h : 0 < e ∨ p ≠ []) : (ownN L bl).am e p = none := by
  unfold ownN
  show (if e = 0 ∧ p = [] then _ else none) = none
  rw [if_neg fun h' => by
    rcases h with h | h
    · omega
    · exact h h'.2]
theorem OR.flat {ow : Own} {nd : Nd} {L : Loc} (ha : ow = ownN L (fun b => ∃ o s c m, L = .at b o s c m)) (h : NodeOk F w (fun p => if p = [] then some L else none) [] nd) (hf : ∀ q p n, nodeAt nd (q :: p) = some n → False) : OR own F w ow (.nd e0 nd) := by
  subst ha
  have hcur : (ownN L (fun b => ∃ o s c m, L = .at b o s c m)).cur e0 = fun p => if p = [] then some L else none := by
    funext p
    show (if (0 : Nat) = 0 ∧ p = [] then some L else none) = _
    simp
  refine ⟨?_, ?_, rfl, fun e p he => ownN_no (.inl (by simpa [e0] using he))⟩
  · rw [hcur]
    refine ⟨fun p n hp => ?_, fun p p' n n' b o s cp m o' s' cp' m' h1 h2 h3 h4 => ?_⟩
    · cases p with
      | nil => rw [nodeAt_nil] at hp; injection hp with hp; subst hp; exact h
      | cons q p => exact (hf q p n hp).elim
    · cases p with
      | nil =>
        cases p' with
        | nil => rfl
        | cons q p' => exact (hf _ _ _ h2).elim
      | cons q p => exact (hf _ _ _ h1).elim
  · rw [hcur]
    rintro b ⟨p, n, o, s, cp, m, h1, h2⟩
    cases p with
    | nil => simp at h2; exact ⟨o, s, cp, m, h2⟩
    | cons q p => exact (hf _ _ _ h1).elim
theorem op_makeMap (hn : Next P o a own F w σ K next) (r : Rel own F w σ) {t : TypeId} {kk : MK} (ho : o.op = .makeMap t none) (hs : K (.mp σ.length 0 []) (σ ++ [.nd e0 (.map kk [])])) : o.wp P a w next Q := by
  have hp := r.pushE (w' := w.alloc (.map #[] 0)) (ownN (.at w.heap.size 0 0 1 1) (fun b => ∃ o s c m, Loc.at w.heap.size 0 0 1 1 = .at b o s c m)) (fun b hb => by
      obtain ⟨o, s, c, m, hb⟩ := hb
      injection hb with hb
      subst hb; simp) rfl rfl rfl (by simp) (fun i hi => Below.heap_alloc w _ i hi) (.nd e0 (.map kk []))
    (fun own' _ _ _ => OR.flat rfl ⟨w.heap.size, #[], 0, by simp, heap_alloc_new w _, rfl, by simp, by simp, ⟨rfl, by simp⟩⟩ (fun q p n h => by rw [nodeAt_map] at h; exact nomatch h))
  refine wp_value (mv := .map (some w.heap.size)) (w' := w.alloc (.map #[] 0)) ?_ (hn _ _ _ _ _ _ hs hp.2 hp.1 (by simp) (.mp _ _ _ w.heap.size 0 0 1 1 (by rw [upd1_same]; exact ownN_at)))
  unfold execOp
  simp [ho, Instr.makeMap]
theorem op_xor1 (hn : Next P o a own F w σ K next) (r : Rel own F w σ) {t : TypeId} {x : Operand} {k : IntKind} {n : Int} (ho : o.op = .unOp .xor t x) (hx : VS own F w (.t (.int k n)) (a.eval x)) (hs : K (.t (.int k (xorI k (if k.signed then -1 else k.max) n))) σ) : o.wp P a w next Q := by
  refine op_pure hn r ?_ hs (.t _ _ (.int _ _))
  unfold execOp
  simp [ho, intV hx, Op.unary, Op.intBits, xorI]
theorem op_extract (hn : Next P o a own F w σ K next) (r : Rel own F w σ) {x : Operand} {i : Nat} (ho : o.op = .extract x i) {sx : SV} (hx : VS own F w sx (a.eval x))
    (hs : match (generalizing := false) sx with
      | .t (.tup xs) => Ob (i < xs.length) ∧ K (.t (xs.getD i .any)) σ
      | .tup xs => Ob (i < xs.length) ∧ K (xs.getD i .any) σ
      | _ => False) : o.wp P a w next Q := by
  have run : ∀ (vs : Array Value) (h : i < vs.size), a.eval x = .tuple vs → (execOp a.eval o).run P w = .ok (.value vs[i]) w := by
    intro vs h hx
    unfold execOp
    simp [ho, hx, Instr.extract, Array.getElem?_eq_getElem h]
  split at hs
  · rename_i xs
    obtain ⟨h1, h2⟩ := hs
    have h1 := h1.out
    generalize hm : a.eval x = mv at hx
    cases hx with
    | t _ _ hv =>
      cases hv with
      | tup _ vs hsz h =>
        have hlt : i < vs.size := by omega
        refine op_pure hn r (run vs hlt hm) h2 (.t _ _ ?_)
        have e : xs.getD i .any = xs[i] := by simp [List.getD_eq_getElem?_getD, List.getElem?_eq_getElem h1]
        rw [e]
        exact h i _ _ (List.getElem?_eq_getElem h1) (Array.getElem?_eq_getElem hlt)
  · rename_i xs
    obtain ⟨h1, h2⟩ := hs
    have h1 := h1.out
    generalize hm : a.eval x = mv at hx
    cases hx with
    | tup _ vs hsz h =>
      have hlt : i < vs.size := by omega
      refine op_pure hn r (run vs hlt hm) h2 ?_
      have e : xs.getD i .any = xs[i] := by simp [List.getD_eq_getElem?_getD, List.getElem?_eq_getElem h1]
      rw [e]
      exact h i _ _ (List.getElem?_eq_getElem h1) (Array.getElem?_eq_getElem hlt)
  · exact hs.elim
/-! ### structs built -/
theorem fill_ok {places : Nat → Option (Nat × Nat)} : ∀ (parts : List (Nat × SV × Value)) (cs : List SV) (vs : Array Value), vs.size = cs.length →
    (∀ (j : Nat) (x : SV) (v : Value), cs[j]? = some x → vs[j]? = some v → VS own F w x v) →
    (∀ p ∈ parts, VS own F w p.2.1 p.2.2 ∧ p.2.1.cells.all SV.leaf = true ∧ ∃ off sz, places p.1 = some (off, sz) ∧ p.2.1.cells.length = sz ∧ off + sz ≤ cs.length) →
    ∃ vs' : Array Value, Instr.fill places vs (parts.map fun p => (p.1, p.2.2)) = some vs' ∧ vs'.size = cs.length ∧
      ∀ (j : Nat) (x : SV) (v : Value), (parts.foldl (fun cs p => setCells cs ((places p.1).getD (0, 0)).1 p.2.1.cells) cs)[j]? = some x → vs'[j]? = some v → VS own F w x v
  | [], cs, vs, hs, h, _ => ⟨vs, rfl, hs, h⟩
  | (i, x, v) :: parts, cs, vs, hs, h, hp => by
    obtain ⟨h1, h2, off, sz, h3, h4, h5⟩ := hp (i, x, v) (by simp)
    simp only at h1 h2 h3 h4 h5
    obtain ⟨c1, c2, c3⟩ := h1.cells h2
    have hfold : ∀ (l : List Value) (n : Nat) (vs : Array Value), off + n + l.length ≤ vs.size → ((l.zipIdx n).foldl (fun cs (c, j) => cs.setIfInBounds (off + j) c) vs).toList = vs.toList.take (off + n) ++ l ++ vs.toList.drop (off + n + l.length) := by
      intro l
      induction l with
      | nil => intro n vs _; simp
      | cons u l ih =>
        intro n vs hle
        simp only [List.zipIdx_cons, List.foldl_cons]
        rw [ih (n + 1) _ (by simp at hle ⊢; omega)]
        simp only [List.length_cons] at hle
        apply List.ext_getElem?
        intro j
        have e1 : (u :: l).length = l.length + 1 := rfl
        rw [show off + (n + 1) + l.length = off + (n + 1) + l.length from rfl]
        rw [splice_get _ l (off + (n + 1)) j (by simp; omega), splice_get _ (u :: l) (off + n) j (by simp; omega)]
        simp only [Array.toList_setIfInBounds, List.getElem?_set, List.length_cons]
        by_cases ha : off + (n + 1) ≤ j ∧ j < off + (n + 1) + l.length
        · rw [if_pos ha, if_pos (by omega)]
          rw [show j - (off + n) = (j - (off + (n + 1))) + 1 by omega]
          simp
        · rw [if_neg ha]
          by_cases hb : off + n = j
          · subst hb
            rw [if_pos rfl, if_pos (by simp; omega), if_pos (by omega)]
            simp
          · rw [if_neg hb]
            rw [if_neg (by omega)]
    have hl := hfold v.cells.toList 0 vs (by simp; omega)
    simp only [Nat.add_zero] at hl
    have hvs1 : ∃ vs1 : Array Value, (v.cells.zipIdx.foldl (fun cs (c, j) => cs.setIfInBounds (off + j) c) vs) = vs1 ∧ vs1.toList = vs.toList.take off ++ v.cells.toList ++ vs.toList.drop (off + v.cells.toList.length) := by
      refine ⟨_, rfl, ?_⟩
      rw [← hl]
      rw [← Array.foldl_toList, Array.toList_zipIdx]
    obtain ⟨vs1, he1, hl1⟩ := hvs1
    have hsz1 : vs1.size = cs.length := by
      rw [← Array.length_toList, hl1]; simp; omega
    have hlenset : (setCells cs off x.cells).length = cs.length := by unfold setCells; simp; omega
    obtain ⟨vs', hf, hsz', hv'⟩ := fill_ok parts (setCells cs off x.cells) vs1 (by rw [hlenset]; exact hsz1) (fun j y u hy hu => by
        unfold setCells at hy
        rw [splice_get _ _ _ _ (by omega)] at hy
        rw [← Array.getElem?_toList, hl1, splice_get _ _ _ _ (by simp; omega)] at hu
        have hcl : v.cells.toList.length = x.cells.length := by simpa using c1
        rw [hcl] at hu
        by_cases hin : off ≤ j ∧ j < off + x.cells.length
        · rw [if_pos hin] at hy hu
          exact c3 _ y u hy (by simpa using hu)
        · rw [if_neg hin] at hy hu
          exact h j y u hy (by simpa using hu)) (fun p hpm => by
        obtain ⟨g1, g2, o', s', g3, g4, g5⟩ := hp p (by simp [hpm])
        exact ⟨g1, g2, o', s', g3, g4, by rw [hlenset]; exact g5⟩)
    refine ⟨vs', ?_, by rw [hsz', hlenset], ?_⟩
    · simp only [List.map_cons, Instr.fill, h3]
      rw [if_neg (by simp; omega)]
      rw [show v.cells.zipIdx.foldl (fun cs x => cs.setIfInBounds (off + x.snd) x.fst) vs = vs1 from he1]
      exact hf
    · intro j y u hy hu
      simp only [List.foldl_cons, h3, Option.getD_some] at hy
      exact hv' j y u hy hu
theorem run_mapM_list {α β : Type} (g : α → Sem β) (f : α → β) (w : World) : ∀ (l : List α), (∀ x ∈ l, (g x).run P w = .ok (f x) w) → (l.mapM g).run P w = .ok (l.map f) w
  | [], _ => by simp
  | x :: l, h => by
    have ih := run_mapM_list g f w l fun y hy => h y (by simp [hy])
    simp [List.mapM_cons, h x (by simp), ih]
theorem op_build (ht : TabOk P tt) (hn : Next P o a own F w σ K next) (r : Rel own F w σ) {t : TypeId} {parts : Array (Nat × Operand)} {fs : List (TypeId × Nat)} (ho : o.op = .build t parts) (hti : (tt.at t).ti = .struct fs)
    (hx : ∀ x, VS own F w (ev env x) (a.eval x))
    (hgood : (fs.all fun f => (tt.at f.1).ti.good) = true) (hall : (parts.toList.all fun p => (ev env p.2).cells.all SV.leaf && (match nth fs p.1 with | some f => (tt.at f.1).ti.good && Nat.beq (ev env p.2).cells.length (tt.at f.1).size && Nat.ble (f.2 + (tt.at f.1).size) (tt.at t).zero.length | none => false)) = true)
    (hs : K (.agg (parts.toList.foldl (fun cs p => setCells cs ((nth fs p.1).getD (0, 0)).2 (ev env p.2).cells) ((tt.at t).zero.map .t))) σ) : o.wp P a w next Q := by
  have hT := ht.at t (by rw [hti]; rfl)
  obtain ⟨i, hi, hsz, hb, hz0, z, hz, hzs, hza, _, hzv⟩ := hT.info
  obtain ⟨fields, hu, hfs⟩ := und_struct hT hti
  let places : Nat → Option (Nat × Nat) := fun j => (nth fs j).map fun f => (f.2, (tt.at f.1).size)
  let ps : List (Nat × SV × Value) := parts.toList.map fun p => (p.1, ev env p.2, a.eval p.2)
  have hp : ∀ p ∈ ps, VS own F w p.2.1 p.2.2 ∧ p.2.1.cells.all SV.leaf = true ∧ ∃ off sz, places p.1 = some (off, sz) ∧ p.2.1.cells.length = sz ∧ off + sz ≤ ((tt.at t).zero.map SV.t).length := by
    intro p hp
    obtain ⟨q, hq, rfl⟩ := List.mem_map.1 hp
    have := (List.all_eq_true.1 hall) q hq
    simp only [Bool.and_eq_true] at this
    obtain ⟨h1, h2⟩ := this
    refine ⟨hx q.2, h1, ?_⟩
    split at h2
    · rename_i f hf
      simp only [Bool.and_eq_true] at h2
      refine ⟨f.2, (tt.at f.1).size, by simp [places, hf], Nat.eq_of_beq_eq_true h2.1.2, ?_⟩
      have := Nat.le_of_ble_eq_true h2.2
      simpa using this
    · exact absurd h2 (by simp)
  obtain ⟨vs', hfill, hvsz, hvs⟩ := fill_ok (places := places) ps ((tt.at t).zero.map .t) z.cells (by simp [hzs, hz0]) (fun j x v hx hv => by
      simp only [List.getElem?_map] at hx
      cases hj : (tt.at t).zero[j]? with
      | none => simp [hj] at hx
      | some y => simp [hj] at hx; subst hx; exact .t _ _ (hzv F w j y v hj hv).1) hp
  have hmap : (fields.mapM fun f => do pure (f.offset, ← sizeOf f.type) : Sem (Array (Nat × Nat))).run P w = .ok (fields.toList.map fun f => (f.offset, (tt.at f.type).size)).toArray w := by
    rw [Array.mapM_eq_mapM_toList, Sem.run_map, run_mapM_list (P := P) _ (fun f : Field => (f.offset, (tt.at f.type).size)) w fields.toList ?_]
    · rfl
    · intro f hf
      have hfm : (f.type, f.offset) ∈ fs := by rw [← hfs]; exact List.mem_map.2 ⟨f, hf, rfl⟩
      have := (List.all_eq_true.1 hgood) _ hfm
      simp [run_size (ht.at f.type this) w]
  have hpl : (fun j => ((fields.toList.map fun f => (f.offset, (tt.at f.type).size)).toArray)[j]?) = places := by
    funext j
    simp only [places, nth_eq, ← hfs, List.getElem?_toArray, List.getElem?_map, Option.map_map]
    rfl
  have hps : ps.map (fun p => (p.1, p.2.2)) = (parts.map fun (i, x) => (i, a.eval x)).toList := by simp [ps]
  refine op_pure hn r (mv := .agg vs') ?_ hs (.agg _ _ ?_ ?_)
  · unfold execOp
    simp only [ho, Instr.build, zeroValue, typeInfo, Sem.run_bind, run_program, Result.andThen_ok, hi, Sem.run_pure, hz, run_underlying hu, hmap, hpl]
    rw [← hps, hfill]
    rfl
  · rw [hvsz]
    have : ∀ (l : List (Nat × Operand)) (cs : List SV), (∀ p ∈ l, ∃ f, nth fs p.1 = some f ∧ f.2 + (ev env p.2).cells.length ≤ cs.length) → (l.foldl (fun cs p => setCells cs ((nth fs p.1).getD (0, 0)).2 (ev env p.2).cells) cs).length = cs.length := by
      intro l
      induction l with
      | nil => intro cs _; rfl
      | cons p l ih =>
        intro cs h
        obtain ⟨f, hf, hle⟩ := h p (by simp)
        have hl1 : (setCells cs ((nth fs p.1).getD (0, 0)).2 (ev env p.2).cells).length = cs.length := by
          rw [hf]; unfold setCells; simp; omega
        simp only [List.foldl_cons]
        rw [ih _ fun q hq => by obtain ⟨f', hf', hle'⟩ := h q (by simp [hq]); exact ⟨f', hf', by rw [hl1]; exact hle'⟩, hl1]
    symm
    refine this _ _ fun p hp' => ?_
    obtain ⟨_, _, off, sz, h3, h4, h5⟩ := hp (p.1, ev env p.2, a.eval p.2) (List.mem_map.2 ⟨p, hp', rfl⟩)
    simp only [places] at h3
    cases hf : nth fs p.1 with
    | none => simp [hf] at h3
    | some f =>
      simp [hf] at h3
      refine ⟨f, rfl, ?_⟩
      simp only at h4
      rw [h4, h3.1]; exact h5
  · intro j x v hx' hv
    refine hvs j x v ?_ hv
    have : ∀ (l : List (Nat × Operand)) (cs : List SV), (l.map fun p => (p.1, ev env p.2, a.eval p.2)).foldl (fun cs (p : Nat × SV × Value) => setCells cs ((places p.1).getD (0, 0)).1 p.2.1.cells) cs =
        l.foldl (fun cs p => setCells cs ((nth fs p.1).getD (0, 0)).2 (ev env p.2).cells) cs := by
      intro l
      induction l with
      | nil => intro cs; rfl
      | cons p l ih =>
        intro cs
        simp only [List.map_cons, List.foldl_cons]
        rw [ih]
        congr 2
        simp only [places]
        cases nth fs p.1 <;> rfl
    rw [this]; exact hx'
end
end Go.Proofs.Ytgladinljapmkaa.Am
