/- Each operation does what the abstract machine says: loads, stores, new variables. -/
import Derived.Test.YtihebfhhnoneiaaAmStep
namespace Go.Proofs.Ytihebfhhnoneiaa.Am
open Go.RowKit
set_option linter.unusedVariables false
set_option linter.unusedSimpArgs false

section
variable {P : Program} {tt : Tab} {own : Nat → Own} {F : Nat → Prop} {w : World} {σ : Sto} {env : Env} {a : Act} {N : Nat} {o : Oper}

/-- What a call's result reads as. '.own': memory of the caller's own, all of it new. -/
def RT (F : Nat → Prop) (n : Nat) (w : World) (r : T) (v : Value) : Prop := match r with
  | .own x => ∃ own', Rel own' (fun _ => False) w (opn 4 0 x).2 ∧ VS own' (fun _ => False) w (opn 4 0 x).1 v ∧ ∀ k b, (own' k).bl b → n ≤ b ∧ ¬ F b
  | r => VT F w r v
theorem RT.of_VT {F : Nat → Prop} {n : Nat} {w : World} {r : T} {v : Value} (h : VT F w r v) : RT F n w r v := by
  cases r <;> first | exact h | cases h
/-- THE CONTRACT OF A FUNCTION: arguments that read as these trees, in blocks that nobody writes; the call returns, all that was there stands, and the result reads as a tree of which 'post' holds, in those blocks or new ones. -/
@[irreducible] def PCalls (P : Program) (f : FuncId) (ts : List T) (post : T → Prop) : Prop :=
  (∃ fn, P.funcs[f]? = some fn ∧ (fn.name == "runtime.NumGoroutine") = false ∧ fn.body.isNone = false) ∧ ∀ (F : Nat → Prop) (w : World) (vs : List Value), vs.length = ts.length → (∀ (i : Nat) (x : T) (v : Value), ts[i]? = some x → vs[i]? = some v → VT F w x v) → (∀ b, F b → b < w.heap.size) →
    Calls P f vs.toArray w fun e w' => ∃ (r : T) (mv : Value) (F' : Nat → Prop), e = .returned mv ∧ post r ∧ RT F' w.heap.size w' r mv ∧ (∀ b, F' b → F b ∨ w.heap.size ≤ b) ∧ (∀ b, F' b → b < w'.heap.size) ∧ (∀ b, F b → F' b) ∧ Below w.heap.size w w'

/-- A call that works on the memory of the caller's own. -/
@[irreducible] def ICalls (P : Program) (f : FuncId) (vs : List SV) (σ : Sto) (K : SV → Sto → Prop) : Prop :=
  (∃ fn, P.funcs[f]? = some fn ∧ (fn.name == "runtime.NumGoroutine") = false ∧ fn.body.isNone = false) ∧ ∀ (own : Nat → Own) (F : Nat → Prop) (w : World) (mvs : List Value), mvs.length = vs.length →
    (∀ (i : Nat) (x : SV) (v : Value), vs[i]? = some x → mvs[i]? = some v → VS own F w x v) → Rel own F w σ →
    Calls P f mvs.toArray w fun e w' => ∃ (v : SV) (σ' : Sto) (own' : Nat → Own) (F' : Nat → Prop) (mv : Value), e = .returned mv ∧ K v σ' ∧ Ext σ.length own F w own' F' w' ∧ Rel own' F' w' σ' ∧ σ.length ≤ σ'.length ∧ VS own' F' w' v mv
abbrev ctr (P : Program) (I : FuncId → Bool) : Ctr := ⟨PCalls P, ICalls P, I⟩

theorem PCalls.mono {f : FuncId} {ts : List T} {p q : T → Prop} (h : PCalls P f ts p) (k : ∀ r, p r → q r) : PCalls P f ts q := by
  unfold PCalls at *
  refine ⟨h.1, ?_⟩
  intro F w vs h1 h2 h3
  refine (h.2 F w vs h1 h2 h3).mono ?_
  rintro e w' ⟨r, mv, F', h4, h5, h6⟩
  exact ⟨r, mv, F', h4, k r h5, h6⟩
theorem ICalls.mono {f : FuncId} {vs : List SV} {p q : SV → Sto → Prop} (h : ICalls P f vs σ p) (k : ∀ r s, p r s → q r s) : ICalls P f vs σ q := by
  unfold ICalls at *
  refine ⟨h.1, ?_⟩
  intro own F w mvs h1 h2 h3
  refine (h.2 own F w mvs h1 h2 h3).mono ?_
  rintro e w' ⟨v, σ', own', F', mv, h4, h5, h6⟩
  exact ⟨v, σ', own', F', mv, h4, k v σ' h5, h6⟩

/-- What goes on behind an operation. -/
def Next (P : Program) (o : Oper) (a : Act) (own : Nat → Own) (F : Nat → Prop) (w : World) (σ : Sto) (K : SV → Sto → Prop) (next : Act → World → Prop) : Prop :=
  ∀ (v : SV) (σ' : Sto) (own' : Nat → Own) (F' : Nat → Prop) (w' : World) (mv : Value), K v σ' → Ext σ.length own F w own' F' w' → Rel own' F' w' σ' → σ.length ≤ σ'.length → VS own' F' w' v mv → next (a.put o.dst mv) w'

variable {K : SV → Sto → Prop} {next : Act → World → Prop} {Q : Exit → Act → World → Prop}

theorem wp_value {mv : Value} {w' : World} (h : (execOp a.eval o).run P w = .ok (.value mv) w') (hn : next (a.put o.dst mv) w') : o.wp P a w next Q := by
  unfold Oper.wp; rw [h]; exact hn
theorem wp_skip' {w' : World} (h : (execOp a.eval o).run P w = .ok .skip w') (hn : next (a.put o.dst undef) w') : o.wp P a w next Q := by
  unfold Oper.wp; rw [h]; exact hn

theorem Next.pure (hn : Next P o a own F w σ K next) (r : Rel own F w σ) {v : SV} {mv : Value} (hk : K v σ) (hv : VS own F w v mv) : next (a.put o.dst mv) w :=
  hn v σ own F w mv hk (Ext.refl _ _ _ _) r (Nat.le_refl _) hv

theorem op_pure (hn : Next P o a own F w σ K next) (r : Rel own F w σ) {v : SV} {mv : Value} (h : (execOp a.eval o).run P w = .ok (.value mv) w) (hk : K v σ) (hv : VS own F w v mv) : o.wp P a w next Q :=
  wp_value h (hn.pure r hk hv)

/-! ### reading what is of the call's own -/
theorem pl_out {k e : Nat} {p : Path} {i off b o sz cap m : Nat} {mv : Value} (h : (own k).am e p = some (.at b o sz cap m)) (hv : VS own F w (.pl k e p i off) mv) : mv = .pointer (some ⟨b, o + i * sz + off, none⟩) := by
  cases hv with
  | pl _ _ _ _ _ b' o' sz' cap' m' h' =>
    rw [h] at h'
    injection h' with h'
    injection h' with e1 e2 e3
    subst e1 e2 e3
    rfl
theorem var_obj (r : Rel own F w σ) {k : Nat} {E : TypeId} {cs : List SV} (hk : nth σ k = some (.var E cs)) :
    ∃ (b : Nat) (vals : Array Value), (own k).am 0 [] = some (.at b 0 cs.length 1 1) ∧ (own k).bl b ∧ w.heap[b]? = some (.cells vals E (0, 0)) ∧ vals.size = cs.length ∧
      (∀ (j : Nat) (x : SV) (v : Value), cs[j]? = some x → vals[j]? = some v → VS own F w x v) ∧ (∀ v ∈ vals.toList, v.oneCell' = true) ∧ ∀ e p, 0 < e ∨ p ≠ [] → (own k).am e p = none := by
  rw [nth_eq] at hk
  exact r.obj k _ hk
theorem pl_e0 (r : Rel own F w σ) {k : Nat} {E : TypeId} {cs : List SV} (hk : nth σ k = some (.var E cs)) {e i off : Nat} {mv : Value} (hv : VS own F w (.pl k e [] i off) mv) : e = 0 := by
  obtain ⟨_, _, _, _, _, _, _, _, h⟩ := var_obj r hk
  cases hv with
  | pl _ _ _ _ _ b' o' sz' cap' m' h' =>
    rcases Nat.eq_zero_or_pos e with h0 | h0
    · exact h0
    · rw [h e [] (.inl h0)] at h'; exact nomatch h'

theorem cell_of {b j : Nat} {vals : Array Value} {E : TypeId} {fr : Nat × Nat} (hb : w.heap[b]? = some (.cells vals E fr)) (hj : j < vals.size) : w.cell? ⟨b, j, none⟩ = some (vals.getD j undef) := by
  rw [cell_of_row w b j vals E fr hb]
  simp [Array.getElem?_eq_getElem hj, Array.getD_eq_getD_getElem?]

/-! ### load -/
theorem mkT_VT {agg : Bool} {n : Nat} {cs : List T} {f : Nat → Value} (hn : n ≤ cs.length) (h1 : agg = false → n = 1) (h : ∀ (j : Nat) (y : T), cs[j]? = some y → j < n → VT F w y (f j)) :
    VT F w (mkT agg n cs) (if agg then .agg ((List.range n).map f).toArray else f 0) := by
  cases agg with
  | true =>
    simp only [mkT, cond_true, if_true]
    refine .agg _ _ (by simp; omega) ?_
    intro i x v hx hv
    have hi : i < n := by
      have := (Array.getElem?_eq_some_iff.1 hv).1
      simpa using this
    simp [List.getElem?_take, hi] at hx
    simp [hi] at hv
    subst hv
    exact h i x hx hi
  | false =>
    have := h1 rfl
    subst this
    simp only [mkT, cond_false, Bool.false_eq_true, if_false]
    cases cs with
    | nil => simp at hn
    | cons c cs => exact h 0 c rfl (by omega)

theorem mkS_VS {agg : Bool} {n : Nat} {cs : List SV} {f : Nat → Value} (hn : n ≤ cs.length) (h1 : agg = false → n = 1) (h : ∀ (j : Nat) (y : SV), cs[j]? = some y → j < n → VS own F w y (f j)) :
    VS own F w (mkS agg n cs) (if agg then .agg ((List.range n).map f).toArray else f 0) := by
  cases agg with
  | true =>
    simp only [mkS, cond_true, if_true]
    refine .agg _ _ (by simp; omega) ?_
    intro i x v hx hv
    have hi : i < n := by
      have := (Array.getElem?_eq_some_iff.1 hv).1
      simpa using this
    simp [List.getElem?_take, hi] at hx
    simp [hi] at hv
    subst hv
    exact h i x hx hi
  | false =>
    have := h1 rfl
    subst this
    simp only [mkS, cond_false, Bool.false_eq_true, if_false]
    cases cs with
    | nil => simp at hn
    | cons c cs => exact h 0 c rfl (by omega)

theorem TOk.one {t : TypeId} {e : TE} (h : TOk P t e) : e.ti.isAgg = false → e.size = 1 := by
  obtain ⟨i, _, _, _, _, z, _, _, _, h1, _⟩ := h.info
  exact fun ha => (h1 ha).2

theorem mapO_len {α β : Type} {f : α → Option β} : ∀ {xs : List α} {ys : List β}, mapO f xs = some ys → ys.length = xs.length
  | [], ys, h => by simp [mapO] at h; subst h; rfl
  | x :: xs, ys, h => by
    simp only [mapO] at h
    split at h
    · exact nomatch h
    · split at h
      · exact nomatch h
      · rename_i zs hz
        injection h with h
        subst h
        simp [mapO_len hz]
theorem mapO_get {α β : Type} {f : α → Option β} : ∀ {xs : List α} {ys : List β}, mapO f xs = some ys → ∀ (i : Nat) (y : β), ys[i]? = some y → ∃ x, xs[i]? = some x ∧ f x = some y
  | [], ys, h, i, y, hy => by simp [mapO] at h; subst h; simp at hy
  | x :: xs, ys, h, i, y, hy => by
    simp only [mapO] at h
    split at h
    · exact nomatch h
    · rename_i z hz
      split at h
      · exact nomatch h
      · rename_i zs hzs
        injection h with h
        subst h
        cases i with
        | zero => simp at hy; subst hy; exact ⟨x, rfl, hz⟩
        | succ i => simpa using mapO_get hzs i y (by simpa using hy)

theorem norm_VS {x : SV} {v : Value} (h : VS own F w x v) : VS own F w (normS x) v := by
  unfold normS
  split
  · rename_i xs
    split
    · rename_i ts hm
      cases h with
      | agg _ vs hs h =>
        refine .t _ _ (.agg _ _ (by rw [hs, mapO_len hm]) fun i x v hx hv => ?_)
        obtain ⟨y, hy, hfy⟩ := mapO_get hm i x hx
        split at hfy
        · simp at hfy
          subst hfy
          have := h i _ v hy hv
          cases this with
          | t _ _ h => exact h
        · simp at hfy
    · exact h
  · exact h

theorem nd_obj (r : Rel own F w σ) {k : Nat} {ep : Nat → Nat} {nd : Nd} (hk : nth σ k = some (.nd ep nd)) :
    TreeOk F w ((own k).cur ep) nd ∧ (∀ b, Bk ((own k).cur ep) nd b → (own k).bl b) ∧ ep 0 = 0 ∧ ∀ e p, ep p.length < e → (own k).am e p = none := by
  rw [nth_eq] at hk
  exact r.obj k _ hk

theorem cellsR_get {k e : Nat} {p : Path} {i : Nat} : ∀ {ys : List T} {m j : Nat} {s : SV}, (cellsR k e p i m ys)[j]? = some s → ∃ y, ys[j]? = some y ∧ s = (match y with | .nst _ _ xs => SV.ref k e (p ++ [(i, m + j)]) 0 xs.length | .nmp _ _ => SV.mp k e (p ++ [(i, m + j)]) | y => .t y)
  | [], m, j, s, h => by simp [cellsR] at h
  | y :: ys, m, 0, s, h => by simp [cellsR] at h; exact ⟨y, rfl, by rw [← h]; rfl⟩
  | y :: ys, m, j + 1, s, h => by
    simp only [cellsR, List.getElem?_cons_succ] at h
    obtain ⟨z, h1, h2⟩ := cellsR_get h
    exact ⟨z, by simpa using h1, by rw [h2, show m + 1 + j = m + (j + 1) by omega]⟩
theorem cellsR_length {k e : Nat} {p : Path} {i : Nat} : ∀ {ys : List T} {m : Nat}, (cellsR k e p i m ys).length = ys.length
  | [], m => rfl
  | y :: ys, m => by simp [cellsR, cellsR_length]

/-- A reference to a whole row. -/
theorem VS.refL {k e : Nat} {p : Path} {L : Loc} {len : Nat} (h : (own k).am e p = some L) (hl : match L with | .e _ => len = 0 | .at _ _ _ cap m => m = len ∧ m ≤ cap ∧ m ≤ 2 ^ 48) : VS own F w (.ref k e p 0 len) L.val := by
  cases L with
  | e ad => simp only at hl; subst hl; exact .refE k e p ad h
  | «at» b o sz cap m =>
    obtain ⟨rfl, h1, h2⟩ := hl
    have := VS.ref (F := F) (w := w) k e p 0 m b o sz cap m h (by omega) h1 h2
    simpa [Loc.val] using this
/-- What a node says of its place. -/
theorem NodeOk.loc {c : Path → Option Loc} {p : Path} {E : TypeId} {sz : Nat} {xs : List T} (h : NodeOk F w c p (.row E sz xs)) : ∃ L, c p = some L ∧ (match L with | .e _ => xs.length = 0 | .at _ _ _ cap m => m = xs.length ∧ m ≤ cap ∧ m ≤ 2 ^ 48) := by
  rcases h with ⟨rfl, a, ha⟩ | ⟨b, o, cap, vals, h1, _, _, _, _, h6, h7, _⟩
  · exact ⟨_, ha, rfl⟩
  · exact ⟨_, h1, rfl, h6, h7⟩

/-- What a load out of a tree's row gives. -/
theorem pl_load (ht : TabOk P tt) (r : Rel own F w σ) {t : TypeId} (hg : (tt.at t).ti.good = true) {k e : Nat} {p : Path} {i off : Nat} {mv : Value} (hv : VS own F w (.pl k e p i off) mv) {ep : Nat → Nat} {nd : Nd} (hk : nth σ k = some (.nd ep nd)) (he : e = ep p.length) {K : SV → Prop}
    (hs : nodeK nd p fun m => match m with
      | .row _ sz xs => Ob (i < xs.length) ∧ Ob (off + (tt.at t).size ≤ sz) ∧ exE xs i fun x => K (normS (mkS (tt.at t).ti.isAgg (tt.at t).size ((cellsR k (ep (p.length + 1)) p i 0 x.cells).drop off)))
      | .map .. => False) :
    ∃ (b o : Nat) (f : Nat → Value) (x : SV), mv = .pointer (some ⟨b, o, none⟩) ∧ (∀ j, j < (tt.at t).size → w.cell? ⟨b, o + j, none⟩ = some (f j)) ∧ K x ∧ VS own F w x (if (tt.at t).ti.isAgg then .agg ((List.range (tt.at t).size).map f).toArray else f 0) := by
  have hT := ht.at t hg
  obtain ⟨n, hp, h1⟩ := nodeK_out hs
  obtain ⟨hTr, hB, hep, hfr⟩ := nd_obj r hk
  subst he
  cases n with
  | map => exact h1.elim
  | row E s xs =>
    obtain ⟨h2, h3, h4⟩ := h1
    have h2 := h2.out
    have h3 := h3.out
    have hx := h4.out (x := xs[i]) (by rw [nth_eq]; exact List.getElem?_eq_getElem h2)
    rcases hTr.1 p _ hp with ⟨rfl, _⟩ | ⟨b, o, cap, vals, g1, g3, g4, g5, g6, g7, g8, g9, g10, g11⟩
    · simp at h2
    · have hmv := pl_out g1 hv
      have hle : (i + 1) * s ≤ cap * s := Nat.mul_le_mul_right _ (by omega)
      rw [Nat.add_mul, Nat.one_mul] at hle
      refine ⟨b, o + i * s + off, fun j => vals.getD (o + i * s + off + j) undef, _, hmv, fun j hj => cell_of g5 (by omega), hx, norm_VS (mkS_VS (by have := g9 xs[i] (List.getElem_mem h2); simp [cellsR_length]; omega) hT.one ?_)⟩
      intro j y hy hj
      rw [List.getElem?_drop] at hy
      obtain ⟨z, hz, he⟩ := cellsR_get hy
      have hlt : o + i * s + off + j < vals.size := by omega
      have hget : vals[o + i * s + (off + j)]? = some (vals.getD (o + i * s + off + j) undef) := by
        rw [show o + i * s + (off + j) = o + i * s + off + j by omega]
        simp [Array.getD_eq_getD_getElem?, Array.getElem?_eq_getElem hlt]
      have hc := g10 i xs[i] (off + j) z _ (List.getElem?_eq_getElem h2) hz hget
      rw [he]
      cases hzn : z.nd? with
      | none => cases z <;> first | exact .t _ _ hc | exact nomatch hzn
      | some m =>
        have hnd : nodeAt nd (p ++ [(i, off + j)]) = some m := by
          rw [nodeAt_append hp]
          exact nodeAt_cons.2 ⟨xs[i], z, m, List.getElem?_eq_getElem h2, hz, hzn, nodeAt_nil⟩
        have e := nd_of hzn
        subst e
        have hlen : (p ++ [(i, off + j)]).length = p.length + 1 := by simp
        cases m with
        | row E2 s2 x2 =>
          obtain ⟨L, q1, q2⟩ := hc
          obtain ⟨L', q3, q4⟩ := (hTr.1 _ _ hnd).loc
          rw [q1] at q3
          injection q3 with q3
          subst q3
          rw [q2]
          have q1' : (own k).am (ep (p.length + 1)) (p ++ [(i, off + j)]) = some L := by rw [← hlen]; exact q1
          show VS own F w (.ref k (ep (p.length + 1)) (p ++ [(i, 0 + (off + j))]) 0 x2.length) L.val
          rw [Nat.zero_add]
          refine VS.refL q1' ?_
          cases L with
          | e => exact q4
          | «at» => exact ⟨q4.1, q4.2.1, q4.2.2⟩
        | map k2 e2 =>
          obtain ⟨L, q1, q2⟩ := hc
          obtain ⟨b2, ents, clock, q3, _⟩ := hTr.1 _ _ hnd
          rw [q1] at q3
          injection q3 with q3
          subst q3
          rw [q2]
          show VS own F w (.mp k (ep (p.length + 1)) (p ++ [(i, 0 + (off + j))])) (.map (some b2))
          rw [Nat.zero_add]
          have q1' : (own k).am (ep (p.length + 1)) (p ++ [(i, off + j)]) = some (.at b2 0 0 1 1) := by rw [← hlen]; exact q1
          exact .mp _ _ _ _ _ _ _ _ q1'

theorem load_out (ht : TabOk P tt) (r : Rel own F w σ) {t : TypeId} {sv : SV} {mv : Value} (hv : VS own F w sv mv) {K : SV → Prop} (hs : loadOp tt t sv σ K) :
    ∃ (ad : Addr) (x : SV) (u : Value), mv = .pointer (some ad) ∧ (loadVar t ad).run P w = .ok u w ∧ K x ∧ VS own F w x u := by
  unfold loadOp at hs
  simp only at hs
  cases hg : (tt.at t).ti.good with
  | false => rw [hg] at hs; exact hs.elim
  | true =>
    have hT := ht.at t hg
    rw [hg, cond_true] at hs
    split at hs
    · rename_i cs
      obtain ⟨h1, h2⟩ := hs
      have h1 := h1.out
      cases hv with
      | t _ _ hv =>
        cases hv with
        | ptr _ b off vals hF hcell h =>
          exact ⟨_, _, _, rfl, run_loadVar hT w b off vals fun j hj => hcell j (by omega), h2, .t _ _ (mkT_VT h1 hT.one fun j y hy _ => h j y hy)⟩
    · rename_i k ee p i off
      split at hs
      · rename_i E cs hk
        split at hs
        · obtain ⟨h1, h2, h3⟩ := hs
          have h1 := h1.out
          have h2 := h2.out
          subst h1
          have he := pl_e0 r hk hv
          subst he
          obtain ⟨b, vals, ho1, ho2, hb, hsz, hcs, _⟩ := var_obj r hk
          have hm := pl_out ho1 hv
          simp only [Nat.zero_mul, Nat.add_zero, Nat.zero_add] at hm
          refine ⟨_, _, _, hm, run_loadVar hT w b off (fun j => vals.getD (off + j) undef) fun j hj => cell_of hb (by omega), h3, mkS_VS (by simp; omega) hT.one ?_⟩
          intro j y hy hj
          simp only [List.getElem?_drop] at hy
          refine hcs (off + j) y _ hy ?_
          simp [Array.getD_eq_getD_getElem?, Array.getElem?_eq_getElem (show off + j < vals.size by omega)]
        · exact hs.elim
      · rename_i ep nd hk
        obtain ⟨h1, h2⟩ := hs
        obtain ⟨b, o, f, x, hm, hc, hK, hv2⟩ := pl_load ht r hg hv hk h1.out h2
        exact ⟨_, x, _, hm, run_loadVar hT w b o f hc, hK, hv2⟩
      · exact hs.elim
    · exact hs.elim

theorem op_load (ht : TabOk P tt) (hn : Next P o a own F w σ K next) (r : Rel own F w σ) {t : TypeId} {x : Operand} (ho : o.op = .load t x) {sv : SV} (hv : VS own F w sv (a.eval x))
    (hs : loadOp tt t sv σ fun v => K v σ) : o.wp P a w next Q := by
  obtain ⟨ad, y, u, h1, h2, h3, h4⟩ := load_out (P := P) ht r hv hs
  refine op_pure hn r ?_ h3 h4
  unfold execOp
  simp only [ho, h1, Instr.loadAt, Instr.sureAddr, Sem.run_bind, Sem.run_pure, Result.andThen_ok, h2]

/-! ### new variables -/
/-- A variable's place. -/
def ownV (b n : Nat) : Own := ⟨fun e p => if e = 0 ∧ p = [] then some (.at b 0 n 1 1) else none, fun x => x = b⟩
theorem ownV_at {b n : Nat} : (ownV b n).am 0 [] = some (.at b 0 n 1 1) := by unfold ownV; simp
theorem ownV_no {b n e : Nat} {p : Path} (h : 0 < e ∨ p ≠ []) : (ownV b n).am e p = none := by
  unfold ownV
  show (if e = 0 ∧ p = [] then _ else none) = none
  rw [if_neg fun h' => by
    rcases h with h | h
    · omega
    · exact h h'.2]
theorem op_new (hn : Next P o a own F w σ K next) (r : Rel own F w σ) {E : TypeId} {cs : List SV} {vals : Array Value} (hrun : (execOp a.eval o).run P w = .ok (.value (.pointer (some ⟨w.heap.size, 0, none⟩))) (w.alloc (.cells vals E)))
    (hs : vals.size = cs.length) (hv : ∀ (j : Nat) (x : SV) (v : Value), cs[j]? = some x → vals[j]? = some v → VS own F w x v) (h1 : ∀ v ∈ vals.toList, v.oneCell' = true) (hk : K (.loc σ.length 0 0) (σ ++ [.var E cs])) : o.wp P a w next Q := by
  have hp := r.pushE (w' := w.alloc (.cells vals E)) (ownV w.heap.size cs.length) (fun b hb => by
      have hb : b = w.heap.size := hb
      subst hb; simp) rfl rfl rfl (by simp) (fun i hi => Below.heap_alloc w _ i hi) (.var E cs)
    (fun own' _ _ h3 => show OR own' F _ (ownV w.heap.size cs.length) (.var E cs) from ⟨w.heap.size, vals, ownV_at, rfl, heap_alloc_new w _, hs, fun j x v hx hv' => h3 _ _ (hv j x v hx hv'), h1, fun e p h => ownV_no h⟩)
  refine wp_value hrun (hn _ _ _ _ _ _ hk hp.2 hp.1 (by simp) ?_)
  have := VS.pl (own := upd1 own σ.length (ownV w.heap.size cs.length)) (F := F) (w := w.alloc (.cells vals E)) σ.length 0 [] 0 0 w.heap.size 0 cs.length 1 1 (by rw [upd1_same]; exact ownV_at)
  simpa using this

theorem op_alloc (ht : TabOk P tt) (hn : Next P o a own F w σ K next) (r : Rel own F w σ) {t : TypeId} (ho : o.op = .alloc t) (hg : (tt.at t).ti.good = true)
    (hk : K (.loc σ.length 0 0) (σ ++ [.var t ((tt.at t).zero.map .t)])) : o.wp P a w next Q := by
  obtain ⟨i, hi, hs, hb, hz0, z, hz, hzs, _, _, hzv⟩ := (ht.at t hg).info
  refine op_new hn r (vals := z.cells) ?_ (by simp [hzs, hz0]) ?_ ?_ hk
  · unfold execOp
    simp [ho, Instr.alloc, zeroValue, typeInfo, hi, hz, newVar, newRow]
  · intro j x v hx hv
    simp only [List.getElem?_map] at hx
    cases hj : (tt.at t).zero[j]? with
    | none => simp [hj] at hx
    | some y =>
      simp [hj] at hx
      subst hx
      exact .t _ _ (hzv F w j y v hj hv).1
  · intro v hv
    obtain ⟨j, hj⟩ := List.getElem?_of_mem hv
    have hlt : j < (tt.at t).zero.length := by rw [hz0, ← hzs]; simpa using (List.getElem?_eq_some_iff.1 hj).1
    exact (hzv F w j _ v (List.getElem?_eq_getElem hlt) (by simpa using hj)).2

theorem op_box (hn : Next P o a own F w σ K next) (r : Rel own F w σ) {t : TypeId} {x : Operand} (ho : o.op = .box t x) {sv : SV} (hv : VS own F w sv (a.eval x)) (hl : sv.cells.all SV.leaf = true)
    (hk : K (.loc σ.length 0 0) (σ ++ [.var t sv.cells])) : o.wp P a w next Q := by
  obtain ⟨h1, h3, h2⟩ := hv.cells hl
  refine op_new hn r (vals := (a.eval x).cells) ?_ h1 h2 h3 hk
  unfold execOp
  simp [ho, Instr.box, newVar, newRow]

end
end Go.Proofs.Ytihebfhhnoneiaa.Am
