/- Each operation does what the abstract machine says. -/
import Derived.Test.YtihebfhhnoneiaaAmStep
namespace Go.Proofs.Ytihebfhhnoneiaa.Am
open Go.RowKit
set_option linter.unusedVariables false
set_option linter.unusedSimpArgs false

section
variable {P : Program} {tt : Tab} {own : Nat → Own} {F : Nat → Prop} {w : World} {σ : Sto} {env : Env} {a : Act} {N : Nat} {o : Oper}

/-- A slice that is nobody's but the caller's: its row in a new block. -/
def ORow (F : Nat → Prop) (n : Nat) (w : World) (E : TypeId) (sz : Nat) (xs : List T) (v : Value) : Prop :=
  (xs = [] ∧ ∃ a, v = .slice a 0 0) ∨ ∃ (b cap : Nat), v = .slice (some ⟨b, 0, none⟩) xs.length cap ∧ n ≤ b ∧ ¬ F b ∧ OR (fun _ => .unborn) F w (.live b cap sz xs.length) (.row E sz xs)
/-- What a call's result reads as. -/
def RT (F : Nat → Prop) (n : Nat) (w : World) (r : T) (v : Value) : Prop := match r with
  | .own E (.sl sz xs) => ORow F n w E sz xs v
  | .own _ _ => False
  | r => VT F w r v
theorem RT.of_VT {F : Nat → Prop} {n : Nat} {w : World} {r : T} {v : Value} (h : VT F w r v) : RT F n w r v := by
  cases r <;> first | exact h | cases h
/-- THE CONTRACT OF A FUNCTION: arguments that read as these trees, in blocks that nobody writes; the call returns, all that was there stands, and the result reads as a tree of which 'post' holds, in those blocks or new ones. -/
@[irreducible] def PCalls (P : Program) (f : FuncId) (ts : List T) (post : T → Prop) : Prop :=
  (∃ fn, P.funcs[f]? = some fn ∧ (fn.name == "runtime.NumGoroutine") = false ∧ fn.body.isNone = false) ∧ ∀ (F : Nat → Prop) (w : World) (vs : List Value), vs.length = ts.length → (∀ (i : Nat) (x : T) (v : Value), ts[i]? = some x → vs[i]? = some v → VT F w x v) → (∀ b, F b → b < w.heap.size) →
    Calls P f vs.toArray w fun e w' => ∃ (r : T) (mv : Value) (F' : Nat → Prop), e = .returned mv ∧ post r ∧ RT F' w.heap.size w' r mv ∧ (∀ b, F' b → F b ∨ w.heap.size ≤ b) ∧ (∀ b, F' b → b < w'.heap.size) ∧ (∀ b, F b → F' b) ∧ Below w.heap.size w w'

theorem PCalls.mono {f : FuncId} {ts : List T} {p q : T → Prop} (h : PCalls P f ts p) (k : ∀ r, p r → q r) : PCalls P f ts q := by
  unfold PCalls at *
  refine ⟨h.1, ?_⟩
  intro F w vs h1 h2 h3
  refine (h.2 F w vs h1 h2 h3).mono ?_
  rintro e w' ⟨r, mv, F', h4, h5, h6⟩
  exact ⟨r, mv, F', h4, k r h5, h6⟩

/-- What goes on behind an operation. -/
def Next (P : Program) (o : Oper) (a : Act) (own : Nat → Own) (F : Nat → Prop) (w : World) (σ : Sto) (K : SV → Sto → Prop) (next : Act → World → Prop) : Prop :=
  ∀ (v : SV) (σ' : Sto) (own' : Nat → Own) (F' : Nat → Prop) (w' : World) (mv : Value), K v σ' → Ext σ.length own F w own' F' w' → Rel own' F' w' σ' → σ.length ≤ σ'.length → VS own' F' w' v mv → next (a.put o.dst mv) w'

variable {K : SV → Sto → Prop} {next : Act → World → Prop} {Q : Exit → Act → World → Prop}

theorem wp_value {mv : Value} {w' : World} (h : (execOp a.eval o).run P w = .ok (.value mv) w') (hn : next (a.put o.dst mv) w') : o.wp P a w next Q := by
  unfold Oper.wp; rw [h]; exact hn
theorem wp_skip' {w' : World} (h : (execOp a.eval o).run P w = .ok .skip w') (hn : next (a.put o.dst undef) w') : o.wp P a w next Q := by
  unfold Oper.wp; rw [h]; exact hn

theorem Next.pure (hn : Next P o a own F w σ K next) (r : Rel own F w σ) {v : SV} {mv : Value} (hk : K v σ) (hv : VS own F w v mv) : next (a.put o.dst mv) w :=
  hn v σ own F w mv hk (Ext.refl _ _ _ _) r (Nat.le_refl _) hv

theorem op_pure (hn : Next P o a own F w σ K next) (r : Rel own F w σ) {v : SV} {mv : Value} (h : (execOp a.eval o).run P w = .ok (.value mv) w) (hk : K v σ) (hv : VS own F w v mv) : o.wp P a w next Q :=
  wp_value h (hn.pure r hk hv)

/-! ### reading what is of the call's own -/
theorem loc_var (r : Rel own F w σ) {k i off : Nat} {E : TypeId} {cs : List SV} {mv : Value} (hk : nth σ k = some (.var E cs)) (hv : VS own F w (.loc k i off) mv) (hi : i = 0) :
    ∃ (b : Nat) (vals : Array Value), own k = .live b 1 cs.length 1 ∧ mv = .pointer (some ⟨b, off, none⟩) ∧ w.heap[b]? = some (.cells vals E (0, 0)) ∧ vals.size = cs.length ∧
      ∀ (j : Nat) (x : SV) (v : Value), cs[j]? = some x → vals[j]? = some v → VS own F w x v := by
  rw [nth_eq] at hk
  obtain ⟨b, vals, h1, h2, h3, h4⟩ := r.obj k _ hk
  subst hi
  cases hv with
  | loc _ _ _ b' c s m h =>
    rw [h1] at h
    injection h with e1 e2 e3
    subst e1
    exact ⟨b, vals, h1, by simp, h2, h3, h4⟩
  | locD _ _ _ _ h => rw [h1] at h; exact nomatch h

theorem loc_row (r : Rel own F w σ) {k i off : Nat} {E sz : Nat} {ts : List T} {mv : Value} (hk : nth σ k = some (.row E sz ts)) (hv : VS own F w (.loc k i off) mv) (hi : i < ts.length) :
    ∃ (b cap : Nat) (vals : Array Value), own k = .live b cap sz ts.length ∧ mv = .pointer (some ⟨b, i * sz + off, none⟩) ∧ 0 < sz ∧ w.heap[b]? = some (.cells vals E (0, 0)) ∧ vals.size = cap * sz ∧ ts.length ≤ cap ∧ ts.length ≤ 2 ^ 48 ∧
      (∀ x ∈ ts, x.cells.length = sz) ∧ (∀ (i : Nat) (x : T) (j : Nat) (y : T) (v : Value), ts[i]? = some x → x.cells[j]? = some y → vals[i * sz + j]? = some v → VT F w y v) ∧ ∀ j, j < ts.length * sz → (vals.getD j undef).oneCell' = true := by
  rw [nth_eq] at hk
  rcases r.obj k _ hk with ⟨_, h0⟩ | ⟨b, cap, vals, h1, h2, h3, h4, h5, h6, h7, h8, h9⟩
  · subst h0; simp at hi
  · cases hv with
    | loc _ _ _ b' c s m h =>
      rw [h1] at h
      injection h with e1 e2 e3
      subst e1 e3
      exact ⟨b, cap, vals, h1, rfl, h2, h3, h4, h5, h6, h7, h8, h9⟩
    | locD _ _ _ _ h => rw [h1] at h; exact nomatch h

theorem cell_of {b j : Nat} {vals : Array Value} {E : TypeId} {fr : Nat × Nat} (hb : w.heap[b]? = some (.cells vals E fr)) (hj : j < vals.size) : w.cell? ⟨b, j, none⟩ = some (vals.getD j undef) := by
  rw [cell_of_row w b j vals E fr hb]
  simp [Array.getElem?_eq_getElem hj, Array.getD_eq_getD_getElem?]

/-! ### load -/
theorem mkT_VT {agg : Bool} {n : Nat} {cs : List T} {f : Nat → Value} (hn : n ≤ cs.length) (h1 : agg = false → n = 1) (h : ∀ (j : Nat) (y : T), cs[j]? = some y → j < n → VT F w y (f j)) :
    VT F w (mkT agg n cs) (if agg then .agg ((List.range n).map f).toArray else f 0) := by
  cases agg with
  | true =>
    simp only [mkT, cond_true, if_true]
    refine .agg _ _ (by simp; omega) ?_
    intro i x v hx hv
    have hi : i < n := by
      have := (Array.getElem?_eq_some_iff.1 hv).1
      simpa using this
    simp [List.getElem?_take, hi] at hx
    simp [hi] at hv
    subst hv
    exact h i x hx hi
  | false =>
    have := h1 rfl
    subst this
    simp only [mkT, cond_false, Bool.false_eq_true, if_false]
    cases cs with
    | nil => simp at hn
    | cons c cs => exact h 0 c rfl (by omega)

theorem mkS_VS {agg : Bool} {n : Nat} {cs : List SV} {f : Nat → Value} (hn : n ≤ cs.length) (h1 : agg = false → n = 1) (h : ∀ (j : Nat) (y : SV), cs[j]? = some y → j < n → VS own F w y (f j)) :
    VS own F w (mkS agg n cs) (if agg then .agg ((List.range n).map f).toArray else f 0) := by
  cases agg with
  | true =>
    simp only [mkS, cond_true, if_true]
    refine .agg _ _ (by simp; omega) ?_
    intro i x v hx hv
    have hi : i < n := by
      have := (Array.getElem?_eq_some_iff.1 hv).1
      simpa using this
    simp [List.getElem?_take, hi] at hx
    simp [hi] at hv
    subst hv
    exact h i x hx hi
  | false =>
    have := h1 rfl
    subst this
    simp only [mkS, cond_false, Bool.false_eq_true, if_false]
    cases cs with
    | nil => simp at hn
    | cons c cs => exact h 0 c rfl (by omega)

theorem TOk.one {t : TypeId} {e : TE} (h : TOk P t e) : e.ti.isAgg = false → e.size = 1 := by
  obtain ⟨i, _, _, _, _, z, _, _, _, h1, _⟩ := h.info
  exact fun ha => (h1 ha).2

theorem op_load (ht : TabOk P tt) (hn : Next P o a own F w σ K next) (r : Rel own F w σ) {t : TypeId} {x : Operand} (ho : o.op = .load t x) {sv : SV} (hv : VS own F w sv (a.eval x))
    (hs : loadOp tt t sv σ fun v => K v σ) : o.wp P a w next Q := by
  unfold loadOp at hs
  simp only at hs
  cases hg : (tt.at t).ti.good with
  | false => rw [hg] at hs; exact hs.elim
  | true =>
    have hT := ht.at t hg
    rw [hg, cond_true] at hs
    have run : ∀ (b off : Nat) (f : Nat → Value), a.eval x = .pointer (some ⟨b, off, none⟩) → (∀ j, j < (tt.at t).size → w.cell? ⟨b, off + j, none⟩ = some (f j)) →
        (execOp a.eval o).run P w = .ok (.value (if (tt.at t).ti.isAgg then .agg ((List.range (tt.at t).size).map f).toArray else f 0)) w := by
      intro b off f hx hc
      unfold execOp
      simp only [ho, hx, Instr.loadAt, Instr.sureAddr, Sem.run_bind, Sem.run_pure, Result.andThen_ok, run_loadVar hT w b off f hc]
    split at hs
    · rename_i cs
      obtain ⟨h1, h2⟩ := hs
      have h1 := h1.out
      generalize hm : a.eval x = mv at hv
      cases hv with
      | t _ _ hv =>
        cases hv with
        | ptr _ b off vals hF hcell h =>
          exact op_pure hn r (run b off vals hm fun j hj => hcell j (by omega)) h2 (.t _ _ (mkT_VT h1 hT.one fun j y hy _ => h j y hy))
    · rename_i k i off
      split at hs
      · rename_i E cs hk
        obtain ⟨h1, h2, h3⟩ := hs
        have h1 := h1.out
        have h2 := h2.out
        obtain ⟨b, vals, ho1, hm, hb, hsz, hcs⟩ := loc_var r hk hv h1
        refine op_pure hn r (run b off (fun j => vals.getD (off + j) undef) hm fun j hj => cell_of hb (by omega)) h3 (mkS_VS (by simp; omega) hT.one ?_)
        intro j y hy hj
        simp only [List.getElem?_drop] at hy
        refine hcs (off + j) y _ hy ?_
        simp [Array.getD_eq_getD_getElem?, Array.getElem?_eq_getElem (show off + j < vals.size by omega)]
      · rename_i E sz ts hk
        obtain ⟨h1, h2, h3⟩ := hs
        have h1 := h1.out
        have h2 := h2.out
        obtain ⟨b, cap, vals, ho1, hm, hsz0, hb, hsz, hcap, _, hcl, hts, _⟩ := loc_row r hk hv h1
        have hx := h3.out (x := ts[i]) (by rw [nth_eq]; exact List.getElem?_eq_getElem h1)
        have hle : (i + 1) * sz ≤ cap * sz := Nat.mul_le_mul_right _ (by omega)
        rw [Nat.add_mul, Nat.one_mul] at hle
        refine op_pure hn r (run b (i * sz + off) (fun j => vals.getD (i * sz + off + j) undef) hm fun j hj => cell_of hb (by omega)) hx (.t _ _ (mkT_VT (by have := hcl ts[i] (List.getElem_mem h1); simp; omega) hT.one ?_))
        intro j y hy hj
        simp only [List.getElem?_drop] at hy
        refine hts i ts[i] (off + j) y _ (List.getElem?_eq_getElem h1) hy ?_
        simp [Array.getD_eq_getD_getElem?, Array.getElem?_eq_getElem (show i * sz + off + j < vals.size by omega), Nat.add_assoc]
        rw [Array.getElem?_eq_getElem (show i * sz + (off + j) < vals.size by omega)]; rfl
      · exact hs.elim
    · exact hs.elim

theorem load_out (ht : TabOk P tt) (r : Rel own F w σ) {t : TypeId} {sv : SV} {mv : Value} (hv : VS own F w sv mv) {K : SV → Prop} (hs : loadOp tt t sv σ K) :
    ∃ (ad : Addr) (x : SV) (u : Value), mv = .pointer (some ad) ∧ (loadVar t ad).run P w = .ok u w ∧ K x ∧ VS own F w x u := by
  unfold loadOp at hs
  simp only at hs
  cases hg : (tt.at t).ti.good with
  | false => rw [hg] at hs; exact hs.elim
  | true =>
    have hT := ht.at t hg
    rw [hg, cond_true] at hs
    split at hs
    · rename_i cs
      obtain ⟨h1, h2⟩ := hs
      have h1 := h1.out
      cases hv with
      | t _ _ hv =>
        cases hv with
        | ptr _ b off vals hF hcell h =>
          exact ⟨_, _, _, rfl, run_loadVar hT w b off vals fun j hj => hcell j (by omega), h2, .t _ _ (mkT_VT h1 hT.one fun j y hy _ => h j y hy)⟩
    · rename_i k i off
      split at hs
      · rename_i E cs hk
        obtain ⟨h1, h2, h3⟩ := hs
        have h1 := h1.out
        have h2 := h2.out
        obtain ⟨b, vals, ho1, hm, hb, hsz, hcs⟩ := loc_var r hk hv h1
        refine ⟨_, _, _, hm, run_loadVar hT w b off (fun j => vals.getD (off + j) undef) fun j hj => cell_of hb (by omega), h3, mkS_VS (by simp; omega) hT.one ?_⟩
        intro j y hy hj
        simp only [List.getElem?_drop] at hy
        refine hcs (off + j) y _ hy ?_
        simp [Array.getD_eq_getD_getElem?, Array.getElem?_eq_getElem (show off + j < vals.size by omega)]
      · rename_i E sz ts hk
        obtain ⟨h1, h2, h3⟩ := hs
        have h1 := h1.out
        have h2 := h2.out
        obtain ⟨b, cap, vals, ho1, hm, hsz0, hb, hsz, hcap, _, hcl, hts, _⟩ := loc_row r hk hv h1
        have hx := h3.out (x := ts[i]) (by rw [nth_eq]; exact List.getElem?_eq_getElem h1)
        have hle : (i + 1) * sz ≤ cap * sz := Nat.mul_le_mul_right _ (by omega)
        rw [Nat.add_mul, Nat.one_mul] at hle
        refine ⟨_, _, _, hm, run_loadVar hT w b (i * sz + off) (fun j => vals.getD (i * sz + off + j) undef) fun j hj => cell_of hb (by omega), hx, .t _ _ (mkT_VT (by have := hcl ts[i] (List.getElem_mem h1); simp; omega) hT.one ?_)⟩
        intro j y hy hj
        simp only [List.getElem?_drop] at hy
        refine hts i ts[i] (off + j) y _ (List.getElem?_eq_getElem h1) hy ?_
        simp [Array.getD_eq_getD_getElem?, Array.getElem?_eq_getElem (show i * sz + off + j < vals.size by omega), Nat.add_assoc]
        rw [Array.getElem?_eq_getElem (show i * sz + (off + j) < vals.size by omega)]; rfl
      · exact hs.elim
    · exact hs.elim

/-! ### new variables -/
theorem op_new (hn : Next P o a own F w σ K next) (r : Rel own F w σ) {E : TypeId} {cs : List SV} {vals : Array Value} (hrun : (execOp a.eval o).run P w = .ok (.value (.pointer (some ⟨w.heap.size, 0, none⟩))) (w.alloc (.cells vals E)))
    (hs : vals.size = cs.length) (hv : ∀ (j : Nat) (x : SV) (v : Value), cs[j]? = some x → vals[j]? = some v → VS own F w x v) (hk : K (.loc σ.length 0 0) (σ ++ [.var E cs])) : o.wp P a w next Q := by
  have hp := r.push w.heap.size 1 cs.length 1 (.inl (Nat.le_refl _)) (fun _ => by simp) (w' := w.alloc (.cells vals E)) rfl rfl rfl (by simp) (fun i hi => Below.heap_alloc w _ i hi) (.var E cs)
    (fun own' h1 h2 e => ⟨w.heap.size, vals, rfl, heap_alloc_new w _, hs, fun j x v hx hv' => (hv j x v hx hv').ext r e⟩)
  refine wp_value hrun (hn _ _ _ _ _ _ hk hp.2 hp.1 (by simp) ?_)
  have : ownAt own σ.length (.live w.heap.size 1 cs.length 1) σ.length = .live w.heap.size 1 cs.length 1 := by unfold ownAt; rw [if_pos rfl]
  simpa using VS.loc (F := F) (w := w.alloc (.cells vals E)) σ.length 0 0 _ _ _ _ this

theorem op_alloc (ht : TabOk P tt) (hn : Next P o a own F w σ K next) (r : Rel own F w σ) {t : TypeId} (ho : o.op = .alloc t) (hg : (tt.at t).ti.good = true)
    (hk : K (.loc σ.length 0 0) (σ ++ [.var t ((tt.at t).zero.map .t)])) : o.wp P a w next Q := by
  obtain ⟨i, hi, hs, hb, hz0, z, hz, hzs, _, _, hzv⟩ := (ht.at t hg).info
  refine op_new hn r (vals := z.cells) ?_ (by simp [hzs, hz0]) ?_ hk
  · unfold execOp
    simp [ho, Instr.alloc, zeroValue, typeInfo, hi, hz, newVar, newRow]
  · intro j x v hx hv
    simp only [List.getElem?_map] at hx
    cases hj : (tt.at t).zero[j]? with
    | none => simp [hj] at hx
    | some y =>
      simp [hj] at hx
      subst hx
      exact .t _ _ (hzv F w j y v hj hv).1

theorem op_box (hn : Next P o a own F w σ K next) (r : Rel own F w σ) {t : TypeId} {x : Operand} (ho : o.op = .box t x) {sv : SV} (hv : VS own F w sv (a.eval x)) (hl : sv.cells.all SV.leaf = true)
    (hk : K (.loc σ.length 0 0) (σ ++ [.var t sv.cells])) : o.wp P a w next Q := by
  obtain ⟨h1, _, h2⟩ := hv.cells hl
  refine op_new hn r (vals := (a.eval x).cells) ?_ h1 h2 hk
  unfold execOp
  simp [ho, Instr.box, newVar, newRow]

end
end Go.Proofs.Ytihebfhhnoneiaa.Am
