/- Some objects of a memory taken by themselves, and put back. -/
import Derived.Test.YtgladinljapmkaaXF
import Derived.Deep.LoopGhost
/- All operations, regions, code. -/
namespace Go.Proofs.Ytgladinljapmkaa.Am
open Go.RowKit
set_option linter.unusedVariables false
set_option linter.unusedSimpArgs false
section
variable {P : Program} {tt : Tab} {I : FuncId → Bool} {own : Nat → Own} {F : Nat → Prop} {w : World} {σ : Sto} {env : Env} {a : Act} {N : Nat} {o : Oper}
variable {K : SV → Sto → Prop} {next : Act → World → Prop} {Q : Exit → Act → World → Prop}
theorem bif_elim {b : Bool} {p : Prop} (h : bif b then p else False) : b = true ∧ p := by
  cases b
  · exact h.elim
  · exact ⟨rfl, h⟩
theorem op_refNil (ht : TabOk P tt) (hn : Next P o a own F w σ K next) (r : Rel own F w σ) {op : BinOp} {t yt el : TypeId} {x y : Operand} (ho : o.op = .binOp op t x y yt) (hti : (tt.at t).ti = .slice el) {k e : Nat} {p : Path} {off len : Nat} (hx : VS own F w (.ref k e p off len) (a.eval x)) (hy : VS own F w (.t .nsl) (a.eval y))
    (hs : match (generalizing := false) op with | .eql => ∀ b, (0 < len → b = false) → K (.t (.bool b)) σ | .neq => ∀ b, (0 < len → b = true) → K (.t (.bool b)) σ | _ => False) : o.wp P a w next Q := by
  have hyv : a.eval y = .slice none 0 0 := by
    generalize a.eval y = v at hy
    cases hy with
    | t _ _ h => cases h; rfl
  have hxv : ∃ ad c, a.eval x = .slice ad len c ∧ (0 < len → ad.isNone = false) := by
    generalize a.eval x = v at hx
    cases hx with
    | ref _ _ _ _ _ b o sz cap m h => exact ⟨_, _, rfl, fun _ => rfl⟩
    | refE _ _ _ ad h => exact ⟨_, _, rfl, fun h => absurd h (by omega)⟩
    | refZ _ _ _ _ ad h => exact ⟨_, _, rfl, fun h => absurd h (by omega)⟩
  obtain ⟨ad, c, hxv, hne⟩ := hxv
  obtain ⟨e1, e2⟩ := run_eqNil (P := P) ht hti x y ad len c w
  have exec : ∀ {v : Value}, (do eqGuard op t x y (a.eval x) (a.eval y); Go.binOp op t (a.eval x) (a.eval y) : Sem Value).run P w = .ok v w → (execOp a.eval o).run P w = .ok (.value v) w := by
    intro v hr
    unfold execOp
    simp only [ho]
    rw [Sem.run_bind, hr]
    rfl
  rw [hxv, hyv] at exec
  cases op <;> first
    | exact hs.elim
    | exact op_pure hn r (exec e1) (hs _ hne) (.t _ _ (.bool _))
    | exact op_pure hn r (exec e2) (hs _ fun h => by rw [hne h]; rfl) (.t _ _ (.bool _))
theorem isArr_agg {t : TI} (h : isArr t = true) : t.isAgg = true := by cases t <;> first | rfl | exact nomatch h
theorem step_sound0 {Y : Nat → List SV → Sto → (SV → Sto → Prop) → Prop} (ht : TabOk P tt) (hn : Next P o a own F w σ K next) (r : Rel own F w σ) (hx : ∀ x, VS own F w (ev env x) (a.eval x)) {op : Op} {ty : TypeId} (ho : o.op = op) (hs : step (ctrY P I Y) tt op ty env σ K)
    (hy : ∀ fo args argTypes l, op = .call { callee := .value fo, args, argTypes } → ev env fo = .t (.yl l) → ¬ Y l (args.toList.map (ev env)) σ K) : o.wp P a w next Q := by
  unfold step at hs
  split at hs
  · exact op_move hn r (.inl ho) (hx _) hs
  · exact op_move hn r (.inr ho) (hx _) hs
  · rename_i c x y
    have hc := hx c
    split at hs
    · rename_i cb hcb
      rw [hcb] at hc
      exact op_pick hn r ho hc (hx x) (hx y) hs
    · exact hs.elim
  · rename_i t
    cases hg : (tt.at t).ti.good with
    | false => rw [hg] at hs; exact hs.elim
    | true =>
      rw [hg, cond_true] at hs
      cases hia : isArr (tt.at t).ti with
      | true =>
        rw [hia, cond_true] at hs
        obtain ⟨hz, hs⟩ := bif_elim hs
        exact op_allocArr ht hn r ho hg hz hs
      | false =>
        rw [hia, cond_false, forceSto_iff] at hs
        exact op_alloc ht hn r ho hg hs
  · rename_i t x
    cases hia : isArr (tt.at t).ti with
    | true =>
      rw [hia, cond_true] at hs
      obtain ⟨hg, hs⟩ := bif_elim hs
      have hxx := hx x
      split at hs
      · rename_i ys hys
        rw [hys] at hxx
        obtain ⟨h1, h2, h3⟩ := hs
        exact op_boxArr hn r ho hxx h1.out h2.out h3
      · exact hs.elim
    | false =>
    rw [hia, cond_false] at hs
    cases hl : (ev env x).cells.all SV.leaf with
    | false => rw [hl] at hs; exact hs.elim
    | true =>
      rw [hl, cond_true, forceSto_iff] at hs
      exact op_box hn r ho (hx x) hl hs
  · rename_i t x
    cases hia : isArr (tt.at t).ti with
    | true => rw [hia, cond_true] at hs; exact op_loadArr ht hn r ho (isArr_agg hia) (hx _) hs
    | false => rw [hia, cond_false] at hs; exact op_load ht hn r ho (hx _) hs
  · rename_i t x y
    cases hia : isArr (tt.at t).ti with
    | true => rw [hia, cond_true] at hs; exact op_storeArr ht hn r ho (hx _) (hx _) hs
    | false => rw [hia, cond_false] at hs; exact op_store ht hn r ho (hx _) (hx _) hs
  · rename_i s x f
    cases hf : hasField tt s f with
    | false => rw [hf] at hs; exact hs.elim
    | true =>
      rw [hf, cond_true] at hs
      exact op_fieldAddr ht hn r ho (hx x) hf hs
  · exact op_nilCheck hn r ho (hx _) hs
  · rename_i s x f
    cases hf : hasField tt s f with
    | false => rw [hf] at hs; exact hs.elim
    | true =>
      rw [hf, cond_true] at hs
      exact op_field ht hn r ho (hx x) hf hs
  · exact op_indexAddr ht hn r ho (hx _) (hx _) hs
  · rename_i op t x y yt
    have h1 := norm_VS (hx x)
    have h2 := norm_VS (hx y)
    split at hs
    · rename_i tx ty e1 e2
      rw [e1] at h1
      rw [e2] at h2
      cases h1 with
      | t _ _ h1 =>
        cases h2 with
        | t _ _ h2 => exact op_binOp ht hn r ho h1 h2 hs
    · rename_i k e p off len e1 e2
      rw [e1] at h1
      rw [e2] at h2
      have hti : ∃ e, (tt.at t).ti = .slice e := by
        revert hs
        split
        · intro _; exact ⟨_, by assumption⟩
        · intro hs; exact hs.elim
      obtain ⟨el, hti⟩ := hti
      rw [hti] at hs
      simp only [cond_true] at hs
      exact op_refNil ht hn r ho hti h1 h2 hs
    · exact hs.elim
  · rename_i t x
    have h1 := hx x
    split at hs
    · rename_i b e; rw [e] at h1; exact op_not hn r ho h1 hs
    · exact hs.elim
  · rename_i t x
    have h1 := hx x
    split at hs
    · rename_i k n e; rw [e] at h1; exact op_xor1 hn r ho h1 hs
    · exact hs.elim
  · rename_i t x
    have h1 := hx x
    split at hs
    · rename_i k n e; rw [e] at h1; exact op_neg hn r ho h1 hs
    · exact hs.elim
  · rename_i s d x
    have h1 := hx x
    split at hs
    · rename_i k0 k j n e1 e2 e3
      rw [e3] at h1
      exact op_convert ht hn r ho e2 (und_int (ht.at s (by rw [e1]; rfl)) e1) h1 hs
    · exact hs.elim
  · rename_i t parts
    split at hs
    · rename_i fs hti
      obtain ⟨hb, hs⟩ := bif_elim hs
      simp only [Bool.and_eq_true] at hb
      exact op_build ht hn r ho hti hx hb.1 hb.2 hs
    · rename_i m e hti
      cases hb : (parts.toList.isEmpty && (tt.at e).ti.good) with
      | true =>
        rw [hb, cond_true] at hs
        simp only [Bool.and_eq_true] at hb
        exact op_buildArr ht hn r ho hti hb.1 hb.2 hs
      | false =>
        rw [hb, cond_false] at hs
        obtain ⟨hb, hs⟩ := bif_elim hs
        simp only [Bool.and_eq_true, Bool.not_eq_true'] at hb
        split at hs
        · rename_i cs hcs
          rw [forceTs_iff] at hs
          exact op_buildArr2 ht hn r ho hti hx hb.1 hb.2 hcs hs
        · exact hs.elim
    · exact hs.elim
  · rename_i t n parts
    split at hs
    · rename_i E hti
      rcases Bool.eq_false_or_eq_true ((tt.at E).ti.good && Nat.beq n 0 && parts.toList.isEmpty) with hb0 | hb0
      · rw [hb0] at hs
        simp only [Bool.and_eq_true] at hb0
        have hn0 := Nat.eq_of_beq_eq_true hb0.1.2
        subst hn0
        exact op_buildSlice0 ht hn r ho hti hb0.1.1 hb0.2 hs
      rw [hb0] at hs
      simp only [cond_false] at hs
      cases harr : isArr (tt.at E).ti with
      | true =>
        rw [harr, cond_true] at hs
        exact op_buildSliceA ht hn r ho hti hx (by revert harr; cases (tt.at E).ti <;> simp [isArr, TI.isAgg]) hs
      | false =>
      rw [harr, cond_false] at hs
      obtain ⟨hb, hs⟩ := bif_elim hs
      simp only [Bool.and_eq_true] at hb
      obtain ⟨⟨⟨⟨⟨b1, b2⟩, b3⟩, b4⟩, b5⟩, b6⟩ := hb
      exact op_buildSlice ht hn r ho hti hx b1 (by simpa [Nat.blt_eq] using b2) (by simpa [Nat.blt_eq] using b3) (Nat.le_of_ble_eq_true b4) b5 b6 hs
    · exact hs.elim
  · rename_i t l c
    have h1 := hx l
    have h2 := hx c
    split at hs
    · rename_i E kl n kc m hti e1 e2
      rw [e1] at h1
      rw [e2] at h2
      obtain ⟨hb, g1, g2, g3, g4, hs⟩ := bif_elim hs
      simp only [Bool.and_eq_true] at hb
      rw [forceSto_iff] at hs
      exact op_makeSlice ht hn r ho hti h1 h2 hb.1.1 (by simpa [Nat.blt_eq] using hb.1.2) hb.2 g1.out g2.out g3.out g4.out hs
    · exact hs.elim
  · exact op_slice ht hn r ho hx hs
  · rename_i t x i
    have hx1 := hx x
    have hx2 := hx i
    split at hs
    · rename_i s k n h1 h2 h3
      refine op_index ht hn r ho hx1 hx2 ?_
      rw [h1, h2, h3]
      exact hs
    · rename_i m e xs k n h1 h2 h3
      obtain ⟨hb, hs⟩ := bif_elim hs
      simp only [Bool.and_eq_true, Bool.not_eq_true'] at hb
      rw [h2] at hx1
      rw [h3] at hx2
      exact op_indexArr ht hn r ho h1 hx1 hx2 hb.1 hb.2 hs.1.out hs.2.1.out hs.2.2
    · exact hs.elim
  · rename_i f first cap
    obtain ⟨hb, hs⟩ := bif_elim hs
    exact op_makeFunc hn r ho hb hx hs
  · rename_i t
    split at hs
    · split at hs
      · rw [forceSto_iff] at hs
        exact op_makeMap hn r ho hs
      · exact hs.elim
    · exact hs.elim
  · rename_i t m k
    have h1 := hx m
    have h2 := hx k
    split at hs
    · rename_i kt e m' ee p e1 e2
      rw [e2] at h1
      split at hs
      · rename_i ep nd e5
        obtain ⟨he, hs⟩ := hs
        obtain ⟨kk, n, hs, hkt, hi⟩ := keyK_out hs h2
        obtain ⟨q, hp, hs⟩ := nodeK_out hs
        cases q with
        | row => exact hs.elim
        | map kk2 es =>
          obtain ⟨hb, hs⟩ := bif_elim0 hs
          exact op_lookup ht hn r ho e1 hkt h1 hi e5 he.out hp hb hs.out
      · exact hs.elim
    · exact hs.elim
  · rename_i t m k v
    have h1 := hx m
    have h2 := hx k
    have h3 := hx v
    split at hs
    · rename_i kt e m' ee p v' e1 e2 e4
      rw [e2] at h1
      rw [e4] at h3
      split at hs
      · rename_i ep nd e6
        obtain ⟨he, hs⟩ := hs
        obtain ⟨kk, n, hs, hkt, hi⟩ := keyK_out hs h2
        obtain ⟨q, hp, hs⟩ := updK_out hs
        cases q with
        | row => exact hs.elim
        | map kk2 es =>
          obtain ⟨hb, hs⟩ := bif_elim0 hs
          rw [forceSto_iff] at hs
          exact op_mapUpdate ht hn r ho e1 hkt h1 hi h3 e6 he.out hp hb hs
      · exact hs.elim
    · exact hs.elim
  · rename_i t m k
    have h1 := hx m
    have h2 := hx k
    split at hs
    · rename_i kt e m' ee p e1 e2
      rw [e2] at h1
      split at hs
      · rename_i ep nd e5
        obtain ⟨he, hs⟩ := hs
        obtain ⟨kk, n, hs, hkt, hi⟩ := keyK_out hs h2
        obtain ⟨q, hp, hs⟩ := nodeK_out hs
        cases q with
        | row => exact hs.elim
        | map kk2 es =>
          obtain ⟨hb, hs⟩ := bif_elim0 hs
          obtain ⟨q2, hp2, hs⟩ := updK_out hs
          rw [forceSto_iff] at hs
          exact op_mapEntry ht hn r ho e1 hkt h1 hi e5 he.out hp hb hs
      · exact hs.elim
    · exact hs.elim
  · rename_i t m s v
    have h1 := hx m
    have h2 := hx s
    have h3 := hx v
    split at hs
    · rename_i m' ee p j v' e2 e3 e4
      rw [e2] at h1
      rw [e3] at h2
      rw [e4] at h3
      split at hs
      · rename_i ep nd e5
        obtain ⟨he, hs⟩ := hs
        obtain ⟨q, hp, hs⟩ := updK_out hs
        cases q with
        | row => exact hs.elim
        | map kk2 es =>
          have hs2 := hs.out
          dsimp only at hs2
          rw [forceSto_iff] at hs2
          exact op_entryStore hn r ho h1 h2 h3 e5 he.out hp hs.lo hs.hi hs2
      · exact hs.elim
    · exact hs.elim
  · rename_i x i
    exact op_extract hn r ho (hx x) hs
  · rename_i args argTypes
    split at hs
    · rename_i t x e1 e2
      have ea : argTypes = #[t] := by apply Array.ext'; exact e1
      have eb : args = #[x] := by apply Array.ext'; exact e2
      subst ea eb
      exact op_len ht hn r ho (hx x) hs
    · exact hs.elim
  · rename_i args argTypes
    split at hs
    · rename_i x y e2
      have eb : args = #[x, y] := by apply Array.ext'; exact e2
      subst eb
      have h1 := hx x
      have h2 := hx y
      split at hs
      · rename_i k n k' m e3 e4
        rw [e3] at h1
        rw [e4] at h2
        obtain ⟨_, hs⟩ := bif_elim0 hs
        exact op_max hn r ho h1 h2 hs
      · exact hs.elim
    · exact hs.elim
  · rename_i args argTypes
    split at hs
    · rename_i x y e2
      have eb : args = #[x, y] := by apply Array.ext'; exact e2
      subst eb
      have h1 := hx x
      have h2 := hx y
      split at hs
      · rename_i k n k' m e3 e4
        rw [e3] at h1
        rw [e4] at h2
        obtain ⟨_, hs⟩ := bif_elim0 hs
        exact op_min hn r ho h1 h2 hs
      · exact hs.elim
    · exact hs.elim
  · rename_i args argTypes
    split at hs
    · rename_i t u x y e1 e2
      have ea : argTypes = #[t, u] := by apply Array.ext'; exact e1
      have eb : args = #[x, y] := by apply Array.ext'; exact e2
      subst ea eb
      split at hs
      · rename_i E E' e3 e4
        exact op_append ht hn r ho e3 e4 (hx x) (hx y) hs
      · exact hs.elim
    · exact hs.elim
  · rename_i fo args argTypes
    refine op_call (I := I) hn r ho hx ?_
    split at hs
    · rename_i f cap h; rw [h]; exact hs
    · rename_i f cap h; rw [h]; exact hs
    · rename_i l h; exact absurd hs (hy _ _ _ _ rfl h)
    · exact hs.elim
  · exact hs.elim
theorem step_sound (ht : TabOk P tt) (hn : Next P o a own F w σ K next) (r : Rel own F w σ) (hx : ∀ x, VS own F w (ev env x) (a.eval x)) {op : Op} {ty : TypeId} (ho : o.op = op) (hs : step (ctr P I) tt op ty env σ K) : o.wp P a w next Q :=
  step_sound0 ht hn r hx ho hs fun _ _ _ _ _ _ h => h
theorem rowsIn_of {ro : Option Nat} {nn : Nat} {row : String} {args : Array Value} {w : World} {R : Value → World → Prop} (h : Go.Rows P row args w R) : RowsIn (Fw ro) nn P row args w R :=
  fun c cs _ => let ⟨v, w', r, s⟩ := h c cs; ⟨v, w', r, (StepsIn.of_steps s).mono fun m _ => fenced_wide P m⟩
theorem wpIn_of_wp {ro : Option Nat} {nn : Nat} (hd : ∀ c, o.op ≠ .defer c) (h : o.wp P a w next Q) : o.wpIn (Fw ro) nn P a w next Q := by
  refine ⟨fun _ _ => trivial, ?_⟩
  have e : o.semAt ro a.eval = execOp a.eval o := by
    cases ro with
    | none => rfl
    | some l => exact Oper.semAt_some l a.eval o hd
  show o.uponIn (Fw ro) nn P a next Q ((o.semAt ro a.eval).run P w)
  rw [e]
  unfold Oper.wp at h
  generalize (execOp a.eval o).run P w = res at h ⊢
  cases res with
  | ok nx w' =>
    cases nx with
    | enter f args => exact ⟨(fun h => nomatch h), callsIn_wide.2 h⟩
    | row rw args => exact ⟨(fun h => nomatch h), rowsIn_of h⟩
    | round => exact h.elim
    | value v => exact h
    | skip => exact h
    | defer d => exact h
    | _ => exact h.elim
  | halt hh w' => cases hh <;> exact h
theorem step_defer {C : Ctr} {op : Op} {ty : TypeId} (hs : step C tt op ty env σ K) : ∀ c, op ≠ .defer c := by
  rintro c rfl
  unfold step at hs
  exact hs
theorem step_soundIn {ro : Option Nat} {nn : Nat} {Y : Nat → List SV → Sto → (SV → Sto → Prop) → Prop} {Z : Keep} (hY : ∀ l vs σ K, Y l vs σ K → ∃ rec, (l, Obj.loop rec) ∈ Z.bl ∧ YCalls P l rec Z vs σ fun σ' => K (.t (.bool true)) σ')
    (ht : TabOk P tt) (hn : Next P o a own F w σ K next) (r : Rel own F w σ) (kz : Kept Z σ own F w) (hx : ∀ x, VS own F w (ev env x) (a.eval x)) {op : Op} {ty : TypeId} (ho : o.op = op) (hs : step (ctrY P I Y) tt op ty env σ K) : o.wpIn (Fw ro) nn P a w next Q := by
  have hd : ∀ c, o.op ≠ .defer c := by rw [ho]; exact step_defer hs
  by_cases hc : ∃ fo args argTypes l, op = .call { callee := .value fo, args, argTypes } ∧ ev env fo = .t (.yl l) ∧ Y l (args.toList.map (ev env)) σ K
  · obtain ⟨fo, args, argTypes, l, rfl, hev, hyl⟩ := hc
    obtain ⟨rec, hl, hyc⟩ := hY l _ _ _ hyl
    obtain ⟨h1, h2⟩ := kz.same _ hl
    have hf := hx fo
    rw [hev] at hf
    obtain ⟨mv, hmv⟩ : ∃ mv, mv = a.eval fo := ⟨_, rfl⟩
    rw [← hmv] at hf
    cases hf with
    | t _ _ hf =>
      cases hf
      unfold YCalls at hyc
      have hargs : ∀ (i : Nat) (x : SV) (v : Value), (args.toList.map (ev env))[i]? = some x → (args.toList.map a.eval)[i]? = some v → VS own F w x v := by
        intro i x v h1 h2
        simp only [List.getElem?_map] at h1 h2
        cases hc : args.toList[i]? with
        | none => simp [hc] at h1
        | some y => simp [hc] at h1 h2; subst h1 h2; exact hx y
      obtain ⟨fn, tmps, as, bd, hyr, hR⟩ := hyc (nn - 1) own F w (args.toList.map a.eval) (by simp) hargs r kz h1 h2
      have e : (args.toList.map a.eval).toArray = args.map a.eval := by apply Array.ext'; simp
      rw [e] at hyr
      refine ⟨fun _ _ => trivial, ?_⟩
      have es : o.semAt ro a.eval = execOp a.eval o := by
        cases ro with
        | none => rfl
        | some l => exact Oper.semAt_some l a.eval o hd
      show o.uponIn (Fw ro) nn P a next Q ((o.semAt ro a.eval).run P w)
      rw [es]
      have hrun : (execOp a.eval o).run P w = .ok (.round l fn tmps as bd) w := by
        unfold execOp
        simp only [ho, resolve, ← hmv, Deferred.ofValue, Sem.run_bind, Sem.run_pure, Result.andThen_ok, invoke]
        simpa using hyr
      rw [hrun]
      refine ⟨(fun h => nomatch h), ?_⟩
      have hR' : RoundIn (Fw ro) (nn - 1) P l fn tmps as bd w (fun e w' => ∃ (σ' : Sto) (own' : Nat → Own) (F' : Nat → Prop), e = .returned (.bool true) ∧ K (.t (.bool true)) σ' ∧ Ext σ.length own F w own' F' w' ∧ Rel own' F' w' σ' ∧ σ.length ≤ σ'.length) := hR
      refine hR'.mono ?_
      rintro e w' ⟨σ', own', F', rfl, hk, e1, r1, hlen⟩
      exact hn _ _ _ _ _ _ hk e1 r1 hlen (.t _ _ (.bool _))
  · exact wpIn_of_wp hd (step_sound0 ht hn r hx ho hs fun fo args at' l h1 h2 h3 => hc ⟨fo, args, at', l, h1, h2, h3⟩)
def Same (M : List Nat) (a a' : Act) : Prop := ∀ j, j ∉ M → a'.tmps.getD j undef = a.tmps.getD j undef
theorem Same.refl (M : List Nat) (a : Act) : Same M a a := fun _ _ => rfl
theorem Same.trans {M : List Nat} {a b c : Act} (h : Same M a b) (k : Same M b c) : Same M a c := fun j hj => (k j hj).trans (h j hj)
theorem Same.mono {M M' : List Nat} {a b : Act} (h : Same M a b) (hm : ∀ j, j ∈ M → j ∈ M') : Same M' a b := fun j hj => h j fun h' => hj (hm j h')
theorem Same.put {M : List Nat} (a : Act) {d : Option Nat} (hd : ∀ i, d = some i → i ∈ M) (v : Value) : Same M a (a.put d v) := by
  intro j hj
  cases d with
  | none => rfl
  | some d =>
    have hne : d ≠ j := fun e => hj (e ▸ hd d rfl)
    simp [Act.put, Array.getD_eq_getD_getElem?, Array.getElem?_setIfInBounds, hne]
def Goes (N : Nat) (M : List Nat) (a : Act) (own : Nat → Own) (F : Nat → Prop) (w : World) (σ : Sto) (K : Env → Sto → Prop) (next : Act → World → Prop) : Prop :=
  ∀ (env' : Env) (σ' : Sto) (own' : Nat → Own) (F' : Nat → Prop) (w' : World) (a' : Act), K env' σ' → Ext σ.length own F w own' F' w' → Rel own' F' w' σ' → σ.length ≤ σ'.length → ER N own' F' w' env' a' → a'.defers = a.defers → Same M a a' → next a' w'
theorem Goes.later {own' : Nat → Own} {F' : Nat → Prop} {w' : World} {σ' : Sto} {K : Env → Sto → Prop} {M : List Nat} {a a' : Act} (h : Goes N M a own F w σ K next) (e : Ext σ.length own F w own' F' w') (hl : σ.length ≤ σ'.length) (hd : a'.defers = a.defers) (hs : Same M a a') : Goes N M a' own' F' w' σ' K next :=
  fun env2 σ2 own2 F2 w2 a2 hk e2 r2 l2 he hd2 hs2 => h env2 σ2 own2 F2 w2 a2 hk (e.trans (e2.mono hl)) r2 (Nat.le_trans hl l2) he (hd2.trans hd) (hs.trans hs2)
theorem ER.refine (he : ER N own F w env a) {t : Nat} {v : SV} (h : VS own F w v (a.tmps.getD t undef)) : ER N own F w (Am.upd env t v) a := by
  refine ⟨he.1, fun j => ?_⟩
  unfold Am.upd
  cases hb : Nat.beq j t with
  | true => rw [Nat.eq_of_beq_eq_true hb]; exact h
  | false => exact he.2 j
theorem strip_out {gc : Bool} : ∀ {xs : List Operand} {env : Env} {K : Env → Prop}, strip gc xs env K → ∃ env', K env' ∧ (gc = true → ∀ {own : Nat → Own} {F : Nat → Prop} {w : World} {a : Act}, ER N own F w env a → ER N own F w env' a)
  | [], env, K, h => ⟨env, h, fun _ _ _ _ _ h => h⟩
  | .tmp t :: xs, env, K, h => by
    unfold strip at h
    split at h
    · rename_i c v hv
      obtain ⟨h1, h2⟩ := h
      have h1 := h1.out
      obtain ⟨env', h3, h4⟩ := strip_out h2
      refine ⟨env', h3, fun hg own F w a he => h4 hg (he.refine ?_)⟩
      have := he.2 t
      rw [hv] at this
      cases this with
      | g _ _ _ _ h => exact h (h1 hg)
    · exact strip_out h
  | .const _ :: xs, env, K, h => strip_out (xs := xs) h
  | .global _ :: xs, env, K, h => strip_out (xs := xs) h
  | .func _ :: xs, env, K, h => strip_out (xs := xs) h
theorem yielded_at {ops : Array Oper} {j d : Nat} (hd : dstOf ops.toList j = some d) (tmps : Array Value) : yielded ops tmps j = match tmps[d]? with | some (.bool b) => some b | _ => none := by
  unfold dstOf at hd
  split at hd
  · rename_i o ho
    rw [nth_eq, Array.getElem?_toList] at ho
    simp only [yielded, ho, Option.bind_some, hd]
    cases hq : tmps[d]? with
    | none => rfl
    | some v => cases v <;> rfl
  · simp at hd
theorem gcond_wanted (he : ER N own F w env a) {ops : Array Oper} {j d : Nat} {want gc : Bool} (hg : o.guard = some (j, want)) (hd : dstOf ops.toList j = some d) (hc : gcond want (env d) = some gc) : Region.wanted o (yielded ops a.tmps) = gc := by
  have hv := he.2 d
  have hget : ∀ b, a.tmps.getD d undef = .bool b → a.tmps[d]? = some (.bool b) := by
    intro b hb
    rw [Array.getD_eq_getD_getElem?] at hb
    cases hq : a.tmps[d]? with
    | none => rw [hq] at hb; simp [undef] at hb
    | some v => rw [hq] at hb; simp at hb; rw [hb]
  have hnone : a.tmps.getD d undef = undef → (match a.tmps[d]? with | some (.bool b) => some b | _ => none) = none := by
    intro hb
    rw [Array.getD_eq_getD_getElem?] at hb
    cases hq : a.tmps[d]? with
    | none => rfl
    | some v => rw [hq] at hb; simp at hb; rw [hb]; rfl
  simp only [Region.wanted, hg]
  rw [yielded_at hd]
  unfold gcond at hc
  split at hc
  · rename_i c e
    rw [e] at hv
    rw [hget c (boolV hv)]
    cases want <;> cases c <;> simp at hc <;> subst hc <;> rfl
  · rename_i c e' e
    rw [e] at hv
    cases hv with
    | g _ _ _ h0 h =>
      cases c with
      | true =>
        rw [hget e' (boolV (h rfl))]
        cases want <;> cases e' <;> simp at hc <;> subst hc <;> rfl
      | false =>
        rw [hnone (h0 rfl)]
        cases want <;> simp at hc <;> subst hc <;> rfl
  · simp at hc
theorem rop1_sound {ro : Option Nat} {nn : Nat} {Y : Nat → List SV → Sto → (SV → Sto → Prop) → Prop} {Z : Keep} (hY : ∀ l vs σ K, Y l vs σ K → ∃ rec, (l, Obj.loop rec) ∈ Z.bl ∧ YCalls P l rec Z vs σ fun σ' => K (.t (.bool true)) σ') (ht : TabOk P tt) {ops : Array Oper} {i : Nat} {rest : List Nat} {K : Env → Sto → Prop} (ho : ops[i]? = some o) (hd : ∀ d, o.dst = some d → d < N) (hs : rop1 (ctrY P I Y) tt ops.toList o K env σ) (r : Rel own F w σ) (kz : Kept Z σ own F w) (he : ER N own F w env a)
    {M : List Nat} (hM : ∀ d, o.dst = some d → d ∈ M) (hk : Goes N M a own F w σ K (wpOpsIn (Fw ro) nn P ops Q rest)) : wpOpsIn (Fw ro) nn P ops Q (i :: rest) a w := by
  simp only [wpOpsIn, ho]
  unfold rop1 at hs
  split at hs
  · rename_i hg
    have hw : Region.wanted o (yielded ops a.tmps) = true := by simp [Region.wanted, hg]
    rw [if_pos hw]
    refine step_soundIn hY ht ?_ r kz (fun x => he.ev x) rfl hs
    intro v σ' own' F' w' mv hkk e r' hl hv
    rw [force_iff] at hkk
    exact hk _ _ _ _ _ _ hkk e r' hl ((he.ext r e).put hd hv) (by cases o.dst <;> rfl) (Same.put a hM _)
  · rename_i j want hg
    split at hs
    · exact hs.elim
    · rename_i d hdj
      split at hs
      · rename_i gc hgc
        have hw := gcond_wanted (o := o) he hg hdj hgc
        obtain ⟨env', hx, hst⟩ := strip_out (N := N) hs
        obtain ⟨v, σ2, h1, hdd, h2⟩ := hx.out
        cases hgv : gc with
        | true =>
          rw [hgv] at hw h1 h2 hst
          rw [if_pos hw]
          have he' := hst rfl he
          refine step_soundIn hY ht ?_ r kz (fun x => he'.ev x) rfl (h1 rfl)
          intro v' σ' own' F' w' mv hkk e r' hl hv
          rw [force_iff] at hkk
          obtain ⟨rfl, rfl⟩ := hkk
          exact hk _ _ _ _ _ _ h2 e r' hl ((he.ext r e).put hd (.g _ _ _ (fun h => nomatch h) fun _ => hv)) (by cases o.dst <;> rfl) (Same.put a hM _)
        | false =>
          rw [hgv] at hw h2
          rw [if_neg (by rw [hw]; simp)]
          obtain ⟨L, rfl⟩ := (hdd hgv).out
          obtain ⟨r0, e0⟩ := r.kill L
          exact ⟨fun _ _ => trivial, hk _ _ _ _ _ _ h2 e0 r0 (Nat.le_of_eq (kills_len L σ).symm) ((he.ext r e0).put hd (.g _ _ _ (fun _ => rfl) fun h => nomatch h)) (by cases o.dst <;> rfl) (Same.put a hM _)⟩
      · exact hs.elim
theorem rops_sound {ro : Option Nat} {nn : Nat} {Y : Nat → List SV → Sto → (SV → Sto → Prop) → Prop} {Z : Keep} (hY : ∀ l vs σ K, Y l vs σ K → ∃ rec, (l, Obj.loop rec) ∈ Z.bl ∧ YCalls P l rec Z vs σ fun σ' => K (.t (.bool true)) σ') (ht : TabOk P tt) {ops : Array Oper} {K : Env → Sto → Prop} {M : List Nat} (hM : ∀ o ∈ ops.toList, ∀ d, o.dst = some d → d ∈ M) (hd : ∀ o ∈ ops.toList, ∀ d, o.dst = some d → d < N) : ∀ (l : List Oper) (i : Nat), ops.toList.drop i = l →
    ∀ {own : Nat → Own} {F : Nat → Prop} {w : World} {σ : Sto} {env : Env} {a : Act}, rops (ctrY P I Y) tt ops.toList l K env σ → Rel own F w σ → Kept Z σ own F w → ER N own F w env a → Goes N M a own F w σ K (Q .normal) → wpOpsIn (Fw ro) nn P ops Q (List.range' i l.length) a w
  | [], i, _, own, F, w, σ, env, a, hs, r, kz, he, hk => hk env σ own F w a hs (Ext.refl _ _ _ _) r (Nat.le_refl _) he rfl (Same.refl _ _)
  | o :: l, i, hl, own, F, w, σ, env, a, hs, r, kz, he, hk => by
    have hio : ops[i]? = some o := by
      have : (ops.toList.drop i)[0]? = some o := by rw [hl]; rfl
      simpa using this
    have hdl : ops.toList.drop (i + 1) = l := by
      have : (ops.toList.drop i).drop 1 = l := by rw [hl]; rfl
      rwa [List.drop_drop] at this
    have hmem : o ∈ ops.toList := by rw [Array.mem_toList_iff]; exact Array.mem_of_getElem? hio
    simp only [List.length_cons, List.range'_succ]
    refine rop1_sound hY ht hio (hd o hmem) hs r kz he (hM o hmem) ?_
    intro env' σ' own' F' w' a' hkk e r' hlen he' hdf hsm
    exact rops_sound hY ht hM hd l (i + 1) hdl hkk r' (kz.later e hlen) he' (hk.later e hlen hdf hsm)
/-! ### the state at a loop's head -/
theorem rowIds_nodup {n : Nat} : ∀ (vs : List SV) (acc : List Nat), acc.Nodup → (rowIds n vs acc).Nodup
  | [], acc, h => by unfold rowIds; unfold List.Nodup at *; rw [List.pairwise_reverse]; exact h.imp fun h => h.symm
  | v :: vs, acc, h => by
    have go : ∀ (b : Bool) (k : Nat), (rowIds n vs (bif acc.contains k || b then acc else k :: acc)).Nodup := by
      intro b k
      cases hc : acc.contains k || b with
      | true => exact rowIds_nodup vs acc h
      | false =>
        simp only [Bool.or_eq_false_iff] at hc
        refine rowIds_nodup vs (k :: acc) (List.nodup_cons.2 ⟨by simpa using hc.1, h⟩)
    cases v with
    | ref k e p off len => exact go _ k
    | pl k e p i off => exact go _ k
    | mp k e p => exact go _ k
    | _ => exact rowIds_nodup vs acc h
theorem idx_some : ∀ {sel : List Nat} {n k j : Nat}, idx n k sel = some j → n ≤ j ∧ sel[j - n]? = some k
  | [], n, k, j, h => by simp [idx] at h
  | i :: sel, n, k, j, h => by
    unfold idx at h
    cases hb : Nat.beq k i with
    | true =>
      rw [hb] at h
      simp at h
      subst h
      exact ⟨Nat.le_refl _, by simp [Nat.eq_of_beq_eq_true hb]⟩
    | false =>
      rw [hb] at h
      obtain ⟨h1, h2⟩ := idx_some (sel := sel) h
      refine ⟨by omega, ?_⟩
      rw [show j - n = (j - (n + 1)) + 1 by omega]
      simpa using h2
theorem idx_none : ∀ {sel : List Nat} {n k : Nat}, idx n k sel = none → k ∉ sel
  | [], n, k, _ => by simp
  | i :: sel, n, k, h => by
    unfold idx at h
    cases hb : Nat.beq k i with
    | true => rw [hb] at h; simp at h
    | false =>
      rw [hb] at h
      have := idx_none (sel := sel) h
      have hne : k ≠ i := by intro e; subst e; simp at hb
      simp [hne, this]
def ownR (own : Nat → Own) (n : Nat) (sel : List Nat) : Nat → Own := fun i => if i < n then (if i ∈ sel then ⟨(own i).am, fun _ => False⟩ else own i) else match sel[i - n]? with
  | some k => own k
  | none => .no
theorem ownR_old {n : Nat} {sel : List Nat} {i : Nat} (h : i < n) : (ownR own n sel i).am = (own i).am := by
  unfold ownR
  rw [if_pos h]
  split <;> rfl
theorem ownR_bl {n : Nat} {sel : List Nat} {i b : Nat} (h : (ownR own n sel i).bl b) : ∃ k, (own k).bl b ∧ ((i < n ∧ k = i ∧ i ∉ sel) ∨ (n ≤ i ∧ sel[i - n]? = some k)) := by
  unfold ownR at h
  split at h
  · rename_i hi
    split at h
    · exact h.elim
    · rename_i hm
      exact ⟨i, h, .inl ⟨hi, rfl, hm⟩⟩
  · rename_i hi
    split at h
    · rename_i k hk
      exact ⟨k, h, .inr ⟨by omega, hk⟩⟩
    · exact h.elim
theorem newId_am {n : Nat} {sel : List Nat} {k j : Nat} (h : newId n sel k = some j) : (ownR own n sel j).am = (own k).am := by
  unfold newId at h
  split at h
  · rename_i j' hj
    injection h with h
    subst h
    obtain ⟨h1, h2⟩ := idx_some hj
    unfold ownR
    rw [if_neg (by omega), h2]
  · cases hb : Nat.blt k n with
    | false => rw [hb] at h; exact nomatch h
    | true =>
      rw [hb] at h
      injection h with h
      subst h
      exact ownR_old (by simpa [Nat.blt_eq] using hb)
theorem remap1_VS {n : Nat} {sel : List Nat} {x : SV} {v : Value} (hv : VS own F w x v) : VS (ownR own n sel) F w (remap1 n sel x) v := by
  cases x with
  | t x => cases hv with | t _ _ hv => exact .t _ _ hv
  | agg xs => exact .t _ _ (.any _)
  | tup xs => exact .t _ _ (.any _)
  | fn f xs => exact .t _ _ (.any _)
  | g c x => exact .t _ _ (.any _)
  | ref k e p off len =>
    simp only [remap1]
    cases hid : newId n sel k with
    | none => exact .t _ _ (.any _)
    | some j =>
      have ha := newId_am (own := own) hid
      simp only
      cases hv with
      | ref _ _ _ _ _ b o sz cap m h hl hm hn => exact .ref _ _ _ _ _ b o sz cap m (by rw [ha]; exact h) hl hm hn
      | refE _ _ _ ad h => exact .refE _ _ _ ad (by rw [ha]; exact h)
      | refZ _ _ _ _ ad h => exact .refZ _ _ _ _ ad h
  | pl k e p i off =>
    simp only [remap1]
    cases hid : newId n sel k with
    | none => exact .t _ _ (.any _)
    | some j =>
      have ha := newId_am (own := own) hid
      simp only
      cases hv with
      | pl _ _ _ _ _ b o sz cap m h => exact .pl _ _ _ _ _ b o sz cap m (by rw [ha]; exact h)
  | mp k e p =>
    simp only [remap1]
    cases hid : newId n sel k with
    | none => exact .t _ _ (.any _)
    | some j =>
      have ha := newId_am (own := own) hid
      simp only
      cases hv with
      | mp _ _ _ b o sz cap m h => exact .mp _ _ _ b o sz cap m (by rw [ha]; exact h)
theorem remap_VS {n : Nat} {sel : List Nat} {x : SV} {v : Value} (hv : VS own F w x v) : VS (ownR own n sel) F w (remap n sel x) v := by
  cases x with
  | fn f xs =>
    cases hv with
    | fn _ _ vs hs h =>
      refine .fn f _ vs (by rw [hs, List.length_map]) fun i x v hx hv => ?_
      rw [List.getElem?_map] at hx
      cases hc : xs[i]? with
      | none => rw [hc] at hx; simp at hx
      | some x0 =>
        rw [hc] at hx
        simp at hx
        subst hx
        exact remap1_VS (h i x0 v hc hv)
  | _ => exact remap1_VS hv
theorem OR.remap {ow : Own} {n : Nat} {sel : List Nat} {o : SObj} (h : OR own F w ow o) : OR (ownR own n sel) F w ow (SObj.remap n sel o) := by
  cases o with
  | dead => trivial
  | nd ep nd => exact h
  | var E cs =>
    obtain ⟨b, vals, h1, h2, h3, h4, h5, h6, h7⟩ := h
    refine ⟨b, vals, by simpa using h1, h2, h3, by simpa using h4, fun j x v hx hv => ?_, h6, h7⟩
    rw [List.getElem?_map] at hx
    cases hc : cs[j]? with
    | none => rw [hc] at hx; simp at hx
    | some x0 =>
      rw [hc] at hx
      simp at hx
      subst hx
      exact remap_VS (h5 j x0 v hc hv)
theorem headSt_sound {n : Nat} {vals : List SV} {K : List SV → Sto → Prop} (r : Rel own F w σ) (hn : n ≤ σ.length) (hs : headSt n vals σ K) :
    ∃ (vals' : List SV) (σ' : Sto) (own' : Nat → Own), K vals' σ' ∧ Rel own' F w σ' ∧ n ≤ σ'.length ∧ vals'.length = vals.length ∧ (∀ (i : Nat) (x y : SV) (v : Value), vals[i]? = some x → vals'[i]? = some y → VS own F w x v → VS own' F w y v) ∧
      (∀ k, k < n → (own' k).am = (own k).am) ∧ ∀ b, Lv own' b → Lv own b := by
  unfold headSt at hs
  rw [rowIdsK_iff] at hs
  obtain ⟨hb, hs⟩ := bif_elim hs
  rw [killsF_iff, forceSto_iff, forceSs_iff] at hs
  have hnd := rowIds_nodup (n := n) ((vals.map markS).map rootS ++ ((σ.take n).flatMap SObj.cellsV ++ vals)) [] List.nodup_nil
  generalize hsel : rowIds n ((vals.map markS).map rootS ++ ((σ.take n).flatMap SObj.cellsV ++ vals)) [] = sel at *
  have hrow : ∀ k, k ∈ sel → ∃ o, σ[k]? = some o := by
    intro k hk
    have := (List.all_eq_true.1 hb) k hk
    split at this
    · exact nomatch this
    · rename_i o _ hq
      rw [nth_eq] at hq
      exact ⟨o, hq⟩
    · exact nomatch this
  have hlen : (((kills sel σ).take n).map (SObj.remap n sel) ++ sel.map fun k => SObj.remap n sel ((nth σ k).getD .dead)).length = n + sel.length := by simp [kills_len]; omega
  refine ⟨_, _, ownR own n sel, hs, ⟨?_, ?_, ?_, r.fb, ?_, ?_⟩, by rw [hlen]; omega, by simp, ?_, fun k hk => ownR_old hk, fun b ⟨i, hi⟩ => by obtain ⟨k, hk, _⟩ := ownR_bl hi; exact ⟨k, hk⟩⟩
  · intro k hk
    rw [hlen] at hk
    unfold ownR
    rw [if_neg (by omega), List.getElem?_eq_none (by omega)]
  · intro i j b h1 h3
    obtain ⟨k, hk, hk'⟩ := ownR_bl h1
    obtain ⟨l, hl, hl'⟩ := ownR_bl h3
    have := r.inj _ _ b hk hl
    subst this
    rcases hk' with ⟨q1, q2, q3⟩ | ⟨q1, q2⟩ <;> rcases hl' with ⟨p1, p2, p3⟩ | ⟨p1, p2⟩
    · omega
    · exact absurd (List.mem_of_getElem? p2) (by rw [q2]; exact q3)
    · exact absurd (List.mem_of_getElem? q2) (by rw [p2]; exact p3)
    · have g1 := (List.getElem?_eq_some_iff.1 q2).1
      have g2 := (List.getElem?_eq_some_iff.1 p2).1
      have : i - n = j - n := (List.getElem?_inj g1 hnd).1 (q2.trans p2.symm)
      omega
  · intro i b h1
    obtain ⟨k, hk, _⟩ := ownR_bl h1
    exact r.sep k b hk
  · intro i b h1
    obtain ⟨k, hk, _⟩ := ownR_bl h1
    exact r.lb k b hk
  · intro i ob hi
    rcases Nat.lt_or_ge i n with h | h
    · rw [List.getElem?_append_left (by simp [kills_len]; omega), List.getElem?_map, List.getElem?_take, if_pos h, kills_get] at hi
      by_cases him : i ∈ sel
      · simp [him, show i < σ.length by omega] at hi
        rw [← hi]; trivial
      · simp only [him, if_false] at hi
        cases hq : σ[i]? with
        | none => rw [hq] at hi; simp at hi
        | some o0 =>
          rw [hq] at hi
          simp at hi
          subst hi
          have ho : ownR own n sel i = own i := by unfold ownR; rw [if_pos h, if_neg him]
          rw [ho]
          exact (r.obj i o0 hq).remap
    · rw [List.getElem?_append_right (by simp [kills_len]; omega)] at hi
      have e : i - (((kills sel σ).take n).map (SObj.remap n sel)).length = i - n := by simp [kills_len]; omega
      rw [e, List.getElem?_map] at hi
      cases hk : sel[i - n]? with
      | none => simp [hk] at hi
      | some k =>
        obtain ⟨o, hq⟩ := hrow k (List.mem_of_getElem? hk)
        simp [hk, nth_eq, hq] at hi
        subst hi
        have ho : ownR own n sel i = own k := by unfold ownR; rw [if_neg (by omega), hk]
        rw [ho]
        exact (r.obj k _ hq).remap
  · intro i x y v hx hy hv
    rw [List.getElem?_map, hx] at hy
    simp at hy
    subst hy
    exact remap_VS hv
theorem Rel.thaw1 (r : Rel own F w σ) (E : TypeId) (sz : Nat) (ad : Option Addr) : ∃ own', Rel own' F w (σ ++ [.row E sz []]) ∧ Ext σ.length own F w own' F w ∧ (own' σ.length).am 0 [] = some (.e ad) ∧ ∀ k, k < σ.length → own' k = own k := by
  obtain ⟨h1, h2⟩ := r.pushE (ownN (.e ad) fun b => ∃ o s c m, Loc.e ad = .at b o s c m) (w' := w) (fun b ⟨_, _, _, _, h⟩ => nomatch h) rfl rfl rfl (Nat.le_refl _) (fun _ _ => rfl) (.row E sz [])
    (fun _ _ _ _ => OR.flat rfl (.inl ⟨rfl, ad, by simp⟩) (fun q p n h => by obtain ⟨i, j⟩ := q; obtain ⟨x, _, _, h, _⟩ := nodeAt_cons.1 h; simp at h))
  exact ⟨_, h1, h2, by rw [upd1_same]; exact ownN_at, fun k hk => upd1_ne (by omega)⟩
theorem thawV_sound : ∀ (V : List (Nat × Nat × TypeId × Nat)) {own : Nat → Own} {σ : Sto} {K : Sto → Prop}, Rel own F w σ → thawV V σ K →
    ∃ (σ' : Sto) (own' : Nat → Own), K σ' ∧ Rel own' F w σ' ∧ Ext σ.length own F w own' F w ∧ σ.length ≤ σ'.length := by
  intro V
  induction V with
  | nil => intro own σ K r h; exact ⟨σ, own, h, r, Ext.refl _ _ _ _, Nat.le_refl _⟩
  | cons x V ih =>
    intro own σ K r h
    obtain ⟨k, j, E, sz⟩ := x
    unfold thawV at h
    split at h
    · rename_i E' cs hk
      rw [nth_eq] at hk
      split at h
      · rename_i hj
        rw [nth_eq] at hj
        have hkl : k < σ.length := (List.getElem?_eq_some_iff.1 hk).1
        obtain ⟨own1, r1, e1, ha, hold⟩ := r.thaw1 E sz none
        have hk1 : (σ ++ [SObj.row E sz []])[k]? = some (.var E' cs) := by rw [List.getElem?_append_left hkl]; exact hk
        obtain ⟨b, vals, q1, q2, q3, q4, q5, q6, q7⟩ := r1.obj k _ hk1
        obtain ⟨r2, e2⟩ := r1.turn (k := k) (own1 k) (fun _ h => h) (fun _ _ _ h => h) (by simp; omega) (w' := w) rfl rfl rfl rfl (fun _ _ => rfl) (.var E' (cs.set j (.osl σ.length 0 0))) (fun _ hvs => by
          refine ⟨b, vals, by simpa using q1, q2, q3, by simpa using q4, fun i x v hx hv => ?_, q6, q7⟩
          rw [List.getElem?_set] at hx
          split at hx
          · rename_i hji
            subst hji
            split at hx
            · simp at hx
              subst hx
              have := q5 j (.t .nsl) v hj hv
              cases this with
              | t _ _ h => cases h; exact hvs _ _ (.refE _ _ _ none ha)
            · simp at hx
          · exact hvs _ _ (q5 i x v hx hv))
        rw [upd1_id] at r2 e2
        have hset : (σ ++ [SObj.row E sz []]).set k (.var E' (cs.set j (.osl σ.length 0 0))) = σ.set k (.var E' (cs.set j (.osl σ.length 0 0))) ++ [.row E sz []] := by rw [List.set_append_left _ _ hkl]
        rw [hset] at r2
        obtain ⟨σ', own', h1, h2, h3, h4⟩ := ih r2 h
        simp only [List.length_append, List.length_set, List.length_singleton] at h3 h4 e2
        exact ⟨σ', own', h1, h2, (e1.trans (e2.mono (by omega))).trans (h3.mono (by omega)), by omega⟩
      · exact ih r h
    · exact ih r h
theorem thaw_sound (ht : TabOk P tt) {N0 : List (Nat × TypeId × Nat)} : ∀ (S : List Nat) (vals : List SV) {own : Nat → Own} {σ : Sto} {K : List SV → Sto → Prop}, Rel own F w σ → thaw N0 S vals σ K →
    ∃ (vals' : List SV) (σ' : Sto) (own' : Nat → Own), K vals' σ' ∧ Rel own' F w σ' ∧ Ext σ.length own F w own' F w ∧ σ.length ≤ σ'.length ∧ vals'.length = vals.length ∧ (∀ (i : Nat) (x y : SV) (v : Value), vals[i]? = some x → vals'[i]? = some y → VS own F w x v → VS own' F w y v) := by
  intro S
  induction S with
  | nil =>
    intro vals own σ K r h
    exact ⟨vals, σ, own, by unfold thaw at h; exact h, r, Ext.refl _ _ _ _, Nat.le_refl _, rfl, fun i x y v hx hy hv => by rw [hx] at hy; injection hy with hy; rw [← hy]; exact hv⟩
  | cons s S ih =>
    intro vals own σ K r h
    cases vals with
    | nil =>
      exact ⟨[], σ, own, by unfold thaw at h; exact h, r, Ext.refl _ _ _ _, Nat.le_refl _, rfl, fun i x y v hx => by simp at hx⟩
    | cons v0 vals =>
      unfold thaw at h
      split at h
      · rename_i E sz _
        obtain ⟨own1, r1, e1, ha, _⟩ := r.thaw1 E sz none
        obtain ⟨vals', σ', own', h1, h2, h3, h4, h5, h6⟩ := ih vals r1 h
        simp only [List.length_append, List.length_singleton] at h3 h4
        refine ⟨_, σ', own', h1, h2, e1.trans (h3.mono (by omega)), by omega, by simp [h5], fun i x y v hx hy hv => ?_⟩
        cases i with
        | zero =>
          simp at hx hy
          subst hx hy
          cases hv with
          | t _ _ hv =>
            cases hv
            exact (VS.refE (F := F) (w := w) σ.length 0 [] none ha).ext r1 (by simpa using h3)
        | succ i => exact h6 i x y v (by simpa using hx) (by simpa using hy) (hv.ext r e1)
      · obtain ⟨vals', σ', own', h1, h2, h3, h4, h5, h6⟩ := ih vals r h
        refine ⟨_, σ', own', h1, h2, h3, h4, by simp [h5], fun i x y v hx hy hv => ?_⟩
        cases i with
        | zero =>
          simp at hx hy
          subst hx hy
          exact hv.ext r h3
        | succ i => exact h6 i x y v (by simpa using hx) (by simpa using hy) hv
theorem adopt1_sound {k : Nat} {K : Sto → Prop} (r : Rel own F w σ) (h : adopt1 k σ K) : ∃ (σ' : Sto) (own' : Nat → Own), K σ' ∧ Rel own' F w σ' ∧ Ext σ.length own F w own' F w ∧ σ.length ≤ σ'.length := by
  unfold adopt1 at h
  split at h
  · rename_i E0 cs hk
    obtain ⟨b, vals, q1, q2, q3, q4, q5, q6, q7⟩ := var_obj r hk
    obtain ⟨ss, σ1, own1, h1, r1, e1, l1, hls, hvs⟩ := takL_sound (vs := vals.toList) r (by simpa using q4) (fun i x v hx hv => q5 i x v hx (by simpa using hv)) h
    obtain ⟨hb, h1⟩ := bif_elim0 h1
    simp only [Bool.and_eq_true, Bool.not_eq_true'] at hb
    obtain ⟨⟨hun, hkn⟩, hpos⟩ := hb
    have hpos : 0 < cs.length := by simpa [Nat.blt_eq] using hpos
    split at h1
    · rename_i E cs' hk1
      obtain ⟨b', vals', w1, w2, w3, w4, w5, w6, w7⟩ := var_obj r1 hk1
      have hkl : k < σ.length := by rw [nth_eq] at hk; exact Rel.lt_obj hk
      have hbb := e1.ok k hkl 0 [] _ q1
      rw [w1] at hbb
      injection hbb with hbb
      injection hbb with g1 _ g2
      subst g1
      rw [q3] at w3
      injection w3 with w3
      injection w3 with w3 g3
      subst w3 g3
      obtain ⟨ys, h2, h3, h4⟩ := partL_out r1 (us := vals.toList) (by simp [hls]; omega) hvs h1
      rw [forceSto_iff] at h2
      obtain ⟨A, hsup⟩ := Sup.parts r1 (n := 1) (sz := cs.length) hpos (by rw [hls]; omega) h3 (by simp [hls]; omega) q6 hun h4
      have hels : els cs.length 1 ys = [mkEl cs.length ys] := by
        simp only [els]
        rw [List.take_of_length_le (by omega)]
      rw [hels] at hsup
      have hkL : k ∉ putIds ss := by simpa using hkn
      have hkl1 : k < σ1.length := by omega
      let c' : Path → Option Loc := fun p => match p with | [] => some (.at b' 0 cs.length 1 1) | (i, j) :: q => A i j q
      let ow : Own := ⟨fun e p => if e = 1 ∧ 1 ≤ p.length then c' p else (own1 k).am e p, fun x => (own1 k).bl x ∨ ∃ j, j ∈ putIds ss ∧ (own1 j).bl x⟩
      have hq1 : (own1 k).am 0 [] = some (.at b' 0 cs.length 1 1) := by rw [← g2]; exact w1
      have hcur : ow.cur (bumpE 1 e0) = c' := by
        funext p
        cases p with
        | nil => show (if bumpE 1 e0 0 = 1 ∧ 1 ≤ 0 then c' [] else (own1 k).am (bumpE 1 e0 0) []) = c' []; rw [if_neg (by omega)]; exact hq1
        | cons q p => show (if bumpE 1 e0 (p.length + 1) = 1 ∧ 1 ≤ p.length + 1 then c' (q :: p) else (own1 k).am (bumpE 1 e0 (p.length + 1)) (q :: p)) = c' (q :: p); rw [if_pos ⟨rfl, by omega⟩]
      have hchild : ∀ (i : Nat) (x : T) (j : Nat) (y : T) (m : Nd), [mkEl cs.length ys][i]? = some x → x.cells[j]? = some y → y.nd? = some m → TreeOk F w (A i j) m ∧ (∀ b, Bk (A i j) m b → ∃ k, k ∈ putIds ss ∧ (own1 k).bl b) := by
        intro i x j y m hx hy hn
        have hi := (List.getElem?_eq_some_iff.1 hx).1
        have hj : j < cs.length := by rw [← hsup.hc x (List.mem_of_getElem? hx)]; exact (List.getElem?_eq_some_iff.1 hy).1
        have hlt := flat_idx (L := 0) hi hj
        rw [← hsup.hl] at hlt
        rcases hsup.cell i x j y _ hx hy (List.getElem?_eq_getElem hlt) with ⟨g, _⟩ | ⟨m', Lo, g1, g2, g3, g4, g5⟩
        · rw [hn] at g; exact nomatch g
        · rw [hn] at g1; injection g1 with g1; subst g1
          exact ⟨g2, g5⟩
      obtain ⟨r2, e2⟩ := r1.absorb (putIds ss) (k := k) hkL ow (fun _ h => h) (fun e p L hL => by
          show (if e = 1 ∧ 1 ≤ p.length then c' p else (own1 k).am e p) = some L
          rw [if_neg fun h => by rw [w7 e p (.inl (by omega))] at hL; exact nomatch hL]
          exact hL) hkl1 (.nd (bumpE 1 e0) (.row E0 cs.length [mkEl cs.length ys])) (fun _ => by
        refine ⟨?_, ?_, rfl, ?_⟩
        · rw [hcur]
          refine TreeOk.form ?_ (fun i x j y m hx hy hn => (hchild i x j y m hx hy hn).1) (fun i j i' j' x x' y y' m m' b hx hy hn hx' hy' hn' hb1 hb2 => hsup.dis i j i' j' x x' y y' m m' b hx hy hn hx' hy' hn' hb1 hb2) ?_
          · refine .inr ⟨b', 0, 1, vals, rfl, hpos, Nat.one_pos, q3, by omega, Nat.le_refl _, by simp, hsup.hc, fun i x j y v hx hy hv => ?_, fun j hj => ?_⟩
            · have hi := (List.getElem?_eq_some_iff.1 hx).1
              have hj : j < cs.length := by rw [← hsup.hc x (List.mem_of_getElem? hx)]; exact (List.getElem?_eq_some_iff.1 hy).1
              have hv' : vals.toList[i * cs.length + j]? = some v := by rw [Array.getElem?_toList, ← hv]; congr 1; omega
              cases hyn : y.nd? with
              | none =>
                rcases hsup.cell i x j y v hx hy hv' with ⟨_, g⟩ | ⟨m, Lo, g1, _⟩
                · cases y <;> first | exact g | exact nomatch hyn
                · rw [hyn] at g1; exact nomatch g1
              | some m =>
                rcases hsup.cell i x j y v hx hy hv' with ⟨g, _⟩ | ⟨m', Lo, g1, _, g3, g4, _⟩
                · rw [hyn] at g; exact nomatch g
                · rw [hyn] at g1; injection g1 with g1; subst g1
                  have e := nd_of hyn
                  subst e
                  cases m with
                  | row => exact ⟨Lo, g3, g4⟩
                  | map => exact ⟨Lo, g3, g4⟩
            · have hjl : j < vals.size := by simp at hj; omega
              simp only [Nat.zero_add, Array.getD_eq_getD_getElem?, Array.getElem?_eq_getElem hjl, Option.getD_some]
              exact q6 _ (Array.getElem_mem_toList hjl)
          · intro i x j y m b2 o2 s2 cp2 mm2 hx hy hn hr hb1
            injection hr with hr
            injection hr with hr
            subst hr
            obtain ⟨k2, z1, z2⟩ := (hchild i x j y m hx hy hn).2 b' hb1
            have := r1.inj k2 k b' z2 w2
            exact hkL (this ▸ z1)
        · rw [hcur]
          rintro x ⟨p, n, o', s', cp', m', z1, z2⟩
          cases p with
          | nil =>
            injection z2 with z2
            injection z2 with z2
            exact .inl (z2 ▸ w2)
          | cons q p =>
            obtain ⟨i, j⟩ := q
            obtain ⟨x', y, m, y1, y2, y3, y4⟩ := nodeAt_cons.1 z1
            exact .inr ((hchild i x' j y m y1 y2 y3).2 x ⟨p, n, o', s', cp', m', y4, z2⟩)
        · intro e p he
          show (if e = 1 ∧ 1 ≤ p.length then c' p else (own1 k).am e p) = none
          cases p with
          | nil =>
            have he : 0 < e := he
            rw [if_neg (by simp)]
            exact w7 e [] (.inl he)
          | cons q p =>
            have he : 1 < e := he
            rw [if_neg (by omega)]
            exact w7 e _ (.inl (by omega)))
      exact ⟨_, _, h2, r2, e1.trans (e2.mono l1), by simp [kills_len]; omega⟩
    · exact h1.elim
  · exact h.elim
theorem adoptL_sound : ∀ (A : List Nat) {own : Nat → Own} {σ : Sto} {K : Sto → Prop}, Rel own F w σ → adoptL A σ K → ∃ (σ' : Sto) (own' : Nat → Own), K σ' ∧ Rel own' F w σ' ∧ Ext σ.length own F w own' F w ∧ σ.length ≤ σ'.length
  | [], own, σ, K, r, h => ⟨σ, own, h, r, Ext.refl _ _ _ _, Nat.le_refl _⟩
  | k :: A, own, σ, K, r, h => by
    obtain ⟨σ1, own1, h1, r1, e1, l1⟩ := adopt1_sound r h
    obtain ⟨σ2, own2, h2, r2, e2, l2⟩ := adoptL_sound A r1 h1
    exact ⟨σ2, own2, h2, r2, e1.trans (e2.mono l1), by omega⟩
theorem setL_VS : ∀ (S : List Nat) (vals : List SV) (env : Env) (j : Nat), (∃ (i : Nat) (v : SV), S[i]? = some j ∧ vals[i]? = some v ∧ setL S vals env j = v) ∨ setL S vals env j = env j
  | [], vals, env, j => .inr (by unfold setL; rfl)
  | s :: S, [], env, j => .inr (by unfold setL; rfl)
  | s :: S, v :: vals, env, j => by
    unfold setL
    rcases setL_VS S vals (upd env s v) j with ⟨i, u, h1, h2, h3⟩ | h
    · exact .inl ⟨i + 1, u, by simpa using h1, by simpa using h2, h3⟩
    · rw [h]
      unfold upd
      cases hb : Nat.beq j s with
      | true =>
        have := Nat.eq_of_beq_eq_true hb
        subst this
        exact .inl ⟨0, v, rfl, rfl, rfl⟩
      | false => exact .inr rfl
theorem _root_.Go.Proofs.Ytgladinljapmkaa.Am.Ext.less {n : Nat} {own own1 own2 : Nat → Own} {F F1 : Nat → Prop} {w w1 : World} (e : Ext n own F w own1 F1 w1) (h : ∀ k, k < n → (own2 k).am = (own1 k).am) (hl : ∀ b, Lv own2 b → Lv own1 b) : Ext n own F w own2 F1 w1 where
  os := e.os
  tape := e.tape
  output := e.output
  sz := e.sz
  fr := e.fr
  Fm := e.Fm
  Fn := e.Fn
  on b hb := e.on b (hl b hb)
  ok k hk ee p L hL := by rw [h k hk]; exact e.ok k hk ee p L hL
theorem ER.head {env2 : Env} {own' : Nat → Own} {F' : Nat → Prop} {w' : World} {a' : Act} {M S : List Nat} {vals : List SV} (r : Rel own F w σ) (he : ER N own F w env a) (e : Ext σ.length own F w own' F' w') (hs : Same M a a') (hN : a'.tmps.size = N)
    (h2 : ∀ j, env2 j = .any ∨ (env2 j = env j ∧ j ∉ M))
    (hv : ∀ (i s : Nat) (v : SV), S[i]? = some s → vals[i]? = some v → VS own' F' w' v (a'.tmps.getD s undef)) : ER N own' F' w' (setL S vals env2) a' := by
  refine ⟨hN, fun j => ?_⟩
  rcases setL_VS S vals env2 j with ⟨i, v, h1, h2, h3⟩ | h
  · rw [h3]; exact hv i j v h1 h2
  · rw [h]
    rcases h2 j with h3 | ⟨h3, h4⟩
    · rw [h3]; exact .t _ _ (.any _)
    · rw [h3, hs j h4]
      exact (he.2 j).ext r e
end
end Go.Proofs.Ytgladinljapmkaa.Am

/- Some objects of a memory taken by themselves, and put back. -/
namespace Go.Proofs.Ytgladinljapmkaa.Am
open Go.RowKit
set_option linter.unusedVariables false
set_option linter.unusedSimpArgs false
section
variable {P : Program} {own own' : Nat → Own} {F F' : Nat → Prop} {w w' : World} {σ : Sto}
theorem bdS_VS {A : Nat → Bool} (hv : ∀ x v, VT F w x v → VT F' w' x v) (ha : ∀ k, A k = true → ∀ e p L, (own k).am e p = some L → (own' k).am e p = some L) : ∀ (n : Nat) (x : SV) (v : Value), bdS A n x = true → VS own F w x v → VS own' F' w' x v := by
  have leafs : ∀ (n : Nat) (x : SV) (v : Value), bdS A n x = true → VS own F w x v → (∀ xs, x ≠ .agg xs) → (∀ xs, x ≠ .tup xs) → (∀ f xs, x ≠ .fn f xs) → (∀ c y, x ≠ .g c y) → VS own' F' w' x v := by
    intro n x v hb h n1 n2 n3 n4
    cases x with
    | t x => cases h with | t _ _ h => exact .t _ _ (hv _ _ h)
    | agg xs => exact absurd rfl (n1 _)
    | tup xs => exact absurd rfl (n2 _)
    | fn f xs => exact absurd rfl (n3 _ _)
    | g c x => exact absurd rfl (n4 _ _)
    | ref k e p off len =>
      have hA : A k = true := by cases n <;> exact hb
      cases h with
      | ref _ _ _ _ _ b o sz cap m h hl hm hn => exact .ref _ _ _ _ _ b o sz cap m (ha _ hA _ _ _ h) hl hm hn
      | refE _ _ _ ad h => exact .refE _ _ _ ad (ha _ hA _ _ _ h)
      | refZ _ _ _ _ ad h => exact .refZ _ _ _ _ ad h
    | pl k e p i off =>
      have hA : A k = true := by cases n <;> exact hb
      cases h with | pl _ _ _ _ _ b o sz cap m h => exact .pl _ _ _ _ _ b o sz cap m (ha _ hA _ _ _ h)
    | mp k e p =>
      have hA : A k = true := by cases n <;> exact hb
      cases h with | mp _ _ _ b o sz cap m h => exact .mp _ _ _ b o sz cap m (ha _ hA _ _ _ h)
  intro n
  induction n with
  | zero =>
    intro x v hb h
    cases x with
    | agg xs => exact absurd hb (by simp [bdS])
    | tup xs => exact absurd hb (by simp [bdS])
    | fn f xs => exact absurd hb (by simp [bdS])
    | g c x => exact absurd hb (by simp [bdS])
    | _ => exact leafs 0 _ v hb h (fun _ h => nomatch h) (fun _ h => nomatch h) (fun _ _ h => nomatch h) (fun _ _ h => nomatch h)
  | succ n ih =>
    intro x v hb h
    cases x with
    | agg xs => cases h with | agg _ vs hs hh => exact .agg _ _ hs fun i x v hx hv => ih x v (List.all_eq_true.1 hb x (List.mem_of_getElem? hx)) (hh i x v hx hv)
    | tup xs => cases h with | tup _ vs hs hh => exact .tup _ _ hs fun i x v hx hv => ih x v (List.all_eq_true.1 hb x (List.mem_of_getElem? hx)) (hh i x v hx hv)
    | fn f xs => cases h with | fn _ _ vs hs hh => exact .fn _ _ _ hs fun i x v hx hv => ih x v (List.all_eq_true.1 hb x (List.mem_of_getElem? hx)) (hh i x v hx hv)
    | g c x => cases h with | g _ _ _ h0 hh => exact .g _ _ _ h0 fun hc => ih x v hb (hh hc)
    | _ => exact leafs _ _ v hb h (fun _ h => nomatch h) (fun _ h => nomatch h) (fun _ _ h => nomatch h) (fun _ _ h => nomatch h)
theorem OR.keepB {A : Nat → Bool} {ow : Own} {o : SObj} (h : OR own F w ow o) (hb : ∀ x ∈ o.cellsV, bdS A 4 x = true) (hh : ∀ b, ow.bl b → w'.heap[b]? = w.heap[b]?) (hv : ∀ x v, VT F w x v → VT F' w' x v)
    (ha : ∀ k, A k = true → ∀ e p L, (own k).am e p = some L → (own' k).am e p = some L) : OR own' F' w' ow o := by
  cases o with
  | dead => trivial
  | nd ep nd =>
    obtain ⟨h1, h2, h3, h4⟩ := h
    exact ⟨h1.move (fun _ => rfl) (fun b hb => hh b (h2 b hb)) hv, h2, h3, h4⟩
  | var E cs =>
    obtain ⟨b, vals, h1, h2, h3, h4, h5, h6, h7⟩ := h
    exact ⟨b, vals, h1, h2, (hh b h2).trans h3, h4, fun j x v hx hv' => bdS_VS hv ha 4 x v (hb x (List.mem_of_getElem? hx)) (h5 j x v hx hv'), h6, h7⟩
def ownA (own : Nat → Own) (A : Nat → Bool) : Nat → Own := fun k => if A k = true then own k else .no
theorem ownA_in {A : Nat → Bool} {k : Nat} (h : A k = true) : ownA own A k = own k := if_pos h
theorem ownA_out {A : Nat → Bool} {k : Nat} (h : A k = false) : ownA own A k = .no := if_neg (by rw [h]; simp)
theorem ownA_bl {A : Nat → Bool} {k b : Nat} (h : (ownA own A k).bl b) : A k = true ∧ (own k).bl b := by
  cases hA : A k with
  | true => rw [ownA_in hA] at h; exact ⟨rfl, h⟩
  | false => rw [ownA_out hA] at h; exact h.elim
theorem Rel.part {σA σB : Sto} {A : Nat → Bool} (r : Rel own F w σA) (hA : ∀ k, A k = true → k < σB.length)
    (hB : ∀ k o, σB[k]? = some o → o = .dead ∨ (A k = true ∧ σA[k]? = some o ∧ ∀ x ∈ o.cellsV, bdS A 4 x = true)) : Rel (ownA own A) F w σB := by
  refine ⟨fun k hk => ?_, fun i j b h1 h2 => r.inj i j b (ownA_bl h1).2 (ownA_bl h2).2, fun k b h => r.sep k b (ownA_bl h).2, r.fb, fun k b h => r.lb k b (ownA_bl h).2, fun k o ho => ?_⟩
  · cases h : A k with
    | true => have := hA k h; omega
    | false => exact ownA_out h
  · rcases hB k o ho with rfl | ⟨h1, h2, h3⟩
    · trivial
    · rw [ownA_in h1]
      exact (r.obj k o h2).keepB h3 (fun _ _ => rfl) (fun _ _ h => h) fun j hj e p L hL => by rw [ownA_in hj]; exact hL
def ownM (own1 own : Nat → Own) (A : Nat → Bool) : Nat → Own := fun k => if A k = true then own1 k else own k
theorem ownM_in {own1 : Nat → Own} {A : Nat → Bool} {k : Nat} (h : A k = true) : ownM own1 own A k = own1 k := if_pos h
theorem ownM_out {own1 : Nat → Own} {A : Nat → Bool} {k : Nat} (h : A k = false) : ownM own1 own A k = own k := if_neg (by rw [h]; simp)
theorem Rel.merge {own1 : Nat → Own} {F1 : Nat → Prop} {w1 : World} {σA σB Δ σC : Sto} {A : Nat → Bool} {n : Nat} (r : Rel own F w σA) (hA : ∀ k, A k = true → k < σB.length) (hn : ∀ k, k < n → A k = true)
    (r1 : Rel own1 F1 w1 (σB ++ Δ)) (ex : Ext σB.length (ownA own A) F w own1 F1 w1) (A' : Nat → Bool) (hA' : ∀ k, A' k = true ↔ A k = true ∨ (σB.length ≤ k ∧ k < σB.length + Δ.length)) (hf : ∀ k, σB.length ≤ k → k < σB.length + Δ.length → own k = .no)
    (hlen : σA.length ≤ σC.length) (hl2 : ∀ k, A' k = true → k < σC.length)
    (hC : ∀ k o, σC[k]? = some o → o = .dead ∨ (A' k = true ∧ (σB ++ Δ)[k]? = some o ∧ ∀ x ∈ o.cellsV, bdS A' 4 x = true) ∨ (A' k = false ∧ σA[k]? = some o)) :
    Rel (ownM own1 own A') F1 w1 σC ∧ Ext n own F w (ownM own1 own A') F1 w1 ∧ (∀ x v, VS own F w x v → VS (ownM own1 own A') F1 w1 x v) ∧ ∀ x v, bdS A' 4 x = true → VS own1 F1 w1 x v → VS (ownM own1 own A') F1 w1 x v := by
  have lvA : ∀ b, Lv (ownA own A) b → ∃ k, A k = true ∧ (own k).bl b := by
    rintro b ⟨k, h⟩
    exact ⟨k, ownA_bl h⟩
  have amk : ∀ k e p L, (own k).am e p = some L → (ownM own1 own A' k).am e p = some L := by
    intro k e p L hL
    cases h : A' k with
    | false => rw [ownM_out h]; exact hL
    | true =>
      rw [ownM_in h]
      rcases (hA' k).1 h with h1 | ⟨h1, h2⟩
      · exact ex.ok k (hA k h1) e p L (by rw [ownA_in h1]; exact hL)
      · rw [hf k h1 h2] at hL; exact nomatch hL
  have far : ∀ k b j, A' k = false → (own k).bl b → (own1 j).bl b → False := by
    intro k b j hk hb h1
    rcases ex.on b ⟨j, h1⟩ with h | h
    · obtain ⟨k', h2, h3⟩ := lvA b h
      have := r.inj k k' b hb h3
      subst this
      have := (hA' k).2 (.inl h2)
      rw [hk] at this
      exact nomatch this
    · have := r.lb k b hb; omega
  have noLv : ∀ k b, A' k = false → (own k).bl b → ¬ Lv (ownA own A) b := by
    intro k b hk hb h
    obtain ⟨k', h2, h3⟩ := lvA b h
    have := r.inj k k' b hb h3
    subst this
    have := (hA' k).2 (.inl h2)
    rw [hk] at this
    exact nomatch this
  have org : ∀ k b, (ownM own1 own A' k).bl b → (A' k = true ∧ (own1 k).bl b) ∨ (A' k = false ∧ (own k).bl b) := by
    intro k b h
    cases hk : A' k with
    | true => rw [ownM_in hk] at h; exact .inl ⟨rfl, h⟩
    | false => rw [ownM_out hk] at h; exact .inr ⟨rfl, h⟩
  have hVT : ∀ x v, VT F w x v → VT F1 w1 x v := fun x v h => h.ext ex fun k b hb => r.sep k b (ownA_bl hb).2
  have hVS : ∀ x v, VS own F w x v → VS (ownM own1 own A') F1 w1 x v := fun x v h => h.map' hVT amk
  have hheap : ∀ k b, A' k = false → (own k).bl b → w1.heap[b]? = w.heap[b]? := fun k b hk hb => ex.fr b (r.lb k b hb) (noLv k b hk hb)
  refine ⟨⟨fun k hk => ?_, fun i j b h1 h2 => ?_, fun k b h hF => ?_, r1.fb, fun k b h => ?_, fun k o ho => ?_⟩,
    ⟨ex.os, ex.tape, ex.output, ex.sz, fun b hb hl => ex.fr b hb fun h => ?_, ex.Fm, fun b hb => ?_, fun b hb => ?_, fun k _ e p L hL => amk k e p L hL⟩, hVS, fun x v hb hv => bdS_VS (fun _ _ h => h) (fun k hk e p L hL => by rw [ownM_in hk]; exact hL) 4 x v hb hv⟩
  · cases h : A' k with
    | true => have := hl2 k h; omega
    | false => rw [ownM_out h]; exact r.unb k (by omega)
  · rcases org i b h1 with ⟨a1, a2⟩ | ⟨a1, a2⟩ <;> rcases org j b h2 with ⟨b1, b2⟩ | ⟨b1, b2⟩
    · exact r1.inj i j b a2 b2
    · exact (far j b i b1 b2 a2).elim
    · exact (far i b j a1 a2 b2).elim
    · exact r.inj i j b a2 b2
  · rcases org k b h with ⟨a1, a2⟩ | ⟨a1, a2⟩
    · exact r1.sep k b a2 hF
    · rcases ex.Fn b hF with h | h | h
      · exact r.sep k b a2 h
      · have := r.lb k b a2; omega
      · exact noLv k b a1 a2 h
  · rcases org k b h with ⟨a1, a2⟩ | ⟨a1, a2⟩
    · exact r1.lb k b a2
    · exact Nat.lt_of_lt_of_le (r.lb k b a2) ex.sz
  · rcases hC k o ho with rfl | ⟨h1, h2, h3⟩ | ⟨h1, h2⟩
    · trivial
    · rw [ownM_in h1]
      exact (r1.obj k o h2).keepB h3 (fun _ _ => rfl) (fun _ _ h => h) fun j hj e p L hL => by rw [ownM_in hj]; exact hL
    · rw [ownM_out h1]
      exact (r.obj k o h2).keep (fun b hb => hheap k b h1 hb) hVT hVS
  · obtain ⟨k, _, h⟩ := lvA b h
    exact hl ⟨k, h⟩
  · rcases ex.Fn b hb with h | h | h
    · exact .inl h
    · exact .inr (.inl h)
    · obtain ⟨k, _, h⟩ := lvA b h
      exact .inr (.inr ⟨k, h⟩)
  · obtain ⟨k, hb⟩ := hb
    rcases org k b hb with ⟨a1, a2⟩ | ⟨a1, a2⟩
    · rcases ex.on b ⟨k, a2⟩ with h | h
      · obtain ⟨k, _, h⟩ := lvA b h
        exact .inl ⟨k, h⟩
      · exact .inr h
    · exact .inl ⟨k, a2⟩
end
end Go.Proofs.Ytgladinljapmkaa.Am
