/- Numbers, comparisons, what is built, maps, lengths. -/
import Derived.Test.YtihebfhhnoneiaaAmOps4
namespace Go.Proofs.Ytihebfhhnoneiaa.Am
open Go.RowKit
set_option linter.unusedVariables false
set_option linter.unusedSimpArgs false

section
variable {P : Program} {tt : Tab} {own : Nat → Own} {F : Nat → Prop} {w : World} {σ : Sto} {env : Env} {a : Act} {N : Nat} {o : Oper}
variable {K : SV → Sto → Prop} {next : Act → World → Prop} {Q : Exit → Act → World → Prop}

theorem run_intOp {op : BinOp} {t : TypeId} {x y : Operand} {k k' : IntKind} {n m : Int} {K : T → Prop} (hk : (match op with | .shl => true | .shr => true | _ => sameK k k') = true) (h : intOp op k n m K) :
    ∃ (r : T) (v : Value), K r ∧ (do eqGuard op t x y (.int k n) (.int k' m); Go.binOp op t (.int k n) (.int k' m) : Sem Value).run P w = .ok v w ∧ VT F w r v := by
  cases op with
  | shl =>
    obtain ⟨h1, h2⟩ := h
    have h1 := h1.out
    exact ⟨_, _, h2, by simp [eqGuard, Go.binOp, Op.shift, shlI, show ¬ m < 0 by omega], .int _ _⟩
  | shr =>
    obtain ⟨h1, h2⟩ := h
    have h1 := h1.out
    exact ⟨_, _, h2, by simp [eqGuard, Go.binOp, Op.shift, shrI, show ¬ m < 0 by omega], .int _ _⟩
  | _ =>
   have := sameK_eq hk
   subst this
   simp only [intOp] at h
   first
    | exact h.elim
    | (refine ⟨_, _, h, ?_, .int _ _⟩; simp [eqGuard, Go.binOp, Op.intArith, addI, subI, mulI]; done)
    | (refine ⟨_, _, h, ?_, .int _ _⟩; simp [eqGuard, Go.binOp, Op.intBits, andI, orI, xorI, andnI]; done)
    | (refine ⟨_, _, h, ?_, .bool _⟩; simp [eqGuard, Go.binOp, Op.intCmp, eqI, ltI, leI]; done)
    | (refine ⟨_, _, h, ?_, .bool _⟩; simp [eqGuard, Go.binOp, Op.intCmp, eqI, ltI, leI]; rfl)
    | (obtain ⟨h1, h2⟩ := h; have h1 := h1.out; refine ⟨_, _, h2, ?_, .int _ _⟩; simp [eqGuard, Go.binOp, Op.intDiv, quoI, remI, h1]; done)
    | (obtain ⟨h1, h2⟩ := h; have h1 := h1.out; refine ⟨_, _, h2, ?_, .int _ _⟩; simp [eqGuard, Go.binOp, Op.intDiv, quoI, remI, h1]; rfl)

theorem run_addS {p q : ByteArray} (h : p.size + q.size ≤ 9223372036854775807) : (Op.stringOp .add p q).run P w = .ok (.string (addS p q)) w := by
  have h2 : ¬ (((p.size + q.size : Nat) : Int) > IntKind.i64.max) := by
    have : IntKind.i64.max = 9223372036854775807 := by decide
    omega
  unfold Op.stringOp
  simp only [if_neg h2]
  unfold addS
  rfl

theorem eqF_cons {f : TypeId × Nat} {fs : List (TypeId × Nat)} {x y : T} {xs ys : List T} {b : Bool} (h : eqF tt (f :: fs) (x :: xs) (y :: ys) = some b) :
    ∃ c d, eqT1 (tt.at f.1).ti x y = some c ∧ eqF tt fs xs ys = some d ∧ b = (c && d) := by
  have gen : (match eqT1 (tt.at f.1).ti x y, eqF tt fs xs ys with | some a, some b => some (a && b) | _, _ => none) = some b → ∃ c d, eqT1 (tt.at f.1).ti x y = some c ∧ eqF tt fs xs ys = some d ∧ b = (c && d) := by
    intro h
    split at h
    · rename_i p q hp hq
      simp at h
      exact ⟨p, q, hp, hq, h.symm⟩
    · simp at h
  cases fs with
  | cons g gs => exact gen (by rw [eqF] at h <;> first | exact h | (intros; simp_all))
  | nil =>
    cases xs with
    | cons z zs => exact absurd h (by simp [eqF])
    | nil =>
      cases ys with
      | cons z zs => exact absurd h (by simp [eqF])
      | nil => exact ⟨b, true, by simpa [eqF] using h, by simp [eqF], by simp⟩

theorem run_equalIn1 (ht : TabOk P tt) {t : TypeId} {x y : T} {v u : Value} {c : Bool} (d : Nat) (h : eqT1 (tt.at t).ti x y = some c) (hx : VT F w x v) (hy : VT F w y u) :
    (Op.equalIn (d + 1) t v u).run P w = .ok c w ∧ (tt.at t).ti.good = true ∧ (tt.at t).ti.isAgg = false := by
  unfold eqT1 at h
  split at h
  · rename_i k j p k2 q hti
    cases hb : sameK j k2 with
    | false => rw [hb] at h; simp at h
    | true =>
      rw [hb] at h
      simp at h
      cases hx; cases hy
      have := sameK_eq hb
      subst this
      have hu := und_int (ht.at t (by rw [hti]; rfl)) hti
      exact ⟨by simp [Op.equalIn, run_underlying hu]; rw [← h]; unfold eqI; rfl, by rw [hti]; rfl, by rw [hti]; rfl⟩
  · rename_i p q hti
    cases hx; cases hy
    have hu := und_bool (ht.at t (by rw [hti]; rfl)) hti
    simp at h
    exact ⟨by simp [Op.equalIn, run_underlying hu]; exact h, by rw [hti]; rfl, by rw [hti]; rfl⟩
  · rename_i p q hti
    cases hx; cases hy
    have hu := und_str (ht.at t (by rw [hti]; rfl)) hti
    simp at h
    exact ⟨by simp [Op.equalIn, run_underlying hu, beq_toListBytes]; rw [← h]; unfold eqS; rfl, by rw [hti]; rfl, by rw [hti]; rfl⟩
  · simp at h

theorem eqFields_plain (ht : TabOk P tt) : ∀ (fs : List Field) (n d : Nat) (xs ys : Array Value) (zs us : List T) (b : Bool), offsOk P n fs = true → eqF tt (fs.map fun f => (f.type, f.offset)) zs us = some b →
    (∀ i z, zs[i]? = some z → ∃ v, xs[n + i]? = some v ∧ VT F w z v) → (∀ i z, us[i]? = some z → ∃ v, ys[n + i]? = some v ∧ VT F w z v) → (Op.eqFields (d + 1) xs ys fs).run P w = .ok b w := by
  intro fs
  induction fs with
  | nil =>
    intro n d xs ys zs us b _ he _ _
    cases zs <;> cases us <;> simp [eqF] at he
    subst he; rfl
  | cons f fs ih =>
    intro n d xs ys zs us b ho he hx hy
    cases zs with
    | nil => cases us <;> cases fs <;> simp [eqF] at he
    | cons z zs =>
      cases us with
      | nil => cases zs <;> cases fs <;> simp [eqF] at he
      | cons u us =>
        simp only [offsOk, Bool.and_eq_true] at ho
        obtain ⟨⟨h1, h2⟩, h4⟩ := ho
        have h1 := Nat.eq_of_beq_eq_true h1
        obtain ⟨c, e, hc, hes, rfl⟩ := eqF_cons he
        obtain ⟨v, hv, hvz⟩ := hx 0 z rfl
        obtain ⟨v', hv', hvu⟩ := hy 0 u rfl
        simp only [Nat.add_zero] at hv hv'
        obtain ⟨q1, q2, q3⟩ := run_equalIn1 ht d hc hvz hvu
        have hagg : (isAgg f.type).run P w = .ok false w := by rw [run_isAgg (ht.at _ q2), q3]
        have p1 : (part f.type xs f.offset).run P w = .ok v w := by simp [part, hagg, h1, hv]
        have p2 : (part f.type ys f.offset).run P w = .ok v' w := by simp [part, hagg, h1, hv']
        have p3 := ih (n + 1) d xs ys zs us e h4 hes (fun i z hz => by have := hx (i + 1) z (by simpa using hz); rwa [show n + (i + 1) = n + 1 + i by omega] at this)
          (fun i z hz => by have := hy (i + 1) z (by simpa using hz); rwa [show n + (i + 1) = n + 1 + i by omega] at this)
        have hn' : f.name ≠ "_" := by simpa using h2
        rw [Op.eqFields]
        simp only [if_pos hn', Sem.run_bind, p1, p2, q1, Result.andThen_ok]
        cases c
        · simp
        · simpa using p3

theorem run_eqBool (ht : TabOk P tt) {t : TypeId} (hti : (tt.at t).ti = .bool) (x y : Operand) (p q : Bool) (w : World) :
    (do eqGuard .eql t x y (.bool p) (.bool q); Go.binOp .eql t (.bool p) (.bool q) : Sem Value).run P w = .ok (.bool (p == q)) w ∧
    (do eqGuard .neq t x y (.bool p) (.bool q); Go.binOp .neq t (.bool p) (.bool q) : Sem Value).run P w = .ok (.bool (!(p == q))) w := by
  have h := (run_equalIn1 (F := fun _ => True) (w := w) ht 9999 (x := .bool p) (y := .bool q) (c := p == q) (by rw [hti]; rfl) (.bool p) (.bool q)).1
  have h' : (Op.equal t (.bool p) (.bool q)).run P w = .ok (p == q) w := h
  constructor
  · have e : Go.binOp .eql t (.bool p) (.bool q) = (do pure (.bool (← Op.equal t (.bool p) (.bool q)))) := rfl
    rw [e]
    simp [eqGuard, h']
  · have e : Go.binOp .neq t (.bool p) (.bool q) = (do pure (.bool (!(← Op.equal t (.bool p) (.bool q))))) := rfl
    rw [e]
    simp [eqGuard, h']
theorem run_eqNil (ht : TabOk P tt) {t e : TypeId} (hti : (tt.at t).ti = .slice e) (x y : Operand) (ad : Option Addr) (n c : Nat) (w : World) :
    (do eqGuard .eql t x y (.slice ad n c) (.slice none 0 0); Go.binOp .eql t (.slice ad n c) (.slice none 0 0) : Sem Value).run P w = .ok (.bool ad.isNone) w ∧
    (do eqGuard .neq t x y (.slice ad n c) (.slice none 0 0); Go.binOp .neq t (.slice ad n c) (.slice none 0 0) : Sem Value).run P w = .ok (.bool (!ad.isNone)) w := by
  have hu := und_slice (ht.at t (by rw [hti]; rfl)) hti
  have h0 : ∀ d, (Op.equalIn (d + 1) t (.slice ad n c) (.slice none 0 0)).run P w = .ok ad.isNone w := by
    intro d
    cases ad <;> simp [Op.equalIn, run_underlying hu]
  have h' : (Op.equal t (.slice ad n c) (.slice none 0 0)).run P w = .ok ad.isNone w := h0 9999
  constructor
  · have e : Go.binOp .eql t (.slice ad n c) (.slice none 0 0) = (do pure (.bool (← Op.equal t (.slice ad n c) (.slice none 0 0)))) := rfl
    rw [e]
    simp [eqGuard, h']
  · have e : Go.binOp .neq t (.slice ad n c) (.slice none 0 0) = (do pure (.bool (!(← Op.equal t (.slice ad n c) (.slice none 0 0))))) := rfl
    rw [e]
    simp [eqGuard, h']

theorem op_binOp (ht : TabOk P tt) (hn : Next P o a own F w σ K next) (r : Rel own F w σ) {op : BinOp} {t yt : TypeId} {x y : Operand} (ho : o.op = .binOp op t x y yt) {tx ty : T} (hx : VT F w tx (a.eval x)) (hy : VT F w ty (a.eval y))
    (hs : binT tt op t tx ty fun v => K (.t v) σ) : o.wp P a w next Q := by
  have fin : ∀ {r' : T} {v : Value}, K (.t r') σ → (do eqGuard op t x y (a.eval x) (a.eval y); Go.binOp op t (a.eval x) (a.eval y) : Sem Value).run P w = .ok v w → VT F w r' v → o.wp P a w next Q := by
    intro r' v hk hr hv
    refine op_pure hn r ?_ hk (.t _ _ hv)
    unfold execOp
    simp only [ho]
    rw [Sem.run_bind, hr]
    rfl
  generalize hmx : a.eval x = mx at hx fin
  generalize hmy : a.eval y = my at hy fin
  unfold binT at hs
  split at hs
  · rename_i k n k' m
    cases hx; cases hy
    obtain ⟨hb, hs⟩ := bif_elim0 hs
    obtain ⟨r', v, h1, h2, h3⟩ := run_intOp (P := P) (F := F) (w := w) (t := t) (x := x) (y := y) (k' := k') hb hs
    exact fin h1 h2 h3
  · rename_i p q
    cases hx; cases hy
    have hti : (tt.at t).ti = .bool := by
      revert hs
      split
      · intro _; assumption
      · intro hs; exact hs.elim
    rw [hti] at hs
    simp only [cond_true] at hs
    obtain ⟨e1, e2⟩ := run_eqBool ht hti x y p q w
    cases op <;> first
      | exact hs.elim
      | exact fin hs e1 (.bool _)
      | exact fin hs e2 (.bool _)
  · rename_i p q
    cases hx; cases hy
    cases op <;> first
      | exact hs.elim
      | (refine fin hs ?_ (.bool _); simp [eqGuard, Go.binOp, Op.stringOp, eqS, ltS]; done)
      | (refine fin hs ?_ (.bool _); simp [eqGuard, Go.binOp, Op.stringOp]; unfold eqS; rfl)
      | (refine fin hs.2 ?_ (.str _); simp [eqGuard, Go.binOp, run_addS hs.1.out]; done)
  · rename_i xs ys
    cases hx with
    | agg _ vs hvs hvx =>
      cases hy with
      | agg _ us hus huy =>
        cases hcm : (tt.at t).cmp with
        | false => rw [hcm] at hs; exact hs.elim
        | true =>
          rw [hcm, cond_true] at hs
          split at hs
          · rename_i fs hti
            split at hs
            · rename_i b hb
              obtain ⟨fields, hu, hfs⟩ := und_struct (ht.at t (by rw [hti]; rfl)) hti
              have hck := ht.cmp t hcm
              unfold cmpCheck at hck
              rw [hu] at hck
              simp only [Bool.and_eq_true, Bool.not_eq_true'] at hck
              obtain ⟨⟨c1, c2⟩, c3⟩ := hck
              have hfo : P.fieldsOf t = fields := by simp [Program.fieldsOf, hu]
              have ef := eqFields_plain ht (F := F) (w := w) fields.toList 0 9998 vs us xs ys b c3 (by rw [hfs]; exact hb)
                (fun i z hz => by
                  have hlt : i < vs.size := by rw [hvs]; exact (List.getElem?_eq_some_iff.1 hz).1
                  exact ⟨vs[i], by simp [Array.getElem?_eq_getElem hlt], hvx i z _ hz (Array.getElem?_eq_getElem hlt)⟩)
                (fun i z hz => by
                  have hlt : i < us.size := by rw [hus]; exact (List.getElem?_eq_some_iff.1 hz).1
                  exact ⟨us[i], by simp [Array.getElem?_eq_getElem hlt], huy i z _ hz (Array.getElem?_eq_getElem hlt)⟩)
              have eqr : (Op.equalIn 10000 t (.agg vs) (.agg us)).run P w = .ok b w := by
                rw [run_equalIn_struct (P := P) w 9999 t vs us (by rw [hfo]; exact hu) c1, hfo]; exact ef
              cases op <;> first
                | exact hs.elim
                | exact fin hs (by rw [Sem.run_bind, run_eqGuard_agg w _ t x y vs us c2]; simp only [Result.andThen_ok]; rw [run_eql_struct w, eqr]; rfl) (.bool _)
                | exact fin hs (by rw [Sem.run_bind, run_eqGuard_agg w _ t x y vs us c2]; simp only [Result.andThen_ok]; rw [run_neq_struct w, eqr]; rfl) (.bool _)
            · exact hs.elim
          · exact hs.elim
  · rename_i sz xs
    have hti : ∃ e, (tt.at t).ti = .slice e := by
      revert hs
      split
      · intro _; exact ⟨_, by assumption⟩
      · intro hs; exact hs.elim
    obtain ⟨e, hti⟩ := hti
    rw [hti] at hs
    simp only [cond_true] at hs
    cases hy
    cases hx with
    | sl _ _ b off c vals hp =>
      obtain ⟨e1, e2⟩ := run_eqNil ht hti x y (some ⟨b, off, none⟩) xs.length c w
      cases op <;> first
        | exact hs.elim
        | exact fin (hs false fun _ => rfl) e1 (.bool _)
        | exact fin (hs true fun _ => rfl) e2 (.bool _)
    | sl0 _ ad c =>
      obtain ⟨e1, e2⟩ := run_eqNil ht hti x y ad 0 c w
      cases op <;> first
        | exact hs.elim
        | exact fin (hs _ fun h => absurd rfl h) e1 (.bool _)
        | exact fin (hs _ fun h => absurd rfl h) e2 (.bool _)
  · exact hs.elim

end
end Go.Proofs.Ytihebfhhnoneiaa.Am
