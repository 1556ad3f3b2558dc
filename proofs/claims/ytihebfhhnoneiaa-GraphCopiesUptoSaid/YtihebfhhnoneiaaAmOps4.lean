/- Fields, indexes, numbers, comparisons, what is built. -/
import Derived.Test.YtihebfhhnoneiaaAmOps3
namespace Go.Proofs.Ytihebfhhnoneiaa.Am
open Go.RowKit
set_option linter.unusedVariables false
set_option linter.unusedSimpArgs false

section
variable {P : Program} {tt : Tab} {own : Nat → Own} {F : Nat → Prop} {w : World} {σ : Sto} {env : Env} {a : Act} {N : Nat} {o : Oper}
variable {K : SV → Sto → Prop} {next : Act → World → Prop} {Q : Exit → Act → World → Prop}

theorem hasField_ok (ht : TabOk P tt) {s f : Nat} (h : hasField tt s f = true) : ∃ (fields : Array Field) (fd : Field), P.underlying s = some (.struct fields) ∧ fields[f]? = some fd ∧ fd.type = (fieldOf tt s f).1 ∧ fd.offset = (fieldOf tt s f).2 ∧
    TOk P fd.type (tt.at (fieldOf tt s f).1) ∧ 0 < (tt.at (fieldOf tt s f).1).size := by
  unfold hasField at h
  split at h
  · rename_i fs hfs
    have hg : (tt.at s).ti.good = true := by rw [hfs]; rfl
    obtain ⟨fields, hu, hm⟩ := und_struct (ht.at s hg) hfs
    have hfo : fieldOf tt s f = (nth fs f).getD (0, 0) := by unfold fieldOf; rw [hfs]
    split at h
    · rename_i x hx
      simp only [Bool.and_eq_true] at h
      rw [hfo, hx]
      rw [nth_eq, ← hm, List.getElem?_map, Array.getElem?_toList] at hx
      cases hfd : fields[f]? with
      | none => simp [hfd] at hx
      | some fd =>
        simp [hfd] at hx
        subst hx
        exact ⟨fields, fd, hu, hfd, rfl, rfl, ht.at _ h.1, by simpa [Nat.blt_eq] using h.2⟩
    · exact absurd h (by simp)
  · exact absurd h (by simp)

theorem op_fieldAddr (ht : TabOk P tt) (hn : Next P o a own F w σ K next) (r : Rel own F w σ) {s : TypeId} {x : Operand} {f : Nat} (ho : o.op = .fieldAddr s x f) {sx : SV} (hx : VS own F w sx (a.eval x)) (hf : hasField tt s f = true)
    (hs : match (generalizing := false) sx with
      | .t (.ptr cs) => K (.t (.ptr (cs.drop (fieldOf tt s f).2))) σ
      | .pl k e p i off => K (.pl k e p i (off + (fieldOf tt s f).2)) σ
      | _ => False) : o.wp P a w next Q := by
  obtain ⟨fields, fd, hu, hfd, h1, h2, hT, h3⟩ := hasField_ok ht hf
  have run : ∀ (b off : Nat), a.eval x = .pointer (some ⟨b, off, none⟩) → (execOp a.eval o).run P w = .ok (.value (.pointer (some ⟨b, off + (fieldOf tt s f).2, none⟩))) w := by
    intro b off hx
    unfold execOp
    have hz : ¬ (tt.at (fieldOf tt s f).1).size = 0 := by omega
    simp only [ho, hx, Instr.fieldAt, Sem.run_bind, run_underlying hu, Result.andThen_ok, hfd, Instr.sureAddr, Sem.run_pure, fieldPlace, run_size hT, hz, if_false, add_plain, h2]
  split at hs
  · rename_i cs
    generalize hm : a.eval x = mv at hx
    cases hx with
    | t _ _ hv =>
      cases hv with
      | ptr _ b off vals hF hcell h =>
        refine op_pure hn r (run b off hm) hs (.t _ _ (.ptr _ b _ (fun j => vals ((fieldOf tt s f).2 + j)) hF ?_ ?_))
        · intro j hj
          rw [Nat.add_assoc]
          exact hcell _ (by simp at hj; omega)
        · intro j y hy
          rw [List.getElem?_drop] at hy
          exact h _ y hy
  · rename_i k e p i off
    generalize hm : a.eval x = mv at hx
    cases hx with
    | pl _ _ _ _ _ b o' sz cap m h =>
      refine op_pure hn r (run b _ hm) hs ?_
      rw [Nat.add_assoc]
      exact .pl k e p i _ b o' sz cap m h
  · exact hs.elim

theorem op_nilCheck (hn : Next P o a own F w σ K next) (r : Rel own F w σ) {x : Operand} (ho : o.op = .nilCheck x) {sx : SV} (hx : VS own F w sx (a.eval x))
    (hs : match (generalizing := false) sx with
      | .t (.ptr cs) => K (.t (.ptr cs)) σ
      | .pl k e p i off => K (.pl k e p i off) σ
      | _ => False) : o.wp P a w next Q := by
  split at hs
  · rename_i cs
    generalize hm : a.eval x = mv at hx
    cases hx with
    | t _ _ hv =>
      cases hv with
      | ptr _ b off vals hF hcell h =>
        refine op_pure hn r (mv := .pointer (some ⟨b, off, none⟩)) ?_ hs (.t _ _ (.ptr _ b off vals hF hcell h))
        unfold execOp
        simp [ho, hm]
  · rename_i k e p i off
    generalize hm : a.eval x = mv at hx
    have hx0 := hx
    cases hx with
    | pl _ _ _ _ _ b o' sz cap m h =>
      refine op_pure hn r ?_ hs hx0
      unfold execOp
      simp [ho, hm]
  · exact hs.elim

theorem run_part {t : TypeId} {e : TE} (h : TOk P t e) (w : World) (cs : Array Value) (off : Nat) (hfit : off + e.size ≤ cs.size) :
    (part t cs off).run P w = .ok (if e.ti.isAgg then .agg ((List.range e.size).map fun j => cs.getD (off + j) undef).toArray else cs.getD (off + 0) undef) w := by
  unfold part
  rw [Sem.run_bind, run_isAgg h]
  simp only [Result.andThen_ok]
  cases ha : e.ti.isAgg with
  | true =>
    simp only [if_true, Sem.run_bind, run_size h, Result.andThen_ok, Sem.run_pure]
    congr 2
    apply Array.ext'
    apply List.ext_getElem?
    intro j
    simp only [Array.toList_extract, List.extract_eq_take_drop, List.getElem?_take, List.getElem?_drop, Array.getElem?_toList, List.getElem?_map]
    by_cases hj : j < e.size
    · simp [hj, show j < off + e.size - off by omega, Array.getD_eq_getD_getElem?, Array.getElem?_eq_getElem (show off + j < cs.size by omega)]
    · simp [hj, show ¬ j < off + e.size - off by omega]
  | false =>
    have := h.one ha
    simp [Array.getElem?_eq_getElem (show off < cs.size by omega), Array.getD_eq_getD_getElem?]

theorem op_field (ht : TabOk P tt) (hn : Next P o a own F w σ K next) (r : Rel own F w σ) {s : TypeId} {x : Operand} {f : Nat} (ho : o.op = .field s x f) {sx : SV} (hx : VS own F w sx (a.eval x)) (hf : hasField tt s f = true)
    (hs : match (generalizing := false) sx with
      | .t (.agg cs) => Ob ((fieldOf tt s f).2 + (tt.at (fieldOf tt s f).1).size ≤ cs.length) ∧ K (.t (mkT (tt.at (fieldOf tt s f).1).ti.isAgg (tt.at (fieldOf tt s f).1).size (cs.drop (fieldOf tt s f).2))) σ
      | .agg cs => Ob ((fieldOf tt s f).2 + (tt.at (fieldOf tt s f).1).size ≤ cs.length) ∧ K (mkS (tt.at (fieldOf tt s f).1).ti.isAgg (tt.at (fieldOf tt s f).1).size (cs.drop (fieldOf tt s f).2)) σ
      | _ => False) : o.wp P a w next Q := by
  obtain ⟨fields, fd, hu, hfd, h1, h2, hT, h3⟩ := hasField_ok ht hf
  have run : ∀ (vs : Array Value), a.eval x = .agg vs → (fieldOf tt s f).2 + (tt.at (fieldOf tt s f).1).size ≤ vs.size →
      (execOp a.eval o).run P w = .ok (.value (if (tt.at (fieldOf tt s f).1).ti.isAgg then .agg ((List.range (tt.at (fieldOf tt s f).1).size).map fun j => vs.getD ((fieldOf tt s f).2 + j) undef).toArray else vs.getD ((fieldOf tt s f).2 + 0) undef)) w := by
    intro vs hx hfit
    unfold execOp
    simp only [ho, hx, Instr.field, Sem.run_bind, run_underlying hu, Result.andThen_ok, hfd, asAgg, Sem.run_pure, h2, run_part hT w vs _ hfit]
  split at hs
  · rename_i cs
    obtain ⟨h4, h5⟩ := hs
    have h4 := h4.out
    generalize hm : a.eval x = mv at hx
    cases hx with
    | t _ _ hv =>
      cases hv with
      | agg _ vs hsz h =>
        refine op_pure hn r (run vs hm (by omega)) h5 (.t _ _ (mkT_VT (f := fun j => vs.getD ((fieldOf tt s f).2 + j) undef) (by simp; omega) hT.one fun j y hy hj => ?_))
        rw [List.getElem?_drop] at hy
        refine h _ y _ hy ?_
        simp [Array.getD_eq_getD_getElem?, Array.getElem?_eq_getElem (show (fieldOf tt s f).2 + j < vs.size by omega)]
  · rename_i cs
    obtain ⟨h4, h5⟩ := hs
    have h4 := h4.out
    generalize hm : a.eval x = mv at hx
    cases hx with
    | agg _ vs hsz h =>
      refine op_pure hn r (run vs hm (by omega)) h5 (mkS_VS (f := fun j => vs.getD ((fieldOf tt s f).2 + j) undef) (by simp; omega) hT.one fun j y hy hj => ?_)
      rw [List.getElem?_drop] at hy
      refine h _ y _ hy ?_
      simp [Array.getD_eq_getD_getElem?, Array.getElem?_eq_getElem (show (fieldOf tt s f).2 + j < vs.size by omega)]
  · exact hs.elim

theorem op_indexAddr (ht : TabOk P tt) (hn : Next P o a own F w σ K next) (r : Rel own F w σ) {t : TypeId} {x i : Operand} (ho : o.op = .indexAddr t x i) {sx si : SV} (hx : VS own F w sx (a.eval x)) (hi : VS own F w si (a.eval i))
    (hs : match (generalizing := false) (tt.at t).ti, sx, si with
    | .slice e, .t (.sl sz xs), .t (.int _ n) => bif Nat.beq sz (tt.at e).size && (tt.at e).ti.good then Ob (0 ≤ n) ∧ Ob (n < xs.length) ∧ exE xs n.toNat fun x => K (.t (.ptr x.cells)) σ else False
    | .slice e, .ref k ee p off len, .t (.int _ n) => match nth σ k with
      | some (.nd ep nd) => Ob (ee = ep p.length) ∧ nodeK nd p fun m => match m with
        | .row _ sz _ => bif Nat.beq sz (tt.at e).size && (tt.at e).ti.good then Ob (0 ≤ n) ∧ Ob (n < len) ∧ K (.pl k ee p (off + n.toNat) 0) σ else False
        | .map .. => False
      | _ => False
    | .arr m e, .pl k ee p i off, .t (.int _ n) => bif (tt.at e).ti.good then Ob (0 ≤ n) ∧ Ob (n < m) ∧ K (.pl k ee p i (off + n.toNat * (tt.at e).size)) σ else False
    | _, _, _ => False) : o.wp P a w next Q := by
  have run : ∀ (e : TypeId) (b off len cap : Nat) (kk : IntKind) (n : Int), (tt.at t).ti = .slice e → (tt.at e).ti.good = true → a.eval x = .slice (some ⟨b, off, none⟩) len cap → a.eval i = .int kk n → 0 ≤ n → n < len →
      (execOp a.eval o).run P w = .ok (.value (.pointer (some ⟨b, off + n.toNat * (tt.at e).size, none⟩))) w := by
    intro e b off len cap kk n he hge hx hi h0 h1
    have hu := und_slice (ht.at t (by rw [he]; rfl)) he
    unfold execOp
    simp only [ho, hx, hi, Instr.indexAt, asIntOf, Sem.run_bind, Sem.run_pure, Result.andThen_ok, run_underlying hu, if_pos (And.intro h0 h1), run_size (ht.at e hge), add_plain]
  split at hs
  · rename_i e sz xs kk n he
    cases hb : Nat.beq sz (tt.at e).size && (tt.at e).ti.good with
    | false => rw [hb] at hs; exact hs.elim
    | true =>
      rw [hb] at hs
      simp only [Bool.and_eq_true] at hb
      have hsz := Nat.eq_of_beq_eq_true hb.1
      obtain ⟨h1, h2, h3⟩ := hs
      have h1 := h1.out
      have h2 := h2.out
      have hlt : n.toNat < xs.length := by omega
      have h3 := h3.out (x := xs[n.toNat]) (by rw [nth_eq]; exact List.getElem?_eq_getElem hlt)
      generalize hmi : a.eval i = mi at hi
      generalize hmx : a.eval x = mx at hx
      cases hi with
      | t _ _ hi =>
        cases hi
        cases hx with
        | t _ _ hx =>
          cases hx with
          | sl0 => simp at h2; omega
          | sl _ _ b off c vals hp hc hnn hF hz hcell h1c h =>
            refine op_pure hn r (run e b off _ c _ n he hb.2 hmx hmi h1 h2) h3 (.t _ _ (.ptr _ b _ (fun j => vals (n.toNat * sz + j)) hF ?_ ?_))
            · intro j hj
              rw [hz _ (List.getElem_mem hlt)] at hj
              rw [← hsz, Nat.add_assoc]
              refine hcell _ ?_
              have hle : (n.toNat + 1) * sz ≤ xs.length * sz := Nat.mul_le_mul_right _ (by omega)
              rw [Nat.add_mul, Nat.one_mul] at hle
              omega
            · intro j y hy
              exact h n.toNat _ j y (List.getElem?_eq_getElem hlt) hy
  · rename_i e k ee p off len kk n he
    split at hs
    · rename_i ep nd hk
      obtain ⟨hee, hs⟩ := hs
      have hee := hee.out
      subst hee
      obtain ⟨nn, hp, h5⟩ := nodeK_out hs
      obtain ⟨hT, hB, hep, hfr⟩ := nd_obj r hk
      cases nn with
      | map => exact h5.elim
      | row E sz xs =>
        obtain ⟨hb, h1, h2, h3⟩ := bif_elim0 h5
        simp only [Bool.and_eq_true] at hb
        have hsz := Nat.eq_of_beq_eq_true hb.1
        have h1 := h1.out
        have h2 := h2.out
        generalize hmi : a.eval i = mi at hi
        generalize hmx : a.eval x = mx at hx
        cases hi with
        | t _ _ hi =>
          cases hi
          cases hx with
          | refE => omega
          | refZ => omega
          | ref _ _ _ _ _ b o' sz' cap m h hl hm hnn =>
            have hs2 : sz' = sz := by
              have h' : (own k).cur ep p = some (.at b o' sz' cap m) := h
              rcases hT.1 p _ hp with ⟨_, a, ha⟩ | ⟨b2, o2, cap2, vals2, ha, _⟩
              · rw [h'] at ha; exact nomatch ha
              · rw [h'] at ha; injection ha with ha; injection ha
            subst hs2
            refine op_pure hn r (run e b _ len _ _ n he hb.2 hmx hmi h1 h2) h3 ?_
            have := VS.pl (own := own) (F := F) (w := w) k (ep p.length) p (off + n.toNat) 0 b o' sz' cap m h
            rw [Nat.add_mul, Nat.add_zero, hsz, ← Nat.add_assoc] at this
            rw [hsz]
            exact this
    · exact hs.elim
  · rename_i m e k ee p i0 off kk n he
    obtain ⟨hb, h1, h2, h3⟩ := bif_elim0 hs
    have h1 := h1.out
    have h2 := h2.out
    generalize hmi : a.eval i = mi at hi
    generalize hmx : a.eval x = mx at hx
    cases hi with
    | t _ _ hi =>
      cases hi
      cases hx with
      | pl _ _ _ _ _ b o' sz cap mm h =>
        have hu := und_arr (ht.at t (by rw [he]; rfl)) he
        refine op_pure hn r (mv := .pointer (some ⟨b, o' + i0 * sz + off + n.toNat * (tt.at e).size, none⟩)) ?_ h3 ?_
        · unfold execOp
          simp only [ho, hmx, hmi, Instr.indexAt, asIntOf, Sem.run_bind, Sem.run_pure, Result.andThen_ok, run_underlying hu, Instr.sureAddr, if_pos (And.intro h1 h2), run_size (ht.at e hb), add_plain]
        · rw [Nat.add_assoc]
          exact .pl k ee p i0 _ b o' sz cap mm h
  · exact hs.elim

theorem op_move (hn : Next P o a own F w σ K next) (r : Rel own F w σ) {x : Operand} (ho : o.op = .move x ∨ o.op = .assign x) {sx : SV} (hx : VS own F w sx (a.eval x)) (hs : K sx σ) : o.wp P a w next Q := by
  refine op_pure hn r (mv := a.eval x) ?_ hs hx
  unfold execOp
  rcases ho with ho | ho <;> simp [ho]

theorem op_pick (hn : Next P o a own F w σ K next) (r : Rel own F w σ) {c x y : Operand} (ho : o.op = .pick c x y) {cb : Bool} (hc : VS own F w (.t (.bool cb)) (a.eval c)) {sx sy : SV} (hx : VS own F w sx (a.eval x)) (hy : VS own F w sy (a.eval y))
    (hs : pickOp cb sx sy fun v => K v σ) : o.wp P a w next Q := by
  generalize hmc : a.eval c = mc at hc
  cases hc with
  | t _ _ hc =>
    cases hc
    have run : (execOp a.eval o).run P w = .ok (.value (if cb then a.eval x else a.eval y)) w := by
      unfold execOp
      simp [ho, hmc, asBool]
    have bval : ∀ {b : Bool} {v : Value}, VS own F w (.t (.bool b)) v → v = .bool b := by
      intro b v h
      cases h with
      | t _ _ h => cases h; rfl
    have gval : ∀ {e b : Bool} {v : Value}, VS own F w (.g e (.t (.bool b))) v → e = true → v = .bool b := by
      intro e b v h he
      cases h with
      | g _ _ _ _ h => exact bval (h he)
    unfold pickOp at hs
    split at hs
    · rename_i p q
      refine op_pure hn r run hs ?_
      cases cb
      · rw [show (if false = true then a.eval x else a.eval y) = a.eval y from rfl, bval hy]; exact .t _ _ (.bool _)
      · rw [show (if true = true then a.eval x else a.eval y) = a.eval x from rfl, bval hx]; exact .t _ _ (.bool _)
    · obtain ⟨h1, hs⟩ := hs
      have h1 := h1.out
      refine op_pure hn r run hs ?_
      cases cb
      · rw [show (if false = true then a.eval x else a.eval y) = a.eval y from rfl, bval hy]; exact .t _ _ (.bool _)
      · rw [show (if true = true then a.eval x else a.eval y) = a.eval x from rfl, gval hx (h1 rfl)]; exact .t _ _ (.bool _)
    · obtain ⟨h1, hs⟩ := hs
      have h1 := h1.out
      refine op_pure hn r run hs ?_
      cases cb
      · rw [show (if false = true then a.eval x else a.eval y) = a.eval y from rfl, gval hy (h1 rfl)]; exact .t _ _ (.bool _)
      · rw [show (if true = true then a.eval x else a.eval y) = a.eval x from rfl, bval hx]; exact .t _ _ (.bool _)
    · obtain ⟨h1, h2, hs⟩ := hs
      have h1 := h1.out
      have h2 := h2.out
      refine op_pure hn r run hs ?_
      cases cb
      · rw [show (if false = true then a.eval x else a.eval y) = a.eval y from rfl, gval hy (h2 rfl)]; exact .t _ _ (.bool _)
      · rw [show (if true = true then a.eval x else a.eval y) = a.eval x from rfl, gval hx (h1 rfl)]; exact .t _ _ (.bool _)
    · exact hs.elim

end
end Go.Proofs.Ytihebfhhnoneiaa.Am
