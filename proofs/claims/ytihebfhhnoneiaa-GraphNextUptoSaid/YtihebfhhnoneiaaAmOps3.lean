/- Stores, fields, indexes, numbers, maps. -/
import Derived.Test.YtihebfhhnoneiaaAmOps2
import Derived.Laws.StructEq
namespace Go.Proofs.Ytihebfhhnoneiaa.Am
open Go.RowKit
set_option linter.unusedVariables false
set_option linter.unusedSimpArgs false

section
variable {P : Program} {tt : Tab} {own : Nat → Own} {F : Nat → Prop} {w : World} {σ : Sto} {env : Env} {a : Act} {N : Nat} {o : Oper}
variable {K : SV → Sto → Prop} {next : Act → World → Prop} {Q : Exit → Act → World → Prop}

theorem heap_setRow_other (w : World) (g : Nat) (cs : Array Value) (i : Nat) (h : i ≠ g) : (w.setRow g cs).heap[i]? = w.heap[i]? := by
  simp only [World.setRow, Array.getElem?_modify]
  rw [if_neg (by omega)]

theorem run_storeVar_at {t : TypeId} {e : TE} (h : TOk P t e) (w : World) (b off : Nat) (v : Value) (cur : Array Value) (E : TypeId) (hb : w.heap[b]? = some (.cells cur E (0, 0))) (hs : v.cells.size = e.size)
    (h1 : ∀ u ∈ v.cells.toList, u.oneCell' = true) (hfit : off + e.size ≤ cur.size) :
    (storeVar t ⟨b, off, none⟩ v).run P w = .ok () (w.setRow b (cur.toList.take off ++ v.cells.toList ++ cur.toList.drop (off + e.size)).toArray) := by
  have hst := run_storeCells_at P b off E v.cells.toList 0 cur w hb (by simpa [hs] using hfit) h1
  simp only [Nat.add_zero, Array.length_toList, hs] at hst
  simp [storeVar, run_size h, hs, hst]

/-- A splice, cell by cell. -/
theorem splice_get {α : Type} (l vs : List α) (off j : Nat) (h : off + vs.length ≤ l.length) : (l.take off ++ vs ++ l.drop (off + vs.length))[j]? = if off ≤ j ∧ j < off + vs.length then vs[j - off]? else l[j]? := by
  rcases Nat.lt_or_ge j off with h1 | h1
  · rw [if_neg (by omega), List.append_assoc, List.getElem?_append_left (by simp; omega), List.getElem?_take, if_pos h1]
  · rcases Nat.lt_or_ge j (off + vs.length) with h2 | h2
    · rw [if_pos ⟨h1, h2⟩, List.append_assoc, List.getElem?_append_right (by simp; omega), List.getElem?_append_left (by simp; omega)]
      congr 1; simp; omega
    · rw [if_neg (by omega), List.getElem?_append_right (by simp; omega), List.getElem?_drop]
      congr 1; simp; omega

theorem frz_leaf {n : Nat} {x : SV} {t : T} (hl : x.leaf = true) (hf : frz n σ x = some t) : (SV.t t).leaf = true := by
  cases x with
  | t x => cases n <;> (simp [frz] at hf; subst hf; exact hl)
  | agg => simp [SV.leaf] at hl
  | tup => simp [SV.leaf] at hl
  | g => simp [SV.leaf] at hl
  | fn f xs =>
    cases n with
    | zero => simp [frz] at hf
    | succ n =>
      simp only [frz] at hf
      split at hf
      · simp at hf; subst hf; rfl
      · simp at hf
  | loc k i off =>
    cases n with
    | zero => simp [frz] at hf
    | succ n =>
      simp only [frz] at hf
      split at hf
      · split at hf
        · simp at hf; subst hf; rfl
        · simp at hf
      · simp at hf
  | osl k off len =>
    cases n with
    | zero => simp [frz] at hf
    | succ n =>
      simp only [frz] at hf
      split at hf
      · simp at hf; subst hf; rfl
      · simp at hf
  | map k =>
    cases n with
    | zero => simp [frz] at hf
    | succ n =>
      simp only [frz] at hf
      split at hf
      · simp at hf; subst hf; rfl
      · simp at hf

theorem tcells (z : T) : (SV.t z).cells = z.cells.map SV.t := by cases z <;> rfl

theorem frz_cells {n : Nat} {x : SV} {t : T} (hl : x.cells.all SV.leaf = true) (hf : frz n σ x = some t) : (SV.t t).cells.all SV.leaf = true := by
  cases x with
  | t x => cases n <;> (simp [frz] at hf; subst hf; exact hl)
  | agg xs =>
    cases n with
    | zero => simp [frz] at hf
    | succ n =>
      simp only [frz] at hf
      split at hf
      · rename_i ts hm
        simp at hf; subst hf
        simp only [SV.cells, List.all_map, List.all_eq_true, Function.comp]
        intro y hy
        obtain ⟨i, hi⟩ := List.mem_iff_getElem?.1 hy
        obtain ⟨x, hx, hfx⟩ := mapO_get hm i y hi
        exact frz_leaf ((List.all_eq_true.1 hl) x (List.mem_of_getElem? hx)) hfx
      · simp at hf
  | tup xs => simp [SV.cells, SV.leaf] at hl
  | g => simp [SV.cells, SV.leaf] at hl
  | _ =>
    have h1 := frz_leaf (by simpa [SV.cells] using hl) hf
    cases t <;> first | (simp [SV.cells]; exact h1) | (simp [SV.leaf] at h1)

theorem op_store (ht : TabOk P tt) (hn : Next P o a own F w σ K next) (r : Rel own F w σ) {t : TypeId} {x y : Operand} (ho : o.op = .store t x y) {sx sy : SV} (hx : VS own F w sx (a.eval x)) (hy : VS own F w sy (a.eval y))
    (hs : storeOp tt t sx sy σ fun σ' => K .any σ') : o.wp P a w next Q := by
  unfold storeOp at hs
  simp only at hs
  cases hg : (tt.at t).ti.good with
  | false => rw [hg] at hs; exact hs.elim
  | true =>
    cases hl : sy.cells.all SV.leaf with
    | false => rw [hg, hl] at hs; exact hs.elim
    | true =>
      have hT := ht.at t hg
      rw [hg, hl, Bool.true_and, cond_true] at hs
      obtain ⟨hc1, hc2, hc3⟩ := hy.cells hl
      have run : ∀ (b off : Nat) (cur : Array Value) (E : TypeId), a.eval x = .pointer (some ⟨b, off, none⟩) → w.heap[b]? = some (.cells cur E (0, 0)) → (a.eval y).cells.size = (tt.at t).size → off + (tt.at t).size ≤ cur.size →
          (execOp a.eval o).run P w = .ok .skip (w.setRow b (cur.toList.take off ++ (a.eval y).cells.toList ++ cur.toList.drop (off + (tt.at t).size)).toArray) := by
        intro b off cur E hx hb hsz hfit
        unfold execOp
        simp only [ho, hx, Instr.storeAt, Instr.sureAddr, Sem.run_bind, Sem.run_pure, Result.andThen_ok, run_storeVar_at hT w b off _ cur E hb hsz hc2 hfit]
      split at hs
      · rename_i k i off
        split at hs
        · rename_i E cs hk
          obtain ⟨h1, h2, h3, h4⟩ := hs
          have h1 := h1.out
          have h2 := h2.out
          have h3 := h3.out
          rw [forceSto_iff] at h4
          obtain ⟨b, vals, ho1, hm, hb, hsz, hcs⟩ := loc_var r hk hx h1
          have hrun := run b off vals E hm hb (by omega) (by omega)
          have hlen : (a.eval y).cells.toList.length = (tt.at t).size := by simp; omega
          have hwr := r.write k b 1 cs.length 1 ho1 (by omega) (w' := w.setRow b (vals.toList.take off ++ (a.eval y).cells.toList ++ vals.toList.drop (off + (tt.at t).size)).toArray) rfl rfl rfl (by simp)
            (fun i hi => heap_setRow_other w b _ i hi) (.var E (setCells cs off sy.cells)) (fun e => by
              have hsl : (setCells cs off sy.cells).length = cs.length := by unfold setCells; simp; omega
              refine ⟨b, _, by rw [hsl], setRow_heap w b vals _ E (0, 0) hb, by rw [hsl]; simp; omega, ?_⟩
              intro j z v hz hv
              unfold setCells at hz
              rw [splice_get _ _ _ _ (by omega)] at hz
              rw [← hlen] at hv
              simp only [List.getElem?_toArray] at hv
              rw [splice_get _ _ _ _ (by simp; omega)] at hv
              rw [hlen] at hv
              rw [h2] at hz
              by_cases hin : off ≤ j ∧ j < off + (tt.at t).size
              · rw [if_pos hin] at hz hv
                exact (hc3 _ z v hz (by simpa using hv)).ext r e
              · rw [if_neg hin] at hz hv
                exact (hcs j z v hz (by simpa using hv)).ext r e)
          exact wp_skip' hrun (hn _ _ _ _ _ _ h4 hwr.2 hwr.1 (by simp) (.t _ _ (.any _)))
        · rename_i E sz ts hk
          obtain ⟨h1, h2, h3, h4⟩ := hs
          have h1 := h1.out
          have h2 := h2.out
          have h3 := h3.out
          cases hf : frz 20 σ sy with
          | none => rw [hf] at h4; exact h4.elim
          | some z =>
            simp only [hf] at h4
            cases hct : (ids 20 σ sy).contains k with
            | true => rw [hct] at h4; exact h4.elim
            | false =>
              rw [hct, cond_false] at h4
              have h4 := h4.out (x := ts[i]) (by rw [nth_eq]; exact List.getElem?_eq_getElem h1)
              rw [forceSto_iff] at h4
              obtain ⟨b, cap, vals, ho1, hm, hsz0, hb, hsz, hcap, hts48, hcl, hts, hone⟩ := loc_row r hk hx h1
              have hle : (i + 1) * sz ≤ cap * sz := Nat.mul_le_mul_right _ (by omega)
              rw [Nat.add_mul, Nat.one_mul] at hle
              have hrun := run b (i * sz + off) vals E hm hb (by omega) (by omega)
              obtain ⟨r2, e2⟩ := r.kill (ids 20 σ sy)
              have hknot : k ∉ ids 20 σ sy := by simpa using hct
              have hlen : (a.eval y).cells.toList.length = (tt.at t).size := by simp; omega
              have hzv := frz_VT r 20 hy hf
              have hcli := hcl ts[i] (List.getElem_mem h1)
              have hzc : z.cells.length = (tt.at t).size ∧ ∀ (j : Nat) (c : T) (u : Value), z.cells[j]? = some c → (a.eval y).cells[j]? = some u → VT (Fk own F (ids 20 σ sy)) w c u := by
                obtain ⟨g1, _, g3⟩ := (VS.t (own := own) _ _ hzv).cells (frz_cells hl hf)
                rw [tcells, List.length_map] at g1
                refine ⟨by omega, fun j c u hc hu => ?_⟩
                have := g3 j (.t c) u (by rw [tcells, List.getElem?_map, hc]; rfl) hu
                cases this with
                | t _ _ h => exact h
              have hleafz : ∀ c ∈ z.cells, c.cells = [c] := by
                intro c hc
                have := (List.all_eq_true.1 (frz_cells hl hf)) (.t c) (by rw [tcells]; exact List.mem_map.2 ⟨c, hc, rfl⟩)
                cases c <;> first | rfl | (simp [SV.leaf] at this)
              have hwr := r2.write k b cap sz ts.length (by rw [ownK_out hknot]; exact ho1) (by omega) (w' := w.setRow b (vals.toList.take (i * sz + off) ++ (a.eval y).cells.toList ++ vals.toList.drop (i * sz + off + (tt.at t).size)).toArray) rfl rfl rfl (by simp)
                (fun i hi => heap_setRow_other w b _ i hi) (.row E sz (ts.set i (setT sz ts[i] off z.cells))) (fun e => by
                  have hlt : i < ts.length := h1
                  have hsetc : (setT sz ts[i] off z.cells).cells.length = sz ∧ ∀ (j : Nat) (c : T) (u : Value), (setT sz ts[i] off z.cells).cells[j]? = some c → (vals.toList.take (i * sz + off) ++ (a.eval y).cells.toList ++ vals.toList.drop (i * sz + off + (tt.at t).size))[i * sz + j]? = some u →
                      VT (Fk own F (ids 20 σ sy)) w c u := by
                    unfold setT
                    cases hs1 : Nat.beq sz 1 with
                    | true =>
                      have hs1 := Nat.eq_of_beq_eq_true hs1
                      simp only [cond_true]
                      cases hzz : z.cells with
                      | nil =>
                        refine ⟨by simp [T.cells, hs1], fun j c u hc hu => ?_⟩
                        cases j with
                        | zero => simp [T.cells] at hc; subst hc; exact .any _
                        | succ j => simp [T.cells] at hc
                      | cons c0 cs0 =>
                        have hlz := hzc.1
                        rw [hzz] at hlz
                        simp at hlz
                        have hc0 := hleafz c0 (by rw [hzz]; simp)
                        simp only [List.headD_cons, hc0]
                        refine ⟨by simp [hs1], fun j c u hc hu => ?_⟩
                        cases j with
                        | zero =>
                          simp at hc
                          subst hc
                          rw [← hlen, splice_get _ _ _ _ (by simp; omega), if_pos (by omega)] at hu
                          refine hzc.2 0 c0 u (by rw [hzz]; rfl) ?_
                          have e0 : i * sz + 0 - (i * sz + off) = 0 := by omega
                          rw [e0] at hu
                          simpa using hu
                        | succ j => simp at hc
                    | false =>
                      have hag : ∀ l : List T, (T.agg l).cells = l := fun _ => rfl
                      simp only [cond_false, hag]
                      have hoff : off + z.cells.length ≤ ts[i].cells.length := by rw [hzc.1, hcli]; omega
                      refine ⟨by rw [← hcli]; simp; omega, fun j c u hc hu => ?_⟩
                      rw [splice_get _ _ _ _ hoff] at hc
                      have hj : j < sz := by
                        split at hc
                        · rename_i hin; have := hzc.1; omega
                        · have := (List.getElem?_eq_some_iff.1 hc).1; omega
                      rw [← hlen, splice_get _ _ _ _ (by simp; omega), hlen] at hu
                      rw [hzc.1] at hc
                      by_cases hin : off ≤ j ∧ j < off + (tt.at t).size
                      · rw [if_pos hin] at hc
                        rw [if_pos (by omega)] at hu
                        have e0 : i * sz + j - (i * sz + off) = j - off := by omega
                        rw [e0] at hu
                        exact hzc.2 _ c u hc (by simpa using hu)
                      · rw [if_neg hin] at hc
                        rw [if_neg (by omega)] at hu
                        exact (hts i ts[i] j c u (List.getElem?_eq_getElem hlt) hc (by simpa using hu)).sub fun b hb => .inl hb
                  refine .inr ⟨b, cap, _, by simp, hsz0, setRow_heap w b vals _ E (0, 0) hb, by simp; omega, by simpa using hcap, by simpa using hts48, ?_, ?_, ?_⟩
                  · intro x hx
                    rcases List.mem_or_eq_of_mem_set hx with h | h
                    · exact hcl x h
                    · subst h; exact hsetc.1
                  · intro i' x j c u hx hc hu
                    simp only [List.getElem?_toArray] at hu
                    rw [List.getElem?_set] at hx
                    by_cases hii : i = i'
                    · subst hii
                      rw [if_pos rfl, if_pos hlt] at hx
                      injection hx with hx
                      subst hx
                      exact (hsetc.2 j c u hc hu).ext e r2.sep
                    · rw [if_neg hii] at hx
                      have hi' : i' < ts.length := (List.getElem?_eq_some_iff.1 hx).1
                      have hj : j < sz := by
                        have h9 := (List.getElem?_eq_some_iff.1 hc).1
                        rw [hcl x (List.mem_of_getElem? hx)] at h9; exact h9
                      have hsep : i' * sz + j < i * sz + off ∨ i * sz + off + (tt.at t).size ≤ i' * sz + j := by
                        rcases Nat.lt_or_ge i' i with h | h
                        · have : (i' + 1) * sz ≤ i * sz := Nat.mul_le_mul_right _ (by omega)
                          rw [Nat.add_mul, Nat.one_mul] at this
                          omega
                        · have : (i + 1) * sz ≤ i' * sz := Nat.mul_le_mul_right _ (by omega)
                          rw [Nat.add_mul, Nat.one_mul] at this
                          omega
                      rw [← hlen, splice_get _ _ _ _ (by simp; omega), hlen, if_neg (by omega)] at hu
                      exact ((hts i' x j c u hx hc (by simpa using hu)).sub fun b hb => Or.inl hb).ext e r2.sep
                  · intro j hj
                    simp only [List.length_set] at hj
                    have hjv : j < vals.size := by
                      have : ts.length * sz ≤ cap * sz := Nat.mul_le_mul_right _ hcap
                      omega
                    simp only [Array.getD_eq_getD_getElem?, List.getElem?_toArray]
                    rw [← hlen, splice_get _ _ _ _ (by simp; omega)]
                    split
                    · rename_i hin
                      have hq : j - (i * sz + off) < (a.eval y).cells.toList.length := by omega
                      rw [List.getElem?_eq_getElem hq]
                      exact hc2 _ (List.getElem_mem hq)
                    · have := hone j hj
                      rw [Array.getD_eq_getD_getElem?] at this
                      rw [Array.getElem?_toList]; exact this)
              exact wp_skip' hrun (hn _ _ _ _ _ _ h4 (e2.trans (hwr.2.mono (by simp [kills_len]))) hwr.1 (by simp [kills_len]) (.t _ _ (.any _)))
        · exact hs.elim
      · exact hs.elim

end
end Go.Proofs.Ytihebfhhnoneiaa.Am
