/- Each operation does what the abstract machine says: loads, stores, new variables. -/
import Derived.Test.YtgladinljapmkaaXB
import Derived.Laws.CopyRow
import Derived.Laws.Append
import Derived.ChangeKeysEq
/- Each operation does what the abstract machine says: loads, stores, new variables. -/
namespace Go.Proofs.Ytgladinljapmkaa.Am
open Go.RowKit
set_option linter.unusedVariables false
set_option linter.unusedSimpArgs false
/-! ### types -/
def leafEq : T → Value → Bool
  | .bool a, .bool b => a == b
  | .int j a, .int k b => sameK j k && a == b
  | .str a, .string b => a.size == 0 && b.size == 0
  | .nsl, .slice none 0 0 => true
  | .nptr, .pointer none => true
  | .nfn, .nilFunc => true
  | .nif, .nilIface => true
  | .any, .map none => true
  | _, _ => false
def cellsEq : List T → List Value → Bool
  | [], [] => true
  | x :: xs, v :: vs => leafEq x v && cellsEq xs vs
  | _, _ => false
def dEq : TypeDesc → TI → Bool
  | .bool, .bool => true
  | .int k, .int k' => sameK k k'
  | .string, .str => true
  | .slice e, .slice e' => Nat.beq e e'
  | .array n e, .arr n' e' => Nat.beq n n' && Nat.beq e e'
  | .struct fs, .struct fs' => fs.toList.map (fun f => (f.type, f.offset)) == fs'
  | .pointer e, .ptr e' => Nat.beq e e'
  | .func .., .fn => true
  | .map k e, .map k' e' => Nat.beq k k' && Nat.beq e e'
  | .interface _, .iface => true
  | _, _ => false
def offsOk (P : Program) : Nat → List Field → Bool
  | _, [] => true
  | n, f :: fs => Nat.beq f.offset n && f.name != "_" && offsOk P (n + 1) fs
def cmpCheck (P : Program) (t : TypeId) : Bool := match P.underlying t with
  | some (.struct fs) => !P.stoodInHeld t && !P.eqGuardType P.depth t && offsOk P 0 fs.toList
  | some (.array _ _) => !P.eqGuardType P.depth t
  | _ => false
def teCheck (P : Program) (t : TypeId) (e : TE) : Bool :=
  (!e.cmp || cmpCheck P t) && (!e.ti.good || match P.info? t, P.underlying t with
  | some i, some d => Nat.beq i.size e.size && Nat.beq i.bytes e.bytes && dEq d e.ti && Nat.beq e.zero.length e.size && match i.zero with
    | some (.agg vs) => e.ti.isAgg && cellsEq e.zero vs.toList
    | some v => !e.ti.isAgg && cellsEq e.zero [v]
    | none => false
  | _, _ => false)
def tabCheck (P : Program) (tt : Tab) : Bool := P.follows .mixedOrders && (List.range tt.length).all fun t => teCheck P t (tt.at t)
theorem sameK_eq {j k : IntKind} (h : sameK j k = true) : j = k := by cases j <;> cases k <;> first | rfl | exact absurd h (by decide)
structure TOk (P : Program) (t : TypeId) (e : TE) : Prop where
  info : ∃ i, P.info? t = some i ∧ i.size = e.size ∧ i.bytes = e.bytes ∧ e.zero.length = e.size ∧ ∃ z, i.zero = some z ∧ z.cells.size = e.size ∧ (e.ti.isAgg = true → ∃ vs, z = .agg vs) ∧ (e.ti.isAgg = false → z.cells = #[z] ∧ e.size = 1) ∧
    ∀ (F : Nat → Prop) (w : World) (j : Nat) (x : T) (v : Value), e.zero[j]? = some x → z.cells[j]? = some v → VT F w x v ∧ v.oneCell' = true
  und : ∃ d, P.underlying t = some d ∧ dEq d e.ti = true
structure TabOk (P : Program) (tt : Tab) : Prop where
  all : ∀ t, (tt.at t).ti.good = true → TOk P t (tt.at t)
  cmp : ∀ t, (tt.at t).cmp = true → cmpCheck P t = true
  mixed : P.follows .mixedOrders = true
theorem TabOk.at {P : Program} {tt : Tab} (h : TabOk P tt) (t : TypeId) (hg : (tt.at t).ti.good = true) : TOk P t (tt.at t) := h.all t hg
theorem leafEq_VT {F : Nat → Prop} {w : World} {x : T} {v : Value} (h : leafEq x v = true) : VT F w x v ∧ v.oneCell' = true := by
  unfold leafEq at h
  split at h
  · simp at h; subst h; exact ⟨.bool _, rfl⟩
  · simp at h; obtain ⟨h1, rfl⟩ := h; rw [sameK_eq h1]; exact ⟨.int _ _, rfl⟩
  · rename_i a b
    simp at h
    have ha : a = b := by
      have h1 : a.data = #[] := Array.eq_empty_of_size_eq_zero (by simpa using h.1)
      have h2 : b.data = #[] := Array.eq_empty_of_size_eq_zero (by simpa using h.2)
      cases a; cases b; simp_all
    subst ha
    exact ⟨.str _, rfl⟩
  · exact ⟨.nsl, rfl⟩
  · exact ⟨.nptr, rfl⟩
  · exact ⟨.nfn, rfl⟩
  · exact ⟨.nif, rfl⟩
  · exact ⟨.any _, rfl⟩
  · exact absurd h (by simp)
theorem cellsEq_VT {F : Nat → Prop} {w : World} : ∀ {xs : List T} {vs : List Value}, cellsEq xs vs = true → vs.length = xs.length ∧ ∀ (j : Nat) (x : T) (v : Value), xs[j]? = some x → vs[j]? = some v → VT F w x v ∧ v.oneCell' = true
  | [], [], _ => ⟨rfl, by simp⟩
  | x :: xs, v :: vs, h => by
    simp [cellsEq] at h
    obtain ⟨h1, h2⟩ := cellsEq_VT (F := F) (w := w) h.2
    refine ⟨by simp [h1], fun j y u hy hu => ?_⟩
    cases j with
    | zero => simp at hy hu; subst hy; subst hu; exact leafEq_VT h.1
    | succ j => exact h2 j y u (by simpa using hy) (by simpa using hu)
  | [], _ :: _, h => by simp [cellsEq] at h
  | _ :: _, [], h => by simp [cellsEq] at h
theorem tabOk_of_check {P : Program} {tt : Tab} (h : tabCheck P tt = true) : TabOk P tt := by
  simp only [tabCheck, Bool.and_eq_true] at h
  obtain ⟨hmx, h⟩ := h
  have big : ∀ t, tt.length ≤ t → tt.at t = ⟨.other, 0, 0, [], false⟩ := fun t h => by simp [Tab.at, nth_eq, List.getElem?_eq_none h]
  refine ⟨?_, ?_, hmx⟩
  rotate_left
  · intro t ht
    have hlt : t < tt.length := by
      rcases Nat.lt_or_ge t tt.length with h | h
      · exact h
      · rw [big t h] at ht; simp at ht
    have hc := (List.all_eq_true.1 h) t (by simpa using hlt)
    unfold teCheck at hc
    simp only [ht, Bool.not_true, Bool.false_or, Bool.and_eq_true] at hc
    exact hc.1
  intro t ht
  have hlt : t < tt.length := by
    rcases Nat.lt_or_ge t tt.length with h | h
    · exact h
    · rw [big t h] at ht; simp [TI.good] at ht
  have hc := (List.all_eq_true.1 h) t (by simpa using hlt)
  unfold teCheck at hc
  simp only [ht, Bool.not_true, Bool.false_or, Bool.and_eq_true] at hc
  replace hc := hc.2
  split at hc
  · rename_i i d hi hd
    simp only [Bool.and_eq_true] at hc
    obtain ⟨⟨⟨⟨h1, h2⟩, h3⟩, h4⟩, h5⟩ := hc
    have h1 := Nat.eq_of_beq_eq_true h1
    have h2 := Nat.eq_of_beq_eq_true h2
    have h4 := Nat.eq_of_beq_eq_true h4
    refine ⟨⟨i, hi, h1, h2, h4, ?_⟩, d, hd, h3⟩
    split at h5
    · rename_i vs hz
      simp only [Bool.and_eq_true] at h5
      refine ⟨_, hz, ?_, fun _ => ⟨vs, rfl⟩, fun h => (by rw [h5.1] at h; cases h), ?_⟩
      · have := (cellsEq_VT (F := fun _ => True) (w := default) h5.2).1
        simpa [Value.cells, h4] using this
      · intro F w j x v hx hv
        exact (cellsEq_VT (F := F) (w := w) h5.2).2 j x v hx (by simpa [Value.cells] using hv)
    · rename_i v hv hz
      simp only [Bool.and_eq_true, Bool.not_eq_true'] at h5
      have hcs : v.cells = #[v] := by
        cases v <;> first | rfl | exact absurd rfl (hv _)
      have hl := (cellsEq_VT (F := fun _ => True) (w := default) h5.2).1
      simp only [List.length_singleton, h4] at hl
      refine ⟨v, hz, by rw [hcs]; simpa using hl, fun h => (by rw [h5.1] at h; cases h), fun _ => ⟨hcs, hl.symm⟩, ?_⟩
      intro F w j x u hx hu
      rw [hcs] at hu
      exact (cellsEq_VT (F := F) (w := w) h5.2).2 j x u hx (by simpa using hu)
    · exact absurd h5 (by simp)
  · exact absurd hc (by simp)
section
variable {P : Program} {tt : Tab}
theorem run_isAgg {t : TypeId} {e : TE} (h : TOk P t e) (w : World) : (isAgg t).run P w = .ok e.ti.isAgg w := by
  obtain ⟨d, hd, hq⟩ := h.und
  unfold isAgg
  rw [Sem.run_bind, run_underlying hd w]
  unfold dEq at hq
  split at hq <;> first | (rename_i he; rw [he]; rfl) | exact absurd hq (by simp)
theorem run_size {t : TypeId} {e : TE} (h : TOk P t e) (w : World) : (sizeOf t).run P w = .ok e.size w := by
  obtain ⟨i, hi, hs, _⟩ := h.info
  simp [sizeOf, typeInfo, hi, hs]
theorem und_struct {t : TypeId} {e : TE} (h : TOk P t e) {fs : List (TypeId × Nat)} (he : e.ti = .struct fs) : ∃ fields, P.underlying t = some (.struct fields) ∧ fields.toList.map (fun f => (f.type, f.offset)) = fs := by
  obtain ⟨d, hd, hq⟩ := h.und
  rw [he] at hq
  cases d <;> simp [dEq] at hq
  exact ⟨_, hd, hq⟩
theorem und_slice {t : TypeId} {e : TE} (h : TOk P t e) {el : TypeId} (he : e.ti = .slice el) : P.underlying t = some (.slice el) := by
  obtain ⟨d, hd, hq⟩ := h.und
  rw [he] at hq
  cases d <;> simp [dEq] at hq
  subst hq; exact hd
theorem und_int {t : TypeId} {e : TE} (h : TOk P t e) {k : IntKind} (he : e.ti = .int k) : P.underlying t = some (.int k) := by
  obtain ⟨d, hd, hq⟩ := h.und
  rw [he] at hq
  cases d <;> simp [dEq] at hq
  rw [sameK_eq hq] at hd; exact hd
theorem und_map {t : TypeId} {e : TE} (h : TOk P t e) {k el : TypeId} (he : e.ti = .map k el) : P.underlying t = some (.map k el) := by
  obtain ⟨d, hd, hq⟩ := h.und
  rw [he] at hq
  cases d <;> simp [dEq] at hq
  obtain ⟨rfl, rfl⟩ := hq; exact hd
theorem und_arr {t : TypeId} {e : TE} (h : TOk P t e) {n : Nat} {el : TypeId} (he : e.ti = .arr n el) : P.underlying t = some (.array n el) := by
  obtain ⟨d, hd, hq⟩ := h.und
  rw [he] at hq
  cases d <;> simp [dEq] at hq
  obtain ⟨rfl, rfl⟩ := hq; exact hd
theorem und_str {t : TypeId} {e : TE} (h : TOk P t e) (he : e.ti = .str) : P.underlying t = some .string := by
  obtain ⟨d, hd, hq⟩ := h.und
  rw [he] at hq
  cases d <;> simp [dEq] at hq
  exact hd
theorem und_bool {t : TypeId} {e : TE} (h : TOk P t e) (he : e.ti = .bool) : P.underlying t = some .bool := by
  obtain ⟨d, hd, hq⟩ := h.und
  rw [he] at hq
  cases d <;> simp [dEq] at hq
  exact hd
theorem add_plain (b o j : Nat) : (⟨b, o, none⟩ : Addr).add j = ⟨b, o + j, none⟩ := by unfold Addr.add; split <;> simp_all
/-! ### loads -/
theorem run_loadVar {t : TypeId} {e : TE} (h : TOk P t e) (w : World) (b o : Nat) (f : Nat → Value) (hc : ∀ j, j < e.size → w.cell? ⟨b, o + j, none⟩ = some (f j)) :
    (loadVar t ⟨b, o, none⟩).run P w = .ok (if e.ti.isAgg then .agg ((List.range e.size).map f).toArray else f 0) w := by
  unfold loadVar
  rw [Sem.run_bind, run_isAgg h]
  simp only [Result.andThen_ok]
  cases ha : e.ti.isAgg with
  | true =>
    have hl := run_loadCells (P := P) w ⟨b, o, none⟩ e.size f (fun j hj => by rw [add_plain]; exact hc j hj)
    simp [run_size h, hl]
  | false =>
    obtain ⟨i, hi, hs, _, _, z, hz, hcs, _, h1, _⟩ := h.info
    have h0 := hc 0 (by rw [(h1 ha).2]; omega)
    simp only [Nat.add_zero] at h0
    simp [h0]
theorem VS.cells {own : Nat → Own} {F : Nat → Prop} {w : World} {x : SV} {v : Value} (h : VS own F w x v) (hl : x.cells.all SV.leaf = true) :
    v.cells.size = x.cells.length ∧ (∀ u ∈ v.cells.toList, u.oneCell' = true) ∧ ∀ (j : Nat) (y : SV) (u : Value), x.cells[j]? = some y → v.cells[j]? = some u → VS own F w y u := by
  have leaf1 : ∀ {x : SV} {v : Value}, VS own F w x v → x.leaf = true → v.oneCell' = true ∧ v.cells = #[v] ∧ x.cells = [x] := by
    intro x v h hx
    cases h with
    | t x v h =>
      cases h <;> first | exact ⟨rfl, rfl, rfl⟩ | (rename_i h; cases h <;> exact ⟨rfl, rfl, rfl⟩) | exact absurd hx (by simp [SV.leaf])
    | agg => exact absurd hx (by simp [SV.leaf])
    | tup => exact absurd hx (by simp [SV.leaf])
    | g => exact absurd hx (by simp [SV.leaf])
    | _ => exact ⟨rfl, rfl, rfl⟩
  have whole : ∀ {x : SV}, (∀ xs, x ≠ .agg xs) → (∀ xs, x ≠ .t (.agg xs)) → x.cells = [x] := by
    intro x h1 h2
    unfold SV.cells
    split
    · exact absurd rfl (h1 _)
    · exact absurd rfl (h2 _)
    · rfl
  by_cases hx1 : ∃ xs, x = .agg xs
  · obtain ⟨xs, rfl⟩ := hx1
    cases h with
    | agg _ vs hs h =>
      refine ⟨hs, ?_, h⟩
      intro u hu
      obtain ⟨j, hj⟩ := List.mem_iff_getElem?.1 hu
      have hlt : j < xs.length := by
        have := (List.getElem?_eq_some_iff.1 hj).1
        simp [Value.cells, hs] at this; exact this
      exact (leaf1 (h j xs[j] u (List.getElem?_eq_getElem hlt) (by simpa [Value.cells] using hj)) ((List.all_eq_true.1 hl) _ (List.getElem_mem hlt))).1
  · by_cases hx2 : ∃ xs, x = .t (.agg xs)
    · obtain ⟨xs, rfl⟩ := hx2
      cases h with
      | t _ _ h =>
        cases h with
        | agg _ vs hs h =>
          refine ⟨by simpa [SV.cells, Value.cells] using hs, ?_, ?_⟩
          · intro u hu
            obtain ⟨j, hj⟩ := List.mem_iff_getElem?.1 hu
            have hlt : j < xs.length := by
              have := (List.getElem?_eq_some_iff.1 hj).1
              simp [Value.cells, hs] at this; exact this
            exact (leaf1 (.t _ _ (h j xs[j] u (List.getElem?_eq_getElem hlt) (by simpa [Value.cells] using hj))) ((List.all_eq_true.1 hl) _ (by simp only [SV.cells]; exact List.mem_map.2 ⟨_, List.getElem_mem hlt, rfl⟩))).1
          · intro j y u hy hu
            simp only [SV.cells, List.getElem?_map] at hy
            cases hxj : xs[j]? with
            | none => simp [hxj] at hy
            | some z =>
              simp [hxj] at hy
              subst hy
              exact .t _ _ (h j z u hxj hu)
    · have hw := whole (fun xs e => hx1 ⟨xs, e⟩) (fun xs e => hx2 ⟨xs, e⟩)
      rw [hw] at hl ⊢
      simp only [List.all_cons, List.all_nil, Bool.and_true] at hl
      obtain ⟨h1, h2, _⟩ := leaf1 h hl
      rw [h2]
      refine ⟨rfl, by simpa using h1, ?_⟩
      intro j y u hy hu
      cases j with
      | zero => simp at hy hu; subst hy; subst hu; exact h
      | succ j => simp at hy
end
end Go.Proofs.Ytgladinljapmkaa.Am
