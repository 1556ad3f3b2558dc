/- Trees that say less of the same value: 'nil' is an empty slice. -/
import Derived.Test.YtihebfhhnoneiaaAmBody
namespace Go.Proofs.Ytihebfhhnoneiaa.Am
set_option linter.unusedVariables false
set_option linter.unusedSimpArgs false

inductive Le : T → T → Prop where
  | refl (x : T) : Le x x
  | nsl (sz : Nat) : Le .nsl (.sl sz [])
  | esl (sz : Nat) : Le .esl (.sl sz [])
  | any (x : T) : Le x .any
  | nst (E : TypeId) (sz : Nat) (xs ys : List T) (h : Le (.sl sz xs) (.sl sz ys)) : Le (.nst E sz xs) (.sl sz ys)
  | agg (xs ys : List T) (hl : xs.length = ys.length) (h : ∀ (i : Nat) (x y : T), xs[i]? = some x → ys[i]? = some y → Le x y) : Le (.agg xs) (.agg ys)
  | tup (xs ys : List T) (hl : xs.length = ys.length) (h : ∀ (i : Nat) (x y : T), xs[i]? = some x → ys[i]? = some y → Le x y) : Le (.tup xs) (.tup ys)
  | sl (sz : Nat) (xs ys : List T) (hl : xs.length = ys.length) (hz : ∀ y ∈ ys, y.cells.length = sz) (h : ∀ (i : Nat) (x y : T) (j : Nat) (c d : T), xs[i]? = some x → ys[i]? = some y → x.cells[j]? = some c → y.cells[j]? = some d → Le c d) : Le (.sl sz xs) (.sl sz ys)

inductive LeL : List T → List T → Prop where
  | nil : LeL [] []
  | cons {x y : T} {xs ys : List T} (h : Le x y) (hs : LeL xs ys) : LeL (x :: xs) (y :: ys)
theorem LeL.refl : ∀ xs, LeL xs xs
  | [] => .nil
  | x :: xs => .cons (.refl x) (LeL.refl xs)
theorem LeL.out {xs ys : List T} (h : LeL xs ys) : xs.length = ys.length ∧ ∀ (i : Nat) (x y : T), xs[i]? = some x → ys[i]? = some y → Le x y := by
  induction h with
  | nil => exact ⟨rfl, by simp⟩
  | cons h hs ih =>
    refine ⟨by simp [ih.1], fun i x y hx hy => ?_⟩
    cases i with
    | zero => simp at hx hy; subst hx hy; exact h
    | succ i => exact ih.2 i x y (by simpa using hx) (by simpa using hy)
theorem Le.aggL {xs ys : List T} (h : LeL xs ys) : Le (.agg xs) (.agg ys) := .agg _ _ h.out.1 h.out.2
theorem Le.tupL {xs ys : List T} (h : LeL xs ys) : Le (.tup xs) (.tup ys) := .tup _ _ h.out.1 h.out.2
theorem VT.le {F : Nat → Prop} {w : World} {x y : T} (h : Le x y) : ∀ {v : Value}, VT F w x v → VT F w y v := by
  induction h with
  | refl x => exact id
  | nsl sz => intro v h; cases h; exact .sl0 sz _ _
  | esl sz => intro v h; cases h; exact .sl0 sz _ _
  | any x => intro v _; exact .any v
  | nst E sz xs ys _ ih => intro v h; cases h with | nst _ _ _ _ h => exact ih h
  | agg xs ys hl _ ih =>
    intro v h
    cases h with
    | agg _ vs hs h =>
      refine .agg _ _ (by omega) fun i y v hy hv => ?_
      have hi := (List.getElem?_eq_some_iff.1 hy).1
      exact ih i _ y (List.getElem?_eq_getElem (by omega)) hy (h i _ v (List.getElem?_eq_getElem (by omega)) hv)
  | tup xs ys hl _ ih =>
    intro v h
    cases h with
    | tup _ vs hs h =>
      refine .tup _ _ (by omega) fun i y v hy hv => ?_
      have hi := (List.getElem?_eq_some_iff.1 hy).1
      exact ih i _ y (List.getElem?_eq_getElem (by omega)) hy (h i _ v (List.getElem?_eq_getElem (by omega)) hv)
  | sl sz xs ys hl hz _ ih =>
    intro v h
    cases h with
    | sl0 _ a c =>
      have : ys = [] := by cases ys with | nil => rfl | cons => simp at hl
      subst this
      exact .sl0 _ _ _
    | sl _ _ b off c vals hp hc hn hF hz' hcell h1 h =>
      rw [hl]
      refine .sl sz ys b off c vals (fun e => hp (by subst e; cases xs with | nil => rfl | cons => simp at hl)) (by omega) (by omega) hF hz (by rw [← hl]; exact hcell) (by rw [← hl]; exact h1) ?_
      intro i y j d hy hd
      have hi := (List.getElem?_eq_some_iff.1 hy).1
      have hj := (List.getElem?_eq_some_iff.1 hd).1
      have hx : xs[i]? = some (xs[i]'(by omega)) := List.getElem?_eq_getElem (by omega)
      have hxl := hz' _ (List.getElem_mem (show i < xs.length by omega))
      have hyl := hz y (List.mem_of_getElem? hy)
      exact ih i _ y j _ d hx hy (List.getElem?_eq_getElem (by omega)) hd (h i _ j _ hx (List.getElem?_eq_getElem (by omega)))

theorem Le.slmap {α : Type} {f g : α → T} {sz : Nat} {l : List α} (h : ∀ a, LeL (f a).cells (g a).cells) (hz : ∀ a, (g a).cells.length = sz) : Le (.sl sz (l.map f)) (.sl sz (l.map g)) := by
  refine .sl _ _ _ (by simp) (fun y hy => ?_) fun i x y j c d hx hy hc hd => ?_
  · obtain ⟨a, _, rfl⟩ := List.mem_map.1 hy
    exact hz a
  · rw [List.getElem?_map, Option.map_eq_some_iff] at hx hy
    obtain ⟨a, h1, rfl⟩ := hx
    obtain ⟨b, h2, rfl⟩ := hy
    rw [h1] at h2
    injection h2 with h2
    subst h2
    exact (h a).out.2 j c d hc hd

section
variable {P : Program}
theorem RT.le {F : Nat → Prop} {n : Nat} {w : World} {x y : T} {v : Value} (h : RT F n w x v) (hl : Le x y) : RT F n w y v := by
  cases x with
  | own z =>
    cases hl with
    | refl => exact h
    | any => exact .any v
  | _ => exact .of_VT (VT.le hl h)
theorem PCalls.le {f : FuncId} {ts : List T} {p q : T → Prop} (h : PCalls P f ts p) (k : ∀ r, p r → ∃ r', Le r r' ∧ q r') : PCalls P f ts q := by
  unfold PCalls at *
  refine ⟨h.1, ?_⟩
  intro F w vs h1 h2 h3
  refine (h.2 F w vs h1 h2 h3).mono ?_
  rintro e w' ⟨r, mv, F', h4, h5, h6, h7⟩
  obtain ⟨r', k1, k2⟩ := k r h5
  exact ⟨r', mv, F', h4, k2, h6.le k1, h7⟩
theorem PCalls.coarse {f : FuncId} {ts : List T} {x : T} (h : PCalls P f ts fun r => Le r x) : PCalls P f ts fun r => r = x := h.le fun r hr => ⟨x, hr, rfl⟩
theorem PCalls.args {f : FuncId} {ts ts' : List T} {p : T → Prop} (hl : ts.length = ts'.length) (hle : ∀ (i : Nat) (x y : T), ts[i]? = some x → ts'[i]? = some y → Le x y) (h : PCalls P f ts' p) : PCalls P f ts p := by
  unfold PCalls at *
  refine ⟨h.1, ?_⟩
  intro F w vs h1 h2 h3
  refine h.2 F w vs (by omega) ?_ h3
  intro i y v hy hv
  have hi := (List.getElem?_eq_some_iff.1 hy).1
  exact (h2 i _ v (List.getElem?_eq_getElem (by omega)) hv).le (hle i _ y (List.getElem?_eq_getElem (by omega)) hy)
theorem PCalls.argsL {f : FuncId} {ts ts' : List T} {p : T → Prop} (hl : LeL ts ts') (h : PCalls P f ts' p) : PCalls P f ts p := h.args hl.out.1 hl.out.2
end
end Go.Proofs.Ytihebfhhnoneiaa.Am
