/- The data of the program's graphs as plain Lean, and how they lie in memory. -/
import Derived.Test.YtihebfhhnoneiaaAmLe
namespace Go.Proofs.Ytihebfhhnoneiaa.Am
set_option linter.unusedVariables false
set_option linter.unusedSimpArgs false

structure Ins where
  (op d a b f n : Int)
  (args arrs : List Int)
  deriving Inhabited, DecidableEq
structure Case where
  (n to : Int)
  deriving Inhabited, DecidableEq
structure End where
  (kind op a b n to els : Int)
  (cases : List Case)
  (targets : List Int)
  deriving Inhabited, DecidableEq
structure Arr where
  (kind n : Int)
  deriving Inhabited, DecidableEq
structure Block where
  (code : List Ins)
  (fin : End)
  deriving Inhabited, DecidableEq
structure Graph where
  (params : List Int)
  (temps : Int)
  (arrays : List Arr)
  (blocks : List Block)
  deriving Inhabited, DecidableEq
structure Module where
  (globals arrays : List Int)
  (funcs : List Graph)
  (main : Int)
  deriving Inhabited, DecidableEq

abbrev ti (n : Int) : T := .int .i64 n
abbrev tu (n : Int) : T := .int .u32 n
abbrev ilist (l : List Int) : T := .sl 1 (l.map fun n => .int .i64 n)
abbrev ulist (l : List Int) : T := .sl 1 (l.map fun n => .int .u32 n)
def Ins.t (x : Ins) : T := .agg [.int .i64 x.op, .int .i64 x.d, .int .i64 x.a, .int .i64 x.b, .int .i64 x.f, .int .u32 x.n, .sl 1 (x.args.map fun n => .int .i64 n), .sl 1 (x.arrs.map fun n => .int .i64 n)]
def Case.t (x : Case) : T := .agg [.int .u32 x.n, .int .i64 x.to]
def End.t (x : End) : T := .agg [.int .i64 x.kind, .int .i64 x.op, .int .i64 x.a, .int .i64 x.b, .int .u32 x.n, .int .i64 x.to, .int .i64 x.els, .sl 2 (x.cases.map Case.t), .sl 1 (x.targets.map fun n => .int .i64 n)]
def Arr.t (x : Arr) : T := .agg [.int .i64 x.kind, .int .i64 x.n]
def Block.t (x : Block) : T := .agg [.sl 8 (x.code.map Ins.t), .int .i64 x.fin.kind, .int .i64 x.fin.op, .int .i64 x.fin.a, .int .i64 x.fin.b, .int .u32 x.fin.n, .int .i64 x.fin.to, .int .i64 x.fin.els, .sl 2 (x.fin.cases.map Case.t), .sl 1 (x.fin.targets.map fun n => .int .i64 n)]
def Graph.t (x : Graph) : T := .agg [.sl 1 (x.params.map fun n => .int .i64 n), .int .i64 x.temps, .sl 2 (x.arrays.map Arr.t), .sl 10 (x.blocks.map Block.t)]
def Module.t (x : Module) : T := .agg [.sl 1 (x.globals.map fun n => .int .u32 n), .sl 1 (x.arrays.map fun n => .int .i64 n), .sl 4 (x.funcs.map Graph.t), .int .i64 x.main]

/-! Loops that count one variable up, where the memory of the call's own is told for each count. -/
def StR (st : Nat → Sto) (n : Nat) (R : Nat → Prop) (m : Nat) (vals : List SV) (σ2 : Sto) : Prop := ∃ i : Nat, σ2 = st i ∧ vals = [.t (.int .i64 i)] ∧ i ≤ n ∧ m = n - i ∧ R i
@[irreducible] def UpS (st : Nat → Sto) (n : Nat) (R : Nat → Prop) (lim : Nat) (vals : List SV) (σ2 : Sto) : Prop := ∃ m', m' < lim ∧ StR st n R m' vals σ2
@[irreducible] def UpSi (st : Nat → Sto) (n : Nat) (R : Nat → Prop) (vals : List SV) (σ2 : Sto) : Prop := ∃ m : Nat, StR st n R m vals σ2
theorem UpS.mk {st : Nat → Sto} {σ2 : Sto} {n : Nat} {R : Nat → Prop} {i : Nat} {x : Int} (h : Ob (i < n ∧ x = i + 1 ∧ σ2 = st (i + 1) ∧ R (i + 1))) : UpS st n R (n - i) [.t (.int .i64 x)] σ2 := by
  obtain ⟨h1, h2, h3, h4⟩ := h.out
  unfold UpS
  exact ⟨n - (i + 1), by omega, i + 1, h3, by rw [h2]; rfl, h1, rfl, h4⟩
theorem UpSi.mk {st : Nat → Sto} {σ2 : Sto} {n : Nat} {R : Nat → Prop} (h : Ob (σ2 = st 0 ∧ R 0)) : UpSi st n R [.t (.int .i64 0)] σ2 := by
  obtain ⟨h1, h2⟩ := h.out
  unfold UpSi
  exact ⟨n, 0, h1, rfl, Nat.zero_le _, rfl, h2⟩
theorem LoopVC.upS {env2 : Env} {body : (AX → Env → Sto → Prop) → Env → Sto → Prop} {Q : AX → Env → Sto → Prop} {env : Env} {σ : Sto} (s : Nat) (V : List (Nat × Nat × TypeId × Nat)) (n : Nat) (st : Nat → Sto) (R : Nat → Prop)
    (h0 : thawV V σ fun σ00 => adoptL [] σ00 fun σ0 => thaw [] [s] ([s].map env) σ0 fun vals σ1 => headSt σ.length vals σ1 fun vals σ2 => UpSi st n R vals σ2)
    (h1 : ∀ i : Nat, i ≤ n → R i → body (AX.seq (fun env1 σ1 => headSt σ.length ([s].map env1) σ1 fun vals σ2 => UpS st n R (n - i) vals σ2) Q) (setL [s] [.t (.int .i64 i)] (env2)) (st i)) : LoopVC env2 body Q env σ := by
  unfold UpSi at h0
  unfold UpS at h1
  refine LoopVC.mkA [s] [] V [] (StR st n R) h0 ?_
  rintro m vals σ' ⟨i, rfl, rfl, hi, rfl, hr⟩
  exact h1 i hi hr
/-! The same, where the memory of each count is told by a predicate. -/
def StP (n : Nat) (st : Nat → Sto → Prop) (m : Nat) (vals : List SV) (σ2 : Sto) : Prop := ∃ i : Nat, st i σ2 ∧ vals = [.t (.int .i64 i)] ∧ i ≤ n ∧ m = n - i
@[irreducible] def UpP (n : Nat) (st : Nat → Sto → Prop) (lim : Nat) (vals : List SV) (σ2 : Sto) : Prop := ∃ m', m' < lim ∧ StP n st m' vals σ2
@[irreducible] def UpPi (n : Nat) (st : Nat → Sto → Prop) (vals : List SV) (σ2 : Sto) : Prop := ∃ m : Nat, StP n st m vals σ2
theorem UpP.mk {st : Nat → Sto → Prop} {σ2 : Sto} {n : Nat} {i : Nat} {x : Int} (h : Ob (i < n ∧ x = i + 1 ∧ st (i + 1) σ2)) : UpP n st (n - i) [.t (.int .i64 x)] σ2 := by
  obtain ⟨h1, h2, h3⟩ := h.out
  unfold UpP
  exact ⟨n - (i + 1), by omega, i + 1, h3, by rw [h2]; rfl, h1, rfl⟩
theorem UpPi.mk {st : Nat → Sto → Prop} {σ2 : Sto} {n : Nat} (h : Ob (st 0 σ2)) : UpPi n st [.t (.int .i64 0)] σ2 := by
  unfold UpPi
  exact ⟨n, 0, h.out, rfl, Nat.zero_le _, rfl⟩
theorem LoopVC.upP {env2 : Env} {body : (AX → Env → Sto → Prop) → Env → Sto → Prop} {Q : AX → Env → Sto → Prop} {env : Env} {σ : Sto} (s : Nat) (V : List (Nat × Nat × TypeId × Nat)) (A : List Nat) (n : Nat) (st : Nat → Sto → Prop)
    (h0 : thawV V σ fun σ00 => adoptL A σ00 fun σ0 => thaw [] [s] ([s].map env) σ0 fun vals σ1 => headSt σ.length vals σ1 fun vals σ2 => UpPi n st vals σ2)
    (h1 : ∀ i : Nat, i ≤ n → ∀ σ', st i σ' → body (AX.seq (fun env1 σ1 => headSt σ.length ([s].map env1) σ1 fun vals σ2 => UpP n st (n - i) vals σ2) Q) (setL [s] [.t (.int .i64 i)] (env2)) σ') : LoopVC env2 body Q env σ := by
  unfold UpPi at h0
  unfold UpP at h1
  refine LoopVC.mkA [s] [] V A (StP n st) h0 ?_
  rintro m vals σ' ⟨i, hs, rfl, hi, rfl⟩
  exact h1 i hi σ' hs
theorem Flat.map {α : Type} {f : α → T} {l : List α} (h : ∀ a, (f a).cells.all noNst = true) : Flat (l.map f) := by
  intro y hy c hc
  obtain ⟨a, _, rfl⟩ := List.mem_map.1 hy
  exact List.all_eq_true.1 (h a) c hc
theorem flat_of {l : List T} (h : (l.all fun y => y.cells.all noNst) = true) : Flat l := fun y hy c hc => List.all_eq_true.1 (List.all_eq_true.1 h y hy) c hc
attribute [simp] els_len
theorem exE.setSame {xs : List T} {i : Nat} {y : T} {K : T → Prop} (hi : i < xs.length) (h : K y) : exE (xs.set i y) i K := exE.at (x := y) (by rw [nth_eq, List.getElem?_set_self hi]) h
theorem exE.setOther {xs : List T} {i j : Nat} {y : T} {K : T → Prop} (hi : i ≠ j) (h : exE xs j K) : exE (xs.set i y) j K := exE.mk fun x hx => h.out (by rw [nth_eq, List.getElem?_set_ne hi] at hx; rw [nth_eq]; exact hx)
/-- The first j of a list one way, the others another way. -/
def mixL {α : Type} (f g : α → T) (l : List α) (j : Nat) : List T := (l.take j).map f ++ (l.drop j).map g
theorem mixL_len {α : Type} {f g : α → T} {l : List α} {j : Nat} : (mixL f g l j).length = l.length := by unfold mixL; simp; omega
theorem mixL_zero {α : Type} {f g : α → T} {l : List α} : mixL f g l 0 = l.map g := by unfold mixL; simp
theorem mixL_full {α : Type} {f g : α → T} {l : List α} {j : Nat} (h : l.length ≤ j) : mixL f g l j = l.map f := by unfold mixL; rw [List.take_of_length_le h, List.drop_eq_nil_of_le h]; simp
theorem exE.mix {α : Type} [Inhabited α] {f g : α → T} {l : List α} {j i : Nat} {K : T → Prop} (he : i = j) (hj : j < l.length) (h : K (g (nthD l j))) : exE (mixL f g l j) i K := by
  subst he
  refine exE.at (x := g (nthD l i)) ?_ h
  unfold mixL
  rw [nth_eq, List.getElem?_append_right (by simp; omega), List.length_map, List.length_take, Nat.min_eq_left (by omega), Nat.sub_self, List.getElem?_map, List.getElem?_drop, Nat.add_zero, List.getElem?_eq_getElem hj, nthD_get hj]
  rfl
theorem Flat.nil : Flat [] := fun _ h => nomatch h
theorem bytes_le {l b n : Nat} (h : l ≤ n) (hb : Nat.ble (n * b) (2 ^ 47) = true) : l * b ≤ 2 ^ 47 := Nat.le_trans (Nat.mul_le_mul_right _ h) (Nat.le_of_ble_eq_true hb)
theorem bif_and (c x : Bool) : (bif c then x else false) = (c && x) := by cases c <;> rfl
theorem bif_or (c x : Bool) : (bif c then true else x) = (c || x) := by cases c <;> rfl
theorem take_succ_nthD {α : Type} [Inhabited α] {l : List α} {i : Nat} (h : i < l.length) : l.take (i + 1) = l.take i ++ [nthD l i] := by
  rw [nthD_get h, List.take_succ_eq_append_getElem h]
theorem mixL_set {α : Type} [Inhabited α] {f g : α → T} {l : List α} {j : Nat} (hj : j < l.length) : (mixL f g l j).set j (f (nthD l j)) = mixL f g l (j + 1) := by
  unfold mixL
  have h1 : ((l.take j).map f).length = j := by simp; omega
  rw [List.set_append, if_neg (by omega), h1, Nat.sub_self, List.drop_eq_getElem_cons hj, List.map_cons, List.set_cons_zero, take_succ_nthD hj, List.map_append, List.append_assoc]
  rfl
theorem all_take_succ {α : Type} [Inhabited α] {l : List α} {i : Nat} (p : α → Bool) (h : i < l.length) : (l.take (i + 1)).all p = ((l.take i).all p && p (nthD l i)) := by
  rw [take_succ_nthD h]; simp
theorem all_false_at {α : Type} [Inhabited α] {l : List α} {i : Nat} (p : α → Bool) (h : i < l.length) (hp : p (nthD l i) = false) : l.all p = false := by
  rw [List.all_eq_false]
  exact ⟨nthD l i, by rw [nthD_get h]; exact List.getElem_mem h, by simp [hp]⟩
theorem all_take_full {α : Type} {l : List α} {i : Nat} (p : α → Bool) (h : l.length ≤ i) (ha : (l.take i).all p = true) : l.all p = true := by
  rwa [List.take_of_length_le h] at ha

/-! ### what the small functions tell -/
def bel (n m : Int) : Bool := decide (0 ≤ n ∧ n < m)
def wthn (n l h : Int) : Bool := decide (l ≤ n ∧ n ≤ h)
theorem bel_iff {n m : Int} : bel n m = true ↔ 0 ≤ n ∧ n < m := by unfold bel; simp
theorem bel_not {n m : Int} : bel n m = false ↔ ¬ (0 ≤ n ∧ n < m) := by unfold bel; simp
theorem wthn_iff {n l h : Int} : wthn n l h = true ↔ l ≤ n ∧ n ≤ h := by unfold wthn; simp
theorem wthn_not {n l h : Int} : wthn n l h = false ↔ ¬ (l ≤ n ∧ n ≤ h) := by unfold wthn; simp
theorem bel_eq (n m : Int) : (bif leI 0 n then ltI n m else false) = bel n m := by
  unfold leI ltI bel
  by_cases h1 : 0 ≤ n <;> by_cases h2 : n < m <;> simp [h1, h2]
theorem wthn_eq (n l h : Int) : (bif leI l n then leI n h else false) = wthn n l h := by
  unfold leI wthn
  by_cases h1 : l ≤ n <;> by_cases h2 : n ≤ h <;> simp [h1, h2]
end Go.Proofs.Ytihebfhhnoneiaa.Am
