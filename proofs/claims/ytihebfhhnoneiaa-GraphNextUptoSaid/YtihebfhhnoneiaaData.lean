/- The data of the program's graphs as plain Lean, and how they lie in memory. -/
import Derived.Test.YtihebfhhnoneiaaAmLe
namespace Go.Proofs.Ytihebfhhnoneiaa.Am
set_option linter.unusedVariables false
set_option linter.unusedSimpArgs false

structure Ins where
  (op d a b f n : Int)
  (args arrs : List Int)
  deriving Inhabited, DecidableEq
structure Case where
  (n to : Int)
  deriving Inhabited, DecidableEq
structure End where
  (kind op a b n to els : Int)
  (cases : List Case)
  (targets : List Int)
  deriving Inhabited, DecidableEq
structure Arr where
  (kind n : Int)
  deriving Inhabited, DecidableEq
structure Block where
  (code : List Ins)
  (fin : End)
  deriving Inhabited, DecidableEq
structure Graph where
  (params : List Int)
  (temps : Int)
  (arrays : List Arr)
  (blocks : List Block)
  deriving Inhabited, DecidableEq
structure Module where
  (globals arrays : List Int)
  (funcs : List Graph)
  (main : Int)
  deriving Inhabited, DecidableEq

abbrev ti (n : Int) : T := .int .i64 n
abbrev tu (n : Int) : T := .int .u32 n
abbrev ilist (l : List Int) : T := .sl 1 (l.map fun n => .int .i64 n)
abbrev ulist (l : List Int) : T := .sl 1 (l.map fun n => .int .u32 n)
def Ins.t (x : Ins) : T := .agg [.int .i64 x.op, .int .i64 x.d, .int .i64 x.a, .int .i64 x.b, .int .i64 x.f, .int .u32 x.n, .sl 1 (x.args.map fun n => .int .i64 n), .sl 1 (x.arrs.map fun n => .int .i64 n)]
def Case.t (x : Case) : T := .agg [.int .u32 x.n, .int .i64 x.to]
def End.t (x : End) : T := .agg [.int .i64 x.kind, .int .i64 x.op, .int .i64 x.a, .int .i64 x.b, .int .u32 x.n, .int .i64 x.to, .int .i64 x.els, .sl 2 (x.cases.map Case.t), .sl 1 (x.targets.map fun n => .int .i64 n)]
def Arr.t (x : Arr) : T := .agg [.int .i64 x.kind, .int .i64 x.n]
def Block.t (x : Block) : T := .agg [.sl 8 (x.code.map Ins.t), .int .i64 x.fin.kind, .int .i64 x.fin.op, .int .i64 x.fin.a, .int .i64 x.fin.b, .int .u32 x.fin.n, .int .i64 x.fin.to, .int .i64 x.fin.els, .sl 2 (x.fin.cases.map Case.t), .sl 1 (x.fin.targets.map fun n => .int .i64 n)]
def Graph.t (x : Graph) : T := .agg [.sl 1 (x.params.map fun n => .int .i64 n), .int .i64 x.temps, .sl 2 (x.arrays.map Arr.t), .sl 10 (x.blocks.map Block.t)]
def Module.t (x : Module) : T := .agg [.sl 1 (x.globals.map fun n => .int .u32 n), .sl 1 (x.arrays.map fun n => .int .i64 n), .sl 4 (x.funcs.map Graph.t), .int .i64 x.main]

theorem bytes_le {l b n : Nat} (h : l ≤ n) (hb : Nat.ble (n * b) (2 ^ 47) = true) : l * b ≤ 2 ^ 47 := Nat.le_trans (Nat.mul_le_mul_right _ h) (Nat.le_of_ble_eq_true hb)
theorem bif_and (c x : Bool) : (bif c then x else false) = (c && x) := by cases c <;> rfl
theorem bif_or (c x : Bool) : (bif c then true else x) = (c || x) := by cases c <;> rfl
theorem take_succ_nthD {α : Type} [Inhabited α] {l : List α} {i : Nat} (h : i < l.length) : l.take (i + 1) = l.take i ++ [nthD l i] := by
  rw [nthD_get h, List.take_succ_eq_append_getElem h]
theorem all_take_succ {α : Type} [Inhabited α] {l : List α} {i : Nat} (p : α → Bool) (h : i < l.length) : (l.take (i + 1)).all p = ((l.take i).all p && p (nthD l i)) := by
  rw [take_succ_nthD h]; simp
theorem all_false_at {α : Type} [Inhabited α] {l : List α} {i : Nat} (p : α → Bool) (h : i < l.length) (hp : p (nthD l i) = false) : l.all p = false := by
  rw [List.all_eq_false]
  exact ⟨nthD l i, by rw [nthD_get h]; exact List.getElem_mem h, by simp [hp]⟩
theorem all_take_full {α : Type} {l : List α} {i : Nat} (p : α → Bool) (h : l.length ≤ i) (ha : (l.take i).all p = true) : l.all p = true := by
  rwa [List.take_of_length_le h] at ha

/-! ### what the small functions tell -/
def bel (n m : Int) : Bool := decide (0 ≤ n ∧ n < m)
def wthn (n l h : Int) : Bool := decide (l ≤ n ∧ n ≤ h)
theorem bel_iff {n m : Int} : bel n m = true ↔ 0 ≤ n ∧ n < m := by unfold bel; simp
theorem bel_not {n m : Int} : bel n m = false ↔ ¬ (0 ≤ n ∧ n < m) := by unfold bel; simp
theorem wthn_iff {n l h : Int} : wthn n l h = true ↔ l ≤ n ∧ n ≤ h := by unfold wthn; simp
theorem wthn_not {n l h : Int} : wthn n l h = false ↔ ¬ (l ≤ n ∧ n ≤ h) := by unfold wthn; simp
theorem bel_eq (n m : Int) : (bif leI 0 n then ltI n m else false) = bel n m := by
  unfold leI ltI bel
  by_cases h1 : 0 ≤ n <;> by_cases h2 : n < m <;> simp [h1, h2]
theorem wthn_eq (n l h : Int) : (bif leI l n then leI n h else false) = wthn n l h := by
  unfold leI wthn
  by_cases h1 : l ≤ n <;> by_cases h2 : n ≤ h <;> simp [h1, h2]
end Go.Proofs.Ytihebfhhnoneiaa.Am
