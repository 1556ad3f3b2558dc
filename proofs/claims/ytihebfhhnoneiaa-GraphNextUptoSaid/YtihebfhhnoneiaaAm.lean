/- The abstract machine: data as trees, memory of the call's own as a list of objects, and the conditions under which a Go function's code does what is said of it, reckoned from the code. -/
import Derived.Calls
import Derived.KernelRfl
import Derived.Below
import Derived.WalkKit
namespace Go.Proofs.Ytihebfhhnoneiaa.Am
set_option linter.unusedVariables false
set_option linter.unusedSimpArgs false

/-- Data that nobody writes any more. -/
inductive T where
  | bool (b : Bool)
  | int (k : IntKind) (n : Int)
  | str (s : ByteArray)
  | agg (xs : List T)
  | tup (xs : List T)
  | sl (sz : Nat) (xs : List T)
  | nsl
  | esl
  | ptr (cs : List T)
  | nptr
  | fn (f : FuncId) (cap : List T)
  | nfn
  | iface (t : TypeId) (x : T)
  | nif
  | map (kk : IntKind) (es : List (Int × T))
  | any
  | own (E : TypeId) (x : T)
  | box (x : T)
  deriving Inhabited

def T.cells : T → List T
  | .agg xs => xs
  | x => [x]

/-- A constant of the code. -/
def T.ofVal : Value → T
  | .bool b => .bool b
  | .int k n => .int k n
  | .string s => .str s
  | .slice none 0 0 => .nsl
  | .pointer none => .nptr
  | .nilFunc => .nfn
  | .nilIface => .nif
  | _ => .any

/-- What a variable of the running call holds. -/
inductive SV where
  | t (x : T)
  | loc (k i off : Nat)
  | osl (k off len : Nat)
  | agg (xs : List SV)
  | tup (xs : List SV)
  | fn (f : FuncId) (cap : List SV)
  | map (k : Nat)
  | g (c : Bool) (v : SV)
  deriving Inhabited

def SV.any : SV := .t .any

def SV.cells : SV → List SV
  | .agg xs => xs
  | .t (.agg xs) => xs.map .t
  | x => [x]

/-- One cell's value. -/
def SV.leaf : SV → Bool
  | .t (.agg _) | .t (.tup _) | .t .any | .agg _ | .tup _ | .g .. => false
  | _ => true

/-- An object of the call's own. -/
inductive SObj where
  | var (E : TypeId) (cs : List SV)
  | row (E : TypeId) (sz : Nat) (ts : List T)
  | map (kk : IntKind) (es : List (Int × T))
  | dead
  deriving Inhabited

/-! ### types -/
inductive TI where
  | bool
  | int (k : IntKind)
  | str
  | slice (e : TypeId)
  | arr (n : Nat) (e : TypeId)
  | struct (fs : List (TypeId × Nat))
  | ptr (e : TypeId)
  | fn
  | map (k e : TypeId)
  | iface
  | other
  deriving Inhabited
structure TE where
  ti : TI
  size : Nat
  bytes : Nat
  zero : List T
  cmp : Bool
  deriving Inhabited
abbrev Tab := List TE
def nth {α : Type} : List α → Nat → Option α
  | [], _ => none
  | x :: _, 0 => some x
  | _ :: xs, n + 1 => nth xs n
def Tab.at (tt : Tab) (t : TypeId) : TE := (nth tt t).getD ⟨.other, 0, 0, [], false⟩

def TI.isAgg : TI → Bool
  | .struct _ => true
  | .arr .. => true
  | _ => false
/-- Types whose values are told. -/
def TI.good : TI → Bool
  | .other => false
  | _ => true

abbrev Env := Nat → SV
abbrev Sto := List SObj
def upd (env : Env) (d : Nat) (v : SV) : Env := fun j => bif Nat.beq j d then v else env j

def ev (env : Env) : Operand → SV
  | .tmp t => env t
  | .const v => .t (T.ofVal v)
  | .func f => .fn f []
  | .global _ => .any

@[irreducible] def Ob (p : Prop) : Prop := p
theorem Ob.mk {p : Prop} (h : p) : Ob p := by unfold Ob; exact h
theorem Ob.out {p : Prop} (h : Ob p) : p := by unfold Ob at h; exact h
@[irreducible] def Dn (p : Prop) : Prop := p
theorem Dn.mk {p : Prop} (h : p) : Dn p := by unfold Dn; exact h
theorem Dn.out {p : Prop} (h : Dn p) : p := by unfold Dn at h; exact h

@[irreducible] def ltI (x y : Int) : Bool := decide (x < y)
@[irreducible] def leI (x y : Int) : Bool := decide (x ≤ y)
@[irreducible] def eqI (x y : Int) : Bool := x == y
@[irreducible] def addI (k : IntKind) (x y : Int) : Int := k.wrap (x + y)
@[irreducible] def subI (k : IntKind) (x y : Int) : Int := k.wrap (x - y)
@[irreducible] def mulI (k : IntKind) (x y : Int) : Int := k.wrap (x * y)
@[irreducible] def quoI (k : IntKind) (x y : Int) : Int := k.wrap (x.tdiv y)
@[irreducible] def remI (x y : Int) : Int := x.tmod y
@[irreducible] def cvtI (k : IntKind) (x : Int) : Int := k.wrap x
@[irreducible] def eqS (x y : ByteArray) : Bool := x.toList == y.toList
theorem ltI_iff {x y : Int} : ltI x y = true ↔ x < y := by unfold ltI; simp
theorem leI_iff {x y : Int} : leI x y = true ↔ x ≤ y := by unfold leI; simp
theorem eqI_iff {x y : Int} : eqI x y = true ↔ x = y := by unfold eqI; simp
theorem ltI_not {x y : Int} : ltI x y = false ↔ y ≤ x := by unfold ltI; simp
theorem leI_not {x y : Int} : leI x y = false ↔ y < x := by unfold leI; simp
theorem eqI_not {x y : Int} : eqI x y = false ↔ x ≠ y := by unfold eqI; simp
theorem addI_i64 {x y : Int} (h1 : -9223372036854775808 ≤ x + y) (h2 : x + y ≤ 9223372036854775807) : addI .i64 x y = x + y := by
  unfold addI; simp only [IntKind.wrap, IntKind.bits, IntKind.signed]; simp; omega
theorem subI_i64 {x y : Int} (h1 : -9223372036854775808 ≤ x - y) (h2 : x - y ≤ 9223372036854775807) : subI .i64 x y = x - y := by
  unfold subI; simp only [IntKind.wrap, IntKind.bits, IntKind.signed]; simp; omega

/-- A guarded operation: its value, where it is done; and what goes on. -/
@[irreducible] def exG (gc : Bool) (p q : SV → Prop) : Prop := ∃ v, (gc = true → p v) ∧ q v
theorem exG.mk {gc : Bool} {p q : SV → Prop} (v : SV) (h1 : gc = true → p v) (h2 : q v) : exG gc p q := by unfold exG; exact ⟨v, h1, h2⟩
theorem exG.out {gc : Bool} {p q : SV → Prop} (h : exG gc p q) : ∃ v, (gc = true → p v) ∧ q v := by unfold exG at h; exact h
@[irreducible] def exQ (p q : SV → Prop) : Prop := ∃ v, p v ∧ q v
theorem exQ.mk {p q : SV → Prop} (v : SV) (h1 : p v) (h2 : q v) : exQ p q := by unfold exQ; exact ⟨v, h1, h2⟩
theorem exQ.out {p q : SV → Prop} (h : exQ p q) : ∃ v, p v ∧ q v := by unfold exQ at h; exact h
/-- An element of a list. -/
@[irreducible] def exE (xs : List T) (i : Nat) (K : T → Prop) : Prop := ∀ x, nth xs i = some x → K x
theorem exE.mk {xs : List T} {i : Nat} {K : T → Prop} (h : ∀ x, nth xs i = some x → K x) : exE xs i K := by unfold exE; exact h
theorem exE.out {xs : List T} {i : Nat} {K : T → Prop} (h : exE xs i K) {x : T} (hx : nth xs i = some x) : K x := by unfold exE at h; exact h x hx
theorem nth_eq {α : Type} : ∀ (l : List α) (i : Nat), nth l i = l[i]?
  | [], _ => by simp [nth]
  | _ :: _, 0 => rfl
  | _ :: xs, n + 1 => by simp [nth, nth_eq xs n]
theorem exE.map {α : Type} {f : α → T} {bs : List α} {i : Nat} {K : T → Prop} (h : ∀ b, bs[i]? = some b → K (f b)) : exE (bs.map f) i K := by
  refine exE.mk fun x hx => ?_
  rw [nth_eq, List.getElem?_map] at hx
  cases hb : bs[i]? with
  | none => simp [hb] at hx
  | some b => simp [hb] at hx; subst hx; exact h b hb
@[irreducible] def nthD {α : Type} [Inhabited α] (l : List α) (i : Nat) : α := (l[i]?).getD default
theorem nthD_eq {α : Type} [Inhabited α] {l : List α} {i : Nat} {x : α} (h : l[i]? = some x) : nthD l i = x := by unfold nthD; rw [h]; rfl
theorem nthD_get {α : Type} [Inhabited α] {l : List α} {i : Nat} (h : i < l.length) : nthD l i = l[i] := nthD_eq (List.getElem?_eq_getElem h)
theorem exE.mapD {α : Type} [Inhabited α] {f : α → T} {bs : List α} {i : Nat} {K : T → Prop} (h : K (f (nthD bs i))) : exE (bs.map f) i K := by
  refine exE.mk fun x hx => ?_
  rw [nth_eq, List.getElem?_map] at hx
  cases hb : bs[i]? with
  | none => simp [hb] at hx
  | some b => simp [hb] at hx; subst hx; rwa [nthD_eq hb] at h
theorem exE.at {xs : List T} {i : Nat} {x : T} {K : T → Prop} (hx : nth xs i = some x) (h : K x) : exE xs i K := by
  refine exE.mk fun y hy => ?_
  rw [hx] at hy
  cases hy
  exact h
def sameK : IntKind → IntKind → Bool
  | .i8, .i8 | .i16, .i16 | .i32, .i32 | .i64, .i64 | .u8, .u8 | .u16, .u16 | .u32, .u32 | .u64, .u64 => true
  | _, _ => false

abbrev onBool (c : Bool) (p q : Prop) : Prop := match c with | true => p | false => q

/-- A value taken apart at its head, ahead of going on. -/
def force1 (x : T) (K : T → Prop) : Prop := match x with
  | .bool b => K (.bool b) | .int k n => K (.int k n) | .str s => K (.str s) | .agg xs => K (.agg xs) | .tup xs => K (.tup xs) | .sl sz xs => K (.sl sz xs)
  | .nsl => K .nsl | .esl => K .esl | .ptr cs => K (.ptr cs) | .nptr => K .nptr | .fn f c => K (.fn f c) | .nfn => K .nfn | .iface t x => K (.iface t x) | .nif => K .nif | .map kk es => K (.map kk es) | .any => K .any | .own E x => K (.own E x) | .box x => K (.box x)
def forceTs : List T → (List T → Prop) → Prop
  | [], K => K []
  | x :: xs, K => force1 x fun x => forceTs xs fun xs => K (x :: xs)
def forceT (x : T) (K : T → Prop) : Prop := match x with
  | .bool b => K (.bool b) | .int k n => K (.int k n) | .str s => K (.str s) | .agg xs => forceTs xs fun xs => K (.agg xs) | .tup xs => forceTs xs fun xs => K (.tup xs) | .sl sz xs => K (.sl sz xs)
  | .nsl => K .nsl | .esl => K .esl | .ptr cs => forceTs cs fun cs => K (.ptr cs) | .nptr => K .nptr | .fn f c => forceTs c fun c => K (.fn f c) | .nfn => K .nfn | .iface t x => K (.iface t x) | .nif => K .nif | .map kk es => K (.map kk es) | .any => K .any | .own E x => K (.own E x) | .box x => K (.box x)
def forceS1 (v : SV) (K : SV → Prop) : Prop := match v with
  | .t x => force1 x fun x => K (.t x)
  | .loc k i off => K (.loc k i off) | .osl k off len => K (.osl k off len) | .agg xs => K (.agg xs) | .tup xs => K (.tup xs) | .fn f c => K (.fn f c) | .map k => K (.map k) | .g c v => K (.g c v)
def forceSs : List SV → (List SV → Prop) → Prop
  | [], K => K []
  | x :: xs, K => forceS1 x fun x => forceSs xs fun xs => K (x :: xs)
def force (v : SV) (K : SV → Prop) : Prop := match v with
  | .t x => forceT x fun x => K (.t x)
  | .loc k i off => K (.loc k i off) | .osl k off len => K (.osl k off len) | .agg xs => forceSs xs fun xs => K (.agg xs) | .tup xs => forceSs xs fun xs => K (.tup xs) | .fn f c => forceSs c fun c => K (.fn f c) | .map k => K (.map k) | .g c v => K (.g c v)
def forceO (o : SObj) (K : SObj → Prop) : Prop := match o with
  | .var E cs => forceSs cs fun cs => K (.var E cs)
  | .row E sz ts => K (.row E sz ts)
  | .map kk es => K (.map kk es)
  | .dead => K .dead
def forceSto : List SObj → (List SObj → Prop) → Prop
  | [], K => K []
  | o :: os, K => forceO o fun o => forceSto os fun os => K (o :: os)

/-- A value of a type out of its cells. -/
def mkT (agg : Bool) (size : Nat) (cs : List T) : T := bif agg then .agg (cs.take size) else cs.headD .any
def mkS (agg : Bool) (size : Nat) (cs : List SV) : SV := bif agg then .agg (cs.take size) else cs.headD .any

/-! ### freezing: what is of the call's own, as it now stands -/
def mapO {α β : Type} (f : α → Option β) : List α → Option (List β)
  | [] => some []
  | x :: xs => match f x with | none => none | some y => match mapO f xs with | none => none | some ys => some (y :: ys)

def frz : Nat → Sto → SV → Option T
  | _, _, .t x => some x
  | 0, _, _ => none
  | n + 1, σ, .agg xs => match mapO (frz n σ) xs with | some ts => some (.agg ts) | none => none
  | n + 1, σ, .tup xs => match mapO (frz n σ) xs with | some ts => some (.tup ts) | none => none
  | n + 1, σ, .fn f xs => match mapO (frz n σ) xs with | some ts => some (.fn f ts) | none => none
  | n + 1, σ, .loc k i off => match nth σ k with
    | some (.var _ cs) => match i, mapO (frz n σ) cs with | 0, some ts => some (.ptr (ts.drop off)) | _, _ => none
    | _ => none
  | n + 1, σ, .osl k off len => match nth σ k with
    | some (.row _ sz ts) => some (.sl sz ((ts.drop off).take len))
    | _ => none
  | n + 1, σ, .map k => match nth σ k with
    | some (.map kk es) => some (.map kk es)
    | _ => none
  | _, _, .g .. => none
/-- The objects that a value leads to. -/
def ids : Nat → Sto → SV → List Nat
  | _, _, .t _ => []
  | 0, _, _ => []
  | n + 1, σ, .agg xs | n + 1, σ, .tup xs | n + 1, σ, .fn _ xs => xs.flatMap (ids n σ)
  | n + 1, σ, .loc k i off => k :: match nth σ k with
    | some (.var _ cs) => cs.flatMap (ids n σ)
    | _ => []
  | _ + 1, _, .osl k off len => [k]
  | _ + 1, _, .map k => [k]
  | _, _, .g .. => []
def frzL (σ : Sto) (xs : List SV) : Option (List T) := mapO (frz 20 σ) xs
def kills : List Nat → Sto → Sto
  | [], σ => σ
  | k :: ks, σ => kills ks (σ.set k .dead)
/-- No memory in it. -/
def T.plain : T → Bool
  | .bool _ | .int .. | .str _ | .nsl | .nptr | .nfn | .nif => true
  | _ => false
def T.flat : T → Bool
  | .agg xs | .tup xs => xs.all T.plain
  | x => x.plain

/-! ### operations -/
def intOp (op : BinOp) (k : IntKind) (x y : Int) (K : T → Prop) : Prop :=
  match op with
  | .add => K (.int k (addI k x y))
  | .sub => K (.int k (subI k x y))
  | .mul => K (.int k (mulI k x y))
  | .quo => Ob (y ≠ 0) ∧ K (.int k (quoI k x y))
  | .rem => Ob (y ≠ 0) ∧ K (.int k (remI x y))
  | .eql => K (.bool (eqI x y))
  | .neq => K (.bool (!eqI x y))
  | .lss => K (.bool (ltI x y))
  | .leq => K (.bool (leI x y))
  | .gtr => K (.bool (ltI y x))
  | .geq => K (.bool (leI y x))
  | _ => False

/-- Are two values the same, by parts? -/
def eqT1 (ti : TI) (x y : T) : Option Bool := match ti, x, y with
  | .int _, .int j a, .int k b => bif sameK j k then some (eqI a b) else none
  | .bool, .bool a, .bool b => some (a == b)
  | .str, .str a, .str b => some (eqS a b)
  | _, _, _ => none
def eqF (tt : Tab) : List (TypeId × Nat) → List T → List T → Option Bool
  | [], [], [] => some true
  | [f], [x], [y] => eqT1 (tt.at f.1).ti x y
  | f :: fs, x :: xs, y :: ys => match eqT1 (tt.at f.1).ti x y, eqF tt fs xs ys with | some a, some b => some (a && b) | _, _ => none
  | _, _, _ => none

def binT (tt : Tab) (op : BinOp) (t : TypeId) (x y : T) (K : T → Prop) : Prop :=
  match x, y with
  | .int k a, .int k' b => bif sameK k k' then intOp op k a b K else False
  | .bool a, .bool b => bif (match (tt.at t).ti with | .bool => true | _ => false) then (match op with | .eql => K (.bool (a == b)) | .neq => K (.bool (!(a == b))) | _ => False) else False
  | .str a, .str b => match op with | .eql => K (.bool (eqS a b)) | .neq => K (.bool (!eqS a b)) | _ => False
  | .agg xs, .agg ys => bif (tt.at t).cmp then (match (tt.at t).ti with
    | .struct fs => (match eqF tt fs xs ys with
      | some b => match op with | .eql => K (.bool b) | .neq => K (.bool (!b)) | _ => False
      | none => False)
    | _ => False) else False
  | .sl _ xs, .nsl => bif (match (tt.at t).ti with | .slice _ => true | _ => false) then (match op with | .eql => ∀ b, (xs ≠ [] → b = false) → K (.bool b) | .neq => ∀ b, (xs ≠ [] → b = true) → K (.bool b) | _ => False) else False
  | _, _ => False

def normS (v : SV) : SV := match v with
  | .agg xs => match mapO (fun | .t x => some x | _ => none) xs with | some ts => .t (.agg ts) | none => v
  | _ => v

/-- THE CONTRACT OF A FUNCTION whose arguments nobody writes, and whose result is nobody's but the caller's: whatever may be read is read as these trees, the call returns, what was there stands, and the result reads as a tree of which 'post' holds. -/
def Contract := Program → FuncId → List T → (T → Prop) → Prop

variable (C : FuncId → List T → (T → Prop) → Prop) (tt : Tab)

def fieldOf (t : TypeId) (f : Nat) : TypeId × Nat := match (tt.at t).ti with | .struct fs => (nth fs f).getD (0, 0) | _ => (0, 0)
def hasField (t : TypeId) (f : Nat) : Bool := match (tt.at t).ti with
  | .struct fs => (match nth fs f with | some x => (tt.at x.1).ti.good && Nat.blt 0 (tt.at x.1).size | none => false)
  | _ => false
def liveAt (σ : Sto) (k : Nat) : Bool := match nth σ k with | some (.var ..) => true | some (.row ..) => true | _ => false

def loadOp (t : TypeId) (x : SV) (σ : Sto) (K : SV → Prop) : Prop :=
  let e := tt.at t
  bif e.ti.good then match x with
  | .t (.ptr cs) => Ob (e.size ≤ cs.length) ∧ K (.t (mkT e.ti.isAgg e.size cs))
  | .loc k i off => match nth σ k with
    | some (.var _ cs) => Ob (i = 0) ∧ Ob (off + e.size ≤ cs.length) ∧ K (mkS e.ti.isAgg e.size (cs.drop off))
    | some (.row _ sz ts) => Ob (i < ts.length) ∧ Ob (off + e.size ≤ sz) ∧ exE ts i fun x => K (.t (mkT e.ti.isAgg e.size (x.cells.drop off)))
    | _ => False
  | _ => False
  else False

def setCells (cs : List SV) (off : Nat) (vs : List SV) : List SV := cs.take off ++ vs ++ cs.drop (off + vs.length)
def setT (sz : Nat) (x : T) (off : Nat) (vs : List T) : T := bif Nat.beq sz 1 then vs.headD .any else .agg (x.cells.take off ++ vs ++ x.cells.drop (off + vs.length))

def storeOp (t : TypeId) (x v : SV) (σ : Sto) (K : Sto → Prop) : Prop :=
  let e := tt.at t
  bif e.ti.good && v.cells.all SV.leaf then match x with
  | .loc k i off => match nth σ k with
    | some (.var E cs) => Ob (i = 0) ∧ Ob (v.cells.length = e.size) ∧ Ob (off + e.size ≤ cs.length) ∧ forceSto (σ.set k (.var E (setCells cs off v.cells))) K
    | some (.row E sz ts) => Ob (i < ts.length) ∧ Ob (v.cells.length = e.size) ∧ Ob (off + e.size ≤ sz) ∧ match frz 20 σ v with
      | some x => bif (ids 20 σ v).contains k then False else exE ts i fun y => forceSto ((kills (ids 20 σ v) σ).set k (.row E sz (ts.set i (setT sz y off x.cells)))) K
      | none => False
    | _ => False
  | _ => False
  else False

def lenOp (ti : TI) (x : SV) (σ : Sto) (K : SV → Prop) : Prop :=
  match ti, x with
  | .slice _, .t (.sl _ xs) => xs.length ≤ 2 ^ 48 → K (.t (.int .i64 xs.length))
  | .slice _, .t .nsl => K (.t (.int .i64 0))
  | .slice _, .t .esl => K (.t (.int .i64 0))
  | .str, .t (.str s) => K (.t (.int .i64 s.size))
  | .slice _, .osl k _ len => bif liveAt σ k then len ≤ 2 ^ 48 → K (.t (.int .i64 len)) else False
  | .map .., .map k => match nth σ k with | some (.map _ es) => K (.t (.int .i64 es.length)) | _ => False
  | _, _ => False

/-- What is appended. -/
def srcOf (esz : Nat) (σ : Sto) : SV → Option (List T)
  | .t (.sl sz ys) => bif Nat.beq sz esz then some ys else none
  | .t .nsl => some []
  | .t .esl => some []
  | .osl k off len => match nth σ k with | some (.row _ sz ts) => bif Nat.beq sz esz then some ((ts.drop off).take len) else none | _ => none
  | _ => none

def appendOp (E : TypeId) (x y : SV) (σ : Sto) (K : SV → Sto → Prop) : Prop :=
  let e := tt.at E
  bif e.ti.good && Nat.blt 0 e.size then match srcOf e.size σ y with
  | none => False
  | some ys => match x with
    | .t .nsl => Ob (ys.length * e.bytes ≤ 2 ^ 47) ∧ Ob (ys.length ≤ 2 ^ 48) ∧ forceSto (σ ++ [.row E e.size ys]) (K (.osl σ.length 0 ys.length))
    | .t .esl => Ob (ys.length * e.bytes ≤ 2 ^ 47) ∧ Ob (ys.length ≤ 2 ^ 48) ∧ forceSto (σ ++ [.row E e.size ys]) (K (.osl σ.length 0 ys.length))
    | .osl k off len => match nth σ k with
      | some (.row E' sz ts) => Ob (E' = E ∧ sz = e.size) ∧ Ob (off = 0 ∧ len = ts.length) ∧ Ob ((len + ys.length) * e.bytes ≤ 2 ^ 47) ∧ Ob (len + ys.length ≤ 2 ^ 48) ∧
          forceSto (σ.set k .dead ++ [.row E e.size (ts ++ ys)]) (K (.osl σ.length 0 (len + ys.length)))
      | _ => False
    | _ => False
  else False

/-- The entry of a key, where keys are whole numbers. -/
def look (n : Int) : List (Int × T) → Option T
  | [] => none
  | (m, v) :: es => if m = n then some v else look n es
def putE (n : Int) (v : T) : List (Int × T) → List (Int × T)
  | [] => [(n, v)]
  | (m, u) :: es => if m = n then (n, v) :: es else (m, u) :: putE n v es

/-- An entry's value. (A structure: neither Lean nor its kernel looks through it.) -/
structure exL (es : List (Int × T)) (n : Int) (z : T) (K : T → Prop) : Prop where
  out : K ((look n es).getD z)
/-- Maps of counters. -/
@[irreducible] def lookC (n : Int) (kc : List (Int × Int)) : Int := ((kc.find? fun p => decide (p.1 = n)).map (·.2)).getD 0
theorem exL.int {k : IntKind} {kc : List (Int × Int)} {n : Int} {K : T → Prop} (h : K (.int k (lookC n kc))) : exL (kc.map fun p => (p.1, .int k p.2)) n (.int k 0) K := by
  refine ⟨?_⟩
  have : (look n (kc.map fun p => (p.1, T.int k p.2))).getD (.int k 0) = .int k (lookC n kc) := by
    clear h
    unfold lookC
    induction kc with
    | nil => rfl
    | cons p kc ih =>
      simp only [List.map_cons, look, List.find?_cons]
      by_cases hp : p.1 = n
      · simp [hp]
      · simp only [if_neg hp, hp, decide_false]
        exact ih
  rw [this]; exact h
theorem putE_int {k : IntKind} {n c : Int} : ∀ {kc : List (Int × Int)}, ∃ kc' : List (Int × Int), putE n (.int k c) (kc.map fun p => (p.1, T.int k p.2)) = kc'.map (fun p => (p.1, T.int k p.2)) ∧
    (∀ m, m ∈ kc'.map (·.1) ↔ m = n ∨ m ∈ kc.map (·.1)) ∧ (n ∈ kc.map (·.1) → kc'.length = kc.length) ∧ (n ∉ kc.map (·.1) → kc'.length = kc.length + 1)
  | [] => ⟨[(n, c)], rfl, by simp, by simp, by simp⟩
  | p :: kc => by
    simp only [List.map_cons, putE]
    by_cases hp : p.1 = n
    · rw [if_pos hp]
      exact ⟨(n, c) :: kc, rfl, by simp [hp], by simp, by simp [hp]⟩
    · rw [if_neg hp]
      obtain ⟨kc', h1, h2, h3, h4⟩ := putE_int (k := k) (n := n) (c := c) (kc := kc)
      refine ⟨p :: kc', by rw [h1]; rfl, ?_, ?_, ?_⟩
      · intro m
        simp only [List.map_cons, List.mem_cons, h2]
        constructor
        · rintro (h | h | h)
          · exact .inr (.inl h)
          · exact .inl h
          · exact .inr (.inr h)
        · rintro (h | h | h)
          · exact .inr (.inl h)
          · exact .inl h
          · exact .inr (.inr h)
      · intro h
        simp only [List.map_cons, List.mem_cons] at h
        rcases h with h | h
        · exact absurd h.symm hp
        · simp [h3 h]
      · intro h
        simp only [List.map_cons, List.mem_cons, not_or] at h
        simp [h4 h.2]

/-- '&&', '||': what was guarded is asked only where the guard held. -/
def pickOp (c : Bool) (a b : SV) (K : SV → Prop) : Prop :=
  match a, b with
  | .t (.bool x), .t (.bool y) => K (.t (.bool (cond c x y)))
  | .g e (.t (.bool x)), .t (.bool y) => Ob (c = true → e = true) ∧ K (.t (.bool (cond c x y)))
  | .t (.bool x), .g e (.t (.bool y)) => Ob (c = false → e = true) ∧ K (.t (.bool (cond c x y)))
  | .g e (.t (.bool x)), .g e' (.t (.bool y)) => Ob (c = true → e = true) ∧ Ob (c = false → e' = true) ∧ K (.t (.bool (cond c x y)))
  | _, _ => False

/-- Parts in their order, each once. -/
def idxOk {α : Type} : Nat → List (Nat × α) → Nat → Bool
  | k, [], n => Nat.beq k n
  | k, p :: ps, n => Nat.beq p.1 k && idxOk (k + 1) ps n

/-- What goes on behind a call. '.own': the result is a row of the caller's own. -/
def callK (L : List Nat) (σ : Sto) (K : SV → Sto → Prop) (r : T) : Prop := match r with
  | .own E (.sl sz xs) => forceSto (kills L σ ++ [.row E sz xs]) (K (.osl σ.length 0 xs.length))
  | .own _ _ => False
  | r => bif r.flat then K (.t r) σ else forceSto (kills L σ) (K (.t r))

def step (o : Op) (ty : TypeId) (env : Env) (σ : Sto) (K : SV → Sto → Prop) : Prop :=
  match o with
  | .move x | .assign x => K (ev env x) σ
  | .pick c a b => match ev env c with | .t (.bool c) => pickOp c (ev env a) (ev env b) fun v => K v σ | _ => False
  | .alloc t => bif (tt.at t).ti.good then forceSto (σ ++ [.var t ((tt.at t).zero.map .t)]) (K (.loc σ.length 0 0)) else False
  | .box t x => bif (ev env x).cells.all SV.leaf then forceSto (σ ++ [.var t (ev env x).cells]) (K (.loc σ.length 0 0)) else False
  | .load t a => loadOp tt t (ev env a) σ fun v => K v σ
  | .store t a v => storeOp tt t (ev env a) (ev env v) σ fun σ' => K .any σ'
  | .fieldAddr s x f => bif hasField tt s f then match ev env x with
    | .t (.ptr cs) => K (.t (.ptr (cs.drop (fieldOf tt s f).2))) σ
    | .loc k i off => bif liveAt σ k then K (.loc k i (off + (fieldOf tt s f).2)) σ else False
    | _ => False
    else False
  | .nilCheck x => match ev env x with
    | .t (.ptr cs) => K (.t (.ptr cs)) σ
    | .loc k i off => bif liveAt σ k then K (.loc k i off) σ else False
    | _ => False
  | .field s x f => bif hasField tt s f then match ev env x with
    | .t (.agg cs) => Ob ((fieldOf tt s f).2 + (tt.at (fieldOf tt s f).1).size ≤ cs.length) ∧ K (.t (mkT (tt.at (fieldOf tt s f).1).ti.isAgg (tt.at (fieldOf tt s f).1).size (cs.drop (fieldOf tt s f).2))) σ
    | .agg cs => Ob ((fieldOf tt s f).2 + (tt.at (fieldOf tt s f).1).size ≤ cs.length) ∧ K (mkS (tt.at (fieldOf tt s f).1).ti.isAgg (tt.at (fieldOf tt s f).1).size (cs.drop (fieldOf tt s f).2)) σ
    | _ => False
    else False
  | .indexAddr t x i => match (tt.at t).ti, ev env x, ev env i with
    | .slice e, .t (.sl sz xs), .t (.int _ n) => bif Nat.beq sz (tt.at e).size && (tt.at e).ti.good then Ob (0 ≤ n) ∧ Ob (n < xs.length) ∧ exE xs n.toNat fun x => K (.t (.ptr x.cells)) σ else False
    | .slice e, .osl k off len, .t (.int _ n) => match nth σ k with
      | some (.row E sz ts) => bif Nat.beq sz (tt.at e).size && (tt.at e).ti.good then Ob (0 ≤ n) ∧ Ob (n < len) ∧ Ob (off + len ≤ ts.length) ∧ K (.loc k (off + n.toNat) 0) σ else False
      | _ => False
    | _, _, _ => False
  | .binOp op t x y _ => match normS (ev env x), normS (ev env y) with
    | .t a, .t b => binT tt op t a b fun v => K (.t v) σ
    | _, _ => False
  | .unOp .not _ x => match ev env x with | .t (.bool b) => K (.t (.bool (!b))) σ | _ => False
  | .unOp .neg _ x => match ev env x with | .t (.int k n) => K (.t (.int k (subI k 0 n))) σ | _ => False
  | .convert s d x => match (tt.at s).ti, (tt.at d).ti, ev env x with | .int _, .int k, .t (.int _ n) => K (.t (.int k (cvtI k n))) σ | _, _, _ => False
  | .build t parts => match (tt.at t).ti with
    | .struct fs => bif (fs.all fun f => (tt.at f.1).ti.good) && parts.toList.all fun p => (ev env p.2).cells.all SV.leaf && (match nth fs p.1 with | some f => (tt.at f.1).ti.good && Nat.beq (ev env p.2).cells.length (tt.at f.1).size && Nat.ble (f.2 + (tt.at f.1).size) (tt.at t).zero.length | none => false)
      then K (.agg (parts.toList.foldl (fun cs p => setCells cs ((nth fs p.1).getD (0, 0)).2 (ev env p.2).cells) ((tt.at t).zero.map .t))) σ else False
    | _ => False
  | .buildSlice t n parts => match (tt.at t).ti with
    | .slice E => bif (tt.at E).ti.good && Nat.beq n 0 && parts.toList.isEmpty then K (.t .esl) σ else bif (tt.at E).ti.good && Nat.blt 0 (tt.at E).size && Nat.blt 0 n && Nat.ble (n * (tt.at E).size) 16777216 && idxOk 0 parts.toList n && parts.toList.all fun p => (ev env p.2).cells.all SV.leaf && Nat.beq (ev env p.2).cells.length (tt.at E).size
      then match frzL σ (parts.toList.map fun p => ev env p.2) with
        | some ts => forceSto (kills ((parts.toList.map fun p => ev env p.2).flatMap (ids 20 σ)) σ ++ [.row E (tt.at E).size ts]) (K (.osl σ.length 0 n))
        | none => False
      else False
    | _ => False
  | .makeFunc (.func f) first cap => bif first.isEmpty then K (.fn f (cap.toList.map (ev env))) σ else False
  | .makeMap t none => match (tt.at t).ti with
    | .map kt _ => match (tt.at kt).ti with | .int kk => forceSto (σ ++ [.map kk []]) (K (.map σ.length)) | _ => False
    | _ => False
  | .lookup t m k false => match (tt.at t).ti, ev env m, ev env k with
    | .map kt e, .map m, .t (.int kk n) => match (tt.at kt).ti, nth σ m with
      | .int kk', some (.map kk2 es) => bif sameK kk kk' && sameK kk kk2 && (tt.at e).ti.good then exL es n (mkT (tt.at e).ti.isAgg (tt.at e).size (tt.at e).zero) (fun v => K (.t v) σ) else False
      | _, _ => False
    | _, _, _ => False
  | .mapUpdate t m k v => match (tt.at t).ti, ev env m, ev env k, ev env v with
    | .map kt e, .map m, .t (.int kk n), .t v => match (tt.at kt).ti, nth σ m with
      | .int kk', some (.map kk2 es) => bif sameK kk kk' && sameK kk kk2 then forceSto (σ.set m (.map kk2 (putE n v es))) (K .any) else False
      | _, _ => False
    | _, _, _, _ => False
  | .extract x i => match ev env x with
    | .t (.tup xs) => Ob (i < xs.length) ∧ K (.t (xs.getD i .any)) σ
    | .tup xs => Ob (i < xs.length) ∧ K (xs.getD i .any) σ
    | _ => False
  | .call { callee := .builtin .len, args, argTypes } => match argTypes.toList, args.toList with
    | [t], [x] => lenOp (tt.at t).ti (ev env x) σ fun v => K v σ
    | _, _ => False
  | .call { callee := .builtin .append, args, argTypes } => match argTypes.toList, args.toList with
    | [t, u], [x, y] => match (tt.at t).ti, (tt.at u).ti with
      | .slice E, .slice _ => appendOp tt E (ev env x) (ev env y) σ K
      | _, _ => False
    | _, _ => False
  | .call { callee := .value f, args, .. } => match ev env f with
    | .fn f cap => match frzL σ (args.toList.map (ev env) ++ cap) with
      | some ts => C f ts (callK ((args.toList.map (ev env) ++ cap).flatMap (ids 20 σ)) σ K)
      | none => False
    | .t (.fn f cap) => match frzL σ (args.toList.map (ev env) ++ cap.map SV.t) with
      | some ts => C f ts (callK ((args.toList.map (ev env) ++ cap.map SV.t).flatMap (ids 20 σ)) σ K)
      | none => False
    | _ => False
  | _ => False

def dstOf (ops : List Oper) (j : Nat) : Option Nat := match nth ops j with | some o => o.dst | none => none

def put (env : Env) (d : Option Nat) (v : SV) : Env := match d with | some d => upd env d v | none => env

/-- Does an operation come to be done? -/
def gcond (want : Bool) : SV → Option Bool
  | .t (.bool c) => match want with | true => some c | false => some (!c)
  | .g c (.t (.bool e)) => match want with | true => some (c && e) | false => some (c && !e)
  | _ => none
/-- What a guarded operation reads holds where it is done. -/
def strip (gc : Bool) : List Operand → Env → (Env → Prop) → Prop
  | [], env, K => K env
  | .tmp t :: xs, env, K => match env t with
    | .g c v => Ob (gc = true → c = true) ∧ strip gc xs (upd env t v) K
    | _ => strip gc xs env K
  | _ :: xs, env, K => strip gc xs env K

/-- What is read for sure. -/
def stripOps (o : Op) : List Operand := match o with
  | .pick c _ _ => [c]
  | o => o.operands.toList

/-- An operation that leaves the call's memory alone, and its value. -/
def quiet (o : Oper) (env : Env) (σ : Sto) (v : SV) : Prop :=
  step C tt o.op o.type env σ fun v' σ' => force v' fun v' => v' = v ∧ σ' = σ

def rop1q (all : List Oper) (o : Oper) (K : Env → Sto → Prop) (env : Env) (σ : Sto) : Prop :=
  match o.guard with
  | none => step C tt o.op o.type env σ fun v σ' => force v fun v => K (put env o.dst v) σ'
  | some (j, want) => match dstOf all j with
    | none => False
    | some d => match gcond want (env d) with
      | some gc => strip gc (stripOps o.op) env fun env' => exG gc (quiet C tt o env' σ) fun v => K (put env o.dst (.g gc v)) σ
      | none => False

/-- Some objects dead. -/
inductive Dd : Sto → Sto → Prop where
  | nil : Dd [] []
  | same (o : SObj) {a b : Sto} (h : Dd a b) : Dd (o :: a) (o :: b)
  | dead (o : SObj) {a b : Sto} (h : Dd a b) : Dd (o :: a) (.dead :: b)
theorem kills_succ : ∀ (L : List Nat) (o : SObj) (a : Sto), kills (L.map (· + 1)) (o :: a) = o :: kills L a
  | [], _, _ => rfl
  | k :: L, o, a => by simp only [List.map_cons, kills, List.set_cons_succ]; exact kills_succ L o _
theorem Dd.out {a b : Sto} (h : Dd a b) : ∃ L, b = kills L a := by
  induction h with
  | nil => exact ⟨[], rfl⟩
  | same o _ ih => obtain ⟨L, rfl⟩ := ih; exact ⟨L.map (· + 1), (kills_succ L o _).symm⟩
  | dead o _ ih => obtain ⟨L, rfl⟩ := ih; exact ⟨0 :: L.map (· + 1), by simp only [kills, List.set_cons_zero]; exact (kills_succ L .dead _).symm⟩
/-- A guarded operation that may leave objects dead. -/
@[irreducible] def exGS (gc : Bool) (p : SV → Sto → Prop) (σ : Sto) (q : SV → Sto → Prop) : Prop := ∃ v σ2, (gc = true → p v σ2) ∧ Dd σ σ2 ∧ q v σ2
theorem exGS.mk {gc : Bool} {p q : SV → Sto → Prop} {σ : Sto} (v : SV) (σ2 : Sto) (h1 : gc = true → p v σ2) (h0 : Dd σ σ2) (h2 : q v σ2) : exGS gc p σ q := by unfold exGS; exact ⟨v, σ2, h1, h0, h2⟩
theorem exGS.out {gc : Bool} {p q : SV → Sto → Prop} {σ : Sto} (h : exGS gc p σ q) : ∃ v σ2, (gc = true → p v σ2) ∧ Dd σ σ2 ∧ q v σ2 := by unfold exGS at h; exact h

def rop1 (all : List Oper) (o : Oper) (K : Env → Sto → Prop) (env : Env) (σ : Sto) : Prop :=
  match o.guard with
  | none => step C tt o.op o.type env σ fun v σ' => force v fun v => K (put env o.dst v) σ'
  | some (j, want) => match dstOf all j with
    | none => False
    | some d => match gcond want (env d) with
      | some gc => strip gc (stripOps o.op) env fun env' => exGS gc (fun v σ2 => step C tt o.op o.type env' σ fun v' σ' => force v' fun v' => v' = v ∧ σ' = σ2) σ fun v σ2 => K (put env o.dst (.g gc v)) σ2
      | none => False

def rops (all : List Oper) : List Oper → (Env → Sto → Prop) → Env → Sto → Prop
  | [], K, env, σ => K env σ
  | o :: rest, K, env, σ => rop1 C tt all o (rops all rest K) env σ

/-- A region whose order is drawn: operations that leave memory alone, at most one new variable; behind all these what writes. 'al': the variable's type, where it has come up. -/
def dops (all : List Oper) : List Oper → (al : Option TypeId) → (Env → Option TypeId → Prop) → Env → Sto → Prop
  | [], al, K, env, σ => K env al
  | o :: rest, al, K, env, σ => match o.op, al with
    | .alloc t, none => bif (tt.at t).ti.good && o.guard.isNone then dops all rest (some t) K (put env o.dst (.loc σ.length 0 0)) σ else False
    | _, _ => match o.guard with
      | none => exQ (quiet C tt o env σ) fun v => dops all rest al K (put env o.dst v) σ
      | some _ => rop1q C tt all o (fun env' σ' => dops all rest al K env' σ) env σ

/-- What an operation waits for. -/
def depsOf (o : Oper) : List Nat := (o.after.toList.filter (fun e => Region.binds .any e)).map (·.on)
def tmpsIn (xs : List Operand) : List Nat := xs.filterMap fun | .tmp t => some t | _ => none
def readsOf (ops : List Oper) (o : Oper) : List Nat := tmpsIn o.op.operands.toList ++ (match o.guard with | some (j, _) => (dstOf ops j).toList | none => [])
def allIdx {α : Type} (p : Nat → α → Bool) : Nat → List α → Bool
  | _, [] => true
  | i, x :: xs => p i x && allIdx p (i + 1) xs
/-- All that are ahead in the text are waited for, by itself or by one that is. -/
def cover (ops : List Oper) : Nat → List Nat → Bool
  | 0, _ => true
  | j + 1, s => s.contains j && cover ops j ((match nth ops j with | some o => depsOf o | none => []) ++ s)
def isAlloc (o : Oper) : Bool := match o.op with | .alloc _ => true | _ => false
/-- Ahead of place m each operation waits for what yields its operands, and no two yield the same variable; from place m on each waits for all that are ahead of it in the text. -/
def drawOk (ops : List Oper) (m : Nat) : Bool :=
  Nat.ble m ops.length && allIdx (fun i o => (depsOf o).all (fun j => Nat.blt j i) &&
    bif Nat.blt i m then
      (readsOf ops o).all (fun t => allIdx (fun j oj => !(oj.dst == some t) || ((depsOf o).contains j && !isAlloc oj)) 0 (ops.take m)) &&
      allIdx (fun j oj => Nat.beq i j || !oj.dst.isSome || !(o.dst == oj.dst)) 0 (ops.take m)
    else cover ops i (depsOf o)) 0 ops

@[irreducible] def drawVC (ops : List Oper) (K : Env → Sto → Prop) (env : Env) (σ : Sto) : Prop :=
  ∃ m, Ob (drawOk ops m = true) ∧
    dops C tt ops (ops.take m) none (fun env' al => rops C tt ops (ops.drop m) K env' (match al with | none => σ | some t => σ ++ [.var t ((tt.at t).zero.map .t)])) env σ

theorem drawVC.mk {ops : List Oper} {K : Env → Sto → Prop} {env : Env} {σ : Sto} (m : Nat) (h1 : drawOk ops m = true)
    (h : dops C tt ops (ops.take m) none (fun env' al => rops C tt ops (ops.drop m) K env' (match al with | none => σ | some t => σ ++ [.var t ((tt.at t).zero.map .t)])) env σ) : drawVC C tt ops K env σ := by
  unfold drawVC; exact ⟨m, .mk h1, h⟩
/-- Where all operations leave memory alone. -/
theorem drawVC.all {ops : List Oper} {K : Env → Sto → Prop} {env : Env} {σ : Sto} (h1 : drawOk ops ops.length = true)
    (h : dops C tt ops ops none (fun env' al => rops C tt ops [] K env' (match al with | none => σ | some t => σ ++ [.var t ((tt.at t).zero.map .t)])) env σ) : drawVC C tt ops K env σ := by
  refine drawVC.mk C tt ops.length h1 ?_
  rw [List.take_length, List.drop_length]
  exact h
inductive AX where
  | normal | exit (id : Nat) | goto (l : Nat) | ret

def mods : Code → List Nat
  | .region _ ops _ => ops.toList.filterMap (·.dst)
  | .seq a b => mods a ++ mods b
  | .cond _ a b => mods a ++ mods b
  | .block _ c => mods c
  | .loop c => mods c
  | _ => []

def anyOn (M : List Nat) (env : Env) : Env := fun j => bif M.contains j then .any else env j
def setL : List Nat → List SV → Env → Env
  | s :: S, v :: V, env => setL S V (upd env s v)
  | _, _, env => env

def AX.seq (next : Env → Sto → Prop) (Q : AX → Env → Sto → Prop) : AX → Env → Sto → Prop
  | .normal, env, σ => next env σ
  | x, env, σ => Q x env σ
def AX.blk (id : Nat) (Q : AX → Env → Sto → Prop) : AX → Env → Sto → Prop
  | .exit i, env, σ => bif Nat.beq i id then Q .normal env σ else Q (.exit i) env σ
  | x, env, σ => Q x env σ

/-! the state at a loop's head: rows that the named variables hold are numbered anew, from n on, in their order -/
def idx (n : Nat) (k : Nat) : List Nat → Option Nat
  | [] => none
  | j :: js => bif Nat.beq k j then some n else idx (n + 1) k js
def remap (n : Nat) (sel : List Nat) : SV → SV
  | .t x => .t x
  | .osl k off len => match idx n k sel with | some j => .osl j off len | none => .any
  | .loc k i off => match idx n k sel with | some j => .loc j i off | none => bif Nat.blt k n then .loc k i off else .any
  | .map k => bif Nat.blt k n then .map k else .any
  | _ => .any
def rowIds : List SV → List Nat → List Nat
  | [], acc => acc.reverse
  | .osl k _ _ :: vs, acc => rowIds vs (bif acc.contains k then acc else k :: acc)
  | _ :: vs, acc => rowIds vs acc
/-- 'nil' as a row of the call's own, where that is asked. -/
def thaw (N : List (Nat × TypeId × Nat)) : List Nat → List SV → Sto → (List SV → Sto → Prop) → Prop
  | s :: S, v :: V, σ, K => match N.find? (fun x => Nat.beq x.1 s), v with
    | some (_, E, sz), .t .nsl => thaw N S V (σ ++ [.row E sz []]) fun V' σ' => K (.osl σ.length 0 0 :: V') σ'
    | _, _ => thaw N S V σ fun V' σ' => K (v :: V') σ'
  | _, V, σ, K => K V σ
def SObj.cellsV : SObj → List SV
  | .var _ cs => cs
  | _ => []
def SObj.remap (n : Nat) (sel : List Nat) : SObj → SObj
  | .var E cs => .var E (cs.map (Am.remap n sel))
  | o => o
/-- 'nil' in a variable's cell as a row of the call's own, where that is asked: (object, cell, element, cells of an element). -/
def thawV : List (Nat × Nat × TypeId × Nat) → Sto → (Sto → Prop) → Prop
  | [], σ, K => K σ
  | (k, j, E, sz) :: V, σ, K => match nth σ k with
    | some (.var E' cs) => match nth cs j with
      | some (.t .nsl) => thawV V (σ.set k (.var E' (cs.set j (.osl σ.length 0 0))) ++ [.row E sz []]) K
      | _ => thawV V σ K
    | _ => thawV V σ K

def headSt (n : Nat) (vals : List SV) (σ : Sto) (K : List SV → Sto → Prop) : Prop :=
  let sel := rowIds (vals ++ (σ.take n).flatMap SObj.cellsV) []
  bif sel.all (fun k => match nth σ k with | some (.row ..) => true | _ => false) then
    forceSto (((kills sel σ).take n).map (SObj.remap n sel) ++ sel.map fun k => (nth σ k).getD .dead) fun σ2 => forceSs (vals.map (remap n sel)) fun vals => K vals σ2
  else False

@[irreducible] def LoopVC (M : List Nat) (body : (AX → Env → Sto → Prop) → Env → Sto → Prop) (Q : AX → Env → Sto → Prop) (env : Env) (σ : Sto) : Prop :=
  ∃ (S : List Nat) (N : List (Nat × TypeId × Nat)) (V : List (Nat × Nat × TypeId × Nat)) (R : Nat → List SV → Sto → Prop),
    (thawV V σ fun σ0 => thaw N S (S.map env) σ0 fun vals σ1 => headSt σ.length vals σ1 fun vals σ2 => ∃ m, R m vals σ2) ∧
    ∀ m vals σ', R m vals σ' → body (AX.seq (fun env1 σ1 => headSt σ.length (S.map env1) σ1 fun vals σ2 => ∃ m', m' < m ∧ R m' vals σ2) Q) (setL S vals (anyOn M env)) σ'

theorem LoopVC.mkV {M : List Nat} {body : (AX → Env → Sto → Prop) → Env → Sto → Prop} {Q : AX → Env → Sto → Prop} {env : Env} {σ : Sto} (S : List Nat) (N : List (Nat × TypeId × Nat)) (V : List (Nat × Nat × TypeId × Nat)) (R : Nat → List SV → Sto → Prop)
    (h0 : thawV V σ fun σ0 => thaw N S (S.map env) σ0 fun vals σ1 => headSt σ.length vals σ1 fun vals σ2 => ∃ m, R m vals σ2)
    (h1 : ∀ m vals σ', R m vals σ' → body (AX.seq (fun env1 σ1 => headSt σ.length (S.map env1) σ1 fun vals σ2 => ∃ m', m' < m ∧ R m' vals σ2) Q) (setL S vals (anyOn M env)) σ') : LoopVC M body Q env σ := by
  unfold LoopVC; exact ⟨S, N, V, R, h0, h1⟩
theorem LoopVC.mk {M : List Nat} {body : (AX → Env → Sto → Prop) → Env → Sto → Prop} {Q : AX → Env → Sto → Prop} {env : Env} {σ : Sto} (S : List Nat) (N : List (Nat × TypeId × Nat)) (R : Nat → List SV → Sto → Prop)
    (h0 : thaw N S (S.map env) σ fun vals σ1 => headSt σ.length vals σ1 fun vals σ2 => ∃ m, R m vals σ2)
    (h1 : ∀ m vals σ', R m vals σ' → body (AX.seq (fun env1 σ1 => headSt σ.length (S.map env1) σ1 fun vals σ2 => ∃ m', m' < m ∧ R m' vals σ2) Q) (setL S vals (anyOn M env)) σ') : LoopVC M body Q env σ :=
  LoopVC.mkV S N [] R h0 h1

/-! Loops that count one variable up to n, and leave the call's memory as it is. -/
@[irreducible] def Up0 (σ : Sto) (n : Nat) (R : Nat → Prop) (lim : Nat) (vals : List SV) (σ2 : Sto) : Prop := ∃ m', m' < lim ∧ ∃ (i : Nat), σ2 = σ ∧ vals = [.t (.int .i64 i)] ∧ i ≤ n ∧ m' = n - i ∧ R i
@[irreducible] def Up0i (σ : Sto) (n : Nat) (R : Nat → Prop) (vals : List SV) (σ2 : Sto) : Prop := ∃ m : Nat, ∃ (i : Nat), σ2 = σ ∧ vals = [.t (.int .i64 i)] ∧ i ≤ n ∧ m = n - i ∧ R i
theorem Up0.mk {σ σ2 : Sto} {n : Nat} {R : Nat → Prop} {i : Nat} {x : Int} (hs : σ2 = σ) (h : Ob (i < n ∧ x = i + 1 ∧ R (i + 1))) : Up0 σ n R (n - i) [.t (.int .i64 x)] σ2 := by
  obtain ⟨h1, h2, h3⟩ := h.out
  unfold Up0
  exact ⟨n - (i + 1), by omega, i + 1, hs, by rw [h2]; rfl, h1, rfl, h3⟩
theorem Up0i.mk {σ σ2 : Sto} {n : Nat} {R : Nat → Prop} (hs : σ2 = σ) (h : Ob (R 0)) : Up0i σ n R [.t (.int .i64 0)] σ2 := by
  unfold Up0i
  exact ⟨n, 0, hs, rfl, Nat.zero_le _, rfl, h.out⟩
theorem LoopVC.up0 {M : List Nat} {body : (AX → Env → Sto → Prop) → Env → Sto → Prop} {Q : AX → Env → Sto → Prop} {env : Env} {σ : Sto} (s n : Nat) (R : Nat → Prop)
    (h0 : thaw [] [s] ([s].map env) σ fun vals σ1 => headSt σ.length vals σ1 fun vals σ2 => Up0i σ n R vals σ2)
    (h1 : ∀ (i : Nat), i ≤ n → R i → body (AX.seq (fun env1 σ1 => headSt σ.length ([s].map env1) σ1 fun vals σ2 => Up0 σ n R (n - i) vals σ2) Q) (setL [s] [.t (.int .i64 i)] (anyOn M env)) σ) : LoopVC M body Q env σ := by
  unfold Up0i at h0
  unfold Up0 at h1
  refine LoopVC.mk [s] [] (fun m vals σ2 => ∃ (i : Nat), σ2 = σ ∧ vals = [.t (.int .i64 i)] ∧ i ≤ n ∧ m = n - i ∧ R i) h0 ?_
  rintro m vals σ' ⟨i, rfl, rfl, hi, rfl, hr⟩
  exact h1 i hi hr
@[irreducible] def Up1 (σ : Sto) (n : Nat) (R : Nat → Int → Prop) (lim : Nat) (vals : List SV) (σ2 : Sto) : Prop := ∃ m', m' < lim ∧ ∃ (i : Nat) (y0 : Int), σ2 = σ ∧ vals = [.t (.int .i64 i), .t (.int .i64 y0)] ∧ i ≤ n ∧ m' = n - i ∧ R i y0
@[irreducible] def Up1i (σ : Sto) (n : Nat) (R : Nat → Int → Prop) (vals : List SV) (σ2 : Sto) : Prop := ∃ m : Nat, ∃ (i : Nat) (y0 : Int), σ2 = σ ∧ vals = [.t (.int .i64 i), .t (.int .i64 y0)] ∧ i ≤ n ∧ m = n - i ∧ R i y0
theorem Up1.mk {σ σ2 : Sto} {n : Nat} {R : Nat → Int → Prop} {i : Nat} {x : Int} {y0 : Int} (hs : σ2 = σ) (h : Ob (i < n ∧ x = i + 1 ∧ R (i + 1) y0)) : Up1 σ n R (n - i) [.t (.int .i64 x), .t (.int .i64 y0)] σ2 := by
  obtain ⟨h1, h2, h3⟩ := h.out
  unfold Up1
  exact ⟨n - (i + 1), by omega, i + 1, y0, hs, by rw [h2]; rfl, h1, rfl, h3⟩
theorem Up1i.mk {σ σ2 : Sto} {n : Nat} {R : Nat → Int → Prop} {y0 : Int} (hs : σ2 = σ) (h : Ob (R 0 y0)) : Up1i σ n R [.t (.int .i64 0), .t (.int .i64 y0)] σ2 := by
  unfold Up1i
  exact ⟨n, 0, y0, hs, rfl, Nat.zero_le _, rfl, h.out⟩
theorem LoopVC.up1 {M : List Nat} {body : (AX → Env → Sto → Prop) → Env → Sto → Prop} {Q : AX → Env → Sto → Prop} {env : Env} {σ : Sto} (s s0 n : Nat) (R : Nat → Int → Prop)
    (h0 : thaw [] [s, s0] ([s, s0].map env) σ fun vals σ1 => headSt σ.length vals σ1 fun vals σ2 => Up1i σ n R vals σ2)
    (h1 : ∀ (i : Nat) (y0 : Int), i ≤ n → R i y0 → body (AX.seq (fun env1 σ1 => headSt σ.length ([s, s0].map env1) σ1 fun vals σ2 => Up1 σ n R (n - i) vals σ2) Q) (setL [s, s0] [.t (.int .i64 i), .t (.int .i64 y0)] (anyOn M env)) σ) : LoopVC M body Q env σ := by
  unfold Up1i at h0
  unfold Up1 at h1
  refine LoopVC.mk [s, s0] [] (fun m vals σ2 => ∃ (i : Nat) (y0 : Int), σ2 = σ ∧ vals = [.t (.int .i64 i), .t (.int .i64 y0)] ∧ i ≤ n ∧ m = n - i ∧ R i y0) h0 ?_
  rintro m vals σ' ⟨i, y0, rfl, rfl, hi, rfl, hr⟩
  exact h1 i y0 hi hr
@[irreducible] def Up2 (σ : Sto) (n : Nat) (R : Nat → Int → Int → Prop) (lim : Nat) (vals : List SV) (σ2 : Sto) : Prop := ∃ m', m' < lim ∧ ∃ (i : Nat) (y0 : Int) (y1 : Int), σ2 = σ ∧ vals = [.t (.int .i64 i), .t (.int .i64 y0), .t (.int .i64 y1)] ∧ i ≤ n ∧ m' = n - i ∧ R i y0 y1
@[irreducible] def Up2i (σ : Sto) (n : Nat) (R : Nat → Int → Int → Prop) (vals : List SV) (σ2 : Sto) : Prop := ∃ m : Nat, ∃ (i : Nat) (y0 : Int) (y1 : Int), σ2 = σ ∧ vals = [.t (.int .i64 i), .t (.int .i64 y0), .t (.int .i64 y1)] ∧ i ≤ n ∧ m = n - i ∧ R i y0 y1
theorem Up2.mk {σ σ2 : Sto} {n : Nat} {R : Nat → Int → Int → Prop} {i : Nat} {x : Int} {y0 y1 : Int} (hs : σ2 = σ) (h : Ob (i < n ∧ x = i + 1 ∧ R (i + 1) y0 y1)) : Up2 σ n R (n - i) [.t (.int .i64 x), .t (.int .i64 y0), .t (.int .i64 y1)] σ2 := by
  obtain ⟨h1, h2, h3⟩ := h.out
  unfold Up2
  exact ⟨n - (i + 1), by omega, i + 1, y0, y1, hs, by rw [h2]; rfl, h1, rfl, h3⟩
theorem Up2i.mk {σ σ2 : Sto} {n : Nat} {R : Nat → Int → Int → Prop} {y0 y1 : Int} (hs : σ2 = σ) (h : Ob (R 0 y0 y1)) : Up2i σ n R [.t (.int .i64 0), .t (.int .i64 y0), .t (.int .i64 y1)] σ2 := by
  unfold Up2i
  exact ⟨n, 0, y0, y1, hs, rfl, Nat.zero_le _, rfl, h.out⟩
theorem LoopVC.up2 {M : List Nat} {body : (AX → Env → Sto → Prop) → Env → Sto → Prop} {Q : AX → Env → Sto → Prop} {env : Env} {σ : Sto} (s s0 s1 n : Nat) (R : Nat → Int → Int → Prop)
    (h0 : thaw [] [s, s0, s1] ([s, s0, s1].map env) σ fun vals σ1 => headSt σ.length vals σ1 fun vals σ2 => Up2i σ n R vals σ2)
    (h1 : ∀ (i : Nat) (y0 : Int) (y1 : Int), i ≤ n → R i y0 y1 → body (AX.seq (fun env1 σ1 => headSt σ.length ([s, s0, s1].map env1) σ1 fun vals σ2 => Up2 σ n R (n - i) vals σ2) Q) (setL [s, s0, s1] [.t (.int .i64 i), .t (.int .i64 y0), .t (.int .i64 y1)] (anyOn M env)) σ) : LoopVC M body Q env σ := by
  unfold Up2i at h0
  unfold Up2 at h1
  refine LoopVC.mk [s, s0, s1] [] (fun m vals σ2 => ∃ (i : Nat) (y0 : Int) (y1 : Int), σ2 = σ ∧ vals = [.t (.int .i64 i), .t (.int .i64 y0), .t (.int .i64 y1)] ∧ i ≤ n ∧ m = n - i ∧ R i y0 y1) h0 ?_
  rintro m vals σ' ⟨i, y0, y1, rfl, rfl, hi, rfl, hr⟩
  exact h1 i y0 y1 hi hr

/-! Loops that count one variable up to n and collect a row in another one, which is nil ahead. -/
def ColR (σ : Sto) (n : Nat) (E : TypeId) (sz : Nat) (f : Nat → List T) (R : Nat → Prop) (m : Nat) (vals : List SV) (σ2 : Sto) : Prop := ∃ i : Nat, σ2 = σ ++ [.row E sz (f i)] ∧ vals = [.t (.int .i64 i), .osl σ.length 0 (f i).length] ∧ i ≤ n ∧ m = n - i ∧ R i
@[irreducible] def Col (σ : Sto) (n : Nat) (E : TypeId) (sz : Nat) (f : Nat → List T) (R : Nat → Prop) (lim : Nat) (vals : List SV) (σ2 : Sto) : Prop := ∃ m', m' < lim ∧ ColR σ n E sz f R m' vals σ2
@[irreducible] def Coli (σ : Sto) (n : Nat) (E : TypeId) (sz : Nat) (f : Nat → List T) (R : Nat → Prop) (vals : List SV) (σ2 : Sto) : Prop := ∃ m : Nat, ColR σ n E sz f R m vals σ2
theorem Col.mk {σ σ2 : Sto} {n : Nat} {E : TypeId} {sz : Nat} {f : Nat → List T} {R : Nat → Prop} {i k off l : Nat} {x : Int} {ts : List T} (hs : σ2 = σ ++ [.row E sz ts]) (hk : k = σ.length) (ho : off = 0)
    (h : Ob (i < n ∧ x = i + 1 ∧ ts = f (i + 1) ∧ l = (f (i + 1)).length ∧ R (i + 1))) : Col σ n E sz f R (n - i) [.t (.int .i64 x), .osl k off l] σ2 := by
  obtain ⟨h1, h2, h3, h4, h5⟩ := h.out
  unfold Col
  exact ⟨n - (i + 1), by omega, i + 1, by rw [hs, h3], by subst hk ho h2 h4; simp, h1, rfl, h5⟩
theorem Coli.mk {σ σ2 : Sto} {n : Nat} {E : TypeId} {sz : Nat} {f : Nat → List T} {R : Nat → Prop} {k off l : Nat} (hs : σ2 = σ ++ [.row E sz []]) (hk : k = σ.length) (ho : off = 0) (hl : l = 0) (h : Ob (f 0 = [] ∧ R 0)) :
    Coli σ n E sz f R [.t (.int .i64 0), .osl k off l] σ2 := by
  obtain ⟨h1, h2⟩ := h.out
  unfold Coli
  exact ⟨n, 0, by rw [hs, h1], by subst hk ho hl; simp [h1], Nat.zero_le _, rfl, h2⟩
theorem LoopVC.col {M : List Nat} {body : (AX → Env → Sto → Prop) → Env → Sto → Prop} {Q : AX → Env → Sto → Prop} {env : Env} {σ : Sto} (s c n : Nat) (E : TypeId) (sz : Nat) (f : Nat → List T) (R : Nat → Prop)
    (h0 : thaw [(c, E, sz)] [s, c] ([s, c].map env) σ fun vals σ1 => headSt σ.length vals σ1 fun vals σ2 => Coli σ n E sz f R vals σ2)
    (h1 : ∀ i : Nat, i ≤ n → R i → body (AX.seq (fun env1 σ1 => headSt σ.length ([s, c].map env1) σ1 fun vals σ2 => Col σ n E sz f R (n - i) vals σ2) Q) (setL [s, c] [.t (.int .i64 i), .osl σ.length 0 (f i).length] (anyOn M env)) (σ ++ [.row E sz (f i)])) : LoopVC M body Q env σ := by
  unfold Coli at h0
  unfold Col at h1
  refine LoopVC.mk [s, c] [(c, E, sz)] (ColR σ n E sz f R) h0 ?_
  rintro m vals σ' ⟨i, rfl, rfl, hi, rfl, hr⟩
  exact h1 i hi hr

def cwp : Code → (AX → Env → Sto → Prop) → Env → Sto → Prop
  | .skip, Q, env, σ => Q .normal env σ
  | .region _ ops draw, Q, env, σ => bif draw then drawVC C tt ops.toList (fun env σ => Q .normal env σ) env σ else rops C tt ops.toList ops.toList (fun env σ => Q .normal env σ) env σ
  | .seq a b, Q, env, σ => cwp a (AX.seq (cwp b Q) Q) env σ
  | .cond (.tmp t) a b, Q, env, σ => match env t with | .t (.bool c) => onBool c (cwp a Q (upd env t (.t (.bool true))) σ) (cwp b Q (upd env t (.t (.bool false))) σ) | _ => False
  | .block id c, Q, env, σ => cwp c (AX.blk id Q) env σ
  | .loop c, Q, env, σ => LoopVC (mods c) (cwp c) Q env σ
  | .exit id, Q, env, σ => Q (.exit id) env σ
  | .ret, Q, env, σ => Q .ret env σ
  | .label _, Q, env, σ => Q .normal env σ
  | .goto l, Q, env, σ => Q (.goto l) env σ
  | _, _, _, _ => False

def argEnv (args : List T) : Env := fun j => match nth args j with | some x => .t x | none => .any

/-- The results, read where the call ends. -/
def resK (tt : Tab) (env : Env) (σ : Sto) : List ResultVar → (List SV → Prop) → Prop
  | [], K => K []
  | .tmp t :: rs, K => resK tt env σ rs fun vs => K (env t :: vs)
  | .cell d t :: rs, K => loadOp tt t (env d) σ fun v => resK tt env σ rs fun vs => K (v :: vs)
def res1 : List SV → SV
  | [v] => v
  | vs => .tup vs
def fin (tt : Tab) (fn : Func) (post : T → Prop) (env : Env) (σ : Sto) : Prop :=
  resK tt env σ fn.results.toList fun vs => match frz 20 σ (res1 vs) with | some t => Dn (post t) | none => False

/-- The same, where the result is a row of the caller's own (elements: E, of sz cells). -/
def finO (tt : Tab) (E : TypeId) (sz : Nat) (fn : Func) (post : T → Prop) (env : Env) (σ : Sto) : Prop :=
  resK tt env σ fn.results.toList fun vs => match res1 vs with
    | .osl k off len => match nth σ k with
      | some (.row E' sz' ts) => Ob (E' = E ∧ sz' = sz ∧ off = 0 ∧ len = ts.length) ∧ Dn (post (.own E (.sl sz ts)))
      | _ => False
    | .t .nsl => Dn (post (.own E (.sl sz [])))
    | .t .esl => Dn (post (.own E (.sl sz [])))
    | _ => False

def body (fn : Func) (args : List T) (post : T → Prop) : Prop :=
  match fn.body with
  | none => False
  | some c => bif (mods c).all (fun d => Nat.blt d fn.ntmps) && Nat.ble args.length fn.ntmps then
      cwp C tt c (fun x env σ => match x with
      | .normal => fin tt fn post env σ
      | .ret => fin tt fn post env σ
      | _ => False) (argEnv args) []
    else False

def bodyO (E : TypeId) (sz : Nat) (fn : Func) (args : List T) (post : T → Prop) : Prop :=
  match fn.body with
  | none => False
  | some c => bif (mods c).all (fun d => Nat.blt d fn.ntmps) && Nat.ble args.length fn.ntmps then
      cwp C tt c (fun x env σ => match x with
      | .normal => finO tt E sz fn post env σ
      | .ret => finO tt E sz fn post env σ
      | _ => False) (argEnv args) []
    else False

theorem onBool_intro {c : Bool} {p q : Prop} (h1 : c = true → p) (h2 : c = false → q) : onBool c p q := by
  cases c
  · exact h2 rfl
  · exact h1 rfl
theorem force1_iff {x : T} {K : T → Prop} : force1 x K ↔ K x := by cases x <;> exact Iff.rfl
theorem forceTs_iff : ∀ {xs : List T} {K : List T → Prop}, forceTs xs K ↔ K xs
  | [], K => Iff.rfl
  | x :: xs, K => by simp only [forceTs, force1_iff]; exact forceTs_iff (K := fun xs => K (x :: xs))
theorem forceT_iff {x : T} {K : T → Prop} : forceT x K ↔ K x := by cases x <;> first | exact Iff.rfl | exact forceTs_iff (K := fun xs => K (.agg xs)) | exact forceTs_iff (K := fun xs => K (.tup xs)) | exact forceTs_iff (K := fun xs => K (.ptr xs)) | exact forceTs_iff (K := fun xs => K (.fn _ xs))
theorem forceS1_iff {x : SV} {K : SV → Prop} : forceS1 x K ↔ K x := by cases x <;> first | exact Iff.rfl | exact force1_iff (K := fun x => K (.t x))
theorem forceSs_iff : ∀ {xs : List SV} {K : List SV → Prop}, forceSs xs K ↔ K xs
  | [], K => Iff.rfl
  | x :: xs, K => by simp only [forceSs, forceS1_iff]; exact forceSs_iff (K := fun xs => K (x :: xs))
theorem force_iff {v : SV} {K : SV → Prop} : force v K ↔ K v := by
  cases v <;> first | exact Iff.rfl | exact forceT_iff (K := fun x => K (.t x)) | exact forceSs_iff (K := fun xs => K (.agg xs)) | exact forceSs_iff (K := fun xs => K (.tup xs)) | exact forceSs_iff (K := fun xs => K (.fn _ xs))
theorem forceO_iff {x : SObj} {K : SObj → Prop} : forceO x K ↔ K x := by cases x <;> first | exact Iff.rfl | exact forceSs_iff (K := fun xs => K (.var _ xs))
theorem forceSto_iff : ∀ {xs : Sto} {K : Sto → Prop}, forceSto xs K ↔ K xs
  | [], K => Iff.rfl
  | x :: xs, K => by simp only [forceSto, forceO_iff]; exact forceSto_iff (K := fun xs => K (x :: xs))
end Go.Proofs.Ytihebfhhnoneiaa.Am
