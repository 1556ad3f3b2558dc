/- The library's tables that the program's variables hold: (block, values). -/
import Derived.Calls
import Derived.KernelRfl
import Derived.Below
import Derived.WalkKit
/- The abstract machine: data as trees, memory of the call's own as a list of objects, and the conditions under which a Go function's code does what is said of it, reckoned from the code. -/
namespace Go.Proofs.Ytgladinljapmkaa.Am
set_option linter.unusedVariables false
set_option linter.unusedSimpArgs false
inductive MK where
  | int (k : IntKind)
  | arr (k : IntKind) (m : Nat)
  | str
@[match_pattern] abbrev MK.i64 : MK := .int .i64
inductive T where
  | bool (b : Bool)
  | int (k : IntKind) (n : Int)
  | str (s : ByteArray)
  | agg (xs : List T)
  | tup (xs : List T)
  | sl (sz : Nat) (xs : List T)
  | nsl
  | esl
  | ptr (cs : List T)
  | nptr
  | fn (f : FuncId) (cap : List T)
  | nfn
  | iface (t : TypeId) (x : T)
  | nif
  | map (kk : MK) (es : List (Int × T))
  | any
  | own (x : T)
  | box (x : T)
  | nst (E : TypeId) (sz : Nat) (xs : List T)
  | nmp (kk : MK) (es : List (Int × T))
  | yl (l : Nat)
  | arr (xs : List T)
  deriving Inhabited
def T.cells : T → List T
  | .agg xs => xs
  | .arr xs => xs
  | x => [x]
def T.ofVal : Value → T
  | .bool b => .bool b
  | .int k n => .int k n
  | .string s => .str s
  | .slice none 0 0 => .nsl
  | .pointer none => .nptr
  | .nilFunc => .nfn
  | .nilIface => .nif
  | _ => .any
inductive Nd where
  | row (E : TypeId) (sz : Nat) (xs : List T)
  | map (kk : MK) (es : List (Int × T))
def T.nd? : T → Option Nd
  | .nst E sz xs => some (.row E sz xs)
  | .nmp kk es => some (.map kk es)
  | _ => none
def Nd.toT : Nd → T
  | .row E sz xs => .nst E sz xs
  | .map kk es => .nmp kk es
abbrev Path := List (Nat × Nat)
inductive SV where
  | t (x : T)
  | ref (k e : Nat) (p : Path) (off len : Nat)
  | pl (k e : Nat) (p : Path) (i off : Nat)
  | mp (k e : Nat) (p : Path)
  | agg (xs : List SV)
  | tup (xs : List SV)
  | fn (f : FuncId) (cap : List SV)
  | g (c : Bool) (v : SV)
  deriving Inhabited
@[match_pattern] abbrev SV.osl (k off len : Nat) : SV := .ref k 0 [] off len
@[match_pattern] abbrev SV.loc (k i off : Nat) : SV := .pl k 0 [] i off
@[match_pattern] abbrev SV.map (k : Nat) : SV := .mp k 0 []
def SV.any : SV := .t .any
def SV.cells : SV → List SV
  | .agg xs => xs
  | .t (.agg xs) => xs.map .t
  | x => [x]
def SV.leaf : SV → Bool
  | .t (.agg _) | .t (.arr _) | .t (.tup _) | .t .any | .agg _ | .tup _ | .g .. => false
  | _ => true
inductive SObj where
  | var (E : TypeId) (cs : List SV)
  | nd (ep : Nat → Nat) (n : Nd)
  | dead
instance : Inhabited SObj := ⟨.dead⟩
def e0 : Nat → Nat := fun _ => 0
abbrev SObj.row (E : TypeId) (sz : Nat) (ts : List T) : SObj := .nd e0 (.row E sz ts)
abbrev SObj.map (kk : MK) (es : List (Int × T)) : SObj := .nd e0 (.map kk es)
def bumpE (d : Nat) (ep : Nat → Nat) : Nat → Nat := fun n => bif Nat.blt n d then ep n else ep n + 1
/-! ### types -/
inductive TI where
  | bool
  | int (k : IntKind)
  | str
  | slice (e : TypeId)
  | arr (n : Nat) (e : TypeId)
  | struct (fs : List (TypeId × Nat))
  | ptr (e : TypeId)
  | fn
  | map (k e : TypeId)
  | iface
  | other
  deriving Inhabited
structure TE where
  ti : TI
  size : Nat
  bytes : Nat
  zero : List T
  cmp : Bool
  deriving Inhabited
abbrev Tab := List TE
def nth {α : Type} : List α → Nat → Option α
  | [], _ => none
  | x :: _, 0 => some x
  | _ :: xs, n + 1 => nth xs n
def Tab.at (tt : Tab) (t : TypeId) : TE := (nth tt t).getD ⟨.other, 0, 0, [], false⟩
def TI.isAgg : TI → Bool
  | .struct _ => true
  | .arr .. => true
  | _ => false
def TI.good : TI → Bool
  | .other => false
  | _ => true
abbrev Env := Nat → SV
abbrev Sto := List SObj
def upd (env : Env) (d : Nat) (v : SV) : Env := fun j => bif Nat.beq j d then v else env j
def ev (env : Env) : Operand → SV
  | .tmp t => env t
  | .const v => .t (T.ofVal v)
  | .func f => .fn f []
  | .global _ => .any
@[irreducible] def Ob (p : Prop) : Prop := p
theorem Ob.mk {p : Prop} (h : p) : Ob p := by unfold Ob; exact h
theorem Ob.out {p : Prop} (h : Ob p) : p := by unfold Ob at h; exact h
@[irreducible] def Dn (p : Prop) : Prop := p
theorem Dn.mk {p : Prop} (h : p) : Dn p := by unfold Dn; exact h
theorem Dn.out {p : Prop} (h : Dn p) : p := by unfold Dn at h; exact h
/-! Comparisons are told so that the kernel does not reckon them: else it would run on where a condition's data are literals. -/
@[irreducible] noncomputable def ltI (x y : Int) : Bool := @decide (x < y) (Classical.propDecidable _)
@[irreducible] noncomputable def leI (x y : Int) : Bool := @decide (x ≤ y) (Classical.propDecidable _)
@[irreducible] noncomputable def eqI (x y : Int) : Bool := @decide (x = y) (Classical.propDecidable _)
@[irreducible] def addI (k : IntKind) (x y : Int) : Int := k.wrap (x + y)
@[irreducible] def subI (k : IntKind) (x y : Int) : Int := k.wrap (x - y)
@[irreducible] def mulI (k : IntKind) (x y : Int) : Int := k.wrap (x * y)
@[irreducible] def quoI (k : IntKind) (x y : Int) : Int := k.wrap (x.tdiv y)
@[irreducible] def remI (x y : Int) : Int := x.tmod y
@[irreducible] def cvtI (k : IntKind) (x : Int) : Int := k.wrap x
@[irreducible] def andI (k : IntKind) (x y : Int) : Int := k.wrap ((BitVec.ofInt k.bits x) &&& (BitVec.ofInt k.bits y)).toNat
@[irreducible] def orI (k : IntKind) (x y : Int) : Int := k.wrap ((BitVec.ofInt k.bits x) ||| (BitVec.ofInt k.bits y)).toNat
@[irreducible] def xorI (k : IntKind) (x y : Int) : Int := k.wrap ((BitVec.ofInt k.bits x) ^^^ (BitVec.ofInt k.bits y)).toNat
@[irreducible] def andnI (k : IntKind) (x y : Int) : Int := k.wrap ((BitVec.ofInt k.bits x) &&& ~~~(BitVec.ofInt k.bits y)).toNat
@[irreducible] def shlI (k : IntKind) (x y : Int) : Int := k.wrap (x * 2 ^ (min y.toNat k.bits))
@[irreducible] def shrI (k : IntKind) (x y : Int) : Int := x.fdiv (2 ^ (min y.toNat k.bits))
@[irreducible] def maxI (x y : Int) : Int := if y > x then y else x
@[irreducible] def minI (x y : Int) : Int := if y < x then y else x
@[irreducible] def subS (s : ByteArray) (l h : Nat) : ByteArray := s.extract l h
@[irreducible] def byteAt (s : ByteArray) (i : Nat) : Int := (s[i]?.map fun b => (b.toNat : Int)).getD 0
@[irreducible] def ltS (x y : ByteArray) : Bool := Op.bytesLess x.toList y.toList
@[irreducible] def addS (x y : ByteArray) : ByteArray := x ++ y
@[irreducible] def eqS (x y : ByteArray) : Bool := x.toList == y.toList
theorem eqI_beq {x y : Int} : eqI x y = (x == y) := by unfold eqI; rw [Bool.eq_iff_iff]; simp
theorem ltI_dec {x y : Int} : ltI x y = decide (x < y) := by unfold ltI; rw [Bool.eq_iff_iff]; simp
theorem leI_dec {x y : Int} : leI x y = decide (x ≤ y) := by unfold leI; rw [Bool.eq_iff_iff]; simp
theorem ltI_iff {x y : Int} : ltI x y = true ↔ x < y := by unfold ltI; simp
theorem leI_iff {x y : Int} : leI x y = true ↔ x ≤ y := by unfold leI; simp
theorem eqI_iff {x y : Int} : eqI x y = true ↔ x = y := by unfold eqI; simp
theorem ltI_not {x y : Int} : ltI x y = false ↔ y ≤ x := by unfold ltI; simp
theorem leI_not {x y : Int} : leI x y = false ↔ y < x := by unfold leI; simp
theorem eqI_not {x y : Int} : eqI x y = false ↔ x ≠ y := by unfold eqI; simp
theorem addI_i64 {x y : Int} (h1 : -9223372036854775808 ≤ x + y) (h2 : x + y ≤ 9223372036854775807) : addI .i64 x y = x + y := by
  unfold addI; simp only [IntKind.wrap, IntKind.bits, IntKind.signed]; simp; omega
theorem subI_i64 {x y : Int} (h1 : -9223372036854775808 ≤ x - y) (h2 : x - y ≤ 9223372036854775807) : subI .i64 x y = x - y := by
  unfold subI; simp only [IntKind.wrap, IntKind.bits, IntKind.signed]; simp; omega
@[irreducible] def exG (gc : Bool) (p q : SV → Prop) : Prop := ∃ v, (gc = true → p v) ∧ q v
theorem exG.mk {gc : Bool} {p q : SV → Prop} (v : SV) (h1 : gc = true → p v) (h2 : q v) : exG gc p q := by unfold exG; exact ⟨v, h1, h2⟩
theorem exG.out {gc : Bool} {p q : SV → Prop} (h : exG gc p q) : ∃ v, (gc = true → p v) ∧ q v := by unfold exG at h; exact h
@[irreducible] def exQ (p q : SV → Prop) : Prop := ∃ v, p v ∧ q v
theorem exQ.mk {p q : SV → Prop} (v : SV) (h1 : p v) (h2 : q v) : exQ p q := by unfold exQ; exact ⟨v, h1, h2⟩
theorem exQ.out {p q : SV → Prop} (h : exQ p q) : ∃ v, p v ∧ q v := by unfold exQ at h; exact h
@[irreducible] def exE (xs : List T) (i : Nat) (K : T → Prop) : Prop := ∀ x, nth xs i = some x → K x
theorem exE.mk {xs : List T} {i : Nat} {K : T → Prop} (h : ∀ x, nth xs i = some x → K x) : exE xs i K := by unfold exE; exact h
theorem exE.out {xs : List T} {i : Nat} {K : T → Prop} (h : exE xs i K) {x : T} (hx : nth xs i = some x) : K x := by unfold exE at h; exact h x hx
theorem nth_eq {α : Type} : ∀ (l : List α) (i : Nat), nth l i = l[i]?
  | [], _ => by simp [nth]
  | _ :: _, 0 => rfl
  | _ :: xs, n + 1 => by simp [nth, nth_eq xs n]
theorem exE.map {α : Type} {f : α → T} {bs : List α} {i : Nat} {K : T → Prop} (h : ∀ b, bs[i]? = some b → K (f b)) : exE (bs.map f) i K := by
  refine exE.mk fun x hx => ?_
  rw [nth_eq, List.getElem?_map] at hx
  cases hb : bs[i]? with
  | none => simp [hb] at hx
  | some b => simp [hb] at hx; subst hx; exact h b hb
@[irreducible] def nthD {α : Type} [Inhabited α] (l : List α) (i : Nat) : α := (l[i]?).getD default
theorem nthD_eq {α : Type} [Inhabited α] {l : List α} {i : Nat} {x : α} (h : l[i]? = some x) : nthD l i = x := by unfold nthD; rw [h]; rfl
theorem nthD_get {α : Type} [Inhabited α] {l : List α} {i : Nat} (h : i < l.length) : nthD l i = l[i] := nthD_eq (List.getElem?_eq_getElem h)
theorem exE.mapD {α : Type} [Inhabited α] {f : α → T} {bs : List α} {i : Nat} {K : T → Prop} (h : K (f (nthD bs i))) : exE (bs.map f) i K := by
  refine exE.mk fun x hx => ?_
  rw [nth_eq, List.getElem?_map] at hx
  cases hb : bs[i]? with
  | none => simp [hb] at hx
  | some b => simp [hb] at hx; subst hx; rwa [nthD_eq hb] at h
theorem exE.at {xs : List T} {i : Nat} {x : T} {K : T → Prop} (hx : nth xs i = some x) (h : K x) : exE xs i K := by
  refine exE.mk fun y hy => ?_
  rw [hx] at hy
  cases hy
  exact h
def sameK : IntKind → IntKind → Bool
  | .i8, .i8 | .i16, .i16 | .i32, .i32 | .i64, .i64 | .u8, .u8 | .u16, .u16 | .u32, .u32 | .u64, .u64 => true
  | _, _ => false
def sameM : MK → MK → Bool
  | .int j, .int k => sameK j k
  | .arr j m, .arr k n => sameK j k && Nat.beq m n
  | .str, .str => true
  | _, _ => false
/-! Lists of whole numbers, told by one. -/
def codeN : List Nat → Nat
  | [] => 0
  | a :: l => 2 ^ a * (2 * codeN l + 1)
theorem pow_odd : ∀ (a b m n : Nat), 2 ^ a * (2 * m + 1) = 2 ^ b * (2 * n + 1) → a = b ∧ m = n
  | 0, 0, m, n, h => by simp at h; exact ⟨rfl, by omega⟩
  | 0, b + 1, m, n, h => by rw [Nat.pow_succ, Nat.mul_assoc, Nat.mul_left_comm] at h; omega
  | a + 1, 0, m, n, h => by rw [Nat.pow_succ, Nat.mul_assoc, Nat.mul_left_comm] at h; omega
  | a + 1, b + 1, m, n, h => by
    rw [Nat.pow_succ, Nat.mul_assoc, Nat.mul_left_comm, Nat.pow_succ (n := 2) (m := b), Nat.mul_assoc (2 ^ b), Nat.mul_left_comm (2 ^ b)] at h
    have := pow_odd a b m n (by omega)
    exact ⟨by omega, this.2⟩
theorem codeN_inj : ∀ {l k : List Nat}, codeN l = codeN k → l = k
  | [], [], _ => rfl
  | [], b :: k, h => by
    unfold codeN at h
    have : 0 < 2 ^ b * (2 * codeN k + 1) := Nat.mul_pos (Nat.pow_pos (by omega)) (by omega)
    omega
  | a :: l, [], h => by
    unfold codeN at h
    have : 0 < 2 ^ a * (2 * codeN l + 1) := Nat.mul_pos (Nat.pow_pos (by omega)) (by omega)
    omega
  | a :: l, b :: k, h => by
    unfold codeN at h
    have := pow_odd _ _ _ _ h
    rw [this.1, codeN_inj this.2]
theorem code_ex : ∃ f : List Int → Int, ∀ a b, f a = f b → a = b := by
  refine ⟨fun l => (codeN (l.map fun n => if n < 0 then 2 * (-n).toNat + 1 else 2 * n.toNat) : Nat), fun a b h => ?_⟩
  have h := codeN_inj (Int.ofNat.inj h)
  rename_i h0
  clear h0
  revert h
  induction a generalizing b with
  | nil => intro h; cases b with | nil => rfl | cons => simp at h
  | cons x a ih =>
    intro h
    cases b with
    | nil => simp at h
    | cons y b =>
      simp only [List.map_cons, List.cons.injEq] at h
      rw [ih b h.2]
      have := h.1
      congr 1
      split at this <;> split at this <;> omega
noncomputable def codeL : List Int → Int := Classical.choose code_ex
theorem codeL_inj {a b : List Int} (h : codeL a = codeL b) : a = b := Classical.choose_spec code_ex a b h
noncomputable def codeS (s : ByteArray) : Int := codeL (s.data.toList.map fun b => (b.toNat : Int))
theorem codeS_inj {a b : ByteArray} (h : codeS a = codeS b) : a = b := by
  have h := codeL_inj h
  have : a.data.toList = b.data.toList := by
    generalize a.data.toList = x at *
    generalize b.data.toList = y at *
    induction x generalizing y with
    | nil => cases y with | nil => rfl | cons => simp at h
    | cons x l ih =>
      cases y with
      | nil => simp at h
      | cons y k =>
        simp only [List.map_cons, List.cons.injEq] at h
        rw [ih k h.2]
        congr 1
        exact UInt8.toNat_inj.1 (Int.ofNat.inj h.1)
  cases a; cases b
  congr 1
  exact Array.ext' this
abbrev onBool (c : Bool) (p q : Prop) : Prop := match c with | true => p | false => q
def force1 (x : T) (K : T → Prop) : Prop := match x with
  | .bool b => K (.bool b) | .int k n => K (.int k n) | .str s => K (.str s) | .agg xs => K (.agg xs) | .tup xs => K (.tup xs) | .sl sz xs => K (.sl sz xs)
  | .nsl => K .nsl | .esl => K .esl | .ptr cs => K (.ptr cs) | .nptr => K .nptr | .fn f c => K (.fn f c) | .nfn => K .nfn | .iface t x => K (.iface t x) | .nif => K .nif | .map kk es => K (.map kk es) | .any => K .any | .own x => K (.own x) | .box x => K (.box x) | .nst E sz xs => K (.nst E sz xs) | .nmp kk es => K (.nmp kk es) | .yl l => K (.yl l) | .arr xs => K (.arr xs)
def forceTs : List T → (List T → Prop) → Prop
  | [], K => K []
  | x :: xs, K => force1 x fun x => forceTs xs fun xs => K (x :: xs)
def forceT (x : T) (K : T → Prop) : Prop := match x with
  | .bool b => K (.bool b) | .int k n => K (.int k n) | .str s => K (.str s) | .agg xs => forceTs xs fun xs => K (.agg xs) | .tup xs => forceTs xs fun xs => K (.tup xs) | .sl sz xs => K (.sl sz xs)
  | .nsl => K .nsl | .esl => K .esl | .ptr cs => forceTs cs fun cs => K (.ptr cs) | .nptr => K .nptr | .fn f c => forceTs c fun c => K (.fn f c) | .nfn => K .nfn | .iface t x => K (.iface t x) | .nif => K .nif | .map kk es => K (.map kk es) | .any => K .any | .own x => K (.own x) | .box x => K (.box x) | .nst E sz xs => K (.nst E sz xs) | .nmp kk es => K (.nmp kk es) | .yl l => K (.yl l) | .arr xs => K (.arr xs)
def forceS1 (v : SV) (K : SV → Prop) : Prop := match v with
  | .t x => force1 x fun x => K (.t x)
  | .ref k e p off len => K (.ref k e p off len) | .pl k e p i off => K (.pl k e p i off) | .mp k e p => K (.mp k e p) | .agg xs => K (.agg xs) | .tup xs => K (.tup xs) | .fn f c => K (.fn f c) | .g c v => K (.g c v)
def forceSs : List SV → (List SV → Prop) → Prop
  | [], K => K []
  | x :: xs, K => forceS1 x fun x => forceSs xs fun xs => K (x :: xs)
def force (v : SV) (K : SV → Prop) : Prop := match v with
  | .t x => forceT x fun x => K (.t x)
  | .ref k e p off len => K (.ref k e p off len) | .pl k e p i off => K (.pl k e p i off) | .mp k e p => K (.mp k e p) | .agg xs => forceSs xs fun xs => K (.agg xs) | .tup xs => forceSs xs fun xs => K (.tup xs) | .fn f c => forceSs c fun c => K (.fn f c) | .g c v => K (.g c v)
def forceO (o : SObj) (K : SObj → Prop) : Prop := match o with
  | .var E cs => forceSs cs fun cs => K (.var E cs)
  | .nd ep (.row E sz ts) => K (.nd ep (.row E sz ts))
  | .nd ep (.map kk es) => K (.nd ep (.map kk es))
  | .dead => K .dead
def forceSto : List SObj → (List SObj → Prop) → Prop
  | [], K => K []
  | o :: os, K => forceO o fun o => forceSto os fun os => K (o :: os)
def mkT (agg : Bool) (size : Nat) (cs : List T) : T := bif agg then .agg (cs.take size) else cs.headD .any
def mkS (agg : Bool) (size : Nat) (cs : List SV) : SV := bif agg then .agg (cs.take size) else cs.headD .any
/-! ### freezing: what is of the call's own, as it now stands -/
def mapO {α β : Type} (f : α → Option β) : List α → Option (List β)
  | [] => some []
  | x :: xs => match f x with | none => none | some y => match mapO f xs with | none => none | some ys => some (y :: ys)
def nodeAt : Nd → Path → Option Nd
  | n, [] => some n
  | .row _ _ ts, (i, j) :: p => match nth ts i with
    | some x => match nth x.cells j with
      | some c => match c.nd? with
        | some n => nodeAt n p
        | none => none
      | none => none
    | none => none
  | .map .., _ :: _ => none
def nodeK : Nd → Path → (Nd → Prop) → Prop
  | n, [], K => K n
  | .row _ _ ts, (i, j) :: p, K => Ob (i < ts.length) ∧ exE ts i fun x => match nth x.cells j with
    | some c => match c.nd? with
      | some n => nodeK n p K
      | none => False
    | none => False
  | .map .., _ :: _, _ => False
@[irreducible] def exS (xs : List T) (off len : Nat) (K : List T → Prop) : Prop := K ((xs.drop off).take len)
theorem exS.full {xs : List T} {len : Nat} {K : List T → Prop} (hl : len = xs.length) (h : K xs) : exS xs 0 len K := by unfold exS; rw [hl]; simpa using h
theorem exS.part {xs : List T} {off len : Nat} {K : List T → Prop} (h : K ((xs.drop off).take len)) : exS xs off len K := by unfold exS; exact h
theorem exS.out {xs : List T} {off len : Nat} {K : List T → Prop} (h : exS xs off len K) : K ((xs.drop off).take len) := by unfold exS at h; exact h
def frzKs (f : SV → (T → Prop) → Prop) : List SV → (List T → Prop) → Prop
  | [], K => K []
  | x :: xs, K => f x fun y => frzKs f xs fun ys => K (y :: ys)
def frzK : Nat → Sto → SV → (T → Prop) → Prop
  | _, _, .t x, K => K x
  | 0, _, _, _ => False
  | n + 1, σ, .agg xs, K => frzKs (frzK n σ) xs fun ts => K (.agg ts)
  | n + 1, σ, .tup xs, K => frzKs (frzK n σ) xs fun ts => K (.tup ts)
  | n + 1, σ, .fn f xs, K => frzKs (frzK n σ) xs fun ts => K (.fn f ts)
  | n + 1, σ, .pl k e p i off, K => match nth σ k with
    | some (.var _ cs) => match p, i with | [], 0 => frzKs (frzK n σ) cs fun ts => K (.ptr (ts.drop off)) | _, _ => False
    | some (.nd ep nd) => Ob (e = ep p.length) ∧ nodeK nd p fun m => match m with
      | .row _ _ xs => Ob (i < xs.length) ∧ exE xs i fun x => K (.ptr (x.cells.drop off))
      | .map .. => False
    | _ => False
  | _ + 1, σ, .ref k e p off len, K => match nth σ k with
    | some (.nd ep nd) => Ob (e = ep p.length) ∧ nodeK nd p fun m => match m with
      | .row _ s xs => exS xs off len fun xs => K (.sl s xs)
      | .map .. => False
    | _ => False
  | _ + 1, σ, .mp k e p, K => match nth σ k with
    | some (.nd ep nd) => Ob (e = ep p.length) ∧ nodeK nd p fun m => match m with
      | .map kk es => K (.map kk es)
      | .row .. => False
    | _ => False
  | _, _, .g .., _ => False
def ids : Nat → Sto → SV → List Nat
  | _, _, .t _ => []
  | 0, _, _ => []
  | n + 1, σ, .agg xs | n + 1, σ, .tup xs | n + 1, σ, .fn _ xs => xs.flatMap (ids n σ)
  | n + 1, σ, .pl k _ _ _ _ => k :: match nth σ k with
    | some (.var _ cs) => cs.flatMap (ids n σ)
    | _ => []
  | _ + 1, _, .ref k _ _ _ _ => [k]
  | _ + 1, _, .mp k _ _ => [k]
  | _, _, .g .. => []
def frzL (σ : Sto) (xs : List SV) (K : List T → Prop) : Prop := frzKs (frzK 20 σ) xs K
def kills : List Nat → Sto → Sto
  | [], σ => σ
  | k :: ks, σ => kills ks (σ.set k .dead)
def T.plain : T → Bool
  | .bool _ | .int .. | .str _ | .nsl | .esl | .nptr | .nfn | .nif => true
  | _ => false
def T.flat : T → Bool
  | .agg xs | .tup xs => xs.all T.plain
  | x => x.plain
/-! ### operations -/
theorem bif_elim0 {b : Bool} {p : Prop} (h : bif b then p else False) : b = true ∧ p := by cases b <;> simp_all
def intOp (op : BinOp) (k : IntKind) (x y : Int) (K : T → Prop) : Prop :=
  match op with
  | .add => K (.int k (addI k x y))
  | .sub => K (.int k (subI k x y))
  | .mul => K (.int k (mulI k x y))
  | .quo => Ob (y ≠ 0) ∧ K (.int k (quoI k x y))
  | .rem => Ob (y ≠ 0) ∧ K (.int k (remI x y))
  | .eql => K (.bool (eqI x y))
  | .neq => K (.bool (!eqI x y))
  | .lss => K (.bool (ltI x y))
  | .leq => K (.bool (leI x y))
  | .gtr => K (.bool (ltI y x))
  | .geq => K (.bool (leI y x))
  | .and => K (.int k (andI k x y))
  | .or => K (.int k (orI k x y))
  | .xor => K (.int k (xorI k x y))
  | .andNot => K (.int k (andnI k x y))
  | .shl => Ob (0 ≤ y) ∧ K (.int k (shlI k x y))
  | .shr => Ob (0 ≤ y) ∧ K (.int k (shrI k x y))
def leaf1 : T → Bool
  | .nst .. | .nmp .. | .agg _ | .arr _ | .tup _ | .any | .own .. => false
  | _ => true
def isArr : TI → Bool
  | .arr .. => true
  | _ => false
def IntA (k : IntKind) (xs : List T) : Prop := ∀ x ∈ xs, ∃ n, x = .int k n
noncomputable def eqT1 (ti : TI) (x y : T) : Option Bool := match ti, x, y with
  | .int _, .int j a, .int k b => bif sameK j k then some (eqI a b) else none
  | .bool, .bool a, .bool b => some (a == b)
  | .str, .str a, .str b => some (eqS a b)
  | _, _, _ => none
noncomputable def eqF (tt : Tab) : List (TypeId × Nat) → List T → List T → Option Bool
  | [], [], [] => some true
  | [f], [x], [y] => eqT1 (tt.at f.1).ti x y
  | f :: fs, x :: xs, y :: ys => match eqT1 (tt.at f.1).ti x y, eqF tt fs xs ys with | some a, some b => some (a && b) | _, _ => none
  | _, _, _ => none
@[irreducible] noncomputable def eqA (xs ys : List T) : Bool := @decide (xs = ys) (Classical.propDecidable _)
theorem eqA_iff {xs ys : List T} : eqA xs ys = true ↔ xs = ys := by
  unfold eqA
  exact @decide_eq_true_iff _ (Classical.propDecidable _)
def binT (tt : Tab) (op : BinOp) (t : TypeId) (x y : T) (K : T → Prop) : Prop :=
  match x, y with
  | .int k a, .int k' b => bif (match op with | .shl => true | .shr => true | _ => sameK k k') then intOp op k a b K else False
  | .bool a, .bool b => bif (match (tt.at t).ti with | .bool => true | _ => false) then (match op with | .eql => K (.bool (a == b)) | .neq => K (.bool (!(a == b))) | _ => False) else False
  | .str a, .str b => (match op with | .eql => K (.bool (eqS a b)) | .neq => K (.bool (!eqS a b)) | .lss => K (.bool (ltS a b)) | .leq => K (.bool (ltS a b || eqS a b)) | .gtr => K (.bool (!(ltS a b || eqS a b))) | .geq => K (.bool (!ltS a b)) | .add => Ob (a.size + b.size ≤ 9223372036854775807) ∧ K (.str (addS a b)) | _ => False)
  | .agg xs, .agg ys => bif (tt.at t).cmp then (match (tt.at t).ti with
    | .struct fs => (match eqF tt fs xs ys with
      | some b => match op with | .eql => K (.bool b) | .neq => K (.bool (!b)) | _ => False
      | none => False)
    | _ => False) else False
  | .arr xs, .arr ys => bif (tt.at t).cmp then (match (tt.at t).ti with
    | .arr m e => (match (tt.at e).ti with
      | .int k => Ob (xs.length = m) ∧ Ob (ys.length = m) ∧ Ob (IntA k xs) ∧ Ob (IntA k ys) ∧ (match op with | .eql => K (.bool (eqA xs ys)) | .neq => K (.bool (!eqA xs ys)) | _ => False)
      | _ => False)
    | _ => False) else False
  | .nsl, .nsl => bif (match (tt.at t).ti with | .slice _ => true | _ => false) then (match op with | .eql => K (.bool true) | .neq => K (.bool false) | _ => False) else False
  | .sl _ xs, .nsl => bif (match (tt.at t).ti with | .slice _ => true | _ => false) then (match op with | .eql => ∀ b, (xs ≠ [] → b = false) → K (.bool b) | .neq => ∀ b, (xs ≠ [] → b = true) → K (.bool b) | _ => False) else False
  | _, _ => False
def normS (v : SV) : SV := match v with
  | .agg xs => match mapO (fun | .t x => some x | _ => none) xs with | some ts => .t (.agg ts) | none => v
  | _ => v
structure Ctr where
  pc : FuncId → List T → (T → Prop) → Prop
  ic : FuncId → List SV → Sto → (SV → Sto → Prop) → Prop
  inl : FuncId → Bool
  yc : Nat → List SV → Sto → (SV → Sto → Prop) → Prop
  rc : FuncId → List SV → (List SV → Sto → (Sto → Prop) → Prop) → Sto → (Sto → Prop) → Prop
def Ctr.noY (C : Ctr) : Ctr := { C with yc := fun _ _ _ _ => False }
variable (C : Ctr) (tt : Tab)
def fieldOf (t : TypeId) (f : Nat) : TypeId × Nat := match (tt.at t).ti with | .struct fs => (nth fs f).getD (0, 0) | _ => (0, 0)
def hasField (t : TypeId) (f : Nat) : Bool := match (tt.at t).ti with
  | .struct fs => (match nth fs f with | some x => (tt.at x.1).ti.good && Nat.blt 0 (tt.at x.1).size | none => false)
  | _ => false
def mkOf (kt : TypeId) : Option MK := match (tt.at kt).ti with
  | .int k => some (.int k)
  | .str => some .str
  | .arr m e => match (tt.at e).ti with
    | .int k => some (.arr k m)
    | _ => none
  | _ => none
def intsK (k : IntKind) : List T → (List Int → Prop) → Prop
  | [], C => C []
  | x :: xs, C => match x with
    | .int j n => bif sameK j k then intsK k xs fun ns => C (n :: ns) else False
    | _ => False
def keyK (kt : TypeId) (x : SV) (C : MK → Int → Prop) : Prop := match (tt.at kt).ti, x with
  | .int kk', .t (.int kk n) => bif sameK kk kk' then C (.int kk) n else False
  | .str, .t (.str s) => C .str (codeS s)
  | .arr m e, .t (.arr xs) => match (tt.at e).ti with
    | .int k => Ob (xs.length = m) ∧ intsK k xs fun ns => C (.arr k m) (codeL ns)
    | _ => False
  | _, _ => False
def FlatA (xs : List T) : Prop := ∀ x ∈ xs, leaf1 x = true
def bsA (E : TypeId) (n : Nat) (env : Env) (ps : List (Nat × Operand)) (σ : Sto) (K : SV → Sto → Prop) : Prop := match ps with
  | [(0, x)] => match ev env x with
    | .t (.arr ys) => bif Nat.beq n 1 && (tt.at E).ti.good && Nat.blt 1 (tt.at E).size && Nat.ble (tt.at E).size 16777216 then Ob (ys.length = (tt.at E).size) ∧ Ob (FlatA ys) ∧ forceTs ys fun ys => forceSto (σ ++ [.row E (tt.at E).size [.arr ys]]) (K (.osl σ.length 0 1)) else False
    | _ => False
  | _ => False
def partA (env : Env) : List (Nat × Operand) → List T → Option (List T)
  | [], cs => some cs
  | (i, x) :: ps, cs => match ev env x with
    | .t y => bif leaf1 y && Nat.blt i cs.length then partA env ps (cs.set i y) else none
    | _ => none
def cellsR (k e : Nat) (p : Path) (i : Nat) : Nat → List T → List SV
  | _, [] => []
  | j, y :: ys => (match y with | .nst _ _ xs => SV.ref k e (p ++ [(i, j)]) 0 xs.length | .nmp _ _ => SV.mp k e (p ++ [(i, j)]) | y => .t y) :: cellsR k e p i (j + 1) ys
def loadOp (t : TypeId) (x : SV) (σ : Sto) (K : SV → Prop) : Prop :=
  let e := tt.at t
  bif e.ti.good then match x with
  | .t (.ptr cs) => Ob (e.size ≤ cs.length) ∧ K (.t (mkT e.ti.isAgg e.size cs))
  | .pl k ee p i off => match nth σ k with
    | some (.var _ cs) => match p with
      | [] => Ob (i = 0) ∧ Ob (off + e.size ≤ cs.length) ∧ K (mkS e.ti.isAgg e.size (cs.drop off))
      | _ => False
    | some (.nd ep n) => Ob (ee = ep p.length) ∧ nodeK n p fun m => match m with
      | .row E sz xs => bif isArr (tt.at E).ti && !e.ti.isAgg && !Nat.beq sz 1 then Ob (i < xs.length) ∧ Ob (off < sz) ∧ exE xs i fun x => exE x.cells off fun y => bif leaf1 y then K (.t y) else False
        else Ob (i < xs.length) ∧ Ob (off + e.size ≤ sz) ∧ exE xs i fun x => K (normS (mkS e.ti.isAgg e.size ((cellsR k (ep (p.length + 1)) p i 0 x.cells).drop off)))
      | .map .. => False
    | _ => False
  | _ => False
  else False
def setCells (cs : List SV) (off : Nat) (vs : List SV) : List SV := cs.take off ++ vs ++ cs.drop (off + vs.length)
def setT (sz : Nat) (x : T) (off : Nat) (vs : List T) : T := bif Nat.beq sz 1 then vs.headD .any else .agg (x.cells.take off ++ vs ++ x.cells.drop (off + vs.length))
def noNst : T → Bool
  | .nst .. => false
  | .nmp .. => false
  | _ => true
def Flat (ys : List T) : Prop := ∀ y ∈ ys, ∀ c ∈ y.cells, noNst c = true
def setAt : Nd → Path → Nd → Nd
  | _, [], m => m
  | .row E sz ts, (i, j) :: p, m => match nth ts i with
    | some x => match nth x.cells j with
      | some c => match c.nd? with
        | some n => .row E sz (ts.set i (setT sz x j [(setAt n p m).toT]))
        | none => .row E sz ts
      | none => .row E sz ts
    | none => .row E sz ts
  | .map kk es, _ :: _, _ => .map kk es
def updK : Nd → Path → (Nd → (Nd → Prop) → Prop) → (Nd → Prop) → Prop
  | n, [], u, K => u n K
  | .row E sz ts, (i, j) :: p, u, K => Ob (i < ts.length) ∧ exE ts i fun x => match nth x.cells j with
    | some c => match c.nd? with
      | some n => updK n p u fun n' => K (.row E sz (ts.set i (setT sz x j [n'.toT])))
      | none => False
    | none => False
  | .map .., _ :: _, _, _ => False
def lastP : Nat × Nat → Path → Path × (Nat × Nat)
  | q, [] => ([], q)
  | q, q' :: p => ((q :: (lastP q' p).1), (lastP q' p).2)
def detK (k e : Nat) (q : Nat × Nat) (p : Path) (σ : Sto) (K : Nd → Sto → Prop) : Prop := match nth σ k with
  | some (.nd ep n) => Ob (e = ep (p.length + 1)) ∧ match lastP q p with
    | (p0, (i, j)) => updK n p0 (fun m K' => match m with
      | .row E sz ts => Ob (i < ts.length) ∧ exE ts i fun x => match nth x.cells j with
        | some c => match c.nd? with
          | some _ => K' (.row E sz (ts.set i (setT sz x j [.any])))
          | none => False
        | none => False
      | .map .. => False) fun n' => nodeK n (q :: p) fun m => K m (σ.set k (.nd ep n') ++ [.nd e0 m])
  | _ => False
def tak1 (s : SV) (σ : Sto) (K : SV → Sto → Prop) : Prop := match s with
  | .ref k e (q :: p) off len => detK k e q p σ fun _ σ' => Ob (off = 0) ∧ K (.ref σ.length 0 [] 0 len) σ'
  | .mp k e (q :: p) => detK k e q p σ fun _ σ' => K (.mp σ.length 0 []) σ'
  | s => K s σ
def takL : List SV → Sto → (List SV → Sto → Prop) → Prop
  | [], σ, K => K [] σ
  | s :: ss, σ, K => tak1 s σ fun s' σ' => takL ss σ' fun ss' σ'' => K (s' :: ss') σ''
def partK (σ : Sto) (s : SV) (K : T → Prop) : Prop := match s with
  | .t y => bif leaf1 y then K y else False
  | .ref k e [] off len => match nth σ k with
    | some (.nd _ (.row E s ts)) => Ob (e = 0 ∧ off = 0 ∧ len = ts.length) ∧ K (.nst E s ts)
    | _ => False
  | .mp k e [] => match nth σ k with
    | some (.nd _ (.map kk es)) => Ob (e = 0) ∧ K (.nmp kk es)
    | _ => False
  | .fn f xs => match mapO (fun | .t x => some x | _ => none) xs with
    | some ts => K (.fn f ts)
    | none => False
  | _ => False
def partL (σ : Sto) : List SV → (List T → Prop) → Prop
  | [], K => K []
  | s :: ss, K => partK σ s fun y => partL σ ss fun ys => K (y :: ys)
def unlikeIds : List Nat → Bool
  | [] => true
  | k :: ks => !ks.contains k && unlikeIds ks
def mkEl (sz : Nat) (ys : List T) : T := bif Nat.beq sz 1 then ys.headD .any else .agg ys
def els (sz : Nat) : Nat → List T → List T
  | 0, _ => []
  | n + 1, ys => mkEl sz (ys.take sz) :: els sz n (ys.drop sz)
def keepK (k ep1 : Nat) (p : Path) (i : Nat) : Nat → List SV → Sto → (List SV → Sto → Prop) → Prop
  | _, [], σ, K => K [] σ
  | j, s :: ss, σ, K => match s with
    | .ref k2 e2 (q :: p2) off2 len2 => (Ob (k2 = k ∧ q :: p2 = p ++ [(i, j)] ∧ off2 = 0 ∧ e2 = ep1) ∧ keepK k ep1 p i (j + 1) ss σ fun ss' σ' => K (s :: ss') σ') ∨
        (tak1 s σ fun s' σ' => keepK k ep1 p i (j + 1) ss σ' fun ss' σ'' => K (s' :: ss') σ'')
    | .mp k2 e2 (q :: p2) => (Ob (k2 = k ∧ q :: p2 = p ++ [(i, j)] ∧ e2 = ep1) ∧ keepK k ep1 p i (j + 1) ss σ fun ss' σ' => K (s :: ss') σ') ∨
        (tak1 s σ fun s' σ' => keepK k ep1 p i (j + 1) ss σ' fun ss' σ'' => K (s' :: ss') σ'')
    | s => tak1 s σ fun s' σ' => keepK k ep1 p i (j + 1) ss σ' fun ss' σ'' => K (s' :: ss') σ''
def cellsT (σ : Sto) : List T → List SV → (List T → Prop) → Prop
  | _, [], K => K []
  | [], _ :: _, _ => False
  | x :: xs, s :: ss, K => match s with
    | .ref _ _ (_ :: _) _ len => match x with
      | .nst E sz ts => Ob (len = ts.length) ∧ cellsT σ xs ss fun ys => K (.nst E sz ts :: ys)
      | _ => False
    | .mp _ _ (_ :: _) => match x with
      | .nmp kk es => cellsT σ xs ss fun ys => K (.nmp kk es :: ys)
      | _ => False
    | s => partK σ s fun y => cellsT σ xs ss fun ys => K (y :: ys)
def putIds : List SV → List Nat
  | [] => []
  | .ref k _ [] _ _ :: xs => k :: putIds xs
  | .mp k _ [] :: xs => k :: putIds xs
  | _ :: xs => putIds xs
def rootId : SV → Option Nat
  | .ref k _ [] _ _ => some k
  | .mp k _ [] => some k
  | _ => none
theorem putIds_cons (s : SV) (l : List SV) : putIds (s :: l) = (match rootId s with | some k => k :: putIds l | none => putIds l) := by
  unfold rootId
  split
  · rename_i h; split at h <;> first | (injection h with h; subst h; rfl) | exact nomatch h
  · rename_i h
    split at h
    · exact nomatch h
    · exact nomatch h
    · rename_i n1 n2
      cases s with
      | ref k e p off len => cases p with | nil => exact absurd rfl (n1 _ _ _ _) | cons => rfl
      | mp k e p => cases p with | nil => exact absurd rfl (n2 _ _) | cons => rfl
      | _ => rfl
def storeOp (t : TypeId) (x v : SV) (σ : Sto) (K : Sto → Prop) : Prop :=
  let e := tt.at t
  bif e.ti.good && v.cells.all SV.leaf then match x with
  | .pl k ee p i off => match nth σ k with
    | some (.var E cs) => match p with
      | [] => Ob (i = 0) ∧ Ob (v.cells.length = e.size) ∧ Ob (off + e.size ≤ cs.length) ∧ forceSto (σ.set k (.var E (setCells cs off v.cells))) K
      | _ => False
    | some (.nd ep0 _) => keepK k (ep0 (p.length + 1)) p i off v.cells σ fun ss σ1 => match nth σ1 k with
      | some (.nd ep n) => bif unlikeIds (putIds ss) && !(putIds ss).contains k && !ss.isEmpty then Ob (v.cells.length = e.size) ∧ Ob (ee = ep p.length) ∧ Ob (ep (p.length + 1) = ep0 (p.length + 1)) ∧ updK n p (fun m K' => match m with
          | .row E sz xs => Ob (i < xs.length) ∧ Ob (off + e.size ≤ sz) ∧ exE xs i fun x => cellsT σ1 (x.cells.drop off) ss fun ys => K' (.row E sz (xs.set i (setT sz x off ys)))
          | .map .. => False) fun n' => forceSto ((kills (putIds ss) σ1).set k (.nd (bif (putIds ss).isEmpty then ep else bumpE (p.length + 1) ep) n')) K
        else False
      | _ => False
    | _ => False
  | _ => False
  else False
def arrNew (t : TypeId) (xs : List T) (σ : Sto) (K : SV → Sto → Prop) : Prop := bif Nat.blt 0 (tt.at t).size && Nat.ble (tt.at t).size 16777216 then forceSto (σ ++ [.row t 1 xs]) (K (.pl σ.length 0 [] 0 0)) else False
def loadArr (t : TypeId) (x : SV) (σ : Sto) (K : SV → Prop) : Prop :=
  bif (tt.at t).ti.good then match x with
  | .t (.ptr cs) => Ob (cs.length = (tt.at t).size) ∧ K (.t (.arr cs))
  | .pl k ee p i off => match p, nth σ k with
    | [], some (.nd ep (.row _ sz xs)) => bif Nat.beq sz 1 then Ob (ee = ep 0) ∧ Ob (off = 0) ∧ Ob (i + (tt.at t).size ≤ xs.length) ∧ exS xs i (tt.at t).size fun ys => Ob (FlatA ys) ∧ K (.t (.arr ys))
      else Ob (ee = ep 0) ∧ Ob (off = 0) ∧ Ob (sz = (tt.at t).size) ∧ Ob (i < xs.length) ∧ exE xs i fun x => Ob (FlatA x.cells) ∧ K (.t (.arr x.cells))
    | _, _ => False
  | _ => False
  else False
def storeArr (t : TypeId) (x v : SV) (σ : Sto) (K : Sto → Prop) : Prop :=
  bif (tt.at t).ti.good && Nat.blt 0 (tt.at t).size then match x, v with
  | .pl k ee p i off, .t (.arr ys) => match p, nth σ k with
    | [], some (.nd ep (.row E sz xs)) => bif Nat.beq sz 1 then Ob (ee = ep 0) ∧ Ob (off = 0) ∧ Ob (i = 0) ∧ Ob (xs.length = (tt.at t).size) ∧ Ob (ys.length = (tt.at t).size) ∧ Ob (FlatA ys) ∧ forceSto (σ.set k (.nd ep (.row E 1 ys))) K
      else Ob (ee = ep 0) ∧ Ob (off = 0) ∧ Ob (sz = (tt.at t).size) ∧ Ob (i < xs.length) ∧ Ob (ys.length = (tt.at t).size) ∧ Ob (FlatA ys) ∧ Ob (Flat xs) ∧ forceSto (σ.set k (.nd ep (.row E sz (xs.set i (.arr ys))))) K
    | _, _ => False
  | _, _ => False
  else False
def mkElT (arr : Bool) (sz : Nat) (ys : List T) : T := bif arr && !Nat.beq sz 1 then .arr ys else mkEl sz ys
def lenOp (ti : TI) (x : SV) (σ : Sto) (K : SV → Prop) : Prop :=
  match ti, x with
  | .slice _, .t (.sl _ xs) => xs.length ≤ 2 ^ 48 → K (.t (.int .i64 xs.length))
  | .slice _, .t .nsl => K (.t (.int .i64 0))
  | .slice _, .t .esl => K (.t (.int .i64 0))
  | .str, .t (.str s) => K (.t (.int .i64 s.size))
  | .slice _, .ref _ _ _ _ len => len ≤ 2 ^ 48 → K (.t (.int .i64 len))
  | .map .., .mp k e p => match nth σ k with
    | some (.nd ep n) => Ob (e = ep p.length) ∧ nodeK n p fun m => match m with
      | .map _ es => K (.t (.int .i64 es.length))
      | .row .. => False
    | _ => False
  | _, _ => False
def srcK (esz : Nat) (y : SV) (σ : Sto) (K : List T → List Nat → Prop) : Prop := match y with
  | .t (.sl sz ys) => bif Nat.beq sz esz then Ob (Flat ys) ∧ K ys [] else False
  | .t .nsl => K [] []
  | .t .esl => K [] []
  | .ref k e p off len => match nth σ k with
    | some (.nd ep n) => Ob (e = ep p.length) ∧ nodeK n p fun m => match m with
      | .row _ sz xs => bif Nat.beq sz esz then exS xs off len fun ys => (Ob (Flat ys) ∧ K ys []) ∨ (match p with | [] => K ys [k] | _ => False) else False
      | .map .. => False
    | _ => False
  | _ => False
def appendOp (E : TypeId) (x y : SV) (σ : Sto) (K : SV → Sto → Prop) : Prop :=
  let e := tt.at E
  bif e.ti.good && Nat.blt 0 e.size then tak1 x σ fun x σ1 => srcK e.size y σ1 fun ys L => match x with
    | .t .nsl => Ob (ys.length * e.bytes ≤ 2 ^ 47) ∧ Ob (ys.length ≤ 2 ^ 48) ∧ forceSto (kills L σ1 ++ [.row E e.size ys]) (K (.osl σ1.length 0 ys.length))
    | .t .esl => Ob (ys.length * e.bytes ≤ 2 ^ 47) ∧ Ob (ys.length ≤ 2 ^ 48) ∧ forceSto (kills L σ1 ++ [.row E e.size ys]) (K (.osl σ1.length 0 ys.length))
    | .ref k ee [] off len => match nth σ1 k with
      | some (.nd ep (.row E' sz ts)) => bif L.contains k || !Nat.beq ee 0 then False else Ob (E' = E ∧ sz = e.size) ∧ Ob ((len + ys.length) * e.bytes ≤ 2 ^ 47) ∧ Ob (len + ys.length ≤ 2 ^ 48) ∧
          exS ts off len fun ts => forceSto ((kills L σ1).set k .dead ++ [.row E e.size (ts ++ ys)]) (K (.osl σ1.length 0 (len + ys.length)))
      | _ => False
    | _ => False
  else False
def look (n : Int) : List (Int × T) → Option T
  | [] => none
  | (m, v) :: es => if m = n then some v else look n es
def putE (n : Int) (v : T) : List (Int × T) → List (Int × T)
  | [] => [(n, v)]
  | (m, u) :: es => if m = n then (n, v) :: es else (m, u) :: putE n v es
/-! An entry of a map, asked for its place, and written behind it. -/
def idxE0 (n : Int) : List (Int × T) → Nat
  | [] => 0
  | (m, _) :: es => if m = n then 0 else idxE0 n es + 1
def entE0 (n : Int) (z : T) : List (Int × T) → List (Int × T)
  | [] => [(n, z)]
  | (m, u) :: es => if m = n then (m, u) :: es else (m, u) :: entE0 n z es
def setE0 (v : T) : List (Int × T) → Nat → List (Int × T)
  | [], _ => []
  | (m, _) :: es, 0 => (m, v) :: es
  | x :: es, j + 1 => x :: setE0 v es j
@[irreducible] def idxE (n : Int) (es : List (Int × T)) : Nat := idxE0 n es
@[irreducible] def entE (n : Int) (z : T) (es : List (Int × T)) : List (Int × T) := entE0 n z es
theorem idxE_lt0 {n : Int} {z : T} : ∀ {es : List (Int × T)}, idxE0 n es < (entE0 n z es).length
  | [] => Nat.zero_lt_one
  | (m, u) :: es => by
    unfold idxE0 entE0
    split
    · exact Nat.succ_pos _
    · have := idxE_lt0 (n := n) (z := z) (es := es)
      simp; omega
theorem setE_put {n : Int} {z v : T} : ∀ {es : List (Int × T)}, setE0 v (entE0 n z es) (idxE0 n es) = putE n v es
  | [] => rfl
  | (m, u) :: es => by
    unfold idxE0 entE0 putE
    split
    · rename_i h
      subst h; rfl
    · have := setE_put (n := n) (z := z) (v := v) (es := es)
      unfold setE0
      rw [this]
theorem look_ent {m n : Int} {z : T} : ∀ {es : List (Int × T)}, (look m (entE0 n z es)).getD z = (look m es).getD z
  | [] => by
    unfold entE0 look
    split
    · rfl
    · rfl
  | (k, u) :: es => by
    unfold entE0
    split
    · rfl
    · unfold look
      split
      · rfl
      · exact look_ent
theorem look_putE {m n : Int} {v : T} : ∀ {es : List (Int × T)}, look m (putE n v es) = if n = m then some v else look m es
  | [] => rfl
  | (k, u) :: es => by
    unfold putE
    by_cases h : k = n
    · rw [if_pos h]
      subst h
      unfold look
      by_cases h2 : k = m
      · rw [if_pos h2, if_pos h2]
      · rw [if_neg h2, if_neg h2, if_neg h2]
    · rw [if_neg h]
      unfold look
      rw [look_putE]
      by_cases h2 : k = m
      · rw [if_pos h2, if_neg (fun h3 => h (h2.trans h3.symm)), if_pos h2]
      · rw [if_neg h2, if_neg h2]
structure exSt (es : List (Int × T)) (j : Int) (v : T) (K : List (Int × T) → Prop) : Prop where
  lo : 0 ≤ j
  hi : j.toNat < es.length
  out : K (setE0 v es j.toNat)
theorem exSt.put {n : Int} {z v : T} {es : List (Int × T)} {K : List (Int × T) → Prop} (h : K (putE n v es)) : exSt (entE n z es) (idxE n es : Nat) v K := by
  unfold entE idxE
  refine ⟨by omega, by rw [Int.toNat_natCast]; exact idxE_lt0, ?_⟩
  rw [Int.toNat_natCast, setE_put]; exact h
structure exL (es : List (Int × T)) (n : Int) (z : T) (K : T → Prop) : Prop where
  out : K ((look n es).getD z)
@[irreducible] def lookC (n : Int) (kc : List (Int × Int)) : Int := ((kc.find? fun p => decide (p.1 = n)).map (·.2)).getD 0
theorem exL.int {k : IntKind} {kc : List (Int × Int)} {n : Int} {K : T → Prop} (h : K (.int k (lookC n kc))) : exL (kc.map fun p => (p.1, .int k p.2)) n (.int k 0) K := by
  refine ⟨?_⟩
  have : (look n (kc.map fun p => (p.1, T.int k p.2))).getD (.int k 0) = .int k (lookC n kc) := by
    clear h
    unfold lookC
    induction kc with
    | nil => rfl
    | cons p kc ih =>
      simp only [List.map_cons, look, List.find?_cons]
      by_cases hp : p.1 = n
      · simp [hp]
      · simp only [if_neg hp, hp, decide_false]
        exact ih
  rw [this]; exact h
theorem putE_int {k : IntKind} {n c : Int} : ∀ {kc : List (Int × Int)}, ∃ kc' : List (Int × Int), putE n (.int k c) (kc.map fun p => (p.1, T.int k p.2)) = kc'.map (fun p => (p.1, T.int k p.2)) ∧
    (∀ m, m ∈ kc'.map (·.1) ↔ m = n ∨ m ∈ kc.map (·.1)) ∧ (n ∈ kc.map (·.1) → kc'.length = kc.length) ∧ (n ∉ kc.map (·.1) → kc'.length = kc.length + 1)
  | [] => ⟨[(n, c)], rfl, by simp, by simp, by simp⟩
  | p :: kc => by
    simp only [List.map_cons, putE]
    by_cases hp : p.1 = n
    · rw [if_pos hp]
      exact ⟨(n, c) :: kc, rfl, by simp [hp], by simp, by simp [hp]⟩
    · rw [if_neg hp]
      obtain ⟨kc', h1, h2, h3, h4⟩ := putE_int (k := k) (n := n) (c := c) (kc := kc)
      refine ⟨p :: kc', by rw [h1]; rfl, ?_, ?_, ?_⟩
      · intro m
        simp only [List.map_cons, List.mem_cons, h2]
        constructor
        · rintro (h | h | h)
          · exact .inr (.inl h)
          · exact .inl h
          · exact .inr (.inr h)
        · rintro (h | h | h)
          · exact .inr (.inl h)
          · exact .inl h
          · exact .inr (.inr h)
      · intro h
        simp only [List.map_cons, List.mem_cons] at h
        rcases h with h | h
        · exact absurd h.symm hp
        · simp [h3 h]
      · intro h
        simp only [List.map_cons, List.mem_cons, not_or] at h
        simp [h4 h.2]
def pickOp (c : Bool) (a b : SV) (K : SV → Prop) : Prop :=
  match a, b with
  | .t (.bool x), .t (.bool y) => K (.t (.bool (cond c x y)))
  | .g e (.t (.bool x)), .t (.bool y) => Ob (c = true → e = true) ∧ K (.t (.bool (cond c x y)))
  | .t (.bool x), .g e (.t (.bool y)) => Ob (c = false → e = true) ∧ K (.t (.bool (cond c x y)))
  | .g e (.t (.bool x)), .g e' (.t (.bool y)) => Ob (c = true → e = true) ∧ Ob (c = false → e' = true) ∧ K (.t (.bool (cond c x y)))
  | _, _ => False
def idxOk {α : Type} : Nat → List (Nat × α) → Nat → Bool
  | k, [], n => Nat.beq k n
  | k, p :: ps, n => Nat.beq p.1 k && idxOk (k + 1) ps n
def opnL (f : Nat → T → SV × Sto) : Nat → List T → List SV × Sto
  | _, [] => ([], [])
  | n, x :: xs => ((f n x).1 :: (opnL f (n + (f n x).2.length) xs).1, (f n x).2 ++ (opnL f (n + (f n x).2.length) xs).2)
def opn : Nat → Nat → T → SV × Sto
  | _ + 1, n, .nst E sz xs => (.ref n 0 [] 0 xs.length, [.nd e0 (.row E sz xs)])
  | _ + 1, n, .nmp kk es => (.mp n 0 [], [.nd e0 (.map kk es)])
  | d + 1, n, .agg xs => (.agg (opnL (opn d) n xs).1, (opnL (opn d) n xs).2)
  | d + 1, n, .tup xs => (.tup (opnL (opn d) n xs).1, (opnL (opn d) n xs).2)
  | _, _, x => (.t x, [])
def forceSp : List SObj → (List SObj → Prop) → Prop
  | [], C => C []
  | x :: xs, C => forceSp xs fun l => C (x :: l)
def killsF : List Nat → Sto → (Sto → Prop) → Prop
  | [], σ, C => C σ
  | k :: ks, σ, C => forceSp (σ.set k .dead) fun σ => killsF ks σ C
theorem forceSp_iff : ∀ {xs : List SObj} {C : List SObj → Prop}, forceSp xs C ↔ C xs
  | [], C => Iff.rfl
  | x :: xs, C => forceSp_iff (C := fun l => C (x :: l))
theorem killsF_iff : ∀ {L : List Nat} {σ : Sto} {C : Sto → Prop}, killsF L σ C ↔ C (kills L σ)
  | [], _, C => Iff.rfl
  | k :: ks, σ, C => by unfold killsF kills; rw [forceSp_iff]; exact killsF_iff
def callK (L : List Nat) (σ : Sto) (K : SV → Sto → Prop) (r : T) : Prop := match r with
  | .own x => forceSto (σ ++ (opn 4 σ.length x).2) (K (opn 4 σ.length x).1)
  | r => bif r.flat then K (.t r) σ else killsF L σ fun σ => forceSto σ (K (.t r))
def loHi (env : Env) (lo : Option Operand) (K : Int → Prop) : Prop := match lo with
  | none => K 0
  | some x => match ev env x with | .t (.int _ n) => K n | _ => False
def hiOf (env : Env) (hi : Option Operand) (len : Nat) (K : Int → Prop) : Prop := match hi with
  | none => K len
  | some x => match ev env x with | .t (.int _ n) => K n | _ => False
def step (o : Op) (ty : TypeId) (env : Env) (σ : Sto) (K : SV → Sto → Prop) : Prop :=
  match o with
  | .move x | .assign x => K (ev env x) σ
  | .pick c a b => match ev env c with | .t (.bool c) => pickOp c (ev env a) (ev env b) fun v => K v σ | _ => False
  | .alloc t => bif (tt.at t).ti.good then bif isArr (tt.at t).ti then (bif (tt.at t).zero.all leaf1 then arrNew tt t (tt.at t).zero σ K else False) else forceSto (σ ++ [.var t ((tt.at t).zero.map .t)]) (K (.loc σ.length 0 0)) else False
  | .box t x => bif isArr (tt.at t).ti then (bif (tt.at t).ti.good then (match ev env x with | .t (.arr ys) => Ob (ys.length = (tt.at t).size) ∧ Ob (FlatA ys) ∧ arrNew tt t ys σ K | _ => False) else False) else bif (ev env x).cells.all SV.leaf then forceSto (σ ++ [.var t (ev env x).cells]) (K (.loc σ.length 0 0)) else False
  | .load t a => bif isArr (tt.at t).ti then loadArr tt t (ev env a) σ fun v => K v σ else loadOp tt t (ev env a) σ fun v => K v σ
  | .store t a v => bif isArr (tt.at t).ti then storeArr tt t (ev env a) (ev env v) σ fun σ' => K .any σ' else storeOp tt t (ev env a) (ev env v) σ fun σ' => K .any σ'
  | .fieldAddr s x f => bif hasField tt s f then match ev env x with
    | .t (.ptr cs) => K (.t (.ptr (cs.drop (fieldOf tt s f).2))) σ
    | .pl k e p i off => K (.pl k e p i (off + (fieldOf tt s f).2)) σ
    | _ => False
    else False
  | .nilCheck x => match ev env x with
    | .t (.ptr cs) => K (.t (.ptr cs)) σ
    | .pl k e p i off => K (.pl k e p i off) σ
    | _ => False
  | .field s x f => bif hasField tt s f then match ev env x with
    | .t (.agg cs) => Ob ((fieldOf tt s f).2 + (tt.at (fieldOf tt s f).1).size ≤ cs.length) ∧ K (.t (mkT (tt.at (fieldOf tt s f).1).ti.isAgg (tt.at (fieldOf tt s f).1).size (cs.drop (fieldOf tt s f).2))) σ
    | .agg cs => Ob ((fieldOf tt s f).2 + (tt.at (fieldOf tt s f).1).size ≤ cs.length) ∧ K (mkS (tt.at (fieldOf tt s f).1).ti.isAgg (tt.at (fieldOf tt s f).1).size (cs.drop (fieldOf tt s f).2)) σ
    | _ => False
    else False
  | .indexAddr t x i => match (tt.at t).ti, ev env x, ev env i with
    | .slice e, .t (.sl sz xs), .t (.int _ n) => bif Nat.beq sz (tt.at e).size && (tt.at e).ti.good then Ob (0 ≤ n) ∧ Ob (n < xs.length) ∧ exE xs n.toNat fun x => K (.t (.ptr x.cells)) σ else False
    | .slice e, .ref k ee p off len, .t (.int _ n) => match nth σ k with
      | some (.nd ep nd) => Ob (ee = ep p.length) ∧ nodeK nd p fun m => match m with
        | .row _ sz _ => bif Nat.beq sz (tt.at e).size && (tt.at e).ti.good then Ob (0 ≤ n) ∧ Ob (n < len) ∧ K (.pl k ee p (off + n.toNat) 0) σ else False
        | .map .. => False
      | _ => False
    | .arr m e, .pl k ee p i off, .t (.int _ n) => bif (tt.at e).ti.good then Ob (0 ≤ n) ∧ Ob (n < m) ∧ (match p, nth σ k with
      | [], some (.nd ep (.row _ sz _)) => bif Nat.beq sz 1 && Nat.beq (tt.at e).size 1 then Ob (ee = ep 0) ∧ K (.pl k ee [] (i + n.toNat) off) σ else K (.pl k ee [] i (off + n.toNat * (tt.at e).size)) σ
      | p, _ => K (.pl k ee p i (off + n.toNat * (tt.at e).size)) σ) else False
    | _, _, _ => False
  | .binOp op t x y _ => match normS (ev env x), normS (ev env y) with
    | .t a, .t b => binT tt op t a b fun v => K (.t v) σ
    | .ref _ _ _ _ len, .t .nsl => bif (match (tt.at t).ti with | .slice _ => true | _ => false) then (match op with | .eql => ∀ b, (0 < len → b = false) → K (.t (.bool b)) σ | .neq => ∀ b, (0 < len → b = true) → K (.t (.bool b)) σ | _ => False) else False
    | _, _ => False
  | .unOp .not _ x => match ev env x with | .t (.bool b) => K (.t (.bool (!b))) σ | _ => False
  | .unOp .xor _ x => match ev env x with | .t (.int k n) => K (.t (.int k (xorI k (if k.signed then -1 else k.max) n))) σ | _ => False
  | .unOp .neg _ x => match ev env x with | .t (.int k n) => K (.t (.int k (subI k 0 n))) σ | _ => False
  | .convert s d x => match (tt.at s).ti, (tt.at d).ti, ev env x with | .int _, .int k, .t (.int _ n) => K (.t (.int k (cvtI k n))) σ | _, _, _ => False
  | .build t parts => match (tt.at t).ti with
    | .struct fs => bif (fs.all fun f => (tt.at f.1).ti.good) && parts.toList.all fun p => (ev env p.2).cells.all SV.leaf && (match nth fs p.1 with | some f => (tt.at f.1).ti.good && Nat.beq (ev env p.2).cells.length (tt.at f.1).size && Nat.ble (f.2 + (tt.at f.1).size) (tt.at t).zero.length | none => false)
      then K (.agg (parts.toList.foldl (fun cs p => setCells cs ((nth fs p.1).getD (0, 0)).2 (ev env p.2).cells) ((tt.at t).zero.map .t))) σ else False
    | .arr _ e => bif parts.toList.isEmpty && (tt.at e).ti.good then K (.t (.arr (tt.at t).zero)) σ
      else bif (tt.at e).ti.good && !(tt.at e).ti.isAgg then (match partA env parts.toList (tt.at t).zero with | some cs => forceTs cs fun cs => K (.t (.arr cs)) σ | none => False) else False
    | _ => False
  | .buildSlice t n parts => match (tt.at t).ti with
    | .slice E => bif (tt.at E).ti.good && Nat.beq n 0 && parts.toList.isEmpty then K (.t .esl) σ else bif isArr (tt.at E).ti then bsA tt E n env parts.toList σ K else bif (tt.at E).ti.good && Nat.blt 0 (tt.at E).size && Nat.blt 0 n && Nat.ble (n * (tt.at E).size) 16777216 && idxOk 0 parts.toList n && parts.toList.all fun p => (ev env p.2).cells.all SV.leaf && Nat.beq (ev env p.2).cells.length (tt.at E).size
      then takL (parts.toList.flatMap fun p => (ev env p.2).cells) σ fun ss σ1 => bif unlikeIds (putIds ss) then partL σ1 ss fun ys => forceSto (kills (putIds ss) σ1 ++ [.row E (tt.at E).size (els (tt.at E).size n ys)]) (K (.osl σ1.length 0 n)) else False
      else False
    | _ => False
  | .makeSlice t l c => match (tt.at t).ti, ev env l, ev env c with
    | .slice E, .t (.int _ n), .t (.int _ m) => bif (tt.at E).ti.good && Nat.blt 0 (tt.at E).size && (tt.at E).zero.all noNst then Ob (0 ≤ n) ∧ Ob (n ≤ m) ∧ Ob (m * ((tt.at E).bytes : Int) ≤ 140737488355328) ∧ Ob (m ≤ 281474976710656) ∧
        forceSto (σ ++ [.row E (tt.at E).size (List.replicate n.toNat (mkElT (isArr (tt.at E).ti) (tt.at E).size (tt.at E).zero))]) (K (.osl σ.length 0 n.toNat)) else False
    | _, _, _ => False
  | .slice t x lo hi none => loHi env lo fun l => match (tt.at t).ti, ev env x with
    | .slice E, .ref k e p off len => match nth σ k with
      | some (.nd ep nd) => Ob (e = ep p.length) ∧ nodeK nd p fun q => match q with
        | .row _ sz _ => bif Nat.beq sz (tt.at E).size && (tt.at E).ti.good then hiOf env hi len fun h => Ob (0 ≤ l ∧ l ≤ h ∧ h ≤ len) ∧ K (.ref k e p (off + l.toNat) (h - l).toNat) σ else False
        | .map .. => False
      | _ => False
    | .slice E, .t (.sl sz xs) => bif Nat.beq sz (tt.at E).size && (tt.at E).ti.good then hiOf env hi xs.length fun h => Ob (0 ≤ l ∧ l ≤ h ∧ h ≤ xs.length) ∧ exS xs l.toNat (h - l).toNat fun xs => K (.t (.sl sz xs)) σ else False
    | .slice E, .t .nsl => bif (tt.at E).ti.good then hiOf env hi 0 fun h => Ob (l = 0 ∧ h = 0) ∧ K (.t .nsl) σ else False
    | .slice E, .t .esl => bif (tt.at E).ti.good then hiOf env hi 0 fun h => Ob (l = 0 ∧ h = 0) ∧ K (.t .esl) σ else False
    | .str, .t (.str s) => hiOf env hi s.size fun h => Ob (0 ≤ l ∧ l ≤ h ∧ h ≤ s.size) ∧ K (.t (.str (subS s l.toNat h.toNat))) σ
    | _, _ => False
  | .index t x i => match (tt.at t).ti, ev env x, ev env i with
    | .str, .t (.str s), .t (.int _ n) => Ob (0 ≤ n ∧ n < s.size) ∧ K (.t (.int .u8 (byteAt s n.toNat))) σ
    | .arr m e, .t (.arr xs), .t (.int _ n) => bif (tt.at e).ti.good && !(tt.at e).ti.isAgg then Ob (0 ≤ n ∧ n < m) ∧ Ob (xs.length = m) ∧ exE xs n.toNat fun x => K (.t x) σ else False
    | _, _, _ => False
  | .makeFunc (.func f) first cap => bif first.isEmpty then K (.fn f (cap.toList.map (ev env))) σ else False
  | .makeMap t none => match (tt.at t).ti with
    | .map kt _ => match mkOf tt kt with | some kk => forceSto (σ ++ [.nd e0 (.map kk [])]) (K (.mp σ.length 0 [])) | _ => False
    | _ => False
  | .lookup t m k false => match (tt.at t).ti, ev env m, ev env k with
    | .map kt e, .mp m ee p, x => match nth σ m with
      | some (.nd ep nd) => Ob (ee = ep p.length) ∧ keyK tt kt x fun kk n => nodeK nd p fun q => match q with
        | .map kk2 es => bif sameM kk kk2 && (tt.at e).ti.good then exL es n (mkT (tt.at e).ti.isAgg (tt.at e).size (tt.at e).zero) (fun v => K (.t v) σ) else False
        | .row .. => False
      | _ => False
    | _, _, _ => False
  | .mapUpdate t m k v => match (tt.at t).ti, ev env m, ev env k, ev env v with
    | .map kt e, .mp m ee p, x, .t v => match nth σ m with
      | some (.nd ep nd) => Ob (ee = ep p.length) ∧ keyK tt kt x fun kk n => updK nd p (fun q K' => match q with
        | .map kk2 es => bif sameM kk kk2 then K' (.map kk2 (putE n v es)) else False
        | .row .. => False) fun nd' => forceSto (σ.set m (.nd ep nd')) (K .any)
      | _ => False
    | _, _, _, _ => False
  | .mapEntry t m k => match (tt.at t).ti, ev env m, ev env k with
    | .map kt e, .mp mm ee p, x => match nth σ mm with
      | some (.nd ep nd) => Ob (ee = ep p.length) ∧ keyK tt kt x fun kk n => nodeK nd p fun q => match q with
        | .map kk2 es => bif sameM kk kk2 && (tt.at e).ti.good then updK nd p (fun _ K' => K' (.map kk2 (entE n (mkT (tt.at e).ti.isAgg (tt.at e).size (tt.at e).zero) es))) fun nd' => forceSto (σ.set mm (.nd ep nd')) (K (.t (.tup [.any, .int .i64 (idxE n es : Nat)]))) else False
        | .row .. => False
      | _ => False
    | _, _, _ => False
  | .entryStore _ m s v => match ev env m, ev env s, ev env v with
    | .mp mm ee p, .t (.int .i64 j), .t v => match nth σ mm with
      | some (.nd ep nd) => Ob (ee = ep p.length) ∧ updK nd p (fun q K' => match q with
        | .map kk2 es => exSt es j v fun es' => K' (.map kk2 es')
        | .row .. => False) fun nd' => forceSto (σ.set mm (.nd ep nd')) (K .any)
      | _ => False
    | _, _, _ => False
  | .extract x i => match ev env x with
    | .t (.tup xs) => Ob (i < xs.length) ∧ K (.t (xs.getD i .any)) σ
    | .tup xs => Ob (i < xs.length) ∧ K (xs.getD i .any) σ
    | _ => False
  | .call { callee := .builtin .len, args, argTypes } => match argTypes.toList, args.toList with
    | [t], [x] => lenOp (tt.at t).ti (ev env x) σ fun v => K v σ
    | _, _ => False
  | .call { callee := .builtin .max, args, .. } => match args.toList with
    | [x, y] => match ev env x, ev env y with
      | .t (.int k n), .t (.int k' m) => bif sameK k k' then K (.t (.int k (maxI n m))) σ else False
      | _, _ => False
    | _ => False
  | .call { callee := .builtin .min, args, .. } => match args.toList with
    | [x, y] => match ev env x, ev env y with
      | .t (.int k n), .t (.int k' m) => bif sameK k k' then K (.t (.int k (minI n m))) σ else False
      | _, _ => False
    | _ => False
  | .call { callee := .builtin .append, args, argTypes } => match argTypes.toList, args.toList with
    | [t, u], [x, y] => match (tt.at t).ti, (tt.at u).ti with
      | .slice E, .slice _ => appendOp tt E (ev env x) (ev env y) σ K
      | _, _ => False
    | _, _ => False
  | .call { callee := .value f, args, .. } => match ev env f with
    | .fn f cap => bif C.inl f then C.ic f (args.toList.map (ev env) ++ cap) σ K else frzL σ (args.toList.map (ev env) ++ cap) fun ts => C.pc f ts (callK ((args.toList.map (ev env) ++ cap).flatMap (ids 20 σ)) σ K)
    | .t (.fn f cap) => bif C.inl f then C.ic f (args.toList.map (ev env) ++ cap.map SV.t) σ K else frzL σ (args.toList.map (ev env) ++ cap.map SV.t) fun ts => C.pc f ts (callK ((args.toList.map (ev env) ++ cap.map SV.t).flatMap (ids 20 σ)) σ K)
    | .t (.yl l) => C.yc l (args.toList.map (ev env)) σ K
    | _ => False
  | _ => False
def dstOf (ops : List Oper) (j : Nat) : Option Nat := match nth ops j with | some o => o.dst | none => none
def put (env : Env) (d : Option Nat) (v : SV) : Env := match d with | some d => upd env d v | none => env
def gcond (want : Bool) : SV → Option Bool
  | .t (.bool c) => match want with | true => some c | false => some (!c)
  | .g c (.t (.bool e)) => match want with | true => some (c && e) | false => some (c && !e)
  | _ => none
def strip (gc : Bool) : List Operand → Env → (Env → Prop) → Prop
  | [], env, K => K env
  | .tmp t :: xs, env, K => match env t with
    | .g c v => Ob (gc = true → c = true) ∧ strip gc xs (upd env t v) K
    | _ => strip gc xs env K
  | _ :: xs, env, K => strip gc xs env K
def stripOps (o : Op) : List Operand := match o with
  | .pick c _ _ => [c]
  | o => o.operands.toList
def quiet (o : Oper) (env : Env) (σ : Sto) (v : SV) : Prop :=
  step C tt o.op o.type env σ fun v' σ' => force v' fun v' => v' = v ∧ σ' = σ
def rop1q (all : List Oper) (o : Oper) (K : Env → Sto → Prop) (env : Env) (σ : Sto) : Prop :=
  match o.guard with
  | none => step C tt o.op o.type env σ fun v σ' => force v fun v => K (put env o.dst v) σ'
  | some (j, want) => match dstOf all j with
    | none => False
    | some d => match gcond want (env d) with
      | some gc => strip gc (stripOps o.op) env fun env' => exG gc (quiet C tt o env' σ) fun v => K (put env o.dst (.g gc v)) σ
      | none => False
inductive Dd : Sto → Sto → Prop where
  | nil : Dd [] []
  | same (o : SObj) {a b : Sto} (h : Dd a b) : Dd (o :: a) (o :: b)
  | dead (o : SObj) {a b : Sto} (h : Dd a b) : Dd (o :: a) (.dead :: b)
theorem kills_succ : ∀ (L : List Nat) (o : SObj) (a : Sto), kills (L.map (· + 1)) (o :: a) = o :: kills L a
  | [], _, _ => rfl
  | k :: L, o, a => by simp only [List.map_cons, kills, List.set_cons_succ]; exact kills_succ L o _
theorem Dd.out {a b : Sto} (h : Dd a b) : ∃ L, b = kills L a := by
  induction h with
  | nil => exact ⟨[], rfl⟩
  | same o _ ih => obtain ⟨L, rfl⟩ := ih; exact ⟨L.map (· + 1), (kills_succ L o _).symm⟩
  | dead o _ ih => obtain ⟨L, rfl⟩ := ih; exact ⟨0 :: L.map (· + 1), by simp only [kills, List.set_cons_zero]; exact (kills_succ L .dead _).symm⟩
@[irreducible] def exGS (gc : Bool) (p : SV → Sto → Prop) (σ : Sto) (q : SV → Sto → Prop) : Prop := ∃ v σ2, (gc = true → p v σ2) ∧ (gc = false → Dd σ σ2) ∧ q v σ2
theorem exGS.mk {gc : Bool} {p q : SV → Sto → Prop} {σ : Sto} (v : SV) (σ2 : Sto) (h1 : gc = true → p v σ2) (h0 : gc = false → Dd σ σ2) (h2 : q v σ2) : exGS gc p σ q := by unfold exGS; exact ⟨v, σ2, h1, h0, h2⟩
theorem exGS.out {gc : Bool} {p q : SV → Sto → Prop} {σ : Sto} (h : exGS gc p σ q) : ∃ v σ2, (gc = true → p v σ2) ∧ (gc = false → Dd σ σ2) ∧ q v σ2 := by unfold exGS at h; exact h
def rop1 (all : List Oper) (o : Oper) (K : Env → Sto → Prop) (env : Env) (σ : Sto) : Prop :=
  match o.guard with
  | none => step C tt o.op o.type env σ fun v σ' => force v fun v => K (put env o.dst v) σ'
  | some (j, want) => match dstOf all j with
    | none => False
    | some d => match gcond want (env d) with
      | some gc => strip gc (stripOps o.op) env fun env' => exGS gc (fun v σ2 => step C tt o.op o.type env' σ fun v' σ' => force v' fun v' => v' = v ∧ σ' = σ2) σ fun v σ2 => K (put env o.dst (.g gc v)) σ2
      | none => False
def rops (all : List Oper) : List Oper → (Env → Sto → Prop) → Env → Sto → Prop
  | [], K, env, σ => K env σ
  | o :: rest, K, env, σ => rop1 C tt all o (rops all rest K) env σ
def bdS (A : Nat → Bool) : Nat → SV → Bool
  | _, .t _ => true
  | _, .ref k _ _ _ _ => A k
  | _, .pl k _ _ _ _ => A k
  | _, .mp k _ _ => A k
  | n + 1, .agg xs => xs.all (bdS A n)
  | n + 1, .tup xs => xs.all (bdS A n)
  | n + 1, .fn _ xs => xs.all (bdS A n)
  | n + 1, .g _ x => bdS A n x
  | _, _ => false
def SObj.cellsV : SObj → List SV
  | .var _ cs => cs
  | _ => []
def isoO (o : SObj) : Bool := (match o with | .dead => false | _ => true) && o.cellsV.all fun x => bdS (fun _ => false) 4 x
def mskL (c : Nat → Bool) : Nat → List Sto → Sto
  | _, [] => []
  | j, [] :: pl => mskL c (j + 1) pl
  | j, (o :: Δ) :: pl => (bif c j then o :: Δ else (o :: Δ).map fun _ => .dead) ++ mskL c (j + 1) pl
theorem mskL_cons {c : Nat → Bool} {j : Nat} {Δ : Sto} {pl : List Sto} : mskL c j (Δ :: pl) = (bif c j then Δ else Δ.map fun _ => .dead) ++ mskL c (j + 1) pl := by
  cases Δ with
  | nil => cases h : c j <;> simp [mskL]
  | cons o Δ => rfl
def aliv (n : Nat) (σ : Sto) (k : Nat) : Bool := Nat.blt k n || match nth σ k with | some .dead => false | some _ => true | none => false
structure EqP (v' v : SV) (σ' σ Δ : Sto) : Prop where
  ev : v' = v
  es : σ' = σ ++ Δ
structure EqW (σ' σ : Sto) : Prop where
  es : σ' = σ
structure EqV (v' v : SV) (σ' σ : Sto) : Prop where
  val : v' = v
  mem : σ' = σ
@[irreducible] def exV (p : SV → Prop) : Prop := ∃ v, p v
theorem exV.mk {p : SV → Prop} (v : SV) (h : p v) : exV p := by unfold exV; exact ⟨v, h⟩
theorem exV.out {p : SV → Prop} (h : exV p) : ∃ v, p v := by unfold exV at h; exact h
@[irreducible] def exW (p q : Sto → Prop) : Prop := ∃ s, p s ∧ q s
theorem exW.mk {p q : Sto → Prop} (s : Sto) (h1 : p s) (h2 : q s) : exW p q := by unfold exW; exact ⟨s, h1, h2⟩
theorem exW.out {p q : Sto → Prop} (h : exW p q) : ∃ s, p s ∧ q s := by unfold exW at h; exact h
@[irreducible] def exP (p : SV → Sto → Prop) (q : SV → Sto → Prop) : Prop := ∃ v Δ, p v Δ ∧ q v Δ
theorem exP.mk {p q : SV → Sto → Prop} (v : SV) (Δ : Sto) (h1 : p v Δ) (h2 : q v Δ) : exP p q := by unfold exP; exact ⟨v, Δ, h1, h2⟩
theorem exP.out {p q : SV → Sto → Prop} (h : exP p q) : ∃ v Δ, p v Δ ∧ q v Δ := by unfold exP at h; exact h
def depsOf (o : Oper) : List Nat := (o.after.toList.filter (fun e => Region.binds .any e)).map (·.on)
def tmpsIn (xs : List Operand) : List Nat := xs.filterMap fun | .tmp t => some t | _ => none
def readsOf (ops : List Oper) (o : Oper) : List Nat := tmpsIn o.op.operands.toList ++ (match o.guard with | some (j, _) => (dstOf ops j).toList | none => [])
def allIdx {α : Type} (p : Nat → α → Bool) : Nat → List α → Bool
  | _, [] => true
  | i, x :: xs => p i x && allIdx p (i + 1) xs
def depB (ops : List Oper) : Nat → Nat → Nat → Bool
  | 0, _, _ => false
  | f + 1, i, j => (match nth ops i with | some o => depsOf o | none => []).any fun k => Nat.beq k j || (Nat.blt j k && depB ops f k j)
def forceLs : List Sto → (List Sto → Prop) → Prop
  | [], C => C []
  | x :: xs, C => forceLs xs fun l => C (x :: l)
def dops (c : Nat → Nat → Bool) (all : List Oper) (W : List Nat) : List Oper → List Sto → (Env → List Sto → Prop) → Env → Sto → Prop
  | [], pl, K, env, _ => K env pl
  | o :: rest, pl, K, env, σ => bif W.contains pl.length then (match o.dst with
      | none => forceLs (pl ++ [[]]) fun pl2 => dops c all W rest pl2 K env σ
      | some d => exV fun v => forceLs (pl ++ [[]]) fun pl2 => dops c all W rest pl2 K (put env (some d) v) σ) else forceSto (σ ++ mskL (c pl.length) 0 pl) fun σi =>
    bif (readsOf all o).all fun t => bdS (aliv σ.length σi) 4 (env t) then match o.guard with
      | none => exP (fun v Δ => step C tt o.op o.type env σi fun v' σ' => force v' fun v' => EqP v' v σ' σi Δ) fun v Δ => bif bdS (aliv σ.length (σi ++ Δ)) 4 v && Δ.all isoO then forceLs (pl ++ [Δ]) fun pl2 => dops c all W rest pl2 K (put env o.dst v) σ else False
      | some _ => rop1q C tt all o (fun env' _ => bif (match o.dst with | some d => bdS (aliv σ.length σi) 4 (env' d) | none => true) then forceLs (pl ++ [[]]) fun pl2 => dops c all W rest pl2 K env' σ else False) env σi
    else False
def cover (ops : List Oper) : Nat → List Nat → Bool
  | 0, _ => true
  | j + 1, s => s.contains j && cover ops j ((match nth ops j with | some o => depsOf o | none => []) ++ s)
def drawOk (ops : List Oper) (m : Nat) : Bool :=
  Nat.ble m ops.length && allIdx (fun i o => (depsOf o).all (fun j => Nat.blt j i) &&
    bif Nat.blt i m then
      (readsOf ops o).all (fun t => allIdx (fun j oj => !(oj.dst == some t) || (depsOf o).contains j) 0 (ops.take m)) &&
      allIdx (fun j oj => Nat.beq i j || !oj.dst.isSome || !(o.dst == oj.dst)) 0 (ops.take m)
    else cover ops i (depsOf o)) 0 ops
def chainB (ops : List Oper) : List Nat → Bool
  | [] => true
  | w :: W => W.all (fun w' => !Nat.beq w w' && depB ops (w' + 1) w' w) && chainB ops W
def wOk (ops : List Oper) (m : Nat) (W : List (Nat × List Nat)) : Bool :=
  W.all (fun w => Nat.blt w.1 m && allIdx (fun i (_ : Oper) => Nat.beq i w.1 || (W.map (·.1)).contains i || w.2.contains i || depB ops (w.1 + 1) w.1 i) 0 (ops.take m)) && chainB ops (W.map (·.1))
def pushOk (W : List (Nat × List Nat)) (pl : List Sto) : Bool := W.all fun w => allIdx (fun j (Δ : Sto) => Δ.isEmpty || !w.2.contains j) 0 pl
def lates (all : List Oper) (env : Env) (σ : Sto) : List Nat → Prop → Prop
  | [], p => p
  | i :: L, p => match nth all i with
    | some o => (match o.guard, o.dst with
      | none, some d => (step C tt o.op o.type env σ fun v' σ' => force v' fun v' => EqP v' (env d) σ' σ []) ∧ lates all env σ L p
      | _, _ => False)
    | none => False
def wops (all : List Oper) : List (Nat × List Nat) → (Sto → Prop) → Env → Sto → Prop
  | [], K, _, σ => K σ
  | w :: W, K, env, σ => match nth all w.1 with
    | some o => (match o.guard, o.dst with
      | none, none => exW (fun s => step C tt o.op o.type env σ fun _ σ' => EqW σ' s) fun σ' => bif Nat.ble σ.length σ'.length then lates C tt all env σ' w.2 (wops all W K env σ') else False
      | none, some d => exW (fun s => step C tt o.op o.type env σ fun v' σ' => force v' fun v' => EqV v' (env d) σ' s) fun σ' => bif Nat.ble σ.length σ'.length then lates C tt all env σ' w.2 (wops all W K env σ') else False
      | _, _ => False)
    | none => False
def maskB (M : List (List Nat)) (i j : Nat) : Bool := match nth M i with | some l => l.any (Nat.beq j) | none => false
def maskOk (ops : List Oper) (M : List (List Nat)) : Bool :=
  (List.range M.length).all fun i => (List.range i).all fun j => !maskB M i j || (match nth ops i with | some o => depsOf o | none => []).any fun k => Nat.beq k j || (Nat.blt k i && Nat.blt j k && maskB M k j)
def maskLt (M : List (List Nat)) : Bool := (List.range M.length).all fun i => (match nth M i with | some l => l | none => []).all fun j => Nat.blt j i
abbrev depC (ops : List Oper) : Nat → Nat → Bool := fun i => depB ops (i + 1) i
@[irreducible] def drawVC (ops : List Oper) (K : Env → Sto → Prop) (env : Env) (σ : Sto) : Prop :=
  ∃ m W c, Ob (drawOk ops m = true) ∧ Ob (wOk ops m W = true) ∧ Ob (∀ i j, c i j = true → depC ops i j = true) ∧ bif σ.all (fun o => o.cellsV.all fun x => bdS (fun k => Nat.blt k σ.length) 4 x) then
    dops C tt c ops (W.map (·.1)) (ops.take m) [] (fun env' pl => bif pushOk W pl then forceSto (σ ++ mskL (fun _ => true) 0 pl) fun σ' => wops C tt ops W (fun σ' => rops C tt ops (ops.drop m) K env' σ') env' σ' else False) env σ else False
theorem maskB_dep {ops : List Oper} {M : List (List Nat)} (h : (maskOk ops M && maskLt M) = true) : ∀ i j, maskB M i j = true → depC ops i j = true := by
  rw [Bool.and_eq_true] at h
  obtain ⟨h, hl⟩ := h
  have hlt : ∀ i j, maskB M i j = true → i < M.length ∧ j < i := by
    intro i j hb
    have hi : i < M.length := by
      rcases Nat.lt_or_ge i M.length with h | h
      · exact h
      · unfold maskB at hb; rw [nth_eq, List.getElem?_eq_none h] at hb; exact nomatch hb
    refine ⟨hi, ?_⟩
    have h1 := List.all_eq_true.1 hl i (List.mem_range.2 hi)
    unfold maskB at hb
    cases hM : nth M i with
    | none => rw [hM] at hb; exact nomatch hb
    | some l =>
      rw [hM] at hb h1
      obtain ⟨k, hk, hkk⟩ := List.any_eq_true.1 hb
      have := List.all_eq_true.1 h1 k hk
      rw [Nat.eq_of_beq_eq_true hkk]
      exact Nat.le_of_ble_eq_true this
  have key : ∀ f i j, i < f → maskB M i j = true → depB ops f i j = true := by
    intro f
    induction f with
    | zero => intro i j h; omega
    | succ f ih =>
      intro i j hi hb
      obtain ⟨h1, h2⟩ := hlt i j hb
      have h3 := List.all_eq_true.1 (List.all_eq_true.1 h i (List.mem_range.2 h1)) j (List.mem_range.2 h2)
      rw [hb, Bool.not_true, Bool.false_or] at h3
      unfold depB
      obtain ⟨k, hk, hkk⟩ := List.any_eq_true.1 h3
      refine List.any_eq_true.2 ⟨k, hk, ?_⟩
      simp only [Bool.or_eq_true, Bool.and_eq_true] at hkk ⊢
      rcases hkk with hkk | ⟨⟨hkk, hjk⟩, hb'⟩
      · exact .inl hkk
      · have : k < i := Nat.le_of_ble_eq_true hkk
        exact .inr ⟨hjk, ih k j (by omega) hb'⟩
  intro i j hb
  exact key (i + 1) i j (by omega) hb
theorem drawVC.mkM {ops : List Oper} {K : Env → Sto → Prop} {env : Env} {σ : Sto} (n m : Nat) (W : List (Nat × List Nat)) (M : List (List Nat)) (hn : ops.length = n) (h1 : (drawOk ops m && wOk ops m W && (maskOk ops M && maskLt M)) = true)
    (h : bif σ.all (fun o => o.cellsV.all fun x => bdS (fun k => Nat.blt k σ.length) 4 x) then dops C tt (maskB M) ops (W.map (·.1)) (ops.take m) [] (fun env' pl => bif pushOk W pl then forceSto (σ ++ mskL (fun _ => true) 0 pl) fun σ' => wops C tt ops W (fun σ' => rops C tt ops (ops.drop m) K env' σ') env' σ' else False) env σ else False) : drawVC C tt ops K env σ := by
  unfold drawVC; rw [Bool.and_eq_true, Bool.and_eq_true] at h1; exact ⟨m, W, _, .mk h1.1.1, .mk h1.1.2, .mk (maskB_dep h1.2), h⟩
theorem drawVC.mk {ops : List Oper} {K : Env → Sto → Prop} {env : Env} {σ : Sto} (m : Nat) (h1 : drawOk ops m = true)
    (h : bif σ.all (fun o => o.cellsV.all fun x => bdS (fun k => Nat.blt k σ.length) 4 x) then dops C tt (depC ops) ops [] (ops.take m) [] (fun env' pl => forceSto (σ ++ mskL (fun _ => true) 0 pl) fun σ' => rops C tt ops (ops.drop m) K env' σ') env σ else False) : drawVC C tt ops K env σ := by
  unfold drawVC; exact ⟨m, [], _, .mk h1, .mk rfl, .mk fun _ _ h => h, h⟩
theorem drawVC.all {ops : List Oper} {K : Env → Sto → Prop} {env : Env} {σ : Sto} (h1 : drawOk ops ops.length = true)
    (h : bif σ.all (fun o => o.cellsV.all fun x => bdS (fun k => Nat.blt k σ.length) 4 x) then dops C tt (depC ops) ops [] ops [] (fun env' pl => forceSto (σ ++ mskL (fun _ => true) 0 pl) fun σ' => rops C tt ops [] K env' σ') env σ else False) : drawVC C tt ops K env σ := by
  refine drawVC.mk C tt ops.length h1 ?_
  rw [List.take_length, List.drop_length]
  exact h
inductive AX where
  | normal | exit (id : Nat) | goto (l : Nat) | ret
def mods : Code → List Nat
  | .region _ ops _ => ops.toList.filterMap (·.dst)
  | .seq a b => mods a ++ mods b
  | .cond _ a b => mods a ++ mods b
  | .block _ c => mods c
  | .loop c => mods c
  | .rangeFunc _ ps a b => ps.toList ++ (mods a ++ mods b)
  | _ => []
def tabEnv : List (Nat × SV) → Env
  | [] => fun _ => .any
  | (k, v) :: l => fun j => bif Nat.beq j k then v else tabEnv l j
def mkTab (env : Env) : List Nat → (List (Nat × SV) → Prop) → Prop
  | [], C => C []
  | k :: ks, C => forceS1 (env k) fun v => match v with | .t .any => mkTab env ks C | v => mkTab env ks fun l => C ((k, v) :: l)
def dstK : List Oper → List Nat → (List Nat → Prop) → Prop
  | [], acc, C => C acc
  | o :: os, acc, C => dstK os acc fun acc => match o.dst with | some d => C (d :: acc) | none => C acc
def modsK : Code → List Nat → (List Nat → Prop) → Prop
  | .region _ ops _, acc, C => dstK ops.toList acc C
  | .seq a b, acc, C => modsK b acc fun acc => modsK a acc C
  | .cond _ a b, acc, C => modsK b acc fun acc => modsK a acc C
  | .block _ c, acc, C => modsK c acc C
  | .loop c, acc, C => modsK c acc C
  | .rangeFunc _ ps a b, acc, C => modsK b acc fun acc => modsK a acc fun acc => C (ps.toList ++ acc)
  | _, acc, C => C acc
def tabNot (M : List Nat) : List (Nat × SV) → (List (Nat × SV) → Prop) → Prop
  | [], C => C []
  | p :: l, C => bif M.contains p.1 then tabNot M l C else tabNot M l fun l' => C (p :: l')
def setL : List Nat → List SV → Env → Env
  | s :: S, v :: V, env => setL S V (upd env s v)
  | _, _, env => env
def AX.seq (next : Env → Sto → Prop) (Q : AX → Env → Sto → Prop) : AX → Env → Sto → Prop
  | .normal, env, σ => next env σ
  | x, env, σ => Q x env σ
def AX.blk (id : Nat) (Q : AX → Env → Sto → Prop) : AX → Env → Sto → Prop
  | .exit i, env, σ => bif Nat.beq i id then Q .normal env σ else Q (.exit i) env σ
  | x, env, σ => Q x env σ
/-! the state at a loop's head: rows that the named variables hold are numbered anew, from n on, in their order -/
def idx (n : Nat) (k : Nat) : List Nat → Option Nat
  | [] => none
  | j :: js => bif Nat.beq k j then some n else idx (n + 1) k js
def newId (n : Nat) (sel : List Nat) (k : Nat) : Option Nat := match idx n k sel with
  | some j => some j
  | none => bif Nat.blt k n then some k else none
def remap1 (n : Nat) (sel : List Nat) : SV → SV
  | .t x => .t x
  | .ref k e p off len => match newId n sel k with | some j => .ref j e p off len | none => .any
  | .pl k e p i off => match newId n sel k with | some j => .pl j e p i off | none => .any
  | .mp k e p => match newId n sel k with | some j => .mp j e p | none => .any
  | _ => .any
def remap (n : Nat) (sel : List Nat) : SV → SV
  | .fn f xs => .fn f (xs.map (remap1 n sel))
  | x => remap1 n sel x
def rowIds (n : Nat) : List SV → List Nat → List Nat
  | [], acc => acc.reverse
  | .ref k _ p _ _ :: vs, acc => rowIds n vs (bif acc.contains k || (!p.isEmpty && Nat.blt k n) then acc else k :: acc)
  | .pl k _ _ _ _ :: vs, acc => rowIds n vs (bif acc.contains k || Nat.blt k n then acc else k :: acc)
  | .mp k _ _ :: vs, acc => rowIds n vs (bif acc.contains k || Nat.blt k n then acc else k :: acc)
  | _ :: vs, acc => rowIds n vs acc
def forceNs : List Nat → (List Nat → Prop) → Prop
  | [], C => C []
  | x :: xs, C => forceNs xs fun l => C (x :: l)
def rowIdsK (n : Nat) : List SV → List Nat → (List Nat → Prop) → Prop
  | [], acc, C => forceNs acc.reverse C
  | .ref k _ p _ _ :: vs, acc, C => bif acc.contains k || (!p.isEmpty && Nat.blt k n) then rowIdsK n vs acc C else rowIdsK n vs (k :: acc) C
  | .pl k _ _ _ _ :: vs, acc, C => bif acc.contains k || Nat.blt k n then rowIdsK n vs acc C else rowIdsK n vs (k :: acc) C
  | .mp k _ _ :: vs, acc, C => bif acc.contains k || Nat.blt k n then rowIdsK n vs acc C else rowIdsK n vs (k :: acc) C
  | _ :: vs, acc, C => rowIdsK n vs acc C
theorem forceNs_iff : ∀ {xs : List Nat} {C : List Nat → Prop}, forceNs xs C ↔ C xs
  | [], C => Iff.rfl
  | x :: xs, C => forceNs_iff (C := fun l => C (x :: l))
theorem rowIdsK_iff {n : Nat} : ∀ {vs : List SV} {acc : List Nat} {C : List Nat → Prop}, rowIdsK n vs acc C ↔ C (rowIds n vs acc)
  | [], acc, C => forceNs_iff
  | v :: vs, acc, C => by
    have go : ∀ (b : Bool) (k : Nat), (bif b then rowIdsK n vs acc C else rowIdsK n vs (k :: acc) C) ↔ C (rowIds n vs (bif b then acc else k :: acc)) := by
      intro b k
      cases b <;> exact rowIdsK_iff
    cases v with
    | ref k e p off len => exact go _ _
    | pl k e p i off => exact go _ _
    | mp k e p => exact go _ _
    | _ => exact rowIdsK_iff (vs := vs)
def thaw (N : List (Nat × TypeId × Nat)) : List Nat → List SV → Sto → (List SV → Sto → Prop) → Prop
  | s :: S, v :: V, σ, K => match N.find? (fun x => Nat.beq x.1 s), v with
    | some (_, E, sz), .t .nsl => thaw N S V (σ ++ [.row E sz []]) fun V' σ' => K (.osl σ.length 0 0 :: V') σ'
    | _, _ => thaw N S V σ fun V' σ' => K (v :: V') σ'
  | _, V, σ, K => K V σ
def SObj.remap (n : Nat) (sel : List Nat) : SObj → SObj
  | .var E cs => .var E (cs.map (Am.remap n sel))
  | o => o
def thawV : List (Nat × Nat × TypeId × Nat) → Sto → (Sto → Prop) → Prop
  | [], σ, K => K σ
  | (k, j, E, sz) :: V, σ, K => match nth σ k with
    | some (.var E' cs) => match nth cs j with
      | some (.t .nsl) => thawV V (σ.set k (.var E' (cs.set j (.osl σ.length 0 0))) ++ [.row E sz []]) K
      | _ => thawV V σ K
    | _ => thawV V σ K
def adopt1 (k : Nat) (σ : Sto) (K : Sto → Prop) : Prop := match nth σ k with
  | some (.var _ cs) => takL cs σ fun ss σ1 => bif unlikeIds (putIds ss) && !(putIds ss).contains k && Nat.blt 0 cs.length then match nth σ1 k with
    | some (.var E _) => partL σ1 ss fun ys => forceSto ((kills (putIds ss) σ1).set k (.nd (bumpE 1 e0) (.row E cs.length [mkEl cs.length ys]))) K
    | _ => False
    else False
  | _ => False
def adoptL : List Nat → Sto → (Sto → Prop) → Prop
  | [], σ, K => K σ
  | k :: ks, σ, K => adopt1 k σ fun σ' => adoptL ks σ' K
def markS : SV → SV
  | .pl k _ _ _ _ => .ref k 0 [] 0 0
  | x => x
def rootS : SV → SV
  | .ref _ _ (_ :: _) _ _ => .any
  | x => x
def headSt (n : Nat) (vals : List SV) (σ : Sto) (K : List SV → Sto → Prop) : Prop :=
  rowIdsK n ((vals.map markS).map rootS ++ ((σ.take n).flatMap SObj.cellsV ++ vals)) [] fun sel =>
  bif sel.all (fun k => match nth σ k with | some .dead => false | some _ => true | none => false) then
    killsF sel σ fun σk => forceSto ((σk.take n).map (SObj.remap n sel) ++ sel.map fun k => SObj.remap n sel ((nth σ k).getD .dead)) fun σ2 => forceSs (vals.map (remap n sel)) fun vals => K vals σ2
  else False
@[irreducible] def LoopVC (env2 : Env) (body : (AX → Env → Sto → Prop) → Env → Sto → Prop) (Q : AX → Env → Sto → Prop) (env : Env) (σ : Sto) : Prop :=
  ∃ (S : List Nat) (N : List (Nat × TypeId × Nat)) (V : List (Nat × Nat × TypeId × Nat)) (A : List Nat) (R : Nat → List SV → Sto → Prop),
    (thawV V σ fun σ00 => adoptL A σ00 fun σ0 => thaw N S (S.map env) σ0 fun vals σ1 => headSt σ.length vals σ1 fun vals σ2 => ∃ m, R m vals σ2) ∧
    ∀ m vals σ', R m vals σ' → body (AX.seq (fun env1 σ1 => headSt σ.length (S.map env1) σ1 fun vals σ2 => ∃ m', m' < m ∧ R m' vals σ2) Q) (setL S vals (env2)) σ'
theorem LoopVC.mkA {env2 : Env} {body : (AX → Env → Sto → Prop) → Env → Sto → Prop} {Q : AX → Env → Sto → Prop} {env : Env} {σ : Sto} (S : List Nat) (N : List (Nat × TypeId × Nat)) (V : List (Nat × Nat × TypeId × Nat)) (A : List Nat) (R : Nat → List SV → Sto → Prop)
    (h0 : thawV V σ fun σ00 => adoptL A σ00 fun σ0 => thaw N S (S.map env) σ0 fun vals σ1 => headSt σ.length vals σ1 fun vals σ2 => ∃ m, R m vals σ2)
    (h1 : ∀ m vals σ', R m vals σ' → body (AX.seq (fun env1 σ1 => headSt σ.length (S.map env1) σ1 fun vals σ2 => ∃ m', m' < m ∧ R m' vals σ2) Q) (setL S vals (env2)) σ') : LoopVC env2 body Q env σ := by
  unfold LoopVC; exact ⟨S, N, V, A, R, h0, h1⟩
theorem LoopVC.mk {env2 : Env} {body : (AX → Env → Sto → Prop) → Env → Sto → Prop} {Q : AX → Env → Sto → Prop} {env : Env} {σ : Sto} (S : List Nat) (N : List (Nat × TypeId × Nat)) (R : Nat → List SV → Sto → Prop)
    (h0 : thaw N S (S.map env) σ fun vals σ1 => headSt σ.length vals σ1 fun vals σ2 => ∃ m, R m vals σ2)
    (h1 : ∀ m vals σ', R m vals σ' → body (AX.seq (fun env1 σ1 => headSt σ.length (S.map env1) σ1 fun vals σ2 => ∃ m', m' < m ∧ R m' vals σ2) Q) (setL S vals (env2)) σ') : LoopVC env2 body Q env σ :=
  LoopVC.mkA S N [] [] R h0 h1
/-! Loops that count one variable up to n, and leave the call's memory as it is. -/
@[irreducible] def Up0 (σ : Sto) (n : Nat) (R : Nat → Prop) (lim : Nat) (vals : List SV) (σ2 : Sto) : Prop := ∃ m', m' < lim ∧ ∃ (i : Nat), σ2 = σ ∧ vals = [.t (.int .i64 i)] ∧ i ≤ n ∧ m' = n - i ∧ R i
@[irreducible] def Up0i (σ : Sto) (n : Nat) (R : Nat → Prop) (vals : List SV) (σ2 : Sto) : Prop := ∃ m : Nat, ∃ (i : Nat), σ2 = σ ∧ vals = [.t (.int .i64 i)] ∧ i ≤ n ∧ m = n - i ∧ R i
theorem Up0.mk {σ σ2 : Sto} {n : Nat} {R : Nat → Prop} {i : Nat} {x : Int} (hs : σ2 = σ) (h : Ob (i < n ∧ x = i + 1 ∧ R (i + 1))) : Up0 σ n R (n - i) [.t (.int .i64 x)] σ2 := by
  obtain ⟨h1, h2, h3⟩ := h.out
  unfold Up0
  exact ⟨n - (i + 1), by omega, i + 1, hs, by rw [h2]; rfl, h1, rfl, h3⟩
theorem Up0i.mk {σ σ2 : Sto} {n : Nat} {R : Nat → Prop} (hs : σ2 = σ) (h : Ob (R 0)) : Up0i σ n R [.t (.int .i64 0)] σ2 := by
  unfold Up0i
  exact ⟨n, 0, hs, rfl, Nat.zero_le _, rfl, h.out⟩
theorem LoopVC.up0 {env2 : Env} {body : (AX → Env → Sto → Prop) → Env → Sto → Prop} {Q : AX → Env → Sto → Prop} {env : Env} {σ : Sto} (s n : Nat) (R : Nat → Prop)
    (h0 : thaw [] [s] ([s].map env) σ fun vals σ1 => headSt σ.length vals σ1 fun vals σ2 => Up0i σ n R vals σ2)
    (h1 : ∀ (i : Nat), i ≤ n → R i → body (AX.seq (fun env1 σ1 => headSt σ.length ([s].map env1) σ1 fun vals σ2 => Up0 σ n R (n - i) vals σ2) Q) (setL [s] [.t (.int .i64 i)] (env2)) σ) : LoopVC env2 body Q env σ := by
  unfold Up0i at h0
  unfold Up0 at h1
  refine LoopVC.mk [s] [] (fun m vals σ2 => ∃ (i : Nat), σ2 = σ ∧ vals = [.t (.int .i64 i)] ∧ i ≤ n ∧ m = n - i ∧ R i) h0 ?_
  rintro m vals σ' ⟨i, rfl, rfl, hi, rfl, hr⟩
  exact h1 i hi hr
@[irreducible] def Up1 (σ : Sto) (n : Nat) (R : Nat → Int → Prop) (lim : Nat) (vals : List SV) (σ2 : Sto) : Prop := ∃ m', m' < lim ∧ ∃ (i : Nat) (y0 : Int), σ2 = σ ∧ vals = [.t (.int .i64 i), .t (.int .i64 y0)] ∧ i ≤ n ∧ m' = n - i ∧ R i y0
@[irreducible] def Up1i (σ : Sto) (n : Nat) (R : Nat → Int → Prop) (vals : List SV) (σ2 : Sto) : Prop := ∃ m : Nat, ∃ (i : Nat) (y0 : Int), σ2 = σ ∧ vals = [.t (.int .i64 i), .t (.int .i64 y0)] ∧ i ≤ n ∧ m = n - i ∧ R i y0
theorem Up1.mk {σ σ2 : Sto} {n : Nat} {R : Nat → Int → Prop} {i : Nat} {x : Int} {y0 : Int} (hs : σ2 = σ) (h : Ob (i < n ∧ x = i + 1 ∧ R (i + 1) y0)) : Up1 σ n R (n - i) [.t (.int .i64 x), .t (.int .i64 y0)] σ2 := by
  obtain ⟨h1, h2, h3⟩ := h.out
  unfold Up1
  exact ⟨n - (i + 1), by omega, i + 1, y0, hs, by rw [h2]; rfl, h1, rfl, h3⟩
theorem Up1i.mk {σ σ2 : Sto} {n : Nat} {R : Nat → Int → Prop} {y0 : Int} (hs : σ2 = σ) (h : Ob (R 0 y0)) : Up1i σ n R [.t (.int .i64 0), .t (.int .i64 y0)] σ2 := by
  unfold Up1i
  exact ⟨n, 0, y0, hs, rfl, Nat.zero_le _, rfl, h.out⟩
@[irreducible] def Up2 (σ : Sto) (n : Nat) (R : Nat → Int → Int → Prop) (lim : Nat) (vals : List SV) (σ2 : Sto) : Prop := ∃ m', m' < lim ∧ ∃ (i : Nat) (y0 : Int) (y1 : Int), σ2 = σ ∧ vals = [.t (.int .i64 i), .t (.int .i64 y0), .t (.int .i64 y1)] ∧ i ≤ n ∧ m' = n - i ∧ R i y0 y1
@[irreducible] def Up2i (σ : Sto) (n : Nat) (R : Nat → Int → Int → Prop) (vals : List SV) (σ2 : Sto) : Prop := ∃ m : Nat, ∃ (i : Nat) (y0 : Int) (y1 : Int), σ2 = σ ∧ vals = [.t (.int .i64 i), .t (.int .i64 y0), .t (.int .i64 y1)] ∧ i ≤ n ∧ m = n - i ∧ R i y0 y1
theorem Up2.mk {σ σ2 : Sto} {n : Nat} {R : Nat → Int → Int → Prop} {i : Nat} {x : Int} {y0 y1 : Int} (hs : σ2 = σ) (h : Ob (i < n ∧ x = i + 1 ∧ R (i + 1) y0 y1)) : Up2 σ n R (n - i) [.t (.int .i64 x), .t (.int .i64 y0), .t (.int .i64 y1)] σ2 := by
  obtain ⟨h1, h2, h3⟩ := h.out
  unfold Up2
  exact ⟨n - (i + 1), by omega, i + 1, y0, y1, hs, by rw [h2]; rfl, h1, rfl, h3⟩
theorem Up2i.mk {σ σ2 : Sto} {n : Nat} {R : Nat → Int → Int → Prop} {y0 y1 : Int} (hs : σ2 = σ) (h : Ob (R 0 y0 y1)) : Up2i σ n R [.t (.int .i64 0), .t (.int .i64 y0), .t (.int .i64 y1)] σ2 := by
  unfold Up2i
  exact ⟨n, 0, y0, y1, hs, rfl, Nat.zero_le _, rfl, h.out⟩
def ColR (σ : Sto) (n : Nat) (E : TypeId) (sz : Nat) (f : Nat → List T) (R : Nat → Prop) (m : Nat) (vals : List SV) (σ2 : Sto) : Prop := ∃ i : Nat, σ2 = σ ++ [.row E sz (f i)] ∧ vals = [.t (.int .i64 i), .osl σ.length 0 (f i).length] ∧ i ≤ n ∧ m = n - i ∧ R i
@[irreducible] def Col (σ : Sto) (n : Nat) (E : TypeId) (sz : Nat) (f : Nat → List T) (R : Nat → Prop) (lim : Nat) (vals : List SV) (σ2 : Sto) : Prop := ∃ m', m' < lim ∧ ColR σ n E sz f R m' vals σ2
@[irreducible] def Coli (σ : Sto) (n : Nat) (E : TypeId) (sz : Nat) (f : Nat → List T) (R : Nat → Prop) (vals : List SV) (σ2 : Sto) : Prop := ∃ m : Nat, ColR σ n E sz f R m vals σ2
theorem Col.mk {σ σ2 : Sto} {n : Nat} {E : TypeId} {sz : Nat} {f : Nat → List T} {R : Nat → Prop} {i k off l : Nat} {x : Int} {ts : List T} (hs : σ2 = σ ++ [.row E sz ts]) (hk : k = σ.length) (ho : off = 0)
    (h : Ob (i < n ∧ x = i + 1 ∧ ts = f (i + 1) ∧ l = (f (i + 1)).length ∧ R (i + 1))) : Col σ n E sz f R (n - i) [.t (.int .i64 x), .osl k off l] σ2 := by
  obtain ⟨h1, h2, h3, h4, h5⟩ := h.out
  unfold Col
  exact ⟨n - (i + 1), by omega, i + 1, by rw [hs, h3], by subst hk ho h2 h4; simp, h1, rfl, h5⟩
theorem Coli.mk {σ σ2 : Sto} {n : Nat} {E : TypeId} {sz : Nat} {f : Nat → List T} {R : Nat → Prop} {k off l : Nat} (hs : σ2 = σ ++ [.row E sz []]) (hk : k = σ.length) (ho : off = 0) (hl : l = 0) (h : Ob (f 0 = [] ∧ R 0)) :
    Coli σ n E sz f R [.t (.int .i64 0), .osl k off l] σ2 := by
  obtain ⟨h1, h2⟩ := h.out
  unfold Coli
  exact ⟨n, 0, by rw [hs, h1], by subst hk ho hl; simp [h1], Nat.zero_le _, rfl, h2⟩
def cwp (N : Nat) : Code → (AX → Env → Sto → Prop) → Env → Sto → Prop
  | .skip, Q, env, σ => Q .normal env σ
  | .region _ ops draw, Q, env, σ => bif draw then drawVC C.noY tt ops.toList (fun env σ => Q .normal env σ) env σ else rops C tt ops.toList ops.toList (fun env σ => Q .normal env σ) env σ
  | .seq a b, Q, env, σ => cwp N a (AX.seq (cwp N b Q) Q) env σ
  | .cond (.tmp t) a b, Q, env, σ => match env t with | .t (.bool c) => onBool c (cwp N a Q (upd env t (.t (.bool true))) σ) (cwp N b Q (upd env t (.t (.bool false))) σ) | _ => False
  | .block id c, Q, env, σ => cwp N c (AX.blk id Q) env σ
  | .loop c, Q, env, σ => mkTab env (List.range N) fun l => modsK c [] fun M => tabNot M l fun l2 => LoopVC (tabEnv l2) (cwp N c) Q (tabEnv l) σ
  | .exit id, Q, env, σ => Q (.exit id) env σ
  | .ret, Q, env, σ => Q .ret env σ
  | .label _, Q, env, σ => Q .normal env σ
  | .goto l, Q, env, σ => Q (.goto l) env σ
  | .rangeFunc g ps as bd, Q, env, σ =>
    let Y := fun (args : List SV) (σ : Sto) (K : Sto → Prop) => Ob (args.length = ps.size) ∧ cwp N as (fun x env1 σ1 => match x with
      | .normal => cwp N bd (fun x _ σ2 => match x with | .normal => K σ2 | _ => False) env1 σ1
      | _ => False) (setL ps.toList args env) σ
    match ev env g with
    | .fn f cap => C.rc f cap Y σ fun σ' => Q .normal env σ'
    | .t (.fn f cap) => C.rc f (cap.map SV.t) Y σ fun σ' => Q .normal env σ'
    | _ => False
  | _, _, _, _ => False
def argEnv (args : List T) : Env := fun j => match nth args j with | some x => .t x | none => .any
def resK (tt : Tab) (env : Env) (σ : Sto) : List ResultVar → (List SV → Prop) → Prop
  | [], K => K []
  | .tmp t :: rs, K => resK tt env σ rs fun vs => K (env t :: vs)
  | .cell d t :: rs, K => bif isArr (tt.at t).ti then loadArr tt t (env d) σ fun v => resK tt env σ rs fun vs => K (v :: vs) else loadOp tt t (env d) σ fun v => resK tt env σ rs fun vs => K (v :: vs)
def res1 : List SV → SV
  | [v] => v
  | vs => .tup vs
def fin (tt : Tab) (fn : Func) (post : T → Prop) (env : Env) (σ : Sto) : Prop :=
  resK tt env σ fn.results.toList fun vs => frzK 20 σ (res1 vs) fun t => Dn (post t)
inductive Plain : T → Prop where
  | bool (b : Bool) : Plain (.bool b)
  | int (k : IntKind) (n : Int) : Plain (.int k n)
  | str (x : ByteArray) : Plain (.str x)
  | nsl : Plain .nsl
  | esl : Plain .esl
  | nptr : Plain .nptr
  | nfn : Plain .nfn
  | nif : Plain .nif
  | any : Plain .any
  | agg (xs : List T) (h : ∀ x ∈ xs, Plain x) : Plain (.agg xs)
inductive Clean : T → Prop where
  | plain (x : T) (h : Plain x) : Clean x
  | nst (E : TypeId) (sz : Nat) (xs : List T) (h : ∀ x ∈ xs, ∀ c ∈ x.cells, Clean c) : Clean (.nst E sz xs)
  | nmp (kk : MK) (es : List (Int × T)) (h : ∀ e ∈ es, Plain e.2) : Clean (.nmp kk es)
def CleanN : Nd → Prop
  | .row _ _ xs => ∀ x ∈ xs, ∀ c ∈ x.cells, Clean c
  | .map _ es => ∀ e ∈ es, Plain e.2
def takDs (f : SV → Sto → (SV → Sto → Prop) → Prop) : List SV → Sto → (List SV → Sto → Prop) → Prop
  | [], σ, K => K [] σ
  | x :: xs, σ, K => f x σ fun y σ' => takDs f xs σ' fun ys σ'' => K (y :: ys) σ''
def takD : Nat → SV → Sto → (SV → Sto → Prop) → Prop
  | n + 1, .agg xs, σ, K => takDs (takD n) xs σ fun ys σ' => K (.agg ys) σ'
  | n + 1, .tup xs, σ, K => takDs (takD n) xs σ fun ys σ' => K (.tup ys) σ'
  | _, s, σ, K => tak1 s σ K
def clsKs (f : SV → (T → List Nat → Prop) → Prop) : List SV → (List T → List Nat → Prop) → Prop
  | [], K => K [] []
  | x :: xs, K => f x fun y L => clsKs f xs fun ys L' => K (y :: ys) (L ++ L')
def clsK : Nat → Sto → SV → (T → List Nat → Prop) → Prop
  | n + 1, σ, .agg xs, K => clsKs (clsK n σ) xs fun ys L => K (.agg ys) L
  | n + 1, σ, .tup xs, K => clsKs (clsK n σ) xs fun ys L => K (.tup ys) L
  | _ + 1, _, .t y, K => bif y.flat then K y [] else False
  | _ + 1, σ, .ref k e p off len, K => match p, nth σ k with
    | [], some (.nd _ (.row E sz ts)) => Ob (e = 0 ∧ off = 0 ∧ len = ts.length) ∧ Ob (∀ x ∈ ts, ∀ c ∈ x.cells, Clean c) ∧ K (.nst E sz ts) [k]
    | _, _ => False
  | _ + 1, σ, .mp k e p, K => match p, nth σ k with
    | [], some (.nd _ (.map kk es)) => Ob (e = 0) ∧ Ob (∀ e ∈ es, Plain e.2) ∧ K (.nmp kk es) [k]
    | _, _ => False
  | _, _, _, _ => False
def finO (tt : Tab) (fn : Func) (post : T → Prop) (env : Env) (σ : Sto) : Prop :=
  resK tt env σ fn.results.toList fun vs => takD 4 (res1 vs) σ fun v σ' => clsK 4 σ' v fun x L => bif unlikeIds L then Dn (post (.own x)) else False
def argEnvS (args : List SV) : Env := fun j => match nth args j with | some x => x | none => .any
def bodyI (fn : Func) (args : List SV) (σ : Sto) (K : SV → Sto → Prop) : Prop :=
  match fn.body with
  | none => False
  | some c => bif (mods c).all (fun d => Nat.blt d fn.ntmps) && Nat.ble args.length fn.ntmps then
      cwp C tt fn.ntmps c (fun x env σ' => match x with
      | .normal => resK tt env σ' fn.results.toList fun vs => K (res1 vs) σ'
      | .ret => resK tt env σ' fn.results.toList fun vs => K (res1 vs) σ'
      | _ => False) (argEnvS args) σ
    else False
def body (fn : Func) (args : List T) (post : T → Prop) : Prop :=
  match fn.body with
  | none => False
  | some c => bif (mods c).all (fun d => Nat.blt d fn.ntmps) && Nat.ble args.length fn.ntmps then
      cwp C tt fn.ntmps c (fun x env σ => match x with
      | .normal => fin tt fn post env σ
      | .ret => fin tt fn post env σ
      | _ => False) (argEnv args) []
    else False
def bodyO (fn : Func) (args : List T) (post : T → Prop) : Prop :=
  match fn.body with
  | none => False
  | some c => bif (mods c).all (fun d => Nat.blt d fn.ntmps) && Nat.ble args.length fn.ntmps then
      cwp C tt fn.ntmps c (fun x env σ => match x with
      | .normal => finO tt fn post env σ
      | .ret => finO tt fn post env σ
      | _ => False) (argEnv args) []
    else False
theorem onBool_intro {c : Bool} {p q : Prop} (h1 : c = true → p) (h2 : c = false → q) : onBool c p q := by
  cases c
  · exact h2 rfl
  · exact h1 rfl
theorem force1_iff {x : T} {K : T → Prop} : force1 x K ↔ K x := by cases x <;> exact Iff.rfl
theorem forceTs_iff : ∀ {xs : List T} {K : List T → Prop}, forceTs xs K ↔ K xs
  | [], K => Iff.rfl
  | x :: xs, K => by simp only [forceTs, force1_iff]; exact forceTs_iff (K := fun xs => K (x :: xs))
theorem forceT_iff {x : T} {K : T → Prop} : forceT x K ↔ K x := by cases x <;> first | exact Iff.rfl | exact forceTs_iff (K := fun xs => K (.agg xs)) | exact forceTs_iff (K := fun xs => K (.tup xs)) | exact forceTs_iff (K := fun xs => K (.ptr xs)) | exact forceTs_iff (K := fun xs => K (.fn _ xs))
theorem forceS1_iff {x : SV} {K : SV → Prop} : forceS1 x K ↔ K x := by cases x <;> first | exact Iff.rfl | exact force1_iff (K := fun x => K (.t x))
theorem forceSs_iff : ∀ {xs : List SV} {K : List SV → Prop}, forceSs xs K ↔ K xs
  | [], K => Iff.rfl
  | x :: xs, K => by simp only [forceSs, forceS1_iff]; exact forceSs_iff (K := fun xs => K (x :: xs))
theorem force_iff {v : SV} {K : SV → Prop} : force v K ↔ K v := by
  cases v <;> first | exact Iff.rfl | exact forceT_iff (K := fun x => K (.t x)) | exact forceSs_iff (K := fun xs => K (.agg xs)) | exact forceSs_iff (K := fun xs => K (.tup xs)) | exact forceSs_iff (K := fun xs => K (.fn _ xs))
theorem forceO_iff {x : SObj} {K : SObj → Prop} : forceO x K ↔ K x := by
  cases x with
  | var E cs => exact forceSs_iff (K := fun xs => K (.var E xs))
  | nd ep n => cases n <;> exact Iff.rfl
  | dead => exact Iff.rfl
theorem dstK_iff : ∀ {os : List Oper} {acc : List Nat} {C : List Nat → Prop}, dstK os acc C ↔ C (os.filterMap (·.dst) ++ acc)
  | [], acc, C => Iff.rfl
  | o :: os, acc, C => by
    unfold dstK
    rw [dstK_iff, List.filterMap_cons]
    cases o.dst <;> rfl
theorem modsK_iff : ∀ {c : Code} {acc : List Nat} {C : List Nat → Prop}, modsK c acc C ↔ C (mods c ++ acc) := by
  intro c
  induction c with
  | region id ops d => intro acc C; exact dstK_iff
  | seq a b iha ihb => intro acc C; unfold modsK mods; rw [ihb, iha, List.append_assoc]
  | cond t a b iha ihb => intro acc C; unfold modsK mods; rw [ihb, iha, List.append_assoc]
  | block id c ih => intro acc C; unfold modsK mods; exact ih
  | loop c ih => intro acc C; unfold modsK mods; exact ih
  | rangeFunc g ps a b iha ihb => intro acc C; unfold modsK mods; rw [ihb, iha, List.append_assoc, List.append_assoc]
  | _ => intro acc C; exact Iff.rfl
theorem forceLs_iff : ∀ {xs : List Sto} {C : List Sto → Prop}, forceLs xs C ↔ C xs
  | [], C => Iff.rfl
  | x :: xs, C => forceLs_iff (C := fun l => C (x :: l))
theorem mkTab_out {env : Env} : ∀ {ks : List Nat} {C : List (Nat × SV) → Prop}, mkTab env ks C → ∃ l, C l ∧ ∀ p ∈ l, p.2 = env p.1
  | [], C, h => ⟨[], h, by simp⟩
  | k :: ks, C, h => by
    unfold mkTab at h
    rw [forceS1_iff] at h
    split at h
    · exact mkTab_out h
    · obtain ⟨l, h1, h2⟩ := mkTab_out h
      refine ⟨_, h1, fun p hp => ?_⟩
      rcases List.mem_cons.1 hp with rfl | hp
      · rfl
      · exact h2 p hp
theorem tabNot_out {M : List Nat} : ∀ {l : List (Nat × SV)} {C : List (Nat × SV) → Prop}, tabNot M l C → ∃ l', C l' ∧ ∀ p ∈ l', p ∈ l ∧ M.contains p.1 = false
  | [], C, h => ⟨[], h, by simp⟩
  | p :: l, C, h => by
    unfold tabNot at h
    cases hc : M.contains p.1 with
    | true =>
      rw [hc, cond_true] at h
      obtain ⟨l', h1, h2⟩ := tabNot_out h
      exact ⟨l', h1, fun q hq => ⟨List.mem_cons_of_mem _ (h2 q hq).1, (h2 q hq).2⟩⟩
    | false =>
      rw [hc, cond_false] at h
      obtain ⟨l', h1, h2⟩ := tabNot_out h
      refine ⟨_, h1, fun q hq => ?_⟩
      rcases List.mem_cons.1 hq with rfl | hq
      · exact ⟨List.mem_cons_self, hc⟩
      · exact ⟨List.mem_cons_of_mem _ (h2 q hq).1, (h2 q hq).2⟩
theorem tabEnv_out {j : Nat} : ∀ (l : List (Nat × SV)), tabEnv l j = .any ∨ ∃ p ∈ l, p.1 = j ∧ tabEnv l j = p.2
  | [] => .inl rfl
  | (k, v) :: l => by
    unfold tabEnv
    cases hb : Nat.beq j k with
    | true => exact .inr ⟨(k, v), List.mem_cons_self, (Nat.eq_of_beq_eq_true hb).symm, rfl⟩
    | false =>
      rcases tabEnv_out (j := j) l with h | ⟨p, h1, h2, h3⟩
      · exact .inl h
      · exact .inr ⟨p, List.mem_cons_of_mem _ h1, h2, h3⟩
theorem forceSto_iff : ∀ {xs : Sto} {K : Sto → Prop}, forceSto xs K ↔ K xs
  | [], K => Iff.rfl
  | x :: xs, K => by simp only [forceSto, forceO_iff]; exact forceSto_iff (K := fun xs => K (x :: xs))
end Go.Proofs.Ytgladinljapmkaa.Am

/- The library's tables that the program's variables hold: (block, values). -/
namespace Go.Proofs.Ytgladinljapmkaa.Am
open Go Go.Proofs
def tabs : List (Nat × List Value) := []
def TF (b : Nat) : Prop := ∃ p, p ∈ tabs ∧ p.1 = b
end Go.Proofs.Ytgladinljapmkaa.Am
