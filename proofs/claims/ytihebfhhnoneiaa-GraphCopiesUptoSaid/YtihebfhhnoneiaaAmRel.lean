/- What the trees and objects of the abstract machine say of the machine's memory; what steps leave of it. -/
import Derived.Test.YtihebfhhnoneiaaAm
import Derived.Laws.Rows
namespace Go.Proofs.Ytihebfhhnoneiaa.Am
open Go.RowKit
set_option linter.unusedVariables false
set_option linter.unusedSimpArgs false

/-- Where a row or a map lies: nowhere; or block, first cell, cells of an element, capacity, elements. -/
inductive Loc where
  | e (a : Option Addr)
  | at (b o sz cap m : Nat)
def Loc.val : Loc → Value
  | .e a => .slice a 0 0
  | .at b o _ cap m => .slice (some ⟨b, o, none⟩) m cap
def Loc.mval : Loc → Value
  | .e _ => .map none
  | .at b .. => .map (some b)
/-- Where an object's rows lie, and its blocks. -/
structure Own where
  am : Nat → Path → Option Loc
  bl : Nat → Prop
def Own.no : Own := ⟨fun _ _ => none, fun _ => False⟩

/-- A value reads as a tree, in blocks of which F holds. -/
inductive VT (F : Nat → Prop) (w : World) : T → Value → Prop where
  | bool (b : Bool) : VT F w (.bool b) (.bool b)
  | int (k : IntKind) (n : Int) : VT F w (.int k n) (.int k n)
  | str (s : ByteArray) : VT F w (.str s) (.string s)
  | agg (xs : List T) (vs : Array Value) (hs : vs.size = xs.length) (h : ∀ (i : Nat) (x : T) (v : Value), xs[i]? = some x → vs[i]? = some v → VT F w x v) : VT F w (.agg xs) (.agg vs)
  | tup (xs : List T) (vs : Array Value) (hs : vs.size = xs.length) (h : ∀ (i : Nat) (x : T) (v : Value), xs[i]? = some x → vs[i]? = some v → VT F w x v) : VT F w (.tup xs) (.tuple vs)
  | sl (sz : Nat) (xs : List T) (b off c : Nat) (vals : Nat → Value) (hp : xs ≠ []) (hc : xs.length ≤ c) (hn : xs.length ≤ 2 ^ 48) (hF : F b) (hz : ∀ x ∈ xs, x.cells.length = sz)
      (hcell : ∀ j, j < xs.length * sz → w.cell? ⟨b, off + j, none⟩ = some (vals j)) (h1 : ∀ j, j < xs.length * sz → (vals j).oneCell' = true)
      (h : ∀ (i : Nat) (x : T) (j : Nat) (y : T), xs[i]? = some x → x.cells[j]? = some y → VT F w y (vals (i * sz + j))) : VT F w (.sl sz xs) (.slice (some ⟨b, off, none⟩) xs.length c)
  | sl0 (sz : Nat) (a : Option Addr) (c : Nat) : VT F w (.sl sz []) (.slice a 0 c)
  | nsl : VT F w .nsl (.slice none 0 0)
  | esl (a : Option Addr) : VT F w .esl (.slice a 0 0)
  | ptr (cs : List T) (b off : Nat) (vals : Nat → Value) (hF : F b) (hcell : ∀ j, j < cs.length → w.cell? ⟨b, off + j, none⟩ = some (vals j))
      (h : ∀ (j : Nat) (y : T), cs[j]? = some y → VT F w y (vals j)) : VT F w (.ptr cs) (.pointer (some ⟨b, off, none⟩))
  | nptr : VT F w .nptr (.pointer none)
  | fn (f : FuncId) (xs : List T) (vs : Array Value) (hs : vs.size = xs.length) (h : ∀ (i : Nat) (x : T) (v : Value), xs[i]? = some x → vs[i]? = some v → VT F w x v) : VT F w (.fn f xs) (.func (.func f) #[] vs)
  | nfn : VT F w .nfn .nilFunc
  | iface (t : TypeId) (x : T) (v : Value) (h : VT F w x v) : VT F w (.iface t x) (.iface t v)
  | nif : VT F w .nif .nilIface
  | map (kk : IntKind) (es : List (Int × T)) (r : Nat) (ents : Array MapEntry) (clock : Nat) (hF : F r) (hh : w.heap[r]? = some (.map ents clock)) (hs : ents.size = es.length)
      (hk : ∀ (i : Nat) (kv : Int × T) (e : MapEntry), es[i]? = some kv → ents[i]? = some e → e.key = .int kk kv.1)
      (hv : ∀ (i : Nat) (kv : Int × T) (e : MapEntry), es[i]? = some kv → ents[i]? = some e → VT F w kv.2 e.val)
      (hb : ∀ (i : Nat) (e : MapEntry), ents[i]? = some e → e.born < clock ∧ ∀ (j : Nat) (e' : MapEntry), ents[j]? = some e' → e.born = e'.born → i = j) : VT F w (.map kk es) (.map (some r))
  | any (v : Value) : VT F w .any v
  | box (x : T) (b : Nat) (v : Value) (hF : F b) (hc : w.cell? ⟨b, 0, none⟩ = some v) (h : VT F w x v) : VT F w (.box x) (.pointer (some ⟨b, 0, none⟩))
  | nst (E : TypeId) (sz : Nat) (xs : List T) (v : Value) (h : VT F w (.sl sz xs) v) : VT F w (.nst E sz xs) v
  | nmp (kk : IntKind) (es : List (Int × T)) (v : Value) (h : VT F w (.map kk es) v) : VT F w (.nmp kk es) v

/-- A value of the running call. -/
inductive VS (own : Nat → Own) (F : Nat → Prop) (w : World) : SV → Value → Prop where
  | t (x : T) (v : Value) (h : VT F w x v) : VS own F w (.t x) v
  | ref (k e : Nat) (p : Path) (off len b o sz cap m : Nat) (h : (own k).am e p = some (.at b o sz cap m)) (hl : off + len ≤ m) (hm : m ≤ cap) (hn : len ≤ 2 ^ 48) : VS own F w (.ref k e p off len) (.slice (some ⟨b, o + off * sz, none⟩) len (cap - off))
  | refE (k e : Nat) (p : Path) (a : Option Addr) (h : (own k).am e p = some (.e a)) : VS own F w (.ref k e p 0 0) (.slice a 0 0)
  | refZ (k e : Nat) (p : Path) (off : Nat) (a : Option Addr) (ho : 0 < off) : VS own F w (.ref k e p off 0) (.slice a 0 0)
  | pl (k e : Nat) (p : Path) (i off b o sz cap m : Nat) (h : (own k).am e p = some (.at b o sz cap m)) : VS own F w (.pl k e p i off) (.pointer (some ⟨b, o + i * sz + off, none⟩))
  | mp (k e : Nat) (p : Path) (b o sz cap m : Nat) (h : (own k).am e p = some (.at b o sz cap m)) : VS own F w (.mp k e p) (.map (some b))
  | agg (xs : List SV) (vs : Array Value) (hs : vs.size = xs.length) (h : ∀ (i : Nat) (x : SV) (v : Value), xs[i]? = some x → vs[i]? = some v → VS own F w x v) : VS own F w (.agg xs) (.agg vs)
  | tup (xs : List SV) (vs : Array Value) (hs : vs.size = xs.length) (h : ∀ (i : Nat) (x : SV) (v : Value), xs[i]? = some x → vs[i]? = some v → VS own F w x v) : VS own F w (.tup xs) (.tuple vs)
  | fn (f : FuncId) (xs : List SV) (vs : Array Value) (hs : vs.size = xs.length) (h : ∀ (i : Nat) (x : SV) (v : Value), xs[i]? = some x → vs[i]? = some v → VS own F w x v) : VS own F w (.fn f xs) (.func (.func f) #[] vs)
  | g (c : Bool) (x : SV) (v : Value) (h0 : c = false → v = undef) (h : c = true → VS own F w x v) : VS own F w (.g c x) v

theorem VT.mono {F F' : Nat → Prop} {w w' : World} {x : T} {v : Value} (h : VT F w x v) (hF : ∀ b, F b → F' b) (hh : ∀ b, F b → b < w.heap.size → w'.heap[b]? = w.heap[b]?) : VT F' w' x v := by
  have hc : ∀ (b o : Nat) (v : Value), F b → w.cell? ⟨b, o, none⟩ = some v → w'.cell? ⟨b, o, none⟩ = some v := by
    intro b o v hb hv
    rw [World.cell?_of_block (w := w) (hh b hb (World.block_lt_of_cell? w _ hv))]; exact hv
  induction h with
  | bool b => exact .bool b
  | int k n => exact .int k n
  | str s => exact .str s
  | agg xs vs hs _ ih => exact .agg xs vs hs ih
  | tup xs vs hs _ ih => exact .tup xs vs hs ih
  | sl sz xs b off c vals hp hcc hn hf hz hcell h1 _ ih => exact .sl sz xs b off c vals hp hcc hn (hF b hf) hz (fun j hj => hc _ _ _ hf (hcell j hj)) h1 ih
  | sl0 sz a c => exact .sl0 sz a c
  | nsl => exact .nsl
  | esl a => exact .esl a
  | ptr cs b off vals hf hcell _ ih => exact .ptr cs b off vals (hF b hf) (fun j hj => hc _ _ _ hf (hcell j hj)) ih
  | nptr => exact .nptr
  | fn f xs vs hs _ ih => exact .fn f xs vs hs ih
  | nfn => exact .nfn
  | iface t x v _ ih => exact .iface t x v ih
  | nif => exact .nif
  | map kk es r ents clock hf hhr hs hk _ hb ihv =>
    refine .map kk es r ents clock (hF r hf) ?_ hs hk ihv hb
    rw [hh r hf (Array.getElem?_eq_some_iff.1 hhr).1]; exact hhr
  | any v => exact .any v
  | box x b v hf hcell _ ih => exact .box x b v (hF b hf) (hc _ _ _ hf hcell) ih
  | nst E sz xs v _ ih => exact .nst E sz xs v ih
  | nmp kk es v _ ih => exact .nmp kk es v ih
theorem VT.sub {F F' : Nat → Prop} {w : World} {x : T} {v : Value} (h : VT F w x v) (hF : ∀ b, F b → F' b) : VT F' w x v := h.mono hF fun _ _ _ => rfl

/-- The call's own blocks. -/
def Lv (own : Nat → Own) (b : Nat) : Prop := ∃ k, (own k).bl b

/-- A cell of a row: a row within, or a value. -/
def CellOk (F : Nat → Prop) (w : World) (c : Path → Option Loc) (p : Path) (i j : Nat) (y : T) (v : Value) : Prop := match y with
  | .nst _ _ _ => ∃ L, c (p ++ [(i, j)]) = some L ∧ v = L.val
  | .nmp _ _ => ∃ L, c (p ++ [(i, j)]) = some L ∧ v = L.mval
  | y => VT F w y v
/-- A row or map of a tree: its cells, and where the rows within lie. -/
def NodeOk (F : Nat → Prop) (w : World) (c : Path → Option Loc) (p : Path) : Nd → Prop
  | .row E sz xs => (xs = [] ∧ ∃ a, c p = some (.e a)) ∨ ∃ (b o cap : Nat) (vals : Array Value), c p = some (.at b o sz cap xs.length) ∧ 0 < sz ∧ 0 < cap ∧ w.heap[b]? = some (.cells vals E (0, 0)) ∧ o + cap * sz ≤ vals.size ∧ xs.length ≤ cap ∧ xs.length ≤ 2 ^ 48 ∧
    (∀ x ∈ xs, x.cells.length = sz) ∧ (∀ (i : Nat) (x : T) (j : Nat) (y : T) (v : Value), xs[i]? = some x → x.cells[j]? = some y → vals[o + i * sz + j]? = some v → CellOk F w c p i j y v) ∧ ∀ j, j < xs.length * sz → (vals.getD (o + j) undef).oneCell' = true
  | .map kk es => ∃ (b : Nat) (ents : Array MapEntry) (clock : Nat), c p = some (.at b 0 0 1 1) ∧ w.heap[b]? = some (.map ents clock) ∧ ents.size = es.length ∧
      (∀ (i : Nat) (kv : Int × T) (e : MapEntry), es[i]? = some kv → ents[i]? = some e → e.key = .int kk kv.1) ∧
      (∀ (i : Nat) (kv : Int × T) (e : MapEntry), es[i]? = some kv → ents[i]? = some e → VT F w kv.2 e.val) ∧
      (∀ (i : Nat) (e : MapEntry), ents[i]? = some e → e.born < clock ∧ ∀ (j : Nat) (e' : MapEntry), ents[j]? = some e' → e.born = e'.born → i = j)

/-- A tree of rows: each row, and none twice. -/
def TreeOk (F : Nat → Prop) (w : World) (c : Path → Option Loc) (nd : Nd) : Prop :=
  (∀ (p : Path) (n : Nd), nodeAt nd p = some n → NodeOk F w c p n) ∧
    ∀ (p p' : Path) (n n' : Nd) (b o s cp m o' s' cp' m' : Nat), nodeAt nd p = some n → nodeAt nd p' = some n' → c p = some (.at b o s cp m) → c p' = some (.at b o' s' cp' m') → p = p'
/-- The blocks of a tree. -/
def Bk (c : Path → Option Loc) (nd : Nd) (b : Nat) : Prop := ∃ (p : Path) (n : Nd) (o s cp m : Nat), nodeAt nd p = some n ∧ c p = some (.at b o s cp m)
/-- Where its rows now lie. -/
def Own.cur (ow : Own) (ep : Nat → Nat) : Path → Option Loc := fun p => ow.am (ep p.length) p

/-- What an object says. -/
def OR (own : Nat → Own) (F : Nat → Prop) (w : World) (ow : Own) : SObj → Prop
  | .dead => True
  | .var E cs => ∃ (b : Nat) (vals : Array Value), ow.am 0 [] = some (.at b 0 cs.length 1 1) ∧ ow.bl b ∧ w.heap[b]? = some (.cells vals E (0, 0)) ∧ vals.size = cs.length ∧
      (∀ (j : Nat) (x : SV) (v : Value), cs[j]? = some x → vals[j]? = some v → VS own F w x v) ∧ (∀ v ∈ vals.toList, v.oneCell' = true) ∧ ∀ e p, 0 < e ∨ p ≠ [] → ow.am e p = none
  | .nd ep nd => TreeOk F w (ow.cur ep) nd ∧ (∀ b, Bk (ow.cur ep) nd b → ow.bl b) ∧ ep 0 = 0 ∧ ∀ e p, ep p.length < e → ow.am e p = none

structure Rel (own : Nat → Own) (F : Nat → Prop) (w : World) (σ : Sto) : Prop where
  unb : ∀ k, σ.length ≤ k → own k = .no
  inj : ∀ k k' b, (own k).bl b → (own k').bl b → k = k'
  sep : ∀ k b, (own k).bl b → ¬ F b
  Fb : ∀ b, F b → b < w.heap.size
  lb : ∀ k b, (own k).bl b → b < w.heap.size
  obj : ∀ k o, σ[k]? = some o → OR own F w (own k) o

/-- What a step leaves: n objects were there. -/
structure Ext (n : Nat) (own : Nat → Own) (F : Nat → Prop) (w : World) (own' : Nat → Own) (F' : Nat → Prop) (w' : World) : Prop where
  os : w'.os = w.os
  tape : w'.tape = w.tape
  output : w'.output = w.output
  sz : w.heap.size ≤ w'.heap.size
  fr : ∀ b, b < w.heap.size → ¬ Lv own b → w'.heap[b]? = w.heap[b]?
  Fm : ∀ b, F b → F' b
  Fn : ∀ b, F' b → F b ∨ w.heap.size ≤ b ∨ Lv own b
  on : ∀ b, Lv own' b → Lv own b ∨ w.heap.size ≤ b
  ok : ∀ k, k < n → ∀ e p L, (own k).am e p = some L → (own' k).am e p = some L

theorem Ext.refl (n : Nat) (own : Nat → Own) (F : Nat → Prop) (w : World) : Ext n own F w own F w :=
  ⟨rfl, rfl, rfl, Nat.le_refl _, fun _ _ _ => rfl, fun _ h => h, fun _ h => .inl h, fun _ h => .inl h, fun _ _ _ _ _ h => h⟩

theorem Ext.trans {n : Nat} {o1 o2 o3 : Nat → Own} {F1 F2 F3 : Nat → Prop} {w1 w2 w3 : World} (h : Ext n o1 F1 w1 o2 F2 w2) (k : Ext n o2 F2 w2 o3 F3 w3) : Ext n o1 F1 w1 o3 F3 w3 where
  os := k.os.trans h.os
  tape := k.tape.trans h.tape
  output := k.output.trans h.output
  sz := Nat.le_trans h.sz k.sz
  fr b hb hl := by
    rw [k.fr b (Nat.lt_of_lt_of_le hb h.sz) (fun hl2 => (h.on b hl2).elim hl (fun hge => absurd hb (by omega)))]
    exact h.fr b hb hl
  Fm b hb := k.Fm b (h.Fm b hb)
  Fn b hb := by
    rcases k.Fn b hb with h1 | h1 | h1
    · exact h.Fn b h1
    · exact .inr (.inl (Nat.le_trans h.sz h1))
    · rcases h.on b h1 with h2 | h2
      · exact .inr (.inr h2)
      · exact .inr (.inl h2)
  on b hb := by
    rcases k.on b hb with h1 | h1
    · exact h.on b h1
    · exact .inr (Nat.le_trans h.sz h1)
  ok j hj e p L hL := k.ok j hj e p L (h.ok j hj e p L hL)

theorem Ext.mono {n m : Nat} {o1 o2 : Nat → Own} {F1 F2 : Nat → Prop} {w1 w2 : World} (h : Ext n o1 F1 w1 o2 F2 w2) (hm : m ≤ n) : Ext m o1 F1 w1 o2 F2 w2 :=
  { h with ok := fun k hk => h.ok k (Nat.lt_of_lt_of_le hk hm) }

theorem VT.ext {n : Nat} {own own' : Nat → Own} {F F' : Nat → Prop} {w w' : World} (e : Ext n own F w own' F' w') (sep : ∀ k b, (own k).bl b → ¬ F b) {x : T} {v : Value} (h : VT F w x v) : VT F' w' x v :=
  h.mono e.Fm fun b hb hs => e.fr b hs fun ⟨k, hl⟩ => sep k b hl hb

section
variable {own own' : Nat → Own} {F F' : Nat → Prop} {w w' : World} {σ : Sto}

theorem Rel.lt_of (r : Rel own F w σ) {k e : Nat} {p : Path} {L : Loc} (h : (own k).am e p = some L) : k < σ.length := by
  rcases Nat.lt_or_ge k σ.length with h' | h'
  · exact h'
  · rw [r.unb k h'] at h; exact nomatch h

theorem VS.map' (hv : ∀ x v, VT F w x v → VT F' w' x v) (ha : ∀ k e p L, (own k).am e p = some L → (own' k).am e p = some L) {x : SV} {v : Value} (h : VS own F w x v) : VS own' F' w' x v := by
  induction h with
  | t x v h => exact .t x v (hv _ _ h)
  | ref k e p off len b o sz cap m h hl hm hn => exact .ref k e p off len b o sz cap m (ha _ _ _ _ h) hl hm hn
  | refE k e p a h => exact .refE k e p a (ha _ _ _ _ h)
  | refZ k e p off a ho => exact .refZ k e p off a ho
  | pl k e p i off b o sz cap m h => exact .pl k e p i off b o sz cap m (ha _ _ _ _ h)
  | mp k e p b o sz cap m h => exact .mp k e p b o sz cap m (ha _ _ _ _ h)
  | agg xs vs hs _ ih => exact .agg xs vs hs ih
  | tup xs vs hs _ ih => exact .tup xs vs hs ih
  | fn f xs vs hs _ ih => exact .fn f xs vs hs ih
  | g c x v h0 _ ih => exact .g c x v h0 ih

theorem VS.ext (r : Rel own F w σ) (e : Ext σ.length own F w own' F' w') {x : SV} {v : Value} (h : VS own F w x v) : VS own' F' w' x v :=
  h.map' (fun _ _ h => h.ext e r.sep) fun k ee p L h => e.ok k (r.lt_of h) ee p L h

theorem CellOk.move {c c' : Path → Option Loc} {p p' : Path} {i j : Nat} {y : T} {v : Value} (h : CellOk F w c p i j y v) (hc : c' (p' ++ [(i, j)]) = c (p ++ [(i, j)])) (hv : ∀ x v, VT F w x v → VT F' w' x v) : CellOk F' w' c' p' i j y v := by
  cases y <;> first | exact hv _ _ h | (obtain ⟨L, h1, h2⟩ := h; exact ⟨L, hc.trans h1, h2⟩)

theorem NodeOk.move {c c' : Path → Option Loc} {p p' : Path} {n : Nd} (h : NodeOk F w c p n) (ha : c' p' = c p) (hc : ∀ i j, c' (p' ++ [(i, j)]) = c (p ++ [(i, j)])) (hh : ∀ b o s cp m, c p = some (.at b o s cp m) → w'.heap[b]? = w.heap[b]?) (hv : ∀ x v, VT F w x v → VT F' w' x v) : NodeOk F' w' c' p' n := by
  cases n with
  | row E sz xs =>
    rcases h with ⟨g1, ad, g2⟩ | ⟨b, o, cap, vals, g1, g3, g4, g5, g6, g7, g8, g9, g10, g11⟩
    · exact .inl ⟨g1, ad, ha.trans g2⟩
    · exact .inr ⟨b, o, cap, vals, ha.trans g1, g3, g4, (hh _ _ _ _ _ g1).trans g5, g6, g7, g8, g9, fun i x j y v hx hy hvv => (g10 i x j y v hx hy hvv).move (hc i j) hv, g11⟩
  | map kk es =>
    obtain ⟨b, ents, clock, g1, g2, g3, g4, g5, g6⟩ := h
    exact ⟨b, ents, clock, ha.trans g1, (hh _ _ _ _ _ g1).trans g2, g3, g4, fun i kv e hx he => hv _ _ (g5 i kv e hx he), g6⟩

theorem TreeOk.move {c c' : Path → Option Loc} {nd : Nd} (h : TreeOk F w c nd) (ha : ∀ p, c' p = c p) (hh : ∀ b, Bk c nd b → w'.heap[b]? = w.heap[b]?) (hv : ∀ x v, VT F w x v → VT F' w' x v) : TreeOk F' w' c' nd := by
  have : c' = c := funext ha
  subst this
  exact ⟨fun p n hp => (h.1 p n hp).move rfl (fun _ _ => rfl) (fun b o s cp m hb => hh b ⟨p, n, o, s, cp, m, hp, hb⟩) hv, h.2⟩

/-- An object that stays. -/
theorem OR.keep {ow : Own} {o : SObj} (h : OR own F w ow o) (hh : ∀ b, ow.bl b → w'.heap[b]? = w.heap[b]?) (hv : ∀ x v, VT F w x v → VT F' w' x v) (hs : ∀ x v, VS own F w x v → VS own' F' w' x v) : OR own' F' w' ow o := by
  cases o with
  | dead => trivial
  | var E cs =>
    obtain ⟨b, vals, h1, h2, h3, h4, h5, h6, h7⟩ := h
    exact ⟨b, vals, h1, h2, (hh b h2).trans h3, h4, fun j x v hx hv' => hs _ _ (h5 j x v hx hv'), h6, h7⟩
  | nd ep nd =>
    obtain ⟨h1, h2, h3, h4⟩ := h
    exact ⟨h1.move (fun _ => rfl) (fun b hb => hh b (h2 b hb)) hv, h2, h3, h4⟩

theorem OR.ext (r : Rel own F w σ) (e : Ext σ.length own F w own' F' w') {ow : Own} {o : SObj} (h : OR own F w ow o) (hh : ∀ b, ow.bl b → w'.heap[b]? = w.heap[b]?) : OR own' F' w' ow o :=
  h.keep hh (fun _ _ h => h.ext e r.sep) fun _ _ h => h.ext r e

/-- One object told anew. -/
def upd1 (own : Nat → Own) (k : Nat) (ow : Own) : Nat → Own := fun j => if j = k then ow else own j
theorem upd1_same {k : Nat} {ow : Own} : upd1 own k ow k = ow := by unfold upd1; rw [if_pos rfl]
theorem upd1_ne {k j : Nat} {ow : Own} (h : j ≠ k) : upd1 own k ow j = own j := by unfold upd1; rw [if_neg h]

/-- One object more. Its blocks are new, or nobody's. -/
theorem Rel.push (r : Rel own F w σ) (ow : Own) (hb : ∀ b, ow.bl b → (w.heap.size ≤ b ∨ (¬ F b ∧ ¬ Lv own b)) ∧ b < w'.heap.size)
    (os : w'.os = w.os) (tape : w'.tape = w.tape) (output : w'.output = w.output) (sz : w.heap.size ≤ w'.heap.size) (hh : ∀ i, i < w.heap.size → w'.heap[i]? = w.heap[i]?)
    (o : SObj) (ho : ∀ own', own' σ.length = ow → (∀ x v, VT F w x v → VT F w' x v) → (∀ x v, VS own F w x v → VS own' F w' x v) → OR own' F w' ow o) :
    Rel (upd1 own σ.length ow) F w' (σ ++ [o]) ∧ (∀ k, k < σ.length → upd1 own σ.length ow k = own k) ∧ (∀ x v, VS own F w x v → VS (upd1 own σ.length ow) F w' x v) ∧ (∀ x v, VT F w x v → VT F w' x v) := by
  have hold : ∀ k, k < σ.length → upd1 own σ.length ow k = own k := fun k hk => upd1_ne (by omega)
  have hv : ∀ x v, VT F w x v → VT F w' x v := fun x v h => h.mono (fun _ h => h) fun b _ hb => hh b hb
  have hs : ∀ x v, VS own F w x v → VS (upd1 own σ.length ow) F w' x v := fun x v h => h.map' hv fun k e p L hL => by rw [hold k (r.lt_of hL)]; exact hL
  have hL : ∀ k b, (upd1 own σ.length ow k).bl b → (k = σ.length ∧ ow.bl b) ∨ (k < σ.length ∧ (own k).bl b) := by
    intro k b hk
    by_cases h : k = σ.length
    · subst h; rw [upd1_same] at hk; exact .inl ⟨rfl, hk⟩
    · rw [upd1_ne h] at hk
      rcases Nat.lt_or_ge k σ.length with h' | h'
      · exact .inr ⟨h', hk⟩
      · rw [r.unb k h'] at hk; exact hk.elim
  refine ⟨⟨?_, ?_, ?_, ?_, ?_, ?_⟩, hold, hs, hv⟩
  · intro k hk
    simp at hk
    rw [upd1_ne (by omega)]
    exact r.unb k (by omega)
  · intro k k' b h1 h2
    rcases hL k b h1 with ⟨p1, q1⟩ | ⟨p1, q1⟩ <;> rcases hL k' b h2 with ⟨p2, q2⟩ | ⟨p2, q2⟩
    · omega
    · rcases (hb b q1).1 with h | ⟨_, h⟩
      · have := r.lb _ b q2; omega
      · exact absurd ⟨_, q2⟩ h
    · rcases (hb b q2).1 with h | ⟨_, h⟩
      · have := r.lb _ b q1; omega
      · exact absurd ⟨_, q1⟩ h
    · exact r.inj _ _ b q1 q2
  · intro k b h1 hF
    rcases hL k b h1 with ⟨p1, q1⟩ | ⟨p1, q1⟩
    · rcases (hb b q1).1 with h | ⟨h, _⟩
      · have := r.Fb b hF; omega
      · exact h hF
    · exact r.sep _ b q1 hF
  · intro b hF
    exact Nat.lt_of_lt_of_le (r.Fb b hF) sz
  · intro k b h1
    rcases hL k b h1 with ⟨p1, q1⟩ | ⟨p1, q1⟩
    · exact (hb b q1).2
    · exact Nat.lt_of_lt_of_le (r.lb _ b q1) sz
  · intro k o' hk
    rcases Nat.lt_or_ge k σ.length with h | h
    · rw [List.getElem?_append_left h] at hk
      rw [hold k h]
      exact (r.obj k o' hk).keep (fun b hb => hh b (r.lb k b hb)) hv hs
    · rw [List.getElem?_append_right h] at hk
      have hk0 : k = σ.length := by
        rcases Nat.eq_or_lt_of_le h with h1 | h1
        · exact h1.symm
        · obtain ⟨d, hd⟩ : ∃ d, k - σ.length = d + 1 := ⟨k - σ.length - 1, by omega⟩
          rw [hd] at hk; simp at hk
      subst hk0
      simp at hk
      subst hk
      rw [upd1_same]
      exact ho _ upd1_same hv hs

theorem Rel.pushE (r : Rel own F w σ) (ow : Own) (hb : ∀ b, ow.bl b → w.heap.size ≤ b ∧ b < w'.heap.size)
    (os : w'.os = w.os) (tape : w'.tape = w.tape) (output : w'.output = w.output) (sz : w.heap.size ≤ w'.heap.size) (hh : ∀ i, i < w.heap.size → w'.heap[i]? = w.heap[i]?)
    (o : SObj) (ho : ∀ own', own' σ.length = ow → (∀ x v, VT F w x v → VT F w' x v) → (∀ x v, VS own F w x v → VS own' F w' x v) → OR own' F w' ow o) :
    Rel (upd1 own σ.length ow) F w' (σ ++ [o]) ∧ Ext σ.length own F w (upd1 own σ.length ow) F w' := by
  obtain ⟨h1, h2, h3, h4⟩ := r.push ow (fun b hbb => ⟨.inl (hb b hbb).1, (hb b hbb).2⟩) os tape output sz hh o ho
  refine ⟨h1, os, tape, output, sz, fun b hbb _ => hh b hbb, fun _ h => h, fun _ h => .inl h, ?_, fun k hk e p L hL => by rw [h2 k hk]; exact hL⟩
  rintro b ⟨k, hk⟩
  by_cases h : k = σ.length
  · subst h; rw [upd1_same] at hk; exact .inr (hb b hk).1
  · rw [upd1_ne h] at hk; exact .inl ⟨k, hk⟩

/-- One object told anew, in its own blocks. -/
theorem Rel.turn (r : Rel own F w σ) {k : Nat} (ow : Own) (hbl : ∀ b, ow.bl b → (own k).bl b) (ham : ∀ e p L, (own k).am e p = some L → ow.am e p = some L) (hk : k < σ.length)
    (os : w'.os = w.os) (tape : w'.tape = w.tape) (output : w'.output = w.output) (sz : w'.heap.size = w.heap.size) (hh : ∀ b, ¬ (own k).bl b → w'.heap[b]? = w.heap[b]?)
    (o : SObj) (ho : (∀ x v, VT F w x v → VT F w' x v) → (∀ x v, VS own F w x v → VS (upd1 own k ow) F w' x v) → OR (upd1 own k ow) F w' ow o) :
    Rel (upd1 own k ow) F w' (σ.set k o) ∧ Ext σ.length own F w (upd1 own k ow) F w' := by
  have hL : ∀ j b, (upd1 own k ow j).bl b → (own j).bl b := by
    intro j b hj
    by_cases h : j = k
    · subst h; rw [upd1_same] at hj; exact hbl b hj
    · rwa [upd1_ne h] at hj
  have hA : ∀ j e p L, (own j).am e p = some L → (upd1 own k ow j).am e p = some L := by
    intro j e p L hj
    by_cases h : j = k
    · subst h; rw [upd1_same]; exact ham e p L hj
    · rwa [upd1_ne h]
  have hv : ∀ x v, VT F w x v → VT F w' x v := fun x v h => h.mono (fun _ h => h) fun b hb _ => hh b fun hl => r.sep k b hl hb
  have hs : ∀ x v, VS own F w x v → VS (upd1 own k ow) F w' x v := fun x v h => h.map' hv hA
  refine ⟨⟨?_, fun i j b h1 h2 => r.inj i j b (hL i b h1) (hL j b h2), fun j b h => r.sep j b (hL j b h), fun b hb => by rw [sz]; exact r.Fb b hb, fun j b h => by rw [sz]; exact r.lb j b (hL j b h), ?_⟩,
    os, tape, output, by omega, fun b _ hl => hh b fun h => hl ⟨k, h⟩, fun _ h => h, fun _ h => .inl h, fun b ⟨j, hj⟩ => .inl ⟨j, hL j b hj⟩, fun j _ e p L h => hA j e p L h⟩
  · intro j hj
    simp at hj
    rw [upd1_ne (by omega)]
    exact r.unb j hj
  · intro j o' hj
    rw [List.getElem?_set] at hj
    by_cases hjk : k = j
    · subst hjk
      rw [if_pos rfl, if_pos hk] at hj
      injection hj with hj
      subst hj
      rw [upd1_same]
      exact ho hv hs
    · rw [if_neg hjk] at hj
      rw [upd1_ne (fun e => hjk e.symm)]
      exact (r.obj j o' hj).keep (fun b hb => hh b fun h => hjk (r.inj k j b h hb)) hv hs

theorem Rel.lt_obj {k : Nat} {o : SObj} (h : σ[k]? = some o) : k < σ.length := (List.getElem?_eq_some_iff.1 h).1

/-- Objects let go: nobody's. -/
def ownK (own : Nat → Own) (L : List Nat) : Nat → Own := fun k => if k ∈ L then ⟨(own k).am, fun _ => False⟩ else own k
theorem ownK_in {L : List Nat} {k : Nat} (h : k ∈ L) : ownK own L k = ⟨(own k).am, fun _ => False⟩ := by unfold ownK; rw [if_pos h]
theorem ownK_out {L : List Nat} {k : Nat} (h : k ∉ L) : ownK own L k = own k := by unfold ownK; rw [if_neg h]
theorem ownK_bl {L : List Nat} {k b : Nat} (h : (ownK own L k).bl b) : (own k).bl b ∧ k ∉ L := by
  by_cases hk : k ∈ L
  · rw [ownK_in hk] at h; exact h.elim
  · rw [ownK_out hk] at h; exact ⟨h, hk⟩
theorem ownK_am {L : List Nat} {k e : Nat} {p : Path} : (ownK own L k).am e p = (own k).am e p := by
  by_cases hk : k ∈ L
  · rw [ownK_in hk]
  · rw [ownK_out hk]
theorem kills_get : ∀ (L : List Nat) (σ : Sto) (j : Nat), (kills L σ)[j]? = if j ∈ L then (if j < σ.length then some .dead else none) else σ[j]?
  | [], σ, j => by simp [kills]
  | k :: L, σ, j => by
    rw [kills, kills_get L]
    by_cases h1 : j ∈ L
    · simp [h1]
    · by_cases h2 : j = k
      · subst h2
        simp [h1, List.getElem?_set]
      · have : ¬ k = j := fun e => h2 e.symm
        simp [h1, h2, List.getElem?_set, this]
theorem kills_len : ∀ (L : List Nat) (σ : Sto), (kills L σ).length = σ.length
  | [], σ => rfl
  | k :: L, σ => by rw [kills, kills_len L]; simp

/-- Their blocks may be such as nobody writes any more. -/
def Fk (own : Nat → Own) (F : Nat → Prop) (L : List Nat) : Nat → Prop := fun b => F b ∨ ∃ k, k ∈ L ∧ (own k).bl b

/-- Objects let go: F' is what was told of before, or of these too. -/
theorem Rel.killF (r : Rel own F w σ) (L : List Nat) (F' : Nat → Prop) (h1 : ∀ b, F b → F' b) (h2 : ∀ b, F' b → Fk own F L b) : Rel (ownK own L) F' w (kills L σ) ∧ Ext σ.length own F w (ownK own L) F' w := by
  have hv : ∀ x v, VT F w x v → VT F' w x v := fun x v h => h.sub h1
  have hs : ∀ x v, VS own F w x v → VS (ownK own L) F' w x v := fun x v h => h.map' hv fun k e p L hL => by rw [ownK_am]; exact hL
  refine ⟨⟨?_, fun i j b h1 h2 => r.inj i j b (ownK_bl h1).1 (ownK_bl h2).1, ?_, ?_, fun j b h => r.lb j b (ownK_bl h).1, ?_⟩, rfl, rfl, rfl, Nat.le_refl _, fun _ _ _ => rfl, h1, ?_, fun b ⟨j, hj⟩ => .inl ⟨j, (ownK_bl hj).1⟩, fun k _ e p L hL => by rw [ownK_am]; exact hL⟩
  · intro k hk
    rw [kills_len] at hk
    by_cases h : k ∈ L
    · rw [ownK_in h, r.unb k hk]; rfl
    · rw [ownK_out h]; exact r.unb k hk
  · intro k b hk hF
    obtain ⟨g1, g2⟩ := ownK_bl hk
    rcases h2 b hF with h | ⟨k', h3, h4⟩
    · exact r.sep k b g1 h
    · have := r.inj _ _ b g1 h4; subst this; exact g2 h3
  · intro b hF
    rcases h2 b hF with h | ⟨k', h3, h4⟩
    · exact r.Fb b h
    · exact r.lb _ b h4
  · intro k o hk
    rw [kills_get] at hk
    by_cases h : k ∈ L
    · simp [h] at hk
      rw [← hk.2]; trivial
    · simp only [h, if_false] at hk
      rw [ownK_out h]
      exact (r.obj k o hk).keep (fun _ _ => rfl) hv hs
  · intro b hF
    rcases h2 b hF with h | ⟨k', h3, h4⟩
    · exact .inl h
    · exact .inr (.inr ⟨k', h4⟩)
theorem Rel.kill (r : Rel own F w σ) (L : List Nat) : Rel (ownK own L) (Fk own F L) w (kills L σ) ∧ Ext σ.length own F w (ownK own L) (Fk own F L) w := r.killF L _ (fun _ h => .inl h) fun _ h => h
theorem Rel.drops (r : Rel own F w σ) (L : List Nat) : Rel (ownK own L) F w (kills L σ) ∧ Ext σ.length own F w (ownK own L) F w := r.killF L F (fun _ h => h) fun _ h => .inl h

/-- Where the world grows, and all that was there stands. -/
theorem Rel.grow (r : Rel own F w σ) (os : w'.os = w.os) (tape : w'.tape = w.tape) (output : w'.output = w.output) (sz : w.heap.size ≤ w'.heap.size) (hh : ∀ i, i < w.heap.size → w'.heap[i]? = w.heap[i]?) :
    Rel own F w' σ ∧ Ext σ.length own F w own F w' := by
  have hv : ∀ x v, VT F w x v → VT F w' x v := fun x v h => h.mono (fun _ h => h) fun b _ hb => hh b hb
  have hs : ∀ x v, VS own F w x v → VS own F w' x v := fun x v h => h.map' hv fun _ _ _ _ h => h
  exact ⟨⟨r.unb, r.inj, r.sep, fun b hb => Nat.lt_of_lt_of_le (r.Fb b hb) sz, fun k b hb => Nat.lt_of_lt_of_le (r.lb k b hb) sz, fun k o hk => (r.obj k o hk).keep (fun b hb => hh b (r.lb k b hb)) hv hs⟩,
    os, tape, output, sz, fun i hi _ => hh i hi, fun _ h => h, fun _ h => .inl h, fun _ h => .inl h, fun _ _ _ _ _ h => h⟩
end

/-- The variables of the running call. -/
def ER (N : Nat) (own : Nat → Own) (F : Nat → Prop) (w : World) (env : Env) (a : Act) : Prop :=
  a.tmps.size = N ∧ ∀ j, VS own F w (env j) (a.tmps.getD j undef)

theorem ER.ext {N : Nat} {own own' : Nat → Own} {F F' : Nat → Prop} {w w' : World} {σ : Sto} {env : Env} {a : Act} (h : ER N own F w env a) (r : Rel own F w σ) (e : Ext σ.length own F w own' F' w') : ER N own' F' w' env a :=
  ⟨h.1, fun j => (h.2 j).ext r e⟩

theorem VT.ofVal (F : Nat → Prop) (w : World) (v : Value) : VT F w (T.ofVal v) v := by
  unfold T.ofVal
  split
  · exact .bool _
  · exact .int _ _
  · exact .str _
  · exact .nsl
  · exact .nptr
  · exact .nfn
  · exact .nif
  · exact .any _

theorem ER.ev {N : Nat} {own : Nat → Own} {F : Nat → Prop} {w : World} {env : Env} {a : Act} (h : ER N own F w env a) (x : Operand) : VS own F w (ev env x) (a.eval x) := by
  cases x with
  | tmp t => exact h.2 t
  | const v => exact .t _ _ (.ofVal F w v)
  | global g => exact .t _ _ (.any _)
  | func f => exact .fn f [] #[] rfl (by simp)

theorem ER.upd {N : Nat} {own : Nat → Own} {F : Nat → Prop} {w : World} {env : Env} {a : Act} (h : ER N own F w env a) {d : Nat} (hd : d < N) {x : SV} {v : Value} (hx : VS own F w x v) :
    ER N own F w (upd env d x) (a.put (some d) v) := by
  refine ⟨by simp [Act.put, h.1], fun j => ?_⟩
  unfold Am.upd Act.put
  simp only
  by_cases hj : j = d
  · subst hj
    simp [Array.getD_eq_getD_getElem?, Array.getElem?_setIfInBounds, h.1, hd]; exact hx
  · have : Nat.beq j d = false := by
      cases hb : Nat.beq j d
      · rfl
      · exact absurd (Nat.eq_of_beq_eq_true hb) hj
    rw [this]
    have h2 := h.2 j
    simp only [cond_false, Array.getD_eq_getD_getElem?, Array.getElem?_setIfInBounds] at *
    rw [if_neg (fun e => hj e.symm)]; exact h2

theorem ER.put {N : Nat} {own : Nat → Own} {F : Nat → Prop} {w : World} {env : Env} {a : Act} (h : ER N own F w env a) {d : Option Nat} (hd : ∀ i, d = some i → i < N) {x : SV} {v : Value} (hx : VS own F w x v) :
    ER N own F w (put env d x) (a.put d v) := by
  cases d with
  | none => exact h
  | some d => exact h.upd (hd d rfl) hx
end Go.Proofs.Ytihebfhhnoneiaa.Am
