/- Trees of rows: what steps of the machine leave of them. -/
import Derived.Test.YtgladinljapmkaaXA
import Derived.Laws.Rows
/- What the trees and objects of the abstract machine say of the machine's memory; what steps leave of it. -/
namespace Go.Proofs.Ytgladinljapmkaa.Am
open Go.RowKit
set_option linter.unusedVariables false
set_option linter.unusedSimpArgs false
inductive Loc where
  | e (a : Option Addr)
  | at (b o sz cap m : Nat)
def Loc.val : Loc → Value
  | .e a => .slice a 0 0
  | .at b o _ cap m => .slice (some ⟨b, o, none⟩) m cap
def Loc.mval : Loc → Value
  | .e _ => .map none
  | .at b .. => .map (some b)
structure Own where
  am : Nat → Path → Option Loc
  bl : Nat → Prop
def Own.no : Own := ⟨fun _ _ => none, fun _ => False⟩
def BornOk (ents : Array MapEntry) (clock : Nat) : Prop := clock = ents.size ∧ ∀ (i : Nat) (e : MapEntry), ents[i]? = some e → e.born = i
theorem BornOk.old {ents : Array MapEntry} {clock : Nat} (h : BornOk ents clock) : ∀ (i : Nat) (e : MapEntry), ents[i]? = some e → e.born < clock ∧ ∀ (j : Nat) (e' : MapEntry), ents[j]? = some e' → e.born = e'.born → i = j := fun i e he => by
  have h1 := h.2 i e he
  have h2 := (Array.getElem?_eq_some_iff.1 he).1
  refine ⟨by rw [h1, h.1]; exact h2, fun j e' he' hb => ?_⟩
  have h3 := h.2 j e' he'
  omega
def MKey : MK → Int → Value → Prop
  | .int k, n, v => v = .int k n
  | .arr k m, n, v => ∃ ns : List Int, ns.length = m ∧ n = codeL ns ∧ v = .agg (ns.map (Value.int k)).toArray
  | .str, n, v => ∃ s, n = codeS s ∧ v = .string s
theorem MKey.one {k : MK} {n : Int} {v u : Value} (h : MKey k n v) (h' : MKey k n u) : v = u := by
  cases k with
  | int k => exact (show v = _ from h).trans (show u = _ from h').symm
  | arr k m =>
    obtain ⟨ns, h1, h2, rfl⟩ := h
    obtain ⟨ns', h1', h2', rfl⟩ := h'
    rw [codeL_inj (h2.symm.trans h2')]
  | str =>
    obtain ⟨s, h1, rfl⟩ := h
    obtain ⟨s', h1', rfl⟩ := h'
    rw [codeS_inj (h1.symm.trans h1')]
inductive VT (F : Nat → Prop) (w : World) : T → Value → Prop where
  | bool (b : Bool) : VT F w (.bool b) (.bool b)
  | int (k : IntKind) (n : Int) : VT F w (.int k n) (.int k n)
  | str (s : ByteArray) : VT F w (.str s) (.string s)
  | agg (xs : List T) (vs : Array Value) (hs : vs.size = xs.length) (h : ∀ (i : Nat) (x : T) (v : Value), xs[i]? = some x → vs[i]? = some v → VT F w x v) : VT F w (.agg xs) (.agg vs)
  | tup (xs : List T) (vs : Array Value) (hs : vs.size = xs.length) (h : ∀ (i : Nat) (x : T) (v : Value), xs[i]? = some x → vs[i]? = some v → VT F w x v) : VT F w (.tup xs) (.tuple vs)
  | sl (sz : Nat) (xs : List T) (b off c : Nat) (vals : Nat → Value) (hp : xs ≠ []) (hc : xs.length ≤ c) (hn : xs.length ≤ 2 ^ 48) (hF : F b) (hz : ∀ x ∈ xs, x.cells.length = sz)
      (hcell : ∀ j, j < xs.length * sz → w.cell? ⟨b, off + j, none⟩ = some (vals j)) (h1 : ∀ j, j < xs.length * sz → (vals j).oneCell' = true)
      (h : ∀ (i : Nat) (x : T) (j : Nat) (y : T), xs[i]? = some x → x.cells[j]? = some y → VT F w y (vals (i * sz + j))) : VT F w (.sl sz xs) (.slice (some ⟨b, off, none⟩) xs.length c)
  | sl0 (sz : Nat) (a : Option Addr) (c : Nat) : VT F w (.sl sz []) (.slice a 0 c)
  | nsl : VT F w .nsl (.slice none 0 0)
  | esl (a : Option Addr) : VT F w .esl (.slice a 0 0)
  | ptr (cs : List T) (b off : Nat) (vals : Nat → Value) (hF : F b) (hcell : ∀ j, j < cs.length → w.cell? ⟨b, off + j, none⟩ = some (vals j))
      (h : ∀ (j : Nat) (y : T), cs[j]? = some y → VT F w y (vals j)) : VT F w (.ptr cs) (.pointer (some ⟨b, off, none⟩))
  | nptr : VT F w .nptr (.pointer none)
  | fn (f : FuncId) (xs : List T) (vs : Array Value) (hs : vs.size = xs.length) (h : ∀ (i : Nat) (x : T) (v : Value), xs[i]? = some x → vs[i]? = some v → VT F w x v) : VT F w (.fn f xs) (.func (.func f) #[] vs)
  | nfn : VT F w .nfn .nilFunc
  | iface (t : TypeId) (x : T) (v : Value) (h : VT F w x v) : VT F w (.iface t x) (.iface t v)
  | nif : VT F w .nif .nilIface
  | map (kk : MK) (es : List (Int × T)) (r : Nat) (ents : Array MapEntry) (clock : Nat) (hF : F r) (hh : w.heap[r]? = some (.map ents clock)) (hs : ents.size = es.length)
      (hk : ∀ (i : Nat) (kv : Int × T) (e : MapEntry), es[i]? = some kv → ents[i]? = some e → MKey kk kv.1 e.key)
      (hv : ∀ (i : Nat) (kv : Int × T) (e : MapEntry), es[i]? = some kv → ents[i]? = some e → VT F w kv.2 e.val)
      (hb : BornOk ents clock) : VT F w (.map kk es) (.map (some r))
  | any (v : Value) : VT F w .any v
  | box (x : T) (b : Nat) (v : Value) (hF : F b) (hc : w.cell? ⟨b, 0, none⟩ = some v) (h : VT F w x v) : VT F w (.box x) (.pointer (some ⟨b, 0, none⟩))
  | nst (E : TypeId) (sz : Nat) (xs : List T) (v : Value) (h : VT F w (.sl sz xs) v) : VT F w (.nst E sz xs) v
  | nmp (kk : MK) (es : List (Int × T)) (v : Value) (h : VT F w (.map kk es) v) : VT F w (.nmp kk es) v
  | yl (l : Nat) : VT F w (.yl l) (.func (.yield l) #[] #[])
  | arr (xs : List T) (vs : Array Value) (hs : vs.size = xs.length) (h : ∀ (i : Nat) (x : T) (v : Value), xs[i]? = some x → vs[i]? = some v → VT F w x v) : VT F w (.arr xs) (.agg vs)
inductive VS (own : Nat → Own) (F : Nat → Prop) (w : World) : SV → Value → Prop where
  | t (x : T) (v : Value) (h : VT F w x v) : VS own F w (.t x) v
  | ref (k e : Nat) (p : Path) (off len b o sz cap m : Nat) (h : (own k).am e p = some (.at b o sz cap m)) (hl : off + len ≤ m) (hm : m ≤ cap) (hn : len ≤ 2 ^ 48) : VS own F w (.ref k e p off len) (.slice (some ⟨b, o + off * sz, none⟩) len (cap - off))
  | refE (k e : Nat) (p : Path) (a : Option Addr) (h : (own k).am e p = some (.e a)) : VS own F w (.ref k e p 0 0) (.slice a 0 0)
  | refZ (k e : Nat) (p : Path) (off : Nat) (a : Option Addr) (ho : 0 < off) : VS own F w (.ref k e p off 0) (.slice a 0 0)
  | pl (k e : Nat) (p : Path) (i off b o sz cap m : Nat) (h : (own k).am e p = some (.at b o sz cap m)) : VS own F w (.pl k e p i off) (.pointer (some ⟨b, o + i * sz + off, none⟩))
  | mp (k e : Nat) (p : Path) (b o sz cap m : Nat) (h : (own k).am e p = some (.at b o sz cap m)) : VS own F w (.mp k e p) (.map (some b))
  | agg (xs : List SV) (vs : Array Value) (hs : vs.size = xs.length) (h : ∀ (i : Nat) (x : SV) (v : Value), xs[i]? = some x → vs[i]? = some v → VS own F w x v) : VS own F w (.agg xs) (.agg vs)
  | tup (xs : List SV) (vs : Array Value) (hs : vs.size = xs.length) (h : ∀ (i : Nat) (x : SV) (v : Value), xs[i]? = some x → vs[i]? = some v → VS own F w x v) : VS own F w (.tup xs) (.tuple vs)
  | fn (f : FuncId) (xs : List SV) (vs : Array Value) (hs : vs.size = xs.length) (h : ∀ (i : Nat) (x : SV) (v : Value), xs[i]? = some x → vs[i]? = some v → VS own F w x v) : VS own F w (.fn f xs) (.func (.func f) #[] vs)
  | g (c : Bool) (x : SV) (v : Value) (h0 : c = false → v = undef) (h : c = true → VS own F w x v) : VS own F w (.g c x) v
theorem VT.mono {F F' : Nat → Prop} {w w' : World} {x : T} {v : Value} (h : VT F w x v) (hF : ∀ b, F b → F' b) (hh : ∀ b, F b → b < w.heap.size → w'.heap[b]? = w.heap[b]?) : VT F' w' x v := by
  have hc : ∀ (b o : Nat) (v : Value), F b → w.cell? ⟨b, o, none⟩ = some v → w'.cell? ⟨b, o, none⟩ = some v := by
    intro b o v hb hv
    rw [World.cell?_of_block (w := w) (hh b hb (World.block_lt_of_cell? w _ hv))]; exact hv
  induction h with
  | bool b => exact .bool b
  | int k n => exact .int k n
  | str s => exact .str s
  | agg xs vs hs _ ih => exact .agg xs vs hs ih
  | tup xs vs hs _ ih => exact .tup xs vs hs ih
  | sl sz xs b off c vals hp hcc hn hf hz hcell h1 _ ih => exact .sl sz xs b off c vals hp hcc hn (hF b hf) hz (fun j hj => hc _ _ _ hf (hcell j hj)) h1 ih
  | sl0 sz a c => exact .sl0 sz a c
  | nsl => exact .nsl
  | esl a => exact .esl a
  | ptr cs b off vals hf hcell _ ih => exact .ptr cs b off vals (hF b hf) (fun j hj => hc _ _ _ hf (hcell j hj)) ih
  | nptr => exact .nptr
  | fn f xs vs hs _ ih => exact .fn f xs vs hs ih
  | nfn => exact .nfn
  | iface t x v _ ih => exact .iface t x v ih
  | nif => exact .nif
  | map kk es r ents clock hf hhr hs hk _ hb ihv =>
    refine .map kk es r ents clock (hF r hf) ?_ hs hk ihv hb
    rw [hh r hf (Array.getElem?_eq_some_iff.1 hhr).1]; exact hhr
  | any v => exact .any v
  | box x b v hf hcell _ ih => exact .box x b v (hF b hf) (hc _ _ _ hf hcell) ih
  | nst E sz xs v _ ih => exact .nst E sz xs v ih
  | nmp kk es v _ ih => exact .nmp kk es v ih
  | yl l => exact .yl l
  | arr xs vs hs _ ih => exact .arr xs vs hs ih
theorem VT.sub {F F' : Nat → Prop} {w : World} {x : T} {v : Value} (h : VT F w x v) (hF : ∀ b, F b → F' b) : VT F' w x v := h.mono hF fun _ _ _ => rfl
def Lv (own : Nat → Own) (b : Nat) : Prop := ∃ k, (own k).bl b
def CellOk (F : Nat → Prop) (w : World) (c : Path → Option Loc) (p : Path) (i j : Nat) (y : T) (v : Value) : Prop := match y with
  | .nst _ _ _ => ∃ L, c (p ++ [(i, j)]) = some L ∧ v = L.val
  | .nmp _ _ => ∃ L, c (p ++ [(i, j)]) = some L ∧ v = L.mval
  | y => VT F w y v
def NodeOk (F : Nat → Prop) (w : World) (c : Path → Option Loc) (p : Path) : Nd → Prop
  | .row E sz xs => (xs = [] ∧ ∃ a, c p = some (.e a)) ∨ ∃ (b o cap : Nat) (vals : Array Value), c p = some (.at b o sz cap xs.length) ∧ 0 < sz ∧ 0 < cap ∧ w.heap[b]? = some (.cells vals E (0, 0)) ∧ o + cap * sz ≤ vals.size ∧ xs.length ≤ cap ∧ xs.length ≤ 2 ^ 48 ∧
    (∀ x ∈ xs, x.cells.length = sz) ∧ (∀ (i : Nat) (x : T) (j : Nat) (y : T) (v : Value), xs[i]? = some x → x.cells[j]? = some y → vals[o + i * sz + j]? = some v → CellOk F w c p i j y v) ∧ ∀ j, j < xs.length * sz → (vals.getD (o + j) undef).oneCell' = true
  | .map kk es => ∃ (b : Nat) (ents : Array MapEntry) (clock : Nat), c p = some (.at b 0 0 1 1) ∧ w.heap[b]? = some (.map ents clock) ∧ ents.size = es.length ∧
      (∀ (i : Nat) (kv : Int × T) (e : MapEntry), es[i]? = some kv → ents[i]? = some e → MKey kk kv.1 e.key) ∧
      (∀ (i : Nat) (kv : Int × T) (e : MapEntry), es[i]? = some kv → ents[i]? = some e → VT F w kv.2 e.val) ∧
      BornOk ents clock
def TreeOk (F : Nat → Prop) (w : World) (c : Path → Option Loc) (nd : Nd) : Prop :=
  (∀ (p : Path) (n : Nd), nodeAt nd p = some n → NodeOk F w c p n) ∧
    ∀ (p p' : Path) (n n' : Nd) (b o s cp m o' s' cp' m' : Nat), nodeAt nd p = some n → nodeAt nd p' = some n' → c p = some (.at b o s cp m) → c p' = some (.at b o' s' cp' m') → p = p'
def Bk (c : Path → Option Loc) (nd : Nd) (b : Nat) : Prop := ∃ (p : Path) (n : Nd) (o s cp m : Nat), nodeAt nd p = some n ∧ c p = some (.at b o s cp m)
def Own.cur (ow : Own) (ep : Nat → Nat) : Path → Option Loc := fun p => ow.am (ep p.length) p
def OR (own : Nat → Own) (F : Nat → Prop) (w : World) (ow : Own) : SObj → Prop
  | .dead => True
  | .var E cs => ∃ (b : Nat) (vals : Array Value), ow.am 0 [] = some (.at b 0 cs.length 1 1) ∧ ow.bl b ∧ w.heap[b]? = some (.cells vals E (0, 0)) ∧ vals.size = cs.length ∧
      (∀ (j : Nat) (x : SV) (v : Value), cs[j]? = some x → vals[j]? = some v → VS own F w x v) ∧ (∀ v ∈ vals.toList, v.oneCell' = true) ∧ ∀ e p, 0 < e ∨ p ≠ [] → ow.am e p = none
  | .nd ep nd => TreeOk F w (ow.cur ep) nd ∧ (∀ b, Bk (ow.cur ep) nd b → ow.bl b) ∧ ep 0 = 0 ∧ ∀ e p, ep p.length < e → ow.am e p = none
structure FB (F : Nat → Prop) (w : World) : Prop where
  lt : ∀ b, F b → b < w.heap.size
  tab : ∀ p ∈ tabs, F p.1 ∧ ∀ (j : Nat) (v : Value), p.2[j]? = some v → w.cell? ⟨p.1, j, none⟩ = some v
theorem cell_heap {w w' : World} {b j : Nat} (h : w'.heap[b]? = w.heap[b]?) : w'.cell? ⟨b, j, none⟩ = w.cell? ⟨b, j, none⟩ := by
  unfold World.cell?
  simp only [h]
theorem FB.mono {F F' : Nat → Prop} {w w' : World} (h : FB F w) (hl : ∀ b, F' b → b < w'.heap.size) (hF : ∀ b, F b → F' b) (hh : ∀ b, F b → w'.heap[b]? = w.heap[b]?) : FB F' w' :=
  ⟨hl, fun p hp => ⟨hF _ (h.tab p hp).1, fun j v hv => by rw [cell_heap (hh _ (h.tab p hp).1)]; exact (h.tab p hp).2 j v hv⟩⟩
theorem FB.same {F : Nat → Prop} {w w' : World} (h : FB F w) (sz : w.heap.size ≤ w'.heap.size) (hh : ∀ b, F b → w'.heap[b]? = w.heap[b]?) : FB F w' := h.mono (fun b hb => Nat.lt_of_lt_of_le (h.lt b hb) sz) (fun _ h => h) hh
theorem FB.tf {F : Nat → Prop} {w : World} (h : FB F w) : ∀ b, TF b → F b := fun b ⟨p, hp, e⟩ => e ▸ (h.tab p hp).1
theorem FB.own {F : Nat → Prop} {w : World} (h : FB F w) : FB TF w := ⟨fun b hb => h.lt b (h.tf b hb), fun p hp => ⟨⟨p, hp, rfl⟩, (h.tab p hp).2⟩⟩
structure Rel (own : Nat → Own) (F : Nat → Prop) (w : World) (σ : Sto) : Prop where
  unb : ∀ k, σ.length ≤ k → own k = .no
  inj : ∀ k k' b, (own k).bl b → (own k').bl b → k = k'
  sep : ∀ k b, (own k).bl b → ¬ F b
  fb : FB F w
  lb : ∀ k b, (own k).bl b → b < w.heap.size
  obj : ∀ k o, σ[k]? = some o → OR own F w (own k) o
theorem Rel.Fb {own : Nat → Own} {F : Nat → Prop} {w : World} {σ : Sto} (r : Rel own F w σ) : ∀ b, F b → b < w.heap.size := r.fb.lt
structure Ext (n : Nat) (own : Nat → Own) (F : Nat → Prop) (w : World) (own' : Nat → Own) (F' : Nat → Prop) (w' : World) : Prop where
  os : w'.os = w.os
  tape : w'.tape = w.tape
  output : w'.output = w.output
  sz : w.heap.size ≤ w'.heap.size
  fr : ∀ b, b < w.heap.size → ¬ Lv own b → w'.heap[b]? = w.heap[b]?
  Fm : ∀ b, F b → F' b
  Fn : ∀ b, F' b → F b ∨ w.heap.size ≤ b ∨ Lv own b
  on : ∀ b, Lv own' b → Lv own b ∨ w.heap.size ≤ b
  ok : ∀ k, k < n → ∀ e p L, (own k).am e p = some L → (own' k).am e p = some L
theorem Ext.refl (n : Nat) (own : Nat → Own) (F : Nat → Prop) (w : World) : Ext n own F w own F w :=
  ⟨rfl, rfl, rfl, Nat.le_refl _, fun _ _ _ => rfl, fun _ h => h, fun _ h => .inl h, fun _ h => .inl h, fun _ _ _ _ _ h => h⟩
theorem Ext.trans {n : Nat} {o1 o2 o3 : Nat → Own} {F1 F2 F3 : Nat → Prop} {w1 w2 w3 : World} (h : Ext n o1 F1 w1 o2 F2 w2) (k : Ext n o2 F2 w2 o3 F3 w3) : Ext n o1 F1 w1 o3 F3 w3 where
  os := k.os.trans h.os
  tape := k.tape.trans h.tape
  output := k.output.trans h.output
  sz := Nat.le_trans h.sz k.sz
  fr b hb hl := by
    rw [k.fr b (Nat.lt_of_lt_of_le hb h.sz) (fun hl2 => (h.on b hl2).elim hl (fun hge => absurd hb (by omega)))]
    exact h.fr b hb hl
  Fm b hb := k.Fm b (h.Fm b hb)
  Fn b hb := by
    rcases k.Fn b hb with h1 | h1 | h1
    · exact h.Fn b h1
    · exact .inr (.inl (Nat.le_trans h.sz h1))
    · rcases h.on b h1 with h2 | h2
      · exact .inr (.inr h2)
      · exact .inr (.inl h2)
  on b hb := by
    rcases k.on b hb with h1 | h1
    · exact h.on b h1
    · exact .inr (Nat.le_trans h.sz h1)
  ok j hj e p L hL := k.ok j hj e p L (h.ok j hj e p L hL)
theorem Ext.mono {n m : Nat} {o1 o2 : Nat → Own} {F1 F2 : Nat → Prop} {w1 w2 : World} (h : Ext n o1 F1 w1 o2 F2 w2) (hm : m ≤ n) : Ext m o1 F1 w1 o2 F2 w2 :=
  { h with ok := fun k hk => h.ok k (Nat.lt_of_lt_of_le hk hm) }
theorem VT.ext {n : Nat} {own own' : Nat → Own} {F F' : Nat → Prop} {w w' : World} (e : Ext n own F w own' F' w') (sep : ∀ k b, (own k).bl b → ¬ F b) {x : T} {v : Value} (h : VT F w x v) : VT F' w' x v :=
  h.mono e.Fm fun b hb hs => e.fr b hs fun ⟨k, hl⟩ => sep k b hl hb
section
variable {own own' : Nat → Own} {F F' : Nat → Prop} {w w' : World} {σ : Sto}
theorem Rel.lt_of (r : Rel own F w σ) {k e : Nat} {p : Path} {L : Loc} (h : (own k).am e p = some L) : k < σ.length := by
  rcases Nat.lt_or_ge k σ.length with h' | h'
  · exact h'
  · rw [r.unb k h'] at h; exact nomatch h
theorem VS.map' (hv : ∀ x v, VT F w x v → VT F' w' x v) (ha : ∀ k e p L, (own k).am e p = some L → (own' k).am e p = some L) {x : SV} {v : Value} (h : VS own F w x v) : VS own' F' w' x v := by
  induction h with
  | t x v h => exact .t x v (hv _ _ h)
  | ref k e p off len b o sz cap m h hl hm hn => exact .ref k e p off len b o sz cap m (ha _ _ _ _ h) hl hm hn
  | refE k e p a h => exact .refE k e p a (ha _ _ _ _ h)
  | refZ k e p off a ho => exact .refZ k e p off a ho
  | pl k e p i off b o sz cap m h => exact .pl k e p i off b o sz cap m (ha _ _ _ _ h)
  | mp k e p b o sz cap m h => exact .mp k e p b o sz cap m (ha _ _ _ _ h)
  | agg xs vs hs _ ih => exact .agg xs vs hs ih
  | tup xs vs hs _ ih => exact .tup xs vs hs ih
  | fn f xs vs hs _ ih => exact .fn f xs vs hs ih
  | g c x v h0 _ ih => exact .g c x v h0 ih
theorem VS.ext (r : Rel own F w σ) (e : Ext σ.length own F w own' F' w') {x : SV} {v : Value} (h : VS own F w x v) : VS own' F' w' x v :=
  h.map' (fun _ _ h => h.ext e r.sep) fun k ee p L h => e.ok k (r.lt_of h) ee p L h
theorem CellOk.move {c c' : Path → Option Loc} {p p' : Path} {i j : Nat} {y : T} {v : Value} (h : CellOk F w c p i j y v) (hc : c' (p' ++ [(i, j)]) = c (p ++ [(i, j)])) (hv : ∀ x v, VT F w x v → VT F' w' x v) : CellOk F' w' c' p' i j y v := by
  cases y <;> first | exact hv _ _ h | (obtain ⟨L, h1, h2⟩ := h; exact ⟨L, hc.trans h1, h2⟩)
theorem NodeOk.move {c c' : Path → Option Loc} {p p' : Path} {n : Nd} (h : NodeOk F w c p n) (ha : c' p' = c p) (hc : ∀ i j, c' (p' ++ [(i, j)]) = c (p ++ [(i, j)])) (hh : ∀ b o s cp m, c p = some (.at b o s cp m) → w'.heap[b]? = w.heap[b]?) (hv : ∀ x v, VT F w x v → VT F' w' x v) : NodeOk F' w' c' p' n := by
  cases n with
  | row E sz xs =>
    rcases h with ⟨g1, ad, g2⟩ | ⟨b, o, cap, vals, g1, g3, g4, g5, g6, g7, g8, g9, g10, g11⟩
    · exact .inl ⟨g1, ad, ha.trans g2⟩
    · exact .inr ⟨b, o, cap, vals, ha.trans g1, g3, g4, (hh _ _ _ _ _ g1).trans g5, g6, g7, g8, g9, fun i x j y v hx hy hvv => (g10 i x j y v hx hy hvv).move (hc i j) hv, g11⟩
  | map kk es =>
    obtain ⟨b, ents, clock, g1, g2, g3, g4, g5, g6⟩ := h
    exact ⟨b, ents, clock, ha.trans g1, (hh _ _ _ _ _ g1).trans g2, g3, g4, fun i kv e hx he => hv _ _ (g5 i kv e hx he), g6⟩
theorem TreeOk.move {c c' : Path → Option Loc} {nd : Nd} (h : TreeOk F w c nd) (ha : ∀ p, c' p = c p) (hh : ∀ b, Bk c nd b → w'.heap[b]? = w.heap[b]?) (hv : ∀ x v, VT F w x v → VT F' w' x v) : TreeOk F' w' c' nd := by
  have : c' = c := funext ha
  subst this
  exact ⟨fun p n hp => (h.1 p n hp).move rfl (fun _ _ => rfl) (fun b o s cp m hb => hh b ⟨p, n, o, s, cp, m, hp, hb⟩) hv, h.2⟩
theorem OR.keep {ow : Own} {o : SObj} (h : OR own F w ow o) (hh : ∀ b, ow.bl b → w'.heap[b]? = w.heap[b]?) (hv : ∀ x v, VT F w x v → VT F' w' x v) (hs : ∀ x v, VS own F w x v → VS own' F' w' x v) : OR own' F' w' ow o := by
  cases o with
  | dead => trivial
  | var E cs =>
    obtain ⟨b, vals, h1, h2, h3, h4, h5, h6, h7⟩ := h
    exact ⟨b, vals, h1, h2, (hh b h2).trans h3, h4, fun j x v hx hv' => hs _ _ (h5 j x v hx hv'), h6, h7⟩
  | nd ep nd =>
    obtain ⟨h1, h2, h3, h4⟩ := h
    exact ⟨h1.move (fun _ => rfl) (fun b hb => hh b (h2 b hb)) hv, h2, h3, h4⟩
theorem OR.ext (r : Rel own F w σ) (e : Ext σ.length own F w own' F' w') {ow : Own} {o : SObj} (h : OR own F w ow o) (hh : ∀ b, ow.bl b → w'.heap[b]? = w.heap[b]?) : OR own' F' w' ow o :=
  h.keep hh (fun _ _ h => h.ext e r.sep) fun _ _ h => h.ext r e
def upd1 (own : Nat → Own) (k : Nat) (ow : Own) : Nat → Own := fun j => if j = k then ow else own j
theorem upd1_same {k : Nat} {ow : Own} : upd1 own k ow k = ow := by unfold upd1; rw [if_pos rfl]
theorem upd1_ne {k j : Nat} {ow : Own} (h : j ≠ k) : upd1 own k ow j = own j := by unfold upd1; rw [if_neg h]
theorem Rel.push (r : Rel own F w σ) (ow : Own) (hb : ∀ b, ow.bl b → (w.heap.size ≤ b ∨ (¬ F b ∧ ¬ Lv own b)) ∧ b < w'.heap.size)
    (os : w'.os = w.os) (tape : w'.tape = w.tape) (output : w'.output = w.output) (sz : w.heap.size ≤ w'.heap.size) (hh : ∀ i, i < w.heap.size → w'.heap[i]? = w.heap[i]?)
    (o : SObj) (ho : ∀ own', own' σ.length = ow → (∀ x v, VT F w x v → VT F w' x v) → (∀ x v, VS own F w x v → VS own' F w' x v) → OR own' F w' ow o) :
    Rel (upd1 own σ.length ow) F w' (σ ++ [o]) ∧ (∀ k, k < σ.length → upd1 own σ.length ow k = own k) ∧ (∀ x v, VS own F w x v → VS (upd1 own σ.length ow) F w' x v) ∧ (∀ x v, VT F w x v → VT F w' x v) := by
  have hold : ∀ k, k < σ.length → upd1 own σ.length ow k = own k := fun k hk => upd1_ne (by omega)
  have hv : ∀ x v, VT F w x v → VT F w' x v := fun x v h => h.mono (fun _ h => h) fun b _ hb => hh b hb
  have hs : ∀ x v, VS own F w x v → VS (upd1 own σ.length ow) F w' x v := fun x v h => h.map' hv fun k e p L hL => by rw [hold k (r.lt_of hL)]; exact hL
  have hL : ∀ k b, (upd1 own σ.length ow k).bl b → (k = σ.length ∧ ow.bl b) ∨ (k < σ.length ∧ (own k).bl b) := by
    intro k b hk
    by_cases h : k = σ.length
    · subst h; rw [upd1_same] at hk; exact .inl ⟨rfl, hk⟩
    · rw [upd1_ne h] at hk
      rcases Nat.lt_or_ge k σ.length with h' | h'
      · exact .inr ⟨h', hk⟩
      · rw [r.unb k h'] at hk; exact hk.elim
  refine ⟨⟨?_, ?_, ?_, ?_, ?_, ?_⟩, hold, hs, hv⟩
  · intro k hk
    simp at hk
    rw [upd1_ne (by omega)]
    exact r.unb k (by omega)
  · intro k k' b h1 h2
    rcases hL k b h1 with ⟨p1, q1⟩ | ⟨p1, q1⟩ <;> rcases hL k' b h2 with ⟨p2, q2⟩ | ⟨p2, q2⟩
    · omega
    · rcases (hb b q1).1 with h | ⟨_, h⟩
      · have := r.lb _ b q2; omega
      · exact absurd ⟨_, q2⟩ h
    · rcases (hb b q2).1 with h | ⟨_, h⟩
      · have := r.lb _ b q1; omega
      · exact absurd ⟨_, q1⟩ h
    · exact r.inj _ _ b q1 q2
  · intro k b h1 hF
    rcases hL k b h1 with ⟨p1, q1⟩ | ⟨p1, q1⟩
    · rcases (hb b q1).1 with h | ⟨h, _⟩
      · have := r.Fb b hF; omega
      · exact h hF
    · exact r.sep _ b q1 hF
  · exact r.fb.same sz fun b hb => hh b (r.Fb b hb)
  · intro k b h1
    rcases hL k b h1 with ⟨p1, q1⟩ | ⟨p1, q1⟩
    · exact (hb b q1).2
    · exact Nat.lt_of_lt_of_le (r.lb _ b q1) sz
  · intro k o' hk
    rcases Nat.lt_or_ge k σ.length with h | h
    · rw [List.getElem?_append_left h] at hk
      rw [hold k h]
      exact (r.obj k o' hk).keep (fun b hb => hh b (r.lb k b hb)) hv hs
    · rw [List.getElem?_append_right h] at hk
      have hk0 : k = σ.length := by
        rcases Nat.eq_or_lt_of_le h with h1 | h1
        · exact h1.symm
        · obtain ⟨d, hd⟩ : ∃ d, k - σ.length = d + 1 := ⟨k - σ.length - 1, by omega⟩
          rw [hd] at hk; simp at hk
      subst hk0
      simp at hk
      subst hk
      rw [upd1_same]
      exact ho _ upd1_same hv hs
theorem Rel.pushE (r : Rel own F w σ) (ow : Own) (hb : ∀ b, ow.bl b → w.heap.size ≤ b ∧ b < w'.heap.size)
    (os : w'.os = w.os) (tape : w'.tape = w.tape) (output : w'.output = w.output) (sz : w.heap.size ≤ w'.heap.size) (hh : ∀ i, i < w.heap.size → w'.heap[i]? = w.heap[i]?)
    (o : SObj) (ho : ∀ own', own' σ.length = ow → (∀ x v, VT F w x v → VT F w' x v) → (∀ x v, VS own F w x v → VS own' F w' x v) → OR own' F w' ow o) :
    Rel (upd1 own σ.length ow) F w' (σ ++ [o]) ∧ Ext σ.length own F w (upd1 own σ.length ow) F w' := by
  obtain ⟨h1, h2, h3, h4⟩ := r.push ow (fun b hbb => ⟨.inl (hb b hbb).1, (hb b hbb).2⟩) os tape output sz hh o ho
  refine ⟨h1, os, tape, output, sz, fun b hbb _ => hh b hbb, fun _ h => h, fun _ h => .inl h, ?_, fun k hk e p L hL => by rw [h2 k hk]; exact hL⟩
  rintro b ⟨k, hk⟩
  by_cases h : k = σ.length
  · subst h; rw [upd1_same] at hk; exact .inr (hb b hk).1
  · rw [upd1_ne h] at hk; exact .inl ⟨k, hk⟩
theorem Rel.turn (r : Rel own F w σ) {k : Nat} (ow : Own) (hbl : ∀ b, ow.bl b → (own k).bl b) (ham : ∀ e p L, (own k).am e p = some L → ow.am e p = some L) (hk : k < σ.length)
    (os : w'.os = w.os) (tape : w'.tape = w.tape) (output : w'.output = w.output) (sz : w'.heap.size = w.heap.size) (hh : ∀ b, ¬ (own k).bl b → w'.heap[b]? = w.heap[b]?)
    (o : SObj) (ho : (∀ x v, VT F w x v → VT F w' x v) → (∀ x v, VS own F w x v → VS (upd1 own k ow) F w' x v) → OR (upd1 own k ow) F w' ow o) :
    Rel (upd1 own k ow) F w' (σ.set k o) ∧ Ext σ.length own F w (upd1 own k ow) F w' := by
  have hL : ∀ j b, (upd1 own k ow j).bl b → (own j).bl b := by
    intro j b hj
    by_cases h : j = k
    · subst h; rw [upd1_same] at hj; exact hbl b hj
    · rwa [upd1_ne h] at hj
  have hA : ∀ j e p L, (own j).am e p = some L → (upd1 own k ow j).am e p = some L := by
    intro j e p L hj
    by_cases h : j = k
    · subst h; rw [upd1_same]; exact ham e p L hj
    · rwa [upd1_ne h]
  have hv : ∀ x v, VT F w x v → VT F w' x v := fun x v h => h.mono (fun _ h => h) fun b hb _ => hh b fun hl => r.sep k b hl hb
  have hs : ∀ x v, VS own F w x v → VS (upd1 own k ow) F w' x v := fun x v h => h.map' hv hA
  refine ⟨⟨?_, fun i j b h1 h2 => r.inj i j b (hL i b h1) (hL j b h2), fun j b h => r.sep j b (hL j b h), r.fb.same (by omega) fun b hb => hh b fun hl => r.sep k b hl hb, fun j b h => by rw [sz]; exact r.lb j b (hL j b h), ?_⟩,
    os, tape, output, by omega, fun b _ hl => hh b fun h => hl ⟨k, h⟩, fun _ h => h, fun _ h => .inl h, fun b ⟨j, hj⟩ => .inl ⟨j, hL j b hj⟩, fun j _ e p L h => hA j e p L h⟩
  · intro j hj
    simp at hj
    rw [upd1_ne (by omega)]
    exact r.unb j hj
  · intro j o' hj
    rw [List.getElem?_set] at hj
    by_cases hjk : k = j
    · subst hjk
      rw [if_pos rfl, if_pos hk] at hj
      injection hj with hj
      subst hj
      rw [upd1_same]
      exact ho hv hs
    · rw [if_neg hjk] at hj
      rw [upd1_ne (fun e => hjk e.symm)]
      exact (r.obj j o' hj).keep (fun b hb => hh b fun h => hjk (r.inj k j b h hb)) hv hs
theorem Rel.lt_obj {k : Nat} {o : SObj} (h : σ[k]? = some o) : k < σ.length := (List.getElem?_eq_some_iff.1 h).1
def ownK (own : Nat → Own) (L : List Nat) : Nat → Own := fun k => if k ∈ L then ⟨(own k).am, fun _ => False⟩ else own k
theorem ownK_in {L : List Nat} {k : Nat} (h : k ∈ L) : ownK own L k = ⟨(own k).am, fun _ => False⟩ := by unfold ownK; rw [if_pos h]
theorem ownK_out {L : List Nat} {k : Nat} (h : k ∉ L) : ownK own L k = own k := by unfold ownK; rw [if_neg h]
theorem ownK_bl {L : List Nat} {k b : Nat} (h : (ownK own L k).bl b) : (own k).bl b ∧ k ∉ L := by
  by_cases hk : k ∈ L
  · rw [ownK_in hk] at h; exact h.elim
  · rw [ownK_out hk] at h; exact ⟨h, hk⟩
theorem ownK_am {L : List Nat} {k e : Nat} {p : Path} : (ownK own L k).am e p = (own k).am e p := by
  by_cases hk : k ∈ L
  · rw [ownK_in hk]
  · rw [ownK_out hk]
theorem kills_get : ∀ (L : List Nat) (σ : Sto) (j : Nat), (kills L σ)[j]? = if j ∈ L then (if j < σ.length then some .dead else none) else σ[j]?
  | [], σ, j => by simp [kills]
  | k :: L, σ, j => by
    rw [kills, kills_get L]
    by_cases h1 : j ∈ L
    · simp [h1]
    · by_cases h2 : j = k
      · subst h2
        simp [h1, List.getElem?_set]
      · have : ¬ k = j := fun e => h2 e.symm
        simp [h1, h2, List.getElem?_set, this]
theorem kills_len : ∀ (L : List Nat) (σ : Sto), (kills L σ).length = σ.length
  | [], σ => rfl
  | k :: L, σ => by rw [kills, kills_len L]; simp
def Fk (own : Nat → Own) (F : Nat → Prop) (L : List Nat) : Nat → Prop := fun b => F b ∨ ∃ k, k ∈ L ∧ (own k).bl b
theorem Rel.killF (r : Rel own F w σ) (L : List Nat) (F' : Nat → Prop) (h1 : ∀ b, F b → F' b) (h2 : ∀ b, F' b → Fk own F L b) : Rel (ownK own L) F' w (kills L σ) ∧ Ext σ.length own F w (ownK own L) F' w := by
  have hv : ∀ x v, VT F w x v → VT F' w x v := fun x v h => h.sub h1
  have hs : ∀ x v, VS own F w x v → VS (ownK own L) F' w x v := fun x v h => h.map' hv fun k e p L hL => by rw [ownK_am]; exact hL
  refine ⟨⟨?_, fun i j b h1 h2 => r.inj i j b (ownK_bl h1).1 (ownK_bl h2).1, ?_, ?_, fun j b h => r.lb j b (ownK_bl h).1, ?_⟩, rfl, rfl, rfl, Nat.le_refl _, fun _ _ _ => rfl, h1, ?_, fun b ⟨j, hj⟩ => .inl ⟨j, (ownK_bl hj).1⟩, fun k _ e p L hL => by rw [ownK_am]; exact hL⟩
  · intro k hk
    rw [kills_len] at hk
    by_cases h : k ∈ L
    · rw [ownK_in h, r.unb k hk]; rfl
    · rw [ownK_out h]; exact r.unb k hk
  · intro k b hk hF
    obtain ⟨g1, g2⟩ := ownK_bl hk
    rcases h2 b hF with h | ⟨k', h3, h4⟩
    · exact r.sep k b g1 h
    · have := r.inj _ _ b g1 h4; subst this; exact g2 h3
  · refine r.fb.mono (fun b hF => ?_) h1 fun _ _ => rfl
    rcases h2 b hF with h | ⟨k', h3, h4⟩
    · exact r.Fb b h
    · exact r.lb _ b h4
  · intro k o hk
    rw [kills_get] at hk
    by_cases h : k ∈ L
    · simp [h] at hk
      rw [← hk.2]; trivial
    · simp only [h, if_false] at hk
      rw [ownK_out h]
      exact (r.obj k o hk).keep (fun _ _ => rfl) hv hs
  · intro b hF
    rcases h2 b hF with h | ⟨k', h3, h4⟩
    · exact .inl h
    · exact .inr (.inr ⟨k', h4⟩)
theorem Rel.kill (r : Rel own F w σ) (L : List Nat) : Rel (ownK own L) (Fk own F L) w (kills L σ) ∧ Ext σ.length own F w (ownK own L) (Fk own F L) w := r.killF L _ (fun _ h => .inl h) fun _ h => h
theorem Rel.drops (r : Rel own F w σ) (L : List Nat) : Rel (ownK own L) F w (kills L σ) ∧ Ext σ.length own F w (ownK own L) F w := r.killF L F (fun _ h => h) fun _ h => .inl h
theorem Rel.grow (r : Rel own F w σ) (os : w'.os = w.os) (tape : w'.tape = w.tape) (output : w'.output = w.output) (sz : w.heap.size ≤ w'.heap.size) (hh : ∀ i, i < w.heap.size → w'.heap[i]? = w.heap[i]?) :
    Rel own F w' σ ∧ Ext σ.length own F w own F w' := by
  have hv : ∀ x v, VT F w x v → VT F w' x v := fun x v h => h.mono (fun _ h => h) fun b _ hb => hh b hb
  have hs : ∀ x v, VS own F w x v → VS own F w' x v := fun x v h => h.map' hv fun _ _ _ _ h => h
  exact ⟨⟨r.unb, r.inj, r.sep, r.fb.same sz fun b hb => hh b (r.Fb b hb), fun k b hb => Nat.lt_of_lt_of_le (r.lb k b hb) sz, fun k o hk => (r.obj k o hk).keep (fun b hb => hh b (r.lb k b hb)) hv hs⟩,
    os, tape, output, sz, fun i hi _ => hh i hi, fun _ h => h, fun _ h => .inl h, fun _ h => .inl h, fun _ _ _ _ _ h => h⟩
end
def ER (N : Nat) (own : Nat → Own) (F : Nat → Prop) (w : World) (env : Env) (a : Act) : Prop :=
  a.tmps.size = N ∧ ∀ j, VS own F w (env j) (a.tmps.getD j undef)
theorem ER.ext {N : Nat} {own own' : Nat → Own} {F F' : Nat → Prop} {w w' : World} {σ : Sto} {env : Env} {a : Act} (h : ER N own F w env a) (r : Rel own F w σ) (e : Ext σ.length own F w own' F' w') : ER N own' F' w' env a :=
  ⟨h.1, fun j => (h.2 j).ext r e⟩
theorem VT.ofVal (F : Nat → Prop) (w : World) (v : Value) : VT F w (T.ofVal v) v := by
  unfold T.ofVal
  split
  · exact .bool _
  · exact .int _ _
  · exact .str _
  · exact .nsl
  · exact .nptr
  · exact .nfn
  · exact .nif
  · exact .any _
theorem ER.ev {N : Nat} {own : Nat → Own} {F : Nat → Prop} {w : World} {env : Env} {a : Act} (h : ER N own F w env a) (x : Operand) : VS own F w (ev env x) (a.eval x) := by
  cases x with
  | tmp t => exact h.2 t
  | const v => exact .t _ _ (.ofVal F w v)
  | global g => exact .t _ _ (.any _)
  | func f => exact .fn f [] #[] rfl (by simp)
theorem ER.upd {N : Nat} {own : Nat → Own} {F : Nat → Prop} {w : World} {env : Env} {a : Act} (h : ER N own F w env a) {d : Nat} (hd : d < N) {x : SV} {v : Value} (hx : VS own F w x v) :
    ER N own F w (upd env d x) (a.put (some d) v) := by
  refine ⟨by simp [Act.put, h.1], fun j => ?_⟩
  unfold Am.upd Act.put
  simp only
  by_cases hj : j = d
  · subst hj
    simp [Array.getD_eq_getD_getElem?, Array.getElem?_setIfInBounds, h.1, hd]; exact hx
  · have : Nat.beq j d = false := by
      cases hb : Nat.beq j d
      · rfl
      · exact absurd (Nat.eq_of_beq_eq_true hb) hj
    rw [this]
    have h2 := h.2 j
    simp only [cond_false, Array.getD_eq_getD_getElem?, Array.getElem?_setIfInBounds] at *
    rw [if_neg (fun e => hj e.symm)]; exact h2
theorem ER.put {N : Nat} {own : Nat → Own} {F : Nat → Prop} {w : World} {env : Env} {a : Act} (h : ER N own F w env a) {d : Option Nat} (hd : ∀ i, d = some i → i < N) {x : SV} {v : Value} (hx : VS own F w x v) :
    ER N own F w (put env d x) (a.put d v) := by
  cases d with
  | none => exact h
  | some d => exact h.upd (hd d rfl) hx
end Go.Proofs.Ytgladinljapmkaa.Am

/- Trees of rows: ways, what is written, what is put in and taken out. -/
namespace Go.Proofs.Ytgladinljapmkaa.Am
open Go.RowKit
set_option linter.unusedVariables false
set_option linter.unusedSimpArgs false
theorem nd_toT (n : Nd) : n.toT.nd? = some n := by cases n <;> rfl
theorem nd_of {c : T} {n : Nd} (h : c.nd? = some n) : c = n.toT := by
  cases c <;> simp [T.nd?] at h <;> subst h <;> rfl
theorem toT_cells (n : Nd) : n.toT.cells = [n.toT] := by cases n <;> rfl
theorem noNst_nd {c : T} : noNst c = true ↔ c.nd? = none := by cases c <;> simp [noNst, T.nd?]
theorem nodeAt_cons {E : TypeId} {s : Nat} {ts : List T} {i j : Nat} {p : Path} {n : Nd} :
    nodeAt (.row E s ts) ((i, j) :: p) = some n ↔ ∃ x c m, ts[i]? = some x ∧ x.cells[j]? = some c ∧ c.nd? = some m ∧ nodeAt m p = some n := by
  simp only [nodeAt, nth_eq]
  constructor
  · intro h
    split at h
    · rename_i x hx
      split at h
      · rename_i c hc
        split at h
        · rename_i m hm
          exact ⟨x, c, m, hx, hc, hm, h⟩
        · exact nomatch h
      · exact nomatch h
    · exact nomatch h
  · rintro ⟨x, c, m, h1, h2, h3, h4⟩
    simp only [h1, h2, h3]
    exact h4
theorem nodeAt_nil {n : Nd} : nodeAt n [] = some n := by cases n <;> rfl
theorem nodeAt_map {kk : MK} {es : List (Int × T)} {q : Nat × Nat} {p : Path} : nodeAt (.map kk es) (q :: p) = none := rfl
theorem nodeAt_append : ∀ {p : Path} {nd n : Nd} {q : Path}, nodeAt nd p = some n → nodeAt nd (p ++ q) = nodeAt n q
  | [], nd, n, q, h => by rw [nodeAt_nil] at h; injection h with h; rw [h]; rfl
  | (i, j) :: p, .map .., n, q, h => by rw [nodeAt_map] at h; exact nomatch h
  | (i, j) :: p, .row E s ts, n, q, h => by
    obtain ⟨x, c, m, h1, h2, h3, h4⟩ := nodeAt_cons.1 h
    have := nodeAt_append (q := q) h4
    simp only [List.cons_append, nodeAt, nth_eq, h1, h2, h3]
    exact this
theorem nodeK_out : ∀ {p : Path} {nd : Nd} {K : Nd → Prop}, nodeK nd p K → ∃ n, nodeAt nd p = some n ∧ K n
  | [], nd, K, h => ⟨nd, nodeAt_nil, by unfold nodeK at h; cases nd <;> exact h⟩
  | (i, j) :: p, .map .., K, h => h.elim
  | (i, j) :: p, .row E s ts, K, h => by
    obtain ⟨h1, h2⟩ := h
    have h1 := h1.out
    have h3 := h2.out (x := ts[i]) (by rw [nth_eq]; exact List.getElem?_eq_getElem h1)
    split at h3
    · rename_i c hc
      rw [nth_eq] at hc
      split at h3
      · rename_i m hm
        obtain ⟨n, h4, h5⟩ := nodeK_out h3
        exact ⟨n, nodeAt_cons.2 ⟨_, c, m, List.getElem?_eq_getElem h1, hc, hm, h4⟩, h5⟩
      · exact h3.elim
    · exact h3.elim
theorem updK_out : ∀ {p : Path} {nd : Nd} {u : Nd → (Nd → Prop) → Prop} {K : Nd → Prop}, updK nd p u K → ∃ n, nodeAt nd p = some n ∧ u n fun m => K (setAt nd p m)
  | [], nd, u, K, h => ⟨nd, nodeAt_nil, by unfold updK at h; cases nd <;> exact h⟩
  | (i, j) :: p, .map .., u, K, h => h.elim
  | (i, j) :: p, .row E s ts, u, K, h => by
    obtain ⟨h1, h2⟩ := h
    have h1 := h1.out
    have h3 := h2.out (x := ts[i]) (by rw [nth_eq]; exact List.getElem?_eq_getElem h1)
    split at h3
    · rename_i c hc
      rw [nth_eq] at hc
      split at h3
      · rename_i m hm
        obtain ⟨n, h4, h5⟩ := updK_out h3
        refine ⟨n, nodeAt_cons.2 ⟨_, c, m, List.getElem?_eq_getElem h1, hc, hm, h4⟩, ?_⟩
        simp only [setAt, nth_eq, List.getElem?_eq_getElem h1, hc, hm]
        exact h5
      · exact h3.elim
    · exact h3.elim
theorem setT_cells {s off : Nat} {x : T} {ys : List T} (h : x.cells.length = s) (ho : off + ys.length ≤ s) (hn : ys ≠ []) (hy : ∀ y ∈ ys, y.cells = [y]) : (setT s x off ys).cells = x.cells.take off ++ ys ++ x.cells.drop (off + ys.length) := by
  unfold setT
  cases hs : Nat.beq s 1 with
  | true =>
    have hs := Nat.eq_of_beq_eq_true hs
    subst hs
    cases ys with
    | nil => exact absurd rfl hn
    | cons y ys =>
      simp at ho
      have h0 : off = 0 := by omega
      have h1 : ys = [] := List.eq_nil_of_length_eq_zero (by omega)
      subst h0 h1
      have h2 : x.cells.drop 1 = [] := List.eq_nil_of_length_eq_zero (by simp [h])
      simp only [hs, cond_true, List.headD_cons, hy y (by simp), List.take_zero, List.nil_append, List.length_singleton, Nat.zero_add, h2, List.append_nil]
  | false => rfl
theorem setT_get {s off : Nat} {x : T} {ys : List T} (h : x.cells.length = s) (ho : off + ys.length ≤ s) (hn : ys ≠ []) (hy : ∀ y ∈ ys, y.cells = [y]) (j : Nat) :
    (setT s x off ys).cells[j]? = if off ≤ j ∧ j < off + ys.length then ys[j - off]? else x.cells[j]? := by
  rw [setT_cells h ho hn hy]
  rcases Nat.lt_or_ge j off with h1 | h1
  · rw [if_neg (by omega), List.append_assoc, List.getElem?_append_left (by simp; omega), List.getElem?_take, if_pos h1]
  · rcases Nat.lt_or_ge j (off + ys.length) with h2 | h2
    · rw [if_pos ⟨h1, h2⟩, List.append_assoc, List.getElem?_append_right (by simp; omega), List.getElem?_append_left (by simp; omega)]
      congr 1; simp; omega
    · rw [if_neg (by omega), List.getElem?_append_right (by simp; omega), List.getElem?_drop]
      congr 1; simp; omega
theorem setT_len {s off : Nat} {x : T} {ys : List T} (h : x.cells.length = s) (ho : off + ys.length ≤ s) (hn : ys ≠ []) (hy : ∀ y ∈ ys, y.cells = [y]) : (setT s x off ys).cells.length = s := by
  rw [setT_cells h ho hn hy]; simp; omega
theorem setT_get1 {s off : Nat} {x y : T} (h : x.cells.length = s) (ho : off < s) (hy : y.cells = [y]) (j : Nat) : (setT s x off [y]).cells[j]? = if j = off then some y else x.cells[j]? := by
  rw [setT_get h (by simp; omega) (by simp) (by simpa using hy)]
  by_cases hj : j = off
  · subst hj; rw [if_pos (by simp), if_pos rfl]; simp
  · rw [if_neg (by simp; omega), if_neg hj]
def WF (nd : Nd) : Prop := ∀ (q : Path) (E : TypeId) (s : Nat) (ys : List T), nodeAt nd q = some (.row E s ys) → ∀ x ∈ ys, x.cells.length = s
theorem WF.sub {nd n : Nd} {p : Path} (h : WF nd) (hp : nodeAt nd p = some n) : WF n := fun q E s ys hq => h (p ++ q) E s ys (by rw [nodeAt_append hp]; exact hq)
def Nd.lv (n : Nd) (L : Loc) : Value := match n with | .row .. => L.val | .map .. => L.mval
def sameKind : Nd → Nd → Bool
  | .row .., .row .. => true
  | .map .., .map .. => true
  | _, _ => false
def T.kind2 : T → T → Prop := fun a b => a = b ∨ ∃ n m, a.nd? = some n ∧ b.nd? = some m ∧ sameKind n m = true
def SimN : Nd → Nd → Prop
  | .row E s xs, .row E' s' xn => E' = E ∧ s' = s ∧ xn.length = xs.length ∧ ∀ (i : Nat) (x' : T), xn[i]? = some x' → ∃ x, xs[i]? = some x ∧ x'.cells.length = x.cells.length ∧ ∀ (j : Nat) (c' : T), x'.cells[j]? = some c' → ∃ c, x.cells[j]? = some c ∧ T.kind2 c c'
  | .map kk es, n => n = .map kk es
  | _, _ => False
theorem SimN.refl : ∀ n, SimN n n
  | .row E s xs => ⟨rfl, rfl, rfl, fun i x h => ⟨x, h, rfl, fun j c hc => ⟨c, hc, .inl rfl⟩⟩⟩
  | .map kk es => rfl
theorem sameKind_set {n : Nd} {p : Path} {m n0 : Nd} (h : nodeAt n p = some n0) (hk : sameKind n0 m = true) : sameKind n (setAt n p m) = true := by
  cases p with
  | nil =>
    rw [nodeAt_nil] at h
    injection h with h
    subst h
    cases n <;> exact hk
  | cons q p =>
    cases n with
    | row E s ts =>
      obtain ⟨i, j⟩ := q
      obtain ⟨x, c, m', h1, h2, h3, h4⟩ := nodeAt_cons.1 h
      simp only [setAt, nth_eq, h1, h2, h3]
      rfl
    | map => rfl
theorem nodeAt_setAt : ∀ (p : Path) {nd m n0 : Nd}, nodeAt nd p = some n0 → WF nd → sameKind n0 m = true → ∀ (q : Path) (n' : Nd), nodeAt (setAt nd p m) q = some n' →
    (∃ r, q = p ++ r ∧ nodeAt m r = some n') ∨ ((¬ p <+: q) ∧ ∃ n, nodeAt nd q = some n ∧ SimN n n')
  | [], nd, m, n0, hp, hw, hk, q, n', hq => .inl ⟨q, rfl, by unfold setAt at hq; cases nd <;> exact hq⟩
  | (i, j) :: p, .map .., m, n0, hp, hw, hk, q, n', hq => by rw [nodeAt_map] at hp; exact nomatch hp
  | (i, j) :: p, .row E s ts, m, n0, hp, hw, hk, q, n', hq => by
    obtain ⟨x, c, m0, h1, h2, h3, h4⟩ := nodeAt_cons.1 hp
    have hi := (List.getElem?_eq_some_iff.1 h1).1
    have hcx := hw [] E s ts nodeAt_nil x (List.mem_of_getElem? h1)
    have hj : j < s := by rw [← hcx]; exact (List.getElem?_eq_some_iff.1 h2).1
    have hset : setAt (.row E s ts) ((i, j) :: p) m = .row E s (ts.set i (setT s x j [(setAt m0 p m).toT])) := by simp only [setAt, nth_eq, h1, h2, h3]
    have hX := setT_get1 (y := (setAt m0 p m).toT) hcx hj (toT_cells _)
    have hw2 : WF m0 := hw.sub (p := [(i, j)]) (nodeAt_cons.2 ⟨x, c, m0, h1, h2, h3, nodeAt_nil⟩)
    have hsk := sameKind_set h4 hk
    rw [hset] at hq
    cases q with
    | nil =>
      rw [nodeAt_nil] at hq
      injection hq with hq
      subst hq
      refine .inr ⟨by simp, .row E s ts, nodeAt_nil, rfl, rfl, by simp, fun i' x' hx' => ?_⟩
      rw [List.getElem?_set] at hx'
      by_cases hii : i = i'
      · subst hii
        rw [if_pos rfl, if_pos hi] at hx'
        injection hx' with hx'
        subst hx'
        refine ⟨x, h1, by rw [setT_len hcx (by simp; omega) (by simp) (by simpa using toT_cells _), hcx], fun j' c' hc' => ?_⟩
        rw [hX] at hc'
        by_cases hjj : j' = j
        · subst hjj
          rw [if_pos rfl] at hc'
          injection hc' with hc'
          subst hc'
          exact ⟨_, h2, .inr ⟨m0, _, h3, nd_toT _, hsk⟩⟩
        · rw [if_neg hjj] at hc'
          exact ⟨c', hc', .inl rfl⟩
      · rw [if_neg hii] at hx'
        exact ⟨x', hx', rfl, fun j c hc => ⟨c, hc, .inl rfl⟩⟩
    | cons h q =>
      obtain ⟨i', j'⟩ := h
      obtain ⟨x', c', m', g1, g2, g3, g4⟩ := nodeAt_cons.1 hq
      rw [List.getElem?_set] at g1
      by_cases hii : i = i'
      · subst hii
        rw [if_pos rfl, if_pos hi] at g1
        injection g1 with g1
        subst g1
        rw [hX] at g2
        by_cases hjj : j' = j
        · subst hjj
          rw [if_pos rfl] at g2
          injection g2 with g2
          subst g2
          rw [nd_toT] at g3
          injection g3 with g3
          subst g3
          rcases nodeAt_setAt p h4 hw2 hk q n' g4 with ⟨r, rfl, k1⟩ | ⟨k1, n, k2, k3⟩
          · exact .inl ⟨r, rfl, k1⟩
          · exact .inr ⟨fun e => k1 (List.cons_prefix_cons.1 e).2, n, nodeAt_cons.2 ⟨x, c, m0, h1, h2, h3, k2⟩, k3⟩
        · rw [if_neg hjj] at g2
          refine .inr ⟨fun e => ?_, n', nodeAt_cons.2 ⟨x, c', m', h1, g2, g3, g4⟩, SimN.refl _⟩
          have := (List.cons_prefix_cons.1 e).1
          injection this with _ this
          exact hjj this.symm
      · rw [if_neg hii] at g1
        refine .inr ⟨fun e => ?_, n', nodeAt_cons.2 ⟨x', c', m', g1, g2, g3, g4⟩, SimN.refl _⟩
        have := (List.cons_prefix_cons.1 e).1
        injection this with this _
        exact hii this
theorem nodeAt_setAt_at : ∀ (p : Path) {nd m n0 : Nd}, nodeAt nd p = some n0 → WF nd → nodeAt (setAt nd p m) p = some m
  | [], nd, m, n0, hp, hw => by cases nd <;> exact nodeAt_nil
  | (i, j) :: p, .map .., m, n0, hp, hw => by rw [nodeAt_map] at hp; exact nomatch hp
  | (i, j) :: p, .row E s ts, m, n0, hp, hw => by
    obtain ⟨x, c, m0, h1, h2, h3, h4⟩ := nodeAt_cons.1 hp
    have hi := (List.getElem?_eq_some_iff.1 h1).1
    have hcx := hw [] E s ts nodeAt_nil x (List.mem_of_getElem? h1)
    have hj : j < s := by rw [← hcx]; exact (List.getElem?_eq_some_iff.1 h2).1
    have hset : setAt (.row E s ts) ((i, j) :: p) m = .row E s (ts.set i (setT s x j [(setAt m0 p m).toT])) := by simp only [setAt, nth_eq, h1, h2, h3]
    rw [hset]
    refine nodeAt_cons.2 ⟨setT s x j [(setAt m0 p m).toT], (setAt m0 p m).toT, _, ?_, ?_, nd_toT _, nodeAt_setAt_at p h4 (hw.sub (p := [(i, j)]) (nodeAt_cons.2 ⟨x, c, m0, h1, h2, h3, nodeAt_nil⟩))⟩
    · rw [List.getElem?_set, if_pos rfl, if_pos hi]
    · rw [setT_get1 hcx hj (toT_cells _), if_pos rfl]
section
variable {F F' : Nat → Prop} {w w' : World} {c c' c2 : Path → Option Loc}
theorem TreeOk.wf {nd : Nd} (h : TreeOk F w c nd) : WF nd := by
  intro q E s ys hq x hx
  rcases h.1 q _ hq with ⟨rfl, _⟩ | ⟨_, _, _, _, _, _, _, _, _, _, _, q8, _⟩
  · simp at hx
  · exact q8 x hx
theorem TreeOk.sub {nd n : Nd} {p : Path} (h : TreeOk F w c nd) (hp : nodeAt nd p = some n) : TreeOk F w (fun r => c (p ++ r)) n := by
  refine ⟨fun q m hq => ?_, fun q q' m m' b o s cp mm o' s' cp' mm' h1 h2 h3 h4 => ?_⟩
  · have := h.1 (p ++ q) m (by rw [nodeAt_append hp]; exact hq)
    exact this.move rfl (fun i j => by simp) (fun _ _ _ _ _ _ => rfl) fun _ _ h => h
  · have := h.2 (p ++ q) (p ++ q') m m' b o s cp mm o' s' cp' mm' (by rw [nodeAt_append hp]; exact h1) (by rw [nodeAt_append hp]; exact h2) h3 h4
    exact List.append_cancel_left this
theorem Bk.sub {nd n : Nd} {p : Path} {b : Nat} (hp : nodeAt nd p = some n) (h : Bk (fun r => c (p ++ r)) n b) : Bk c nd b := by
  obtain ⟨q, m, o, s, cp, mm, h1, h2⟩ := h
  exact ⟨p ++ q, m, o, s, cp, mm, by rw [nodeAt_append hp]; exact h1, h2⟩
theorem TreeOk.upd {nd n0 m : Nd} {p : Path} (h : TreeOk F w c nd) (hp : nodeAt nd p = some n0) (hk : sameKind n0 m = true) (hc : ∀ q, ¬ p <+: q → c' q = c q) (hc0 : c' p = c p) (hm : TreeOk F' w' (fun r => c' (p ++ r)) m)
    (hh : ∀ q n b o s cp mm, ¬ p <+: q → nodeAt nd q = some n → c q = some (.at b o s cp mm) → w'.heap[b]? = w.heap[b]?) (hv : ∀ x v, VT F w x v → VT F' w' x v)
    (hd : ∀ b, Bk (fun r => c' (p ++ r)) m b → ∀ q n o s cp mm, ¬ p <+: q → nodeAt nd q = some n → c q = some (.at b o s cp mm) → False) : TreeOk F' w' c' (setAt nd p m) := by
  have hw := h.wf
  have hchild : ∀ q, ¬ p <+: q → ∀ i j, c' (q ++ [(i, j)]) = c (q ++ [(i, j)]) := by
    intro q hq i j
    by_cases hpq : p <+: q ++ [(i, j)]
    · rcases List.prefix_concat_iff.1 hpq with e | e
      · rw [← e]; exact hc0
      · exact absurd e hq
    · exact hc _ hpq
  refine ⟨fun q n' hq => ?_, fun q q' n n' b o s cp mm o' s' cp' mm' h1 h2 h3 h4 => ?_⟩
  · rcases nodeAt_setAt p hp hw hk q n' hq with ⟨r, rfl, h1⟩ | ⟨h1, n, h2, h3⟩
    · exact (hm.1 r n' h1).move rfl (fun i j => by simp) (fun _ _ _ _ _ _ => rfl) fun _ _ h => h
    · have ho := (h.1 q n h2).move (c' := c') (p' := q) (hc q h1) (hchild q h1) (fun b o s cp mm hb => hh q n b o s cp mm h1 h2 hb) hv
      cases n with
      | map kk es =>
        have : n' = .map kk es := h3
        rw [this]; exact ho
      | row E s xs =>
        cases n' with
        | map => exact h3.elim
        | row E' s' xn =>
          obtain ⟨rfl, rfl, hl, hs⟩ := h3
          rcases ho with ⟨rfl, ad, g⟩ | ⟨b, o, cap, vals, g1, g3, g4, g5, g6, g7, g8, g9, g10, g11⟩
          · exact .inl ⟨List.eq_nil_of_length_eq_zero hl, ad, g⟩
          · refine .inr ⟨b, o, cap, vals, by rw [hl]; exact g1, g3, g4, g5, g6, by omega, by omega, ?_, ?_, by rw [hl]; exact g11⟩
            · intro x hx
              obtain ⟨i, hi⟩ := List.getElem?_of_mem hx
              obtain ⟨x0, hx0, hl0, _⟩ := hs i x hi
              rw [hl0]; exact g9 x0 (List.mem_of_getElem? hx0)
            · intro i x j y v hx hy hvv
              obtain ⟨x0, hx0, hl0, hcc⟩ := hs i x hx
              obtain ⟨y0, hy0, hk0⟩ := hcc j y hy
              have := g10 i x0 j y0 v hx0 hy0 hvv
              rcases hk0 with rfl | ⟨a, b', e1, e2, e3⟩
              · exact this
              · have e1 := nd_of e1
                have e2 := nd_of e2
                subst e1 e2
                cases a <;> cases b' <;> first | exact this | exact nomatch e3
  · rcases nodeAt_setAt p hp hw hk q n h1 with ⟨r, rfl, k1⟩ | ⟨k1, m1, k2, _⟩ <;> rcases nodeAt_setAt p hp hw hk q' n' h2 with ⟨r', rfl, l1⟩ | ⟨l1, m2, l2, _⟩
    · rw [hm.2 r r' n n' b o s cp mm o' s' cp' mm' k1 l1 h3 h4]
    · rw [hc _ l1] at h4
      exact (hd b ⟨r, n, o, s, cp, mm, k1, h3⟩ q' m2 o' s' cp' mm' l1 l2 h4).elim
    · rw [hc _ k1] at h3
      exact (hd b ⟨r', n', o', s', cp', mm', l1, h4⟩ q m1 o s cp mm k1 k2 h3).elim
    · rw [hc _ k1] at h3
      rw [hc _ l1] at h4
      exact h.2 q q' m1 m2 b o s cp mm o' s' cp' mm' k2 l2 h3 h4
theorem TreeOk.less {E : TypeId} {sz : Nat} {xs xs' : List T} (h : TreeOk F w c (.row E sz xs)) (hs : ∀ q p n, nodeAt (.row E sz xs') (q :: p) = some n → nodeAt (.row E sz xs) (q :: p) = some n) (h0 : NodeOk F' w' c [] (.row E sz xs'))
    (hh : ∀ q p n b o s cp m, nodeAt (.row E sz xs) (q :: p) = some n → c (q :: p) = some (.at b o s cp m) → w'.heap[b]? = w.heap[b]?) (hv : ∀ x v, VT F w x v → VT F' w' x v) : TreeOk F' w' c (.row E sz xs') := by
  refine ⟨fun p n hp => ?_, fun p p' n n' b o s cp mm o' s' cp' mm' h1 h2 h3 h4 => ?_⟩
  · cases p with
    | nil => rw [nodeAt_nil] at hp; injection hp with hp; subst hp; exact h0
    | cons q p => exact (h.1 _ _ (hs q p n hp)).move rfl (fun _ _ => rfl) (fun b o s cp m hb => hh q p n b o s cp m (hs q p n hp) hb) hv
  · have key : ∀ p n, nodeAt (.row E sz xs') p = some n → ∃ n0, nodeAt (.row E sz xs) p = some n0 := by
      intro p n hp
      cases p with
      | nil => exact ⟨_, nodeAt_nil⟩
      | cons q p => exact ⟨n, hs q p n hp⟩
    obtain ⟨m1, g1⟩ := key p n h1
    obtain ⟨m2, g2⟩ := key p' n' h2
    exact h.2 p p' m1 m2 b o s cp mm o' s' cp' mm' g1 g2 h3 h4
theorem nodeAt_put {E : TypeId} {sz : Nat} {xs : List T} {x : T} {i j : Nat} {n2 : Nd} (hx : xs[i]? = some x) (hcx : x.cells.length = sz) (hj : j < sz) (p : Path) (n : Nd) (hp : nodeAt (.row E sz (xs.set i (setT sz x j [n2.toT]))) p = some n) :
    (p = [] ∧ n = .row E sz (xs.set i (setT sz x j [n2.toT]))) ∨ (∃ r, p = (i, j) :: r ∧ nodeAt n2 r = some n) ∨ (p ≠ [] ∧ (¬ [(i, j)] <+: p) ∧ nodeAt (.row E sz xs) p = some n) := by
  have hi := (List.getElem?_eq_some_iff.1 hx).1
  have hX := setT_get1 (y := n2.toT) hcx hj (toT_cells _)
  cases p with
  | nil => rw [nodeAt_nil] at hp; injection hp with hp; exact .inl ⟨rfl, hp.symm⟩
  | cons q p =>
    obtain ⟨i', j'⟩ := q
    obtain ⟨x', c', m', g1, g2, g3, g4⟩ := nodeAt_cons.1 hp
    rw [List.getElem?_set] at g1
    by_cases hii : i = i'
    · subst hii
      rw [if_pos rfl, if_pos hi] at g1
      injection g1 with g1
      subst g1
      rw [hX] at g2
      by_cases hjj : j' = j
      · subst hjj
        rw [if_pos rfl] at g2
        injection g2 with g2
        subst g2
        rw [nd_toT] at g3
        injection g3 with g3
        subst g3
        exact .inr (.inl ⟨p, rfl, g4⟩)
      · rw [if_neg hjj] at g2
        refine .inr (.inr ⟨by simp, fun e => ?_, nodeAt_cons.2 ⟨x, c', m', hx, g2, g3, g4⟩⟩)
        have := (List.cons_prefix_cons.1 e).1
        injection this with _ this
        exact hjj this.symm
    · rw [if_neg hii] at g1
      refine .inr (.inr ⟨by simp, fun e => ?_, nodeAt_cons.2 ⟨x', c', m', g1, g2, g3, g4⟩⟩)
      have := (List.cons_prefix_cons.1 e).1
      injection this with this _
      exact hii this
theorem TreeOk.put {E : TypeId} {sz : Nat} {xs : List T} {x y : T} {i j : Nat} {n2 : Nd} {u : Value} {b o sz' cap m : Nat} {vals : Array Value} (h : TreeOk F w c (.row E sz xs)) (hx : xs[i]? = some x) (hy : x.cells[j]? = some y) (hn : y.nd? = none)
    (h0 : c [] = some (.at b o sz' cap m)) (hb : w.heap[b]? = some (.cells vals E (0, 0))) (hu : vals[o + i * sz + j]? = some u)
    (h2 : TreeOk F w c2 n2) (hval : ∃ L, c2 [] = some L ∧ u = n2.lv L) (hd : ∀ b, Bk c (.row E sz xs) b → Bk c2 n2 b → False)
    (hc : ∀ q, ¬ [(i, j)] <+: q → c' q = c q) (hc2 : ∀ r, c' ((i, j) :: r) = c2 r) : TreeOk F w c' (.row E sz (xs.set i (setT sz x j [n2.toT]))) := by
  have hi := (List.getElem?_eq_some_iff.1 hx).1
  have hcx := h.wf [] E sz xs nodeAt_nil x (List.mem_of_getElem? hx)
  have hj : j < sz := by rw [← hcx]; exact (List.getElem?_eq_some_iff.1 hy).1
  have hX := setT_get1 (y := n2.toT) hcx hj (toT_cells _)
  have hnode : ∀ p n, nodeAt (.row E sz (xs.set i (setT sz x j [n2.toT]))) p = some n → (p = [] ∧ n = .row E sz (xs.set i (setT sz x j [n2.toT]))) ∨ (∃ r, p = (i, j) :: r ∧ nodeAt n2 r = some n) ∨ (p ≠ [] ∧ (¬ [(i, j)] <+: p) ∧ nodeAt (.row E sz xs) p = some n) := fun p n hp => nodeAt_put hx hcx hj p n hp
  have hnone : nodeAt (.row E sz xs) [(i, j)] = none := by
    simp only [nodeAt, nth_eq, hx, hy, hn]
  have hchild : ∀ q, ¬ [(i, j)] <+: q → q ≠ [] → ∀ a, c' (q ++ [a]) = c (q ++ [a]) := by
    intro q hq hq0 a
    refine hc _ fun e => ?_
    cases q with
    | nil => exact hq0 rfl
    | cons z q => exact hq (by rw [List.cons_append] at e; have := (List.cons_prefix_cons.1 e).1; rw [← this]; exact List.cons_prefix_cons.2 ⟨rfl, List.nil_prefix⟩)
  have h00 : c' [] = c [] := hc [] (by simp)
  refine ⟨fun p n hp => ?_, fun p p' n n' b o s cp mm o' s' cp' mm' h1 h2' h3 h4 => ?_⟩
  · rcases hnode p n hp with ⟨rfl, rfl⟩ | ⟨r, rfl, h1⟩ | ⟨hp0, h1, h3⟩
    · rcases h.1 [] _ nodeAt_nil with ⟨rfl, _⟩ | ⟨b1, o1, cap1, vals1, g1, g3, g4, g5, g6, g7, g8, g9, g10, g11⟩
      · simp at hi
      · rw [h0] at g1
        injection g1 with g1
        injection g1 with e1 e2 e3 e4 e5
        subst e1 e2 e3 e4 e5
        rw [hb] at g5
        injection g5 with g5
        injection g5 with e1
        subst e1
        refine .inr ⟨b, o, cap, vals, by rw [h00, List.length_set]; exact h0, g3, g4, hb, g6, by simpa using g7, by simpa using g8, ?_, ?_, by simpa using g11⟩
        · intro z hz
          rcases List.mem_or_eq_of_mem_set hz with hz | hz
          · exact g9 z hz
          · subst hz; exact setT_len hcx (by simp; omega) (by simp) (by simpa using toT_cells _)
        · intro i' x' j' y' v hx' hy' hv'
          rw [List.getElem?_set] at hx'
          by_cases hii : i = i'
          · subst hii
            rw [if_pos rfl, if_pos hi] at hx'
            injection hx' with hx'
            subst hx'
            rw [hX] at hy'
            by_cases hjj : j' = j
            · subst hjj
              rw [if_pos rfl] at hy'
              injection hy' with hy'
              subst hy'
              rw [hu] at hv'
              injection hv' with hv'
              subst hv'
              obtain ⟨L, q1, q2⟩ := hval
              cases n2 with
              | row => exact ⟨L, (hc2 []).trans q1, q2⟩
              | map => exact ⟨L, (hc2 []).trans q1, q2⟩
            · rw [if_neg hjj] at hy'
              refine (g10 i x j' y' v hx hy' hv').move ?_ fun _ _ h => h
              refine hc _ fun e => ?_
              have := (List.cons_prefix_cons.1 e).1
              injection this with _ this
              exact hjj this.symm
          · rw [if_neg hii] at hx'
            refine (g10 i' x' j' y' v hx' hy' hv').move ?_ fun _ _ h => h
            refine hc _ fun e => ?_
            have := (List.cons_prefix_cons.1 e).1
            injection this with this _
            exact hii this
    · exact (h2.1 r n h1).move (hc2 r) (fun a b => hc2 _) (fun _ _ _ _ _ _ => rfl) fun _ _ h => h
    · exact (h.1 p n h3).move (hc p h1) (fun a b => hchild p h1 hp0 _) (fun _ _ _ _ _ _ => rfl) fun _ _ h => h
  · have key : ∀ p n b o s cp mm, nodeAt (.row E sz (xs.set i (setT sz x j [n2.toT]))) p = some n → c' p = some (.at b o s cp mm) → (∃ r, p = (i, j) :: r ∧ nodeAt n2 r = some n ∧ c2 r = some (.at b o s cp mm)) ∨ (∃ n0, nodeAt (.row E sz xs) p = some n0 ∧ c p = some (.at b o s cp mm)) := by
      intro p n b o s cp mm hp hcp
      rcases hnode p n hp with ⟨rfl, rfl⟩ | ⟨r, rfl, h1⟩ | ⟨hp0, h1, h3⟩
      · rw [h00] at hcp; exact .inr ⟨_, nodeAt_nil, hcp⟩
      · rw [hc2] at hcp; exact .inl ⟨r, rfl, h1, hcp⟩
      · rw [hc p h1] at hcp; exact .inr ⟨n, h3, hcp⟩
    rcases key p n _ _ _ _ _ h1 h3 with ⟨r, rfl, k1, k2⟩ | ⟨m1, k1, k2⟩ <;> rcases key p' n' _ _ _ _ _ h2' h4 with ⟨r', rfl, l1, l2⟩ | ⟨m2, l1, l2⟩
    · rw [h2.2 r r' n n' b o s cp mm o' s' cp' mm' k1 l1 k2 l2]
    · exact (hd b ⟨p', m2, o', s', cp', mm', l1, l2⟩ ⟨r, n, o, s, cp, mm, k1, k2⟩).elim
    · exact (hd b ⟨p, m1, o, s, cp, mm, k1, k2⟩ ⟨r', n', o', s', cp', mm', l1, l2⟩).elim
    · exact h.2 p p' m1 m2 b o s cp mm o' s' cp' mm' k1 l1 k2 l2
theorem idx_ne {i j i' j' s : Nat} (hj : j < s) (hj' : j' < s) (h : ¬ (i' = i ∧ j' = j)) : i' * s + j' ≠ i * s + j := by
  intro e
  rcases Nat.lt_trichotomy i i' with h1 | h1 | h1
  · have : (i + 1) * s ≤ i' * s := Nat.mul_le_mul_right _ h1
    rw [Nat.add_mul, Nat.one_mul] at this
    omega
  · subst h1
    exact h ⟨rfl, by omega⟩
  · have : (i' + 1) * s ≤ i * s := Nat.mul_le_mul_right _ h1
    rw [Nat.add_mul, Nat.one_mul] at this
    omega
theorem tree_VT {G : Nat → Prop} {nd : Nd} (hF : ∀ b, F b → G b) (hn : ∀ (p : Path) (n : Nd), nodeAt nd p = some n → NodeOk F w c p n) (hb : ∀ b, Bk c nd b → G b) :
    ∀ (d : Nat) (p : Path) (n : Nd) (L : Loc), SizeOf.sizeOf n.toT ≤ d → nodeAt nd p = some n → c p = some L → VT G w n.toT (n.lv L)
  | 0, p, n, L, hs, _, _ => by cases n <;> simp [Nd.toT] at hs
  | d + 1, p, .map kk es, L, hs, hp, hL => by
    obtain ⟨b, ents, clock, g1, g2, g3, g4, g5, g6⟩ := hn p _ hp
    rw [hL] at g1
    injection g1 with g1
    subst g1
    exact .nmp _ _ _ (.map kk es b ents clock (hb b ⟨p, _, _, _, _, _, hp, hL⟩) g2 g3 g4 (fun i kv e hx he => (g5 i kv e hx he).sub hF) g6)
  | d + 1, p, .row E sz xs, L, hs, hp, hL => by
    refine .nst E sz xs _ ?_
    rcases hn p _ hp with ⟨rfl, a, ha⟩ | ⟨b, o, cap, vals, h1, h3, h3', h4, h5, h6, h7, h8, h9, h10⟩
    · rw [hL] at ha; injection ha with ha; subst ha; exact .sl0 _ _ _
    · rw [hL] at h1
      injection h1 with h1
      subst h1
      by_cases hx0 : xs = []
      · subst hx0; exact .sl0 _ _ _
      · have hin : ∀ j, j < xs.length * sz → o + j < vals.size := fun j hj => by
          have := Nat.mul_le_mul_right sz h6
          omega
        refine .sl sz xs b o cap (fun j => vals.getD (o + j) undef) hx0 h6 h7 (hb b ⟨p, _, _, _, _, _, hp, hL⟩) h8 (fun j hj => ?_) h10 ?_
        · have := hin j hj
          simp [World.cell?, h4, Array.getElem?_eq_getElem this, Array.getD_eq_getD_getElem?]
        · intro i x j y hx hy
          have hi : i < xs.length := (List.getElem?_eq_some_iff.1 hx).1
          have hj : j < sz := by rw [← h8 x (List.mem_of_getElem? hx)]; exact (List.getElem?_eq_some_iff.1 hy).1
          have hlt : i * sz + j < xs.length * sz := by
            have : (i + 1) * sz ≤ xs.length * sz := Nat.mul_le_mul_right _ hi
            rw [Nat.add_mul, Nat.one_mul] at this
            omega
          have hl2 := hin _ hlt
          have hg : vals.getD (o + (i * sz + j)) undef = vals[o + (i * sz + j)] := by simp [Array.getD_eq_getD_getElem?, Array.getElem?_eq_getElem hl2]
          rw [hg]
          have hc := h9 i x j y vals[o + (i * sz + j)] hx hy (by rw [Nat.add_assoc]; exact Array.getElem?_eq_getElem hl2)
          have hsz : SizeOf.sizeOf y ≤ d := by
            have q1 : SizeOf.sizeOf x < SizeOf.sizeOf xs := List.sizeOf_lt_of_mem (List.mem_of_getElem? hx)
            have q2 : SizeOf.sizeOf y ≤ SizeOf.sizeOf x := by
              unfold T.cells at hy
              split at hy
              · have := List.sizeOf_lt_of_mem (List.mem_of_getElem? hy)
                simp at this ⊢; omega
              · have := List.sizeOf_lt_of_mem (List.mem_of_getElem? hy)
                simp at this ⊢; omega
              · cases j with
                | zero => simp at hy; subst hy; exact Nat.le_refl _
                | succ j => simp at hy
            simp [Nd.toT] at hs
            omega
          cases hnd : y.nd? with
          | none => cases y <;> first | exact VT.sub hc hF | exact nomatch hnd
          | some m =>
            have e := nd_of hnd
            subst e
            have hnode : nodeAt nd (p ++ [(i, j)]) = some m := by
              rw [nodeAt_append hp]
              exact nodeAt_cons.2 ⟨x, _, m, hx, hy, nd_toT m, nodeAt_nil⟩
            cases m with
            | row E2 s2 x2 =>
              obtain ⟨L2, q1, q2⟩ := hc
              have := tree_VT hF hn hb d (p ++ [(i, j)]) (.row E2 s2 x2) L2 hsz hnode q1
              rw [q2]; exact this
            | map k2 e2 =>
              obtain ⟨L2, q1, q2⟩ := hc
              have := tree_VT hF hn hb d (p ++ [(i, j)]) (.map k2 e2) L2 hsz hnode q1
              rw [q2]; exact this
end
end Go.Proofs.Ytgladinljapmkaa.Am

/- Trees of rows: what steps of the machine leave of them. -/
namespace Go.Proofs.Ytgladinljapmkaa.Am
open Go.RowKit
set_option linter.unusedVariables false
set_option linter.unusedSimpArgs false
section
variable {own own' : Nat → Own} {F F' : Nat → Prop} {w w' : World} {σ : Sto}
theorem heap_setRow_other (w : World) (g : Nat) (cs : Array Value) (i : Nat) (h : i ≠ g) : (w.setRow g cs).heap[i]? = w.heap[i]? := by
  simp only [World.setRow, Array.getElem?_modify]
  rw [if_neg (by omega)]
theorem splice_get {α : Type} (l vs : List α) (off j : Nat) (h : off + vs.length ≤ l.length) : (l.take off ++ vs ++ l.drop (off + vs.length))[j]? = if off ≤ j ∧ j < off + vs.length then vs[j - off]? else l[j]? := by
  rcases Nat.lt_or_ge j off with h1 | h1
  · rw [if_neg (by omega), List.append_assoc, List.getElem?_append_left (by simp; omega), List.getElem?_take, if_pos h1]
  · rcases Nat.lt_or_ge j (off + vs.length) with h2 | h2
    · rw [if_pos ⟨h1, h2⟩, List.append_assoc, List.getElem?_append_right (by simp; omega), List.getElem?_append_left (by simp; omega)]
      congr 1; simp; omega
    · rw [if_neg (by omega), List.getElem?_append_right (by simp; omega), List.getElem?_drop]
      congr 1; simp; omega
theorem upd1_id {k : Nat} : upd1 own k (own k) = own := by
  funext j
  by_cases h : j = k
  · subst h; exact upd1_same
  · exact upd1_ne h
theorem Rel.storeRow (r : Rel own F w σ) {k : Nat} {ep : Nat → Nat} {nd : Nd} (hk : σ[k]? = some (.nd ep nd)) {p : Path} {E : TypeId} {sz : Nat} {xs : List T} (hp : nodeAt nd p = some (.row E sz xs)) {i off : Nat} (hi : i < xs.length) {ys : List T} {us : List Value}
    (hl : us.length = ys.length) (hn : ys ≠ []) (ho : off + ys.length ≤ sz) (hy1 : ∀ y ∈ ys, y.cells = [y]) (hu1 : ∀ u ∈ us, u.oneCell' = true)
    (hyu : ∀ (j : Nat) (y : T) (u : Value), ys[j]? = some y → us[j]? = some u → CellOk F w ((own k).cur ep) p i (off + j) y u ∧ (y.nd? ≠ none → xs[i].cells[off + j]? = some y)) {mv : Value} (hv : VS own F w (.pl k (ep p.length) p i off) mv) :
    ∃ (b a : Nat) (cur : Array Value), mv = .pointer (some ⟨b, a, none⟩) ∧ w.heap[b]? = some (.cells cur E (0, 0)) ∧ a + ys.length ≤ cur.size ∧
      Rel own F (w.setRow b (cur.toList.take a ++ us ++ cur.toList.drop (a + ys.length)).toArray) (σ.set k (.nd ep (setAt nd p (.row E sz (xs.set i (setT sz xs[i] off ys)))))) ∧
      Ext σ.length own F w own F (w.setRow b (cur.toList.take a ++ us ++ cur.toList.drop (a + ys.length)).toArray) ∧
      ∃ (o cap m : Nat), (own k).cur ep p = some (.at b o sz cap m) ∧ a = o + i * sz + off := by
  obtain ⟨hT, hB, hep, hfr⟩ := r.obj k _ hk
  rcases hT.1 p _ hp with ⟨rfl, _⟩ | ⟨b, o, cap, vals, g1, g3, g4, g5, g6, g7, g8, g9, g10, g11⟩
  · simp at hi
  have hmv : mv = .pointer (some ⟨b, o + i * sz + off, none⟩) := by
    cases hv with
    | pl _ _ _ _ _ b' o' sz' cap' m' h =>
      have g1' : (own k).am (ep p.length) p = some (.at b o sz cap xs.length) := g1
      rw [g1'] at h
      injection h with h
      injection h with e1 e2 e3
      subst e1 e2 e3
      rfl
  have hle : (i + 1) * sz ≤ cap * sz := Nat.mul_le_mul_right _ (by omega)
  rw [Nat.add_mul, Nat.one_mul] at hle
  have hfit : o + i * sz + off + ys.length ≤ vals.size := by omega
  have hsp : ∀ j, (vals.toList.take (o + i * sz + off) ++ us ++ vals.toList.drop (o + i * sz + off + ys.length))[j]? = if o + i * sz + off ≤ j ∧ j < o + i * sz + off + ys.length then us[j - (o + i * sz + off)]? else vals[j]? := by
    intro j
    have := splice_get vals.toList us (o + i * sz + off) j (by simp; omega)
    rw [hl] at this
    rw [this]
    simp
  have hxi := g9 xs[i] (List.getElem_mem hi)
  have hX := setT_get hxi ho hn hy1
  have hXl := setT_len hxi ho hn hy1
  have hbk : (own k).bl b := hB b ⟨p, _, _, _, _, _, hp, g1⟩
  refine ⟨b, _, vals, hmv, g5, hfit, ?_⟩
  have hlt : k < σ.length := Rel.lt_obj hk
  have hheap : ∀ x, x ≠ b → (w.setRow b (vals.toList.take (o + i * sz + off) ++ us ++ vals.toList.drop (o + i * sz + off + ys.length)).toArray).heap[x]? = w.heap[x]? := fun x hx => heap_setRow_other w b _ x hx
  have hs : ∀ q p' n, nodeAt (.row E sz (xs.set i (setT sz xs[i] off ys))) (q :: p') = some n → nodeAt (.row E sz xs) (q :: p') = some n := by
    rintro ⟨i', j'⟩ p' n hq
    obtain ⟨x', c', m', k1, k2, k3, k4⟩ := nodeAt_cons.1 hq
    rw [List.getElem?_set] at k1
    by_cases hii : i = i'
    · subst hii
      rw [if_pos rfl, if_pos hi] at k1
      injection k1 with k1
      subst k1
      rw [hX] at k2
      split at k2
      · rename_i hr
        obtain ⟨u, hu⟩ : ∃ u, us[j' - off]? = some u := ⟨_, List.getElem?_eq_getElem (by have := (List.getElem?_eq_some_iff.1 k2).1; omega)⟩
        have := (hyu (j' - off) c' u k2 hu).2 (by rw [k3]; simp)
        rw [show off + (j' - off) = j' by omega] at this
        exact nodeAt_cons.2 ⟨xs[i], c', m', List.getElem?_eq_getElem hi, this, k3, k4⟩
      · exact nodeAt_cons.2 ⟨xs[i], c', m', List.getElem?_eq_getElem hi, k2, k3, k4⟩
    · rw [if_neg hii] at k1
      exact nodeAt_cons.2 ⟨x', c', m', k1, k2, k3, k4⟩
  have ht := r.turn (k := k) (own k) (fun _ h => h) (fun _ _ _ h => h) hlt (w' := w.setRow b (vals.toList.take (o + i * sz + off) ++ us ++ vals.toList.drop (o + i * sz + off + ys.length)).toArray) rfl rfl rfl (by simp)
    (fun x hx => hheap x fun e => hx (e ▸ hbk)) (.nd ep (setAt nd p (.row E sz (xs.set i (setT sz xs[i] off ys))))) (fun hvt hvs => by
      have hm : TreeOk F (w.setRow b (vals.toList.take (o + i * sz + off) ++ us ++ vals.toList.drop (o + i * sz + off + ys.length)).toArray) (fun r => (own k).cur ep (p ++ r)) (.row E sz (xs.set i (setT sz xs[i] off ys))) := by
        refine (hT.sub hp).less hs ?_ (fun q p' n b' o' s' cp' m' h1 h2 => hheap b' fun e => ?_) hvt
        · refine .inr ⟨b, o, cap, _, by simpa using g1, g3, g4, setRow_heap w b vals _ E (0, 0) g5, by simp; omega, by simpa using g7, by simpa using g8, ?_, ?_, ?_⟩
          · intro x hx
            rcases List.mem_or_eq_of_mem_set hx with h | h
            · exact g9 x h
            · subst h; exact hXl
          · intro i' x' j' y' v hx' hy' hv'
            rw [List.getElem?_toArray, hsp] at hv'
            have hxm := hx'
            rw [List.getElem?_set] at hx'
            have hj' : j' < sz := by
              have h1 := (List.getElem?_eq_some_iff.1 hy').1
              rcases List.mem_or_eq_of_mem_set (List.mem_of_getElem? hxm) with h | h
              · rw [g9 x' h] at h1; exact h1
              · rw [h, hXl] at h1; exact h1
            by_cases hii : i = i'
            · subst hii
              rw [if_pos rfl, if_pos hi] at hx'
              injection hx' with hx'
              subst hx'
              rw [hX] at hy'
              by_cases hr : off ≤ j' ∧ j' < off + ys.length
              · rw [if_pos hr] at hy'
                rw [if_pos (by omega)] at hv'
                rw [show o + i * sz + j' - (o + i * sz + off) = j' - off by omega] at hv'
                have := (hyu _ y' v hy' hv').1
                rw [show off + (j' - off) = j' by omega] at this
                exact this.move (by simp) hvt
              · rw [if_neg hr] at hy'
                rw [if_neg (by omega)] at hv'
                exact (g10 i xs[i] j' y' v (List.getElem?_eq_getElem hi) hy' hv').move (by simp) hvt
            · rw [if_neg hii] at hx'
              have hne : ¬ (o + i * sz + off ≤ o + i' * sz + j' ∧ o + i' * sz + j' < o + i * sz + off + ys.length) := by
                intro hc
                rcases Nat.lt_or_gt_of_ne hii with h | h
                · have : (i + 1) * sz ≤ i' * sz := Nat.mul_le_mul_right _ h
                  rw [Nat.add_mul, Nat.one_mul] at this
                  omega
                · have : (i' + 1) * sz ≤ i * sz := Nat.mul_le_mul_right _ h
                  rw [Nat.add_mul, Nat.one_mul] at this
                  omega
              rw [if_neg hne] at hv'
              exact (g10 i' x' j' y' v hx' hy' hv').move (by simp) hvt
          · intro j hj
            rw [List.length_set] at hj
            have h5 : (vals.toList.take (o + i * sz + off) ++ us ++ vals.toList.drop (o + i * sz + off + ys.length)).toArray[o + j]? = if o + i * sz + off ≤ o + j ∧ o + j < o + i * sz + off + ys.length then us[o + j - (o + i * sz + off)]? else vals[o + j]? := by rw [List.getElem?_toArray]; exact hsp (o + j)
            rw [Array.getD_eq_getD_getElem?, h5]
            split
            · rename_i hr
              have hlt : o + j - (o + i * sz + off) < us.length := by omega
              rw [List.getElem?_eq_getElem hlt]
              exact hu1 _ (List.getElem_mem hlt)
            · have := g11 j hj
              rw [Array.getD_eq_getD_getElem?] at this
              exact this
        · subst e
          have := (hT.sub hp).2 [] (q :: p') _ n b' _ _ _ _ o' s' cp' m' nodeAt_nil h1 (by simpa using g1) h2
          exact nomatch this
      refine ⟨hT.upd hp rfl (c' := (own k).cur ep) (fun _ _ => rfl) rfl hm (fun q n b' o' s' cp' m' h1 h2 h3 => hheap b' fun e => ?_) hvt ?_, ?_, hep, hfr⟩
      · subst e
        exact h1 (hT.2 p q _ n b' _ _ _ _ o' s' cp' m' hp h2 g1 h3 ▸ List.prefix_refl _)
      · rintro b' ⟨q', n', o', s', cp', m', h1, h2⟩ q n o2 s2 cp2 m2 h3 h4 h5
        have : ∃ n0, nodeAt nd (p ++ q') = some n0 := by
          cases q' with
          | nil => exact ⟨_, by simpa using hp⟩
          | cons z q' => exact ⟨n', by rw [nodeAt_append hp]; exact hs z q' n' h1⟩
        obtain ⟨n0, h6⟩ := this
        have := hT.2 (p ++ q') q n0 n b' o' s' cp' m' o2 s2 cp2 m2 h6 h4 h2 h5
        exact h3 (this ▸ List.prefix_append _ _)
      · rintro b' ⟨q', n', o', s', cp', m', h1, h2⟩
        rcases nodeAt_setAt p hp hT.wf rfl q' n' h1 with ⟨r', rfl, h3⟩ | ⟨_, n3, h4, _⟩
        · have : ∃ n0, nodeAt nd (p ++ r') = some n0 := by
            cases r' with
            | nil => exact ⟨_, by simpa using hp⟩
            | cons z q' => exact ⟨n', by rw [nodeAt_append hp]; exact hs z q' n' h3⟩
          obtain ⟨n0, h6⟩ := this
          exact hB b' ⟨_, n0, o', s', cp', m', h6, h2⟩
        · exact hB b' ⟨_, n3, o', s', cp', m', h4, h2⟩)
  rw [upd1_id] at ht
  exact ⟨ht.1, ht.2, o, cap, xs.length, g1, rfl⟩
theorem Rel.fuse (r : Rel own F w σ) (L : List Nat) (ow : Own) (hb : ∀ b, ow.bl b → (w.heap.size ≤ b ∨ ∃ k, k ∈ L ∧ (own k).bl b) ∧ b < w'.heap.size)
    (os : w'.os = w.os) (tape : w'.tape = w.tape) (output : w'.output = w.output) (sz : w.heap.size ≤ w'.heap.size) (hh : ∀ b, b < w.heap.size → (∀ k, k ∈ L → ¬ (own k).bl b) → w'.heap[b]? = w.heap[b]?)
    (o : SObj) (ho : (∀ x v, VT F w x v → VT F w' x v) → (∀ x v, VS own F w x v → VS (upd1 (ownK own L) σ.length ow) F w' x v) → OR (upd1 (ownK own L) σ.length ow) F w' ow o) :
    Rel (upd1 (ownK own L) σ.length ow) F w' (kills L σ ++ [o]) ∧ Ext σ.length own F w (upd1 (ownK own L) σ.length ow) F w' := by
  have hlen := kills_len L σ
  have hv : ∀ x v, VT F w x v → VT F w' x v := fun x v h => h.mono (fun _ h => h) fun b hF hb => hh b hb fun k _ hk => r.sep k b hk hF
  have ham : ∀ k e p L', (own k).am e p = some L' → (upd1 (ownK own L) σ.length ow k).am e p = some L' := by
    intro k e p L' h
    rw [upd1_ne (by have := r.lt_of h; omega), ownK_am]; exact h
  have hs : ∀ x v, VS own F w x v → VS (upd1 (ownK own L) σ.length ow) F w' x v := fun x v h => h.map' hv ham
  have hL : ∀ k b, (upd1 (ownK own L) σ.length ow k).bl b → (k = σ.length ∧ ow.bl b) ∨ (k ≠ σ.length ∧ (own k).bl b ∧ k ∉ L) := by
    intro k b hk
    by_cases h : k = σ.length
    · subst h; rw [upd1_same] at hk; exact .inl ⟨rfl, hk⟩
    · rw [upd1_ne h] at hk; exact .inr ⟨h, ownK_bl hk⟩
  refine ⟨⟨?_, ?_, ?_, r.fb.same sz fun b hb => hh b (r.Fb b hb) fun k _ hk => r.sep k b hk hb, ?_, ?_⟩, os, tape, output, sz, fun b hb hl => hh b hb fun k _ hk => hl ⟨k, hk⟩, fun _ h => h, fun _ h => .inl h, ?_, fun k hk => ham k⟩
  · intro k hk
    simp [hlen] at hk
    rw [upd1_ne (by omega)]
    by_cases h : k ∈ L
    · rw [ownK_in h, r.unb k (by omega)]; rfl
    · rw [ownK_out h]; exact r.unb k (by omega)
  · intro k k' b h1 h2
    rcases hL k b h1 with ⟨p1, q1⟩ | ⟨p1, q1, s1⟩ <;> rcases hL k' b h2 with ⟨p2, q2⟩ | ⟨p2, q2, s2⟩
    · omega
    · rcases (hb b q1).1 with h | ⟨j, h3, h4⟩
      · have := r.lb _ b q2; omega
      · have := r.inj _ _ b h4 q2; subst this; exact absurd h3 s2
    · rcases (hb b q2).1 with h | ⟨j, h3, h4⟩
      · have := r.lb _ b q1; omega
      · have := r.inj _ _ b h4 q1; subst this; exact absurd h3 s1
    · exact r.inj _ _ b q1 q2
  · intro k b h1 hF
    rcases hL k b h1 with ⟨p1, q1⟩ | ⟨p1, q1, s1⟩
    · rcases (hb b q1).1 with h | ⟨j, h3, h4⟩
      · have := r.Fb b hF; omega
      · exact r.sep j b h4 hF
    · exact r.sep k b q1 hF
  · intro k b h1
    rcases hL k b h1 with ⟨p1, q1⟩ | ⟨p1, q1, s1⟩
    · exact (hb b q1).2
    · exact Nat.lt_of_lt_of_le (r.lb _ b q1) sz
  · intro k o' hk
    rcases Nat.lt_or_ge k σ.length with h | h
    · rw [List.getElem?_append_left (by omega), kills_get] at hk
      rw [upd1_ne (by omega)]
      by_cases hkL : k ∈ L
      · simp [hkL] at hk
        rw [← hk.2]; trivial
      · simp only [hkL, if_false] at hk
        rw [ownK_out hkL]
        exact (r.obj k o' hk).keep (fun b hb => hh b (r.lb k b hb) fun j hj hjb => hkL (r.inj j k b hjb hb ▸ hj)) hv hs
    · rw [List.getElem?_append_right (by omega), hlen] at hk
      have hk0 : k = σ.length := by
        rcases Nat.eq_or_lt_of_le h with h1 | h1
        · exact h1.symm
        · obtain ⟨d, hd⟩ : ∃ d, k - σ.length = d + 1 := ⟨k - σ.length - 1, by omega⟩
          rw [hd] at hk; simp at hk
      subst hk0
      simp at hk
      subst hk
      rw [upd1_same]
      exact ho hv hs
  · rintro b ⟨k, hk⟩
    rcases hL k b hk with ⟨p1, q1⟩ | ⟨p1, q1, s1⟩
    · rcases (hb b q1).1 with h | ⟨j, h3, h4⟩
      · exact .inr h
      · exact .inl ⟨j, h4⟩
    · exact .inl ⟨k, q1⟩
theorem Rel.absorb (r : Rel own F w σ) (L : List Nat) {k : Nat} (hkL : k ∉ L) (ow : Own) (hbl : ∀ b, ow.bl b → (own k).bl b ∨ ∃ j, j ∈ L ∧ (own j).bl b) (ham : ∀ e p L, (own k).am e p = some L → ow.am e p = some L) (hk : k < σ.length)
    (o : SObj) (ho : (∀ x v, VS own F w x v → VS (upd1 (ownK own L) k ow) F w x v) → OR (upd1 (ownK own L) k ow) F w ow o) :
    Rel (upd1 (ownK own L) k ow) F w ((kills L σ).set k o) ∧ Ext σ.length own F w (upd1 (ownK own L) k ow) F w := by
  have hlen := kills_len L σ
  have hA : ∀ j e p L', (own j).am e p = some L' → (upd1 (ownK own L) k ow j).am e p = some L' := by
    intro j e p L' hj
    by_cases h : j = k
    · subst h; rw [upd1_same]; exact ham e p L' hj
    · rw [upd1_ne h, ownK_am]; exact hj
  have hs : ∀ x v, VS own F w x v → VS (upd1 (ownK own L) k ow) F w x v := fun x v h => h.map' (fun _ _ h => h) hA
  have hL : ∀ j b, (upd1 (ownK own L) k ow j).bl b → (j = k ∧ ((own k).bl b ∨ ∃ i, i ∈ L ∧ (own i).bl b)) ∨ (j ≠ k ∧ (own j).bl b ∧ j ∉ L) := by
    intro j b hj
    by_cases h : j = k
    · subst h; rw [upd1_same] at hj; exact .inl ⟨rfl, hbl b hj⟩
    · rw [upd1_ne h] at hj; exact .inr ⟨h, ownK_bl hj⟩
  have hO : ∀ j b, (upd1 (ownK own L) k ow j).bl b → ∃ i, (own i).bl b := by
    intro j b hj
    rcases hL j b hj with ⟨_, h | ⟨i, _, h⟩⟩ | ⟨_, h, _⟩
    · exact ⟨k, h⟩
    · exact ⟨i, h⟩
    · exact ⟨j, h⟩
  refine ⟨⟨?_, ?_, fun j b h => by obtain ⟨i, hi⟩ := hO j b h; exact r.sep i b hi, r.fb, fun j b h => by obtain ⟨i, hi⟩ := hO j b h; exact r.lb i b hi, ?_⟩, rfl, rfl, rfl, Nat.le_refl _, fun _ _ _ => rfl, fun _ h => h, fun _ h => .inl h, fun b ⟨j, hj⟩ => .inl (hO j b hj), fun j _ => hA j⟩
  · intro j hj
    simp [hlen] at hj
    rw [upd1_ne (by omega)]
    by_cases h : j ∈ L
    · rw [ownK_in h, r.unb j hj]; rfl
    · rw [ownK_out h]; exact r.unb j hj
  · intro i j b h1 h2
    rcases hL i b h1 with ⟨p1, q1⟩ | ⟨p1, q1, s1⟩ <;> rcases hL j b h2 with ⟨p2, q2⟩ | ⟨p2, q2, s2⟩
    · omega
    · rcases q1 with q1 | ⟨z, z1, z2⟩
      · exact absurd (r.inj _ _ b q2 q1) p2
      · have := r.inj _ _ b z2 q2; subst this; exact absurd z1 s2
    · rcases q2 with q2 | ⟨z, z1, z2⟩
      · exact absurd (r.inj _ _ b q1 q2) p1
      · have := r.inj _ _ b z2 q1; subst this; exact absurd z1 s1
    · exact r.inj _ _ b q1 q2
  · intro j o' hj
    rw [List.getElem?_set] at hj
    by_cases hjk : k = j
    · subst hjk
      rw [if_pos rfl, if_pos (by omega)] at hj
      injection hj with hj
      subst hj
      rw [upd1_same]
      exact ho hs
    · rw [if_neg hjk, kills_get] at hj
      rw [upd1_ne (fun e => hjk e.symm)]
      by_cases h : j ∈ L
      · simp [h] at hj
        rw [← hj.2]; trivial
      · simp only [h, if_false] at hj
        rw [ownK_out h]
        exact (r.obj j o' hj).keep (fun _ _ => rfl) (fun _ _ h => h) hs
theorem pre_append {p r : Path} {q : Nat × Nat} : (p ++ [q]) <+: (p ++ r) ↔ [q] <+: r := List.prefix_append_right_inj p
theorem not_pre_self {p : Path} {q : Nat × Nat} : ¬ (p ++ [q]) <+: p := fun h => by have := h.length_le; simp at this; omega
theorem Rel.detach (r : Rel own F w σ) {k : Nat} {ep : Nat → Nat} {nd n2 : Nd} (hk : σ[k]? = some (.nd ep nd)) {p : Path} {E : TypeId} {sz : Nat} {xs : List T} (hp : nodeAt nd p = some (.row E sz xs))
    {x y : T} {i j : Nat} (hx : xs[i]? = some x) (hy : x.cells[j]? = some y) (hyn : y.nd? = some n2) :
    ∃ own', Rel own' F w (σ.set k (.nd ep (setAt nd p (.row E sz (xs.set i (setT sz x j [.any]))))) ++ [.nd e0 n2]) ∧ Ext σ.length own F w own' F w ∧
      (∀ L, (own k).cur ep (p ++ [(i, j)]) = some L → (own' σ.length).am 0 [] = some L) ∧ (own' k).am = (own k).am := by
  obtain ⟨hT, hB, hep, hfr⟩ := r.obj k _ hk
  have hi := (List.getElem?_eq_some_iff.1 hx).1
  have hcx := hT.wf p E sz xs hp x (List.mem_of_getElem? hx)
  have hj : j < sz := by rw [← hcx]; exact (List.getElem?_eq_some_iff.1 hy).1
  have hX := setT_get1 (y := T.any) hcx hj rfl
  have hnd2 : nodeAt nd (p ++ [(i, j)]) = some n2 := by rw [nodeAt_append hp]; exact nodeAt_cons.2 ⟨x, y, n2, hx, hy, hyn, nodeAt_nil⟩
  have hT2 : TreeOk F w (fun r => (own k).cur ep (p ++ (i, j) :: r)) n2 := by
    have := hT.sub hnd2
    simpa using this
  have hs : ∀ q p' n, nodeAt (.row E sz (xs.set i (setT sz x j [T.any]))) (q :: p') = some n → q ≠ (i, j) ∧ nodeAt (.row E sz xs) (q :: p') = some n := by
    rintro ⟨i', j'⟩ p' n hq
    obtain ⟨x', c', m', k1, k2, k3, k4⟩ := nodeAt_cons.1 hq
    rw [List.getElem?_set] at k1
    by_cases hii : i = i'
    · subst hii
      rw [if_pos rfl, if_pos hi] at k1
      injection k1 with k1
      subst k1
      rw [hX] at k2
      by_cases hjj : j' = j
      · subst hjj
        rw [if_pos rfl] at k2
        injection k2 with k2
        subst k2
        exact nomatch k3
      · rw [if_neg hjj] at k2
        exact ⟨fun e => hjj (by injection e), nodeAt_cons.2 ⟨x, c', m', hx, k2, k3, k4⟩⟩
    · rw [if_neg hii] at k1
      exact ⟨fun e => hii (by injection e with e; exact e.symm), nodeAt_cons.2 ⟨x', c', m', k1, k2, k3, k4⟩⟩
  have hm : TreeOk F w (fun r => (own k).cur ep (p ++ r)) (.row E sz (xs.set i (setT sz x j [T.any]))) := by
    refine (hT.sub hp).less (fun q p' n h => (hs q p' n h).2) ?_ (fun _ _ _ _ _ _ _ _ _ _ => rfl) fun _ _ h => h
    rcases (hT.sub hp).1 [] _ nodeAt_nil with ⟨rfl, _⟩ | ⟨b, o, cap, vals, g1, g3, g4, g5, g6, g7, g8, g9, g10, g11⟩
    · simp at hi
    · refine .inr ⟨b, o, cap, vals, by rw [List.length_set]; exact g1, g3, g4, g5, g6, by simpa using g7, by simpa using g8, ?_, ?_, by simpa using g11⟩
      · intro z hz
        rcases List.mem_or_eq_of_mem_set hz with hz | hz
        · exact g9 z hz
        · subst hz; exact setT_len hcx (by simp; omega) (by simp) (by simp [T.cells])
      · intro i' x' j' y' v hx' hy' hv'
        rw [List.getElem?_set] at hx'
        by_cases hii : i = i'
        · subst hii
          rw [if_pos rfl, if_pos hi] at hx'
          injection hx' with hx'
          subst hx'
          rw [hX] at hy'
          by_cases hjj : j' = j
          · subst hjj
            rw [if_pos rfl] at hy'
            injection hy' with hy'
            subst hy'
            exact VT.any _
          · rw [if_neg hjj] at hy'
            exact g10 i x j' y' v hx hy' hv'
        · rw [if_neg hii] at hx'
          exact g10 i' x' j' y' v hx' hy' hv'
  have hold : ∀ q n, nodeAt (setAt nd p (.row E sz (xs.set i (setT sz x j [T.any])))) q = some n → (¬ (p ++ [(i, j)]) <+: q) ∧ ∃ n0, nodeAt nd q = some n0 := by
    intro q n hq
    rcases nodeAt_setAt p hp hT.wf rfl q n hq with ⟨r', rfl, h3⟩ | ⟨h3, n3, h4, _⟩
    · cases r' with
      | nil => exact ⟨by simpa using not_pre_self, _, by simpa using hp⟩
      | cons z q' =>
        obtain ⟨h5, h6⟩ := hs z q' n h3
        exact ⟨fun h => h5 (List.cons_prefix_cons.1 (pre_append.1 h)).1.symm, n, by rw [nodeAt_append hp]; exact h6⟩
    · exact ⟨fun h => h3 ((List.prefix_append p _).trans h), n3, h4⟩
  have hTn : TreeOk F w ((own k).cur ep) (setAt nd p (.row E sz (xs.set i (setT sz x j [T.any])))) := by
    refine hT.upd hp rfl (fun _ _ => rfl) rfl hm (fun _ _ _ _ _ _ _ _ _ _ => rfl) (fun _ _ h => h) ?_
    rintro b' ⟨q', n', o', s', cp', m', h1, h2⟩ q n o2 s2 cp2 m2 h3 h4 h5
    have : ∃ n0, nodeAt nd (p ++ q') = some n0 := by
      cases q' with
      | nil => exact ⟨_, by simpa using hp⟩
      | cons z q' => exact ⟨n', by rw [nodeAt_append hp]; exact (hs z q' n' h1).2⟩
    obtain ⟨n0, h6⟩ := this
    exact h3 (hT.2 (p ++ q') q n0 n b' o' s' cp' m' o2 s2 cp2 m2 h6 h4 h2 h5 ▸ List.prefix_append _ _)
  have hlt := Rel.lt_obj hk
  let ow1 : Own := ⟨(own k).am, fun b => (own k).bl b ∧ ¬ Bk (fun r => (own k).cur ep (p ++ (i, j) :: r)) n2 b⟩
  obtain ⟨r1, e1⟩ := r.turn (k := k) ow1 (fun _ h => h.1) (fun _ _ _ h => h) hlt (w' := w) rfl rfl rfl rfl (fun _ _ => rfl) (.nd ep (setAt nd p (.row E sz (xs.set i (setT sz x j [T.any]))))) (fun _ _ => by
    refine ⟨hTn, ?_, hep, hfr⟩
    rintro b' ⟨q, n, o, s, cp, m, h1, h2⟩
    obtain ⟨h3, n0, h4⟩ := hold q n h1
    refine ⟨hB b' ⟨q, n0, o, s, cp, m, h4, h2⟩, ?_⟩
    rintro ⟨r', n', o', s', cp', m', h5, h6⟩
    have h7 : nodeAt nd (p ++ (i, j) :: r') = some n' := by
      have := nodeAt_append (q := r') hnd2
      rw [h5] at this
      simpa using this
    have := hT.2 q (p ++ (i, j) :: r') n0 n' b' o s cp m o' s' cp' m' h4 h7 h2 h6
    exact h3 (this ▸ by rw [show p ++ (i, j) :: r' = (p ++ [(i, j)]) ++ r' by simp]; exact List.prefix_append _ _))
  let ow2 : Own := ⟨fun e q => if e = 0 then (own k).cur ep (p ++ (i, j) :: q) else none, fun b => Bk (fun r => (own k).cur ep (p ++ (i, j) :: r)) n2 b⟩
  have hlen : (σ.set k (.nd ep (setAt nd p (.row E sz (xs.set i (setT sz x j [T.any])))))).length = σ.length := by simp
  have hb2 : ∀ b, ow2.bl b → (own k).bl b := by
    rintro b ⟨r', n', o', s', cp', m', h5, h6⟩
    refine hB b ⟨p ++ (i, j) :: r', n', o', s', cp', m', ?_, h6⟩
    have := nodeAt_append (q := r') hnd2
    rw [h5] at this
    simpa using this
  obtain ⟨r2, h2, h3, _⟩ := r1.push (w' := w) ow2 (fun b hb => by
    refine ⟨.inr ⟨r.sep k b (hb2 b hb), ?_⟩, r.lb k b (hb2 b hb)⟩
    rintro ⟨j', hj'⟩
    by_cases h : j' = k
    · subst h; rw [upd1_same] at hj'; exact hj'.2 hb
    · rw [upd1_ne h] at hj'; exact h (r.inj _ _ b hj' (hb2 b hb))) rfl rfl rfl (Nat.le_refl _) (fun _ _ => rfl) (.nd e0 n2) (fun own' ho _ _ => by
    refine ⟨?_, ?_, rfl, ?_⟩
    · exact hT2.move (fun q => rfl) (fun _ _ => rfl) fun _ _ h => h
    · intro b hb; exact hb
    · intro e q he
      show (if e = 0 then _ else none) = none
      rw [if_neg (by simp [e0] at he; omega)])
  rw [hlen] at r2 h2 h3
  refine ⟨_, r2, ⟨rfl, rfl, rfl, Nat.le_refl _, fun _ _ _ => rfl, fun _ h => h, fun _ h => .inl h, ?_, ?_⟩, ?_, ?_⟩
  · rintro b ⟨j', hj'⟩
    by_cases h : j' = σ.length
    · subst h; rw [upd1_same] at hj'; exact .inl ⟨k, hb2 b hj'⟩
    · rw [upd1_ne h] at hj'; exact e1.on b ⟨j', hj'⟩
  · intro j' hj' e q L hL
    rw [upd1_ne (by omega)]
    exact e1.ok j' hj' e q L hL
  · intro L hL
    rw [upd1_same]
    show (if (0 : Nat) = 0 then (own k).cur ep (p ++ (i, j) :: []) else none) = some L
    rw [if_pos rfl]; exact hL
  · rw [upd1_ne (by omega), upd1_same]
theorem TreeOk.form {c : Path → Option Loc} {E : TypeId} {sz : Nat} {ts : List T} (h0 : NodeOk F w c [] (.row E sz ts))
    (hch : ∀ (i : Nat) (x : T) (j : Nat) (y : T) (m : Nd), ts[i]? = some x → x.cells[j]? = some y → y.nd? = some m → TreeOk F w (fun r => c ((i, j) :: r)) m)
    (hdis : ∀ (i j i' j' : Nat) (x x' y y' : T) (m m' : Nd) (b : Nat), ts[i]? = some x → x.cells[j]? = some y → y.nd? = some m → ts[i']? = some x' → x'.cells[j']? = some y' → y'.nd? = some m' → Bk (fun r => c ((i, j) :: r)) m b → Bk (fun r => c ((i', j') :: r)) m' b → i = i' ∧ j = j')
    (hroot : ∀ (i : Nat) (x : T) (j : Nat) (y : T) (m : Nd) (b o s cp mm : Nat), ts[i]? = some x → x.cells[j]? = some y → y.nd? = some m → c [] = some (.at b o s cp mm) → Bk (fun r => c ((i, j) :: r)) m b → False) : TreeOk F w c (.row E sz ts) := by
  refine ⟨fun p n hp => ?_, fun p p' n n' b o s cp m o' s' cp' m' h1 h2 e1 e2 => ?_⟩
  · cases p with
    | nil => rw [nodeAt_nil] at hp; injection hp with hp; subst hp; exact h0
    | cons q p =>
      obtain ⟨i, j⟩ := q
      obtain ⟨x, y, m, g1, g2, g3, g4⟩ := nodeAt_cons.1 hp
      exact ((hch i x j y m g1 g2 g3).1 p n g4).move rfl (fun _ _ => rfl) (fun _ _ _ _ _ _ => rfl) fun _ _ h => h
  · cases p with
    | nil =>
      cases p' with
      | nil => rfl
      | cons q' p' =>
        obtain ⟨i, j⟩ := q'
        obtain ⟨x, y, m1, g1, g2, g3, g4⟩ := nodeAt_cons.1 h2
        exact (hroot i x j y m1 b _ _ _ _ g1 g2 g3 e1 ⟨p', n', _, _, _, _, g4, e2⟩).elim
    | cons q p =>
      obtain ⟨i, j⟩ := q
      obtain ⟨x, y, m1, g1, g2, g3, g4⟩ := nodeAt_cons.1 h1
      cases p' with
      | nil => exact (hroot i x j y m1 b _ _ _ _ g1 g2 g3 e2 ⟨p, n, _, _, _, _, g4, e1⟩).elim
      | cons q' p' =>
        obtain ⟨i', j'⟩ := q'
        obtain ⟨x', y', m2, k1, k2, k3, k4⟩ := nodeAt_cons.1 h2
        obtain ⟨rfl, rfl⟩ := hdis i j i' j' x x' y y' m1 m2 b g1 g2 g3 k1 k2 k3 ⟨p, n, _, _, _, _, g4, e1⟩ ⟨p', n', _, _, _, _, k4, e2⟩
        rw [g1] at k1
        injection k1 with k1
        subst k1
        rw [g2] at k2
        injection k2 with k2
        subst k2
        rw [g3] at k3
        injection k3 with k3
        subst k3
        rw [(hch i x j y m1 g1 g2 g3).2 p p' n n' b o s cp m o' s' cp' m' g4 k4 e1 e2]
theorem Rel.grafts (r : Rel own F w σ) {k : Nat} {ep : Nat → Nat} {nd : Nd} (hk : σ[k]? = some (.nd ep nd)) {p : Path} {E : TypeId} {sz : Nat} {xs : List T} (hp : nodeAt nd p = some (.row E sz xs))
    {x x' : T} {i : Nat} (hx : xs[i]? = some x) (hx'c : x'.cells.length = sz) (L : List Nat) (hkL : k ∉ L) (pt : Nat → Option Nat) {b o cap m : Nat} {vals : Array Value} (h0 : (own k).cur ep p = some (.at b o sz cap m)) (hb : w.heap[b]? = some (.cells vals E (0, 0)))
    (hpt : ∀ j k2, pt j = some k2 → k2 ∈ L ∧ ∃ ep2 n2 y u Lo, σ[k2]? = some (.nd ep2 n2) ∧ x.cells[j]? = some y ∧ y.nd? = none ∧ x'.cells[j]? = some n2.toT ∧ vals[o + i * sz + j]? = some u ∧ (own k2).am 0 [] = some Lo ∧ u = n2.lv Lo)
    (hinj : ∀ j j' k2, pt j = some k2 → pt j' = some k2 → j = j') (hnp : ∀ j, pt j = none → x'.cells[j]? = x.cells[j]?) :
    ∃ own', Rel own' F w ((kills L σ).set k (.nd (bumpE (p.length + 1) ep) (setAt nd p (.row E sz (xs.set i x'))))) ∧ Ext σ.length own F w own' F w := by
  obtain ⟨hT, hB, hep, hfr⟩ := r.obj k _ hk
  have hi := (List.getElem?_eq_some_iff.1 hx).1
  have hcx := hT.wf p E sz xs hp x (List.mem_of_getElem? hx)
  classical
  let c : Path → Option Loc := (own k).cur ep
  let c' : Path → Option Loc := fun q => if h : ∃ j k2 r, q = p ++ (i, j) :: r ∧ pt j = some k2 then (own (Classical.choose (Classical.choose_spec h))).am (match σ[Classical.choose (Classical.choose_spec h)]? with | some (.nd ep2 _) => ep2 (q.drop (p.length + 1)).length | _ => 0) (q.drop (p.length + 1)) else c q
  have hc'put : ∀ j k2 ep2 n2 r, pt j = some k2 → σ[k2]? = some (.nd ep2 n2) → c' (p ++ (i, j) :: r) = (own k2).cur ep2 r := by
    intro j k2 ep2 n2 r h1 h2
    have hex : ∃ j' k2' r', p ++ (i, j) :: r = p ++ (i, j') :: r' ∧ pt j' = some k2' := ⟨j, k2, r, rfl, h1⟩
    have hs := Classical.choose_spec (Classical.choose_spec hex)
    obtain ⟨r', e1, e2⟩ := hs
    have e1 := List.append_cancel_left e1
    injection e1 with e1 e3
    injection e1 with _ e1
    have e2 := h1.symm.trans ((congrArg pt e1).trans e2)
    injection e2 with e2
    have hd : (p ++ (i, j) :: r).drop (p.length + 1) = r := by rw [List.drop_append]; simp
    show (if h : ∃ j' k2 r', p ++ (i, j) :: r = p ++ (i, j') :: r' ∧ pt j' = some k2 then _ else _) = _
    rw [dif_pos hex, ← e2, h2, hd]
    rfl
  have hc'no : ∀ q, (¬ ∃ j k2 r, q = p ++ (i, j) :: r ∧ pt j = some k2) → c' q = c q := fun q h => dif_neg h
  have hc1 : ∀ q, ¬ p <+: q → c' q = c q := fun q hq => hc'no q fun ⟨j, k2, r, e, _⟩ => hq (e ▸ List.prefix_append _ _)
  have hc0 : c' p = c p := hc'no p fun ⟨j, k2, r, e, _⟩ => by have := congrArg List.length e; simp at this
  have hc3 : ∀ j, pt j = none → ∀ r, c' (p ++ (i, j) :: r) = c (p ++ (i, j) :: r) := fun j hj r => hc'no _ fun ⟨j', k2, r', e, h⟩ => by
    have e := List.append_cancel_left e
    injection e with e _
    injection e with _ e
    rw [← e, hj] at h
    exact nomatch h
  have hc4 : ∀ i' j r, i' ≠ i → c' (p ++ (i', j) :: r) = c (p ++ (i', j) :: r) := fun i' j r hii => hc'no _ fun ⟨j', k2, r', e, h⟩ => by
    have e := List.append_cancel_left e
    injection e with e _
    injection e with e _
    exact hii e
  let ow : Own := ⟨fun e q => if e = ep q.length + 1 ∧ p.length + 1 ≤ q.length then c' q else (own k).am e q, fun b => (own k).bl b ∨ ∃ j, j ∈ L ∧ (own j).bl b⟩
  have hcur : ow.cur (bumpE (p.length + 1) ep) = c' := by
    funext q
    show (if bumpE (p.length + 1) ep q.length = ep q.length + 1 ∧ p.length + 1 ≤ q.length then c' q else (own k).am (bumpE (p.length + 1) ep q.length) q) = c' q
    unfold bumpE
    cases hlt : Nat.blt q.length (p.length + 1) with
    | true =>
      have hlt : q.length < p.length + 1 := by simpa [Nat.blt_eq] using hlt
      rw [cond_true, if_neg (by omega), hc'no q fun ⟨j, k2, r, e, _⟩ => by have := congrArg List.length e; simp at this; omega]
      rfl
    | false =>
      have hlt : p.length + 1 ≤ q.length := by
        rcases Nat.lt_or_ge q.length (p.length + 1) with h | h
        · have : Nat.blt q.length (p.length + 1) = true := by simpa [Nat.blt_eq] using h
          rw [this] at hlt; exact nomatch hlt
        · exact h
      rw [cond_false, if_pos ⟨rfl, hlt⟩]
  have hX : ∀ (i' j' : Nat) (z y : T), (xs.set i x')[i']? = some z → z.cells[j']? = some y → (i' = i ∧ ∃ k2 ep2 n2, pt j' = some k2 ∧ k2 ∈ L ∧ σ[k2]? = some (.nd ep2 n2) ∧ y = n2.toT) ∨ ((i' ≠ i ∨ pt j' = none) ∧ ∃ z0, xs[i']? = some z0 ∧ z0.cells[j']? = some y) := by
    intro i' j' z y hz hy
    rw [List.getElem?_set] at hz
    by_cases hii : i = i'
    · subst hii
      rw [if_pos rfl, if_pos hi] at hz
      injection hz with hz
      subst hz
      cases hpj : pt j' with
      | none => exact .inr ⟨.inr rfl, x, hx, by rw [← hnp j' hpj]; exact hy⟩
      | some k2 =>
        obtain ⟨h1, ep2, n2, y0, u, Lo, h2, _, _, h3, _⟩ := hpt j' k2 hpj
        rw [h3] at hy
        injection hy with hy
        exact .inl ⟨rfl, k2, ep2, n2, rfl, h1, h2, hy.symm⟩
    · rw [if_neg hii] at hz
      exact .inr ⟨.inl fun e => hii e.symm, z, hz, hy⟩
  -- what hangs in the element's cells
  have hsub := hT.sub hp
  have hcold : ∀ i' j', (i' ≠ i ∨ pt j' = none) → ∀ r, c' (p ++ (i', j') :: r) = c (p ++ (i', j') :: r) := by
    rintro i' j' h r
    by_cases hii : i' = i
    · subst hii; exact hc3 j' (h.resolve_left fun h => h rfl) r
    · exact hc4 i' j' r hii
  have hbkold : ∀ i' j' m (b : Nat), (i' ≠ i ∨ pt j' = none) → Bk (fun r => c' (p ++ (i', j') :: r)) m b → Bk (fun r => c (p ++ (i', j') :: r)) m b := by
    rintro i' j' m b h ⟨q, n, o, s, cp, mm, h1, h2⟩
    exact ⟨q, n, o, s, cp, mm, h1, (hcold i' j' h q).symm.trans h2⟩
  have hchild : ∀ (i' j' : Nat) (z0 y : T) (m : Nd), xs[i']? = some z0 → z0.cells[j']? = some y → y.nd? = some m → nodeAt nd (p ++ [(i', j')]) = some m := by
    intro i' j' z0 y m h1 h2 h3
    rw [nodeAt_append hp]
    exact nodeAt_cons.2 ⟨z0, y, m, h1, h2, h3, nodeAt_nil⟩
  have hbksub : ∀ (i' j' : Nat) (z0 y : T) (m : Nd) (b : Nat), xs[i']? = some z0 → z0.cells[j']? = some y → y.nd? = some m → Bk (fun r => c (p ++ (i', j') :: r)) m b → ∃ q n o s cp mm, nodeAt nd (p ++ (i', j') :: q) = some n ∧ c (p ++ (i', j') :: q) = some (.at b o s cp mm) := by
    rintro i' j' z0 y m b h1 h2 h3 ⟨q, n, o, s, cp, mm, h4, h5⟩
    refine ⟨q, n, o, s, cp, mm, ?_, h5⟩
    have := nodeAt_append (q := q) (hchild i' j' z0 y m h1 h2 h3)
    rw [h4] at this
    simpa using this
  have hbkput : ∀ (j k2 : Nat) (ep2 : Nat → Nat) (n2 : Nd) (b : Nat), pt j = some k2 → σ[k2]? = some (.nd ep2 n2) → Bk (fun r => c' (p ++ (i, j) :: r)) n2 b → (own k2).bl b := by
    rintro j k2 ep2 n2 b h1 h2 ⟨q, n, o, s, cp, mm, h4, h5⟩
    have h5 : c' (p ++ (i, j) :: q) = _ := h5
    rw [hc'put j k2 ep2 n2 q h1 h2] at h5
    exact (r.obj k2 _ h2).2.1 b ⟨q, n, o, s, cp, mm, h4, h5⟩
  have hm : TreeOk F w (fun r => c' (p ++ r)) (.row E sz (xs.set i x')) := by
    refine TreeOk.form ?_ ?_ ?_ ?_
    · rcases hsub.1 [] _ nodeAt_nil with ⟨rfl, _⟩ | ⟨b1, o1, cap1, vals1, g1, g3, g4, g5, g6, g7, g8, g9, g10, g11⟩
      · simp at hi
      · have g1' : c p = some (.at b1 o1 sz cap1 xs.length) := by simpa using g1
        have h0' : c p = some (.at b o sz cap m) := h0
        rw [h0'] at g1'
        injection g1' with g1'
        injection g1' with e1 e2 e3 e4 e5
        subst e1 e2 e4 e5
        rw [hb] at g5
        injection g5 with g5
        injection g5 with e1
        subst e1
        refine .inr ⟨b, o, cap, vals, by simpa [hc0] using h0, g3, g4, hb, g6, by simpa using g7, by simpa using g8, ?_, ?_, by simpa using g11⟩
        · intro z hz
          rcases List.mem_or_eq_of_mem_set hz with hz | hz
          · exact g9 z hz
          · subst hz; exact hx'c
        · intro i' z j' y v hz hy hv
          rcases hX i' j' z y hz hy with ⟨rfl, k2, ep2, n2, h1, h2, h3, rfl⟩ | ⟨h1, z0, h2, h3⟩
          · obtain ⟨_, ep2', n2', y0, u, Lo, h2', _, _, _, h5, h6, h7⟩ := hpt j' k2 h1
            rw [h3] at h2'
            injection h2' with h2'
            injection h2' with e1 e2
            subst e1 e2
            rw [h5] at hv
            injection hv with hv
            subst hv
            have h8 : c' (p ++ [(i', j')]) = some Lo := by
              rw [hc'put j' k2 ep2 n2 [] h1 h3]
              show (own k2).am (ep2 0) [] = some Lo
              rw [(r.obj k2 _ h3).2.2.1]
              exact h6
            cases n2 with
            | row => exact ⟨Lo, by simpa using h8, h7⟩
            | map => exact ⟨Lo, by simpa using h8, h7⟩
          · refine (g10 i' z0 j' y v h2 h3 hv).move ?_ fun _ _ h => h
            simpa using hcold i' j' h1 []
    · intro i' z j' y m hz hy hyn
      rcases hX i' j' z y hz hy with ⟨rfl, k2, ep2, n2, h1, h2, h3, rfl⟩ | ⟨h1, z0, h2, h3⟩
      · rw [nd_toT] at hyn
        injection hyn with hyn
        subst hyn
        exact (r.obj k2 _ h3).1.move (fun q => hc'put j' k2 ep2 n2 q h1 h3) (fun _ _ => rfl) fun _ _ h => h
      · have := hT.sub (hchild i' j' z0 y m h2 h3 hyn)
        exact this.move (fun q => by rw [hcold i' j' h1 q]; simp [c]) (fun _ _ => rfl) fun _ _ h => h
    · intro i1 j1 i2 j2 z1 z2 y1 y2 m1 m2 b' hz1 hy1 hn1 hz2 hy2 hn2 hb1 hb2
      rcases hX i1 j1 z1 y1 hz1 hy1 with ⟨rfl, k1, ep1, nn1, p1, p2, p3, rfl⟩ | ⟨p1, u1, p2, p3⟩ <;> rcases hX i2 j2 z2 y2 hz2 hy2 with ⟨rfl, k2, ep2, nn2, q1, q2, q3, rfl⟩ | ⟨q1, u2, q2, q3⟩
      · rw [nd_toT] at hn1 hn2
        injection hn1 with hn1
        injection hn2 with hn2
        subst hn1 hn2
        have := r.inj k1 k2 b' (hbkput j1 k1 ep1 nn1 b' p1 p3 hb1) (hbkput j2 k2 ep2 nn2 b' q1 q3 hb2)
        subst this
        exact ⟨rfl, hinj j1 j2 k1 p1 q1⟩
      · rw [nd_toT] at hn1
        injection hn1 with hn1
        subst hn1
        obtain ⟨q, n, o', s', cp', mm', h4, h5⟩ := hbksub i2 j2 u2 y2 m2 b' q2 q3 hn2 (hbkold i2 j2 m2 b' q1 hb2)
        have := r.inj k1 k b' (hbkput j1 k1 ep1 nn1 b' p1 p3 hb1) (hB b' ⟨_, _, _, _, _, _, h4, h5⟩)
        exact absurd (this ▸ p2) hkL
      · rw [nd_toT] at hn2
        injection hn2 with hn2
        subst hn2
        obtain ⟨q, n, o', s', cp', mm', h4, h5⟩ := hbksub i1 j1 u1 y1 m1 b' p2 p3 hn1 (hbkold i1 j1 m1 b' p1 hb1)
        have := r.inj k2 k b' (hbkput j2 k2 ep2 nn2 b' q1 q3 hb2) (hB b' ⟨_, _, _, _, _, _, h4, h5⟩)
        exact absurd (this ▸ q2) hkL
      · obtain ⟨qa, na, oa, sa, ca, ma, h4, h5⟩ := hbksub i1 j1 u1 y1 m1 b' p2 p3 hn1 (hbkold i1 j1 m1 b' p1 hb1)
        obtain ⟨qb, nb, ob, sb, cb, mb, h6, h7⟩ := hbksub i2 j2 u2 y2 m2 b' q2 q3 hn2 (hbkold i2 j2 m2 b' q1 hb2)
        have := hT.2 _ _ _ _ b' _ _ _ _ _ _ _ _ h4 h6 h5 h7
        have := List.append_cancel_left this
        injection this with this _
        injection this with e1 e2
        exact ⟨e1, e2⟩
    · intro i1 z1 j1 y1 m1 b' o' s' cp' mm' hz1 hy1 hn1 hr hb1
      have hr' : c p = some (.at b' o' s' cp' mm') := by
        have : c' (p ++ []) = _ := hr
        simpa [hc0] using this
      rcases hX i1 j1 z1 y1 hz1 hy1 with ⟨rfl, k1, ep1, nn1, p1, p2, p3, rfl⟩ | ⟨p1, u1, p2, p3⟩
      · rw [nd_toT] at hn1
        injection hn1 with hn1
        subst hn1
        have := r.inj k1 k b' (hbkput j1 k1 ep1 nn1 b' p1 p3 hb1) (hB b' ⟨p, _, _, _, _, _, hp, hr'⟩)
        exact hkL (this ▸ p2)
      · obtain ⟨q, n, o2, s2, cp2, mm2, h4, h5⟩ := hbksub i1 j1 u1 y1 m1 b' p2 p3 hn1 (hbkold i1 j1 m1 b' p1 hb1)
        have := hT.2 _ _ _ _ b' _ _ _ _ _ _ _ _ hp h4 hr' h5
        have := congrArg List.length this
        simp at this
  have hBm : ∀ b, Bk (fun r => c' (p ++ r)) (.row E sz (xs.set i x')) b → (∃ q n o s cp m, nodeAt nd (p ++ q) = some n ∧ c (p ++ q) = some (.at b o s cp m)) ∨ ∃ j, j ∈ L ∧ (own j).bl b := by
    rintro b' ⟨q', n', o', s', cp', m', h1, h2⟩
    cases q' with
    | nil =>
      have h2 : c' (p ++ []) = some (.at b' o' s' cp' m') := h2
      exact .inl ⟨[], _, o', s', cp', m', by simpa using hp, by simpa [hc0] using h2⟩
    | cons z q' =>
      obtain ⟨i', j'⟩ := z
      obtain ⟨zz, y, m1, g1, g2, g3, g4⟩ := nodeAt_cons.1 h1
      rcases hX i' j' zz y g1 g2 with ⟨rfl, k1, ep1, nn1, p1, p2, p3, rfl⟩ | ⟨p1, u1, p2, p3⟩
      · rw [nd_toT] at g3
        injection g3 with g3
        subst g3
        exact .inr ⟨k1, p2, hbkput j' k1 ep1 nn1 b' p1 p3 ⟨q', n', o', s', cp', m', g4, h2⟩⟩
      · obtain ⟨q, n, o2, s2, cp2, mm2, h4, h5⟩ := hbksub i' j' u1 y m1 b' p2 p3 g3 (hbkold i' j' m1 b' p1 ⟨q', n', o', s', cp', m', g4, h2⟩)
        exact .inl ⟨(i', j') :: q, n, o2, s2, cp2, mm2, h4, h5⟩
  obtain ⟨r', e'⟩ := r.absorb L (k := k) hkL ow (fun b hb => hb) (fun e q Lo hL => by
      show (if e = ep q.length + 1 ∧ p.length + 1 ≤ q.length then c' q else (own k).am e q) = some Lo
      rw [if_neg fun h => by rw [hfr e q (by omega)] at hL; exact nomatch hL]
      exact hL) (Rel.lt_obj hk) (.nd (bumpE (p.length + 1) ep) (setAt nd p (.row E sz (xs.set i x')))) (fun _ => by
    refine ⟨?_, ?_, ?_, ?_⟩
    · rw [hcur]
      refine hT.upd hp rfl hc1 hc0 hm (fun _ _ _ _ _ _ _ _ _ _ => rfl) (fun _ _ h => h) ?_
      intro b' hb' q n o2 s2 cp2 m2 h3 h4 h5
      rcases hBm b' hb' with ⟨q', n', o', s', cp', m', h1, h2⟩ | ⟨j, h1, h2⟩
      · exact h3 (hT.2 (p ++ q') q n' n b' o' s' cp' m' o2 s2 cp2 m2 h1 h4 h2 h5 ▸ List.prefix_append _ _)
      · have := r.inj j k b' h2 (hB b' ⟨q, n, o2, s2, cp2, m2, h4, h5⟩)
        exact hkL (this ▸ h1)
    · rw [hcur]
      rintro b' ⟨q', n', o', s', cp', m', h1, h2⟩
      rcases nodeAt_setAt p hp hT.wf rfl q' n' h1 with ⟨r', rfl, h3⟩ | ⟨h3, n3, h4, _⟩
      · rcases hBm b' ⟨r', n', o', s', cp', m', h3, h2⟩ with ⟨q', n', o', s', cp', m', h1, h2⟩ | h
        · exact .inl (hB b' ⟨_, n', o', s', cp', m', h1, h2⟩)
        · exact .inr h
      · rw [hc1 _ h3] at h2
        exact .inl (hB b' ⟨q', n3, o', s', cp', m', h4, h2⟩)
    · show (bif Nat.blt 0 (p.length + 1) then ep 0 else ep 0 + 1) = 0
      rw [show Nat.blt 0 (p.length + 1) = true from rfl]; exact hep
    · intro e q he
      show (if e = ep q.length + 1 ∧ p.length + 1 ≤ q.length then c' q else (own k).am e q) = none
      unfold bumpE at he
      cases hlt : Nat.blt q.length (p.length + 1) with
      | true =>
        have hlt' : q.length < p.length + 1 := by simpa [Nat.blt_eq] using hlt
        rw [hlt, cond_true] at he
        rw [if_neg (by omega)]
        exact hfr e q he
      | false =>
        rw [hlt, cond_false] at he
        rw [if_neg (by omega)]
        exact hfr e q (by omega))
  exact ⟨_, r', e'⟩
end
end Go.Proofs.Ytgladinljapmkaa.Am
