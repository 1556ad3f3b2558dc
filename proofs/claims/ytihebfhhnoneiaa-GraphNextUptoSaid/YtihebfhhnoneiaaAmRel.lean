/- What the trees and objects of the abstract machine say of the machine's memory; what steps leave of it. -/
import Derived.Test.YtihebfhhnoneiaaAm
import Derived.Laws.Rows
namespace Go.Proofs.Ytihebfhhnoneiaa.Am
open Go.RowKit
set_option linter.unusedVariables false
set_option linter.unusedSimpArgs false

/-- Where an object of the call's own lies. -/
inductive Own where
  | unborn
  | dead
  | live (b cap sz m : Nat)

/-- A value reads as a tree, in blocks of which F holds. -/
inductive VT (F : Nat → Prop) (w : World) : T → Value → Prop where
  | bool (b : Bool) : VT F w (.bool b) (.bool b)
  | int (k : IntKind) (n : Int) : VT F w (.int k n) (.int k n)
  | str (s : ByteArray) : VT F w (.str s) (.string s)
  | agg (xs : List T) (vs : Array Value) (hs : vs.size = xs.length) (h : ∀ (i : Nat) (x : T) (v : Value), xs[i]? = some x → vs[i]? = some v → VT F w x v) : VT F w (.agg xs) (.agg vs)
  | tup (xs : List T) (vs : Array Value) (hs : vs.size = xs.length) (h : ∀ (i : Nat) (x : T) (v : Value), xs[i]? = some x → vs[i]? = some v → VT F w x v) : VT F w (.tup xs) (.tuple vs)
  | sl (sz : Nat) (xs : List T) (b off c : Nat) (vals : Nat → Value) (hp : xs ≠ []) (hc : xs.length ≤ c) (hn : xs.length ≤ 2 ^ 48) (hF : F b) (hz : ∀ x ∈ xs, x.cells.length = sz)
      (hcell : ∀ j, j < xs.length * sz → w.cell? ⟨b, off + j, none⟩ = some (vals j)) (h1 : ∀ j, j < xs.length * sz → (vals j).oneCell' = true)
      (h : ∀ (i : Nat) (x : T) (j : Nat) (y : T), xs[i]? = some x → x.cells[j]? = some y → VT F w y (vals (i * sz + j))) : VT F w (.sl sz xs) (.slice (some ⟨b, off, none⟩) xs.length c)
  | sl0 (sz : Nat) (a : Option Addr) (c : Nat) : VT F w (.sl sz []) (.slice a 0 c)
  | nsl : VT F w .nsl (.slice none 0 0)
  | esl (a : Option Addr) : VT F w .esl (.slice a 0 0)
  | ptr (cs : List T) (b off : Nat) (vals : Nat → Value) (hF : F b) (hcell : ∀ j, j < cs.length → w.cell? ⟨b, off + j, none⟩ = some (vals j))
      (h : ∀ (j : Nat) (y : T), cs[j]? = some y → VT F w y (vals j)) : VT F w (.ptr cs) (.pointer (some ⟨b, off, none⟩))
  | nptr : VT F w .nptr (.pointer none)
  | fn (f : FuncId) (xs : List T) (vs : Array Value) (hs : vs.size = xs.length) (h : ∀ (i : Nat) (x : T) (v : Value), xs[i]? = some x → vs[i]? = some v → VT F w x v) : VT F w (.fn f xs) (.func (.func f) #[] vs)
  | nfn : VT F w .nfn .nilFunc
  | iface (t : TypeId) (x : T) (v : Value) (h : VT F w x v) : VT F w (.iface t x) (.iface t v)
  | nif : VT F w .nif .nilIface
  | map (kk : IntKind) (es : List (Int × T)) (r : Nat) (ents : Array MapEntry) (clock : Nat) (hF : F r) (hh : w.heap[r]? = some (.map ents clock)) (hs : ents.size = es.length)
      (hk : ∀ (i : Nat) (kv : Int × T) (e : MapEntry), es[i]? = some kv → ents[i]? = some e → e.key = .int kk kv.1)
      (hv : ∀ (i : Nat) (kv : Int × T) (e : MapEntry), es[i]? = some kv → ents[i]? = some e → VT F w kv.2 e.val)
      (hb : ∀ (i : Nat) (e : MapEntry), ents[i]? = some e → e.born < clock ∧ ∀ (j : Nat) (e' : MapEntry), ents[j]? = some e' → e.born = e'.born → i = j) : VT F w (.map kk es) (.map (some r))
  | any (v : Value) : VT F w .any v
  | box (x : T) (b : Nat) (v : Value) (hF : F b) (hc : w.cell? ⟨b, 0, none⟩ = some v) (h : VT F w x v) : VT F w (.box x) (.pointer (some ⟨b, 0, none⟩))

/-- A value of the running call. -/
inductive VS (own : Nat → Own) (F : Nat → Prop) (w : World) : SV → Value → Prop where
  | t (x : T) (v : Value) (h : VT F w x v) : VS own F w (.t x) v
  | loc (k i off b c s m : Nat) (h : own k = .live b c s m) : VS own F w (.loc k i off) (.pointer (some ⟨b, i * s + off, none⟩))
  | locD (k i off : Nat) (p : Option Addr) (h : own k = .dead) : VS own F w (.loc k i off) (.pointer p)
  | osl (k off len b c s m : Nat) (h : own k = .live b c s m) (hl : off + len ≤ m) (hm : m ≤ c) (hn : len ≤ 2 ^ 48) : VS own F w (.osl k off len) (.slice (some ⟨b, off * s, none⟩) len (c - off))
  | oslN (k : Nat) (a : Option Addr) (h : own k = .live 0 0 0 0) : VS own F w (.osl k 0 0) (.slice a 0 0)
  | oslD (k off len : Nat) (a : Option Addr) (n c : Nat) (h : own k = .dead) : VS own F w (.osl k off len) (.slice a n c)
  | map (k b c s m : Nat) (h : own k = .live b c s m) : VS own F w (.map k) (.map (some b))
  | mapD (k : Nat) (r : Option Nat) (h : own k = .dead) : VS own F w (.map k) (.map r)
  | agg (xs : List SV) (vs : Array Value) (hs : vs.size = xs.length) (h : ∀ (i : Nat) (x : SV) (v : Value), xs[i]? = some x → vs[i]? = some v → VS own F w x v) : VS own F w (.agg xs) (.agg vs)
  | tup (xs : List SV) (vs : Array Value) (hs : vs.size = xs.length) (h : ∀ (i : Nat) (x : SV) (v : Value), xs[i]? = some x → vs[i]? = some v → VS own F w x v) : VS own F w (.tup xs) (.tuple vs)
  | fn (f : FuncId) (xs : List SV) (vs : Array Value) (hs : vs.size = xs.length) (h : ∀ (i : Nat) (x : SV) (v : Value), xs[i]? = some x → vs[i]? = some v → VS own F w x v) : VS own F w (.fn f xs) (.func (.func f) #[] vs)
  | g (c : Bool) (x : SV) (v : Value) (h0 : c = false → v = undef) (h : c = true → VS own F w x v) : VS own F w (.g c x) v

theorem VT.mono {F F' : Nat → Prop} {w w' : World} {x : T} {v : Value} (h : VT F w x v) (hF : ∀ b, F b → F' b) (hh : ∀ b, F b → b < w.heap.size → w'.heap[b]? = w.heap[b]?) : VT F' w' x v := by
  have hc : ∀ (b o : Nat) (v : Value), F b → w.cell? ⟨b, o, none⟩ = some v → w'.cell? ⟨b, o, none⟩ = some v := by
    intro b o v hb hv
    rw [World.cell?_of_block (w := w) (hh b hb (World.block_lt_of_cell? w _ hv))]; exact hv
  induction h with
  | bool b => exact .bool b
  | int k n => exact .int k n
  | str s => exact .str s
  | agg xs vs hs _ ih => exact .agg xs vs hs ih
  | tup xs vs hs _ ih => exact .tup xs vs hs ih
  | sl sz xs b off c vals hp hcc hn hf hz hcell h1 _ ih => exact .sl sz xs b off c vals hp hcc hn (hF b hf) hz (fun j hj => hc _ _ _ hf (hcell j hj)) h1 ih
  | sl0 sz a c => exact .sl0 sz a c
  | nsl => exact .nsl
  | esl a => exact .esl a
  | ptr cs b off vals hf hcell _ ih => exact .ptr cs b off vals (hF b hf) (fun j hj => hc _ _ _ hf (hcell j hj)) ih
  | nptr => exact .nptr
  | fn f xs vs hs _ ih => exact .fn f xs vs hs ih
  | nfn => exact .nfn
  | iface t x v _ ih => exact .iface t x v ih
  | nif => exact .nif
  | map kk es r ents clock hf hhr hs hk _ hb ihv =>
    refine .map kk es r ents clock (hF r hf) ?_ hs hk ihv hb
    rw [hh r hf (Array.getElem?_eq_some_iff.1 hhr).1]; exact hhr
  | any v => exact .any v
  | box x b v hf hcell _ ih => exact .box x b v (hF b hf) (hc _ _ _ hf hcell) ih

/-- The call's own blocks. -/
def Lv (own : Nat → Own) (b : Nat) : Prop := ∃ k c s m, own k = .live b c s m ∧ 0 < s + c

/-- What an object says. -/
def OR (own : Nat → Own) (F : Nat → Prop) (w : World) (ow : Own) : SObj → Prop
  | .dead => True
  | .var E cs => ∃ (b : Nat) (vals : Array Value), ow = .live b 1 cs.length 1 ∧ w.heap[b]? = some (.cells vals E (0, 0)) ∧ vals.size = cs.length ∧
      ∀ (j : Nat) (x : SV) (v : Value), cs[j]? = some x → vals[j]? = some v → VS own F w x v
  | .row E sz ts => (ow = .live 0 0 0 0 ∧ ts = []) ∨ ∃ (b cap : Nat) (vals : Array Value), ow = .live b cap sz ts.length ∧ 0 < sz ∧ w.heap[b]? = some (.cells vals E (0, 0)) ∧ vals.size = cap * sz ∧ ts.length ≤ cap ∧ ts.length ≤ 2 ^ 48 ∧
      (∀ x ∈ ts, x.cells.length = sz) ∧ (∀ (i : Nat) (x : T) (j : Nat) (y : T) (v : Value), ts[i]? = some x → x.cells[j]? = some y → vals[i * sz + j]? = some v → VT F w y v) ∧ ∀ j, j < ts.length * sz → (vals.getD j undef).oneCell' = true
  | .map kk es => ∃ (b : Nat) (ents : Array MapEntry) (clock : Nat), ow = .live b 1 0 1 ∧ w.heap[b]? = some (.map ents clock) ∧ ents.size = es.length ∧
      (∀ (i : Nat) (kv : Int × T) (e : MapEntry), es[i]? = some kv → ents[i]? = some e → e.key = .int kk kv.1) ∧
      (∀ (i : Nat) (kv : Int × T) (e : MapEntry), es[i]? = some kv → ents[i]? = some e → VT F w kv.2 e.val) ∧
      (∀ (i : Nat) (e : MapEntry), ents[i]? = some e → e.born < clock ∧ ∀ (j : Nat) (e' : MapEntry), ents[j]? = some e' → e.born = e'.born → i = j)

structure Rel (own : Nat → Own) (F : Nat → Prop) (w : World) (σ : Sto) : Prop where
  unb : ∀ k, σ.length ≤ k → own k = .unborn
  inj : ∀ k k' b c s m c' s' m', own k = .live b c s m → 0 < s + c → own k' = .live b c' s' m' → 0 < s' + c' → k = k'
  sep : ∀ b, Lv own b → ¬ F b
  Fb : ∀ b, F b → b < w.heap.size
  lb : ∀ b, Lv own b → b < w.heap.size
  obj : ∀ k o, σ[k]? = some o → OR own F w (own k) o

/-- What a step leaves: n objects were there. -/
structure Ext (n : Nat) (own : Nat → Own) (F : Nat → Prop) (w : World) (own' : Nat → Own) (F' : Nat → Prop) (w' : World) : Prop where
  os : w'.os = w.os
  tape : w'.tape = w.tape
  output : w'.output = w.output
  sz : w.heap.size ≤ w'.heap.size
  fr : ∀ b, b < w.heap.size → ¬ Lv own b → w'.heap[b]? = w.heap[b]?
  Fm : ∀ b, F b → F' b
  Fn : ∀ b, F' b → F b ∨ w.heap.size ≤ b ∨ Lv own b
  on : ∀ b, Lv own' b → Lv own b ∨ w.heap.size ≤ b
  ok : ∀ k, k < n → own' k = own k ∨ own' k = .dead

theorem Ext.refl (n : Nat) (own : Nat → Own) (F : Nat → Prop) (w : World) : Ext n own F w own F w :=
  ⟨rfl, rfl, rfl, Nat.le_refl _, fun _ _ _ => rfl, fun _ h => h, fun _ h => .inl h, fun _ h => .inl h, fun _ _ => .inl rfl⟩

theorem Ext.trans {n : Nat} {o1 o2 o3 : Nat → Own} {F1 F2 F3 : Nat → Prop} {w1 w2 w3 : World} (h : Ext n o1 F1 w1 o2 F2 w2) (k : Ext n o2 F2 w2 o3 F3 w3) : Ext n o1 F1 w1 o3 F3 w3 where
  os := k.os.trans h.os
  tape := k.tape.trans h.tape
  output := k.output.trans h.output
  sz := Nat.le_trans h.sz k.sz
  fr b hb hl := by
    rw [k.fr b (Nat.lt_of_lt_of_le hb h.sz) (fun hl2 => (h.on b hl2).elim hl (fun hge => absurd hb (by omega)))]
    exact h.fr b hb hl
  Fm b hb := k.Fm b (h.Fm b hb)
  Fn b hb := by
    rcases k.Fn b hb with h1 | h1 | h1
    · exact h.Fn b h1
    · exact .inr (.inl (Nat.le_trans h.sz h1))
    · rcases h.on b h1 with h2 | h2
      · exact .inr (.inr h2)
      · exact .inr (.inl h2)
  on b hb := by
    rcases k.on b hb with h1 | h1
    · exact h.on b h1
    · exact .inr (Nat.le_trans h.sz h1)
  ok j hj := by
    rcases k.ok j hj with h1 | h1
    · rcases h.ok j hj with h2 | h2
      · exact .inl (h1.trans h2)
      · exact .inr (h1.trans h2)
    · exact .inr h1

theorem Ext.mono {n m : Nat} {o1 o2 : Nat → Own} {F1 F2 : Nat → Prop} {w1 w2 : World} (h : Ext n o1 F1 w1 o2 F2 w2) (hm : m ≤ n) : Ext m o1 F1 w1 o2 F2 w2 :=
  { h with ok := fun k hk => h.ok k (Nat.lt_of_lt_of_le hk hm) }

theorem VT.ext {n : Nat} {own own' : Nat → Own} {F F' : Nat → Prop} {w w' : World} (e : Ext n own F w own' F' w') (sep : ∀ b, Lv own b → ¬ F b) {x : T} {v : Value} (h : VT F w x v) : VT F' w' x v :=
  h.mono e.Fm fun b hb hs => e.fr b hs fun hl => sep b hl hb

theorem VS.ext {own own' : Nat → Own} {F F' : Nat → Prop} {w w' : World} {σ : Sto} (r : Rel own F w σ) (e : Ext σ.length own F w own' F' w') {x : SV} {v : Value} (h : VS own F w x v) : VS own' F' w' x v := by
  have lt : ∀ k b c s m, own k = .live b c s m → k < σ.length := by
    intro k b c s m hk
    rcases Nat.lt_or_ge k σ.length with h | h
    · exact h
    · rw [r.unb k h] at hk; exact nomatch hk
  have ltd : ∀ k, own k = .dead → k < σ.length := by
    intro k hk
    rcases Nat.lt_or_ge k σ.length with h | h
    · exact h
    · rw [r.unb k h] at hk; exact nomatch hk
  induction h with
  | t x v h => exact .t x v (h.ext e r.sep)
  | loc k i off b c s m h =>
    rcases e.ok k (lt _ _ _ _ _ h) with h1 | h1
    · exact .loc k i off b c s m (h1.trans h)
    · exact .locD _ _ _ _ h1
  | locD k i off p h =>
    rcases e.ok k (ltd _ h) with h1 | h1
    · exact .locD _ _ _ _ (h1.trans h)
    · exact .locD _ _ _ _ h1
  | osl k off len b c s m h hl hm hn =>
    rcases e.ok k (lt _ _ _ _ _ h) with h1 | h1
    · exact .osl k off len b c s m (h1.trans h) hl hm hn
    · exact .oslD _ _ _ _ _ _ h1
  | oslN k a h =>
    rcases e.ok k (lt _ _ _ _ _ h) with h1 | h1
    · exact .oslN k a (h1.trans h)
    · exact .oslD _ _ _ _ _ _ h1
  | oslD k off len a m c h =>
    rcases e.ok k (ltd _ h) with h1 | h1
    · exact .oslD _ _ _ _ _ _ (h1.trans h)
    · exact .oslD _ _ _ _ _ _ h1
  | map k b c s m h =>
    rcases e.ok k (lt _ _ _ _ _ h) with h1 | h1
    · exact .map k b c s m (h1.trans h)
    · exact .mapD _ _ h1
  | mapD k p h =>
    rcases e.ok k (ltd _ h) with h1 | h1
    · exact .mapD _ _ (h1.trans h)
    · exact .mapD _ _ h1
  | agg xs vs hs _ ih => exact .agg xs vs hs ih
  | tup xs vs hs _ ih => exact .tup xs vs hs ih
  | fn f xs vs hs _ ih => exact .fn f xs vs hs ih
  | g c x v h0 _ ih => exact .g c x v h0 ih

theorem OR.ext {own own' : Nat → Own} {F F' : Nat → Prop} {w w' : World} {σ : Sto} (r : Rel own F w σ) (e : Ext σ.length own F w own' F' w') {k : Nat} {o : SObj}
    (h : OR own F w (own k) o) (hk : own' k = own k) (hh : ∀ b c s m, own k = .live b c s m → 0 < s + c → w'.heap[b]? = w.heap[b]?) : OR own' F' w' (own' k) o := by
  rw [hk]
  cases o with
  | dead => trivial
  | var E cs =>
    obtain ⟨b, vals, h1, h2, h3, h4⟩ := h
    exact ⟨b, vals, h1, (hh b _ _ _ h1 (by omega)).trans h2, h3, fun j x v hx hv => (h4 j x v hx hv).ext r e⟩
  | row E sz ts =>
    rcases h with ⟨h1, h2⟩ | ⟨b, cap, vals, h1, h2, h3, h4, h5, h6, h7, h8, h9⟩
    · exact .inl ⟨h1, h2⟩
    · exact .inr ⟨b, cap, vals, h1, h2, (hh b _ _ _ h1 (by omega)).trans h3, h4, h5, h6, h7, fun i x j y v hx hy hv => (h8 i x j y v hx hy hv).ext e r.sep, h9⟩
  | map kk es =>
    obtain ⟨b, ents, clock, h1, h2, h3, h4, h5, h6⟩ := h
    exact ⟨b, ents, clock, h1, (hh b _ _ _ h1 (by omega)).trans h2, h3, h4, fun i kv en hx hv => (h5 i kv en hx hv).ext e r.sep, h6⟩

theorem Rel.id_lt {own : Nat → Own} {F : Nat → Prop} {w : World} {σ : Sto} (r : Rel own F w σ) {k b c s m : Nat} (h : own k = .live b c s m) : k < σ.length := by
  rcases Nat.lt_or_ge k σ.length with h' | h'
  · exact h'
  · rw [r.unb k h'] at h; exact nomatch h

/-- One object more, in a new block. -/
def ownAt (own : Nat → Own) (n : Nat) (x : Own) : Nat → Own := fun k => if k = n then x else own k

theorem Lv_ownAt {own : Nat → Own} {n b c s m x : Nat} (h : Lv (ownAt own n (.live b c s m)) x) : x = b ∨ Lv own x := by
  obtain ⟨k, c', s', m', hk, hp⟩ := h
  unfold ownAt at hk
  split at hk
  · injection hk with h1 h2 h3; exact .inl h1.symm
  · exact .inr ⟨k, c', s', m', hk, hp⟩

theorem Rel.push {own : Nat → Own} {F : Nat → Prop} {w w' : World} {σ : Sto} (r : Rel own F w σ) (b c s m : Nat) (hb : w.heap.size ≤ b ∨ s + c = 0) (hbw : 0 < s + c → b < w'.heap.size)
    (os : w'.os = w.os) (tape : w'.tape = w.tape) (output : w'.output = w.output) (sz : w.heap.size ≤ w'.heap.size) (hh : ∀ i, i < w.heap.size → w'.heap[i]? = w.heap[i]?)
    (o : SObj) (ho : ∀ own', (∀ k, k < σ.length → own' k = own k) → own' σ.length = .live b c s m → Ext σ.length own F w own' F w' → OR own' F w' (.live b c s m) o) :
    Rel (ownAt own σ.length (.live b c s m)) F w' (σ ++ [o]) ∧ Ext σ.length own F w (ownAt own σ.length (.live b c s m)) F w' := by
  have hold : ∀ k, k < σ.length → ownAt own σ.length (.live b c s m) k = own k := fun k hk => by unfold ownAt; rw [if_neg (by omega)]
  have hnew : ownAt own σ.length (.live b c s m) σ.length = .live b c s m := by unfold ownAt; rw [if_pos rfl]
  have e : Ext σ.length own F w (ownAt own σ.length (.live b c s m)) F w' := by
    refine ⟨os, tape, output, sz, fun i hi _ => hh i hi, fun _ h => h, fun _ h => .inl h, ?_, fun k hk => .inl (hold k hk)⟩
    rintro x ⟨k, c', s', m', hk, hp⟩
    unfold ownAt at hk
    split at hk
    · injection hk with h1 h2 h3 h4
      subst h1 h2 h3
      rcases hb with h | h
      · exact .inr h
      · omega
    · exact .inl ⟨k, c', s', m', hk, hp⟩
  refine ⟨⟨?_, ?_, ?_, ?_, ?_, ?_⟩, e⟩
  · intro k hk
    simp at hk
    unfold ownAt
    rw [if_neg (by omega)]
    exact r.unb k (by omega)
  · intro k k' x c1 s1 m1 c2 s2 m2 hk hp hk' hp'
    unfold ownAt at hk hk'
    have key : ∀ j c' s' m', own j = .live x c' s' m' → 0 < s' + c' → x < w.heap.size := fun j c' s' m' h h' => r.lb x ⟨j, c', s', m', h, h'⟩
    split at hk <;> split at hk'
    · omega
    · injection hk with h1 h2 h3
      have := key _ _ _ _ hk' hp'
      rcases hb with h | h <;> omega
    · injection hk' with h1 h2 h3
      have := key _ _ _ _ hk hp
      rcases hb with h | h <;> omega
    · exact r.inj k k' x c1 s1 m1 c2 s2 m2 hk hp hk' hp'
  · intro x hx hF
    rcases e.on x hx with h | h
    · exact r.sep x h hF
    · have := r.Fb x hF; omega
  · intro x hx
    have := r.Fb x hx
    omega
  · rintro x ⟨k, c', s', m', hk, hp⟩
    unfold ownAt at hk
    split at hk
    · injection hk with h1 h2 h3 h4
      subst h1 h2 h3
      exact hbw hp
    · have := r.lb x ⟨k, c', s', m', hk, hp⟩
      omega
  · intro k o' hk
    rcases Nat.lt_or_ge k σ.length with h | h
    · rw [List.getElem?_append_left h] at hk
      refine (r.obj k o' hk).ext r e (hold k h) ?_
      intro b' c' s' m' hb' hp'
      exact hh b' (r.lb b' ⟨k, c', s', m', hb', hp'⟩)
    · rw [List.getElem?_append_right h] at hk
      have hk0 : k = σ.length := by
        rcases Nat.eq_or_lt_of_le h with h1 | h1
        · exact h1.symm
        · obtain ⟨d, hd⟩ : ∃ d, k - σ.length = d + 1 := ⟨k - σ.length - 1, by omega⟩
          rw [hd] at hk; simp at hk
      subst hk0
      simp at hk
      subst hk
      rw [hnew]
      exact ho _ hold hnew e

/-- An object written anew, in its block. -/
theorem Rel.write {own : Nat → Own} {F : Nat → Prop} {w w' : World} {σ : Sto} (r : Rel own F w σ) (k b c s m : Nat) (hk : own k = .live b c s m) (hp : 0 < s + c)
    (os : w'.os = w.os) (tape : w'.tape = w.tape) (output : w'.output = w.output) (sz : w'.heap.size = w.heap.size) (hh : ∀ i, i ≠ b → w'.heap[i]? = w.heap[i]?)
    (o : SObj) (ho : Ext σ.length own F w own F w' → OR own F w' (.live b c s m) o) : Rel own F w' (σ.set k o) ∧ Ext σ.length own F w own F w' := by
  have e : Ext σ.length own F w own F w' := by
    refine ⟨os, tape, output, by omega, ?_, fun _ h => h, fun _ h => .inl h, fun _ h => .inl h, fun _ _ => .inl rfl⟩
    intro i hi hl
    exact hh i (fun e => hl (e ▸ ⟨k, c, s, m, hk, hp⟩))
  refine ⟨⟨?_, r.inj, r.sep, ?_, ?_, ?_⟩, e⟩
  · intro j hj; exact r.unb j (by simpa using hj)
  · intro x hx; have := r.Fb x hx; omega
  · intro x hx; have := r.lb x hx; omega
  · intro j o' hj
    rw [List.getElem?_set] at hj
    split at hj
    · rename_i hjk
      subst hjk
      split at hj
      · simp at hj
        subst hj
        rw [hk]
        exact ho e
      · simp at hj
    · rename_i hjk
      refine (r.obj j o' hj).ext r e rfl ?_
      intro b' c' s' m' hb' hp'
      refine hh b' (fun e => ?_)
      subst e
      exact hjk (r.inj k j b' c s m c' s' m' hk hp hb' hp')

/-- The variables of the running call. -/
def ER (N : Nat) (own : Nat → Own) (F : Nat → Prop) (w : World) (env : Env) (a : Act) : Prop :=
  a.tmps.size = N ∧ ∀ j, VS own F w (env j) (a.tmps.getD j undef)

theorem ER.ext {N : Nat} {own own' : Nat → Own} {F F' : Nat → Prop} {w w' : World} {σ : Sto} {env : Env} {a : Act} (h : ER N own F w env a) (r : Rel own F w σ) (e : Ext σ.length own F w own' F' w') : ER N own' F' w' env a :=
  ⟨h.1, fun j => (h.2 j).ext r e⟩

theorem VT.ofVal (F : Nat → Prop) (w : World) (v : Value) : VT F w (T.ofVal v) v := by
  unfold T.ofVal
  split
  · exact .bool _
  · exact .int _ _
  · exact .str _
  · exact .nsl
  · exact .nptr
  · exact .nfn
  · exact .nif
  · exact .any _

theorem ER.ev {N : Nat} {own : Nat → Own} {F : Nat → Prop} {w : World} {env : Env} {a : Act} (h : ER N own F w env a) (x : Operand) : VS own F w (ev env x) (a.eval x) := by
  cases x with
  | tmp t => exact h.2 t
  | const v => exact .t _ _ (.ofVal F w v)
  | global g => exact .t _ _ (.any _)
  | func f => exact .fn f [] #[] rfl (by simp)

theorem ER.upd {N : Nat} {own : Nat → Own} {F : Nat → Prop} {w : World} {env : Env} {a : Act} (h : ER N own F w env a) {d : Nat} (hd : d < N) {x : SV} {v : Value} (hx : VS own F w x v) :
    ER N own F w (upd env d x) (a.put (some d) v) := by
  refine ⟨by simp [Act.put, h.1], fun j => ?_⟩
  unfold Am.upd Act.put
  simp only
  by_cases hj : j = d
  · subst hj
    simp [Array.getD_eq_getD_getElem?, Array.getElem?_setIfInBounds, h.1, hd]; exact hx
  · have : Nat.beq j d = false := by
      cases hb : Nat.beq j d
      · rfl
      · exact absurd (Nat.eq_of_beq_eq_true hb) hj
    rw [this]
    have h2 := h.2 j
    simp only [cond_false, Array.getD_eq_getD_getElem?, Array.getElem?_setIfInBounds] at *
    rw [if_neg (fun e => hj e.symm)]; exact h2

theorem ER.put {N : Nat} {own : Nat → Own} {F : Nat → Prop} {w : World} {env : Env} {a : Act} (h : ER N own F w env a) {d : Option Nat} (hd : ∀ i, d = some i → i < N) {x : SV} {v : Value} (hx : VS own F w x v) :
    ER N own F w (put env d x) (a.put d v) := by
  cases d with
  | none => exact h
  | some d => exact h.upd (hd d rfl) hx
end Go.Proofs.Ytihebfhhnoneiaa.Am
