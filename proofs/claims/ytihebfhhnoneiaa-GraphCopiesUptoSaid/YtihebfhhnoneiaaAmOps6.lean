/- Signs, kinds, structs built, closures, maps, tuples, lengths. -/
import Derived.Test.YtihebfhhnoneiaaAmOps5
namespace Go.Proofs.Ytihebfhhnoneiaa.Am
open Go.RowKit
set_option linter.unusedVariables false
set_option linter.unusedSimpArgs false

section
variable {P : Program} {tt : Tab} {own : Nat → Own} {F : Nat → Prop} {w : World} {σ : Sto} {env : Env} {a : Act} {N : Nat} {o : Oper}
variable {K : SV → Sto → Prop} {next : Act → World → Prop} {Q : Exit → Act → World → Prop}

theorem boolV {b : Bool} {v : Value} (h : VS own F w (.t (.bool b)) v) : v = .bool b := by
  cases h with
  | t _ _ h => cases h; rfl
theorem intV {k : IntKind} {n : Int} {v : Value} (h : VS own F w (.t (.int k n)) v) : v = .int k n := by
  cases h with
  | t _ _ h => cases h; rfl

theorem op_not (hn : Next P o a own F w σ K next) (r : Rel own F w σ) {t : TypeId} {x : Operand} {b : Bool} (ho : o.op = .unOp .not t x) (hx : VS own F w (.t (.bool b)) (a.eval x)) (hs : K (.t (.bool (!b))) σ) : o.wp P a w next Q := by
  refine op_pure hn r ?_ hs (.t _ _ (.bool _))
  unfold execOp
  simp [ho, boolV hx, Op.unary]

theorem op_neg (hn : Next P o a own F w σ K next) (r : Rel own F w σ) {t : TypeId} {x : Operand} {k : IntKind} {n : Int} (ho : o.op = .unOp .neg t x) (hx : VS own F w (.t (.int k n)) (a.eval x)) (hs : K (.t (.int k (subI k 0 n))) σ) : o.wp P a w next Q := by
  refine op_pure hn r ?_ hs (.t _ _ (.int _ _))
  unfold execOp
  simp [ho, intV hx, Op.unary, Op.intArith, subI]

theorem op_convert (ht : TabOk P tt) (hn : Next P o a own F w σ K next) (r : Rel own F w σ) {s d : TypeId} {x : Operand} {k j : IntKind} {n : Int} (ho : o.op = .convert s d x) (hti : (tt.at d).ti = .int k) {i : TypeDesc} (hsrc : P.underlying s = some i)
    (hx : VS own F w (.t (.int j n)) (a.eval x)) (hs : K (.t (.int k (cvtI k n))) σ) : o.wp P a w next Q := by
  have hu := und_int (ht.at d (by rw [hti]; rfl)) hti
  refine op_pure hn r ?_ hs (.t _ _ (.int _ _))
  unfold execOp
  simp only [ho, intV hx, convert, Sem.run_bind, run_underlying hu, run_underlying hsrc, Result.andThen_ok]
  simp [Conv.intToInt, cvtI]

theorem op_makeFunc (hn : Next P o a own F w σ K next) (r : Rel own F w σ) {f : FuncId} {first cap : Array Operand} (ho : o.op = .makeFunc (.func f) first cap) (hf : first.isEmpty = true)
    (hx : ∀ x, VS own F w (ev env x) (a.eval x)) (hs : K (.fn f (cap.toList.map (ev env))) σ) : o.wp P a w next Q := by
  have h0 : first = #[] := by simpa using hf
  refine op_pure hn r (mv := .func (.func f) #[] (cap.map a.eval)) ?_ hs (.fn f _ _ (by simp) ?_)
  · unfold execOp
    simp [ho, Instr.makeFunc, h0]
  · intro i x v hi hv
    simp only [List.getElem?_map, Array.getElem?_toList] at hi
    simp only [Array.getElem?_map] at hv
    cases hc : cap[i]? with
    | none => simp [hc] at hi
    | some y =>
      simp [hc] at hi hv
      subst hi hv
      exact hx y

/-- A map's place, or a row's. -/
def ownN (L : Loc) (bl : Nat → Prop) : Own := ⟨fun e p => if e = 0 ∧ p = [] then some L else none, bl⟩
theorem ownN_at {L : Loc} {bl : Nat → Prop} : (ownN L bl).am 0 [] = some L := by unfold ownN; simp
theorem ownN_no {L : Loc} {bl : Nat → Prop} {e : Nat} {p : Path} (h : 0 < e ∨ p ≠ []) : (ownN L bl).am e p = none := by
  unfold ownN
  show (if e = 0 ∧ p = [] then _ else none) = none
  rw [if_neg fun h' => by
    rcases h with h | h
    · omega
    · exact h h'.2]
/-- A tree without rows within. -/
theorem OR.flat {ow : Own} {nd : Nd} {L : Loc} (ha : ow = ownN L (fun b => ∃ o s c m, L = .at b o s c m)) (h : NodeOk F w (fun p => if p = [] then some L else none) [] nd) (hf : ∀ q p n, nodeAt nd (q :: p) = some n → False) : OR own F w ow (.nd e0 nd) := by
  subst ha
  have hcur : (ownN L (fun b => ∃ o s c m, L = .at b o s c m)).cur e0 = fun p => if p = [] then some L else none := by
    funext p
    show (if (0 : Nat) = 0 ∧ p = [] then some L else none) = _
    simp
  refine ⟨?_, ?_, rfl, fun e p he => ownN_no (.inl (by simpa [e0] using he))⟩
  · rw [hcur]
    refine ⟨fun p n hp => ?_, fun p p' n n' b o s cp m o' s' cp' m' h1 h2 h3 h4 => ?_⟩
    · cases p with
      | nil => rw [nodeAt_nil] at hp; injection hp with hp; subst hp; exact h
      | cons q p => exact (hf q p n hp).elim
    · cases p with
      | nil =>
        cases p' with
        | nil => rfl
        | cons q p' => exact (hf _ _ _ h2).elim
      | cons q p => exact (hf _ _ _ h1).elim
  · rw [hcur]
    rintro b ⟨p, n, o, s, cp, m, h1, h2⟩
    cases p with
    | nil => simp at h2; exact ⟨o, s, cp, m, h2⟩
    | cons q p => exact (hf _ _ _ h1).elim

theorem op_makeMap (hn : Next P o a own F w σ K next) (r : Rel own F w σ) {t : TypeId} {kk : IntKind} (ho : o.op = .makeMap t none) (hs : K (.mp σ.length 0 []) (σ ++ [.nd e0 (.map kk [])])) : o.wp P a w next Q := by
  have hp := r.pushE (w' := w.alloc (.map #[] 0)) (ownN (.at w.heap.size 0 0 1 1) (fun b => ∃ o s c m, Loc.at w.heap.size 0 0 1 1 = .at b o s c m)) (fun b hb => by
      obtain ⟨o, s, c, m, hb⟩ := hb
      injection hb with hb
      subst hb; simp) rfl rfl rfl (by simp) (fun i hi => Below.heap_alloc w _ i hi) (.nd e0 (.map kk []))
    (fun own' _ _ _ => OR.flat rfl ⟨w.heap.size, #[], 0, by simp, heap_alloc_new w _, rfl, by simp, by simp, by simp⟩ (fun q p n h => by rw [nodeAt_map] at h; exact nomatch h))
  refine wp_value (mv := .map (some w.heap.size)) (w' := w.alloc (.map #[] 0)) ?_ (hn _ _ _ _ _ _ hs hp.2 hp.1 (by simp) (.mp _ _ _ w.heap.size 0 0 1 1 (by rw [upd1_same]; exact ownN_at)))
  unfold execOp
  simp [ho, Instr.makeMap]

theorem op_xor1 (hn : Next P o a own F w σ K next) (r : Rel own F w σ) {t : TypeId} {x : Operand} {k : IntKind} {n : Int} (ho : o.op = .unOp .xor t x) (hx : VS own F w (.t (.int k n)) (a.eval x)) (hs : K (.t (.int k (xorI k (if k.signed then -1 else k.max) n))) σ) : o.wp P a w next Q := by
  refine op_pure hn r ?_ hs (.t _ _ (.int _ _))
  unfold execOp
  simp [ho, intV hx, Op.unary, Op.intBits, xorI]

theorem op_extract (hn : Next P o a own F w σ K next) (r : Rel own F w σ) {x : Operand} {i : Nat} (ho : o.op = .extract x i) {sx : SV} (hx : VS own F w sx (a.eval x))
    (hs : match (generalizing := false) sx with
      | .t (.tup xs) => Ob (i < xs.length) ∧ K (.t (xs.getD i .any)) σ
      | .tup xs => Ob (i < xs.length) ∧ K (xs.getD i .any) σ
      | _ => False) : o.wp P a w next Q := by
  have run : ∀ (vs : Array Value) (h : i < vs.size), a.eval x = .tuple vs → (execOp a.eval o).run P w = .ok (.value vs[i]) w := by
    intro vs h hx
    unfold execOp
    simp [ho, hx, Instr.extract, Array.getElem?_eq_getElem h]
  split at hs
  · rename_i xs
    obtain ⟨h1, h2⟩ := hs
    have h1 := h1.out
    generalize hm : a.eval x = mv at hx
    cases hx with
    | t _ _ hv =>
      cases hv with
      | tup _ vs hsz h =>
        have hlt : i < vs.size := by omega
        refine op_pure hn r (run vs hlt hm) h2 (.t _ _ ?_)
        have e : xs.getD i .any = xs[i] := by simp [List.getD_eq_getElem?_getD, List.getElem?_eq_getElem h1]
        rw [e]
        exact h i _ _ (List.getElem?_eq_getElem h1) (Array.getElem?_eq_getElem hlt)
  · rename_i xs
    obtain ⟨h1, h2⟩ := hs
    have h1 := h1.out
    generalize hm : a.eval x = mv at hx
    cases hx with
    | tup _ vs hsz h =>
      have hlt : i < vs.size := by omega
      refine op_pure hn r (run vs hlt hm) h2 ?_
      have e : xs.getD i .any = xs[i] := by simp [List.getD_eq_getElem?_getD, List.getElem?_eq_getElem h1]
      rw [e]
      exact h i _ _ (List.getElem?_eq_getElem h1) (Array.getElem?_eq_getElem hlt)
  · exact hs.elim

/-! ### structs built -/
theorem fill_ok {places : Nat → Option (Nat × Nat)} : ∀ (parts : List (Nat × SV × Value)) (cs : List SV) (vs : Array Value), vs.size = cs.length →
    (∀ (j : Nat) (x : SV) (v : Value), cs[j]? = some x → vs[j]? = some v → VS own F w x v) →
    (∀ p ∈ parts, VS own F w p.2.1 p.2.2 ∧ p.2.1.cells.all SV.leaf = true ∧ ∃ off sz, places p.1 = some (off, sz) ∧ p.2.1.cells.length = sz ∧ off + sz ≤ cs.length) →
    ∃ vs' : Array Value, Instr.fill places vs (parts.map fun p => (p.1, p.2.2)) = some vs' ∧ vs'.size = cs.length ∧
      ∀ (j : Nat) (x : SV) (v : Value), (parts.foldl (fun cs p => setCells cs ((places p.1).getD (0, 0)).1 p.2.1.cells) cs)[j]? = some x → vs'[j]? = some v → VS own F w x v
  | [], cs, vs, hs, h, _ => ⟨vs, rfl, hs, h⟩
  | (i, x, v) :: parts, cs, vs, hs, h, hp => by
    obtain ⟨h1, h2, off, sz, h3, h4, h5⟩ := hp (i, x, v) (by simp)
    simp only at h1 h2 h3 h4 h5
    obtain ⟨c1, c2, c3⟩ := h1.cells h2
    have hfold : ∀ (l : List Value) (n : Nat) (vs : Array Value), off + n + l.length ≤ vs.size → ((l.zipIdx n).foldl (fun cs (c, j) => cs.setIfInBounds (off + j) c) vs).toList = vs.toList.take (off + n) ++ l ++ vs.toList.drop (off + n + l.length) := by
      intro l
      induction l with
      | nil => intro n vs _; simp
      | cons u l ih =>
        intro n vs hle
        simp only [List.zipIdx_cons, List.foldl_cons]
        rw [ih (n + 1) _ (by simp at hle ⊢; omega)]
        simp only [List.length_cons] at hle
        apply List.ext_getElem?
        intro j
        have e1 : (u :: l).length = l.length + 1 := rfl
        rw [show off + (n + 1) + l.length = off + (n + 1) + l.length from rfl]
        rw [splice_get _ l (off + (n + 1)) j (by simp; omega), splice_get _ (u :: l) (off + n) j (by simp; omega)]
        simp only [Array.toList_setIfInBounds, List.getElem?_set, List.length_cons]
        by_cases ha : off + (n + 1) ≤ j ∧ j < off + (n + 1) + l.length
        · rw [if_pos ha, if_pos (by omega)]
          rw [show j - (off + n) = (j - (off + (n + 1))) + 1 by omega]
          simp
        · rw [if_neg ha]
          by_cases hb : off + n = j
          · subst hb
            rw [if_pos rfl, if_pos (by simp; omega), if_pos (by omega)]
            simp
          · rw [if_neg hb]
            rw [if_neg (by omega)]
    have hl := hfold v.cells.toList 0 vs (by simp; omega)
    simp only [Nat.add_zero] at hl
    have hvs1 : ∃ vs1 : Array Value, (v.cells.zipIdx.foldl (fun cs (c, j) => cs.setIfInBounds (off + j) c) vs) = vs1 ∧ vs1.toList = vs.toList.take off ++ v.cells.toList ++ vs.toList.drop (off + v.cells.toList.length) := by
      refine ⟨_, rfl, ?_⟩
      rw [← hl]
      rw [← Array.foldl_toList, Array.toList_zipIdx]
    obtain ⟨vs1, he1, hl1⟩ := hvs1
    have hsz1 : vs1.size = cs.length := by
      rw [← Array.length_toList, hl1]; simp; omega
    have hlenset : (setCells cs off x.cells).length = cs.length := by unfold setCells; simp; omega
    obtain ⟨vs', hf, hsz', hv'⟩ := fill_ok parts (setCells cs off x.cells) vs1 (by rw [hlenset]; exact hsz1) (fun j y u hy hu => by
        unfold setCells at hy
        rw [splice_get _ _ _ _ (by omega)] at hy
        rw [← Array.getElem?_toList, hl1, splice_get _ _ _ _ (by simp; omega)] at hu
        have hcl : v.cells.toList.length = x.cells.length := by simpa using c1
        rw [hcl] at hu
        by_cases hin : off ≤ j ∧ j < off + x.cells.length
        · rw [if_pos hin] at hy hu
          exact c3 _ y u hy (by simpa using hu)
        · rw [if_neg hin] at hy hu
          exact h j y u hy (by simpa using hu)) (fun p hpm => by
        obtain ⟨g1, g2, o', s', g3, g4, g5⟩ := hp p (by simp [hpm])
        exact ⟨g1, g2, o', s', g3, g4, by rw [hlenset]; exact g5⟩)
    refine ⟨vs', ?_, by rw [hsz', hlenset], ?_⟩
    · simp only [List.map_cons, Instr.fill, h3]
      rw [if_neg (by simp; omega)]
      rw [show v.cells.zipIdx.foldl (fun cs x => cs.setIfInBounds (off + x.snd) x.fst) vs = vs1 from he1]
      exact hf
    · intro j y u hy hu
      simp only [List.foldl_cons, h3, Option.getD_some] at hy
      exact hv' j y u hy hu

theorem run_mapM_list {α β : Type} (g : α → Sem β) (f : α → β) (w : World) : ∀ (l : List α), (∀ x ∈ l, (g x).run P w = .ok (f x) w) → (l.mapM g).run P w = .ok (l.map f) w
  | [], _ => by simp
  | x :: l, h => by
    have ih := run_mapM_list g f w l fun y hy => h y (by simp [hy])
    simp [List.mapM_cons, h x (by simp), ih]

theorem op_build (ht : TabOk P tt) (hn : Next P o a own F w σ K next) (r : Rel own F w σ) {t : TypeId} {parts : Array (Nat × Operand)} {fs : List (TypeId × Nat)} (ho : o.op = .build t parts) (hti : (tt.at t).ti = .struct fs)
    (hx : ∀ x, VS own F w (ev env x) (a.eval x))
    (hgood : (fs.all fun f => (tt.at f.1).ti.good) = true) (hall : (parts.toList.all fun p => (ev env p.2).cells.all SV.leaf && (match nth fs p.1 with | some f => (tt.at f.1).ti.good && Nat.beq (ev env p.2).cells.length (tt.at f.1).size && Nat.ble (f.2 + (tt.at f.1).size) (tt.at t).zero.length | none => false)) = true)
    (hs : K (.agg (parts.toList.foldl (fun cs p => setCells cs ((nth fs p.1).getD (0, 0)).2 (ev env p.2).cells) ((tt.at t).zero.map .t))) σ) : o.wp P a w next Q := by
  have hT := ht.at t (by rw [hti]; rfl)
  obtain ⟨i, hi, hsz, hb, hz0, z, hz, hzs, hza, _, hzv⟩ := hT.info
  obtain ⟨fields, hu, hfs⟩ := und_struct hT hti
  let places : Nat → Option (Nat × Nat) := fun j => (nth fs j).map fun f => (f.2, (tt.at f.1).size)
  let ps : List (Nat × SV × Value) := parts.toList.map fun p => (p.1, ev env p.2, a.eval p.2)
  have hp : ∀ p ∈ ps, VS own F w p.2.1 p.2.2 ∧ p.2.1.cells.all SV.leaf = true ∧ ∃ off sz, places p.1 = some (off, sz) ∧ p.2.1.cells.length = sz ∧ off + sz ≤ ((tt.at t).zero.map SV.t).length := by
    intro p hp
    obtain ⟨q, hq, rfl⟩ := List.mem_map.1 hp
    have := (List.all_eq_true.1 hall) q hq
    simp only [Bool.and_eq_true] at this
    obtain ⟨h1, h2⟩ := this
    refine ⟨hx q.2, h1, ?_⟩
    split at h2
    · rename_i f hf
      simp only [Bool.and_eq_true] at h2
      refine ⟨f.2, (tt.at f.1).size, by simp [places, hf], Nat.eq_of_beq_eq_true h2.1.2, ?_⟩
      have := Nat.le_of_ble_eq_true h2.2
      simpa using this
    · exact absurd h2 (by simp)
  obtain ⟨vs', hfill, hvsz, hvs⟩ := fill_ok (places := places) ps ((tt.at t).zero.map .t) z.cells (by simp [hzs, hz0]) (fun j x v hx hv => by
      simp only [List.getElem?_map] at hx
      cases hj : (tt.at t).zero[j]? with
      | none => simp [hj] at hx
      | some y => simp [hj] at hx; subst hx; exact .t _ _ (hzv F w j y v hj hv).1) hp
  have hmap : (fields.mapM fun f => do pure (f.offset, ← sizeOf f.type) : Sem (Array (Nat × Nat))).run P w = .ok (fields.toList.map fun f => (f.offset, (tt.at f.type).size)).toArray w := by
    rw [Array.mapM_eq_mapM_toList, Sem.run_map, run_mapM_list (P := P) _ (fun f : Field => (f.offset, (tt.at f.type).size)) w fields.toList ?_]
    · rfl
    · intro f hf
      have hfm : (f.type, f.offset) ∈ fs := by rw [← hfs]; exact List.mem_map.2 ⟨f, hf, rfl⟩
      have := (List.all_eq_true.1 hgood) _ hfm
      simp [run_size (ht.at f.type this) w]
  have hpl : (fun j => ((fields.toList.map fun f => (f.offset, (tt.at f.type).size)).toArray)[j]?) = places := by
    funext j
    simp only [places, nth_eq, ← hfs, List.getElem?_toArray, List.getElem?_map, Option.map_map]
    rfl
  have hps : ps.map (fun p => (p.1, p.2.2)) = (parts.map fun (i, x) => (i, a.eval x)).toList := by simp [ps]
  refine op_pure hn r (mv := .agg vs') ?_ hs (.agg _ _ ?_ ?_)
  · unfold execOp
    simp only [ho, Instr.build, zeroValue, typeInfo, Sem.run_bind, run_program, Result.andThen_ok, hi, Sem.run_pure, hz, run_underlying hu, hmap, hpl]
    rw [← hps, hfill]
    rfl
  · rw [hvsz]
    have : ∀ (l : List (Nat × Operand)) (cs : List SV), (∀ p ∈ l, ∃ f, nth fs p.1 = some f ∧ f.2 + (ev env p.2).cells.length ≤ cs.length) → (l.foldl (fun cs p => setCells cs ((nth fs p.1).getD (0, 0)).2 (ev env p.2).cells) cs).length = cs.length := by
      intro l
      induction l with
      | nil => intro cs _; rfl
      | cons p l ih =>
        intro cs h
        obtain ⟨f, hf, hle⟩ := h p (by simp)
        have hl1 : (setCells cs ((nth fs p.1).getD (0, 0)).2 (ev env p.2).cells).length = cs.length := by
          rw [hf]; unfold setCells; simp; omega
        simp only [List.foldl_cons]
        rw [ih _ fun q hq => by obtain ⟨f', hf', hle'⟩ := h q (by simp [hq]); exact ⟨f', hf', by rw [hl1]; exact hle'⟩, hl1]
    symm
    refine this _ _ fun p hp' => ?_
    obtain ⟨_, _, off, sz, h3, h4, h5⟩ := hp (p.1, ev env p.2, a.eval p.2) (List.mem_map.2 ⟨p, hp', rfl⟩)
    simp only [places] at h3
    cases hf : nth fs p.1 with
    | none => simp [hf] at h3
    | some f =>
      simp [hf] at h3
      refine ⟨f, rfl, ?_⟩
      simp only at h4
      rw [h4, h3.1]; exact h5
  · intro j x v hx' hv
    refine hvs j x v ?_ hv
    have : ∀ (l : List (Nat × Operand)) (cs : List SV), (l.map fun p => (p.1, ev env p.2, a.eval p.2)).foldl (fun cs (p : Nat × SV × Value) => setCells cs ((places p.1).getD (0, 0)).1 p.2.1.cells) cs =
        l.foldl (fun cs p => setCells cs ((nth fs p.1).getD (0, 0)).2 (ev env p.2).cells) cs := by
      intro l
      induction l with
      | nil => intro cs; rfl
      | cons p l ih =>
        intro cs
        simp only [List.map_cons, List.foldl_cons]
        rw [ih]
        congr 2
        simp only [places]
        cases nth fs p.1 <;> rfl
    rw [this]; exact hx'

end
end Go.Proofs.Ytihebfhhnoneiaa.Am
