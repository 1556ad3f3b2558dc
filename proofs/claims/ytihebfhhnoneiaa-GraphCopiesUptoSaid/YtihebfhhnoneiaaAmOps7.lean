/- Maps, lengths, append. -/
import Derived.Test.YtihebfhhnoneiaaAmOps6
namespace Go.Proofs.Ytihebfhhnoneiaa.Am
open Go.RowKit
set_option linter.unusedVariables false
set_option linter.unusedSimpArgs false

section
variable {P : Program} {tt : Tab} {own : Nat → Own} {F : Nat → Prop} {w : World} {σ : Sto} {env : Env} {a : Act} {N : Nat} {o : Oper}
variable {K : SV → Sto → Prop} {next : Act → World → Prop} {Q : Exit → Act → World → Prop}

theorem map_node (r : Rel own F w σ) {k e : Nat} {p : Path} {ep : Nat → Nat} {nd : Nd} {kk : IntKind} {es : List (Int × T)} {mv : Value} (hk : nth σ k = some (.nd ep nd)) (he : e = ep p.length) (hp : nodeAt nd p = some (.map kk es)) (hv : VS own F w (.mp k e p) mv) :
    ∃ (b : Nat) (ents : Array MapEntry) (clock : Nat), mv = .map (some b) ∧ (own k).cur ep p = some (.at b 0 0 1 1) ∧ w.heap[b]? = some (.map ents clock) ∧ ents.size = es.length ∧
      (∀ (i : Nat) (kv : Int × T) (e : MapEntry), es[i]? = some kv → ents[i]? = some e → e.key = .int kk kv.1) ∧
      (∀ (i : Nat) (kv : Int × T) (e : MapEntry), es[i]? = some kv → ents[i]? = some e → VT F w kv.2 e.val) ∧
      (∀ (i : Nat) (e : MapEntry), ents[i]? = some e → e.born < clock ∧ ∀ (j : Nat) (e' : MapEntry), ents[j]? = some e' → e.born = e'.born → i = j) := by
  obtain ⟨hT, hB, hep, hfr⟩ := nd_obj r hk
  subst he
  obtain ⟨b, ents, clock, g1, g2, g3, g4, g5, g6⟩ := hT.1 p _ hp
  have g1' : (own k).am (ep p.length) p = some (.at b 0 0 1 1) := g1
  cases hv with
  | mp _ _ _ b' o' sz' cap' m' h =>
    rw [g1'] at h
    injection h with h
    injection h with e1
    subst e1
    exact ⟨b, ents, clock, rfl, g1, g2, g3, g4, g5, g6⟩

/-- A map written anew. -/
theorem Rel.storeMap {w' : World} (r : Rel own F w σ) {k b : Nat} {p : Path} {ep : Nat → Nat} {nd : Nd} {kk : IntKind} {es es' : List (Int × T)} {ents : Array MapEntry} {clock : Nat} (hk : nth σ k = some (.nd ep nd)) (hp : nodeAt nd p = some (.map kk es)) (hb : (own k).cur ep p = some (.at b 0 0 1 1))
    (os : w'.os = w.os) (tape : w'.tape = w.tape) (output : w'.output = w.output) (sz : w'.heap.size = w.heap.size) (hh : ∀ x, x ≠ b → w'.heap[x]? = w.heap[x]?) (hn : w'.heap[b]? = some (.map ents clock)) (g3 : ents.size = es'.length)
    (g4 : ∀ (i : Nat) (kv : Int × T) (e : MapEntry), es'[i]? = some kv → ents[i]? = some e → e.key = .int kk kv.1) (g5 : ∀ (i : Nat) (kv : Int × T) (e : MapEntry), es'[i]? = some kv → ents[i]? = some e → VT F w kv.2 e.val)
    (g6 : ∀ (i : Nat) (e : MapEntry), ents[i]? = some e → e.born < clock ∧ ∀ (j : Nat) (e' : MapEntry), ents[j]? = some e' → e.born = e'.born → i = j) : Rel own F w' (σ.set k (.nd ep (setAt nd p (.map kk es')))) ∧ Ext σ.length own F w own F w' := by
  obtain ⟨hT, hB, hep, hfr⟩ := nd_obj r hk
  rw [nth_eq] at hk
  have hbk : (own k).bl b := hB b ⟨p, _, _, _, _, _, hp, hb⟩
  have ht := r.turn (k := k) (own k) (fun _ h => h) (fun _ _ _ h => h) (Rel.lt_obj hk) (w' := w') os tape output sz (fun x hx => hh x fun e => hx (e ▸ hbk)) (.nd ep (setAt nd p (.map kk es'))) (fun hvt _ => by
    have hm : TreeOk F w' (fun r => (own k).cur ep (p ++ r)) (.map kk es') := by
      refine ⟨fun q n hq => ?_, fun q q' n n' b o s cp m o' s' cp' m' h1 h2 _ _ => ?_⟩
      · cases q with
        | nil => rw [nodeAt_nil] at hq; injection hq with hq; subst hq; exact ⟨b, ents, clock, by simpa using hb, hn, g3, g4, fun i kv e h1 h2 => hvt _ _ (g5 i kv e h1 h2), g6⟩
        | cons => rw [nodeAt_map] at hq; exact nomatch hq
      · cases q with
        | nil =>
          cases q' with
          | nil => rfl
          | cons => rw [nodeAt_map] at h2; exact nomatch h2
        | cons => rw [nodeAt_map] at h1; exact nomatch h1
    refine ⟨hT.upd hp rfl (c' := (own k).cur ep) (fun _ _ => rfl) rfl hm (fun q n b' o' s' cp' m' h1 h2 h3 => hh b' fun e => ?_) hvt ?_, ?_, hep, hfr⟩
    · subst e
      exact h1 (hT.2 p q _ n b' _ _ _ _ o' s' cp' m' hp h2 hb h3 ▸ List.prefix_refl _)
    · rintro b' ⟨q', n', o', s', cp', m', h1, h2⟩ q n o2 s2 cp2 m2 h3 h4 h5
      cases q' with
      | nil =>
        have := hT.2 p q _ n b' o' s' cp' m' o2 s2 cp2 m2 hp h4 (by simpa using h2) h5
        exact h3 (this ▸ List.prefix_refl _)
      | cons => rw [nodeAt_map] at h1; exact nomatch h1
    · rintro b' ⟨q', n', o', s', cp', m', h1, h2⟩
      rcases nodeAt_setAt p hp hT.wf rfl q' n' h1 with ⟨r', rfl, h3⟩ | ⟨_, n3, h4, _⟩
      · cases r' with
        | nil => exact hB b' ⟨p, _, o', s', cp', m', hp, by simpa using h2⟩
        | cons => rw [nodeAt_map] at h3; exact nomatch h3
      · exact hB b' ⟨_, n3, o', s', cp', m', h4, h2⟩)
  rw [upd1_id] at ht
  exact ht

/-- Where a key stands. -/
def posE (n : Int) : List (Int × T) → Nat → Option (Nat × T)
  | [], _ => none
  | (m, v) :: es, i => if m = n then some (i, v) else posE n es (i + 1)

theorem findNow_int (k k' : IntKind) (n : Int) : ∀ (es : List (Int × T)) (ents : List MapEntry) (i : Nat), ents.length = es.length →
    (∀ (j : Nat) (kv : Int × T) (e : MapEntry), es[j]? = some kv → ents[j]? = some e → e.key = .int k kv.1) →
    (posE n es i = none ∧ Instr.findNow (.int k') (.int k n) ents i = some none) ∨
    ∃ (j : Nat) (kv : Int × T) (e : MapEntry), posE n es i = some (i + j, kv.2) ∧ es[j]? = some kv ∧ ents[j]? = some e ∧ kv.1 = n ∧ Instr.findNow (.int k') (.int k n) ents i = some (some (i + j, e.val))
  | [], [], i, _, _ => .inl ⟨rfl, rfl⟩
  | [], _ :: _, _, h, _ => by simp at h
  | _ :: _, [], _, h, _ => by simp at h
  | (m, v) :: es, e :: ents, i, hl, h => by
    have h0 := h 0 (m, v) e rfl rfl
    simp only at h0
    by_cases hm : m = n
    · subst hm
      right
      refine ⟨0, (m, v), e, by simp [posE], rfl, rfl, rfl, ?_⟩
      simp [Instr.findNow, Instr.sameNow, h0]
    · have hne : (n == m) = false := by simp; exact fun e => hm e.symm
      rcases findNow_int k k' n es ents (i + 1) (by simpa using hl) (fun j kv e' hj he => h (j + 1) kv e' (by simpa using hj) (by simpa using he)) with ⟨h1, h2⟩ | ⟨j, kv, e', h1, h2, h3, h4, h5⟩
      · left
        refine ⟨by simp [posE, hm, h1], ?_⟩
        simp [Instr.findNow, Instr.sameNow, h0, hne, h2]
      · right
        refine ⟨j + 1, kv, e', by simp [posE, hm, h1]; omega, by simpa using h2, by simpa using h3, h4, ?_⟩
        simp [Instr.findNow, Instr.sameNow, h0, hne, h5]; omega

theorem look_pos (n : Int) : ∀ (es : List (Int × T)) (i : Nat), look n es = (posE n es i).map (·.2)
  | [], _ => rfl
  | (m, v) :: es, i => by
    unfold look posE
    split
    · rfl
    · exact look_pos n es (i + 1)

theorem putE_some (n : Int) (v : T) : ∀ (es : List (Int × T)) (i j : Nat) (u : T), posE n es i = some (i + j, u) → putE n v es = es.set j (n, v)
  | [], _, _, _, h => by simp [posE] at h
  | (m, u0) :: es, i, j, u, h => by
    unfold posE at h
    unfold putE
    split at h
    · rename_i hm
      simp at h
      have : j = 0 := by omega
      subst this
      rw [if_pos hm]; rfl
    · rename_i hm
      rw [if_neg hm]
      cases j with
      | zero =>
        exfalso
        have : ∀ (es : List (Int × T)) (i q : Nat) (u : T), posE n es i = some (q, u) → i ≤ q := by
          intro es
          induction es with
          | nil => intro i q u h; simp [posE] at h
          | cons e es ih =>
            intro i q u h
            unfold posE at h
            split at h
            · simp at h; omega
            · have := ih _ _ _ h; omega
        have := this es (i + 1) _ _ h
        omega
      | succ j =>
        rw [putE_some n v es (i + 1) j u (by rw [h]; congr 2; omega)]; rfl
theorem putE_none (n : Int) (v : T) : ∀ (es : List (Int × T)) (i : Nat), posE n es i = none → putE n v es = es ++ [(n, v)]
  | [], _, _ => rfl
  | (m, u0) :: es, i, h => by
    unfold posE at h
    unfold putE
    split at h
    · simp at h
    · rename_i hm
      rw [if_neg hm, putE_none n v es (i + 1) h]; rfl

theorem zero_VT (ht : TabOk P tt) {t : TypeId} (hg : (tt.at t).ti.good = true) : ∃ z, (zeroValue t).run P w = .ok z w ∧ VT F w (mkT (tt.at t).ti.isAgg (tt.at t).size (tt.at t).zero) z := by
  obtain ⟨i, hi, hs, hb, hz0, z, hz, hzs, hza, hz1, hzv⟩ := (ht.at t hg).info
  refine ⟨z, by simp [zeroValue, typeInfo, hi, hz], ?_⟩
  have hm := mkT_VT (F := F) (w := w) (agg := (tt.at t).ti.isAgg) (n := (tt.at t).size) (cs := (tt.at t).zero) (f := fun j => z.cells.getD j undef) (by omega) (ht.at t hg).one (fun j y hy hj => by
    refine (hzv F w j y _ hy ?_).1
    simp [Array.getD_eq_getD_getElem?, Array.getElem?_eq_getElem (show j < z.cells.size by omega)])
  cases ha : (tt.at t).ti.isAgg with
  | true =>
    obtain ⟨vs, rfl⟩ := hza ha
    rw [ha] at hm
    simp only [if_true] at hm
    have e : ((List.range (tt.at t).size).map fun j => (Value.agg vs).cells.getD j undef).toArray = vs := by
      have hsz : vs.size = (tt.at t).size := hzs
      apply Array.ext'
      apply List.ext_getElem?
      intro j
      simp only [Value.cells, List.getElem?_map]
      by_cases hj : j < (tt.at t).size
      · simp [hj, Array.getD_eq_getD_getElem?, Array.getElem?_eq_getElem (show j < vs.size by omega)]
      · simp [hj, Array.getElem?_eq_none (show vs.size ≤ j by omega)]
    rw [e] at hm
    exact hm
  | false =>
    rw [ha] at hm
    simp only [Bool.false_eq_true, if_false, (hz1 ha).1] at hm
    simpa using hm

theorem op_lookup (ht : TabOk P tt) (hn : Next P o a own F w σ K next) (r : Rel own F w σ) {t kt e : TypeId} {x i : Operand} {m : Nat} {kk kk' kk2 : IntKind} {n : Int} {es : List (Int × T)} (ho : o.op = .lookup t x i false) (hti : (tt.at t).ti = .map kt e) (hkt : (tt.at kt).ti = .int kk')
    {ee : Nat} {p : Path} {ep : Nat → Nat} {nd : Nd} (hx : VS own F w (.mp m ee p) (a.eval x)) (hi : VS own F w (.t (.int kk n)) (a.eval i)) (hm : nth σ m = some (.nd ep nd)) (hee : ee = ep p.length) (hp : nodeAt nd p = some (.map kk2 es)) (hb : (sameK kk kk' && sameK kk kk2 && (tt.at e).ti.good) = true)
    (hs : K (.t ((look n es).getD (mkT (tt.at e).ti.isAgg (tt.at e).size (tt.at e).zero))) σ) : o.wp P a w next Q := by
  simp only [Bool.and_eq_true] at hb
  have h1 := sameK_eq hb.1.1
  have h2 := sameK_eq hb.1.2
  subst h1 h2
  obtain ⟨b, ents, clock, hmv, hown, hh, hsz, hk, hv, _⟩ := map_node r hm hee hp hx
  have hu := und_map (ht.at t (by rw [hti]; rfl)) hti
  have huk := und_int (ht.at kt (by rw [hkt]; rfl)) hkt
  obtain ⟨z, hz, hzv⟩ := zero_VT (F := F) (w := w) ht hb.2
  have hget : (getObj b).run P w = .ok (.map ents clock) w := by simp [getObj, Sem.run, hh]
  have hck : ∀ em, (Instr.checkKey em 10000 kt (.int kk n)).run P w = .ok () w := by
    intro em
    unfold Instr.checkKey
    simp [run_underlying huk]
  rcases findNow_int kk kk n es ents.toList 0 (by simpa using hsz) (fun j kv e' hj he => hk j kv e' hj (by simpa using he)) with ⟨p1, p2⟩ | ⟨j, kv, e', p1, p2, p3, p4, p5⟩
  · rw [look_pos n es 0, p1] at hs
    refine op_pure hn r (mv := z) ?_ hs (.t _ _ hzv)
    unfold execOp
    simp only [ho, hmv, intV hi, Instr.lookup, Sem.run_bind, run_underlying hu, Result.andThen_ok, hget, Sem.run_pure, hck, Instr.findKey, run_underlying huk, p2, hz]
    rfl
  · rw [look_pos n es 0, p1] at hs
    refine op_pure hn r (mv := e'.val) ?_ hs (.t _ _ (hv j kv e' p2 (by simpa using p3)))
    unfold execOp
    simp only [ho, hmv, intV hi, Instr.lookup, Sem.run_bind, run_underlying hu, Result.andThen_ok, hget, Sem.run_pure, hck, Instr.findKey, run_underlying huk, p5]
    rfl

def setBlock (w : World) (b : Nat) (o : Obj) : World := { w with heap := w.heap.setIfInBounds b o }

theorem op_mapUpdate (ht : TabOk P tt) (hn : Next P o a own F w σ K next) (r : Rel own F w σ) {t kt e : TypeId} {x i y : Operand} {m : Nat} {kk kk' kk2 : IntKind} {n : Int} {v : T} {es : List (Int × T)} (ho : o.op = .mapUpdate t x i y) (hti : (tt.at t).ti = .map kt e) (hkt : (tt.at kt).ti = .int kk')
    {ee : Nat} {p : Path} {ep : Nat → Nat} {nd : Nd} (hx : VS own F w (.mp m ee p) (a.eval x)) (hi : VS own F w (.t (.int kk n)) (a.eval i)) (hy : VS own F w (.t v) (a.eval y)) (hm : nth σ m = some (.nd ep nd)) (hee : ee = ep p.length) (hp : nodeAt nd p = some (.map kk2 es)) (hb : (sameK kk kk' && sameK kk kk2) = true)
    (hs : K .any (σ.set m (.nd ep (setAt nd p (.map kk2 (putE n v es)))))) : o.wp P a w next Q := by
  simp only [Bool.and_eq_true] at hb
  have h1 := sameK_eq hb.1
  have h2 := sameK_eq hb.2
  subst h1 h2
  obtain ⟨b, ents, clock, hmv, hown, hh, hsz, hk, hv, hbo⟩ := map_node r hm hee hp hx
  have hu := und_map (ht.at t (by rw [hti]; rfl)) hti
  have huk := und_int (ht.at kt (by rw [hkt]; rfl)) hkt
  have hyv : VT F w v (a.eval y) := by cases hy with | t _ _ h => exact h
  have hget : (getObj b).run P w = .ok (.map ents clock) w := by simp [getObj, Sem.run, hh]
  have hck : ∀ em, (Instr.checkKey em 10000 kt (.int kk n)).run P w = .ok () w := by
    intro em
    unfold Instr.checkKey
    simp [run_underlying huk]
  have hlt : b < w.heap.size := (Array.getElem?_eq_some_iff.1 hh).1
  have hset : ∀ ob, (setObj b ob).run P w = .ok () (setBlock w b ob) := by
    intro ob
    simp only [setObj, Sem.run, hh]
    rfl
  have hstay : ∀ (old : Value), old = .int kk n → (Instr.keyThatStays old (.int kk n)).run P w = .ok (.int kk n) w := by
    intro old ho
    subst ho
    simp [Instr.keyThatStays, Instr.sameBits]
  -- what the new block says
  have go : ∀ (ents' : Array MapEntry) (clock' : Nat), (execOp a.eval o).run P w = .ok .skip (setBlock w b (.map ents' clock')) → ents'.size = (putE n v es).length →
      (∀ (i : Nat) (kv : Int × T) (e : MapEntry), (putE n v es)[i]? = some kv → ents'[i]? = some e → e.key = .int kk kv.1) →
      (∀ (i : Nat) (kv : Int × T) (e : MapEntry), (putE n v es)[i]? = some kv → ents'[i]? = some e → VT F w kv.2 e.val) →
      (∀ (i : Nat) (e : MapEntry), ents'[i]? = some e → e.born < clock' ∧ ∀ (j : Nat) (e' : MapEntry), ents'[j]? = some e' → e.born = e'.born → i = j) → o.wp P a w next Q := by
    intro ents' clock' hrun g1 g2 g3 g4
    have hwr := r.storeMap (w' := setBlock w b (.map ents' clock')) hm hp hown rfl rfl rfl (by simp [setBlock]) (fun j hj => by
        simp only [setBlock, Array.getElem?_setIfInBounds]
        rw [if_neg (by omega)]) (by simp [setBlock, hlt]) g1 g2 g3 g4
    exact wp_skip' hrun (hn _ _ _ _ _ _ hs hwr.2 hwr.1 (by simp) (.t _ _ (.any _)))
  rcases findNow_int kk kk n es ents.toList 0 (by simpa using hsz) (fun j kv e' hj he => hk j kv e' hj (by simpa using he)) with ⟨p1, p2⟩ | ⟨j, kv, e', p1, p2, p3, p4, p5⟩
  · have hput := putE_none n v es 0 p1
    refine go (ents.push { key := .int kk n, val := a.eval y, born := clock }) (clock + 1) ?_ (by rw [hput]; simp [hsz]) ?_ ?_ ?_
    · unfold execOp
      simp only [ho, hmv, intV hi, Instr.mapUpdate, Sem.run_bind, run_underlying hu, Result.andThen_ok, hget, hck, Instr.findKey, run_underlying huk, p2, Sem.run_pure, hset]
    · intro i kv e h1 h2
      rw [hput] at h1
      rw [Array.getElem?_push] at h2
      split at h2
      · rename_i hi'
        rw [hi', hsz] at h1
        simp at h1 h2
        rw [← h1, ← h2]
      · have hlt' : i < ents.size := by
          have := (Array.getElem?_eq_some_iff.1 h2).1; exact this
        rw [List.getElem?_append_left (by omega)] at h1
        exact hk i kv e h1 h2
    · intro i kv e h1 h2
      rw [hput] at h1
      rw [Array.getElem?_push] at h2
      split at h2
      · rename_i hi'
        rw [hi', hsz] at h1
        simp at h1 h2
        rw [← h1, ← h2]; exact hyv
      · have hlt' : i < ents.size := by
          have := (Array.getElem?_eq_some_iff.1 h2).1; exact this
        rw [List.getElem?_append_left (by omega)] at h1
        exact hv i kv e h1 h2
    · intro i e h2
      rw [Array.getElem?_push] at h2
      split at h2
      · rename_i hi'
        simp at h2
        subst h2
        refine ⟨by simp, fun j e' h3 hb' => ?_⟩
        rw [Array.getElem?_push] at h3
        split at h3
        · omega
        · have := (hbo j e' h3).1
          simp at hb'; omega
      · obtain ⟨g1, g2⟩ := hbo i e h2
        refine ⟨by omega, fun j e' h3 hb' => ?_⟩
        rw [Array.getElem?_push] at h3
        split at h3
        · simp at h3
          subst h3
          simp at hb'; omega
        · exact g2 j e' h3 hb'
  · simp only [Nat.zero_add] at p1 p5
    have hput := putE_some n v es 0 j kv.2 (by rw [p1]; simp)
    have p3' : ents[j]? = some e' := by simpa using p3
    have hkey : e'.key = .int kk n := by rw [hk j kv e' p2 p3', p4]
    have hjlt : j < ents.size := (Array.getElem?_eq_some_iff.1 p3').1
    refine go (ents.modify j fun e => { e with key := .int kk n, val := a.eval y }) clock ?_ (by rw [hput]; simp [hsz]) ?_ ?_ ?_
    · unfold execOp
      simp only [ho, hmv, intV hi, Instr.mapUpdate, Sem.run_bind, run_underlying hu, Result.andThen_ok, hget, hck, Instr.findKey, run_underlying huk, p5, Sem.run_pure, p3', Option.map_some, Option.getD_some, hstay _ hkey, hset]
    · intro i kv2 e h1 h2
      rw [hput, List.getElem?_set] at h1
      rw [Array.getElem?_modify] at h2
      by_cases hij : j = i
      · subst hij
        rw [if_pos rfl] at h1 h2
        rw [if_pos (by omega)] at h1
        rw [p3'] at h2
        simp at h1 h2
        rw [← h1, ← h2]
      · rw [if_neg hij] at h1
        rw [if_neg hij] at h2
        exact hk i kv2 e h1 h2
    · intro i kv2 e h1 h2
      rw [hput, List.getElem?_set] at h1
      rw [Array.getElem?_modify] at h2
      by_cases hij : j = i
      · subst hij
        rw [if_pos rfl] at h1 h2
        rw [if_pos (by omega)] at h1
        rw [p3'] at h2
        simp at h1 h2
        rw [← h1, ← h2]; exact hyv
      · rw [if_neg hij] at h1
        rw [if_neg hij] at h2
        exact hv i kv2 e h1 h2
    · have bsame : ∀ (i : Nat) (e : MapEntry), (ents.modify j fun e => { e with key := .int kk n, val := a.eval y })[i]? = some e → ∃ e0, ents[i]? = some e0 ∧ e0.born = e.born := by
        intro i e h2
        rw [Array.getElem?_modify] at h2
        split at h2
        · cases hq : ents[i]? with
          | none => simp [hq] at h2
          | some e0 => simp [hq] at h2; exact ⟨e0, rfl, by rw [← h2]⟩
        · exact ⟨e, h2, rfl⟩
      intro i e h2
      obtain ⟨e0, q1, q2⟩ := bsame i e h2
      obtain ⟨g1, g2⟩ := hbo i e0 q1
      refine ⟨by omega, fun l e1 h3 hb' => ?_⟩
      obtain ⟨e2, q3, q4⟩ := bsame l e1 h3
      exact g2 l e2 q3 (by omega)

theorem op_len (ht : TabOk P tt) (hn : Next P o a own F w σ K next) (r : Rel own F w σ) {t : TypeId} {x : Operand} (ho : o.op = .call { callee := .builtin .len, args := #[x], argTypes := #[t] })
    {sx : SV} (hx : VS own F w sx (a.eval x)) (hs : lenOp (tt.at t).ti sx σ fun v => K v σ) : o.wp P a w next Q := by
  have run : ∀ v, (Builtin.len_ #[t] o.type #[a.eval x]).run P w = .ok v w → (execOp a.eval o).run P w = .ok (.value v) w := by
    intro v hv
    unfold execOp
    simp only [ho, resolve, Sem.run_bind, Sem.run_pure, Result.andThen_ok, invoke, builtin]
    have e : #[x].map a.eval = #[a.eval x] := by simp
    rw [e, hv]; rfl
  generalize hm : a.eval x = mv at hx run
  unfold lenOp at hs
  split at hs
  · rename_i e sz xs hti
    have hu := und_slice (ht.at t (by rw [hti]; rfl)) hti
    cases hx with
    | t _ _ hv =>
      cases hv with
      | sl _ _ b off c vals hp hc hnn =>
        exact op_pure hn r (run (.int .i64 xs.length) (by simp [Builtin.len_, run_underlying hu, goInt])) (hs hnn) (.t _ _ (.int _ _))
      | sl0 _ ad c =>
        exact op_pure hn r (run (.int .i64 0) (by simp [Builtin.len_, run_underlying hu, goInt])) (hs (by simp)) (.t _ _ (.int _ _))
  · rename_i e hti
    have hu := und_slice (ht.at t (by rw [hti]; rfl)) hti
    cases hx with
    | t _ _ hv =>
      cases hv
      exact op_pure hn r (run (.int .i64 0) (by simp [Builtin.len_, run_underlying hu, goInt])) hs (.t _ _ (.int _ _))
  · rename_i e hti
    have hu := und_slice (ht.at t (by rw [hti]; rfl)) hti
    cases hx with
    | t _ _ hv =>
      cases hv
      exact op_pure hn r (run (.int .i64 0) (by simp [Builtin.len_, run_underlying hu, goInt])) hs (.t _ _ (.int _ _))
  · rename_i s hti
    have hu := und_str (ht.at t (by rw [hti]; rfl)) hti
    cases hx with
    | t _ _ hv =>
      cases hv
      exact op_pure hn r (run (.int .i64 s.size) (by simp [Builtin.len_, run_underlying hu, goInt])) hs (.t _ _ (.int _ _))
  · rename_i e k ee p off len hti
    have hu := und_slice (ht.at t (by rw [hti]; rfl)) hti
    cases hx with
    | refZ _ _ _ _ ad h => exact op_pure hn r (run (.int .i64 0) (by simp [Builtin.len_, run_underlying hu, goInt])) (hs (by omega)) (.t _ _ (.int _ _))
    | refE _ _ _ ad h => exact op_pure hn r (run (.int .i64 0) (by simp [Builtin.len_, run_underlying hu, goInt])) (hs (by omega)) (.t _ _ (.int _ _))
    | ref _ _ _ _ _ b o sz cap m h hl hm hnn => exact op_pure hn r (run (.int .i64 len) (by simp [Builtin.len_, run_underlying hu, goInt])) (hs hnn) (.t _ _ (.int _ _))
  · rename_i k1 e1 k ee p hti
    have hu := und_map (ht.at t (by rw [hti]; rfl)) hti
    split at hs
    · rename_i ep nd hk
      obtain ⟨h1, h2⟩ := hs
      obtain ⟨nn, hp, h3⟩ := nodeK_out h2
      cases nn with
      | row => exact h3.elim
      | map kk es =>
        obtain ⟨b, ents, clock, hmv, hown, hh, hsz, _⟩ := map_node r hk h1.out hp hx
        subst hmv
        have hget : (getObj b).run P w = .ok (.map ents clock) w := by simp [getObj, Sem.run, hh]
        exact op_pure hn r (run (.int .i64 es.length) (by simp [Builtin.len_, run_underlying hu, goInt, hget, hsz])) h3 (.t _ _ (.int _ _))
    · exact hs.elim
  · exact hs.elim

end
end Go.Proofs.Ytihebfhhnoneiaa.Am
