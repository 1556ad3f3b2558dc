/- Slices built out of their elements, made, cut; strings. -/
import Derived.Test.YtihebfhhnoneiaaAmOps8
namespace Go.Proofs.Ytihebfhhnoneiaa.Am
open Go.RowKit
set_option linter.unusedVariables false
set_option linter.unusedSimpArgs false

section
variable {P : Program} {tt : Tab} {own : Nat → Own} {F : Nat → Prop} {w : World} {σ : Sto} {env : Env} {a : Act} {N : Nat} {o : Oper}
variable {K : SV → Sto → Prop} {next : Act → World → Prop} {Q : Exit → Act → World → Prop}

theorem fold_set (off : Nat) : ∀ (l : List Value) (n : Nat) (vs : Array Value), off + n + l.length ≤ vs.size → ((l.zipIdx n).foldl (fun cs (c, j) => cs.setIfInBounds (off + j) c) vs).toList = vs.toList.take (off + n) ++ l ++ vs.toList.drop (off + n + l.length) := by
  intro l
  induction l with
  | nil => intro n vs _; simp
  | cons u l ih =>
    intro n vs hle
    simp only [List.zipIdx_cons, List.foldl_cons]
    rw [ih (n + 1) _ (by simp at hle ⊢; omega)]
    simp only [List.length_cons] at hle
    apply List.ext_getElem?
    intro j
    rw [splice_get _ l (off + (n + 1)) j (by simp; omega), show off + n + (u :: l).length = off + n + (u :: l).length from rfl, splice_get _ (u :: l) (off + n) j (by simp; omega)]
    simp only [Array.toList_setIfInBounds, List.getElem?_set, List.length_cons]
    by_cases ha : off + (n + 1) ≤ j ∧ j < off + (n + 1) + l.length
    · rw [if_pos ha, if_pos (by omega)]
      rw [show j - (off + n) = (j - (off + (n + 1))) + 1 by omega]
      simp
    · rw [if_neg ha]
      by_cases hb : off + n = j
      · subst hb
        rw [if_pos rfl, if_pos (by simp; omega), if_pos (by omega)]
        simp
      · rw [if_neg hb]
        rw [if_neg (by omega)]

theorem fill_seq {sz : Nat} : ∀ (l : List Value) (k : Nat) (cs : Array Value), cs.size = (k + l.length) * sz → (∀ v ∈ l, v.cells.size = sz) →
    ∃ vs', Instr.fill (fun i => some (i * sz, sz)) cs ((l.zipIdx k).map fun p => (p.2, p.1)) = some vs' ∧ vs'.toList = cs.toList.take (k * sz) ++ l.flatMap fun v => v.cells.toList
  | [], k, cs, hs, _ => ⟨cs, rfl, by simp at hs; simp; rw [List.take_of_length_le (by simp [hs])]⟩
  | v :: l, k, cs, hs, hv => by
    have hv0 := hv v (by simp)
    have hk : (k + 1) * sz ≤ cs.size := by rw [hs]; exact Nat.mul_le_mul_right _ (by simp)
    rw [Nat.add_mul, Nat.one_mul] at hk
    have hf := fold_set (k * sz) v.cells.toList 0 cs (by simp; omega)
    simp only [Nat.add_zero] at hf
    have hvs1 : ∃ vs1 : Array Value, (v.cells.zipIdx.foldl (fun cs (c, j) => cs.setIfInBounds (k * sz + j) c) cs) = vs1 ∧ vs1.toList = cs.toList.take (k * sz) ++ v.cells.toList ++ cs.toList.drop (k * sz + v.cells.toList.length) := by
      refine ⟨_, rfl, ?_⟩
      rw [← hf]
      rw [← Array.foldl_toList, Array.toList_zipIdx]
    obtain ⟨vs1, he1, hl1⟩ := hvs1
    have hsz1 : vs1.size = cs.size := by rw [← Array.length_toList, hl1]; simp; omega
    obtain ⟨vs', h1, h2⟩ := fill_seq l (k + 1) vs1 (by rw [hsz1, hs]; simp; congr 1; omega) fun u hu => hv u (by simp [hu])
    refine ⟨vs', ?_, ?_⟩
    · simp only [List.zipIdx_cons, List.map_cons, Instr.fill]
      rw [if_neg (by simp; omega)]
      rw [show v.cells.zipIdx.foldl (fun cs x => cs.setIfInBounds (k * sz + x.snd) x.fst) cs = vs1 from he1]
      exact h1
    · rw [h2, hl1]
      have e : (k + 1) * sz = k * sz + v.cells.toList.length := by rw [Nat.add_mul, Nat.one_mul]; simp [hv0]
      have hm : min (k * sz) cs.size = k * sz := Nat.min_eq_left (by omega)
      rw [e, List.take_append_of_le_length (by simp [hm]), List.take_of_length_le (by simp [hm])]
      simp

theorem flat_get {α : Type} {sz : Nat} {f : α → List Value} : ∀ (l : List α), (∀ v ∈ l, (f v).length = sz) → ∀ (i j : Nat) (v : α), l[i]? = some v → j < sz → (l.flatMap f)[i * sz + j]? = (f v)[j]?
  | [], _, i, j, v, h, _ => by simp at h
  | u :: l, hl, 0, j, v, h, hj => by
    simp at h; subst h
    simp only [List.flatMap_cons, Nat.zero_mul, Nat.zero_add]
    rw [List.getElem?_append_left (by rw [hl u (by simp)]; exact hj)]
  | u :: l, hl, i + 1, j, v, h, hj => by
    simp only [List.flatMap_cons]
    have h0 := hl u (by simp)
    rw [Nat.add_mul, Nat.one_mul, List.getElem?_append_right (by omega)]
    rw [show i * sz + sz + j - (f u).length = i * sz + j by omega]
    exact flat_get l (fun v hv => hl v (by simp [hv])) i j v (by simpa using h) hj

theorem idxOk_zip {α : Type} : ∀ (l : List (Nat × α)) (k n : Nat), idxOk k l n = true → k + l.length = n ∧ ∀ {β : Type} (g : α → β), l.map (fun p => (p.1, g p.2)) = ((l.map fun p => g p.2).zipIdx k).map fun p => (p.2, p.1)
  | [], k, n, h => by simp [idxOk] at h; exact ⟨h, fun _ => rfl⟩
  | p :: l, k, n, h => by
    simp only [idxOk, Bool.and_eq_true] at h
    obtain ⟨h1, h2⟩ := h
    have h1 := Nat.eq_of_beq_eq_true h1
    obtain ⟨h3, h4⟩ := idxOk_zip l (k + 1) n h2
    refine ⟨by simp; omega, fun g => ?_⟩
    simp only [List.map_cons, List.zipIdx_cons, h4 g, h1]


theorem op_buildSlice0 (ht : TabOk P tt) (hn : Next P o a own F w σ K next) (r : Rel own F w σ) {t : TypeId} {parts : Array (Nat × Operand)} {E : TypeId} (ho : o.op = .buildSlice t 0 parts) (hti : (tt.at t).ti = .slice E)
    (hg : (tt.at E).ti.good = true) (hp : parts.toList.isEmpty = true) (hs : K (.t .esl) σ) : o.wp P a w next Q := by
  have hTt := ht.at t (by rw [hti]; rfl)
  have hT := ht.at E hg
  have hpe : parts = #[] := by simpa using hp
  subst hpe
  have g := r.grow (w' := w.alloc (.cells #[] E)) rfl rfl rfl (by simp) (fun i hi => Below.heap_alloc w _ i hi)
  refine wp_value (w' := w.alloc (.cells #[] E)) (mv := .slice (some ⟨w.heap.size, 0, none⟩) 0 0) ?_ (hn _ _ _ _ _ _ hs g.2 g.1 (Nat.le_refl _) (.t _ _ (.esl _)))
  unfold execOp
  simp only [ho, Instr.buildSlice, Sem.run_bind, run_underlying (und_slice hTt hti), Result.andThen_ok, run_size hT w]
  simp [newRow, Instr.fill, show Array.range 0 = #[] from rfl]

theorem mkEl_cells {sz : Nat} {l : List T} (h : l.length = sz) (hpos : 0 < sz) (h1 : ∀ y ∈ l, y.cells = [y]) : (mkEl sz l).cells = l := by
  unfold mkEl
  cases hb : Nat.beq sz 1 with
  | true =>
    have hb := Nat.eq_of_beq_eq_true hb
    rw [hb] at h
    obtain ⟨y, rfl⟩ := List.length_eq_one_iff.1 h
    simp only [cond_true, List.headD_cons]
    exact h1 y (by simp)
  | false => rfl
theorem els_len {sz : Nat} : ∀ (n : Nat) (ys : List T), (els sz n ys).length = n
  | 0, _ => rfl
  | n + 1, ys => by simp [els, els_len n]
theorem els_get {sz : Nat} : ∀ (n : Nat) (ys : List T) (i : Nat) (x : T), (els sz n ys)[i]? = some x → i < n ∧ x = mkEl sz ((ys.drop (i * sz)).take sz)
  | 0, ys, i, x, h => by simp [els] at h
  | n + 1, ys, 0, x, h => by simp [els] at h; simp [h]
  | n + 1, ys, i + 1, x, h => by
    simp only [els, List.getElem?_cons_succ] at h
    obtain ⟨h1, h2⟩ := els_get n (ys.drop sz) i x h
    refine ⟨by omega, ?_⟩
    rw [h2, List.drop_drop]
    congr 3
    rw [Nat.add_mul, Nat.one_mul]; omega
theorem els_cell {sz n : Nat} {ys : List T} (hl : ys.length = n * sz) (hpos : 0 < sz) (h1 : ∀ y ∈ ys, y.cells = [y]) {i : Nat} {x : T} (hx : (els sz n ys)[i]? = some x) : x.cells.length = sz ∧ ∀ j, j < sz → x.cells[j]? = ys[i * sz + j]? := by
  obtain ⟨hi, rfl⟩ := els_get n ys i x hx
  have hle : (i + 1) * sz ≤ n * sz := Nat.mul_le_mul_right _ hi
  rw [Nat.add_mul, Nat.one_mul] at hle
  have hlen : ((ys.drop (i * sz)).take sz).length = sz := by simp; omega
  rw [mkEl_cells hlen hpos fun y hy => h1 y (List.drop_subset _ _ (List.take_subset _ _ hy))]
  refine ⟨hlen, fun j hj => ?_⟩
  rw [List.getElem?_take, if_pos hj, List.getElem?_drop]

/-- Cells side by side. -/
theorem flat_cells (hx : ∀ x, VS own F w (ev env x) (a.eval x)) : ∀ (l : List (Nat × Operand)), (∀ p ∈ l, (ev env p.2).cells.all SV.leaf = true) →
    (l.flatMap fun p => (a.eval p.2).cells.toList).length = (l.flatMap fun p => (ev env p.2).cells).length ∧ (∀ u ∈ l.flatMap fun p => (a.eval p.2).cells.toList, u.oneCell' = true) ∧
      ∀ (i : Nat) (x : SV) (v : Value), (l.flatMap fun p => (ev env p.2).cells)[i]? = some x → (l.flatMap fun p => (a.eval p.2).cells.toList)[i]? = some v → VS own F w x v
  | [], _ => ⟨rfl, by simp, by simp⟩
  | p :: l, h => by
    obtain ⟨h1, h2, h3⟩ := flat_cells hx l fun q hq => h q (by simp [hq])
    obtain ⟨c1, c2, c3⟩ := (hx p.2).cells (h p (by simp))
    have c1' : (a.eval p.2).cells.toList.length = (ev env p.2).cells.length := by simpa using c1
    simp only [List.flatMap_cons]
    refine ⟨by simp only [List.length_append]; rw [h1, c1'], fun u hu => ?_, fun i x v hx' hv => ?_⟩
    · rcases List.mem_append.1 hu with h | h
      · exact c2 u h
      · exact h2 u h
    · rcases Nat.lt_or_ge i (ev env p.2).cells.length with hi | hi
      · rw [List.getElem?_append_left hi] at hx'
        rw [List.getElem?_append_left (by omega)] at hv
        exact c3 i x v hx' (by simpa using hv)
      · rw [List.getElem?_append_right hi] at hx'
        rw [List.getElem?_append_right (by omega), c1'] at hv
        exact h3 _ x v hx' hv

/-- Parts as what a row is made of. -/
theorem Sup.parts (r : Rel own F w σ) {ss : List SV} {ys : List T} {us : List Value} {sz n : Nat} (hpos : 0 < sz) (hl : ss.length = n * sz) (hly : ys.length = ss.length) (hlu : us.length = ss.length) (hone : ∀ u ∈ us, u.oneCell' = true) (hun : unlikeIds (putIds ss) = true)
    (hp : ∀ (i : Nat) (s : SV) (y : T) (u : Value), ss[i]? = some s → ys[i]? = some y → us[i]? = some u → Part own F w σ s y u) :
    ∃ A, Sup own F w (putIds ss) sz A (els sz n ys) us := by
  have hget : ∀ t, t < ss.length → Part own F w σ (ss.getD t .any) (ys.getD t .any) (us.getD t undef) := by
    intro t ht
    simp only [List.getD_eq_getElem?_getD, List.getElem?_eq_getElem ht, List.getElem?_eq_getElem (show t < ys.length by omega), List.getElem?_eq_getElem (show t < us.length by omega), Option.getD_some]
    exact hp t _ _ _ (List.getElem?_eq_getElem ht) (List.getElem?_eq_getElem (by omega)) (List.getElem?_eq_getElem (by omega))
  have h1 : ∀ y ∈ ys, y.cells = [y] := by
    intro y hy
    obtain ⟨t, ht⟩ := List.getElem?_of_mem hy
    have htl : t < ys.length := (List.getElem?_eq_some_iff.1 ht).1
    exact (hp t _ y _ (List.getElem?_eq_getElem (by omega)) ht (List.getElem?_eq_getElem (by omega))).1
  have hlyn : ys.length = n * sz := by omega
  let A : Nat → Nat → Path → Option Loc := fun i j => match ss[i * sz + j]? with
    | some s => match rootId s with
      | some k => match σ[k]? with
        | some (.nd ep _) => (own k).cur ep
        | _ => fun _ => none
      | none => fun _ => none
    | none => fun _ => none
  have hcell : ∀ (i : Nat) (x : T) (j : Nat) (y : T), (els sz n ys)[i]? = some x → x.cells[j]? = some y → j < sz ∧ i * sz + j < ss.length ∧ ys[i * sz + j]? = some y := by
    intro i x j y hx hy
    obtain ⟨g1, g2⟩ := els_cell hlyn hpos h1 hx
    have hj : j < sz := by rw [← g1]; exact (List.getElem?_eq_some_iff.1 hy).1
    rw [g2 j hj] at hy
    exact ⟨hj, by rw [← hly]; exact (List.getElem?_eq_some_iff.1 hy).1, hy⟩
  have hput : ∀ (i : Nat) (x : T) (j : Nat) (y : T) (m : Nd), (els sz n ys)[i]? = some x → x.cells[j]? = some y → y.nd? = some m → ∃ s k ep L, ss[i * sz + j]? = some s ∧ rootId s = some k ∧ σ[k]? = some (.nd ep m) ∧ A i j = (own k).cur ep ∧ (own k).am 0 [] = some L ∧ us[i * sz + j]? = some (m.lv L) := by
    intro i x j y m hx hy hn
    obtain ⟨hj, hlt, hy'⟩ := hcell i x j y hx hy
    have hs : ss[i * sz + j]? = some ss[i * sz + j] := List.getElem?_eq_getElem hlt
    have hu : us[i * sz + j]? = some us[i * sz + j] := List.getElem?_eq_getElem (by omega)
    rcases (hp _ _ y _ hs hy' hu).2 with ⟨g, _⟩ | ⟨k, ep, n', L, g1, g2, g3, g4, g5⟩
    · rw [hn] at g; exact nomatch g
    · rw [g3, nd_toT] at hn
      injection hn with hn
      subst hn
      refine ⟨_, k, ep, L, hs, g1, g2, ?_, g4, by rw [hu, g5]⟩
      show (match ss[i * sz + j]? with
        | some s => match rootId s with
          | some k => match σ[k]? with
            | some (.nd ep _) => (own k).cur ep
            | _ => fun _ => none
          | none => fun _ => none
        | none => fun _ => none) = _
      rw [hs]
      simp only [g1, g2]
  refine ⟨A, fun x hx => ?_, by rw [els_len]; omega, hone, fun i x j y v hx hy hv => ?_, fun i j i' j' x x' y y' m m' b hx hy hn hx' hy' hn' hb hb' => ?_⟩
  · obtain ⟨i, hi⟩ := List.getElem?_of_mem hx
    exact (els_cell hlyn hpos h1 hi).1
  · cases hyn : y.nd? with
    | none =>
      obtain ⟨hj, hlt, hy'⟩ := hcell i x j y hx hy
      rcases (hp _ _ y _ (List.getElem?_eq_getElem hlt) hy' hv).2 with ⟨_, g, _⟩ | ⟨k, ep, n', L, g1, g2, g3, g4, g5⟩
      · exact .inl ⟨rfl, g⟩
      · rw [g3, nd_toT] at hyn; exact nomatch hyn
    | some m =>
      obtain ⟨s, k, ep, L, g1, g2, g3, g4, g5, g6⟩ := hput i x j y m hx hy hyn
      obtain ⟨hT, hB, hep, _⟩ := r.obj k _ g3
      rw [g6] at hv
      injection hv with hv
      refine .inr ⟨m, L, rfl, by rw [g4]; exact hT, ?_, hv.symm, fun b hb => ⟨k, putIds_mem g1 g2, hB b (g4 ▸ hb)⟩⟩
      rw [g4]
      show (own k).am (ep 0) [] = some L
      rw [hep]; exact g5
  · obtain ⟨s, k, ep, L, g1, g2, g3, g4, _⟩ := hput i x j y m hx hy hn
    obtain ⟨s', k', ep', L', w1, w2, w3, w4, _⟩ := hput i' x' j' y' m' hx' hy' hn'
    have hk := r.inj k k' b ((r.obj k _ g3).2.1 b (g4 ▸ hb)) ((r.obj k' _ w3).2.1 b (w4 ▸ hb'))
    subst hk
    have ht := putIds_one (unlikeIds_nodup hun) g1 g2 w1 w2
    obtain ⟨hj, _⟩ := hcell i x j y hx hy
    obtain ⟨hj', _⟩ := hcell i' x' j' y' hx' hy'
    by_cases hij : i' = i ∧ j' = j
    · exact ⟨hij.1.symm, hij.2.symm⟩
    · exact absurd ht.symm (idx_ne hj hj' hij)

theorem op_buildSlice (ht : TabOk P tt) (hn : Next P o a own F w σ K next) (r : Rel own F w σ) {t : TypeId} {n : Nat} {parts : Array (Nat × Operand)} {E : TypeId} (ho : o.op = .buildSlice t n parts) (hti : (tt.at t).ti = .slice E)
    (hx : ∀ x, VS own F w (ev env x) (a.eval x))
    (hg : (tt.at E).ti.good = true) (hpos : 0 < (tt.at E).size) (hn0 : 0 < n) (hbig : n * (tt.at E).size ≤ 16777216) (hidx : idxOk 0 parts.toList n = true)
    (hall : (parts.toList.all fun p => (ev env p.2).cells.all SV.leaf && Nat.beq (ev env p.2).cells.length (tt.at E).size) = true)
    (hs : takL (parts.toList.flatMap fun p => (ev env p.2).cells) σ fun ss σ1 => bif unlikeIds (putIds ss) then partL σ1 ss fun ys => forceSto (kills (putIds ss) σ1 ++ [.row E (tt.at E).size (els (tt.at E).size n ys)]) (K (.osl σ1.length 0 n)) else False) : o.wp P a w next Q := by
  have hTt := ht.at t (by rw [hti]; rfl)
  have hT := ht.at E hg
  obtain ⟨i, hi, hsz, hb, hz0, z, hz, hzs, hza, _, hzv⟩ := hT.info
  obtain ⟨hlen, hzip⟩ := idxOk_zip parts.toList 0 n hidx
  simp only [Nat.zero_add] at hlen
  have hleaf : ∀ p ∈ parts.toList, (ev env p.2).cells.all SV.leaf = true ∧ (ev env p.2).cells.length = (tt.at E).size := by
    intro p hp
    have := (List.all_eq_true.1 hall) p hp
    simp only [Bool.and_eq_true] at this
    exact ⟨this.1, Nat.eq_of_beq_eq_true this.2⟩
  have hpart : ∀ p ∈ parts.toList, (a.eval p.2).cells.size = (tt.at E).size := by
    intro p hp
    obtain ⟨h1, h2⟩ := hleaf p hp
    rw [((hx p.2).cells h1).1, h2]
  obtain ⟨vs', hfill, hvs⟩ := fill_seq (sz := (tt.at E).size) (parts.toList.map fun p => a.eval p.2) 0 ((Array.range (n * (tt.at E).size)).map (z.cells[· % z.cells.size]!)) (by rw [Array.size_map, Array.size_range, List.length_map, Nat.zero_add, hlen]) (by
    intro v hv
    obtain ⟨p, hp, rfl⟩ := List.mem_map.1 hv
    exact hpart p hp)
  simp only [Nat.zero_mul, List.take_zero, List.nil_append, List.flatMap_map] at hvs
  obtain ⟨f1, f2, f3⟩ := flat_cells (own := own) (F := F) (w := w) hx parts.toList fun p hp => (hleaf p hp).1
  obtain ⟨ss, σ1, own1, h1, r1, e1, l1, hls, hvs1⟩ := takL_sound r f1 f3 hs
  obtain ⟨hun, h2⟩ := bif_elim0 h1
  obtain ⟨ys, h3, h4, h5⟩ := partL_out r1 (by rw [f1, hls]) hvs1 h2
  rw [forceSto_iff] at h3
  have hssn : ss.length = n * (tt.at E).size := by
    rw [hls]
    have : ∀ (l : List (Nat × Operand)), (∀ p ∈ l, (ev env p.2).cells.length = (tt.at E).size) → (l.flatMap fun p => (ev env p.2).cells).length = l.length * (tt.at E).size := by
      intro l
      induction l with
      | nil => intro _; simp
      | cons v l ih => intro h; simp only [List.flatMap_cons, List.length_append, List.length_cons]; rw [ih fun u hu => h u (by simp [hu]), h v (by simp), Nat.add_mul]; omega
    rw [this _ fun p hp => (hleaf p hp).2, hlen]
  obtain ⟨A, hsup⟩ := Sup.parts r1 (n := n) hpos hssn h4 (by rw [f1, hls]) f2 hun h5
  have hvlen : vs'.size = n * (tt.at E).size := by rw [← Array.length_toList, hvs, f1, ← hls, hssn]
  have h48 : n ≤ 2 ^ 48 := by
    have : n * 1 ≤ n * (tt.at E).size := Nat.mul_le_mul_left _ hpos
    omega
  obtain ⟨own', r', e', ha⟩ := r1.gather hsup (E := E) (b := w.heap.size) (oo := 0) (cap := n) (arr := vs') hpos hn0 (by rw [els_len]; exact Nat.le_refl _) (by rw [els_len]; exact h48) (w' := w.alloc (.cells vs' E)) rfl rfl rfl (by simp) (fun i hi _ => Below.heap_alloc w _ i hi) (.inl (Nat.le_refl _)) (heap_alloc_new w _) (by omega)
    (fun t ht => by rw [Nat.zero_add, ← Array.getElem?_toList, hvs])
  refine wp_value (w' := w.alloc (.cells vs' E)) (mv := .slice (some ⟨w.heap.size, 0, none⟩) n n) ?_ (hn _ _ _ _ _ _ h3 (e1.trans (e'.mono l1)) r' (by simp [kills_len]; omega) ?_)
  · have hps : (parts.map fun (i, x) => (i, a.eval x)).toList = ((parts.toList.map fun p => a.eval p.2).zipIdx 0).map fun p => (p.2, p.1) := by
      rw [← hzip a.eval]; simp
    unfold execOp
    simp only [ho, Instr.buildSlice, Sem.run_bind, run_underlying (und_slice hTt hti), Result.andThen_ok, run_size hT w]
    rw [if_neg (by omega), if_neg (by have := Nat.mul_pos hn0 hpos; omega)]
    simp only [zeroValue, typeInfo, Sem.run_bind, run_program, Result.andThen_ok, hi, Sem.run_pure, hz]
    rw [hps, hfill]
    simp [newRow]
  · have := VS.ref (own := own') (F := F) (w := w.alloc (.cells vs' E)) σ1.length 0 [] 0 n _ _ _ _ _ ha (by rw [els_len]; omega) (by rw [els_len]; exact Nat.le_refl _) h48
    simpa using this

theorem op_makeSlice (ht : TabOk P tt) (hn : Next P o a own F w σ K next) (r : Rel own F w σ) {t E : TypeId} {l c : Operand} {kl kc : IntKind} {n m : Int} (ho : o.op = .makeSlice t l c) (hti : (tt.at t).ti = .slice E) (hl : VS own F w (.t (.int kl n)) (a.eval l)) (hc : VS own F w (.t (.int kc m)) (a.eval c))
    (hg : (tt.at E).ti.good = true) (hpos : 0 < (tt.at E).size) (hflat : (tt.at E).zero.all noNst = true) (h0 : 0 ≤ n) (hnm : n ≤ m) (hbytes : m * ((tt.at E).bytes : Int) ≤ 140737488355328) (h48 : m ≤ 281474976710656)
    (hs : K (.osl σ.length 0 n.toNat) (σ ++ [.row E (tt.at E).size (List.replicate n.toNat (mkEl (tt.at E).size (tt.at E).zero))])) : o.wp P a w next Q := by
  have hT := ht.at E hg
  obtain ⟨i, hi, hsz, hb, hz0, z, hz, hzs, hza, _, hzv⟩ := hT.info
  have hu := und_slice (ht.at t (by rw [hti]; rfl)) hti
  have hrun := run_make (P := P) w t E i z hu hi hz kl kc n m h0 hnm (by rw [hb, Int.mul_comm]; omega) (by omega)
  have hexec : (execOp a.eval o).run P w = .ok (.value (.slice (some ⟨w.heap.size, 0, none⟩) n.toNat m.toNat)) (w.alloc (.cells (madeCells z.cells (m.toNat * (tt.at E).size)) E)) := by
    unfold execOp
    rw [← hsz]
    simp only [ho, intV hl, intV hc, Sem.run_bind, hrun, Result.andThen_ok, Sem.run_pure]
  have hz1 : ∀ y ∈ (tt.at E).zero, y.cells = [y] := by
    intro y hy
    obtain ⟨j, hj⟩ := List.getElem?_of_mem hy
    have hjl : j < z.cells.size := by rw [hzs, ← hz0]; exact (List.getElem?_eq_some_iff.1 hj).1
    have h1 := hzv (fun _ => True) w j y _ hj (Array.getElem?_eq_getElem hjl)
    generalize z.cells[j] = v at h1
    obtain ⟨h1, h2⟩ := h1
    cases h1 <;> first | rfl | simp [Value.oneCell'] at h2
  have hcells := mkEl_cells hz0 hpos hz1
  have hvals : ∀ t, t < m.toNat * (tt.at E).size → (madeCells z.cells (m.toNat * (tt.at E).size))[t]? = z.cells[t % (tt.at E).size]? := by
    intro t ht
    have hlt : t % (tt.at E).size < z.cells.size := by rw [hzs]; exact Nat.mod_lt _ hpos
    simp only [madeCells, Array.getElem?_map, hzs]
    rw [Array.getElem?_range]
    simp only [ht, if_true, Option.map_some]
    rw [getElem!_pos z.cells _ hlt, Array.getElem?_eq_getElem hlt]
  have hsup : Sup own F w [] (tt.at E).size (fun _ _ _ => none) (List.replicate n.toNat (mkEl (tt.at E).size (tt.at E).zero)) ((madeCells z.cells (m.toNat * (tt.at E).size)).toList.take (n.toNat * (tt.at E).size)) := by
    have hle : n.toNat * (tt.at E).size ≤ m.toNat * (tt.at E).size := Nat.mul_le_mul_right _ (by omega)
    have hflat' : ∀ y ∈ (tt.at E).zero, y.nd? = none := fun y hy => noNst_nd.1 ((List.all_eq_true.1 hflat) y hy)
    refine ⟨fun x hx => by rw [(List.mem_replicate.1 hx).2, hcells, hz0], by rw [List.length_take, List.length_replicate, Array.length_toList, size_madeCells, Nat.min_eq_left hle], fun v hv => ?_, fun i x j y v hx hy hv => ?_, fun i j i' j' x x' y y' m m' b hx hy hn' => ?_⟩
    · have hv := List.take_subset _ _ hv
      obtain ⟨t, ht⟩ := List.getElem?_of_mem hv
      have htl : t < m.toNat * (tt.at E).size := by have := (List.getElem?_eq_some_iff.1 ht).1; simpa [size_madeCells] using this
      rw [Array.getElem?_toList, hvals t htl] at ht
      have hzl : t % (tt.at E).size < (tt.at E).zero.length := by rw [hz0]; exact Nat.mod_lt _ hpos
      exact (hzv F w _ _ v (List.getElem?_eq_getElem hzl) ht).2
    · have hxm := (List.mem_replicate.1 (List.mem_of_getElem? hx)).2
      rw [hxm, hcells] at hy
      have hj : j < (tt.at E).size := by rw [← hz0]; exact (List.getElem?_eq_some_iff.1 hy).1
      have hlt := (List.getElem?_eq_some_iff.1 hv).1
      rw [List.length_take, Array.length_toList, size_madeCells, Nat.min_eq_left hle] at hlt
      rw [List.getElem?_take, if_pos hlt, Array.getElem?_toList, hvals _ (by omega)] at hv
      rw [Nat.add_comm, Nat.add_mul_mod_self_right, Nat.mod_eq_of_lt hj] at hv
      exact .inl ⟨hflat' y (List.mem_of_getElem? hy), (hzv F w j y v hy hv).1⟩
    · have hxm := (List.mem_replicate.1 (List.mem_of_getElem? hx)).2
      rw [hxm, hcells] at hy
      rw [hflat' y (List.mem_of_getElem? hy)] at hn'
      exact nomatch hn'
  by_cases hm : m.toNat = 0
  · have hn0 : n.toNat = 0 := by omega
    rw [hn0] at hs
    have g := r.grow (w' := w.alloc (.cells (madeCells z.cells (m.toNat * (tt.at E).size)) E)) rfl rfl rfl (by simp) (fun i hi => Below.heap_alloc w _ i hi)
    obtain ⟨own', r', e', ha⟩ := g.1.gather0 [] E (tt.at E).size (some ⟨w.heap.size, 0, none⟩)
    rw [hn0, hm] at hexec
    rw [hm] at r' e' g
    exact wp_value hexec (hn _ _ _ _ _ _ (by simpa using hs) (g.2.trans e') (by simpa [kills] using r') (by simp) (.refE _ _ _ _ ha))
  · obtain ⟨own', r', e', ha⟩ := r.gather hsup (E := E) (b := w.heap.size) (oo := 0) (cap := m.toNat) (arr := madeCells z.cells (m.toNat * (tt.at E).size)) hpos (by omega) (by simp; omega) (by simp; omega) (w' := w.alloc (.cells (madeCells z.cells (m.toNat * (tt.at E).size)) E)) rfl rfl rfl (by simp) (fun i hi _ => Below.heap_alloc w _ i hi) (.inl (Nat.le_refl _)) (heap_alloc_new w _) (by simp [size_madeCells])
      (fun t ht => by
        have ht' : t < n.toNat * (tt.at E).size := by
          have := ht
          simp at this; omega
        rw [Nat.zero_add, List.getElem?_take, if_pos ht', Array.getElem?_toList])
    refine wp_value hexec (hn _ _ _ _ _ _ hs e' (by simpa [kills] using r') (by simp) ?_)
    have := VS.ref (own := own') (F := F) (w := w.alloc (.cells (madeCells z.cells (m.toNat * (tt.at E).size)) E)) σ.length 0 [] 0 n.toNat _ _ _ _ _ ha (by simp) (by simp; omega) (by omega)
    simpa using this

theorem loHi_out {lo : Option Operand} {K : Int → Prop} (hx : ∀ x, VS own F w (ev env x) (a.eval x)) (h : loHi env lo K) : ∃ l, K l ∧ ((lo.map a.eval = none ∧ l = 0) ∨ ∃ k, lo.map a.eval = some (.int k l)) := by
  cases lo with
  | none => exact ⟨0, h, .inl ⟨rfl, rfl⟩⟩
  | some x =>
    unfold loHi at h
    simp only at h
    have hv := hx x
    split at h
    · rename_i k n e
      rw [e] at hv
      exact ⟨n, h, .inr ⟨k, by simp [intV hv]⟩⟩
    · exact h.elim
theorem hiOf_out {hi : Option Operand} {len : Nat} {K : Int → Prop} (hx : ∀ x, VS own F w (ev env x) (a.eval x)) (h : hiOf env hi len K) : ∃ l, K l ∧ ((hi.map a.eval = none ∧ l = len) ∨ ∃ k, hi.map a.eval = some (.int k l)) := by
  cases hi with
  | none => exact ⟨len, h, .inl ⟨rfl, rfl⟩⟩
  | some x =>
    unfold hiOf at h
    simp only at h
    have hv := hx x
    split at h
    · rename_i k n e
      rw [e] at hv
      exact ⟨n, h, .inr ⟨k, by simp [intV hv]⟩⟩
    · exact h.elim

theorem run_bounds (isSlice : Bool) (len cap : Nat) {lo hi : Option Value} {l h : Int} (hlo : (lo = none ∧ l = 0) ∨ ∃ k, lo = some (.int k l)) (hhi : (hi = none ∧ h = len) ∨ ∃ k, hi = some (.int k h)) (h0 : 0 ≤ l) (h1 : l ≤ h) (h2 : h ≤ cap) :
    (Instr.sliceBounds isSlice len cap lo hi none).run P w = .ok (l.toNat, h.toNat, cap) w := by
  have eh : (h.toNat : Int) = h := Int.toNat_of_nonneg (by omega)
  have hh0 : 0 ≤ h := by omega
  rcases hlo with ⟨rfl, rfl⟩ | ⟨k, rfl⟩ <;> rcases hhi with ⟨rfl, rfl⟩ | ⟨k', rfl⟩ <;> simp [Instr.sliceBounds, Instr.sliceBound, asIntOf, *]

theorem run_slice_op (ht : TabOk P tt) {t E : TypeId} (hti : (tt.at t).ti = .slice E) (hg : (tt.at E).ti.good = true) (ad : Option Addr) (len cap : Nat) {lo hi : Option Value} {l h : Int} (hlo : (lo = none ∧ l = 0) ∨ ∃ k, lo = some (.int k l)) (hhi : (hi = none ∧ h = len) ∨ ∃ k, hi = some (.int k h)) (h0 : 0 ≤ l) (h1 : l ≤ h) (h2 : h ≤ cap) :
    (Instr.sliceAt t (.slice ad len cap) lo hi none).run P w = .ok (.slice (if cap = l.toNat then ad else ad.map (·.add (l.toNat * (tt.at E).size))) (h.toNat - l.toNat) (cap - l.toNat)) w := by
  have hu := und_slice (ht.at t (by rw [hti]; rfl)) hti
  simp [Instr.sliceAt, Instr.slice, run_underlying hu, run_bounds true len cap hlo hhi h0 h1 h2, run_size (ht.at E hg)]

theorem op_slice (ht : TabOk P tt) (hn : Next P o a own F w σ K next) (r : Rel own F w σ) {t : TypeId} {x : Operand} {lo hi : Option Operand} (ho : o.op = .slice t x lo hi none) (hx : ∀ x, VS own F w (ev env x) (a.eval x))
    (hs : loHi env lo fun l => match (generalizing := false) (tt.at t).ti, ev env x with
    | .slice E, .ref k e p off len => match nth σ k with
      | some (.nd ep nd) => Ob (e = ep p.length) ∧ nodeK nd p fun q => match q with
        | .row _ sz _ => bif Nat.beq sz (tt.at E).size && (tt.at E).ti.good then hiOf env hi len fun h => Ob (0 ≤ l ∧ l ≤ h ∧ h ≤ len) ∧ K (.ref k e p (off + l.toNat) (h - l).toNat) σ else False
        | .map .. => False
      | _ => False
    | .slice E, .t (.sl sz xs) => bif Nat.beq sz (tt.at E).size && (tt.at E).ti.good then hiOf env hi xs.length fun h => Ob (0 ≤ l ∧ l ≤ h ∧ h ≤ xs.length) ∧ exS xs l.toNat (h - l).toNat fun xs => K (.t (.sl sz xs)) σ else False
    | .slice E, .t .nsl => bif (tt.at E).ti.good then hiOf env hi 0 fun h => Ob (l = 0 ∧ h = 0) ∧ K (.t .nsl) σ else False
    | .slice E, .t .esl => bif (tt.at E).ti.good then hiOf env hi 0 fun h => Ob (l = 0 ∧ h = 0) ∧ K (.t .esl) σ else False
    | .str, .t (.str s) => hiOf env hi s.size fun h => Ob (0 ≤ l ∧ l ≤ h ∧ h ≤ s.size) ∧ K (.t (.str (subS s l.toNat h.toNat))) σ
    | _, _ => False) : o.wp P a w next Q := by
  have exec : ∀ {mv v : Value}, a.eval x = mv → (Instr.sliceAt t mv (lo.map a.eval) (hi.map a.eval) none).run P w = .ok v w → (execOp a.eval o).run P w = .ok (.value v) w := by
    intro mv v hm hr
    unfold execOp
    simp only [ho, hm, Option.map_none, Sem.run_bind, hr, Result.andThen_ok, Sem.run_pure]
  obtain ⟨l, hs, hlo⟩ := loHi_out hx hs
  have hv := hx x
  generalize hsx : ev env x = sx at hv hs
  generalize hmx : a.eval x = mx at hv
  split at hs
  · rename_i E k e p off len hti
    split at hs
    · rename_i ep nd hk
      obtain ⟨he, hs⟩ := hs
      have he := he.out
      obtain ⟨q, hp, hs⟩ := nodeK_out hs
      cases q with
      | map => exact hs.elim
      | row E2 sz xs =>
        obtain ⟨hb, hs⟩ := bif_elim0 hs
        simp only [Bool.and_eq_true] at hb
        have hsz := Nat.eq_of_beq_eq_true hb.1
        obtain ⟨h, hs, hhi⟩ := hiOf_out hx hs
        obtain ⟨h1, h2⟩ := hs
        obtain ⟨g0, g1, g2⟩ := h1.out
        obtain ⟨hT, hB, hep, hfr⟩ := nd_obj r hk
        cases hv with
        | refE _ _ _ ad ha =>
          have hl0 : l = 0 := by omega
          have hh0 : h = 0 := by omega
          subst hl0 hh0
          have := run_slice_op (P := P) (w := w) ht hti hb.2 ad 0 0 hlo hhi (by omega) (by omega) (by omega)
          refine op_pure hn r (exec hmx this) h2 ?_
          simp
          exact .refE _ _ _ ad ha
        | refZ _ _ _ _ ad ha =>
          have hl0 : l = 0 := by omega
          have hh0 : h = 0 := by omega
          subst hl0 hh0
          have := run_slice_op (P := P) (w := w) ht hti hb.2 ad 0 0 hlo hhi (by omega) (by omega) (by omega)
          refine op_pure hn r (exec hmx this) h2 ?_
          simp
          exact .refZ _ _ _ _ ad ha
        | ref _ _ _ _ _ b oo sz' cap m ha hl hm hnn =>
          have hs2 : sz' = sz := by
            have h' : (own k).cur ep p = some (.at b oo sz' cap m) := by rw [he] at ha; exact ha
            rcases hT.1 p _ hp with ⟨_, a, ha⟩ | ⟨b2, o2, cap2, vals2, ha, _⟩
            · rw [h'] at ha; exact nomatch ha
            · rw [h'] at ha; injection ha with ha; injection ha
          subst hs2
          have := run_slice_op (P := P) (w := w) ht hti hb.2 (some ⟨b, oo + off * sz', none⟩) len (cap - off) hlo hhi g0 g1 (by omega)
          refine op_pure hn r (exec hmx this) h2 ?_
          have hsub : (h - l).toNat = h.toNat - l.toNat := by omega
          rw [hsub]
          by_cases hc : cap - off = l.toNat
          · rw [if_pos hc]
            have hz : h.toNat - l.toNat = 0 := by omega
            rw [hz, hc, Nat.sub_self]
            by_cases hl0 : l.toNat = 0
            · rw [hl0, Nat.add_zero]
              have := VS.ref (own := own) (F := F) (w := w) k e p off 0 b oo sz' cap m ha (by omega) hm (by omega)
              rw [show cap - off = 0 by omega] at this
              exact this
            · exact .refZ _ _ _ _ _ (by omega)
          · rw [if_neg hc]
            have := VS.ref (own := own) (F := F) (w := w) k e p (off + l.toNat) (h.toNat - l.toNat) b oo sz' cap m ha (by omega) hm (by omega)
            rw [Nat.add_mul, ← Nat.add_assoc] at this
            simp only [Option.map_some, add_plain, ← hsz]
            rw [show cap - off - l.toNat = cap - (off + l.toNat) by omega]
            exact this
    · exact hs.elim
  · rename_i E sz xs hti
    obtain ⟨hb, hs⟩ := bif_elim0 hs
    simp only [Bool.and_eq_true] at hb
    have hsz := Nat.eq_of_beq_eq_true hb.1
    obtain ⟨h, hs, hhi⟩ := hiOf_out hx hs
    obtain ⟨h1, h2⟩ := hs
    obtain ⟨g0, g1, g2⟩ := h1.out
    have h2 := h2.out
    cases hv with
    | t _ _ hv =>
      have hsub : (h - l).toNat = h.toNat - l.toNat := by omega
      rw [hsub] at h2
      have hv0 := hv
      cases hv with
      | sl0 _ ad c =>
        simp at g2
        have hl0 : l = 0 := by omega
        have hh0 : h = 0 := by omega
        subst hl0 hh0
        have := run_slice_op (P := P) (w := w) ht hti hb.2 ad 0 c hlo hhi (by omega) (by omega) (by omega)
        refine op_pure hn r (exec hmx this) h2 ?_
        simp
        exact .t _ _ (.sl0 _ _ _)
      | sl _ _ b oo c vals hp hcc hnn =>
        have := run_slice_op (P := P) (w := w) ht hti hb.2 (some ⟨b, oo, none⟩) xs.length c hlo hhi g0 g1 (by omega)
        refine op_pure hn r (exec hmx this) h2 (.t _ _ ?_)
        by_cases hc : c = l.toNat
        · rw [if_pos hc]
          have hz : h.toNat - l.toNat = 0 := by omega
          rw [hz]
          simp
          exact .sl0 _ _ _
        · rw [if_neg hc]
          have := hv0.part (off := l.toNat) (len := h.toNat - l.toNat) rfl (by omega) hcc
          simp only [Option.map_some, add_plain, ← hsz]
          exact this
  · rename_i E hti
    obtain ⟨hb, hs⟩ := bif_elim0 hs
    obtain ⟨h, hs, hhi⟩ := hiOf_out hx hs
    obtain ⟨h1, h2⟩ := hs
    obtain ⟨rfl, rfl⟩ := h1.out
    cases hv with
    | t _ _ hv =>
      cases hv
      have := run_slice_op (P := P) (w := w) ht hti hb none 0 0 hlo hhi (by omega) (by omega) (by omega)
      exact op_pure hn r (exec hmx this) h2 (.t _ _ (by simpa using VT.nsl))
  · rename_i E hti
    obtain ⟨hb, hs⟩ := bif_elim0 hs
    obtain ⟨h, hs, hhi⟩ := hiOf_out hx hs
    obtain ⟨h1, h2⟩ := hs
    obtain ⟨rfl, rfl⟩ := h1.out
    cases hv with
    | t _ _ hv =>
      cases hv with
      | esl ad =>
        have := run_slice_op (P := P) (w := w) ht hti hb ad 0 0 hlo hhi (by omega) (by omega) (by omega)
        exact op_pure hn r (exec hmx this) h2 (.t _ _ (by simpa using VT.esl ad))
  · rename_i s hti
    obtain ⟨h, hs, hhi⟩ := hiOf_out hx hs
    obtain ⟨h1, h2⟩ := hs
    obtain ⟨g0, g1, g2⟩ := h1.out
    have hu := und_str (ht.at t (by rw [hti]; rfl)) hti
    cases hv with
    | t _ _ hv =>
      cases hv
      refine op_pure hn r (exec hmx (v := .string (s.extract l.toNat h.toNat)) ?_) h2 (.t _ _ ?_)
      · simp [Instr.sliceAt, Instr.slice, run_underlying hu, run_bounds false s.size s.size hlo hhi g0 g1 (by omega)]
      · unfold subS; exact .str _
  · exact hs.elim

theorem op_index (ht : TabOk P tt) (hn : Next P o a own F w σ K next) (r : Rel own F w σ) {t : TypeId} {x i : Operand} (ho : o.op = .index t x i) {sx si : SV} (hx : VS own F w sx (a.eval x)) (hi : VS own F w si (a.eval i))
    (hs : match (generalizing := false) (tt.at t).ti, sx, si with
    | .str, .t (.str s), .t (.int _ n) => Ob (0 ≤ n ∧ n < s.size) ∧ K (.t (.int .u8 (byteAt s n.toNat))) σ
    | _, _, _ => False) : o.wp P a w next Q := by
  split at hs
  · rename_i s kk n hti
    obtain ⟨h1, h2⟩ := hs
    obtain ⟨g0, g1⟩ := h1.out
    have hu := und_str (ht.at t (by rw [hti]; rfl)) hti
    have hxs : a.eval x = .string s := by
      generalize a.eval x = v at hx
      cases hx with
      | t _ _ h => cases h; rfl
    have hlt : n.toNat < s.size := by omega
    have hq : s[n.toNat]? = some s[n.toNat] := getElem?_pos s n.toNat hlt
    refine op_pure hn r (mv := .int .u8 (s[n.toNat]).toNat) ?_ h2 (.t _ _ ?_)
    · unfold execOp
      simp [ho, hxs, intV hi, Instr.index, asIntOf, run_underlying hu, g0, hq]
    · unfold byteAt
      rw [hq]
      exact .int _ _
  · exact hs.elim

theorem op_max (hn : Next P o a own F w σ K next) (r : Rel own F w σ) {x y : Operand} {k k' : IntKind} {n m : Int} {argTypes : Array TypeId} (ho : o.op = .call { callee := .builtin .max, args := #[x, y], argTypes }) (hx : VS own F w (.t (.int k n)) (a.eval x)) (hy : VS own F w (.t (.int k' m)) (a.eval y))
    (hs : K (.t (.int k (maxI n m))) σ) : o.wp P a w next Q := by
  refine op_pure hn r (mv := .int k (if m > n then m else n)) ?_ hs (.t _ _ ?_)
  · unfold execOp
    simp only [ho, resolve, Sem.run_bind, Sem.run_pure, Result.andThen_ok, invoke, builtin]
    have e : #[x, y].map a.eval = #[.int k n, .int k' m] := by simp [intV hx, intV hy]
    rw [e]
    simp [Builtin.max_, Builtin.max2]
  · unfold maxI; exact .int _ _
theorem op_min (hn : Next P o a own F w σ K next) (r : Rel own F w σ) {x y : Operand} {k k' : IntKind} {n m : Int} {argTypes : Array TypeId} (ho : o.op = .call { callee := .builtin .min, args := #[x, y], argTypes }) (hx : VS own F w (.t (.int k n)) (a.eval x)) (hy : VS own F w (.t (.int k' m)) (a.eval y))
    (hs : K (.t (.int k (minI n m))) σ) : o.wp P a w next Q := by
  refine op_pure hn r (mv := .int k (if m < n then m else n)) ?_ hs (.t _ _ ?_)
  · unfold execOp
    simp only [ho, resolve, Sem.run_bind, Sem.run_pure, Result.andThen_ok, invoke, builtin]
    have e : #[x, y].map a.eval = #[.int k n, .int k' m] := by simp [intV hx, intV hy]
    rw [e]
    simp [Builtin.min_, Builtin.min2]
  · unfold minI; exact .int _ _
end
end Go.Proofs.Ytihebfhhnoneiaa.Am
