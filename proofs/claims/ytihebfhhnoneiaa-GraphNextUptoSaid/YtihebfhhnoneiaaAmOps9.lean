/- Slices built out of their elements. -/
import Derived.Test.YtihebfhhnoneiaaAmOps8
namespace Go.Proofs.Ytihebfhhnoneiaa.Am
open Go.RowKit
set_option linter.unusedVariables false
set_option linter.unusedSimpArgs false

section
variable {P : Program} {tt : Tab} {own : Nat → Own} {F : Nat → Prop} {w : World} {σ : Sto} {env : Env} {a : Act} {N : Nat} {o : Oper}
variable {K : SV → Sto → Prop} {next : Act → World → Prop} {Q : Exit → Act → World → Prop}

theorem fold_set (off : Nat) : ∀ (l : List Value) (n : Nat) (vs : Array Value), off + n + l.length ≤ vs.size → ((l.zipIdx n).foldl (fun cs (c, j) => cs.setIfInBounds (off + j) c) vs).toList = vs.toList.take (off + n) ++ l ++ vs.toList.drop (off + n + l.length) := by
  intro l
  induction l with
  | nil => intro n vs _; simp
  | cons u l ih =>
    intro n vs hle
    simp only [List.zipIdx_cons, List.foldl_cons]
    rw [ih (n + 1) _ (by simp at hle ⊢; omega)]
    simp only [List.length_cons] at hle
    apply List.ext_getElem?
    intro j
    rw [splice_get _ l (off + (n + 1)) j (by simp; omega), show off + n + (u :: l).length = off + n + (u :: l).length from rfl, splice_get _ (u :: l) (off + n) j (by simp; omega)]
    simp only [Array.toList_setIfInBounds, List.getElem?_set, List.length_cons]
    by_cases ha : off + (n + 1) ≤ j ∧ j < off + (n + 1) + l.length
    · rw [if_pos ha, if_pos (by omega)]
      rw [show j - (off + n) = (j - (off + (n + 1))) + 1 by omega]
      simp
    · rw [if_neg ha]
      by_cases hb : off + n = j
      · subst hb
        rw [if_pos rfl, if_pos (by simp; omega), if_pos (by omega)]
        simp
      · rw [if_neg hb]
        rw [if_neg (by omega)]

theorem fill_seq {sz : Nat} : ∀ (l : List Value) (k : Nat) (cs : Array Value), cs.size = (k + l.length) * sz → (∀ v ∈ l, v.cells.size = sz) →
    ∃ vs', Instr.fill (fun i => some (i * sz, sz)) cs ((l.zipIdx k).map fun p => (p.2, p.1)) = some vs' ∧ vs'.toList = cs.toList.take (k * sz) ++ l.flatMap fun v => v.cells.toList
  | [], k, cs, hs, _ => ⟨cs, rfl, by simp at hs; simp; rw [List.take_of_length_le (by simp [hs])]⟩
  | v :: l, k, cs, hs, hv => by
    have hv0 := hv v (by simp)
    have hk : (k + 1) * sz ≤ cs.size := by rw [hs]; exact Nat.mul_le_mul_right _ (by simp)
    rw [Nat.add_mul, Nat.one_mul] at hk
    have hf := fold_set (k * sz) v.cells.toList 0 cs (by simp; omega)
    simp only [Nat.add_zero] at hf
    have hvs1 : ∃ vs1 : Array Value, (v.cells.zipIdx.foldl (fun cs (c, j) => cs.setIfInBounds (k * sz + j) c) cs) = vs1 ∧ vs1.toList = cs.toList.take (k * sz) ++ v.cells.toList ++ cs.toList.drop (k * sz + v.cells.toList.length) := by
      refine ⟨_, rfl, ?_⟩
      rw [← hf]
      rw [← Array.foldl_toList, Array.toList_zipIdx]
    obtain ⟨vs1, he1, hl1⟩ := hvs1
    have hsz1 : vs1.size = cs.size := by rw [← Array.length_toList, hl1]; simp; omega
    obtain ⟨vs', h1, h2⟩ := fill_seq l (k + 1) vs1 (by rw [hsz1, hs]; simp; congr 1; omega) fun u hu => hv u (by simp [hu])
    refine ⟨vs', ?_, ?_⟩
    · simp only [List.zipIdx_cons, List.map_cons, Instr.fill]
      rw [if_neg (by simp; omega)]
      rw [show v.cells.zipIdx.foldl (fun cs x => cs.setIfInBounds (k * sz + x.snd) x.fst) cs = vs1 from he1]
      exact h1
    · rw [h2, hl1]
      have e : (k + 1) * sz = k * sz + v.cells.toList.length := by rw [Nat.add_mul, Nat.one_mul]; simp [hv0]
      have hm : min (k * sz) cs.size = k * sz := Nat.min_eq_left (by omega)
      rw [e, List.take_append_of_le_length (by simp [hm]), List.take_of_length_le (by simp [hm])]
      simp

theorem flat_get {α : Type} {sz : Nat} {f : α → List Value} : ∀ (l : List α), (∀ v ∈ l, (f v).length = sz) → ∀ (i j : Nat) (v : α), l[i]? = some v → j < sz → (l.flatMap f)[i * sz + j]? = (f v)[j]?
  | [], _, i, j, v, h, _ => by simp at h
  | u :: l, hl, 0, j, v, h, hj => by
    simp at h; subst h
    simp only [List.flatMap_cons, Nat.zero_mul, Nat.zero_add]
    rw [List.getElem?_append_left (by rw [hl u (by simp)]; exact hj)]
  | u :: l, hl, i + 1, j, v, h, hj => by
    simp only [List.flatMap_cons]
    have h0 := hl u (by simp)
    rw [Nat.add_mul, Nat.one_mul, List.getElem?_append_right (by omega)]
    rw [show i * sz + sz + j - (f u).length = i * sz + j by omega]
    exact flat_get l (fun v hv => hl v (by simp [hv])) i j v (by simpa using h) hj

theorem idxOk_zip {α : Type} : ∀ (l : List (Nat × α)) (k n : Nat), idxOk k l n = true → k + l.length = n ∧ ∀ {β : Type} (g : α → β), l.map (fun p => (p.1, g p.2)) = ((l.map fun p => g p.2).zipIdx k).map fun p => (p.2, p.1)
  | [], k, n, h => by simp [idxOk] at h; exact ⟨h, fun _ => rfl⟩
  | p :: l, k, n, h => by
    simp only [idxOk, Bool.and_eq_true] at h
    obtain ⟨h1, h2⟩ := h
    have h1 := Nat.eq_of_beq_eq_true h1
    obtain ⟨h3, h4⟩ := idxOk_zip l (k + 1) n h2
    refine ⟨by simp; omega, fun g => ?_⟩
    simp only [List.map_cons, List.zipIdx_cons, h4 g, h1]

theorem Rel.grow {w' : World} (r : Rel own F w σ) (os : w'.os = w.os) (tape : w'.tape = w.tape) (output : w'.output = w.output) (sz : w.heap.size ≤ w'.heap.size) (hh : ∀ i, i < w.heap.size → w'.heap[i]? = w.heap[i]?) :
    Rel own F w' σ ∧ Ext σ.length own F w own F w' := by
  have e : Ext σ.length own F w own F w' := ⟨os, tape, output, sz, fun i hi _ => hh i hi, fun _ h => h, fun _ h => .inl h, fun _ h => .inl h, fun _ _ => .inl rfl⟩
  exact ⟨⟨r.unb, r.inj, r.sep, fun b hb => Nat.lt_of_lt_of_le (r.Fb b hb) sz, fun b hb => Nat.lt_of_lt_of_le (r.lb b hb) sz,
    fun k o hk => (r.obj k o hk).ext r e rfl fun b c s m h hp => hh b (r.lb b ⟨k, c, s, m, h, hp⟩)⟩, e⟩

theorem op_buildSlice0 (ht : TabOk P tt) (hn : Next P o a own F w σ K next) (r : Rel own F w σ) {t : TypeId} {parts : Array (Nat × Operand)} {E : TypeId} (ho : o.op = .buildSlice t 0 parts) (hti : (tt.at t).ti = .slice E)
    (hg : (tt.at E).ti.good = true) (hp : parts.toList.isEmpty = true) (hs : K (.t .esl) σ) : o.wp P a w next Q := by
  have hTt := ht.at t (by rw [hti]; rfl)
  have hT := ht.at E hg
  have hpe : parts = #[] := by simpa using hp
  subst hpe
  have g := r.grow (w' := w.alloc (.cells #[] E)) rfl rfl rfl (by simp) (fun i hi => Below.heap_alloc w _ i hi)
  refine wp_value (w' := w.alloc (.cells #[] E)) (mv := .slice (some ⟨w.heap.size, 0, none⟩) 0 0) ?_ (hn _ _ _ _ _ _ hs g.2 g.1 (Nat.le_refl _) (.t _ _ (.esl _)))
  unfold execOp
  simp only [ho, Instr.buildSlice, Sem.run_bind, run_underlying (und_slice hTt hti), Result.andThen_ok, run_size hT w]
  simp [newRow, Instr.fill, show Array.range 0 = #[] from rfl]
theorem op_buildSlice (ht : TabOk P tt) (hn : Next P o a own F w σ K next) (r : Rel own F w σ) {t : TypeId} {n : Nat} {parts : Array (Nat × Operand)} {E : TypeId} (ho : o.op = .buildSlice t n parts) (hti : (tt.at t).ti = .slice E)
    (hx : ∀ x, VS own F w (ev env x) (a.eval x)) {ts : List T}
    (hg : (tt.at E).ti.good = true) (hpos : 0 < (tt.at E).size) (hn0 : 0 < n) (hbig : n * (tt.at E).size ≤ 16777216) (hidx : idxOk 0 parts.toList n = true)
    (hall : (parts.toList.all fun p => (ev env p.2).cells.all SV.leaf && Nat.beq (ev env p.2).cells.length (tt.at E).size) = true)
    (hfr : frzL σ (parts.toList.map fun p => ev env p.2) = some ts)
    (hs : K (.osl σ.length 0 n) (kills ((parts.toList.map fun p => ev env p.2).flatMap (ids 20 σ)) σ ++ [.row E (tt.at E).size ts])) : o.wp P a w next Q := by
  have hTt := ht.at t (by rw [hti]; rfl)
  have hT := ht.at E hg
  obtain ⟨i, hi, hsz, hb, hz0, z, hz, hzs, hza, _, hzv⟩ := hT.info
  obtain ⟨hlen, hzip⟩ := idxOk_zip parts.toList 0 n hidx
  simp only [Nat.zero_add] at hlen
  generalize hL : ((parts.toList.map fun p => ev env p.2).flatMap (ids 20 σ)) = L at hs
  obtain ⟨r0, e0⟩ := r.kill L
  have hpart : ∀ p ∈ parts.toList, (a.eval p.2).cells.size = (tt.at E).size ∧ ∀ u ∈ (a.eval p.2).cells.toList, u.oneCell' = true := by
    intro p hp
    have := (List.all_eq_true.1 hall) p hp
    simp only [Bool.and_eq_true] at this
    obtain ⟨c1, c2, _⟩ := (hx p.2).cells this.1
    exact ⟨by rw [c1]; exact Nat.eq_of_beq_eq_true this.2, c2⟩
  obtain ⟨vs', hfill, hvs⟩ := fill_seq (sz := (tt.at E).size) (parts.toList.map fun p => a.eval p.2) 0 ((Array.range (n * (tt.at E).size)).map (z.cells[· % z.cells.size]!)) (by rw [Array.size_map, Array.size_range, List.length_map, Nat.zero_add, hlen]) (by
    intro v hv
    obtain ⟨p, hp, rfl⟩ := List.mem_map.1 hv
    exact (hpart p hp).1)
  simp only [Nat.zero_mul, List.take_zero, List.nil_append] at hvs
  have hvlen : vs'.size = n * (tt.at E).size := by
    rw [← Array.length_toList, hvs]
    have : ∀ (l : List Value), (∀ v ∈ l, v.cells.size = (tt.at E).size) → (l.flatMap fun v => v.cells.toList).length = l.length * (tt.at E).size := by
      intro l
      induction l with
      | nil => intro _; simp
      | cons v l ih => intro h; simp only [List.flatMap_cons, List.length_append, List.length_cons, Array.length_toList]; rw [ih fun u hu => h u (by simp [hu]), h v (by simp), Nat.add_mul]; omega
    rw [this _ fun v hv => by obtain ⟨p, hp, rfl⟩ := List.mem_map.1 hv; exact (hpart p hp).1]
    rw [List.length_map, hlen]
  have htsl : ts.length = n := by rw [mapO_len hfr]; simpa using hlen
  have hfz : ∀ (k : Nat) (x : T), ts[k]? = some x → ∃ p, parts.toList[k]? = some p ∧ VT (Fk own F L) w x (a.eval p.2) ∧ x.cells.length = (tt.at E).size ∧ (SV.t x).cells.all SV.leaf = true := by
    intro k x hk
    obtain ⟨y, hy, hf⟩ := mapO_get hfr k x hk
    rw [List.getElem?_map] at hy
    cases hp : parts.toList[k]? with
    | none => rw [hp] at hy; simp at hy
    | some p =>
      rw [hp] at hy
      simp at hy
      subst hy
      have hpm := List.mem_of_getElem? hp
      have hal := (List.all_eq_true.1 hall) p hpm
      simp only [Bool.and_eq_true] at hal
      have hv := (frz_VT r 20 (hx p.2) hf).sub (F' := Fk own F L) fun b hb => hb.mono fun j hj => by
        rw [← hL]; exact List.mem_flatMap.2 ⟨_, List.mem_map.2 ⟨p, hpm, rfl⟩, hj⟩
      have hlf := frz_cells hal.1 hf
      refine ⟨p, rfl, hv, ?_, hlf⟩
      obtain ⟨c1, _, _⟩ := (VS.t (own := own) (F := Fk own F L) (w := w) _ _ hv).cells hlf
      rw [tcells] at c1
      simp at c1
      rw [← c1]
      exact (hpart p hpm).1
  have h48 : n ≤ 2 ^ 48 := by
    have : n * 1 ≤ n * (tt.at E).size := Nat.mul_le_mul_left _ hpos
    omega
  have hp := r0.push w.heap.size n (tt.at E).size n (.inl (Nat.le_refl _)) (fun _ => by simp) (w' := w.alloc (.cells vs' E)) rfl rfl rfl (by simp) (fun i hi => Below.heap_alloc w _ i hi) (.row E (tt.at E).size ts)
    (fun own' h1 h2 e => .inr ⟨w.heap.size, n, vs', by rw [htsl], hpos, heap_alloc_new w _, hvlen, by omega, by omega, fun x hx => by
        obtain ⟨k, hk⟩ := List.getElem?_of_mem hx
        obtain ⟨_, _, _, h, _⟩ := hfz k x hk
        exact h, fun k x j c v hk hj hv => by
        obtain ⟨p, hp, hvt, hcl, hlf⟩ := hfz k x hk
        have hjl : j < (tt.at E).size := by rw [← hcl]; exact (List.getElem?_eq_some_iff.1 hj).1
        rw [← Array.getElem?_toList, hvs, flat_get (sz := (tt.at E).size) (parts.toList.map fun p => a.eval p.2) (fun v hv => by obtain ⟨p, hp, rfl⟩ := List.mem_map.1 hv; simpa using (hpart p hp).1) k j (a.eval p.2) (by rw [List.getElem?_map, hp]; rfl) hjl] at hv
        obtain ⟨_, _, c3⟩ := (VS.t (own := own) (F := Fk own F L) (w := w) _ _ hvt).cells hlf
        have := c3 j (.t c) v (by rw [tcells, List.getElem?_map, hj]; rfl) (by simpa using hv)
        cases this with
        | t _ _ h => exact h.ext e r0.sep, fun j hj => by
        rw [htsl] at hj
        have hjv : j < vs'.size := by omega
        have hmem : vs'.getD j undef ∈ vs'.toList := by
          simp only [Array.getD_eq_getD_getElem?, Array.getElem?_eq_getElem hjv, Option.getD_some]
          exact Array.getElem_mem_toList hjv
        rw [hvs] at hmem
        obtain ⟨v, hv1, hv2⟩ := List.mem_flatMap.1 hmem
        obtain ⟨p, hp, rfl⟩ := List.mem_map.1 hv1
        exact (hpart p hp).2 _ hv2⟩)
  have hkl := kills_len L σ
  refine wp_value (w' := w.alloc (.cells vs' E)) (mv := .slice (some ⟨w.heap.size, 0, none⟩) n n) ?_ (hn _ _ _ _ _ _ hs (e0.trans (hp.2.mono (by omega))) hp.1 (by simp; omega) ?_)
  · have hps : (parts.map fun (i, x) => (i, a.eval x)).toList = ((parts.toList.map fun p => a.eval p.2).zipIdx 0).map fun p => (p.2, p.1) := by
      rw [← hzip a.eval]; simp
    unfold execOp
    simp only [ho, Instr.buildSlice, Sem.run_bind, run_underlying (und_slice hTt hti), Result.andThen_ok, run_size hT w]
    rw [if_neg (by omega), if_neg (by have := Nat.mul_pos hn0 hpos; omega)]
    simp only [zeroValue, typeInfo, Sem.run_bind, run_program, Result.andThen_ok, hi, Sem.run_pure, hz]
    rw [hps, hfill]
    simp [newRow]
  · have hat : ownAt (ownK own L) (kills L σ).length (.live w.heap.size n (tt.at E).size n) σ.length = .live w.heap.size n (tt.at E).size n := by unfold ownAt; rw [hkl, if_pos rfl]
    have := VS.osl (F := Fk own F L) (w := w.alloc (.cells vs' E)) σ.length 0 n _ _ _ _ hat (by omega) (by omega) h48
    simpa using this
end
end Go.Proofs.Ytihebfhhnoneiaa.Am
