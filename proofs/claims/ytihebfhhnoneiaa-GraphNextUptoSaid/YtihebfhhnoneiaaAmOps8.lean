/- append. -/
import Derived.Test.YtihebfhhnoneiaaAmOps7
namespace Go.Proofs.Ytihebfhhnoneiaa.Am
open Go.RowKit
set_option linter.unusedVariables false
set_option linter.unusedSimpArgs false

section
variable {P : Program} {tt : Tab} {own : Nat → Own} {F : Nat → Prop} {w : World} {σ : Sto} {env : Env} {a : Act} {N : Nat} {o : Oper}
variable {K : SV → Sto → Prop} {next : Act → World → Prop} {Q : Exit → Act → World → Prop}

def ownD (own : Nat → Own) (k : Nat) : Nat → Own := fun j => if j = k then .dead else own j

/-- An object let go: nobody's. -/
theorem Rel.drop (r : Rel own F w σ) {k : Nat} (hk : k < σ.length) : Rel (ownD own k) F w (σ.set k .dead) ∧ Ext σ.length own F w (ownD own k) F w := by
  have e : Ext σ.length own F w (ownD own k) F w := by
    refine ⟨rfl, rfl, rfl, Nat.le_refl _, fun _ _ _ => rfl, fun _ h => h, fun _ h => .inl h, ?_, ?_⟩
    · rintro b ⟨j, c, s, m, h1, h2⟩
      unfold ownD at h1
      split at h1
      · exact nomatch h1
      · exact .inl ⟨j, c, s, m, h1, h2⟩
    · intro j _
      unfold ownD
      split
      · exact .inr rfl
      · exact .inl rfl
  refine ⟨⟨?_, ?_, ?_, r.Fb, ?_, ?_⟩, e⟩
  · intro j hj
    simp at hj
    unfold ownD
    rw [if_neg (by omega)]
    exact r.unb j hj
  · intro i j b c s m c' s' m' h1 h2 h3 h4
    unfold ownD at h1 h3
    split at h1
    · exact nomatch h1
    · split at h3
      · exact nomatch h3
      · exact r.inj i j b c s m c' s' m' h1 h2 h3 h4
  · intro b hb
    rcases e.on b hb with h | h
    · exact r.sep b h
    · intro hF; have := r.Fb b hF; omega
  · intro b hb
    rcases e.on b hb with h | h
    · exact r.lb b h
    · obtain ⟨j, c, s, m, h1, h2⟩ := hb
      unfold ownD at h1
      split at h1
      · exact nomatch h1
      · exact r.lb b ⟨j, c, s, m, h1, h2⟩
  · intro j o hj
    rw [List.getElem?_set] at hj
    by_cases hjk : k = j
    · subst hjk
      rw [if_pos rfl, if_pos hk] at hj
      injection hj with hj
      subst hj
      trivial
    · rw [if_neg hjk] at hj
      refine (r.obj j o hj).ext r e ?_ fun _ _ _ _ _ _ => rfl
      unfold ownD
      rw [if_neg (fun e => hjk e.symm)]

/-- An object that goes on under a new number, in its block. -/
theorem Rel.renew {w' : World} (r : Rel own F w σ) {k b c s m : Nat} (m' : Nat) (hk : own k = .live b c s m) (hp : 0 < s + c)
    (os : w'.os = w.os) (tape : w'.tape = w.tape) (output : w'.output = w.output) (sz : w'.heap.size = w.heap.size) (hh : ∀ i, i ≠ b → w'.heap[i]? = w.heap[i]?)
    (o : SObj) (ho : ∀ own', Ext σ.length own F w own' F w' → OR own' F w' (.live b c s m') o) :
    Rel (ownAt (ownD own k) σ.length (.live b c s m')) F w' (σ.set k .dead ++ [o]) ∧ Ext σ.length own F w (ownAt (ownD own k) σ.length (.live b c s m')) F w' := by
  have hkl := r.id_lt hk
  have hown : ∀ j, ownAt (ownD own k) σ.length (.live b c s m') j = if j = σ.length then .live b c s m' else if j = k then .dead else own j := fun j => rfl
  have e : Ext σ.length own F w (ownAt (ownD own k) σ.length (.live b c s m')) F w' := by
    refine ⟨os, tape, output, by omega, ?_, fun _ h => h, fun _ h => .inl h, ?_, ?_⟩
    · intro i hi hl
      exact hh i (fun e => hl (e ▸ ⟨k, c, s, m, hk, hp⟩))
    · rintro x ⟨j, c1, s1, m1, h1, h2⟩
      rw [hown] at h1
      split at h1
      · injection h1 with e1 e2 e3 e4
        subst e1
        exact .inl ⟨k, c, s, m, hk, hp⟩
      · split at h1
        · exact nomatch h1
        · exact .inl ⟨j, c1, s1, m1, h1, h2⟩
    · intro j hj
      rw [hown, if_neg (by omega)]
      split
      · exact .inr rfl
      · exact .inl rfl
  refine ⟨⟨?_, ?_, ?_, ?_, ?_, ?_⟩, e⟩
  · intro j hj
    simp at hj
    rw [hown, if_neg (by omega), if_neg (by omega)]
    exact r.unb j (by omega)
  · intro i j x c1 s1 m1 c2 s2 m2 h1 h2 h3 h4
    rw [hown] at h1 h3
    split at h1
    · rename_i hi
      injection h1 with e1 e2 e3 e4
      subst e1
      split at h3
      · omega
      · split at h3
        · exact nomatch h3
        · rename_i h5 h6
          exact absurd (r.inj j k b c2 s2 m2 c s m h3 h4 hk hp) h6
    · split at h1
      · exact nomatch h1
      · rename_i h5 h6
        split at h3
        · injection h3 with e1 e2 e3 e4
          subst e1
          exact absurd (r.inj i k b c1 s1 m1 c s m h1 h2 hk hp) h6
        · split at h3
          · exact nomatch h3
          · exact r.inj i j x c1 s1 m1 c2 s2 m2 h1 h2 h3 h4
  · intro x hx
    rcases e.on x hx with h | h
    · exact r.sep x h
    · intro hF; have := r.Fb x hF; omega
  · intro x hx; have := r.Fb x hx; omega
  · intro x hx
    obtain ⟨j, c1, s1, m1, h1, h2⟩ := hx
    rw [hown] at h1
    split at h1
    · injection h1 with e1 e2 e3 e4
      subst e1
      have := r.lb b ⟨k, c, s, m, hk, hp⟩; omega
    · split at h1
      · exact nomatch h1
      · have := r.lb x ⟨j, c1, s1, m1, h1, h2⟩; omega
  · intro j o' hj
    rcases Nat.lt_or_ge j σ.length with h | h
    · rw [List.getElem?_append_left (by simpa using h), List.getElem?_set] at hj
      by_cases hjk : k = j
      · subst hjk
        rw [if_pos rfl, if_pos hkl] at hj
        injection hj with hj
        subst hj
        trivial
      · rw [if_neg hjk] at hj
        have hoj : ownAt (ownD own k) σ.length (.live b c s m') j = own j := by
          rw [hown, if_neg (by omega), if_neg (fun e => hjk e.symm)]
        refine (r.obj j o' hj).ext r e hoj ?_
        intro b' c1 s1 m1 h1 h2
        refine hh b' (fun e => ?_)
        subst e
        exact hjk (r.inj k j b' c s m c1 s1 m1 hk hp h1 h2)
    · rw [List.getElem?_append_right (by simpa using h)] at hj
      have hj0 : j = σ.length := by
        rcases Nat.eq_or_lt_of_le h with h1 | h1
        · exact h1.symm
        · obtain ⟨d, hd⟩ : ∃ d, j - (σ.set k .dead).length = d + 1 := ⟨j - σ.length - 1, by simp; omega⟩
          rw [hd] at hj; simp at hj
      subst hj0
      simp at hj
      subst hj
      rw [hown, if_pos rfl]
      exact ho _ e

/-- What is appended, as the machine reads it. -/
theorem src_read (r : Rel own F w σ) {y : SV} {vy : Value} {ys : List T} {esz : Nat} (hy : VS own F w y vy) (hsrc : srcOf esz σ y = some ys) :
    ∃ (ad : Option Addr) (c : Nat) (news : List Value), vy = .slice ad ys.length c ∧ news.length = ys.length * esz ∧ (∀ x ∈ ys, x.cells.length = esz) ∧ (∀ v ∈ news, v.oneCell' = true) ∧ (ys ≠ [] → ∃ p, ad = some p ∧ ∀ j v, news[j]? = some v → w.cell? (p.add j) = some v) ∧
      ∀ (i : Nat) (x : T) (j : Nat) (c : T) (v : Value), ys[i]? = some x → x.cells[j]? = some c → news[i * esz + j]? = some v → VT F w c v := by
  have nil : ∀ (ad : Option Addr) (c : Nat), ∃ (ad' : Option Addr) (c' : Nat) (news : List Value), Value.slice ad 0 c = .slice ad' ([] : List T).length c' ∧ news.length = ([] : List T).length * esz ∧ (∀ x ∈ ([] : List T), x.cells.length = esz) ∧ (∀ v ∈ news, v.oneCell' = true) ∧ (([] : List T) ≠ [] → ∃ p, ad' = some p ∧ ∀ j v, news[j]? = some v → w.cell? (p.add j) = some v) ∧
      ∀ (i : Nat) (x : T) (j : Nat) (c : T) (v : Value), ([] : List T)[i]? = some x → x.cells[j]? = some c → news[i * esz + j]? = some v → VT F w c v :=
    fun ad c => ⟨ad, c, [], rfl, by simp, by simp, by simp, fun h => absurd rfl h, by simp⟩
  unfold srcOf at hsrc
  split at hsrc
  · rename_i sz zs
    cases hb : Nat.beq sz esz with
    | false => rw [hb] at hsrc; simp at hsrc
    | true =>
      rw [hb] at hsrc
      simp at hsrc
      subst hsrc
      have := Nat.eq_of_beq_eq_true hb
      subst this
      cases hy with
      | t _ _ hv =>
        cases hv with
        | sl0 _ ad c => exact nil ad c
        | sl _ _ b off c vals hp hc hn hF hz hcell h1c h =>
          refine ⟨some ⟨b, off, none⟩, c, (List.range (zs.length * sz)).map vals, rfl, by simp, hz, ?_, fun _ => ⟨_, rfl, ?_⟩, ?_⟩
          · intro v hv
            obtain ⟨j, hj, rfl⟩ := List.mem_map.1 hv
            exact h1c j (by simpa using hj)
          · intro j v hj
            rw [add_plain]
            have hlt : j < zs.length * sz := by
              have := (List.getElem?_eq_some_iff.1 hj).1
              simpa using this
            simp [hlt] at hj
            subst hj
            exact hcell j hlt
          · intro i x j c v hx hc hv
            have hlt : i * sz + j < zs.length * sz := by
              have := (List.getElem?_eq_some_iff.1 hv).1
              simpa using this
            simp [hlt] at hv
            subst hv
            exact h i x j c hx hc
  · simp at hsrc
    subst hsrc
    cases hy with
    | t _ _ hv => cases hv; exact nil _ _
  · simp at hsrc
    subst hsrc
    cases hy with
    | t _ _ hv => cases hv; exact nil _ _
  · rename_i k off len
    split at hsrc
    · rename_i E sz ts hk
      cases hb : Nat.beq sz esz with
      | false => rw [hb] at hsrc; simp at hsrc
      | true =>
        rw [hb] at hsrc
        simp at hsrc
        subst hsrc
        have := Nat.eq_of_beq_eq_true hb
        subst this
        rcases osl_row r hk hy with ⟨_, h0, h1, h2, ad, hmv⟩ | ⟨b, cap, vals, ho1, hmv, hle, hsz0, hh, hvs, hcap, h48, hcl, hts, hone⟩
        · subst h0 h1 h2 hmv
          exact nil ad 0
        · have hlen : ((ts.drop off).take len).length = len := by simp; omega
          have hbound : (off + len) * sz ≤ cap * sz := Nat.mul_le_mul_right _ (by omega)
          rw [Nat.add_mul] at hbound
          refine ⟨some ⟨b, off * sz, none⟩, cap - off, (List.range (len * sz)).map fun j => vals.getD (off * sz + j) undef, by rw [hlen]; exact hmv, by rw [hlen]; simp, fun x hx => hcl x (List.drop_subset _ _ (List.take_subset _ _ hx)), ?_, fun _ => ⟨_, rfl, ?_⟩, ?_⟩
          · intro v hv
            obtain ⟨j, hj, rfl⟩ := List.mem_map.1 hv
            refine hone _ ?_
            have hle2 : (off + len) * sz ≤ ts.length * sz := Nat.mul_le_mul_right _ (by omega)
            rw [Nat.add_mul] at hle2
            simp at hj
            omega
          · intro j v hj
            rw [add_plain]
            have hlt : j < len * sz := by
              have := (List.getElem?_eq_some_iff.1 hj).1
              simpa using this
            simp [hlt] at hj
            subst hj
            have := cell_of (w := w) hh (j := off * sz + j) (by omega)
            rw [this]
            simp [Array.getD_eq_getD_getElem?]
          · intro i x j c v hx hc hv
            have hlt : i * sz + j < len * sz := by
              have := (List.getElem?_eq_some_iff.1 hv).1
              simpa using this
            have hi : i < len := by
              have := (List.getElem?_eq_some_iff.1 hx).1
              rw [hlen] at this; exact this
            simp [hlt] at hv
            subst hv
            simp [hi] at hx
            refine hts (off + i) x j c _ hx hc ?_
            have e : (off + i) * sz + j = off * sz + (i * sz + j) := by rw [Nat.add_mul]; omega
            rw [e, Array.getElem?_eq_getElem (show off * sz + (i * sz + j) < vals.size by omega)]
            simp [Array.getD_eq_getD_getElem?, Array.getElem?_eq_getElem (show off * sz + (i * sz + j) < vals.size by omega)]
    · simp at hsrc
  · simp at hsrc

/-- A row made of what was there and what is appended. -/
theorem row_of {esz : Nat} {ts ys : List T} {olds news : List Value} {rest : List Value} {F : Nat → Prop} {w : World} (h1 : ∀ x ∈ ts, x.cells.length = esz) (h2 : ∀ x ∈ ys, x.cells.length = esz) (l1 : olds.length = ts.length * esz) (l2 : news.length = ys.length * esz)
    (v1 : ∀ (i : Nat) (x : T) (j : Nat) (c : T) (v : Value), ts[i]? = some x → x.cells[j]? = some c → olds[i * esz + j]? = some v → VT F w c v)
    (v2 : ∀ (i : Nat) (x : T) (j : Nat) (c : T) (v : Value), ys[i]? = some x → x.cells[j]? = some c → news[i * esz + j]? = some v → VT F w c v) :
    ∀ (i : Nat) (x : T) (j : Nat) (c : T) (v : Value), (ts ++ ys)[i]? = some x → x.cells[j]? = some c → (olds ++ news ++ rest)[i * esz + j]? = some v → VT F w c v := by
  intro i x j c v hx hc hv
  have hxm : x ∈ ts ++ ys := List.mem_of_getElem? hx
  have hj : j < esz := by
    have h9 := (List.getElem?_eq_some_iff.1 hc).1
    rcases List.mem_append.1 hxm with h | h
    · rw [h1 x h] at h9; exact h9
    · rw [h2 x h] at h9; exact h9
  rcases Nat.lt_or_ge i ts.length with hi | hi
  · rw [List.getElem?_append_left hi] at hx
    have hle : (i + 1) * esz ≤ ts.length * esz := Nat.mul_le_mul_right _ (by omega)
    rw [Nat.add_mul, Nat.one_mul] at hle
    rw [List.append_assoc, List.getElem?_append_left (by omega)] at hv
    exact v1 i x j c v hx hc hv
  · rw [List.getElem?_append_right hi] at hx
    have hi2 : i - ts.length < ys.length := (List.getElem?_eq_some_iff.1 hx).1
    have hle : (i - ts.length + 1) * esz ≤ ys.length * esz := Nat.mul_le_mul_right _ (by omega)
    rw [Nat.add_mul, Nat.one_mul] at hle
    have e : i * esz = ts.length * esz + (i - ts.length) * esz := by rw [← Nat.add_mul]; congr 1; omega
    rw [List.append_assoc, List.getElem?_append_right (by omega), List.getElem?_append_left (by omega)] at hv
    refine v2 _ x j c v hx hc ?_
    rw [← hv]; congr 1; omega

theorem run_firstCells (w : World) (esz n : Nat) (ad : Option Addr) (l c : Nat) (news : List Value) (hl : news.length = n * esz) (h : news ≠ [] → ∃ p, ad = some p ∧ ∀ j v, news[j]? = some v → w.cell? (p.add j) = some v) :
    (Builtin.firstCells esz n (.slice ad l c)).run P w = .ok news.toArray w := by
  cases hn : news with
  | nil =>
    rw [hn] at hl
    have h0 : n * esz = 0 := hl.symm
    cases ad with
    | none => simp [Builtin.firstCells]
    | some p =>
      simp [Builtin.firstCells, h0, loadCells, loadCellsFrom]
  | cons v vs =>
    obtain ⟨p, hp, hc⟩ := h (by rw [hn]; simp)
    subst hp
    rw [← hn]
    exact run_firstCells_some w esz n p l c news hl hc

theorem run_append_grow' (ht : TabOk P tt) {t u ty E E' : TypeId} (htt : (tt.at t).ti = .slice E) (htu : (tt.at u).ti = .slice E') (hg : (tt.at E).ti.good = true) (w : World) (base : Option Addr) (sLen sCap : Nat) (olds : List Value) (hlo : olds.length = sLen * (tt.at E).size)
    (ho : olds ≠ [] → ∃ p, base = some p ∧ ∀ j v, olds[j]? = some v → w.cell? (p.add j) = some v) (ad : Option Addr) (n c : Nat) (news : List Value) (hln : news.length = n * (tt.at E).size)
    (hn : news ≠ [] → ∃ p, ad = some p ∧ ∀ j v, news[j]? = some v → w.cell? (p.add j) = some v) (hgr : sCap < sLen + n) (h48 : sLen + n ≤ 2 ^ 48) (hb : (sLen + n) * (tt.at E).bytes ≤ 2 ^ 47) :
    ∃ (cap : Nat) (rest : List Value), sLen + n ≤ cap ∧ (olds ++ news ++ rest).length = cap * (tt.at E).size ∧ (Builtin.append_ #[t, u] ty #[.slice base sLen sCap, .slice ad n c]).run P w =
      .ok (.slice (some ⟨w.heap.size, 0, none⟩) (sLen + n) cap) (w.drew.alloc (.cells (olds ++ news ++ rest).toArray E)) := by
  have hu := und_slice (ht.at t (by rw [htt]; rfl)) htt
  have huu := und_slice (ht.at u (by rw [htu]; rfl)) htu
  obtain ⟨i, hi, hs, hby, hz0, z, hz, hzs, _⟩ := (ht.at E hg).info
  have fo := run_firstCells (P := P) w.drew (tt.at E).size sLen base sLen sCap olds hlo ho
  have fn := run_firstCells (P := P) w.drew (tt.at E).size n ad n c news hln hn
  rw [← hs] at fo fn
  have hfit := growslice_fits hgr (bytes := i.bytes) (by rw [hby]; omega)
  have h1 : ¬ (sLen + n ≤ sCap) := by omega
  have h63 : ¬ (((sLen + n : Nat) : Int) > IntKind.i64.max) := by
    have : IntKind.i64.max = 9223372036854775807 := by decide
    omega
  have hf2 : ¬ (Builtin.nextslicecap (sLen + n) sCap * i.bytes > 2 ^ 48) := by omega
  refine ⟨grownCap w (sLen + n) sCap E, (Builtin.zeroCells z.cells (grownCap w (sLen + n) sCap E - (sLen + n))).toList, ?_, ?_, ?_⟩
  · unfold grownCap
    simp only [Question.cut]
    omega
  · have hcap : sLen + n ≤ grownCap w (sLen + n) sCap E := by unfold grownCap; simp only [Question.cut]; omega
    simp only [List.length_append, hlo, hln, Array.length_toList, Builtin.zeroCells, Array.size_map, Array.size_range, hzs]
    rw [← Nat.add_mul, ← Nat.add_mul]
    congr 1
    omega
  · have e : (olds ++ news ++ (Builtin.zeroCells z.cells (grownCap w (sLen + n) sCap E - (sLen + n))).toList).toArray = olds.toArray ++ news.toArray ++ Builtin.zeroCells z.cells (grownCap w (sLen + n) sCap E - (sLen + n)) := by
      apply Array.ext'; simp
    rw [e]
    unfold Builtin.append_
    simp only [List.getElem?_toArray, List.getElem?_cons_zero, List.getElem?_cons_succ, Sem.run_bind, run_underlying hu, Result.andThen_ok, run_underlying huu, Sem.run_pure, sizeOf, typeInfo, run_program, hi, Builtin.lenOf, h1, if_false, Bool.false_eq_true, false_or]
    have a1 : ¬ (9223372036854775807 < (sLen : Int) + (n : Int)) := by omega
    have a2 : ¬ (281474976710656 < Builtin.nextslicecap (sLen + n) sCap * i.bytes) := by omega
    simp [run_underlying hu, run_underlying huu, sizeOf, typeInfo, zeroValue, hi, hz, Builtin.lenOf, h1, a1, a2, Question.forced, fo, fn, newRow, grownCap]
    congr 2
    apply Array.ext'
    simp

theorem run_append_fit' (ht : TabOk P tt) {t u ty E E' : TypeId} (htt : (tt.at t).ti = .slice E) (htu : (tt.at u).ti = .slice E') (hg : (tt.at E).ti.good = true) (w : World) (base : Option Addr) (sLen sCap : Nat) (ad : Option Addr) (n c : Nat) (news : List Value) (hln : news.length = n * (tt.at E).size)
    (hn : news ≠ [] → ∃ p, ad = some p ∧ ∀ j v, news[j]? = some v → w.cell? (p.add j) = some v) (hfit : sLen + n ≤ sCap) :
    (Builtin.append_ #[t, u] ty #[.slice base sLen sCap, .slice ad n c]).run P w =
      ((match base with | some p => storeCells (p.add (sLen * (tt.at E).size)) news | none => pure ()) >>= fun _ => (pure (.slice base (sLen + n) sCap) : Sem Value)).run P w := by
  have hu := und_slice (ht.at t (by rw [htt]; rfl)) htt
  have huu := und_slice (ht.at u (by rw [htu]; rfl)) htu
  obtain ⟨i, hi, hs, hby, hz0, z, hz, hzs, _⟩ := (ht.at E hg).info
  have fn := run_firstCells (P := P) w (tt.at E).size n ad n c news hln hn
  rw [← hs] at fn ⊢
  unfold Builtin.append_
  cases base <;> simp [run_underlying hu, run_underlying huu, sizeOf, typeInfo, hi, Builtin.lenOf, hfit, fn]

theorem op_append (ht : TabOk P tt) (hn : Next P o a own F w σ K next) (r : Rel own F w σ) {t u E E' : TypeId} {x y : Operand} (ho : o.op = .call { callee := .builtin .append, args := #[x, y], argTypes := #[t, u] }) (htt : (tt.at t).ti = .slice E) (htu : (tt.at u).ti = .slice E')
    {sx sy : SV} (hx : VS own F w sx (a.eval x)) (hy : VS own F w sy (a.eval y)) (hs : appendOp tt E sx sy σ K) : o.wp P a w next Q := by
  unfold appendOp at hs
  simp only at hs
  cases hgs : (tt.at E).ti.good && Nat.blt 0 (tt.at E).size with
  | false => rw [hgs] at hs; exact hs.elim
  | true =>
    rw [hgs, cond_true] at hs
    simp only [Bool.and_eq_true] at hgs
    obtain ⟨hg, hpos⟩ := hgs
    have hpos : 0 < (tt.at E).size := by simpa [Nat.blt_eq] using hpos
    cases hsrc : srcOf (tt.at E).size σ sy with
    | none => rw [hsrc] at hs; exact hs.elim
    | some ys =>
      simp only [hsrc] at hs
      obtain ⟨ad, c, news, hvy, hln, hzy, hone, hread, hvals⟩ := src_read r hy hsrc
      have hread' : news ≠ [] → ∃ p, ad = some p ∧ ∀ j v, news[j]? = some v → w.cell? (p.add j) = some v := by
        intro hne
        refine hread fun h0 => hne ?_
        rw [h0] at hln
        simp at hln
        exact hln
      have run : ∀ (base : Option Addr) (l cp : Nat) (v : Value) (w' : World), a.eval x = .slice base l cp → (Builtin.append_ #[t, u] o.type #[.slice base l cp, .slice ad ys.length c]).run P w = .ok v w' → (execOp a.eval o).run P w = .ok (.value v) w' := by
        intro base l cp v w' hvx hr
        unfold execOp
        simp only [ho, resolve, Sem.run_bind, Sem.run_pure, Result.andThen_ok, invoke, builtin]
        have e : #[x, y].map a.eval = #[.slice base l cp, .slice ad ys.length c] := by simp [hvx, hvy]
        rw [e, hr]; rfl
      -- a slice without room, nothing of the call's own
      have empty : ∀ (base : Option Addr), a.eval x = .slice base 0 0 → ys.length * (tt.at E).bytes ≤ 2 ^ 47 → ys.length ≤ 2 ^ 48 → ∀ (σ0 : Sto) (own0 : Nat → Own), Rel own0 F w σ0 → Ext σ.length own F w own0 F w → σ0.length = σ.length →
          K (.osl σ.length 0 ys.length) (σ0 ++ [.row E (tt.at E).size ys]) → o.wp P a w next Q := by
        intro base hvx hb h48 σ0 own0 r0 e0 hl0 hk
        cases hys : ys with
        | nil =>
          subst hys
          have hr := run_append_fit' ht htt htu hg (ty := o.type) w base 0 0 ad 0 c news hln hread' (by omega)
          have hnil : news = [] := by simpa using hln
          subst hnil
          have hr' : (Builtin.append_ #[t, u] o.type #[.slice base 0 0, .slice ad ([] : List T).length c]).run P w = .ok (.slice base 0 0) w := by
            show (Builtin.append_ #[t, u] o.type #[.slice base 0 0, .slice ad 0 c]).run P w = _
            rw [hr]
            cases base <;> simp [storeCells]
          have hp := r0.push 0 0 0 0 (.inr rfl) (fun h => by omega) (w' := w) rfl rfl rfl (Nat.le_refl _) (fun _ _ => rfl) (.row E (tt.at E).size []) (fun own' h1 h2 e => .inl ⟨rfl, rfl⟩)
          refine wp_value (run base 0 0 _ w hvx hr') (hn _ _ _ _ _ _ hk (e0.trans (hp.2.mono (by omega))) hp.1 (by simp; omega) ?_)
          refine .oslN _ _ ?_
          unfold ownAt
          rw [hl0, if_pos rfl]
        | cons z zs =>
          have hlen : 0 < ys.length := by rw [hys]; simp
          obtain ⟨cap, rest, g1, g2, g3⟩ := run_append_grow' ht htt htu hg (ty := o.type) w base 0 0 [] (by simp) (fun h => absurd rfl h) ad ys.length c news hln hread' (by omega) (by omega) (by simpa using hb)
          simp only [Nat.zero_add, List.nil_append] at g1 g2 g3
          have hp := r0.push w.heap.size cap (tt.at E).size ys.length (.inl (Nat.le_refl _)) (fun _ => by simp) (w' := w.drew.alloc (.cells (news ++ rest).toArray E)) rfl rfl rfl (by simp) (fun i hi => Below.heap_alloc w.drew _ i hi) (.row E (tt.at E).size ys)
            (fun own' h1 h2 e => .inr ⟨w.heap.size, cap, (news ++ rest).toArray, rfl, hpos, heap_alloc_new w.drew _, by simpa using g2, g1, h48, hzy, fun i x j c v hx hc hv => by
              have := row_of (esz := (tt.at E).size) (ts := []) (ys := ys) (olds := []) (news := news) (rest := rest) (F := F) (w := w) (by simp) hzy (by simp) hln (by simp) hvals i x j c v (by simpa using hx) hc (by simpa using hv)
              exact this.ext e r0.sep, fun j hj => by
              have hjn : j < news.length := by rw [hln]; exact hj
              simp only [Array.getD_eq_getD_getElem?, List.getElem?_toArray]
              rw [List.getElem?_append_left hjn, List.getElem?_eq_getElem hjn]
              exact hone _ (List.getElem_mem hjn)⟩)
          refine wp_value (run base 0 0 _ _ hvx g3) (hn _ _ _ _ _ _ hk (e0.trans (hp.2.mono (by omega))) hp.1 (by simp; omega) ?_)
          have hat : ownAt own0 σ0.length (.live w.heap.size cap (tt.at E).size ys.length) σ.length = .live w.heap.size cap (tt.at E).size ys.length := by unfold ownAt; rw [hl0, if_pos rfl]
          have := VS.osl (F := F) (w := w.drew.alloc (.cells (news ++ rest).toArray E)) σ.length 0 ys.length _ _ _ _ hat (by omega) (by omega) h48
          simpa using this
      split at hs
      · obtain ⟨h1, h2, h3⟩ := hs
        rw [forceSto_iff] at h3
        generalize hmx : a.eval x = mx at hx
        cases hx with
        | t _ _ hv =>
          cases hv
          exact empty none hmx h1.out h2.out σ own r (Ext.refl _ _ _ _) rfl h3
      · obtain ⟨h1, h2, h3⟩ := hs
        rw [forceSto_iff] at h3
        generalize hmx : a.eval x = mx at hx
        cases hx with
        | t _ _ hv =>
          cases hv with
          | esl ad0 => exact empty ad0 hmx h1.out h2.out σ own r (Ext.refl _ _ _ _) rfl h3
      · rename_i k off len
        split at hs
        · rename_i E1 sz ts hk
          obtain ⟨h1, h2, h3, h4, h5⟩ := hs
          rw [forceSto_iff] at h5
          obtain ⟨h1a, h1b⟩ := h1.out
          obtain ⟨h2a, h2b⟩ := h2.out
          have h3 := h3.out
          have h4 := h4.out
          subst h1a h2a h2b h1b
          have hkl : k < σ.length := by
            rw [nth_eq] at hk
            exact (List.getElem?_eq_some_iff.1 hk).1
          rcases osl_row r hk hx with ⟨ho1, h0, _, _, ad0, hmv⟩ | ⟨b, cap, vals, ho1, hmv, hle, hsz0, hh, hvs, hcap, h48, hcl, hts, hone2⟩
          · subst h0
            simp only [List.length_nil, Nat.zero_add, List.nil_append] at h3 h4 h5
            obtain ⟨r0, e0⟩ := r.drop hkl
            exact empty ad0 hmv h3 h4 _ _ r0 e0 (by simp) h5
          · have hmv' : a.eval x = .slice (some ⟨b, 0, none⟩) ts.length cap := by simpa using hmv
            have hlo : (vals.toList.take (ts.length * (tt.at E1).size)).length = ts.length * (tt.at E1).size := by
              have : ts.length * (tt.at E1).size ≤ cap * (tt.at E1).size := Nat.mul_le_mul_right _ hcap
              simp; omega
            have hov : ∀ (i : Nat) (x : T) (j : Nat) (c : T) (v : Value), ts[i]? = some x → x.cells[j]? = some c → (vals.toList.take (ts.length * (tt.at E1).size))[i * (tt.at E1).size + j]? = some v → VT F w c v := by
              intro i x j c v hx hc hv
              have hlt := (List.getElem?_eq_some_iff.1 hv).1
              rw [hlo] at hlt
              rw [List.getElem?_take, if_pos hlt] at hv
              exact hts i x j c v hx hc (by simpa using hv)
            by_cases hfit : ts.length + ys.length ≤ cap
            · have hr := run_append_fit' ht htt htu hg (ty := o.type) w (some ⟨b, 0, none⟩) ts.length cap ad ys.length c news hln hread' hfit
              have hfits : ts.length * (tt.at E1).size + news.length ≤ vals.size := by
                have : (ts.length + ys.length) * (tt.at E1).size ≤ cap * (tt.at E1).size := Nat.mul_le_mul_right _ hfit
                rw [Nat.add_mul] at this
                omega
              have hst := run_storeCells_at P b (ts.length * (tt.at E1).size) E1 news 0 vals w hh (by simpa using hfits) hone
              simp only [Nat.add_zero] at hst
              have hrow : ∃ vals' : Array Value, vals' = (vals.toList.take (ts.length * (tt.at E1).size) ++ news ++ vals.toList.drop (ts.length * (tt.at E1).size + news.length)).toArray := ⟨_, rfl⟩
              obtain ⟨vals', hv'⟩ := hrow
              rw [← hv'] at hst
              have hr' : (Builtin.append_ #[t, u] o.type #[.slice (some ⟨b, 0, none⟩) ts.length cap, .slice ad ys.length c]).run P w = .ok (.slice (some ⟨b, 0, none⟩) (ts.length + ys.length) cap) (w.setRow b vals') := by
                rw [hr]
                simp only [add_plain, Nat.zero_add, Sem.run_bind, hst, Result.andThen_ok, Sem.run_pure]
              have hvsz : vals'.size = vals.size := by rw [hv']; simp; omega
              have hrn := r.renew (w' := w.setRow b vals') (ts.length + ys.length) ho1 (by omega) rfl rfl rfl (by simp) (fun i hi => heap_setRow_other w b _ i hi) (.row E1 (tt.at E1).size (ts ++ ys)) (fun own' e => by
                refine .inr ⟨b, cap, vals', by simp, hpos, setRow_heap w b vals _ E1 (0, 0) hh, by omega, by simpa using hfit, by simpa using h4, ?_, ?_, ?_⟩
                · intro z hz
                  rcases List.mem_append.1 hz with h | h
                  · exact hcl z h
                  · exact hzy z h
                · intro i z j c v hz hc hv
                  rw [hv', List.getElem?_toArray] at hv
                  exact (row_of (F := F) (w := w) hcl hzy hlo hln hov hvals i z j c v hz hc hv).ext e r.sep
                · intro j hj
                  rw [hv']
                  simp only [Array.getD_eq_getD_getElem?, List.getElem?_toArray]
                  simp only [List.length_append, Nat.add_mul] at hj
                  rcases Nat.lt_or_ge j (ts.length * (tt.at E1).size) with hj1 | hj1
                  · rw [List.append_assoc, List.getElem?_append_left (by omega), List.getElem?_take, if_pos hj1]
                    have := hone2 j hj1
                    rw [Array.getD_eq_getD_getElem?] at this
                    rw [Array.getElem?_toList]; exact this
                  · rw [List.append_assoc, List.getElem?_append_right (by omega), List.getElem?_append_left (by omega)]
                    have hq : j - (vals.toList.take (ts.length * (tt.at E1).size)).length < news.length := by omega
                    rw [List.getElem?_eq_getElem hq]
                    exact hone _ (List.getElem_mem hq))
              refine wp_value (run _ _ _ _ _ hmv' hr') (hn _ _ _ _ _ _ h5 hrn.2 hrn.1 (by simp) ?_)
              have hat : ownAt (ownD own k) σ.length (.live b cap (tt.at E1).size (ts.length + ys.length)) σ.length = .live b cap (tt.at E1).size (ts.length + ys.length) := by unfold ownAt; rw [if_pos rfl]
              have := VS.osl (F := F) (w := w.setRow b vals') σ.length 0 (ts.length + ys.length) _ _ _ _ hat (by omega) hfit h4
              simpa using this
            · obtain ⟨ncap, rest, g1, g2, g3⟩ := run_append_grow' ht htt htu hg (ty := o.type) w (some ⟨b, 0, none⟩) ts.length cap (vals.toList.take (ts.length * (tt.at E1).size)) hlo (fun _ => ⟨_, rfl, fun j v hj => by
                  have hlt := (List.getElem?_eq_some_iff.1 hj).1
                  rw [hlo] at hlt
                  rw [List.getElem?_take, if_pos hlt] at hj
                  rw [add_plain, Nat.zero_add, cell_of_row w b j vals E1 (0, 0) hh]
                  simpa using hj⟩) ad ys.length c news hln hread' (by omega) (by omega) h3
              obtain ⟨r0, e0⟩ := r.drop hkl
              have hp := r0.push w.heap.size ncap (tt.at E1).size (ts.length + ys.length) (.inl (Nat.le_refl _)) (fun _ => by simp) (w' := w.drew.alloc (.cells (vals.toList.take (ts.length * (tt.at E1).size) ++ news ++ rest).toArray E1)) rfl rfl rfl (by simp) (fun i hi => Below.heap_alloc w.drew _ i hi) (.row E1 (tt.at E1).size (ts ++ ys))
                (fun own' q1 q2 e => .inr ⟨w.heap.size, ncap, _, by simp, hpos, heap_alloc_new w.drew _, by simpa using g2, by simpa using g1, by simpa using h4, fun z hz => by
                    rcases List.mem_append.1 hz with h | h
                    · exact hcl z h
                    · exact hzy z h, fun i z j c v hz hc hv => by
                    rw [List.getElem?_toArray] at hv
                    exact (row_of (F := F) (w := w) hcl hzy hlo hln hov hvals i z j c v hz hc hv).ext e r0.sep, fun j hj => by
                    simp only [Array.getD_eq_getD_getElem?, List.getElem?_toArray]
                    simp only [List.length_append, Nat.add_mul] at hj
                    rcases Nat.lt_or_ge j (ts.length * (tt.at E1).size) with hj1 | hj1
                    · rw [List.append_assoc, List.getElem?_append_left (by omega), List.getElem?_take, if_pos hj1]
                      have := hone2 j hj1
                      rw [Array.getD_eq_getD_getElem?] at this
                      rw [Array.getElem?_toList]; exact this
                    · rw [List.append_assoc, List.getElem?_append_right (by omega), List.getElem?_append_left (by omega)]
                      have hq : j - (vals.toList.take (ts.length * (tt.at E1).size)).length < news.length := by omega
                      rw [List.getElem?_eq_getElem hq]
                      exact hone _ (List.getElem_mem hq)⟩)
              simp only [List.length_set] at hp
              refine wp_value (run _ _ _ _ _ hmv' g3) (hn _ _ _ _ _ _ h5 (e0.trans hp.2) hp.1 (by simp) ?_)
              have hat : ownAt (ownD own k) σ.length (.live w.heap.size ncap (tt.at E1).size (ts.length + ys.length)) σ.length = .live w.heap.size ncap (tt.at E1).size (ts.length + ys.length) := by unfold ownAt; rw [if_pos rfl]
              have := VS.osl (F := F) (w := w.drew.alloc (.cells (vals.toList.take (ts.length * (tt.at E1).size) ++ news ++ rest).toArray E1)) σ.length 0 (ts.length + ys.length) _ _ _ _ hat (by omega) g1 h4
              simpa using this
        · exact hs.elim
      · exact hs.elim

end
end Go.Proofs.Ytihebfhhnoneiaa.Am
