/- append. -/
import Derived.Test.YtihebfhhnoneiaaAmOps7
namespace Go.Proofs.Ytihebfhhnoneiaa.Am
open Go.RowKit
set_option linter.unusedVariables false
set_option linter.unusedSimpArgs false

section
variable {P : Program} {tt : Tab} {own : Nat → Own} {F : Nat → Prop} {w : World} {σ : Sto} {env : Env} {a : Act} {N : Nat} {o : Oper}
variable {K : SV → Sto → Prop} {next : Act → World → Prop} {Q : Exit → Act → World → Prop}

/-- Elements, and their values as they lie, with the rows within, out of the objects L. -/
structure Sup (own : Nat → Own) (F : Nat → Prop) (w : World) (L : List Nat) (esz : Nat) (A : Nat → Nat → Path → Option Loc) (ys : List T) (vs : List Value) : Prop where
  hc : ∀ x ∈ ys, x.cells.length = esz
  hl : vs.length = ys.length * esz
  one : ∀ v ∈ vs, v.oneCell' = true
  cell : ∀ (i : Nat) (x : T) (j : Nat) (y : T) (v : Value), ys[i]? = some x → x.cells[j]? = some y → vs[i * esz + j]? = some v →
    (y.nd? = none ∧ VT F w y v) ∨ ∃ m Lo, y.nd? = some m ∧ TreeOk F w (A i j) m ∧ A i j [] = some Lo ∧ v = m.lv Lo ∧ ∀ b, Bk (A i j) m b → ∃ k, k ∈ L ∧ (own k).bl b
  dis : ∀ (i j i' j' : Nat) (x x' y y' : T) (m m' : Nd) (b : Nat), ys[i]? = some x → x.cells[j]? = some y → y.nd? = some m → ys[i']? = some x' → x'.cells[j']? = some y' → y'.nd? = some m' → Bk (A i j) m b → Bk (A i' j') m' b → i = i' ∧ j = j'

theorem Sup.nil {L : List Nat} {esz : Nat} {A : Nat → Nat → Path → Option Loc} : Sup own F w L esz A [] [] := ⟨by simp, by simp, by simp, by simp, by simp⟩
theorem Sup.flat {L L' : List Nat} {esz : Nat} {A B : Nat → Nat → Path → Option Loc} {ys : List T} {vs : List Value} (h : Sup own F w L esz A ys vs) (hf : Flat ys) : Sup own F w L' esz B ys vs := by
  have key : ∀ (i : Nat) (x : T) (j : Nat) (y : T), ys[i]? = some x → x.cells[j]? = some y → y.nd? = none := fun i x j y hx hy => noNst_nd.1 (hf x (List.mem_of_getElem? hx) y (List.mem_of_getElem? hy))
  refine ⟨h.hc, h.hl, h.one, fun i x j y v hx hy hv => ?_, fun i j i' j' x x' y y' m m' b hx hy hn => ?_⟩
  · rcases h.cell i x j y v hx hy hv with h1 | ⟨m, Lo, h1, _⟩
    · exact .inl h1
    · rw [key i x j y hx hy] at h1; exact nomatch h1
  · rw [key i x j y hx hy] at hn; exact nomatch hn

theorem flat_idx {L esz i j : Nat} {n : Nat} (hi : i < n) (hj : j < esz) : i * esz + j < n * esz := by
  have : (i + 1) * esz ≤ n * esz := Nat.mul_le_mul_right _ hi
  rw [Nat.add_mul, Nat.one_mul] at this
  omega

theorem Sup.append {L1 L2 : List Nat} {esz : Nat} {A B : Nat → Nat → Path → Option Loc} {ts ys : List T} {vs us : List Value} (r : Rel own F w σ) (h1 : Sup own F w L1 esz A ts vs) (h2 : Sup own F w L2 esz B ys us) (hd : ∀ k, k ∈ L1 → k ∉ L2) :
    Sup own F w (L1 ++ L2) esz (fun i j => if i < ts.length then A i j else B (i - ts.length) j) (ts ++ ys) (vs ++ us) := by
  have cellAt : ∀ (i : Nat) (x : T) (j : Nat) (y : T) (m : Nd), (ts ++ ys)[i]? = some x → x.cells[j]? = some y → y.nd? = some m →
      (i < ts.length ∧ ts[i]? = some x ∧ (∀ b, Bk (A i j) m b → ∃ k, k ∈ L1 ∧ (own k).bl b)) ∨ (ts.length ≤ i ∧ ys[i - ts.length]? = some x ∧ (∀ b, Bk (B (i - ts.length) j) m b → ∃ k, k ∈ L2 ∧ (own k).bl b)) := by
    intro i x j y m hx hy hn
    rcases Nat.lt_or_ge i ts.length with hi | hi
    · rw [List.getElem?_append_left hi] at hx
      have hj : j < esz := by rw [← h1.hc x (List.mem_of_getElem? hx)]; exact (List.getElem?_eq_some_iff.1 hy).1
      have hlt := flat_idx (L := 0) hi hj
      rw [← h1.hl] at hlt
      rcases h1.cell i x j y _ hx hy (List.getElem?_eq_getElem hlt) with ⟨g, _⟩ | ⟨m', Lo, g1, g2, g3, g4, g5⟩
      · rw [hn] at g; exact nomatch g
      · rw [hn] at g1; injection g1 with g1; subst g1
        exact .inl ⟨hi, hx, g5⟩
    · rw [List.getElem?_append_right hi] at hx
      have hi2 : i - ts.length < ys.length := (List.getElem?_eq_some_iff.1 hx).1
      have hj : j < esz := by rw [← h2.hc x (List.mem_of_getElem? hx)]; exact (List.getElem?_eq_some_iff.1 hy).1
      have hlt := flat_idx (L := 0) hi2 hj
      rw [← h2.hl] at hlt
      rcases h2.cell _ x j y _ hx hy (List.getElem?_eq_getElem hlt) with ⟨g, _⟩ | ⟨m', Lo, g1, g2, g3, g4, g5⟩
      · rw [hn] at g; exact nomatch g
      · rw [hn] at g1; injection g1 with g1; subst g1
        exact .inr ⟨hi, hx, g5⟩
  refine ⟨fun x hx => ?_, by simp [h1.hl, h2.hl, Nat.add_mul], fun v hv => ?_, fun i x j y v hx hy hv => ?_, fun i j i' j' x x' y y' m m' b hx hy hn hx' hy' hn' hb hb' => ?_⟩
  · rcases List.mem_append.1 hx with h | h
    · exact h1.hc x h
    · exact h2.hc x h
  · rcases List.mem_append.1 hv with h | h
    · exact h1.one v h
    · exact h2.one v h
  · rcases Nat.lt_or_ge i ts.length with hi | hi
    · rw [List.getElem?_append_left hi] at hx
      have hj : j < esz := by rw [← h1.hc x (List.mem_of_getElem? hx)]; exact (List.getElem?_eq_some_iff.1 hy).1
      have hlt := flat_idx (L := 0) hi hj
      rw [← h1.hl] at hlt
      rw [List.getElem?_append_left hlt] at hv
      simp only [if_pos hi]
      rcases h1.cell i x j y v hx hy hv with g | ⟨m, Lo, g1, g2, g3, g4, g5⟩
      · exact .inl g
      · exact .inr ⟨m, Lo, g1, g2, g3, g4, fun b hb => by obtain ⟨k, q1, q2⟩ := g5 b hb; exact ⟨k, by simp [q1], q2⟩⟩
    · rw [List.getElem?_append_right hi] at hx
      have e : i * esz = ts.length * esz + (i - ts.length) * esz := by rw [← Nat.add_mul]; congr 1; omega
      rw [List.getElem?_append_right (by rw [h1.hl]; omega), h1.hl, show i * esz + j - ts.length * esz = (i - ts.length) * esz + j by omega] at hv
      simp only [if_neg (show ¬ i < ts.length by omega)]
      rcases h2.cell _ x j y v hx hy hv with g | ⟨m, Lo, g1, g2, g3, g4, g5⟩
      · exact .inl g
      · exact .inr ⟨m, Lo, g1, g2, g3, g4, fun b hb => by obtain ⟨k, q1, q2⟩ := g5 b hb; exact ⟨k, by simp [q1], q2⟩⟩
  · rcases cellAt i x j y m hx hy hn with ⟨p1, p2, p3⟩ | ⟨p1, p2, p3⟩ <;> rcases cellAt i' x' j' y' m' hx' hy' hn' with ⟨q1, q2, q3⟩ | ⟨q1, q2, q3⟩
    · simp only [if_pos p1] at hb
      simp only [if_pos q1] at hb'
      exact h1.dis i j i' j' x x' y y' m m' b p2 hy hn q2 hy' hn' hb hb'
    · simp only [if_pos p1] at hb
      simp only [if_neg (show ¬ i' < ts.length by omega)] at hb'
      obtain ⟨k, w1, w2⟩ := p3 b hb
      obtain ⟨k', w3, w4⟩ := q3 b hb'
      have := r.inj k k' b w2 w4
      subst this
      exact absurd w3 (hd k w1)
    · simp only [if_neg (show ¬ i < ts.length by omega)] at hb
      simp only [if_pos q1] at hb'
      obtain ⟨k, w1, w2⟩ := p3 b hb
      obtain ⟨k', w3, w4⟩ := q3 b hb'
      have := r.inj k k' b w2 w4
      subst this
      exact absurd w1 (hd k w3)
    · simp only [if_neg (show ¬ i < ts.length by omega)] at hb
      simp only [if_neg (show ¬ i' < ts.length by omega)] at hb'
      obtain ⟨e1, e2⟩ := h2.dis _ j _ j' x x' y y' m m' b p2 hy hn q2 hy' hn' hb hb'
      exact ⟨by omega, e2⟩

/-- A row of one's own out of what was gathered. -/
theorem Rel.gather {w' : World} (r : Rel own F w σ) {L : List Nat} {E : TypeId} {sz : Nat} {A : Nat → Nat → Path → Option Loc} {ys : List T} {vs : List Value} (hs : Sup own F w L sz A ys vs) {b oo cap : Nat} {arr : Array Value} (hpos : 0 < sz) (hcap : 0 < cap) (hle : ys.length ≤ cap) (h48 : ys.length ≤ 2 ^ 48)
    (os : w'.os = w.os) (tape : w'.tape = w.tape) (output : w'.output = w.output) (hsz : w.heap.size ≤ w'.heap.size) (hh : ∀ x, x < w.heap.size → x ≠ b → w'.heap[x]? = w.heap[x]?) (hb : w.heap.size ≤ b ∨ ((∃ k, k ∈ L ∧ (own k).bl b) ∧ ∀ (i : Nat) (x : T) (j : Nat) (y : T) (m : Nd), ys[i]? = some x → x.cells[j]? = some y → y.nd? = some m → ¬ Bk (A i j) m b))
    (harr : w'.heap[b]? = some (.cells arr E (0, 0))) (hfit : oo + cap * sz ≤ arr.size) (hval : ∀ t, t < vs.length → arr[oo + t]? = vs[t]?) :
    ∃ own', Rel own' F w' (kills L σ ++ [.nd e0 (.row E sz ys)]) ∧ Ext σ.length own F w own' F w' ∧ (own' σ.length).am 0 [] = some (.at b oo sz cap ys.length) := by
  have hbw : b < w'.heap.size := (Array.getElem?_eq_some_iff.1 harr).1
  let c : Path → Option Loc := fun p => match p with | [] => some (.at b oo sz cap ys.length) | (i, j) :: q => A i j q
  let ow : Own := ⟨fun e p => if e = 0 then c p else none, fun x => x = b ∨ ∃ i x' j y m, ys[i]? = some x' ∧ x'.cells[j]? = some y ∧ y.nd? = some m ∧ Bk (A i j) m x⟩
  have hcur : ow.cur e0 = c := by
    funext p
    show (if (0 : Nat) = 0 then c p else none) = c p
    rw [if_pos rfl]
  have hchild : ∀ (i : Nat) (x : T) (j : Nat) (y : T) (m : Nd), ys[i]? = some x → x.cells[j]? = some y → y.nd? = some m → TreeOk F w (A i j) m ∧ (∃ Lo, A i j [] = some Lo ∧ ∀ v, vs[i * sz + j]? = some v → v = m.lv Lo) ∧ (∀ b, Bk (A i j) m b → ∃ k, k ∈ L ∧ (own k).bl b) ∧ ¬ Bk (A i j) m b := by
    intro i x j y m hx hy hn
    have hi := (List.getElem?_eq_some_iff.1 hx).1
    have hj : j < sz := by rw [← hs.hc x (List.mem_of_getElem? hx)]; exact (List.getElem?_eq_some_iff.1 hy).1
    have hlt := flat_idx (L := 0) hi hj
    rw [← hs.hl] at hlt
    rcases hs.cell i x j y _ hx hy (List.getElem?_eq_getElem hlt) with ⟨g, _⟩ | ⟨m', Lo, g1, g2, g3, g4, g5⟩
    · rw [hn] at g; exact nomatch g
    · rw [hn] at g1; injection g1 with g1; subst g1
      refine ⟨g2, ⟨Lo, g3, fun v hv => by rw [List.getElem?_eq_getElem hlt] at hv; injection hv with hv; rw [← hv]; exact g4⟩, g5, fun h => ?_⟩
      rcases hb with h' | ⟨_, h'⟩
      · obtain ⟨k, _, q2⟩ := g5 b h
        have := r.lb k b q2
        omega
      · exact h' i x j y m hx hy hn h
  obtain ⟨r', e'⟩ := r.fuse L ow (w' := w') (fun x hx => by
      rcases hx with rfl | ⟨i, x', j, y, m, h1, h2, h3, h4⟩
      · refine ⟨?_, hbw⟩
        rcases hb with h | ⟨h, _⟩
        · exact .inl h
        · exact .inr h
      · obtain ⟨_, _, g, _⟩ := hchild i x' j y m h1 h2 h3
        obtain ⟨k, q1, q2⟩ := g x h4
        exact ⟨.inr ⟨k, q1, q2⟩, Nat.lt_of_lt_of_le (r.lb k x q2) hsz⟩) os tape output hsz (fun x hx hn => by
      refine hh x hx fun e => ?_
      subst e
      rcases hb with h | ⟨⟨k, q1, q2⟩, _⟩
      · omega
      · exact hn k q1 q2) (.nd e0 (.row E sz ys)) (fun hvt _ => by
    refine ⟨?_, ?_, rfl, fun e p he => by
      show (if e = 0 then c p else none) = none
      rw [if_neg (by simp [e0] at he; omega)]⟩
    · rw [hcur]
      refine TreeOk.form ?_ ?_ ?_ ?_
      · refine .inr ⟨b, oo, cap, arr, rfl, hpos, hcap, harr, hfit, hle, h48, hs.hc, fun i x j y v hx hy hv => ?_, fun j hj => ?_⟩
        · have hi := (List.getElem?_eq_some_iff.1 hx).1
          have hj : j < sz := by rw [← hs.hc x (List.mem_of_getElem? hx)]; exact (List.getElem?_eq_some_iff.1 hy).1
          have hlt := flat_idx (L := 0) hi hj
          rw [← hs.hl] at hlt
          rw [Nat.add_assoc, hval _ hlt] at hv
          cases hyn : y.nd? with
          | none =>
            rcases hs.cell i x j y v hx hy hv with ⟨_, g⟩ | ⟨m, Lo, g1, _⟩
            · cases y <;> first | exact hvt _ _ g | exact nomatch hyn
            · rw [hyn] at g1; exact nomatch g1
          | some m =>
            obtain ⟨_, ⟨Lo, g2, g3⟩, _⟩ := hchild i x j y m hx hy hyn
            have e := nd_of hyn
            subst e
            cases m with
            | row => exact ⟨Lo, g2, g3 v hv⟩
            | map => exact ⟨Lo, g2, g3 v hv⟩
        · have hlt : j < vs.length := by rw [hs.hl]; exact hj
          rw [Array.getD_eq_getD_getElem?, hval j hlt, List.getElem?_eq_getElem hlt]
          exact hs.one _ (List.getElem_mem hlt)
      · intro i x j y m hx hy hn
        obtain ⟨g1, _, g3, g4⟩ := hchild i x j y m hx hy hn
        refine g1.move (fun _ => rfl) (fun x hxb => ?_) hvt
        obtain ⟨k, q1, q2⟩ := g3 x hxb
        exact hh x (r.lb k x q2) fun e => g4 (e ▸ hxb)
      · intro i j i' j' x x' y y' m m' b' hx hy hn hx' hy' hn' hb1 hb2
        exact hs.dis i j i' j' x x' y y' m m' b' hx hy hn hx' hy' hn' hb1 hb2
      · intro i x j y m b' o' s' cp' mm' hx hy hn hr hb1
        injection hr with hr
        injection hr with hr
        subst hr
        exact (hchild i x j y m hx hy hn).2.2.2 hb1
    · rw [hcur]
      rintro x ⟨p, n, o', s', cp', m', h1, h2⟩
      cases p with
      | nil =>
        injection h2 with h2
        injection h2 with h2
        exact .inl h2.symm
      | cons q p =>
        obtain ⟨i, j⟩ := q
        obtain ⟨x', y, m, g1, g2, g3, g4⟩ := nodeAt_cons.1 h1
        exact .inr ⟨i, x', j, y, m, g1, g2, g3, p, n, o', s', cp', m', g4, h2⟩)
  refine ⟨_, r', e', ?_⟩
  rw [upd1_same]
  show (if (0 : Nat) = 0 then c [] else none) = _
  rw [if_pos rfl]

/-- An empty row of one's own, without a place. -/
theorem Rel.gather0 (r : Rel own F w σ) (L : List Nat) (E : TypeId) (sz : Nat) (ad : Option Addr) :
    ∃ own', Rel own' F w (kills L σ ++ [.nd e0 (.row E sz [])]) ∧ Ext σ.length own F w own' F w ∧ (own' σ.length).am 0 [] = some (.e ad) := by
  obtain ⟨r', e'⟩ := r.fuse L (ownN (.e ad) fun b => ∃ o s c m, Loc.e ad = .at b o s c m) (w' := w) (fun b ⟨_, _, _, _, h⟩ => nomatch h) rfl rfl rfl (Nat.le_refl _) (fun _ _ _ => rfl) (.nd e0 (.row E sz []))
    (fun _ _ => OR.flat rfl (.inl ⟨rfl, ad, by simp⟩) (fun q p n h => by obtain ⟨i, j⟩ := q; obtain ⟨x, _, _, h, _⟩ := nodeAt_cons.1 h; simp at h))
  exact ⟨_, r', e', by rw [upd1_same]; exact ownN_at⟩

/-- What a reference refers to, as the machine reads it. -/
theorem own_part (r : Rel own F w σ) {k : Nat} {ep : Nat → Nat} {nd : Nd} (hk : nth σ k = some (.nd ep nd)) {p : Path} {E : TypeId} {sz : Nat} {xs : List T} (hp : nodeAt nd p = some (.row E sz xs)) {e off len : Nat} (he : e = ep p.length) {mv : Value} (hv : VS own F w (.ref k e p off len) mv) :
    ∃ (ad : Option Addr) (c : Nat) (news : List Value), mv = .slice ad len c ∧ ((xs.drop off).take len).length = len ∧ (len ≠ 0 → ∃ q, ad = some q ∧ ∀ j v, news[j]? = some v → w.cell? (q.add j) = some v) ∧
      Sup own F w [k] sz (fun i j q => (own k).cur ep (p ++ (off + i, j) :: q)) ((xs.drop off).take len) news ∧
      ((len = 0 ∧ c = 0) ∨ ∃ b oo cap vals, (own k).cur ep p = some (.at b oo sz cap xs.length) ∧ ad = some ⟨b, oo + off * sz, none⟩ ∧ c = cap - off ∧ w.heap[b]? = some (.cells vals E (0, 0)) ∧ oo + cap * sz ≤ vals.size ∧ off + len ≤ xs.length ∧ xs.length ≤ cap ∧ 0 < sz ∧ (own k).bl b ∧
        (∀ t, t < len * sz → vals[oo + off * sz + t]? = news[t]?) ∧ ∀ (i : Nat) (x : T) (j : Nat) (y : T) (m : Nd), ((xs.drop off).take len)[i]? = some x → x.cells[j]? = some y → y.nd? = some m → ¬ Bk (fun q => (own k).cur ep (p ++ (off + i, j) :: q)) m b) := by
  obtain ⟨hT, hB, hep, hfr⟩ := nd_obj r hk
  subst he
  rcases hT.1 p _ hp with ⟨rfl, ad, ha⟩ | ⟨b, oo, cap, vals, g1, g3, g4, g5, g6, g7, g8, g9, g10, g11⟩
  · have ha' : (own k).am (ep p.length) p = some (.e ad) := ha
    cases hv with
    | refE _ _ _ a' h =>
      rw [ha'] at h
      injection h with h
      injection h with h
      subst h
      exact ⟨ad, 0, [], rfl, by simp, fun h => absurd rfl h, by simpa using Sup.nil, .inl ⟨rfl, rfl⟩⟩
    | refZ _ _ _ _ a' h => exact ⟨a', 0, [], rfl, by simp, fun h => absurd rfl h, by simpa using Sup.nil, .inl ⟨rfl, rfl⟩⟩
    | ref _ _ _ _ _ b o sz' cap m h => rw [ha'] at h; injection h with h; exact nomatch h
  · have g1' : (own k).am (ep p.length) p = some (.at b oo sz cap xs.length) := g1
    cases hv with
    | refE _ _ _ a' h => rw [g1'] at h; injection h with h; exact nomatch h
    | refZ _ _ _ _ a' h => exact ⟨a', 0, [], rfl, by simp, fun h => absurd rfl h, by simpa using Sup.nil, .inl ⟨rfl, rfl⟩⟩
    | ref _ _ _ _ _ b' o' sz' cap' m' h hl hm hnn =>
      rw [g1'] at h
      injection h with h
      injection h with e1 e2 e3 e4 e5
      subst e1 e2 e3 e4 e5
      have hlen : ((xs.drop off).take len).length = len := by simp; omega
      have hbound : (off + len) * sz ≤ cap * sz := Nat.mul_le_mul_right _ (by omega)
      rw [Nat.add_mul] at hbound
      have hget : ∀ t, t < len * sz → ((List.range (len * sz)).map fun j => vals.getD (oo + off * sz + j) undef)[t]? = vals[oo + off * sz + t]? := by
        intro t ht
        simp [ht, Array.getD_eq_getD_getElem?, Array.getElem?_eq_getElem (show oo + off * sz + t < vals.size by omega)]
      have hsub : ∀ (i : Nat) (x : T) (j : Nat) (y : T) (m : Nd), ((xs.drop off).take len)[i]? = some x → x.cells[j]? = some y → y.nd? = some m → i < len ∧ xs[off + i]? = some x ∧ nodeAt nd (p ++ [(off + i, j)]) = some m := by
        intro i x j y m hx hy hn
        have hi : i < len := by
          have := (List.getElem?_eq_some_iff.1 hx).1
          rw [hlen] at this; exact this
        have hx' := hx
        simp [hi] at hx'
        refine ⟨hi, hx', ?_⟩
        rw [nodeAt_append hp]
        exact nodeAt_cons.2 ⟨x, y, m, hx', hy, hn, nodeAt_nil⟩
      have hbk : ∀ (i : Nat) (x : T) (j : Nat) (y : T) (m : Nd) (b' : Nat), ((xs.drop off).take len)[i]? = some x → x.cells[j]? = some y → y.nd? = some m → Bk (fun q => (own k).cur ep (p ++ (off + i, j) :: q)) m b' → ∃ q n o s cp mm, nodeAt nd (p ++ (off + i, j) :: q) = some n ∧ (own k).cur ep (p ++ (off + i, j) :: q) = some (.at b' o s cp mm) := by
        rintro i x j y m b' hx hy hn ⟨q, n, o, s, cp, mm, h1, h2⟩
        obtain ⟨_, _, h3⟩ := hsub i x j y m hx hy hn
        refine ⟨q, n, o, s, cp, mm, ?_, h2⟩
        have := nodeAt_append (q := q) h3
        rw [h1] at this
        simpa using this
      refine ⟨some ⟨b, oo + off * sz, none⟩, cap - off, (List.range (len * sz)).map fun j => vals.getD (oo + off * sz + j) undef, rfl, hlen, fun _ => ⟨_, rfl, ?_⟩, ⟨?_, by rw [hlen]; simp, ?_, ?_, ?_⟩,
        .inr ⟨b, oo, cap, vals, g1, rfl, rfl, g5, g6, hl, g7, g3, hB b ⟨p, _, _, _, _, _, hp, g1⟩, fun t ht => (hget t ht).symm, ?_⟩⟩
      · intro j v hj
        rw [add_plain]
        have hlt : j < len * sz := by
          have := (List.getElem?_eq_some_iff.1 hj).1
          simpa using this
        rw [hget j hlt] at hj
        rw [cell_of g5 (by omega)]
        rw [Array.getElem?_eq_getElem (show oo + off * sz + j < vals.size by omega)] at hj
        simp [Array.getD_eq_getD_getElem?, Array.getElem?_eq_getElem (show oo + off * sz + j < vals.size by omega)]
        injection hj
      · exact fun x hx => g9 x (List.drop_subset _ _ (List.take_subset _ _ hx))
      · intro v hv
        obtain ⟨j, hj, rfl⟩ := List.mem_map.1 hv
        have hj : j < len * sz := by simpa using hj
        have hle2 : (off + len) * sz ≤ xs.length * sz := Nat.mul_le_mul_right _ (by omega)
        rw [Nat.add_mul] at hle2
        have := g11 (off * sz + j) (by omega)
        rwa [← Nat.add_assoc] at this
      · intro i x j y v hx hy hv
        have hi : i < len := by
          have := (List.getElem?_eq_some_iff.1 hx).1
          rw [hlen] at this; exact this
        have hj : j < sz := by rw [← g9 x (List.drop_subset _ _ (List.take_subset _ _ (List.mem_of_getElem? hx)))]; exact (List.getElem?_eq_some_iff.1 hy).1
        have hlt := flat_idx (L := 0) hi hj
        rw [hget _ hlt] at hv
        have hx' := hx
        simp [hi] at hx'
        have e : oo + (off + i) * sz + j = oo + off * sz + (i * sz + j) := by rw [Nat.add_mul]; omega
        have hc := g10 (off + i) x j y v hx' hy (by rw [e]; exact hv)
        cases hyn : y.nd? with
        | none => exact .inl ⟨rfl, by cases y <;> first | exact hc | exact nomatch hyn⟩
        | some m =>
          obtain ⟨_, _, h3⟩ := hsub i x j y m hx hy hyn
          have hTs : TreeOk F w (fun q => (own k).cur ep (p ++ (off + i, j) :: q)) m := (hT.sub h3).move (fun q => by simp) (fun _ _ => rfl) fun _ _ h => h
          have e := nd_of hyn
          subst e
          refine .inr ?_
          have hbs : ∀ b', Bk (fun q => (own k).cur ep (p ++ (off + i, j) :: q)) m b' → ∃ k', k' ∈ [k] ∧ (own k').bl b' := by
            intro b' hb'
            obtain ⟨q, n, o, s, cp, mm, w1, w2⟩ := hbk i x j _ m b' hx hy (nd_toT m) hb'
            exact ⟨k, by simp, hB b' ⟨_, _, _, _, _, _, w1, w2⟩⟩
          cases m with
          | row E2 s2 x2 =>
            obtain ⟨Lo, q1, q2⟩ := hc
            exact ⟨_, Lo, rfl, hTs, q1, q2, hbs⟩
          | map k2 e2 =>
            obtain ⟨Lo, q1, q2⟩ := hc
            exact ⟨_, Lo, rfl, hTs, q1, q2, hbs⟩
      · intro i j i' j' x x' y y' m m' b' hx hy hn hx' hy' hn' hb1 hb2
        obtain ⟨q, n, o, s, cp, mm, w1, w2⟩ := hbk i x j y m b' hx hy hn hb1
        obtain ⟨q', n', o', s', cp', mm', w3, w4⟩ := hbk i' x' j' y' m' b' hx' hy' hn' hb2
        have := hT.2 _ _ _ _ b' _ _ _ _ _ _ _ _ w1 w3 w2 w4
        have := List.append_cancel_left this
        injection this with this _
        injection this with e1 e2
        exact ⟨by omega, e2⟩
      · intro i x j y m hx hy hn hb1
        obtain ⟨q, n, o, s, cp, mm, w1, w2⟩ := hbk i x j y m b hx hy hn hb1
        have := hT.2 _ _ _ _ b _ _ _ _ _ _ _ _ hp w1 g1 w2
        have := congrArg List.length this
        simp at this

/-- What is appended, as the machine reads it. -/
theorem srcK_out (r : Rel own F w σ) {y : SV} {vy : Value} {esz : Nat} {K : List T → List Nat → Prop} (hy : VS own F w y vy) (h : srcK esz y σ K) :
    ∃ (ys : List T) (L : List Nat) (ad : Option Addr) (c : Nat) (news : List Value) (A : Nat → Nat → Path → Option Loc), K ys L ∧ vy = .slice ad ys.length c ∧ (news ≠ [] → ∃ p, ad = some p ∧ ∀ j v, news[j]? = some v → w.cell? (p.add j) = some v) ∧ Sup own F w L esz A ys news := by
  unfold srcK at h
  split at h
  · rename_i sz ys
    obtain ⟨hb, h1, h2⟩ := bif_elim0 h
    have h1 := h1.out
    have := Nat.eq_of_beq_eq_true hb
    subst this
    cases hy with
    | t _ _ hv =>
      cases hv with
      | sl0 _ ad c => exact ⟨[], [], ad, c, [], fun _ _ _ => none, h2, rfl, fun h => absurd rfl h, Sup.nil⟩
      | sl _ _ b off c vals hp hc hn hF hz hcell h1c hh =>
        refine ⟨ys, [], some ⟨b, off, none⟩, c, (List.range (ys.length * sz)).map vals, fun _ _ _ => none, h2, rfl, fun _ => ⟨_, rfl, ?_⟩, ⟨hz, by simp, ?_, ?_, ?_⟩⟩
        · intro j v hj
          rw [add_plain]
          have hlt : j < ys.length * sz := by
            have := (List.getElem?_eq_some_iff.1 hj).1
            simpa using this
          simp [hlt] at hj
          subst hj
          exact hcell j hlt
        · intro v hv
          obtain ⟨j, hj, rfl⟩ := List.mem_map.1 hv
          exact h1c j (by simpa using hj)
        · intro i x j c v hx hc hv
          have hlt : i * sz + j < ys.length * sz := by
            have := (List.getElem?_eq_some_iff.1 hv).1
            simpa using this
          simp [hlt] at hv
          subst hv
          exact .inl ⟨noNst_nd.1 (h1 x (List.mem_of_getElem? hx) c (List.mem_of_getElem? hc)), hh i x j c hx hc⟩
        · intro i j i' j' x x' y y' m m' b hx hy hn
          rw [noNst_nd.1 (h1 x (List.mem_of_getElem? hx) y (List.mem_of_getElem? hy))] at hn
          exact nomatch hn
  · cases hy with
    | t _ _ hv => cases hv; exact ⟨[], [], none, 0, [], fun _ _ _ => none, h, rfl, fun h => absurd rfl h, Sup.nil⟩
  · cases hy with
    | t _ _ hv =>
      cases hv with
      | esl ad => exact ⟨[], [], ad, 0, [], fun _ _ _ => none, h, rfl, fun h => absurd rfl h, Sup.nil⟩
  · rename_i k e p off len
    split at h
    · rename_i ep nd hk
      obtain ⟨h1, h2⟩ := h
      have h1 := h1.out
      obtain ⟨n, hp, h3⟩ := nodeK_out h2
      cases n with
      | map => exact h3.elim
      | row E sz xs =>
        obtain ⟨hb, h3'⟩ := bif_elim0 h3
        clear h3
        have := Nat.eq_of_beq_eq_true hb
        subst this
        have h3 := h3'.out
        obtain ⟨ad, c, news, g1, g2, g3, g4, _⟩ := own_part r hk hp h1 hy
        have hne : news ≠ [] → len ≠ 0 := fun hne h0 => by
          have := g4.hl
          rw [g2, h0, Nat.zero_mul] at this
          exact hne (List.eq_nil_of_length_eq_zero this)
        rcases h3 with ⟨h4, h5⟩ | h4
        · exact ⟨_, [], ad, c, news, fun _ _ _ => none, h5, by rw [g2]; exact g1, fun h => g3 (hne h), g4.flat h4.out⟩
        · split at h4
          · exact ⟨_, [k], ad, c, news, _, h4, by rw [g2]; exact g1, fun h => g3 (hne h), g4⟩
          · exact h4.elim
    · exact h.elim
  · exact h.elim

theorem run_firstCells (w : World) (esz n : Nat) (ad : Option Addr) (l c : Nat) (news : List Value) (hl : news.length = n * esz) (h : news ≠ [] → ∃ p, ad = some p ∧ ∀ j v, news[j]? = some v → w.cell? (p.add j) = some v) :
    (Builtin.firstCells esz n (.slice ad l c)).run P w = .ok news.toArray w := by
  cases hn : news with
  | nil =>
    rw [hn] at hl
    have h0 : n * esz = 0 := hl.symm
    cases ad with
    | none => simp [Builtin.firstCells]
    | some p =>
      simp [Builtin.firstCells, h0, loadCells, loadCellsFrom]
  | cons v vs =>
    obtain ⟨p, hp, hc⟩ := h (by rw [hn]; simp)
    subst hp
    rw [← hn]
    exact run_firstCells_some w esz n p l c news hl hc

theorem run_append_grow' (ht : TabOk P tt) {t u ty E E' : TypeId} (htt : (tt.at t).ti = .slice E) (htu : (tt.at u).ti = .slice E') (hg : (tt.at E).ti.good = true) (w : World) (base : Option Addr) (sLen sCap : Nat) (olds : List Value) (hlo : olds.length = sLen * (tt.at E).size)
    (ho : olds ≠ [] → ∃ p, base = some p ∧ ∀ j v, olds[j]? = some v → w.cell? (p.add j) = some v) (ad : Option Addr) (n c : Nat) (news : List Value) (hln : news.length = n * (tt.at E).size)
    (hn : news ≠ [] → ∃ p, ad = some p ∧ ∀ j v, news[j]? = some v → w.cell? (p.add j) = some v) (hgr : sCap < sLen + n) (h48 : sLen + n ≤ 2 ^ 48) (hb : (sLen + n) * (tt.at E).bytes ≤ 2 ^ 47) :
    ∃ (cap : Nat) (rest : List Value), sLen + n ≤ cap ∧ (olds ++ news ++ rest).length = cap * (tt.at E).size ∧ (Builtin.append_ #[t, u] ty #[.slice base sLen sCap, .slice ad n c]).run P w =
      .ok (.slice (some ⟨w.heap.size, 0, none⟩) (sLen + n) cap) (w.drew.alloc (.cells (olds ++ news ++ rest).toArray E)) := by
  have hu := und_slice (ht.at t (by rw [htt]; rfl)) htt
  have huu := und_slice (ht.at u (by rw [htu]; rfl)) htu
  obtain ⟨i, hi, hs, hby, hz0, z, hz, hzs, _⟩ := (ht.at E hg).info
  have fo := run_firstCells (P := P) w.drew (tt.at E).size sLen base sLen sCap olds hlo ho
  have fn := run_firstCells (P := P) w.drew (tt.at E).size n ad n c news hln hn
  rw [← hs] at fo fn
  have hfit := growslice_fits hgr (bytes := i.bytes) (by rw [hby]; omega)
  have h1 : ¬ (sLen + n ≤ sCap) := by omega
  have h63 : ¬ (((sLen + n : Nat) : Int) > IntKind.i64.max) := by
    have : IntKind.i64.max = 9223372036854775807 := by decide
    omega
  have hf2 : ¬ (Builtin.nextslicecap (sLen + n) sCap * i.bytes > 2 ^ 48) := by omega
  refine ⟨grownCap w (sLen + n) sCap E, (Builtin.zeroCells z.cells (grownCap w (sLen + n) sCap E - (sLen + n))).toList, ?_, ?_, ?_⟩
  · unfold grownCap
    simp only [Question.cut]
    omega
  · have hcap : sLen + n ≤ grownCap w (sLen + n) sCap E := by unfold grownCap; simp only [Question.cut]; omega
    simp only [List.length_append, hlo, hln, Array.length_toList, Builtin.zeroCells, Array.size_map, Array.size_range, hzs]
    rw [← Nat.add_mul, ← Nat.add_mul]
    congr 1
    omega
  · have e : (olds ++ news ++ (Builtin.zeroCells z.cells (grownCap w (sLen + n) sCap E - (sLen + n))).toList).toArray = olds.toArray ++ news.toArray ++ Builtin.zeroCells z.cells (grownCap w (sLen + n) sCap E - (sLen + n)) := by
      apply Array.ext'; simp
    rw [e]
    unfold Builtin.append_
    simp only [List.getElem?_toArray, List.getElem?_cons_zero, List.getElem?_cons_succ, Sem.run_bind, run_underlying hu, Result.andThen_ok, run_underlying huu, Sem.run_pure, sizeOf, typeInfo, run_program, hi, Builtin.lenOf, h1, if_false, Bool.false_eq_true, false_or]
    have a1 : ¬ (9223372036854775807 < (sLen : Int) + (n : Int)) := by omega
    have a2 : ¬ (281474976710656 < Builtin.nextslicecap (sLen + n) sCap * i.bytes) := by omega
    simp [run_underlying hu, run_underlying huu, sizeOf, typeInfo, zeroValue, hi, hz, Builtin.lenOf, h1, a1, a2, Question.forced, fo, fn, newRow, grownCap]
    congr 2
    apply Array.ext'
    simp

theorem run_append_fit' (ht : TabOk P tt) {t u ty E E' : TypeId} (htt : (tt.at t).ti = .slice E) (htu : (tt.at u).ti = .slice E') (hg : (tt.at E).ti.good = true) (w : World) (base : Option Addr) (sLen sCap : Nat) (ad : Option Addr) (n c : Nat) (news : List Value) (hln : news.length = n * (tt.at E).size)
    (hn : news ≠ [] → ∃ p, ad = some p ∧ ∀ j v, news[j]? = some v → w.cell? (p.add j) = some v) (hfit : sLen + n ≤ sCap) :
    (Builtin.append_ #[t, u] ty #[.slice base sLen sCap, .slice ad n c]).run P w =
      ((match base with | some p => storeCells (p.add (sLen * (tt.at E).size)) news | none => pure ()) >>= fun _ => (pure (.slice base (sLen + n) sCap) : Sem Value)).run P w := by
  have hu := und_slice (ht.at t (by rw [htt]; rfl)) htt
  have huu := und_slice (ht.at u (by rw [htu]; rfl)) htu
  obtain ⟨i, hi, hs, hby, hz0, z, hz, hzs, _⟩ := (ht.at E hg).info
  have fn := run_firstCells (P := P) w (tt.at E).size n ad n c news hln hn
  rw [← hs] at fn ⊢
  unfold Builtin.append_
  cases base <;> simp [run_underlying hu, run_underlying huu, sizeOf, typeInfo, hi, Builtin.lenOf, hfit, fn]


theorem setRow_self (w : World) (b : Nat) (vals : Array Value) (E : TypeId) (fr : Nat × Nat) (h : w.heap[b]? = some (.cells vals E fr)) : w.setRow b vals = w := by
  have hh : (w.setRow b vals).heap = w.heap := by
    apply Array.ext_getElem?
    intro i
    by_cases hi : i = b
    · subst hi; rw [h]; exact setRow_heap w i vals vals E fr h
    · exact heap_setRow_other w b vals i hi
  have : w.setRow b vals = { w with heap := (w.setRow b vals).heap } := rfl
  rw [this, hh]
theorem kills_app : ∀ (L M : List Nat) (σ : Sto), kills (L ++ M) σ = kills M (kills L σ)
  | [], M, σ => rfl
  | k :: L, M, σ => kills_app L M _

theorem op_append (ht : TabOk P tt) (hn : Next P o a own F w σ K next) (r : Rel own F w σ) {t u E E' : TypeId} {x y : Operand} (ho : o.op = .call { callee := .builtin .append, args := #[x, y], argTypes := #[t, u] }) (htt : (tt.at t).ti = .slice E) (htu : (tt.at u).ti = .slice E')
    {sx sy : SV} (hx : VS own F w sx (a.eval x)) (hy : VS own F w sy (a.eval y)) (hs : appendOp tt E sx sy σ K) : o.wp P a w next Q := by
  unfold appendOp at hs
  simp only at hs
  obtain ⟨hgs, hs⟩ := bif_elim0 hs
  simp only [Bool.and_eq_true] at hgs
  obtain ⟨hg, hpos⟩ := hgs
  have hpos : 0 < (tt.at E).size := by simpa [Nat.blt_eq] using hpos
  obtain ⟨sx', σ1, own1, hs, r1, e1, l1, hx1⟩ := tak1_sound r hx hs
  obtain ⟨ys, L, ad, c, news, A, hs, hvy, hread, hsup⟩ := srcK_out r1 (hy.ext r e1) hs
  have hln := hsup.hl
  have run : ∀ (base : Option Addr) (l cp : Nat) (v : Value) (w' : World), a.eval x = .slice base l cp → (Builtin.append_ #[t, u] o.type #[.slice base l cp, .slice ad ys.length c]).run P w = .ok v w' → (execOp a.eval o).run P w = .ok (.value v) w' := by
    intro base l cp v w' hvx hr
    unfold execOp
    simp only [ho, resolve, Sem.run_bind, Sem.run_pure, Result.andThen_ok, invoke, builtin]
    have e : #[x, y].map a.eval = #[.slice base l cp, .slice ad ys.length c] := by simp [hvx, hvy]
    rw [e, hr]; rfl
  have empty : ∀ (base : Option Addr) (M : List Nat), a.eval x = .slice base 0 0 → ys.length * (tt.at E).bytes ≤ 2 ^ 47 → ys.length ≤ 2 ^ 48 →
      K (.osl σ1.length 0 ys.length) (kills (L ++ M) σ1 ++ [.row E (tt.at E).size ys]) → o.wp P a w next Q := by
    intro base M hvx hb h48 hk
    cases hys : ys with
    | nil =>
      subst hys
      have hr := run_append_fit' ht htt htu hg (ty := o.type) w base 0 0 ad 0 c news hln hread (by omega)
      have hnil : news = [] := by simpa using hln
      subst hnil
      have hr' : (Builtin.append_ #[t, u] o.type #[.slice base 0 0, .slice ad ([] : List T).length c]).run P w = .ok (.slice base 0 0) w := by
        show (Builtin.append_ #[t, u] o.type #[.slice base 0 0, .slice ad 0 c]).run P w = _
        rw [hr]
        cases base <;> simp [storeCells]
      obtain ⟨own', r', e', ha⟩ := r1.gather0 (L ++ M) E (tt.at E).size base
      exact wp_value (run base 0 0 _ w hvx hr') (hn _ _ _ _ _ _ hk (e1.trans (e'.mono l1)) r' (by simp [kills_len]; omega) (.refE _ _ _ base ha))
    | cons z zs =>
      have hlen : 0 < ys.length := by rw [hys]; simp
      obtain ⟨cap, rest, g1, g2, g3⟩ := run_append_grow' ht htt htu hg (ty := o.type) w base 0 0 [] (by simp) (fun h => absurd rfl h) ad ys.length c news hln hread (by omega) (by omega) (by simpa using hb)
      simp only [Nat.zero_add, List.nil_append] at g1 g2 g3
      have hsup' : Sup own1 F w (L ++ M) (tt.at E).size A ys news := ⟨hsup.hc, hsup.hl, hsup.one, fun i x j y v q1 q2 q3 => by
        rcases hsup.cell i x j y v q1 q2 q3 with h | ⟨m, Lo, h1, h2, h3, h4, h5⟩
        · exact .inl h
        · exact .inr ⟨m, Lo, h1, h2, h3, h4, fun b hb => by obtain ⟨k, z1, z2⟩ := h5 b hb; exact ⟨k, by simp [z1], z2⟩⟩, hsup.dis⟩
      obtain ⟨own', r', e', ha⟩ := r1.gather hsup' (E := E) (b := w.heap.size) (oo := 0) (cap := cap) (arr := (news ++ rest).toArray) hpos (by omega) g1 h48 (w' := w.drew.alloc (.cells (news ++ rest).toArray E)) rfl rfl rfl (by simp) (fun i hi _ => Below.heap_alloc w.drew _ i hi) (.inl (Nat.le_refl _)) (heap_alloc_new w.drew _)
        (by simpa using Nat.le_of_eq g2.symm) (fun t ht => by rw [Nat.zero_add, List.getElem?_toArray, List.getElem?_append_left ht])
      refine wp_value (run base 0 0 _ _ hvx g3) (hn _ _ _ _ _ _ hk (e1.trans (e'.mono l1)) r' (by simp [kills_len]; omega) ?_)
      have := VS.ref (F := F) (w := w.drew.alloc (.cells (news ++ rest).toArray E)) σ1.length 0 [] 0 ys.length _ _ _ _ _ ha (by omega) g1 h48
      simpa using this
  split at hs
  · obtain ⟨h1, h2, h3⟩ := hs
    rw [forceSto_iff] at h3
    generalize hmx : a.eval x = mx at hx1
    cases hx1 with
    | t _ _ hv => cases hv; exact empty none [] hmx h1.out h2.out (by simpa using h3)
  · obtain ⟨h1, h2, h3⟩ := hs
    rw [forceSto_iff] at h3
    generalize hmx : a.eval x = mx at hx1
    cases hx1 with
    | t _ _ hv =>
      cases hv with
      | esl ad0 => exact empty ad0 [] hmx h1.out h2.out (by simpa using h3)
  · rename_i k ee off len _
    split at hs
    · rename_i ep E1 sz ts hk
      cases hkL : L.contains k || !Nat.beq ee 0 with
      | true => rw [hkL] at hs; exact hs.elim
      | false =>
        rw [hkL, cond_false] at hs
        obtain ⟨h1, h3, h4, h5⟩ := hs
        have h5 := h5.out
        rw [forceSto_iff] at h5
        obtain ⟨h1a, h1b⟩ := h1.out
        have h3 := h3.out
        have h4 := h4.out
        subst h1a h1b
        simp only [Bool.or_eq_false_iff, Bool.not_eq_false'] at hkL
        have hee0 := Nat.eq_of_beq_eq_true hkL.2
        have hkL : k ∉ L := by simpa using hkL.1
        obtain ⟨hT, hB, hep, hfr⟩ := nd_obj r1 hk
        have hee : ee = ep ([] : Path).length := hee0.trans hep.symm
        obtain ⟨bad, bc, olds, q1, q2, q3, q4, q5⟩ := own_part r1 hk nodeAt_nil hee hx1
        have hmv := q1
        have hkl : k < σ1.length := by rw [nth_eq] at hk; exact Rel.lt_obj hk
        have hset : (kills L σ1).set k .dead = kills (L ++ [k]) σ1 := by rw [kills_app]; rfl
        rw [hset] at h5
        rcases q5 with ⟨rfl, rfl⟩ | ⟨b, oo, cap, vals, w1, w2, w3, w4, w5, w6, w7, w8, w9, w10, w11⟩
        · simp only [List.take_zero, List.nil_append, Nat.zero_add] at h3 h4 h5
          exact empty bad [k] hmv h3 h4 h5
        · have hol : olds.length = len * (tt.at E1).size := by rw [q4.hl, q2]
          have hor : olds ≠ [] → ∃ q, bad = some q ∧ ∀ j v, olds[j]? = some v → w.cell? (q.add j) = some v := fun hne => q3 fun h0 => hne (List.eq_nil_of_length_eq_zero (by rw [hol, h0, Nat.zero_mul]))
          have hsup2 := (Sup.append r1 q4 hsup (fun j hj => by simp at hj; subst hj; exact hkL))
          have hsup3 : Sup own1 F w (L ++ [k]) (tt.at E1).size _ ((ts.drop off).take len ++ ys) (olds ++ news) := ⟨hsup2.hc, hsup2.hl, hsup2.one, fun i x j y v g1 g2 g3 => by
            rcases hsup2.cell i x j y v g1 g2 g3 with h | ⟨m, Lo, z1, z2, z3, z4, z5⟩
            · exact .inl h
            · exact .inr ⟨m, Lo, z1, z2, z3, z4, fun b hb => by obtain ⟨k', y1, y2⟩ := z5 b hb; exact ⟨k', by simp at y1 ⊢; rcases y1 with h | h; exact .inr h; exact .inl h, y2⟩⟩, hsup2.dis⟩
          have hlen2 : ((ts.drop off).take len ++ ys).length = len + ys.length := by rw [List.length_append, q2]
          have hbk : ∀ (i : Nat) (x : T) (j : Nat) (y : T) (m : Nd), ((ts.drop off).take len ++ ys)[i]? = some x → x.cells[j]? = some y → y.nd? = some m → ¬ Bk ((fun i j => if i < ((ts.drop off).take len).length then (fun i j q => (own1 k).cur ep ([] ++ (off + i, j) :: q)) i j else A (i - ((ts.drop off).take len).length) j) i j) m b := by
            intro i x j y m g1 g2 g3 g4
            rcases Nat.lt_or_ge i ((ts.drop off).take len).length with hi | hi
            · rw [List.getElem?_append_left hi] at g1
              simp only [if_pos hi] at g4
              exact w11 i x j y m g1 g2 g3 g4
            · rw [List.getElem?_append_right hi] at g1
              simp only [if_neg (show ¬ i < ((ts.drop off).take len).length by omega)] at g4
              have hj : j < (tt.at E1).size := by rw [← hsup.hc x (List.mem_of_getElem? g1)]; exact (List.getElem?_eq_some_iff.1 g2).1
              have hlt := flat_idx (L := 0) (List.getElem?_eq_some_iff.1 g1).1 hj
              rw [← hsup.hl] at hlt
              rcases hsup.cell _ x j y _ g1 g2 (List.getElem?_eq_getElem hlt) with ⟨h, _⟩ | ⟨m', Lo, z1, _, _, _, z5⟩
              · rw [g3] at h; exact nomatch h
              · rw [g3] at z1; injection z1 with z1; subst z1
                obtain ⟨k', y1, y2⟩ := z5 b g4
                have := r1.inj k' k b y2 w9
                exact hkL (this ▸ y1)
          by_cases hfit : len + ys.length ≤ bc
          · have hr := run_append_fit' ht htt htu hg (ty := o.type) w bad len bc ad ys.length c news hln hread hfit
            rw [w2] at hr
            have hbnd : (off + (len + ys.length)) * (tt.at E1).size ≤ cap * (tt.at E1).size := Nat.mul_le_mul_right _ (by omega)
            rw [Nat.add_mul, Nat.add_mul] at hbnd
            have hst := run_storeCells_at P b (oo + off * (tt.at E1).size + len * (tt.at E1).size) E1 news 0 vals w w4 (by simp; omega) hsup.one
            simp only [Nat.add_zero] at hst
            simp only [add_plain, Sem.run_bind, hst, Result.andThen_ok, Sem.run_pure] at hr
            rw [← w2] at hr
            have hcapm : (cap - off) * (tt.at E1).size = cap * (tt.at E1).size - off * (tt.at E1).size := Nat.sub_mul _ _ _
            by_cases hz : cap - off = 0
            · have hl0 : len = 0 := by omega
              have hy0 : ys = [] := List.eq_nil_of_length_eq_zero (by omega)
              subst hl0 hy0
              have hn0 : news = [] := List.eq_nil_of_length_eq_zero (by simpa using hln)
              subst hn0
              have hw : w.setRow b (vals.toList.take (oo + off * (tt.at E1).size + 0 * (tt.at E1).size) ++ [] ++ vals.toList.drop (oo + off * (tt.at E1).size + 0 * (tt.at E1).size + ([] : List Value).length)).toArray = w := by
                simp only [Nat.zero_mul, Nat.add_zero, List.length_nil, List.append_nil, List.take_append_drop, Array.toArray_toList]
                exact setRow_self w b vals _ _ w4
              rw [hw] at hr
              simp only [List.take_zero, List.nil_append, Nat.zero_add, List.length_nil, Nat.add_zero] at h5 hr
              obtain ⟨own', r', e', ha⟩ := r1.gather0 (L ++ [k]) E1 (tt.at E1).size bad
              refine wp_value (run _ _ _ _ _ hmv hr) (hn _ _ _ _ _ _ h5 (e1.trans (e'.mono l1)) r' (by simp [kills_len]; omega) ?_)
              rw [w3, hz]
              exact .refE _ _ _ bad ha
            · obtain ⟨own', r', e', ha⟩ := r1.gather hsup3 (E := E1) (b := b) (oo := oo + off * (tt.at E1).size) (cap := cap - off) (arr := (vals.toList.take (oo + off * (tt.at E1).size + len * (tt.at E1).size) ++ news ++ vals.toList.drop (oo + off * (tt.at E1).size + len * (tt.at E1).size + news.length)).toArray) hpos (by omega) (by rw [hlen2]; omega) (by rw [hlen2]; exact h4)
                (w' := w.setRow b (vals.toList.take (oo + off * (tt.at E1).size + len * (tt.at E1).size) ++ news ++ vals.toList.drop (oo + off * (tt.at E1).size + len * (tt.at E1).size + news.length)).toArray) rfl rfl rfl (by simp) (fun x _ hx => heap_setRow_other w b _ x hx) (.inr ⟨⟨k, by simp, w9⟩, hbk⟩) (setRow_heap w b vals _ E1 (0, 0) w4) (by simp; omega) (fun t ht => by
                  have htn : t < len * (tt.at E1).size + news.length := by simpa [hol] using ht
                  rw [List.getElem?_toArray, splice_get _ _ _ _ (by simp; omega)]
                  by_cases hto : t < olds.length
                  · rw [if_neg (by omega), List.getElem?_append_left hto]
                    rw [Array.getElem?_toList]
                    exact w10 t (by omega)
                  · rw [if_pos (by omega), List.getElem?_append_right (by omega)]
                    congr 1; omega)
              refine wp_value (run _ _ _ _ _ hmv hr) (hn _ _ _ _ _ _ h5 (e1.trans (e'.mono l1)) r' (by simp [kills_len]; omega) ?_)
              have := VS.ref (own := own') (F := F) (w := w.setRow b (vals.toList.take (oo + off * (tt.at E1).size + len * (tt.at E1).size) ++ news ++ vals.toList.drop (oo + off * (tt.at E1).size + len * (tt.at E1).size + news.length)).toArray) σ1.length 0 [] 0 (len + ys.length) _ _ _ _ _ ha (by rw [hlen2]; omega) (by rw [hlen2]; omega) h4
              rw [w2, w3]
              simpa using this
          · obtain ⟨ncap, rest, g1, g2, g3⟩ := run_append_grow' ht htt htu hg (ty := o.type) w bad len bc olds hol hor ad ys.length c news hln hread (by omega) h4 h3
            obtain ⟨own', r', e', ha⟩ := r1.gather hsup3 (E := E1) (b := w.heap.size) (oo := 0) (cap := ncap) (arr := (olds ++ news ++ rest).toArray) hpos (by omega) (by rw [hlen2]; exact g1) (by rw [hlen2]; exact h4) (w' := w.drew.alloc (.cells (olds ++ news ++ rest).toArray E1)) rfl rfl rfl (by simp) (fun i hi _ => Below.heap_alloc w.drew _ i hi) (.inl (Nat.le_refl _)) (heap_alloc_new w.drew _)
              (by simpa using Nat.le_of_eq g2.symm) (fun t ht => by rw [Nat.zero_add, List.getElem?_toArray, List.getElem?_append_left ht])
            refine wp_value (run _ _ _ _ _ hmv g3) (hn _ _ _ _ _ _ h5 (e1.trans (e'.mono l1)) r' (by simp [kills_len]; omega) ?_)
            have := VS.ref (own := own') (F := F) (w := w.drew.alloc (.cells (olds ++ news ++ rest).toArray E1)) σ1.length 0 [] 0 (len + ys.length) _ _ _ _ _ ha (by rw [hlen2]; omega) (by rw [hlen2]; exact g1) h4
            simpa using this
    · exact hs.elim
  · exact hs.elim
end
end Go.Proofs.Ytihebfhhnoneiaa.Am
