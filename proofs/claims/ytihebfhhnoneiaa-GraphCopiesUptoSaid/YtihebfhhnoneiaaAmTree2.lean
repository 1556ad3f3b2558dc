/- Trees of rows: what steps of the machine leave of them. -/
import Derived.Test.YtihebfhhnoneiaaAmTree
namespace Go.Proofs.Ytihebfhhnoneiaa.Am
open Go.RowKit
set_option linter.unusedVariables false
set_option linter.unusedSimpArgs false

section
variable {own own' : Nat → Own} {F F' : Nat → Prop} {w w' : World} {σ : Sto}

theorem heap_setRow_other (w : World) (g : Nat) (cs : Array Value) (i : Nat) (h : i ≠ g) : (w.setRow g cs).heap[i]? = w.heap[i]? := by
  simp only [World.setRow, Array.getElem?_modify]
  rw [if_neg (by omega)]

/-- A splice, cell by cell. -/
theorem splice_get {α : Type} (l vs : List α) (off j : Nat) (h : off + vs.length ≤ l.length) : (l.take off ++ vs ++ l.drop (off + vs.length))[j]? = if off ≤ j ∧ j < off + vs.length then vs[j - off]? else l[j]? := by
  rcases Nat.lt_or_ge j off with h1 | h1
  · rw [if_neg (by omega), List.append_assoc, List.getElem?_append_left (by simp; omega), List.getElem?_take, if_pos h1]
  · rcases Nat.lt_or_ge j (off + vs.length) with h2 | h2
    · rw [if_pos ⟨h1, h2⟩, List.append_assoc, List.getElem?_append_right (by simp; omega), List.getElem?_append_left (by simp; omega)]
      congr 1; simp; omega
    · rw [if_neg (by omega), List.getElem?_append_right (by simp; omega), List.getElem?_drop]
      congr 1; simp; omega

theorem upd1_id {k : Nat} : upd1 own k (own k) = own := by
  funext j
  by_cases h : j = k
  · subst h; exact upd1_same
  · exact upd1_ne h

/-- Values written into a row of a tree. -/
theorem Rel.storeRow (r : Rel own F w σ) {k : Nat} {ep : Nat → Nat} {nd : Nd} (hk : σ[k]? = some (.nd ep nd)) {p : Path} {E : TypeId} {sz : Nat} {xs : List T} (hp : nodeAt nd p = some (.row E sz xs)) {i off : Nat} (hi : i < xs.length) {ys : List T} {us : List Value}
    (hl : us.length = ys.length) (hn : ys ≠ []) (ho : off + ys.length ≤ sz) (hy1 : ∀ y ∈ ys, y.cells = [y]) (hu1 : ∀ u ∈ us, u.oneCell' = true)
    (hyu : ∀ (j : Nat) (y : T) (u : Value), ys[j]? = some y → us[j]? = some u → CellOk F w ((own k).cur ep) p i (off + j) y u ∧ (y.nd? ≠ none → xs[i].cells[off + j]? = some y)) {mv : Value} (hv : VS own F w (.pl k (ep p.length) p i off) mv) :
    ∃ (b a : Nat) (cur : Array Value), mv = .pointer (some ⟨b, a, none⟩) ∧ w.heap[b]? = some (.cells cur E (0, 0)) ∧ a + ys.length ≤ cur.size ∧
      Rel own F (w.setRow b (cur.toList.take a ++ us ++ cur.toList.drop (a + ys.length)).toArray) (σ.set k (.nd ep (setAt nd p (.row E sz (xs.set i (setT sz xs[i] off ys)))))) ∧
      Ext σ.length own F w own F (w.setRow b (cur.toList.take a ++ us ++ cur.toList.drop (a + ys.length)).toArray) ∧
      ∃ (o cap m : Nat), (own k).cur ep p = some (.at b o sz cap m) ∧ a = o + i * sz + off := by
  obtain ⟨hT, hB, hep, hfr⟩ := r.obj k _ hk
  rcases hT.1 p _ hp with ⟨rfl, _⟩ | ⟨b, o, cap, vals, g1, g3, g4, g5, g6, g7, g8, g9, g10, g11⟩
  · simp at hi
  have hmv : mv = .pointer (some ⟨b, o + i * sz + off, none⟩) := by
    cases hv with
    | pl _ _ _ _ _ b' o' sz' cap' m' h =>
      have g1' : (own k).am (ep p.length) p = some (.at b o sz cap xs.length) := g1
      rw [g1'] at h
      injection h with h
      injection h with e1 e2 e3
      subst e1 e2 e3
      rfl
  have hle : (i + 1) * sz ≤ cap * sz := Nat.mul_le_mul_right _ (by omega)
  rw [Nat.add_mul, Nat.one_mul] at hle
  have hfit : o + i * sz + off + ys.length ≤ vals.size := by omega
  have hsp : ∀ j, (vals.toList.take (o + i * sz + off) ++ us ++ vals.toList.drop (o + i * sz + off + ys.length))[j]? = if o + i * sz + off ≤ j ∧ j < o + i * sz + off + ys.length then us[j - (o + i * sz + off)]? else vals[j]? := by
    intro j
    have := splice_get vals.toList us (o + i * sz + off) j (by simp; omega)
    rw [hl] at this
    rw [this]
    simp
  have hxi := g9 xs[i] (List.getElem_mem hi)
  have hX := setT_get hxi ho hn hy1
  have hXl := setT_len hxi ho hn hy1
  have hbk : (own k).bl b := hB b ⟨p, _, _, _, _, _, hp, g1⟩
  refine ⟨b, _, vals, hmv, g5, hfit, ?_⟩
  have hlt : k < σ.length := Rel.lt_obj hk
  have hheap : ∀ x, x ≠ b → (w.setRow b (vals.toList.take (o + i * sz + off) ++ us ++ vals.toList.drop (o + i * sz + off + ys.length)).toArray).heap[x]? = w.heap[x]? := fun x hx => heap_setRow_other w b _ x hx
  have hs : ∀ q p' n, nodeAt (.row E sz (xs.set i (setT sz xs[i] off ys))) (q :: p') = some n → nodeAt (.row E sz xs) (q :: p') = some n := by
    rintro ⟨i', j'⟩ p' n hq
    obtain ⟨x', c', m', k1, k2, k3, k4⟩ := nodeAt_cons.1 hq
    rw [List.getElem?_set] at k1
    by_cases hii : i = i'
    · subst hii
      rw [if_pos rfl, if_pos hi] at k1
      injection k1 with k1
      subst k1
      rw [hX] at k2
      split at k2
      · rename_i hr
        obtain ⟨u, hu⟩ : ∃ u, us[j' - off]? = some u := ⟨_, List.getElem?_eq_getElem (by have := (List.getElem?_eq_some_iff.1 k2).1; omega)⟩
        have := (hyu (j' - off) c' u k2 hu).2 (by rw [k3]; simp)
        rw [show off + (j' - off) = j' by omega] at this
        exact nodeAt_cons.2 ⟨xs[i], c', m', List.getElem?_eq_getElem hi, this, k3, k4⟩
      · exact nodeAt_cons.2 ⟨xs[i], c', m', List.getElem?_eq_getElem hi, k2, k3, k4⟩
    · rw [if_neg hii] at k1
      exact nodeAt_cons.2 ⟨x', c', m', k1, k2, k3, k4⟩
  have ht := r.turn (k := k) (own k) (fun _ h => h) (fun _ _ _ h => h) hlt (w' := w.setRow b (vals.toList.take (o + i * sz + off) ++ us ++ vals.toList.drop (o + i * sz + off + ys.length)).toArray) rfl rfl rfl (by simp)
    (fun x hx => hheap x fun e => hx (e ▸ hbk)) (.nd ep (setAt nd p (.row E sz (xs.set i (setT sz xs[i] off ys))))) (fun hvt hvs => by
      have hm : TreeOk F (w.setRow b (vals.toList.take (o + i * sz + off) ++ us ++ vals.toList.drop (o + i * sz + off + ys.length)).toArray) (fun r => (own k).cur ep (p ++ r)) (.row E sz (xs.set i (setT sz xs[i] off ys))) := by
        refine (hT.sub hp).less hs ?_ (fun q p' n b' o' s' cp' m' h1 h2 => hheap b' fun e => ?_) hvt
        · refine .inr ⟨b, o, cap, _, by simpa using g1, g3, g4, setRow_heap w b vals _ E (0, 0) g5, by simp; omega, by simpa using g7, by simpa using g8, ?_, ?_, ?_⟩
          · intro x hx
            rcases List.mem_or_eq_of_mem_set hx with h | h
            · exact g9 x h
            · subst h; exact hXl
          · intro i' x' j' y' v hx' hy' hv'
            rw [List.getElem?_toArray, hsp] at hv'
            have hxm := hx'
            rw [List.getElem?_set] at hx'
            have hj' : j' < sz := by
              have h1 := (List.getElem?_eq_some_iff.1 hy').1
              rcases List.mem_or_eq_of_mem_set (List.mem_of_getElem? hxm) with h | h
              · rw [g9 x' h] at h1; exact h1
              · rw [h, hXl] at h1; exact h1
            by_cases hii : i = i'
            · subst hii
              rw [if_pos rfl, if_pos hi] at hx'
              injection hx' with hx'
              subst hx'
              rw [hX] at hy'
              by_cases hr : off ≤ j' ∧ j' < off + ys.length
              · rw [if_pos hr] at hy'
                rw [if_pos (by omega)] at hv'
                rw [show o + i * sz + j' - (o + i * sz + off) = j' - off by omega] at hv'
                have := (hyu _ y' v hy' hv').1
                rw [show off + (j' - off) = j' by omega] at this
                exact this.move (by simp) hvt
              · rw [if_neg hr] at hy'
                rw [if_neg (by omega)] at hv'
                exact (g10 i xs[i] j' y' v (List.getElem?_eq_getElem hi) hy' hv').move (by simp) hvt
            · rw [if_neg hii] at hx'
              have hne : ¬ (o + i * sz + off ≤ o + i' * sz + j' ∧ o + i' * sz + j' < o + i * sz + off + ys.length) := by
                intro hc
                rcases Nat.lt_or_gt_of_ne hii with h | h
                · have : (i + 1) * sz ≤ i' * sz := Nat.mul_le_mul_right _ h
                  rw [Nat.add_mul, Nat.one_mul] at this
                  omega
                · have : (i' + 1) * sz ≤ i * sz := Nat.mul_le_mul_right _ h
                  rw [Nat.add_mul, Nat.one_mul] at this
                  omega
              rw [if_neg hne] at hv'
              exact (g10 i' x' j' y' v hx' hy' hv').move (by simp) hvt
          · intro j hj
            rw [List.length_set] at hj
            have h5 : (vals.toList.take (o + i * sz + off) ++ us ++ vals.toList.drop (o + i * sz + off + ys.length)).toArray[o + j]? = if o + i * sz + off ≤ o + j ∧ o + j < o + i * sz + off + ys.length then us[o + j - (o + i * sz + off)]? else vals[o + j]? := by rw [List.getElem?_toArray]; exact hsp (o + j)
            rw [Array.getD_eq_getD_getElem?, h5]
            split
            · rename_i hr
              have hlt : o + j - (o + i * sz + off) < us.length := by omega
              rw [List.getElem?_eq_getElem hlt]
              exact hu1 _ (List.getElem_mem hlt)
            · have := g11 j hj
              rw [Array.getD_eq_getD_getElem?] at this
              exact this
        · subst e
          have := (hT.sub hp).2 [] (q :: p') _ n b' _ _ _ _ o' s' cp' m' nodeAt_nil h1 (by simpa using g1) h2
          exact nomatch this
      refine ⟨hT.upd hp rfl (c' := (own k).cur ep) (fun _ _ => rfl) rfl hm (fun q n b' o' s' cp' m' h1 h2 h3 => hheap b' fun e => ?_) hvt ?_, ?_, hep, hfr⟩
      · subst e
        exact h1 (hT.2 p q _ n b' _ _ _ _ o' s' cp' m' hp h2 g1 h3 ▸ List.prefix_refl _)
      · rintro b' ⟨q', n', o', s', cp', m', h1, h2⟩ q n o2 s2 cp2 m2 h3 h4 h5
        have : ∃ n0, nodeAt nd (p ++ q') = some n0 := by
          cases q' with
          | nil => exact ⟨_, by simpa using hp⟩
          | cons z q' => exact ⟨n', by rw [nodeAt_append hp]; exact hs z q' n' h1⟩
        obtain ⟨n0, h6⟩ := this
        have := hT.2 (p ++ q') q n0 n b' o' s' cp' m' o2 s2 cp2 m2 h6 h4 h2 h5
        exact h3 (this ▸ List.prefix_append _ _)
      · rintro b' ⟨q', n', o', s', cp', m', h1, h2⟩
        rcases nodeAt_setAt p hp hT.wf rfl q' n' h1 with ⟨r', rfl, h3⟩ | ⟨_, n3, h4, _⟩
        · have : ∃ n0, nodeAt nd (p ++ r') = some n0 := by
            cases r' with
            | nil => exact ⟨_, by simpa using hp⟩
            | cons z q' => exact ⟨n', by rw [nodeAt_append hp]; exact hs z q' n' h3⟩
          obtain ⟨n0, h6⟩ := this
          exact hB b' ⟨_, n0, o', s', cp', m', h6, h2⟩
        · exact hB b' ⟨_, n3, o', s', cp', m', h4, h2⟩)
  rw [upd1_id] at ht
  exact ⟨ht.1, ht.2, o, cap, xs.length, g1, rfl⟩

/-- Objects let go, and one more, whose blocks are theirs or new. -/
theorem Rel.fuse (r : Rel own F w σ) (L : List Nat) (ow : Own) (hb : ∀ b, ow.bl b → (w.heap.size ≤ b ∨ ∃ k, k ∈ L ∧ (own k).bl b) ∧ b < w'.heap.size)
    (os : w'.os = w.os) (tape : w'.tape = w.tape) (output : w'.output = w.output) (sz : w.heap.size ≤ w'.heap.size) (hh : ∀ b, b < w.heap.size → (∀ k, k ∈ L → ¬ (own k).bl b) → w'.heap[b]? = w.heap[b]?)
    (o : SObj) (ho : (∀ x v, VT F w x v → VT F w' x v) → (∀ x v, VS own F w x v → VS (upd1 (ownK own L) σ.length ow) F w' x v) → OR (upd1 (ownK own L) σ.length ow) F w' ow o) :
    Rel (upd1 (ownK own L) σ.length ow) F w' (kills L σ ++ [o]) ∧ Ext σ.length own F w (upd1 (ownK own L) σ.length ow) F w' := by
  have hlen := kills_len L σ
  have hv : ∀ x v, VT F w x v → VT F w' x v := fun x v h => h.mono (fun _ h => h) fun b hF hb => hh b hb fun k _ hk => r.sep k b hk hF
  have ham : ∀ k e p L', (own k).am e p = some L' → (upd1 (ownK own L) σ.length ow k).am e p = some L' := by
    intro k e p L' h
    rw [upd1_ne (by have := r.lt_of h; omega), ownK_am]; exact h
  have hs : ∀ x v, VS own F w x v → VS (upd1 (ownK own L) σ.length ow) F w' x v := fun x v h => h.map' hv ham
  have hL : ∀ k b, (upd1 (ownK own L) σ.length ow k).bl b → (k = σ.length ∧ ow.bl b) ∨ (k ≠ σ.length ∧ (own k).bl b ∧ k ∉ L) := by
    intro k b hk
    by_cases h : k = σ.length
    · subst h; rw [upd1_same] at hk; exact .inl ⟨rfl, hk⟩
    · rw [upd1_ne h] at hk; exact .inr ⟨h, ownK_bl hk⟩
  refine ⟨⟨?_, ?_, ?_, fun b hF => Nat.lt_of_lt_of_le (r.Fb b hF) sz, ?_, ?_⟩, os, tape, output, sz, fun b hb hl => hh b hb fun k _ hk => hl ⟨k, hk⟩, fun _ h => h, fun _ h => .inl h, ?_, fun k hk => ham k⟩
  · intro k hk
    simp [hlen] at hk
    rw [upd1_ne (by omega)]
    by_cases h : k ∈ L
    · rw [ownK_in h, r.unb k (by omega)]; rfl
    · rw [ownK_out h]; exact r.unb k (by omega)
  · intro k k' b h1 h2
    rcases hL k b h1 with ⟨p1, q1⟩ | ⟨p1, q1, s1⟩ <;> rcases hL k' b h2 with ⟨p2, q2⟩ | ⟨p2, q2, s2⟩
    · omega
    · rcases (hb b q1).1 with h | ⟨j, h3, h4⟩
      · have := r.lb _ b q2; omega
      · have := r.inj _ _ b h4 q2; subst this; exact absurd h3 s2
    · rcases (hb b q2).1 with h | ⟨j, h3, h4⟩
      · have := r.lb _ b q1; omega
      · have := r.inj _ _ b h4 q1; subst this; exact absurd h3 s1
    · exact r.inj _ _ b q1 q2
  · intro k b h1 hF
    rcases hL k b h1 with ⟨p1, q1⟩ | ⟨p1, q1, s1⟩
    · rcases (hb b q1).1 with h | ⟨j, h3, h4⟩
      · have := r.Fb b hF; omega
      · exact r.sep j b h4 hF
    · exact r.sep k b q1 hF
  · intro k b h1
    rcases hL k b h1 with ⟨p1, q1⟩ | ⟨p1, q1, s1⟩
    · exact (hb b q1).2
    · exact Nat.lt_of_lt_of_le (r.lb _ b q1) sz
  · intro k o' hk
    rcases Nat.lt_or_ge k σ.length with h | h
    · rw [List.getElem?_append_left (by omega), kills_get] at hk
      rw [upd1_ne (by omega)]
      by_cases hkL : k ∈ L
      · simp [hkL] at hk
        rw [← hk.2]; trivial
      · simp only [hkL, if_false] at hk
        rw [ownK_out hkL]
        exact (r.obj k o' hk).keep (fun b hb => hh b (r.lb k b hb) fun j hj hjb => hkL (r.inj j k b hjb hb ▸ hj)) hv hs
    · rw [List.getElem?_append_right (by omega), hlen] at hk
      have hk0 : k = σ.length := by
        rcases Nat.eq_or_lt_of_le h with h1 | h1
        · exact h1.symm
        · obtain ⟨d, hd⟩ : ∃ d, k - σ.length = d + 1 := ⟨k - σ.length - 1, by omega⟩
          rw [hd] at hk; simp at hk
      subst hk0
      simp at hk
      subst hk
      rw [upd1_same]
      exact ho hv hs
  · rintro b ⟨k, hk⟩
    rcases hL k b hk with ⟨p1, q1⟩ | ⟨p1, q1, s1⟩
    · rcases (hb b q1).1 with h | ⟨j, h3, h4⟩
      · exact .inr h
      · exact .inl ⟨j, h4⟩
    · exact .inl ⟨k, q1⟩

/-- An object told anew, with what others had; these are let go. -/
theorem Rel.absorb (r : Rel own F w σ) (L : List Nat) {k : Nat} (hkL : k ∉ L) (ow : Own) (hbl : ∀ b, ow.bl b → (own k).bl b ∨ ∃ j, j ∈ L ∧ (own j).bl b) (ham : ∀ e p L, (own k).am e p = some L → ow.am e p = some L) (hk : k < σ.length)
    (o : SObj) (ho : (∀ x v, VS own F w x v → VS (upd1 (ownK own L) k ow) F w x v) → OR (upd1 (ownK own L) k ow) F w ow o) :
    Rel (upd1 (ownK own L) k ow) F w ((kills L σ).set k o) ∧ Ext σ.length own F w (upd1 (ownK own L) k ow) F w := by
  have hlen := kills_len L σ
  have hA : ∀ j e p L', (own j).am e p = some L' → (upd1 (ownK own L) k ow j).am e p = some L' := by
    intro j e p L' hj
    by_cases h : j = k
    · subst h; rw [upd1_same]; exact ham e p L' hj
    · rw [upd1_ne h, ownK_am]; exact hj
  have hs : ∀ x v, VS own F w x v → VS (upd1 (ownK own L) k ow) F w x v := fun x v h => h.map' (fun _ _ h => h) hA
  have hL : ∀ j b, (upd1 (ownK own L) k ow j).bl b → (j = k ∧ ((own k).bl b ∨ ∃ i, i ∈ L ∧ (own i).bl b)) ∨ (j ≠ k ∧ (own j).bl b ∧ j ∉ L) := by
    intro j b hj
    by_cases h : j = k
    · subst h; rw [upd1_same] at hj; exact .inl ⟨rfl, hbl b hj⟩
    · rw [upd1_ne h] at hj; exact .inr ⟨h, ownK_bl hj⟩
  have hO : ∀ j b, (upd1 (ownK own L) k ow j).bl b → ∃ i, (own i).bl b := by
    intro j b hj
    rcases hL j b hj with ⟨_, h | ⟨i, _, h⟩⟩ | ⟨_, h, _⟩
    · exact ⟨k, h⟩
    · exact ⟨i, h⟩
    · exact ⟨j, h⟩
  refine ⟨⟨?_, ?_, fun j b h => by obtain ⟨i, hi⟩ := hO j b h; exact r.sep i b hi, r.Fb, fun j b h => by obtain ⟨i, hi⟩ := hO j b h; exact r.lb i b hi, ?_⟩, rfl, rfl, rfl, Nat.le_refl _, fun _ _ _ => rfl, fun _ h => h, fun _ h => .inl h, fun b ⟨j, hj⟩ => .inl (hO j b hj), fun j _ => hA j⟩
  · intro j hj
    simp [hlen] at hj
    rw [upd1_ne (by omega)]
    by_cases h : j ∈ L
    · rw [ownK_in h, r.unb j hj]; rfl
    · rw [ownK_out h]; exact r.unb j hj
  · intro i j b h1 h2
    rcases hL i b h1 with ⟨p1, q1⟩ | ⟨p1, q1, s1⟩ <;> rcases hL j b h2 with ⟨p2, q2⟩ | ⟨p2, q2, s2⟩
    · omega
    · rcases q1 with q1 | ⟨z, z1, z2⟩
      · exact absurd (r.inj _ _ b q2 q1) p2
      · have := r.inj _ _ b z2 q2; subst this; exact absurd z1 s2
    · rcases q2 with q2 | ⟨z, z1, z2⟩
      · exact absurd (r.inj _ _ b q1 q2) p1
      · have := r.inj _ _ b z2 q1; subst this; exact absurd z1 s1
    · exact r.inj _ _ b q1 q2
  · intro j o' hj
    rw [List.getElem?_set] at hj
    by_cases hjk : k = j
    · subst hjk
      rw [if_pos rfl, if_pos (by omega)] at hj
      injection hj with hj
      subst hj
      rw [upd1_same]
      exact ho hs
    · rw [if_neg hjk, kills_get] at hj
      rw [upd1_ne (fun e => hjk e.symm)]
      by_cases h : j ∈ L
      · simp [h] at hj
        rw [← hj.2]; trivial
      · simp only [h, if_false] at hj
        rw [ownK_out h]
        exact (r.obj j o' hj).keep (fun _ _ => rfl) (fun _ _ h => h) hs

theorem pre_append {p r : Path} {q : Nat × Nat} : (p ++ [q]) <+: (p ++ r) ↔ [q] <+: r := List.prefix_append_right_inj p
theorem not_pre_self {p : Path} {q : Nat × Nat} : ¬ (p ++ [q]) <+: p := fun h => by have := h.length_le; simp at this; omega

/-- A tree taken out of a cell. -/
theorem Rel.detach (r : Rel own F w σ) {k : Nat} {ep : Nat → Nat} {nd n2 : Nd} (hk : σ[k]? = some (.nd ep nd)) {p : Path} {E : TypeId} {sz : Nat} {xs : List T} (hp : nodeAt nd p = some (.row E sz xs))
    {x y : T} {i j : Nat} (hx : xs[i]? = some x) (hy : x.cells[j]? = some y) (hyn : y.nd? = some n2) :
    ∃ own', Rel own' F w (σ.set k (.nd ep (setAt nd p (.row E sz (xs.set i (setT sz x j [.any]))))) ++ [.nd e0 n2]) ∧ Ext σ.length own F w own' F w ∧
      (∀ L, (own k).cur ep (p ++ [(i, j)]) = some L → (own' σ.length).am 0 [] = some L) ∧ (own' k).am = (own k).am := by
  obtain ⟨hT, hB, hep, hfr⟩ := r.obj k _ hk
  have hi := (List.getElem?_eq_some_iff.1 hx).1
  have hcx := hT.wf p E sz xs hp x (List.mem_of_getElem? hx)
  have hj : j < sz := by rw [← hcx]; exact (List.getElem?_eq_some_iff.1 hy).1
  have hX := setT_get1 (y := T.any) hcx hj rfl
  have hnd2 : nodeAt nd (p ++ [(i, j)]) = some n2 := by rw [nodeAt_append hp]; exact nodeAt_cons.2 ⟨x, y, n2, hx, hy, hyn, nodeAt_nil⟩
  have hT2 : TreeOk F w (fun r => (own k).cur ep (p ++ (i, j) :: r)) n2 := by
    have := hT.sub hnd2
    simpa using this
  have hs : ∀ q p' n, nodeAt (.row E sz (xs.set i (setT sz x j [T.any]))) (q :: p') = some n → q ≠ (i, j) ∧ nodeAt (.row E sz xs) (q :: p') = some n := by
    rintro ⟨i', j'⟩ p' n hq
    obtain ⟨x', c', m', k1, k2, k3, k4⟩ := nodeAt_cons.1 hq
    rw [List.getElem?_set] at k1
    by_cases hii : i = i'
    · subst hii
      rw [if_pos rfl, if_pos hi] at k1
      injection k1 with k1
      subst k1
      rw [hX] at k2
      by_cases hjj : j' = j
      · subst hjj
        rw [if_pos rfl] at k2
        injection k2 with k2
        subst k2
        exact nomatch k3
      · rw [if_neg hjj] at k2
        exact ⟨fun e => hjj (by injection e), nodeAt_cons.2 ⟨x, c', m', hx, k2, k3, k4⟩⟩
    · rw [if_neg hii] at k1
      exact ⟨fun e => hii (by injection e with e; exact e.symm), nodeAt_cons.2 ⟨x', c', m', k1, k2, k3, k4⟩⟩
  have hm : TreeOk F w (fun r => (own k).cur ep (p ++ r)) (.row E sz (xs.set i (setT sz x j [T.any]))) := by
    refine (hT.sub hp).less (fun q p' n h => (hs q p' n h).2) ?_ (fun _ _ _ _ _ _ _ _ _ _ => rfl) fun _ _ h => h
    rcases (hT.sub hp).1 [] _ nodeAt_nil with ⟨rfl, _⟩ | ⟨b, o, cap, vals, g1, g3, g4, g5, g6, g7, g8, g9, g10, g11⟩
    · simp at hi
    · refine .inr ⟨b, o, cap, vals, by rw [List.length_set]; exact g1, g3, g4, g5, g6, by simpa using g7, by simpa using g8, ?_, ?_, by simpa using g11⟩
      · intro z hz
        rcases List.mem_or_eq_of_mem_set hz with hz | hz
        · exact g9 z hz
        · subst hz; exact setT_len hcx (by simp; omega) (by simp) (by simp [T.cells])
      · intro i' x' j' y' v hx' hy' hv'
        rw [List.getElem?_set] at hx'
        by_cases hii : i = i'
        · subst hii
          rw [if_pos rfl, if_pos hi] at hx'
          injection hx' with hx'
          subst hx'
          rw [hX] at hy'
          by_cases hjj : j' = j
          · subst hjj
            rw [if_pos rfl] at hy'
            injection hy' with hy'
            subst hy'
            exact VT.any _
          · rw [if_neg hjj] at hy'
            exact g10 i x j' y' v hx hy' hv'
        · rw [if_neg hii] at hx'
          exact g10 i' x' j' y' v hx' hy' hv'
  have hold : ∀ q n, nodeAt (setAt nd p (.row E sz (xs.set i (setT sz x j [T.any])))) q = some n → (¬ (p ++ [(i, j)]) <+: q) ∧ ∃ n0, nodeAt nd q = some n0 := by
    intro q n hq
    rcases nodeAt_setAt p hp hT.wf rfl q n hq with ⟨r', rfl, h3⟩ | ⟨h3, n3, h4, _⟩
    · cases r' with
      | nil => exact ⟨by simpa using not_pre_self, _, by simpa using hp⟩
      | cons z q' =>
        obtain ⟨h5, h6⟩ := hs z q' n h3
        exact ⟨fun h => h5 (List.cons_prefix_cons.1 (pre_append.1 h)).1.symm, n, by rw [nodeAt_append hp]; exact h6⟩
    · exact ⟨fun h => h3 ((List.prefix_append p _).trans h), n3, h4⟩
  have hTn : TreeOk F w ((own k).cur ep) (setAt nd p (.row E sz (xs.set i (setT sz x j [T.any])))) := by
    refine hT.upd hp rfl (fun _ _ => rfl) rfl hm (fun _ _ _ _ _ _ _ _ _ _ => rfl) (fun _ _ h => h) ?_
    rintro b' ⟨q', n', o', s', cp', m', h1, h2⟩ q n o2 s2 cp2 m2 h3 h4 h5
    have : ∃ n0, nodeAt nd (p ++ q') = some n0 := by
      cases q' with
      | nil => exact ⟨_, by simpa using hp⟩
      | cons z q' => exact ⟨n', by rw [nodeAt_append hp]; exact (hs z q' n' h1).2⟩
    obtain ⟨n0, h6⟩ := this
    exact h3 (hT.2 (p ++ q') q n0 n b' o' s' cp' m' o2 s2 cp2 m2 h6 h4 h2 h5 ▸ List.prefix_append _ _)
  have hlt := Rel.lt_obj hk
  let ow1 : Own := ⟨(own k).am, fun b => (own k).bl b ∧ ¬ Bk (fun r => (own k).cur ep (p ++ (i, j) :: r)) n2 b⟩
  obtain ⟨r1, e1⟩ := r.turn (k := k) ow1 (fun _ h => h.1) (fun _ _ _ h => h) hlt (w' := w) rfl rfl rfl rfl (fun _ _ => rfl) (.nd ep (setAt nd p (.row E sz (xs.set i (setT sz x j [T.any]))))) (fun _ _ => by
    refine ⟨hTn, ?_, hep, hfr⟩
    rintro b' ⟨q, n, o, s, cp, m, h1, h2⟩
    obtain ⟨h3, n0, h4⟩ := hold q n h1
    refine ⟨hB b' ⟨q, n0, o, s, cp, m, h4, h2⟩, ?_⟩
    rintro ⟨r', n', o', s', cp', m', h5, h6⟩
    have h7 : nodeAt nd (p ++ (i, j) :: r') = some n' := by
      have := nodeAt_append (q := r') hnd2
      rw [h5] at this
      simpa using this
    have := hT.2 q (p ++ (i, j) :: r') n0 n' b' o s cp m o' s' cp' m' h4 h7 h2 h6
    exact h3 (this ▸ by rw [show p ++ (i, j) :: r' = (p ++ [(i, j)]) ++ r' by simp]; exact List.prefix_append _ _))
  let ow2 : Own := ⟨fun e q => if e = 0 then (own k).cur ep (p ++ (i, j) :: q) else none, fun b => Bk (fun r => (own k).cur ep (p ++ (i, j) :: r)) n2 b⟩
  have hlen : (σ.set k (.nd ep (setAt nd p (.row E sz (xs.set i (setT sz x j [T.any])))))).length = σ.length := by simp
  have hb2 : ∀ b, ow2.bl b → (own k).bl b := by
    rintro b ⟨r', n', o', s', cp', m', h5, h6⟩
    refine hB b ⟨p ++ (i, j) :: r', n', o', s', cp', m', ?_, h6⟩
    have := nodeAt_append (q := r') hnd2
    rw [h5] at this
    simpa using this
  obtain ⟨r2, h2, h3, _⟩ := r1.push (w' := w) ow2 (fun b hb => by
    refine ⟨.inr ⟨r.sep k b (hb2 b hb), ?_⟩, r.lb k b (hb2 b hb)⟩
    rintro ⟨j', hj'⟩
    by_cases h : j' = k
    · subst h; rw [upd1_same] at hj'; exact hj'.2 hb
    · rw [upd1_ne h] at hj'; exact h (r.inj _ _ b hj' (hb2 b hb))) rfl rfl rfl (Nat.le_refl _) (fun _ _ => rfl) (.nd e0 n2) (fun own' ho _ _ => by
    refine ⟨?_, ?_, rfl, ?_⟩
    · exact hT2.move (fun q => rfl) (fun _ _ => rfl) fun _ _ h => h
    · intro b hb; exact hb
    · intro e q he
      show (if e = 0 then _ else none) = none
      rw [if_neg (by simp [e0] at he; omega)])
  rw [hlen] at r2 h2 h3
  refine ⟨_, r2, ⟨rfl, rfl, rfl, Nat.le_refl _, fun _ _ _ => rfl, fun _ h => h, fun _ h => .inl h, ?_, ?_⟩, ?_, ?_⟩
  · rintro b ⟨j', hj'⟩
    by_cases h : j' = σ.length
    · subst h; rw [upd1_same] at hj'; exact .inl ⟨k, hb2 b hj'⟩
    · rw [upd1_ne h] at hj'; exact e1.on b ⟨j', hj'⟩
  · intro j' hj' e q L hL
    rw [upd1_ne (by omega)]
    exact e1.ok j' hj' e q L hL
  · intro L hL
    rw [upd1_same]
    show (if (0 : Nat) = 0 then (own k).cur ep (p ++ (i, j) :: []) else none) = some L
    rw [if_pos rfl]; exact hL
  · rw [upd1_ne (by omega), upd1_same]

/-- A row out of rows. -/
theorem TreeOk.form {c : Path → Option Loc} {E : TypeId} {sz : Nat} {ts : List T} (h0 : NodeOk F w c [] (.row E sz ts))
    (hch : ∀ (i : Nat) (x : T) (j : Nat) (y : T) (m : Nd), ts[i]? = some x → x.cells[j]? = some y → y.nd? = some m → TreeOk F w (fun r => c ((i, j) :: r)) m)
    (hdis : ∀ (i j i' j' : Nat) (x x' y y' : T) (m m' : Nd) (b : Nat), ts[i]? = some x → x.cells[j]? = some y → y.nd? = some m → ts[i']? = some x' → x'.cells[j']? = some y' → y'.nd? = some m' → Bk (fun r => c ((i, j) :: r)) m b → Bk (fun r => c ((i', j') :: r)) m' b → i = i' ∧ j = j')
    (hroot : ∀ (i : Nat) (x : T) (j : Nat) (y : T) (m : Nd) (b o s cp mm : Nat), ts[i]? = some x → x.cells[j]? = some y → y.nd? = some m → c [] = some (.at b o s cp mm) → Bk (fun r => c ((i, j) :: r)) m b → False) : TreeOk F w c (.row E sz ts) := by
  refine ⟨fun p n hp => ?_, fun p p' n n' b o s cp m o' s' cp' m' h1 h2 e1 e2 => ?_⟩
  · cases p with
    | nil => rw [nodeAt_nil] at hp; injection hp with hp; subst hp; exact h0
    | cons q p =>
      obtain ⟨i, j⟩ := q
      obtain ⟨x, y, m, g1, g2, g3, g4⟩ := nodeAt_cons.1 hp
      exact ((hch i x j y m g1 g2 g3).1 p n g4).move rfl (fun _ _ => rfl) (fun _ _ _ _ _ _ => rfl) fun _ _ h => h
  · cases p with
    | nil =>
      cases p' with
      | nil => rfl
      | cons q' p' =>
        obtain ⟨i, j⟩ := q'
        obtain ⟨x, y, m1, g1, g2, g3, g4⟩ := nodeAt_cons.1 h2
        exact (hroot i x j y m1 b _ _ _ _ g1 g2 g3 e1 ⟨p', n', _, _, _, _, g4, e2⟩).elim
    | cons q p =>
      obtain ⟨i, j⟩ := q
      obtain ⟨x, y, m1, g1, g2, g3, g4⟩ := nodeAt_cons.1 h1
      cases p' with
      | nil => exact (hroot i x j y m1 b _ _ _ _ g1 g2 g3 e2 ⟨p, n, _, _, _, _, g4, e1⟩).elim
      | cons q' p' =>
        obtain ⟨i', j'⟩ := q'
        obtain ⟨x', y', m2, k1, k2, k3, k4⟩ := nodeAt_cons.1 h2
        obtain ⟨rfl, rfl⟩ := hdis i j i' j' x x' y y' m1 m2 b g1 g2 g3 k1 k2 k3 ⟨p, n, _, _, _, _, g4, e1⟩ ⟨p', n', _, _, _, _, k4, e2⟩
        rw [g1] at k1
        injection k1 with k1
        subst k1
        rw [g2] at k2
        injection k2 with k2
        subst k2
        rw [g3] at k3
        injection k3 with k3
        subst k3
        rw [(hch i x j y m1 g1 g2 g3).2 p p' n n' b o s cp m o' s' cp' m' g4 k4 e1 e2]
/-- Trees put into cells of an element of another one. -/
theorem Rel.grafts (r : Rel own F w σ) {k : Nat} {ep : Nat → Nat} {nd : Nd} (hk : σ[k]? = some (.nd ep nd)) {p : Path} {E : TypeId} {sz : Nat} {xs : List T} (hp : nodeAt nd p = some (.row E sz xs))
    {x x' : T} {i : Nat} (hx : xs[i]? = some x) (hx'c : x'.cells.length = sz) (L : List Nat) (hkL : k ∉ L) (pt : Nat → Option Nat) {b o cap m : Nat} {vals : Array Value} (h0 : (own k).cur ep p = some (.at b o sz cap m)) (hb : w.heap[b]? = some (.cells vals E (0, 0)))
    (hpt : ∀ j k2, pt j = some k2 → k2 ∈ L ∧ ∃ ep2 n2 y u Lo, σ[k2]? = some (.nd ep2 n2) ∧ x.cells[j]? = some y ∧ y.nd? = none ∧ x'.cells[j]? = some n2.toT ∧ vals[o + i * sz + j]? = some u ∧ (own k2).am 0 [] = some Lo ∧ u = n2.lv Lo)
    (hinj : ∀ j j' k2, pt j = some k2 → pt j' = some k2 → j = j') (hnp : ∀ j, pt j = none → x'.cells[j]? = x.cells[j]?) :
    ∃ own', Rel own' F w ((kills L σ).set k (.nd (bumpE (p.length + 1) ep) (setAt nd p (.row E sz (xs.set i x'))))) ∧ Ext σ.length own F w own' F w := by
  obtain ⟨hT, hB, hep, hfr⟩ := r.obj k _ hk
  have hi := (List.getElem?_eq_some_iff.1 hx).1
  have hcx := hT.wf p E sz xs hp x (List.mem_of_getElem? hx)
  classical
  let c : Path → Option Loc := (own k).cur ep
  let c' : Path → Option Loc := fun q => if h : ∃ j k2 r, q = p ++ (i, j) :: r ∧ pt j = some k2 then (own (Classical.choose (Classical.choose_spec h))).am (match σ[Classical.choose (Classical.choose_spec h)]? with | some (.nd ep2 _) => ep2 (q.drop (p.length + 1)).length | _ => 0) (q.drop (p.length + 1)) else c q
  have hc'put : ∀ j k2 ep2 n2 r, pt j = some k2 → σ[k2]? = some (.nd ep2 n2) → c' (p ++ (i, j) :: r) = (own k2).cur ep2 r := by
    intro j k2 ep2 n2 r h1 h2
    have hex : ∃ j' k2' r', p ++ (i, j) :: r = p ++ (i, j') :: r' ∧ pt j' = some k2' := ⟨j, k2, r, rfl, h1⟩
    have hs := Classical.choose_spec (Classical.choose_spec hex)
    obtain ⟨r', e1, e2⟩ := hs
    have e1 := List.append_cancel_left e1
    injection e1 with e1 e3
    injection e1 with _ e1
    have e2 := h1.symm.trans ((congrArg pt e1).trans e2)
    injection e2 with e2
    have hd : (p ++ (i, j) :: r).drop (p.length + 1) = r := by rw [List.drop_append]; simp
    show (if h : ∃ j' k2 r', p ++ (i, j) :: r = p ++ (i, j') :: r' ∧ pt j' = some k2 then _ else _) = _
    rw [dif_pos hex, ← e2, h2, hd]
    rfl
  have hc'no : ∀ q, (¬ ∃ j k2 r, q = p ++ (i, j) :: r ∧ pt j = some k2) → c' q = c q := fun q h => dif_neg h
  have hc1 : ∀ q, ¬ p <+: q → c' q = c q := fun q hq => hc'no q fun ⟨j, k2, r, e, _⟩ => hq (e ▸ List.prefix_append _ _)
  have hc0 : c' p = c p := hc'no p fun ⟨j, k2, r, e, _⟩ => by have := congrArg List.length e; simp at this
  have hc3 : ∀ j, pt j = none → ∀ r, c' (p ++ (i, j) :: r) = c (p ++ (i, j) :: r) := fun j hj r => hc'no _ fun ⟨j', k2, r', e, h⟩ => by
    have e := List.append_cancel_left e
    injection e with e _
    injection e with _ e
    rw [← e, hj] at h
    exact nomatch h
  have hc4 : ∀ i' j r, i' ≠ i → c' (p ++ (i', j) :: r) = c (p ++ (i', j) :: r) := fun i' j r hii => hc'no _ fun ⟨j', k2, r', e, h⟩ => by
    have e := List.append_cancel_left e
    injection e with e _
    injection e with e _
    exact hii e
  let ow : Own := ⟨fun e q => if e = ep q.length + 1 ∧ p.length + 1 ≤ q.length then c' q else (own k).am e q, fun b => (own k).bl b ∨ ∃ j, j ∈ L ∧ (own j).bl b⟩
  have hcur : ow.cur (bumpE (p.length + 1) ep) = c' := by
    funext q
    show (if bumpE (p.length + 1) ep q.length = ep q.length + 1 ∧ p.length + 1 ≤ q.length then c' q else (own k).am (bumpE (p.length + 1) ep q.length) q) = c' q
    unfold bumpE
    cases hlt : Nat.blt q.length (p.length + 1) with
    | true =>
      have hlt : q.length < p.length + 1 := by simpa [Nat.blt_eq] using hlt
      rw [cond_true, if_neg (by omega), hc'no q fun ⟨j, k2, r, e, _⟩ => by have := congrArg List.length e; simp at this; omega]
      rfl
    | false =>
      have hlt : p.length + 1 ≤ q.length := by
        rcases Nat.lt_or_ge q.length (p.length + 1) with h | h
        · have : Nat.blt q.length (p.length + 1) = true := by simpa [Nat.blt_eq] using h
          rw [this] at hlt; exact nomatch hlt
        · exact h
      rw [cond_false, if_pos ⟨rfl, hlt⟩]
  have hX : ∀ (i' j' : Nat) (z y : T), (xs.set i x')[i']? = some z → z.cells[j']? = some y → (i' = i ∧ ∃ k2 ep2 n2, pt j' = some k2 ∧ k2 ∈ L ∧ σ[k2]? = some (.nd ep2 n2) ∧ y = n2.toT) ∨ ((i' ≠ i ∨ pt j' = none) ∧ ∃ z0, xs[i']? = some z0 ∧ z0.cells[j']? = some y) := by
    intro i' j' z y hz hy
    rw [List.getElem?_set] at hz
    by_cases hii : i = i'
    · subst hii
      rw [if_pos rfl, if_pos hi] at hz
      injection hz with hz
      subst hz
      cases hpj : pt j' with
      | none => exact .inr ⟨.inr rfl, x, hx, by rw [← hnp j' hpj]; exact hy⟩
      | some k2 =>
        obtain ⟨h1, ep2, n2, y0, u, Lo, h2, _, _, h3, _⟩ := hpt j' k2 hpj
        rw [h3] at hy
        injection hy with hy
        exact .inl ⟨rfl, k2, ep2, n2, rfl, h1, h2, hy.symm⟩
    · rw [if_neg hii] at hz
      exact .inr ⟨.inl fun e => hii e.symm, z, hz, hy⟩
  -- what hangs in the element's cells
  have hsub := hT.sub hp
  have hcold : ∀ i' j', (i' ≠ i ∨ pt j' = none) → ∀ r, c' (p ++ (i', j') :: r) = c (p ++ (i', j') :: r) := by
    rintro i' j' h r
    by_cases hii : i' = i
    · subst hii; exact hc3 j' (h.resolve_left fun h => h rfl) r
    · exact hc4 i' j' r hii
  have hbkold : ∀ i' j' m (b : Nat), (i' ≠ i ∨ pt j' = none) → Bk (fun r => c' (p ++ (i', j') :: r)) m b → Bk (fun r => c (p ++ (i', j') :: r)) m b := by
    rintro i' j' m b h ⟨q, n, o, s, cp, mm, h1, h2⟩
    exact ⟨q, n, o, s, cp, mm, h1, (hcold i' j' h q).symm.trans h2⟩
  have hchild : ∀ (i' j' : Nat) (z0 y : T) (m : Nd), xs[i']? = some z0 → z0.cells[j']? = some y → y.nd? = some m → nodeAt nd (p ++ [(i', j')]) = some m := by
    intro i' j' z0 y m h1 h2 h3
    rw [nodeAt_append hp]
    exact nodeAt_cons.2 ⟨z0, y, m, h1, h2, h3, nodeAt_nil⟩
  have hbksub : ∀ (i' j' : Nat) (z0 y : T) (m : Nd) (b : Nat), xs[i']? = some z0 → z0.cells[j']? = some y → y.nd? = some m → Bk (fun r => c (p ++ (i', j') :: r)) m b → ∃ q n o s cp mm, nodeAt nd (p ++ (i', j') :: q) = some n ∧ c (p ++ (i', j') :: q) = some (.at b o s cp mm) := by
    rintro i' j' z0 y m b h1 h2 h3 ⟨q, n, o, s, cp, mm, h4, h5⟩
    refine ⟨q, n, o, s, cp, mm, ?_, h5⟩
    have := nodeAt_append (q := q) (hchild i' j' z0 y m h1 h2 h3)
    rw [h4] at this
    simpa using this
  have hbkput : ∀ (j k2 : Nat) (ep2 : Nat → Nat) (n2 : Nd) (b : Nat), pt j = some k2 → σ[k2]? = some (.nd ep2 n2) → Bk (fun r => c' (p ++ (i, j) :: r)) n2 b → (own k2).bl b := by
    rintro j k2 ep2 n2 b h1 h2 ⟨q, n, o, s, cp, mm, h4, h5⟩
    have h5 : c' (p ++ (i, j) :: q) = _ := h5
    rw [hc'put j k2 ep2 n2 q h1 h2] at h5
    exact (r.obj k2 _ h2).2.1 b ⟨q, n, o, s, cp, mm, h4, h5⟩
  have hm : TreeOk F w (fun r => c' (p ++ r)) (.row E sz (xs.set i x')) := by
    refine TreeOk.form ?_ ?_ ?_ ?_
    · rcases hsub.1 [] _ nodeAt_nil with ⟨rfl, _⟩ | ⟨b1, o1, cap1, vals1, g1, g3, g4, g5, g6, g7, g8, g9, g10, g11⟩
      · simp at hi
      · have g1' : c p = some (.at b1 o1 sz cap1 xs.length) := by simpa using g1
        have h0' : c p = some (.at b o sz cap m) := h0
        rw [h0'] at g1'
        injection g1' with g1'
        injection g1' with e1 e2 e3 e4 e5
        subst e1 e2 e4 e5
        rw [hb] at g5
        injection g5 with g5
        injection g5 with e1
        subst e1
        refine .inr ⟨b, o, cap, vals, by simpa [hc0] using h0, g3, g4, hb, g6, by simpa using g7, by simpa using g8, ?_, ?_, by simpa using g11⟩
        · intro z hz
          rcases List.mem_or_eq_of_mem_set hz with hz | hz
          · exact g9 z hz
          · subst hz; exact hx'c
        · intro i' z j' y v hz hy hv
          rcases hX i' j' z y hz hy with ⟨rfl, k2, ep2, n2, h1, h2, h3, rfl⟩ | ⟨h1, z0, h2, h3⟩
          · obtain ⟨_, ep2', n2', y0, u, Lo, h2', _, _, _, h5, h6, h7⟩ := hpt j' k2 h1
            rw [h3] at h2'
            injection h2' with h2'
            injection h2' with e1 e2
            subst e1 e2
            rw [h5] at hv
            injection hv with hv
            subst hv
            have h8 : c' (p ++ [(i', j')]) = some Lo := by
              rw [hc'put j' k2 ep2 n2 [] h1 h3]
              show (own k2).am (ep2 0) [] = some Lo
              rw [(r.obj k2 _ h3).2.2.1]
              exact h6
            cases n2 with
            | row => exact ⟨Lo, by simpa using h8, h7⟩
            | map => exact ⟨Lo, by simpa using h8, h7⟩
          · refine (g10 i' z0 j' y v h2 h3 hv).move ?_ fun _ _ h => h
            simpa using hcold i' j' h1 []
    · intro i' z j' y m hz hy hyn
      rcases hX i' j' z y hz hy with ⟨rfl, k2, ep2, n2, h1, h2, h3, rfl⟩ | ⟨h1, z0, h2, h3⟩
      · rw [nd_toT] at hyn
        injection hyn with hyn
        subst hyn
        exact (r.obj k2 _ h3).1.move (fun q => hc'put j' k2 ep2 n2 q h1 h3) (fun _ _ => rfl) fun _ _ h => h
      · have := hT.sub (hchild i' j' z0 y m h2 h3 hyn)
        exact this.move (fun q => by rw [hcold i' j' h1 q]; simp [c]) (fun _ _ => rfl) fun _ _ h => h
    · intro i1 j1 i2 j2 z1 z2 y1 y2 m1 m2 b' hz1 hy1 hn1 hz2 hy2 hn2 hb1 hb2
      rcases hX i1 j1 z1 y1 hz1 hy1 with ⟨rfl, k1, ep1, nn1, p1, p2, p3, rfl⟩ | ⟨p1, u1, p2, p3⟩ <;> rcases hX i2 j2 z2 y2 hz2 hy2 with ⟨rfl, k2, ep2, nn2, q1, q2, q3, rfl⟩ | ⟨q1, u2, q2, q3⟩
      · rw [nd_toT] at hn1 hn2
        injection hn1 with hn1
        injection hn2 with hn2
        subst hn1 hn2
        have := r.inj k1 k2 b' (hbkput j1 k1 ep1 nn1 b' p1 p3 hb1) (hbkput j2 k2 ep2 nn2 b' q1 q3 hb2)
        subst this
        exact ⟨rfl, hinj j1 j2 k1 p1 q1⟩
      · rw [nd_toT] at hn1
        injection hn1 with hn1
        subst hn1
        obtain ⟨q, n, o', s', cp', mm', h4, h5⟩ := hbksub i2 j2 u2 y2 m2 b' q2 q3 hn2 (hbkold i2 j2 m2 b' q1 hb2)
        have := r.inj k1 k b' (hbkput j1 k1 ep1 nn1 b' p1 p3 hb1) (hB b' ⟨_, _, _, _, _, _, h4, h5⟩)
        exact absurd (this ▸ p2) hkL
      · rw [nd_toT] at hn2
        injection hn2 with hn2
        subst hn2
        obtain ⟨q, n, o', s', cp', mm', h4, h5⟩ := hbksub i1 j1 u1 y1 m1 b' p2 p3 hn1 (hbkold i1 j1 m1 b' p1 hb1)
        have := r.inj k2 k b' (hbkput j2 k2 ep2 nn2 b' q1 q3 hb2) (hB b' ⟨_, _, _, _, _, _, h4, h5⟩)
        exact absurd (this ▸ q2) hkL
      · obtain ⟨qa, na, oa, sa, ca, ma, h4, h5⟩ := hbksub i1 j1 u1 y1 m1 b' p2 p3 hn1 (hbkold i1 j1 m1 b' p1 hb1)
        obtain ⟨qb, nb, ob, sb, cb, mb, h6, h7⟩ := hbksub i2 j2 u2 y2 m2 b' q2 q3 hn2 (hbkold i2 j2 m2 b' q1 hb2)
        have := hT.2 _ _ _ _ b' _ _ _ _ _ _ _ _ h4 h6 h5 h7
        have := List.append_cancel_left this
        injection this with this _
        injection this with e1 e2
        exact ⟨e1, e2⟩
    · intro i1 z1 j1 y1 m1 b' o' s' cp' mm' hz1 hy1 hn1 hr hb1
      have hr' : c p = some (.at b' o' s' cp' mm') := by
        have : c' (p ++ []) = _ := hr
        simpa [hc0] using this
      rcases hX i1 j1 z1 y1 hz1 hy1 with ⟨rfl, k1, ep1, nn1, p1, p2, p3, rfl⟩ | ⟨p1, u1, p2, p3⟩
      · rw [nd_toT] at hn1
        injection hn1 with hn1
        subst hn1
        have := r.inj k1 k b' (hbkput j1 k1 ep1 nn1 b' p1 p3 hb1) (hB b' ⟨p, _, _, _, _, _, hp, hr'⟩)
        exact hkL (this ▸ p2)
      · obtain ⟨q, n, o2, s2, cp2, mm2, h4, h5⟩ := hbksub i1 j1 u1 y1 m1 b' p2 p3 hn1 (hbkold i1 j1 m1 b' p1 hb1)
        have := hT.2 _ _ _ _ b' _ _ _ _ _ _ _ _ hp h4 hr' h5
        have := congrArg List.length this
        simp at this
  have hBm : ∀ b, Bk (fun r => c' (p ++ r)) (.row E sz (xs.set i x')) b → (∃ q n o s cp m, nodeAt nd (p ++ q) = some n ∧ c (p ++ q) = some (.at b o s cp m)) ∨ ∃ j, j ∈ L ∧ (own j).bl b := by
    rintro b' ⟨q', n', o', s', cp', m', h1, h2⟩
    cases q' with
    | nil =>
      have h2 : c' (p ++ []) = some (.at b' o' s' cp' m') := h2
      exact .inl ⟨[], _, o', s', cp', m', by simpa using hp, by simpa [hc0] using h2⟩
    | cons z q' =>
      obtain ⟨i', j'⟩ := z
      obtain ⟨zz, y, m1, g1, g2, g3, g4⟩ := nodeAt_cons.1 h1
      rcases hX i' j' zz y g1 g2 with ⟨rfl, k1, ep1, nn1, p1, p2, p3, rfl⟩ | ⟨p1, u1, p2, p3⟩
      · rw [nd_toT] at g3
        injection g3 with g3
        subst g3
        exact .inr ⟨k1, p2, hbkput j' k1 ep1 nn1 b' p1 p3 ⟨q', n', o', s', cp', m', g4, h2⟩⟩
      · obtain ⟨q, n, o2, s2, cp2, mm2, h4, h5⟩ := hbksub i' j' u1 y m1 b' p2 p3 g3 (hbkold i' j' m1 b' p1 ⟨q', n', o', s', cp', m', g4, h2⟩)
        exact .inl ⟨(i', j') :: q, n, o2, s2, cp2, mm2, h4, h5⟩
  obtain ⟨r', e'⟩ := r.absorb L (k := k) hkL ow (fun b hb => hb) (fun e q Lo hL => by
      show (if e = ep q.length + 1 ∧ p.length + 1 ≤ q.length then c' q else (own k).am e q) = some Lo
      rw [if_neg fun h => by rw [hfr e q (by omega)] at hL; exact nomatch hL]
      exact hL) (Rel.lt_obj hk) (.nd (bumpE (p.length + 1) ep) (setAt nd p (.row E sz (xs.set i x')))) (fun _ => by
    refine ⟨?_, ?_, ?_, ?_⟩
    · rw [hcur]
      refine hT.upd hp rfl hc1 hc0 hm (fun _ _ _ _ _ _ _ _ _ _ => rfl) (fun _ _ h => h) ?_
      intro b' hb' q n o2 s2 cp2 m2 h3 h4 h5
      rcases hBm b' hb' with ⟨q', n', o', s', cp', m', h1, h2⟩ | ⟨j, h1, h2⟩
      · exact h3 (hT.2 (p ++ q') q n' n b' o' s' cp' m' o2 s2 cp2 m2 h1 h4 h2 h5 ▸ List.prefix_append _ _)
      · have := r.inj j k b' h2 (hB b' ⟨q, n, o2, s2, cp2, m2, h4, h5⟩)
        exact hkL (this ▸ h1)
    · rw [hcur]
      rintro b' ⟨q', n', o', s', cp', m', h1, h2⟩
      rcases nodeAt_setAt p hp hT.wf rfl q' n' h1 with ⟨r', rfl, h3⟩ | ⟨h3, n3, h4, _⟩
      · rcases hBm b' ⟨r', n', o', s', cp', m', h3, h2⟩ with ⟨q', n', o', s', cp', m', h1, h2⟩ | h
        · exact .inl (hB b' ⟨_, n', o', s', cp', m', h1, h2⟩)
        · exact .inr h
      · rw [hc1 _ h3] at h2
        exact .inl (hB b' ⟨q', n3, o', s', cp', m', h4, h2⟩)
    · show (bif Nat.blt 0 (p.length + 1) then ep 0 else ep 0 + 1) = 0
      rw [show Nat.blt 0 (p.length + 1) = true from rfl]; exact hep
    · intro e q he
      show (if e = ep q.length + 1 ∧ p.length + 1 ≤ q.length then c' q else (own k).am e q) = none
      unfold bumpE at he
      cases hlt : Nat.blt q.length (p.length + 1) with
      | true =>
        have hlt' : q.length < p.length + 1 := by simpa [Nat.blt_eq] using hlt
        rw [hlt, cond_true] at he
        rw [if_neg (by omega)]
        exact hfr e q he
      | false =>
        rw [hlt, cond_false] at he
        rw [if_neg (by omega)]
        exact hfr e q (by omega))
  exact ⟨_, r', e'⟩
end
end Go.Proofs.Ytihebfhhnoneiaa.Am
