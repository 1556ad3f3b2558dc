/- Freezing, stores, fields, indexes. -/
import Derived.Test.YtihebfhhnoneiaaAmOps
namespace Go.Proofs.Ytihebfhhnoneiaa.Am
open Go.RowKit
set_option linter.unusedVariables false
set_option linter.unusedSimpArgs false

section
variable {P : Program} {tt : Tab} {own : Nat → Own} {F : Nat → Prop} {w : World} {σ : Sto} {env : Env} {a : Act} {N : Nat} {o : Oper}
variable {K : SV → Sto → Prop} {next : Act → World → Prop} {Q : Exit → Act → World → Prop}

/-! ### freezing -/
def Fk (own : Nat → Own) (F : Nat → Prop) (L : List Nat) : Nat → Prop := fun b => F b ∨ ∃ k c s m, k ∈ L ∧ own k = .live b c s m ∧ 0 < s + c
def ownK (own : Nat → Own) (L : List Nat) : Nat → Own := fun k => match own k with
  | .unborn => .unborn
  | x => if k ∈ L then .dead else x

theorem Fk.mono {L L' : List Nat} (h : ∀ k, k ∈ L → k ∈ L') {b : Nat} (hb : Fk own F L b) : Fk own F L' b := by
  rcases hb with hb | ⟨k, c, s, m, hk, h1, h2⟩
  · exact .inl hb
  · exact .inr ⟨k, c, s, m, h k hk, h1, h2⟩

theorem VT.sub {F' : Nat → Prop} {x : T} {v : Value} (h : VT F w x v) (hF : ∀ b, F b → F' b) : VT F' w x v := h.mono hF fun _ _ _ => rfl

theorem mapO_len {α β : Type} {f : α → Option β} : ∀ {xs : List α} {ys : List β}, mapO f xs = some ys → ys.length = xs.length
  | [], ys, h => by simp [mapO] at h; subst h; rfl
  | x :: xs, ys, h => by
    simp only [mapO] at h
    cases hx : f x with
    | none => simp [hx] at h
    | some y =>
      simp only [hx] at h
      cases hm : mapO f xs with
      | none => simp [hm] at h
      | some zs => simp [hm] at h; subst h; simp [mapO_len hm]
theorem mapO_get {α β : Type} {f : α → Option β} : ∀ {xs : List α} {ys : List β}, mapO f xs = some ys → ∀ (i : Nat) (y : β), ys[i]? = some y → ∃ x, xs[i]? = some x ∧ f x = some y
  | [], ys, h, i, y, hy => by simp [mapO] at h; subst h; simp at hy
  | x :: xs, ys, h, i, y, hy => by
    simp only [mapO] at h
    cases hx : f x with
    | none => simp [hx] at h
    | some z =>
      simp only [hx] at h
      cases hm : mapO f xs with
      | none => simp [hm] at h
      | some zs =>
        simp [hm] at h
        subst h
        cases i with
        | zero => simp at hy; subst hy; exact ⟨x, rfl, hx⟩
        | succ i => simp at hy; simpa using mapO_get hm i y hy

theorem frz_VT (r : Rel own F w σ) : ∀ (n : Nat) {x : SV} {v : Value} {t : T}, VS own F w x v → frz n σ x = some t → VT (Fk own F (ids n σ x)) w t v := by
  intro n
  induction n with
  | zero =>
    intro x v t hv hf
    cases x with
    | t x =>
      simp [frz] at hf
      subst hf
      cases hv with
      | t _ _ h => exact h.sub fun b hb => .inl hb
    | _ => simp [frz] at hf
  | succ n ih =>
    intro x v t hv hf
    have many : ∀ {xs : List SV} {ts : List T} {vs : Array Value}, mapO (frz n σ) xs = some ts → vs.size = xs.length → (∀ (i : Nat) (x : SV) (v : Value), xs[i]? = some x → vs[i]? = some v → VS own F w x v) →
        vs.size = ts.length ∧ ∀ (i : Nat) (x : T) (v : Value), ts[i]? = some x → vs[i]? = some v → VT (Fk own F (xs.flatMap (ids n σ))) w x v := by
      intro xs ts vs hm hs h
      refine ⟨by rw [hs, mapO_len hm], fun i x v hx hv => ?_⟩
      obtain ⟨y, hy, hfy⟩ := mapO_get hm i x hx
      exact (ih (h i y v hy hv) hfy).sub fun b hb => hb.mono fun k hk => List.mem_flatMap.2 ⟨y, List.mem_of_getElem? hy, hk⟩
    cases x with
    | t x =>
      simp [frz] at hf
      subst hf
      cases hv with
      | t _ _ h => exact h.sub fun b hb => .inl hb
    | agg xs =>
      simp only [frz] at hf
      cases hm : mapO (frz n σ) xs with
      | none => simp [hm] at hf
      | some ts =>
        simp [hm] at hf
        subst hf
        cases hv with
        | agg _ vs hs h => exact .agg _ _ (many hm hs h).1 (many hm hs h).2
    | tup xs =>
      simp only [frz] at hf
      cases hm : mapO (frz n σ) xs with
      | none => simp [hm] at hf
      | some ts =>
        simp [hm] at hf
        subst hf
        cases hv with
        | tup _ vs hs h => exact .tup _ _ (many hm hs h).1 (many hm hs h).2
    | fn f xs =>
      simp only [frz] at hf
      cases hm : mapO (frz n σ) xs with
      | none => simp [hm] at hf
      | some ts =>
        simp [hm] at hf
        subst hf
        cases hv with
        | fn _ _ vs hs h => exact .fn _ _ _ (many hm hs h).1 (many hm hs h).2
    | g c x => simp [frz] at hf
    | map k =>
      simp only [frz] at hf
      cases hk : nth σ k with
      | none => simp [hk] at hf
      | some ob =>
        cases ob with
        | map kk es =>
          simp [hk] at hf
          subst hf
          rw [nth_eq] at hk
          obtain ⟨b, ents, clock, h1, h2, h3, h4, h5, h6⟩ := r.obj k _ hk
          cases hv with
          | map _ b' c s m h =>
            rw [h1] at h
            injection h with e1 e2 e3 e4
            subst e1
            exact .map kk es b ents clock (.inr ⟨k, 1, 0, 1, by simp [ids], h1, by omega⟩) h2 h3 h4 (fun i kv e hx he => (h5 i kv e hx he).sub fun b hb => .inl hb) h6
          | mapD _ _ h => rw [h1] at h; exact nomatch h
        | _ => simp [hk] at hf
    | osl k off len =>
      simp only [frz] at hf
      cases hk : nth σ k with
      | none => simp [hk] at hf
      | some ob =>
        cases ob with
        | row E sz ts =>
          simp [hk] at hf
          subst hf
          rw [nth_eq] at hk
          rcases r.obj k _ hk with ⟨h0, h0'⟩ | ⟨b, cap, vals, h1, h2, h3, h4, h5, h6, h7, h8, h9⟩
          · subst h0'
            simp
            cases hv with
            | osl _ _ _ b c s m h hl hm hnn =>
              rw [h0] at h
              injection h with e1 e2 e3 e4
              subst e4
              have : len = 0 := by omega
              subst this
              exact .sl0 _ _ _
            | oslN => exact .sl0 _ _ _
            | oslD _ _ _ _ _ _ h => rw [h0] at h; exact nomatch h
          · cases hv with
            | osl _ _ _ b' c s m h hl hm hnn =>
              rw [h1] at h
              injection h with e1 e2 e3 e4
              subst e1 e2 e3 e4
              have hlen : ((ts.drop off).take len).length = len := by simp; omega
              by_cases he : len = 0
              · subst he
                simp
                exact .sl0 _ _ _
              · have := VT.sl (F := Fk own F (ids (n + 1) σ (.osl k off len))) (w := w) sz ((ts.drop off).take len) b (off * sz) (cap - off) (fun j => vals.getD (off * sz + j) undef)
                  (by intro h0; rw [h0] at hlen; simp at hlen; omega) (by omega) (by omega) (.inr ⟨k, cap, sz, ts.length, by simp [ids], h1, by omega⟩)
                  (fun x hx => h7 x (List.drop_subset _ _ (List.take_subset _ _ hx)))
                  (fun j hj => cell_of h3 (by
                    rw [hlen] at hj
                    have hle : (off + len) * sz ≤ cap * sz := Nat.mul_le_mul_right _ (by omega)
                    rw [Nat.add_mul] at hle
                    omega))
                  (fun j hj => by
                    refine h9 _ ?_
                    rw [hlen] at hj
                    have hle : (off + len) * sz ≤ ts.length * sz := Nat.mul_le_mul_right _ (by omega)
                    rw [Nat.add_mul] at hle
                    omega)
                  (fun i x j y hx hy => by
                    have hi : i < len := by
                      have := (List.getElem?_eq_some_iff.1 hx).1
                      rw [hlen] at this; exact this
                    have hj : j < sz := by
                      have h10 := (List.getElem?_eq_some_iff.1 hy).1
                      rw [h7 x (List.drop_subset _ _ (List.take_subset _ _ (List.mem_of_getElem? hx)))] at h10; exact h10
                    simp [hi] at hx
                    have hlt : (off + i) * sz + j < vals.size := by
                      have hle : (off + i + 1) * sz ≤ cap * sz := Nat.mul_le_mul_right _ (by omega)
                      rw [Nat.add_mul, Nat.one_mul] at hle
                      omega
                    refine (h8 (off + i) x j y _ hx hy ?_).sub fun b hb => .inl hb
                    have e : off * sz + (i * sz + j) = (off + i) * sz + j := by rw [Nat.add_mul]; omega
                    rw [e, Array.getElem?_eq_getElem hlt]
                    simp [Array.getD_eq_getD_getElem?, Array.getElem?_eq_getElem hlt])
                rw [hlen] at this
                exact this
            | oslN _ _ h => rw [h1] at h; injection h with e1 e2 e3; omega
            | oslD _ _ _ _ _ _ h => rw [h1] at h; exact nomatch h
        | _ => simp [hk] at hf
    | loc k i off =>
      simp only [frz] at hf
      cases hk : nth σ k with
      | none => simp [hk] at hf
      | some ob =>
        cases ob with
        | var E cs =>
          simp only [hk] at hf
          cases hm : mapO (frz n σ) cs with
          | none => simp [hm] at hf
          | some ts =>
            simp only [hm] at hf
            cases i with
            | succ i => simp at hf
            | zero =>
              simp at hf
              subst hf
              obtain ⟨b, vals, ho1, hmv, hb, hsz, hcs⟩ := loc_var r hk hv rfl
              subst hmv
              have hl := mapO_len hm
              refine .ptr _ b off (fun j => vals.getD (off + j) undef) (.inr ⟨k, 1, cs.length, 1, by simp [ids], ho1, by omega⟩) (fun j hj => cell_of hb (by simp at hj; omega)) ?_
              intro j y hy
              simp only [List.getElem?_drop] at hy
              obtain ⟨x, hx, hfx⟩ := mapO_get hm _ _ hy
              have hlt : off + j < vals.size := by
                have := (List.getElem?_eq_some_iff.1 hx).1
                omega
              refine (ih (hcs (off + j) x _ hx (Array.getElem?_eq_getElem hlt)) hfx |> fun h => ?_)
              have e : vals.getD (off + j) undef = vals[off + j] := by simp [Array.getD_eq_getD_getElem?, Array.getElem?_eq_getElem hlt]
              rw [e]
              exact h.sub fun b hb => hb.mono fun k' hk' => by
                simp only [ids, hk, List.mem_cons]
                exact .inr (List.mem_flatMap.2 ⟨x, List.mem_of_getElem? hx, hk'⟩)
        | _ => simp [hk] at hf

theorem kills_get : ∀ (L : List Nat) (σ : Sto) (j : Nat), (kills L σ)[j]? = if j ∈ L then (if j < σ.length then some .dead else none) else σ[j]?
  | [], σ, j => by simp [kills]
  | k :: L, σ, j => by
    rw [kills, kills_get L]
    by_cases h1 : j ∈ L
    · simp [h1]
    · by_cases h2 : j = k
      · subst h2
        simp [h1, List.getElem?_set]
      · have : ¬ k = j := fun e => h2 e.symm
        simp [h1, h2, List.getElem?_set, this]
theorem kills_len : ∀ (L : List Nat) (σ : Sto), (kills L σ).length = σ.length
  | [], σ => rfl
  | k :: L, σ => by rw [kills, kills_len L]; simp

theorem ownK_live {L : List Nat} {k b c s m : Nat} (h : ownK own L k = .live b c s m) : own k = .live b c s m ∧ k ∉ L := by
  unfold ownK at h
  cases hk : own k with
  | unborn => rw [hk] at h; exact nomatch h
  | dead => rw [hk] at h; simp only at h; split at h <;> exact nomatch h
  | live b' c' s' m' =>
    rw [hk] at h
    simp only at h
    split at h
    · exact nomatch h
    · exact ⟨h, by assumption⟩
theorem ownK_out {L : List Nat} {k : Nat} (h : k ∉ L) : ownK own L k = own k := by
  unfold ownK
  cases hk : own k <;> simp [h]

theorem Rel.kill (r : Rel own F w σ) (L : List Nat) : Rel (ownK own L) (Fk own F L) w (kills L σ) ∧ Ext σ.length own F w (ownK own L) (Fk own F L) w := by
  have e : Ext σ.length own F w (ownK own L) (Fk own F L) w := by
    refine ⟨rfl, rfl, rfl, Nat.le_refl _, fun _ _ _ => rfl, fun _ h => .inl h, ?_, ?_, ?_⟩
    · rintro b (h | ⟨k, c, s, m, _, h1, h2⟩)
      · exact .inl h
      · exact .inr (.inr ⟨k, c, s, m, h1, h2⟩)
    · rintro b ⟨k, c, s, m, h1, h2⟩
      exact .inl ⟨k, c, s, m, (ownK_live h1).1, h2⟩
    · intro k _
      by_cases hk : k ∈ L
      · unfold ownK
        cases hk' : own k <;> simp [hk]
      · exact .inl (ownK_out hk)
  refine ⟨⟨?_, ?_, ?_, ?_, ?_, ?_⟩, e⟩
  · intro k hk
    rw [kills_len] at hk
    unfold ownK; rw [r.unb k hk]
  · intro k k' b c s m c' s' m' h1 h2 h3 h4
    exact r.inj k k' b c s m c' s' m' (ownK_live h1).1 h2 (ownK_live h3).1 h4
  · rintro b ⟨k, c, s, m, h1, h2⟩ (h | ⟨k', c', s', m', h3, h4, h5⟩)
    · exact r.sep b ⟨k, c, s, m, (ownK_live h1).1, h2⟩ h
    · have := r.inj k k' b c s m c' s' m' (ownK_live h1).1 h2 h4 h5
      subst this
      exact (ownK_live h1).2 h3
  · rintro b (h | ⟨k, c, s, m, _, h1, h2⟩)
    · exact r.Fb b h
    · exact r.lb b ⟨k, c, s, m, h1, h2⟩
  · rintro b ⟨k, c, s, m, h1, h2⟩
    exact r.lb b ⟨k, c, s, m, (ownK_live h1).1, h2⟩
  · intro k o hk
    rw [kills_get] at hk
    by_cases h : k ∈ L
    · simp [h] at hk
      rw [← hk.2]; trivial
    · simp only [h, if_false] at hk
      exact (r.obj k o hk).ext r e (ownK_out h) fun _ _ _ _ _ _ => rfl

end
end Go.Proofs.Ytihebfhhnoneiaa.Am
