/- Some objects of a memory taken by themselves, and put back. -/
import Derived.Test.YtihebfhhnoneiaaAmCode
namespace Go.Proofs.Ytihebfhhnoneiaa.Am
open Go.RowKit
set_option linter.unusedVariables false
set_option linter.unusedSimpArgs false

section
variable {P : Program} {own own' : Nat → Own} {F F' : Nat → Prop} {w w' : World} {σ : Sto}

theorem bdS_VS {A : Nat → Bool} (hv : ∀ x v, VT F w x v → VT F' w' x v) (ha : ∀ k, A k = true → ∀ e p L, (own k).am e p = some L → (own' k).am e p = some L) : ∀ (n : Nat) (x : SV) (v : Value), bdS A n x = true → VS own F w x v → VS own' F' w' x v := by
  have leafs : ∀ (n : Nat) (x : SV) (v : Value), bdS A n x = true → VS own F w x v → (∀ xs, x ≠ .agg xs) → (∀ xs, x ≠ .tup xs) → (∀ f xs, x ≠ .fn f xs) → (∀ c y, x ≠ .g c y) → VS own' F' w' x v := by
    intro n x v hb h n1 n2 n3 n4
    cases x with
    | t x => cases h with | t _ _ h => exact .t _ _ (hv _ _ h)
    | agg xs => exact absurd rfl (n1 _)
    | tup xs => exact absurd rfl (n2 _)
    | fn f xs => exact absurd rfl (n3 _ _)
    | g c x => exact absurd rfl (n4 _ _)
    | ref k e p off len =>
      have hA : A k = true := by cases n <;> exact hb
      cases h with
      | ref _ _ _ _ _ b o sz cap m h hl hm hn => exact .ref _ _ _ _ _ b o sz cap m (ha _ hA _ _ _ h) hl hm hn
      | refE _ _ _ ad h => exact .refE _ _ _ ad (ha _ hA _ _ _ h)
      | refZ _ _ _ _ ad h => exact .refZ _ _ _ _ ad h
    | pl k e p i off =>
      have hA : A k = true := by cases n <;> exact hb
      cases h with | pl _ _ _ _ _ b o sz cap m h => exact .pl _ _ _ _ _ b o sz cap m (ha _ hA _ _ _ h)
    | mp k e p =>
      have hA : A k = true := by cases n <;> exact hb
      cases h with | mp _ _ _ b o sz cap m h => exact .mp _ _ _ b o sz cap m (ha _ hA _ _ _ h)
  intro n
  induction n with
  | zero =>
    intro x v hb h
    cases x with
    | agg xs => exact absurd hb (by simp [bdS])
    | tup xs => exact absurd hb (by simp [bdS])
    | fn f xs => exact absurd hb (by simp [bdS])
    | g c x => exact absurd hb (by simp [bdS])
    | _ => exact leafs 0 _ v hb h (fun _ h => nomatch h) (fun _ h => nomatch h) (fun _ _ h => nomatch h) (fun _ _ h => nomatch h)
  | succ n ih =>
    intro x v hb h
    cases x with
    | agg xs => cases h with | agg _ vs hs hh => exact .agg _ _ hs fun i x v hx hv => ih x v (List.all_eq_true.1 hb x (List.mem_of_getElem? hx)) (hh i x v hx hv)
    | tup xs => cases h with | tup _ vs hs hh => exact .tup _ _ hs fun i x v hx hv => ih x v (List.all_eq_true.1 hb x (List.mem_of_getElem? hx)) (hh i x v hx hv)
    | fn f xs => cases h with | fn _ _ vs hs hh => exact .fn _ _ _ hs fun i x v hx hv => ih x v (List.all_eq_true.1 hb x (List.mem_of_getElem? hx)) (hh i x v hx hv)
    | g c x => cases h with | g _ _ _ h0 hh => exact .g _ _ _ h0 fun hc => ih x v hb (hh hc)
    | _ => exact leafs _ _ v hb h (fun _ h => nomatch h) (fun _ h => nomatch h) (fun _ _ h => nomatch h) (fun _ _ h => nomatch h)

theorem OR.keepB {A : Nat → Bool} {ow : Own} {o : SObj} (h : OR own F w ow o) (hb : ∀ x ∈ o.cellsV, bdS A 4 x = true) (hh : ∀ b, ow.bl b → w'.heap[b]? = w.heap[b]?) (hv : ∀ x v, VT F w x v → VT F' w' x v)
    (ha : ∀ k, A k = true → ∀ e p L, (own k).am e p = some L → (own' k).am e p = some L) : OR own' F' w' ow o := by
  cases o with
  | dead => trivial
  | nd ep nd =>
    obtain ⟨h1, h2, h3, h4⟩ := h
    exact ⟨h1.move (fun _ => rfl) (fun b hb => hh b (h2 b hb)) hv, h2, h3, h4⟩
  | var E cs =>
    obtain ⟨b, vals, h1, h2, h3, h4, h5, h6, h7⟩ := h
    exact ⟨b, vals, h1, h2, (hh b h2).trans h3, h4, fun j x v hx hv' => bdS_VS hv ha 4 x v (hb x (List.mem_of_getElem? hx)) (h5 j x v hx hv'), h6, h7⟩

/-- Only those of A. -/
def ownA (own : Nat → Own) (A : Nat → Bool) : Nat → Own := fun k => if A k = true then own k else .no
theorem ownA_in {A : Nat → Bool} {k : Nat} (h : A k = true) : ownA own A k = own k := if_pos h
theorem ownA_out {A : Nat → Bool} {k : Nat} (h : A k = false) : ownA own A k = .no := if_neg (by rw [h]; simp)
theorem ownA_bl {A : Nat → Bool} {k b : Nat} (h : (ownA own A k).bl b) : A k = true ∧ (own k).bl b := by
  cases hA : A k with
  | true => rw [ownA_in hA] at h; exact ⟨rfl, h⟩
  | false => rw [ownA_out hA] at h; exact h.elim

theorem Rel.part {σA σB : Sto} {A : Nat → Bool} (r : Rel own F w σA) (hA : ∀ k, A k = true → k < σB.length)
    (hB : ∀ k o, σB[k]? = some o → o = .dead ∨ (A k = true ∧ σA[k]? = some o ∧ ∀ x ∈ o.cellsV, bdS A 4 x = true)) : Rel (ownA own A) F w σB := by
  refine ⟨fun k hk => ?_, fun i j b h1 h2 => r.inj i j b (ownA_bl h1).2 (ownA_bl h2).2, fun k b h => r.sep k b (ownA_bl h).2, r.Fb, fun k b h => r.lb k b (ownA_bl h).2, fun k o ho => ?_⟩
  · cases h : A k with
    | true => have := hA k h; omega
    | false => exact ownA_out h
  · rcases hB k o ho with rfl | ⟨h1, h2, h3⟩
    · trivial
    · rw [ownA_in h1]
      exact (r.obj k o h2).keepB h3 (fun _ _ => rfl) (fun _ _ h => h) fun j hj e p L hL => by rw [ownA_in hj]; exact hL

/-- Those of A, as they are now; the others, as they were. -/
def ownM (own1 own : Nat → Own) (A : Nat → Bool) : Nat → Own := fun k => if A k = true then own1 k else own k
theorem ownM_in {own1 : Nat → Own} {A : Nat → Bool} {k : Nat} (h : A k = true) : ownM own1 own A k = own1 k := if_pos h
theorem ownM_out {own1 : Nat → Own} {A : Nat → Bool} {k : Nat} (h : A k = false) : ownM own1 own A k = own k := if_neg (by rw [h]; simp)

theorem Rel.merge {own1 : Nat → Own} {F1 : Nat → Prop} {w1 : World} {σA σB Δ σC : Sto} {A : Nat → Bool} {n : Nat} (r : Rel own F w σA) (hA : ∀ k, A k = true → k < σB.length) (hn : ∀ k, k < n → A k = true)
    (r1 : Rel own1 F1 w1 (σB ++ Δ)) (ex : Ext σB.length (ownA own A) F w own1 F1 w1) (A' : Nat → Bool) (hA' : ∀ k, A' k = true ↔ A k = true ∨ (σB.length ≤ k ∧ k < σB.length + Δ.length)) (hf : ∀ k, σB.length ≤ k → k < σB.length + Δ.length → own k = .no)
    (hlen : σA.length ≤ σC.length) (hl2 : ∀ k, A' k = true → k < σC.length)
    (hC : ∀ k o, σC[k]? = some o → o = .dead ∨ (A' k = true ∧ (σB ++ Δ)[k]? = some o ∧ ∀ x ∈ o.cellsV, bdS A' 4 x = true) ∨ (A' k = false ∧ σA[k]? = some o)) :
    Rel (ownM own1 own A') F1 w1 σC ∧ Ext n own F w (ownM own1 own A') F1 w1 ∧ (∀ x v, VS own F w x v → VS (ownM own1 own A') F1 w1 x v) ∧ ∀ x v, bdS A' 4 x = true → VS own1 F1 w1 x v → VS (ownM own1 own A') F1 w1 x v := by
  have lvA : ∀ b, Lv (ownA own A) b → ∃ k, A k = true ∧ (own k).bl b := by
    rintro b ⟨k, h⟩
    exact ⟨k, ownA_bl h⟩
  have amk : ∀ k e p L, (own k).am e p = some L → (ownM own1 own A' k).am e p = some L := by
    intro k e p L hL
    cases h : A' k with
    | false => rw [ownM_out h]; exact hL
    | true =>
      rw [ownM_in h]
      rcases (hA' k).1 h with h1 | ⟨h1, h2⟩
      · exact ex.ok k (hA k h1) e p L (by rw [ownA_in h1]; exact hL)
      · rw [hf k h1 h2] at hL; exact nomatch hL
  have far : ∀ k b j, A' k = false → (own k).bl b → (own1 j).bl b → False := by
    intro k b j hk hb h1
    rcases ex.on b ⟨j, h1⟩ with h | h
    · obtain ⟨k', h2, h3⟩ := lvA b h
      have := r.inj k k' b hb h3
      subst this
      have := (hA' k).2 (.inl h2)
      rw [hk] at this
      exact nomatch this
    · have := r.lb k b hb; omega
  have noLv : ∀ k b, A' k = false → (own k).bl b → ¬ Lv (ownA own A) b := by
    intro k b hk hb h
    obtain ⟨k', h2, h3⟩ := lvA b h
    have := r.inj k k' b hb h3
    subst this
    have := (hA' k).2 (.inl h2)
    rw [hk] at this
    exact nomatch this
  have org : ∀ k b, (ownM own1 own A' k).bl b → (A' k = true ∧ (own1 k).bl b) ∨ (A' k = false ∧ (own k).bl b) := by
    intro k b h
    cases hk : A' k with
    | true => rw [ownM_in hk] at h; exact .inl ⟨rfl, h⟩
    | false => rw [ownM_out hk] at h; exact .inr ⟨rfl, h⟩
  have hVT : ∀ x v, VT F w x v → VT F1 w1 x v := fun x v h => h.ext ex fun k b hb => r.sep k b (ownA_bl hb).2
  have hVS : ∀ x v, VS own F w x v → VS (ownM own1 own A') F1 w1 x v := fun x v h => h.map' hVT amk
  have hheap : ∀ k b, A' k = false → (own k).bl b → w1.heap[b]? = w.heap[b]? := fun k b hk hb => ex.fr b (r.lb k b hb) (noLv k b hk hb)
  refine ⟨⟨fun k hk => ?_, fun i j b h1 h2 => ?_, fun k b h hF => ?_, r1.Fb, fun k b h => ?_, fun k o ho => ?_⟩,
    ⟨ex.os, ex.tape, ex.output, ex.sz, fun b hb hl => ex.fr b hb fun h => ?_, ex.Fm, fun b hb => ?_, fun b hb => ?_, fun k _ e p L hL => amk k e p L hL⟩, hVS, fun x v hb hv => bdS_VS (fun _ _ h => h) (fun k hk e p L hL => by rw [ownM_in hk]; exact hL) 4 x v hb hv⟩
  · cases h : A' k with
    | true => have := hl2 k h; omega
    | false => rw [ownM_out h]; exact r.unb k (by omega)
  · rcases org i b h1 with ⟨a1, a2⟩ | ⟨a1, a2⟩ <;> rcases org j b h2 with ⟨b1, b2⟩ | ⟨b1, b2⟩
    · exact r1.inj i j b a2 b2
    · exact (far j b i b1 b2 a2).elim
    · exact (far i b j a1 a2 b2).elim
    · exact r.inj i j b a2 b2
  · rcases org k b h with ⟨a1, a2⟩ | ⟨a1, a2⟩
    · exact r1.sep k b a2 hF
    · rcases ex.Fn b hF with h | h | h
      · exact r.sep k b a2 h
      · have := r.lb k b a2; omega
      · exact noLv k b a1 a2 h
  · rcases org k b h with ⟨a1, a2⟩ | ⟨a1, a2⟩
    · exact r1.lb k b a2
    · exact Nat.lt_of_lt_of_le (r.lb k b a2) ex.sz
  · rcases hC k o ho with rfl | ⟨h1, h2, h3⟩ | ⟨h1, h2⟩
    · trivial
    · rw [ownM_in h1]
      exact (r1.obj k o h2).keepB h3 (fun _ _ => rfl) (fun _ _ h => h) fun j hj e p L hL => by rw [ownM_in hj]; exact hL
    · rw [ownM_out h1]
      exact (r.obj k o h2).keep (fun b hb => hheap k b h1 hb) hVT hVS
  · obtain ⟨k, _, h⟩ := lvA b h
    exact hl ⟨k, h⟩
  · rcases ex.Fn b hb with h | h | h
    · exact .inl h
    · exact .inr (.inl h)
    · obtain ⟨k, _, h⟩ := lvA b h
      exact .inr (.inr ⟨k, h⟩)
  · obtain ⟨k, hb⟩ := hb
    rcases org k b hb with ⟨a1, a2⟩ | ⟨a1, a2⟩
    · rcases ex.on b ⟨k, a2⟩ with h | h
      · obtain ⟨k, _, h⟩ := lvA b h
        exact .inl ⟨k, h⟩
      · exact .inr h
    · exact .inl ⟨k, a2⟩
end
end Go.Proofs.Ytihebfhhnoneiaa.Am
