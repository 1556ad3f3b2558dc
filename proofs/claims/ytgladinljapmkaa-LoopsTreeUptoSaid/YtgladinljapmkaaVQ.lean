import Derived.Test.YtgladinljapmkaaVP
/- Loops: what the rounds know, told by numbers (no program here). -/
namespace Go.Proofs.Ytgladinljapmkaa.Am
open Go Go.Proofs
set_option maxRecDepth 10000
set_option maxHeartbeats 2000000
set_option linter.unusedVariables false
set_option linter.unusedSimpArgs false
structure Told (S : Nat → Prop) (ov : Nat → Nat) (g : Nat → Int) : Prop where
  zero : g 0 = 0
  yes : ∀ b, S b → g b = (ov b : Nat)
  no : ∀ b, ¬ S b → g b = -1
theorem Told.turn {S : Nat → Prop} {ov : Nat → Nat} {g : Nat → Int} (h : Told S ov g) {v m : Nat} (h0 : v ≠ 0) :
    Told (fun b => S b ∨ b = v) (fun b => if b = v then m else ov b) (fun b => if b = v then (m : Int) else g b) where
  zero := by rw [if_neg (fun e => h0 e.symm)]; exact h.zero
  yes := fun b hb => by
    by_cases e : b = v
    · rw [if_pos e, if_pos e]
    · rw [if_neg e, if_neg e]; exact h.yes b (hb.resolve_right e)
  no := fun b hb => by
    rw [if_neg fun e => hb (.inr e)]
    exact h.no b fun h => hb (.inl h)
def valG (n : Nat) (num : Nat → Nat) (g : Nat → Int) : Nat := ((List.range n).map fun b => if g b < 0 then 0 else num (g b).toNat + 1).sum
theorem sumMap_le {α : Type} {f : α → Nat} {c : Nat} : ∀ {l : List α}, (∀ x ∈ l, f x ≤ c) → (l.map f).sum ≤ l.length * c
  | [], _ => by simp
  | x :: l, h => by
    have h1 := h x (by simp)
    have h2 := sumMap_le (l := l) fun y hy => h y (by simp [hy])
    simp only [List.map_cons, List.sum_cons, List.length_cons, Nat.add_mul]
    omega
theorem sumMap_lt {f f' : Nat → Nat} {v : Nat} : ∀ {l : List Nat}, l.Nodup → v ∈ l → (∀ x, x ≠ v → f' x = f x) → f v < f' v → (l.map f).sum < (l.map f').sum
  | x :: l, hn, hv, h, hlt => by
    rw [List.nodup_cons] at hn
    simp only [List.map_cons, List.sum_cons]
    by_cases e : x = v
    · subst e
      have : l.map f' = l.map f := List.map_congr_left fun y hy => h y fun e => hn.1 (e ▸ hy)
      rw [this]; omega
    · have h1 := sumMap_lt hn.2 ((List.mem_cons.1 hv).resolve_left fun e2 => e e2.symm) h hlt
      rw [h x e]; omega
theorem valG_lt {n : Nat} {num : Nat → Nat} {g : Nat → Int} {v m : Nat} (hv : v < n) (h : g v < 0 ∨ num (g v).toNat < num m) : valG n num g < valG n num (fun b => if b = v then (m : Int) else g b) := by
  refine sumMap_lt List.nodup_range (List.mem_range.2 hv) (fun x hx => ?_) ?_
  · simp only [if_neg hx]
  · show (if g v < 0 then 0 else num (g v).toNat + 1) < (if (if v = v then (m : Int) else g v) < 0 then 0 else num (if v = v then (m : Int) else g v).toNat + 1)
    rw [if_pos (rfl : v = v), if_neg (show ¬ ((m : Int) < 0) by omega), Int.toNat_natCast]
    rcases h with h | h
    · rw [if_pos h]; omega
    · by_cases h2 : g v < 0
      · rw [if_pos h2]; omega
      · rw [if_neg h2]; omega
theorem valG_le {n : Nat} {num : Nat → Nat} {g : Nat → Int} (h : ∀ b, num b ≤ n) : valG n num g ≤ n * (n + 1) := by
  have := sumMap_le (l := List.range n) (f := fun b => if g b < 0 then 0 else num (g b).toNat + 1) (c := n + 1) fun x _ => by
    have := h (g x).toNat
    show (if g x < 0 then 0 else num (g x).toNat + 1) ≤ n + 1
    split <;> omega
  rw [List.length_range] at this
  exact this
theorem Round.start {e : Nat → Nat → Prop} {num par : Nat → Nat} (hN : Nums e num par) : Round e num par (fun b => b = 0) (fun _ => 0) (num 0) where
  rch := fun b hb => by subst hb; exact .base trivial
  zero := rfl
  set := fun b hb h0 => absurd hb h0
  low := fun b hb h0 => absurd hb h0
  dom := fun a b hb h => by subst hb; rw [h.one]; exact .refl
  near := fun b z hb h0 => absurd hb h0
  more := fun b x hb h0 => absurd hb h0
  done := fun b x hb h0 => absurd hb h0
  big := fun b hb hk => hN.inj b 0 hb (.base trivial) (Nat.le_antisymm (hN.top b hb) hk)
  par := fun b hb h0 => absurd hb h0
def Met (S : Nat → Prop) (ov : Nat → Nat) (l : List Int) (t : Nat) (best : Int) : Prop :=
  (best = -1 ∧ ∀ j, j < t → ¬ S (nthD l j).toNat) ∨ ∃ m : Nat, best = m ∧ S m ∧ ∀ z, (Up ov z m ↔ ∀ j, j < t → S (nthD l j).toNat → Up ov z (nthD l j).toNat)
variable {S : Nat → Prop} {ov : Nat → Nat} {l : List Int} {t : Nat} {best : Int}
theorem Met.zero : Met S ov l 0 (-1) := .inl ⟨rfl, fun j hj => absurd hj (Nat.not_lt_zero _)⟩
theorem Met.skip (h : Met S ov l t best) (hs : ¬ S (nthD l t).toNat) : Met S ov l (t + 1) best := by
  rcases h with ⟨h1, h2⟩ | ⟨m, h1, h2, h3⟩
  · refine .inl ⟨h1, fun j hj => ?_⟩
    rcases Nat.lt_or_ge j t with h | h
    · exact h2 j h
    · rw [show j = t by omega]; exact hs
  · refine .inr ⟨m, h1, h2, fun z => (h3 z).trans ⟨fun h j hj hsj => ?_, fun h j hj => h j (by omega)⟩⟩
    rcases Nat.lt_or_ge j t with h4 | h4
    · exact h j h4 hsj
    · rw [show j = t by omega] at hsj; exact absurd hsj hs
theorem Met.first (h : Met S ov l t best) (hb : best < 0) (hs : S (nthD l t).toNat) : Met S ov l (t + 1) ((nthD l t).toNat : Nat) := by
  rcases h with ⟨h1, h2⟩ | ⟨m, h1, h2, h3⟩
  · refine .inr ⟨_, rfl, hs, fun z => ⟨fun h j hj hsj => ?_, fun h => h t (by omega) hs⟩⟩
    rcases Nat.lt_or_ge j t with h4 | h4
    · exact absurd hsj (h2 j h4)
    · rw [show j = t by omega]; exact h
  · omega
theorem Met.meets {m2 : Nat} (h : Met S ov l t best) (hb : 0 ≤ best) (hs : S (nthD l t).toNat) (hm : S m2) (hz : ∀ z, Up ov z m2 ↔ Up ov z best.toNat ∧ Up ov z (nthD l t).toNat) : Met S ov l (t + 1) (m2 : Nat) := by
  rcases h with ⟨h1, h2⟩ | ⟨m, h1, h2, h3⟩
  · omega
  · subst h1
    refine .inr ⟨_, rfl, hm, fun z => (hz z).trans ?_⟩
    rw [Int.toNat_natCast, h3]
    constructor
    · rintro ⟨h4, h5⟩ j hj hsj
      rcases Nat.lt_or_ge j t with h6 | h6
      · exact h4 j h6 hsj
      · rw [show j = t by omega]; exact h5
    · exact fun h4 => ⟨fun j hj => h4 j (by omega), h4 t (by omega) hs⟩
theorem Met.set (h : Met S ov l t best) (hb : 0 ≤ best) : S best.toNat := by
  rcases h with ⟨h1, h2⟩ | ⟨m, h1, h2, h3⟩
  · omega
  · subst h1; exact h2
theorem Met.nearest {e : Nat → Nat → Prop} {v p : Nat} (h : Met S ov l l.length best) (hp : S p) (he : e p v) (hl : ∀ p : Nat, S p → ((p : Int) ∈ l ↔ e p v)) (h0 : ∀ x ∈ l, 0 ≤ x) : ∃ m : Nat, best = m ∧ Best e S ov v m := by
  have hj : ∀ p : Nat, S p → e p v → ∃ j, j < l.length ∧ (nthD l j).toNat = p := fun p hp he => by
    obtain ⟨j, hj, e1⟩ := List.mem_iff_getElem.1 ((hl p hp).2 he)
    exact ⟨j, hj, by rw [nthD_get hj, e1]; rfl⟩
  rcases h with ⟨h1, h2⟩ | ⟨m, h1, h2, h3⟩
  · obtain ⟨j, hj1, hj2⟩ := hj p hp he
    exact absurd hp (hj2 ▸ h2 j hj1)
  · refine ⟨m, h1, h2, fun z => (h3 z).trans ⟨fun h p hp he => ?_, fun h j hj hs => h _ hs ((hl _ hs).1 ?_)⟩⟩
    · obtain ⟨j, hj1, hj2⟩ := hj p hp he
      rw [← hj2] at hp ⊢
      exact h j hj1 hp
    · have := h0 _ (nthD_mem hj)
      rw [Int.toNat_of_nonneg this]
      exact nthD_mem hj
theorem Round.turned {e : Nat → Nat → Prop} {num par : Nat → Nat} {g : Nat → Int} (hN : Nums e num par) {k v m : Nat} (t : Round e num par S ov k) (hT : Told S ov g) (hk : k = num v + 1) (hv : Rch e v) (h0 : v ≠ 0) (hm : Best e S ov v m) (hne : g v ≠ m) :
    ∃ S' ov', Told S' ov' (fun b => if b = v then (m : Int) else g b) ∧ Round e num par S' ov' (num v) ∧ (g v < 0 ∨ num (g v).toNat < num m) := by
  have hT' := hT.turn (m := m) h0
  by_cases hs : S v
  · have h := t.again hN hk h0 hs hm (fun b => if b = v then m else ov b) (fun b hb => if_neg hb) (if_pos rfl)
    have hg := hT.yes v hs
    refine ⟨S, _, ?_, h.1, .inr ?_⟩
    · have e1 : (fun b => S b ∨ b = v) = S := by
        funext b
        exact propext ⟨fun h => h.elim id fun h => h ▸ hs, .inl⟩
      rw [e1] at hT'
      exact hT'
    · rw [hg, Int.toNat_natCast]
      refine h.2.2 fun e1 => hne ?_
      rw [hg, e1]
  · refine ⟨_, _, hT', t.first hN hk hv h0 hs hm _ (fun b hb => if_neg hb) (if_pos rfl), .inl ?_⟩
    rw [hT.no v hs]; omega
theorem Round.same {e : Nat → Nat → Prop} {num par : Nat → Nat} {g : Nat → Int} (hN : Nums e num par) {k v m : Nat} (t : Round e num par S ov k) (hT : Told S ov g) (hk : k = num v + 1) (h0 : v ≠ 0) (hm : Best e S ov v m) (he : g v = m) :
    Round e num par S ov (num v) ∧ S v ∧ Best e S ov v (ov v) := by
  have hs : S v := Classical.byContradiction fun hs => by
    have := hT.no v hs
    omega
  have h1 : ov v = m := by
    have := hT.yes v hs
    omega
  exact ⟨(t.again hN hk h0 hs hm ov (fun b hb => rfl) h1).1, hs, h1.symm ▸ hm⟩
end Go.Proofs.Ytgladinljapmkaa.Am

namespace Go.Proofs.Ytgladinljapmkaa.Am
open Go Go.Proofs
theorem numL_nthD {o : List Nat} (h : o.Nodup) {j : Nat} (hj : j < o.length) : numL o (nthD o j) = j := by
  unfold numL
  rw [nthD_get hj]
  have h1 := List.idxOf_lt_length_iff.2 (List.getElem_mem hj)
  have h2 := List.getElem_idxOf h1
  have h3 := List.pairwise_iff_getElem.1 h
  rcases Nat.lt_trichotomy (o.idxOf o[j]) j with h4 | h4 | h4
  · exact absurd h2 (h3 _ _ h1 hj h4)
  · exact h4
  · exact absurd h2.symm (h3 _ _ hj h1 h4)
theorem Left.top {to : List (List Int)} {o : List Nat} (h : Left to o) : numL o 0 = o.length - 1 := by
  have hl := List.length_pos_of_mem (List.mem_of_getLast? h.last)
  have h1 := numL_nthD h.nodup (j := o.length - 1) (by omega)
  have h2 : nthD o (o.length - 1) = 0 := by
    have := h.last
    rw [List.getLast?_eq_getElem?, List.getElem?_eq_getElem (by omega)] at this
    rw [nthD_get (by omega)]
    exact Option.some.inj this
  rw [h2] at h1
  exact h1
theorem nthD_dropLast {o : List Nat} {j : Nat} (h : j < o.length - 1) : nthD o.dropLast j = nthD o j := by
  rw [nthD_get (by rw [List.length_dropLast]; exact h), nthD_get (by omega), List.getElem_dropLast]
end Go.Proofs.Ytgladinljapmkaa.Am
