/- Modules, as they are read. -/
import Derived.Test.YtgladinljapmkaaXJ
import Derived.Test.YtgladinljapmkaaXK
/- Modules, as they are read. -/
namespace Go.Proofs.Ytgladinljapmkaa.Am
open Go Go.Proofs
set_option maxRecDepth 10000
set_option maxHeartbeats 2000000
set_option linter.unusedVariables false
set_option linter.unusedSimpArgs false
section
variable {B n : Nat} {xs : List T} {t : TypeId}
theorem ty_intw {k : IntKind} (hti : (tt.at t).ti = .int k) (h : TyC tt B n t xs) : ∃ m, xs = [.int k m] ∧ (Lit.int k m).wf = true := by
  cases n with
  | zero => exact h.elim
  | succ n => unfold TyC at h; rw [hti] at h; exact h
theorem ty_slice {e : TypeId} {α : Type} {f : α → T} {Q : α → Prop} (hti : (tt.at t).ti = .slice e) (he : ∀ n y, TyC tt B n e y → ∃ a, Q a ∧ elT tt e y = f a) (h : TyC tt B n t xs) : ∃ l : List α, xs = [.sl (tt.at e).size (l.map f)] ∧ l.length ≤ B ∧ ∀ a ∈ l, Q a := by
  cases n with
  | zero => exact h.elim
  | succ n =>
    unfold TyC at h
    rw [hti] at h
    obtain ⟨ys, rfl, hl, hy⟩ := h
    have : ∀ ys : List (List T), (∀ y ∈ ys, TyC tt B n e y) → ∃ l : List α, ys.map (elT tt e) = l.map f ∧ ∀ a ∈ l, Q a := by
      intro ys
      induction ys with
      | nil => exact fun _ => ⟨[], rfl, by simp⟩
      | cons y ys ih =>
        intro hy
        obtain ⟨l, h1, h2⟩ := ih fun z hz => hy z (by simp [hz])
        obtain ⟨a, h3, h4⟩ := he n y (hy y (by simp))
        exact ⟨a :: l, by simp [h1, h4], by simpa using ⟨h3, h2⟩⟩
    obtain ⟨l, h1, h2⟩ := this ys hy
    refine ⟨l, by rw [h1], ?_, h2⟩
    have := congrArg List.length h1
    simp at this
    omega
end
end Go.Proofs.Ytgladinljapmkaa.Am
