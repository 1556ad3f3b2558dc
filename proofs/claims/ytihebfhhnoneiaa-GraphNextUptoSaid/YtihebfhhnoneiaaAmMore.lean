/- Loops that count one variable up, where the memory of the call's own is told for each count. -/
import Derived.Test.YtihebfhhnoneiaaData
namespace Go.Proofs.Ytihebfhhnoneiaa.Am
set_option linter.unusedVariables false
set_option linter.unusedSimpArgs false

def StR (st : Nat → Sto) (n : Nat) (R : Nat → Prop) (m : Nat) (vals : List SV) (σ2 : Sto) : Prop := ∃ i : Nat, σ2 = st i ∧ vals = [.t (.int .i64 i)] ∧ i ≤ n ∧ m = n - i ∧ R i
@[irreducible] def UpS (st : Nat → Sto) (n : Nat) (R : Nat → Prop) (lim : Nat) (vals : List SV) (σ2 : Sto) : Prop := ∃ m', m' < lim ∧ StR st n R m' vals σ2
@[irreducible] def UpSi (st : Nat → Sto) (n : Nat) (R : Nat → Prop) (vals : List SV) (σ2 : Sto) : Prop := ∃ m : Nat, StR st n R m vals σ2
theorem UpS.mk {st : Nat → Sto} {σ2 : Sto} {n : Nat} {R : Nat → Prop} {i : Nat} {x : Int} (h : Ob (i < n ∧ x = i + 1 ∧ σ2 = st (i + 1) ∧ R (i + 1))) : UpS st n R (n - i) [.t (.int .i64 x)] σ2 := by
  obtain ⟨h1, h2, h3, h4⟩ := h.out
  unfold UpS
  exact ⟨n - (i + 1), by omega, i + 1, h3, by rw [h2]; rfl, h1, rfl, h4⟩
theorem UpSi.mk {st : Nat → Sto} {σ2 : Sto} {n : Nat} {R : Nat → Prop} (h : Ob (σ2 = st 0 ∧ R 0)) : UpSi st n R [.t (.int .i64 0)] σ2 := by
  obtain ⟨h1, h2⟩ := h.out
  unfold UpSi
  exact ⟨n, 0, h1, rfl, Nat.zero_le _, rfl, h2⟩
theorem LoopVC.upS {M : List Nat} {body : (AX → Env → Sto → Prop) → Env → Sto → Prop} {Q : AX → Env → Sto → Prop} {env : Env} {σ : Sto} (s : Nat) (V : List (Nat × Nat × TypeId × Nat)) (n : Nat) (st : Nat → Sto) (R : Nat → Prop)
    (h0 : thawV V σ fun σ0 => thaw [] [s] ([s].map env) σ0 fun vals σ1 => headSt σ.length vals σ1 fun vals σ2 => UpSi st n R vals σ2)
    (h1 : ∀ i : Nat, i ≤ n → R i → body (AX.seq (fun env1 σ1 => headSt σ.length ([s].map env1) σ1 fun vals σ2 => UpS st n R (n - i) vals σ2) Q) (setL [s] [.t (.int .i64 i)] (anyOn M env)) (st i)) : LoopVC M body Q env σ := by
  unfold UpSi at h0
  unfold UpS at h1
  refine LoopVC.mkV [s] [] V (StR st n R) h0 ?_
  rintro m vals σ' ⟨i, rfl, rfl, hi, rfl, hr⟩
  exact h1 i hi hr
end Go.Proofs.Ytihebfhhnoneiaa.Am
