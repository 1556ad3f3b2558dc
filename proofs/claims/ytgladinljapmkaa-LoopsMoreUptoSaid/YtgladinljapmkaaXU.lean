/- What the law LoopsMore says holds: for all lists of bulk at most 1048576, blocks that nothing leads to, set behind the others, change no answer. -/
import Derived.Test.YtgladinljapmkaaXP
import Derived.Test.YtgladinljapmkaaXT
import Derived.Test.YtgladinljapmkaaRows
import Derived.WalkKit
import Derived.ProofKit
import Derived.OpenShut
import Derived.ChangeOld
import Derived.Below
import Derived.Carry
import Derived.JoinedCond
/- What the law LoopsMore says holds: for all lists of bulk at most 1048576, blocks that nothing leads to, set behind the others, change no answer. -/
namespace Go.Proofs.Ytgladinljapmkaa.loopsMore
open Go Go.ChangeShapes Go.WideShapes Go.ChangeAt Go.RowKit Go.Proofs.Ytgladinljapmkaa.Am
set_option linter.unusedVariables false
set_option maxRecDepth 10000
set_option maxHeartbeats 2000000
theorem own : ownKnob Try.prog.godebug = none := by kernel_rfl
theorem laidOut : laidOutB Try.prog = true := by kernel_rfl
theorem tyOkL : tyOk tt 9 36 = true := by kernel_rfl
theorem one_ofL {W : World} {v : Value} {base : Nat} (hv : Value.okWide Try.prog W .any base 36 v) : v.cells.toList = [v] := by
  obtain ⟨a, l, c, rfl⟩ := okWide_slice (und_slice (ttOk.at 36 rfl) rfl) hv
  rfl
set_option maxRecDepth 100000 in
theorem contract (H : Type) (enc : TypeId × Value → H) (W : World) (base : Nat) (args : Array Value) (ds gs : List (DataW H)) (before : List MemPlace)
    (hval : ∀ (j : Nat) t v, Try.f5.params[j]? = some t → args[j]? = some v → Value.okWide Try.prog W .any base t v)
    (hW : DataW.Whole enc Try.prog Try.f5.params.toList Rows.loopsMoreSpec.vars false W args.toList ds gs before) (hk : Rows.uptoSmall H (ds ++ gs) = true) :
    Calls Try.prog 5 args W fun e W' => ∃ v, e = .returned v ∧ Rows.loopsMoreSpec.post enc Try.prog Try.f5 false true false false W args v W' := by
  have hW' := hW
  obtain ⟨p, q, hA0, hV, rfl, hfz, hnd⟩ := hW
  have hA : DataW.TrodAll enc Try.prog W 0 (fun _ => true) true Try.f5.params.toList args.toList ds p := hA0
  rw [Try.params5] at hA hval
  obtain ⟨v0, vs0, d0, ds0, p0, q0, hargs, rfl, rfl, h0, r0⟩ := trodAll_cons hA
  obtain ⟨v1, vs1, d1, ds1, p1, q1, rfl, rfl, rfl, h1, r1⟩ := trodAll_cons r0
  obtain ⟨rfl, rfl, rfl⟩ := trodAll_nil r1
  obtain rfl : args = #[v0, v1] := by cases args; simp_all
  obtain ⟨rfl, rfl⟩ := trodVars_none hV
  have hv0 : Value.okWide Try.prog W .any base 36 v0 := hval 0 36 v0 rfl rfl
  have hv1 : Value.okWide Try.prog W .any base 36 v1 := hval 1 36 v1 rfl rfl
  have k0 := h0
  have lt0 : ∀ x ∈ p0, x.block < W.heap.size := by obtain ⟨m, hm⟩ := k0; exact DataW.trod_lt m _ _ _ hm
  have k1 := h1
  have lt1 : ∀ x ∈ p1, x.block < W.heap.size := by obtain ⟨m, hm⟩ := k1; exact DataW.trod_lt m _ _ _ hm
  have hb : Rows.uptoBulk d0 + Rows.uptoBulk d1 ≤ 2 ^ 20 := by
    rw [List.append_nil] at hk
    have := of_decide_eq_true hk
    simp only [Rows.uptoBulkAll] at this
    omega
  obtain ⟨fuel0, hf0⟩ := h0
  rw [one_ofL hv0] at hf0
  obtain ⟨xs0, hr0⟩ := read_tree ttOk (B := 2 ^ 20) (Nat.pow_le_pow_right (by omega) (by omega)) 9 36 tyOkL fuel0 _ _ hf0 (show Rows.uptoBulk d0 ≤ 2 ^ 20 by omega)
  obtain ⟨l0, rfl, hl0, hlw0⟩ := ty_intssw hr0.2.2.2.1
  have hvt0 : VT (fun b => b < W.heap.size) W (.sl 1 (l0.map ilist)) v0 := (hr0.2.2.1 0 _ _ rfl rfl).1
  obtain ⟨fuel1, hf1⟩ := h1
  rw [one_ofL hv1] at hf1
  obtain ⟨xs1, hr1⟩ := read_tree ttOk (B := 2 ^ 20) (Nat.pow_le_pow_right (by omega) (by omega)) 9 36 tyOkL fuel1 _ _ hf1 (show Rows.uptoBulk d1 ≤ 2 ^ 20 by omega)
  obtain ⟨l1, rfl, hl1, hlw1⟩ := ty_intssw hr1.2.2.2.1
  have hvt1 : VT (fun b => b < W.heap.size) W (.sl 1 (l1.map ilist)) v1 := (hr1.2.2.1 0 _ _ rfl rfl).1
  have hp := law5k l0 hl0 hlw0 l1 hl1 hlw1
  unfold PCalls at hp
  clear hA0
  refine (hp.2 (fun b => b < W.heap.size) W [v0, v1] rfl (fun i x v hx hv => ?_) ⟨fun b hb => hb, fun p hp => nomatch hp⟩).mono ?_
  · cases i with
    | zero => simp at hx hv; subst hx hv; exact hvt0
    | succ i =>
      cases i with
      | zero => simp at hx hv; subst hx hv; exact hvt1
      | succ i => simp at hx
  · rintro e W' ⟨r, mv, F', rfl, rfl, hv', _, _, _, bel⟩
    cases hv'
    exact ⟨_, rfl, _, _, _, [], _, [], hW', trodAll_mk1 (shut_bool Try.underlying4 _), (trodAll_cons_mk (Below.trod laidOut (by kernel_rfl) (of_decide_eq_true (by kernel_rfl)) k0 bel lt0) (trodAll_cons_mk (Below.trod laidOut (by kernel_rfl) (of_decide_eq_true (by kernel_rfl)) k1 bel lt1) trodAll_mk0)), rfl, bel.frame _, fun h => by cases h⟩
set_option maxRecDepth 100000 in
theorem lifted (os : Os) (started : os.Started) (H : Type) (enc : TypeId × Value → H) (F : Stop.Interp) :
    ReturnsInHanded {} Try.checked os 5 .any ((Rows.OpenSpec.upto Rows.loopsMoreSpec).pre6 enc Try.prog Try.f5 Rows.loopsMoreUptoRow.domain false) (((Rows.OpenSpec.upto Rows.loopsMoreSpec).at F).post enc Try.prog Try.f5 false true false false) := by
  refine returnsInHanded_of_cond (C := Try.checked) (s := Rows.OpenSpec.upto Rows.loopsMoreSpec) (k := Rows.uptoSmall) rfl own started (by kernel_rfl) Try.func5
    (OpenSpec.witness (enc := enc) (C := Try.checked) (s := Rows.OpenSpec.upto Rows.loopsMoreSpec) (k := Rows.uptoSmall) rfl false ⟨#[], #[.slice none 0 0, .slice none 0 0], []⟩ 8 (by kernel_rfl) (by kernel_rfl) (by kernel_rfl)
      (x := ([.nil, .nil], [], [])) (by kernel_rfl) rfl (by kernel_rfl)) ?_
  intro W base args ds gs before hval hW _ hk _
  exact contract H enc W base args ds gs before hval hW hk
theorem over : Rows.loopsMoreUptoRow.holds Try.pinned (Rows.OpenSpec.upto Rows.loopsMoreSpec) :=
  OpenClaim.holds_of_cond 5 Try.f5 rfl rfl rfl rfl rfl rfl rfl ⟨rfl, rfl, rfl, rfl, rfl⟩ rfl rfl rfl rfl rfl (by kernel_rfl) Try.func5 (by kernel_rfl)
    (of_decide_eq_true (by kernel_rfl)) (by unfold Func.isWrapper; first | (rw [if_pos (by decide +kernel)]; kernel_rfl) | (rw [if_neg (by decide +kernel)]; exact ⟨rfl, rfl⟩))
    (fun os started H enc _ F => lifted os started H enc F)
end Go.Proofs.Ytgladinljapmkaa.loopsMore
namespace Go.Proofs.Ytgladinljapmkaa
theorem loopsMore_holds : Rows.LoopsMoreUptoSaid := loopsMore.over
#print axioms loopsMore_holds
end Go.Proofs.Ytgladinljapmkaa
