/- What the law LoopsTells says holds: for every graph of bulk at most 1048576, dominators, back edges and whether it is reducible are just as the document defines them, twice; what is written into the answers is not seen in the next ones. -/
import Derived.Test.YtgladinljapmkaaUP
import Derived.Test.YtgladinljapmkaaUT
import Derived.Test.YtgladinljapmkaaRows
import Derived.WalkKit
import Derived.ProofKit
import Derived.OpenShut
import Derived.ChangeOld
import Derived.Below
import Derived.Carry
import Derived.JoinedCond
/- What the law LoopsTells says holds: for every graph of bulk at most 1048576, dominators, back edges and whether it is reducible are just as the document defines them, twice; what is written into the answers is not seen in the next ones. -/
namespace Go.Proofs.Ytgladinljapmkaa.tells
open Go Go.ChangeShapes Go.WideShapes Go.ChangeAt Go.RowKit Go.Proofs.Ytgladinljapmkaa.Am
set_option linter.unusedVariables false
set_option maxRecDepth 10000
set_option maxHeartbeats 2000000
theorem own : ownKnob Try.prog.godebug = none := by kernel_rfl
theorem laidOut : laidOutB Try.prog = true := by kernel_rfl
theorem tyOk26 : tyOk tt 9 26 = true := by kernel_rfl
theorem agg_of {W : World} {v : Value} {base : Nat} (hv : Value.okWide Try.prog W .any base 26 v) : ∃ cs, v = .agg cs := by
  obtain ⟨fields, hu, _⟩ := und_struct (ttOk.at 26 rfl) (fs := [(22, 0), (3, 1), (23, 2), (24, 3)]) rfl
  unfold Value.okWide at hv
  rw [hu] at hv
  obtain ⟨cs, h, _⟩ := hv
  exact ⟨cs, h⟩
set_option maxRecDepth 100000 in
theorem contract (H : Type) (enc : TypeId × Value → H) (W : World) (base : Nat) (args : Array Value) (ds gs : List (DataW H)) (before : List MemPlace)
    (hval : ∀ (j : Nat) t v, Try.f3.params[j]? = some t → args[j]? = some v → Value.okWide Try.prog W .any base t v)
    (hW : DataW.Whole enc Try.prog Try.f3.params.toList Rows.loopsTellsSpec.vars false W args.toList ds gs before) (hk : Rows.uptoSmall H (ds ++ gs) = true) :
    Calls Try.prog 3 args W fun e W' => ∃ v, e = .returned v ∧ Rows.loopsTellsSpec.post enc Try.prog Try.f3 false true false false W args v W' := by
  have hW' := hW
  obtain ⟨p, q, hA0, hV, rfl, hfz, hnd⟩ := hW
  have hA : DataW.TrodAll enc Try.prog W 0 (fun _ => true) true Try.f3.params.toList args.toList ds p := hA0
  rw [Try.params3] at hA hval
  obtain ⟨v0, vs0, d0, ds0, p0, q0, hargs, rfl, rfl, h0, r0⟩ := trodAll_cons hA
  obtain ⟨rfl, rfl, rfl⟩ := trodAll_nil r0
  obtain rfl : args = #[v0] := by cases args; simp_all
  obtain ⟨rfl, rfl⟩ := trodVars_none hV
  have hv0 : Value.okWide Try.prog W .any base 26 v0 := hval 0 26 v0 rfl rfl
  obtain ⟨cs, rfl⟩ := agg_of hv0
  have k0 := h0
  have lt0 : ∀ x ∈ p0, x.block < W.heap.size := by obtain ⟨m, hm⟩ := k0; exact DataW.trod_lt m _ _ _ hm
  have hb : Rows.uptoBulk d0 ≤ 2 ^ 20 := by
    rw [List.append_nil] at hk
    exact Nat.le_trans (Nat.le_add_right _ _) (of_decide_eq_true hk)
  obtain ⟨fuel, hf⟩ := h0
  obtain ⟨xs, hr⟩ := read_tree ttOk (B := 2 ^ 20) (Nat.pow_le_pow_right (by omega) (by omega)) 9 26 tyOk26 fuel _ _ hf hb
  obtain ⟨g, hgt, hgw, hm⟩ := ty_graphw (Nat.le_refl _) hr.2.2.2.1
  have hvt : VT (fun b => b < W.heap.size) W g.t (.agg cs) := by
    rw [← hm]
    exact .agg _ _ (by have := hr.2.1; simp [Value.cells] at this; omega) fun i x v hx hv => (hr.2.2.1 i x v hx (by simpa [Value.cells] using hv)).1
  have hp := law3 g hgt fun b hb => (hgw.blocks b hb).fin.all
  unfold PCalls at hp
  clear hA0
  refine (hp.2 (fun b => b < W.heap.size) W [.agg cs] rfl (fun i x v hx hv => ?_) ⟨fun b hb => hb, fun p hp => nomatch hp⟩).mono ?_
  · cases i with
    | zero => simp at hx hv; subst hx hv; exact hvt
    | succ i => simp at hx
  · rintro e W' ⟨r, mv, F', rfl, rfl, hv', _, _, _, bel⟩
    cases hv'
    exact ⟨_, rfl, _, _, _, [], _, [], hW', trodAll_mk1 (shut_bool Try.underlying4 _), (trodAll_cons_mk (Below.trod laidOut (by kernel_rfl) (of_decide_eq_true (by kernel_rfl)) k0 bel lt0) trodAll_mk0), rfl, bel.frame _, fun h => by cases h⟩
set_option maxRecDepth 100000 in
theorem lifted (os : Os) (started : os.Started) (H : Type) (enc : TypeId × Value → H) (F : Stop.Interp) :
    ReturnsInHanded {} Try.checked os 3 .any ((Rows.OpenSpec.upto Rows.loopsTellsSpec).pre6 enc Try.prog Try.f3 Rows.loopsTellsUptoRow.domain false) (((Rows.OpenSpec.upto Rows.loopsTellsSpec).at F).post enc Try.prog Try.f3 false true false false) := by
  refine returnsInHanded_of_cond (C := Try.checked) (s := Rows.OpenSpec.upto Rows.loopsTellsSpec) (k := Rows.uptoSmall) rfl own started (by kernel_rfl) Try.func3
    (OpenSpec.witness (enc := enc) (C := Try.checked) (s := Rows.OpenSpec.upto Rows.loopsTellsSpec) (k := Rows.uptoSmall) rfl false ⟨#[], #[.agg #[.slice none 0 0, .int .i64 0, .slice none 0 0, .slice none 0 0]], []⟩ 8 (by kernel_rfl) (by kernel_rfl) (by kernel_rfl)
      (x := ([.agg [.nil, .lit (.int .i64 0), .nil, .nil]], [], [])) (by kernel_rfl) rfl (by kernel_rfl)) ?_
  intro W base args ds gs before hval hW _ hk _
  exact contract H enc W base args ds gs before hval hW hk
theorem over : Rows.loopsTellsUptoRow.holds Try.pinned (Rows.OpenSpec.upto Rows.loopsTellsSpec) :=
  OpenClaim.holds_of_cond 3 Try.f3 rfl rfl rfl rfl rfl rfl rfl ⟨rfl, rfl, rfl, rfl, rfl⟩ rfl rfl rfl rfl rfl (by kernel_rfl) Try.func3 (by kernel_rfl)
    (of_decide_eq_true (by kernel_rfl)) (by unfold Func.isWrapper; first | (rw [if_pos (by decide +kernel)]; kernel_rfl) | (rw [if_neg (by decide +kernel)]; exact ⟨rfl, rfl⟩))
    (fun os started H enc _ F => lifted os started H enc F)
end Go.Proofs.Ytgladinljapmkaa.tells
namespace Go.Proofs.Ytgladinljapmkaa
theorem loopsTells_holds : Rows.LoopsTellsUptoSaid := tells.over
#print axioms loopsTells_holds
end Go.Proofs.Ytgladinljapmkaa
