/- What the law GraphCopies says holds: for every module of bulk at most 1048576, a copy is the same as the module, and what is written into the copy, or into what it was made of, is not seen in the other one. -/
import Derived.Test.YtihebfhhnoneiaaG05R
import Derived.Test.YtihebfhhnoneiaaG05L4
import Derived.WalkKit
import Derived.ProofKit
import Derived.OpenShut
import Derived.ChangeOld
import Derived.Below
import Derived.Carry
import Derived.JoinedCond
namespace Go.Proofs.Ytihebfhhnoneiaa.copies
open Go Go.ChangeShapes Go.WideShapes Go.ChangeAt Go.RowKit Go.Proofs.Ytihebfhhnoneiaa.Am
set_option linter.unusedVariables false
set_option maxRecDepth 10000
set_option maxHeartbeats 2000000

theorem own : ownKnob Try.prog.godebug = none := by kernel_rfl
theorem laidOut : laidOutB Try.prog = true := by kernel_rfl
theorem tyOk26 : tyOk tt 9 26 = true := by kernel_rfl

theorem agg_of {W : World} {v : Value} {base : Nat} (hv : Value.okWide Try.prog W .any base 26 v) : ∃ cs, v = .agg cs := by
  obtain ⟨fields, hu, _⟩ := und_struct (ttOk.at 26 rfl) (fs := [(22, 0), (23, 1), (24, 2), (3, 3)]) rfl
  unfold Value.okWide at hv
  rw [hu] at hv
  obtain ⟨cs, h, _⟩ := hv
  exact ⟨cs, h⟩

set_option maxRecDepth 100000 in
theorem contract (H : Type) (enc : TypeId × Value → H) (W : World) (base : Nat) (args : Array Value) (ds gs : List (DataW H)) (before : List MemPlace)
    (hval : ∀ (j : Nat) t v, Try.f4.params[j]? = some t → args[j]? = some v → Value.okWide Try.prog W .any base t v)
    (hW : DataW.Whole enc Try.prog Try.f4.params.toList Rows.graphCopiesSpec.vars false W args.toList ds gs before) (hk : Rows.uptoSmall H (ds ++ gs) = true) :
    Calls Try.prog 4 args W fun e W' => ∃ v, e = .returned v ∧ Rows.graphCopiesSpec.post enc Try.prog Try.f4 false true false false W args v W' := by
  have hW' := hW
  obtain ⟨p, q, hA0, hV, rfl, hfz, hnd⟩ := hW
  have hA : DataW.TrodAll enc Try.prog W 0 (fun _ => true) true Try.f4.params.toList args.toList ds p := hA0
  rw [Try.params4] at hA hval
  obtain ⟨v0, vs0, d0, ds0, p0, q0, hargs, rfl, rfl, h0, r0⟩ := trodAll_cons hA
  obtain ⟨rfl, rfl, rfl⟩ := trodAll_nil r0
  obtain rfl : args = #[v0] := by cases args; simp_all
  obtain ⟨rfl, rfl⟩ := trodVars_none hV
  have hv0 : Value.okWide Try.prog W .any base 26 v0 := hval 0 26 v0 rfl rfl
  obtain ⟨cs, rfl⟩ := agg_of hv0
  have k0 := h0
  have lt0 : ∀ x ∈ p0, x.block < W.heap.size := by obtain ⟨m, hm⟩ := k0; exact DataW.trod_lt m _ _ _ hm
  have hb : Rows.uptoBulk d0 ≤ 2 ^ 20 := by
    rw [List.append_nil] at hk
    exact Nat.le_trans (Nat.le_add_right _ _) (of_decide_eq_true hk)
  obtain ⟨fuel, hf⟩ := h0
  obtain ⟨xs, hr⟩ := read_tree ttOk (B := 2 ^ 20) (Nat.pow_le_pow_right (by omega) (by omega)) 9 26 tyOk26 fuel _ _ hf hb
  obtain ⟨m, hmt, hm⟩ := ty_module (Nat.le_refl _) hr.2.2.2.1
  have hvt : VT (fun b => b < W.heap.size) W m.t (.agg cs) := by
    rw [← hm]
    exact .agg _ _ (by have := hr.2.1; simp [Value.cells] at this; omega) fun i x v hx hv => (hr.2.2.1 i x v hx (by simpa [Value.cells] using hv)).1
  have hp := law4 m hmt live10
  unfold PCalls at hp
  clear hA0
  refine (hp.2 (fun b => b < W.heap.size) W [.agg cs] rfl (fun i x v hx hv => ?_) (fun b h => h)).mono ?_
  · cases i with
    | zero => simp at hx hv; subst hx hv; exact hvt
    | succ i => simp at hx
  · rintro e W' ⟨r, mv, F', rfl, rfl, hv', _, _, _, bel⟩
    cases hv'
    exact ⟨_, rfl, _, _, _, [], _, [], hW', trodAll_mk1 (shut_bool Try.underlying4 _), (trodAll_cons_mk (Below.trod laidOut (by kernel_rfl) (of_decide_eq_true (by kernel_rfl)) k0 bel lt0) trodAll_mk0), rfl, bel.frame _, fun h => by cases h⟩

set_option maxRecDepth 100000 in
theorem lifted (os : Os) (started : os.Started) (H : Type) (enc : TypeId × Value → H) (F : Stop.Interp) :
    ReturnsInHanded {} Try.checked os 4 .any ((Rows.OpenSpec.upto Rows.graphCopiesSpec).pre6 enc Try.prog Try.f4 Rows.graphCopiesUptoRow.domain false) (((Rows.OpenSpec.upto Rows.graphCopiesSpec).at F).post enc Try.prog Try.f4 false true false false) := by
  refine returnsInHanded_of_cond (C := Try.checked) (s := Rows.OpenSpec.upto Rows.graphCopiesSpec) (k := Rows.uptoSmall) rfl own started (by kernel_rfl) Try.func4
    (OpenSpec.witness (enc := enc) (C := Try.checked) (s := Rows.OpenSpec.upto Rows.graphCopiesSpec) (k := Rows.uptoSmall) rfl false ⟨#[], #[.agg #[.slice none 0 0, .slice none 0 0, .slice none 0 0, .int .i64 0]], []⟩ 8 (by kernel_rfl) (by kernel_rfl) (by kernel_rfl)
      (x := ([.agg [.nil, .nil, .nil, .lit (.int .i64 0)]], [], [])) (by kernel_rfl) rfl (by kernel_rfl)) ?_
  intro W base args ds gs before hval hW _ hk _
  exact contract H enc W base args ds gs before hval hW hk

theorem over : Rows.graphCopiesUptoRow.holds Try.pinned (Rows.OpenSpec.upto Rows.graphCopiesSpec) :=
  OpenClaim.holds_of_cond 4 Try.f4 rfl rfl rfl rfl rfl rfl rfl ⟨rfl, rfl, rfl, rfl, rfl⟩ rfl rfl rfl rfl rfl (by kernel_rfl) Try.func4 (by kernel_rfl)
    (of_decide_eq_true (by kernel_rfl)) (by unfold Func.isWrapper; first | (rw [if_pos (by decide +kernel)]; kernel_rfl) | (rw [if_neg (by decide +kernel)]; exact ⟨rfl, rfl⟩))
    (fun os started H enc _ F => lifted os started H enc F)

end Go.Proofs.Ytihebfhhnoneiaa.copies
namespace Go.Proofs.Ytihebfhhnoneiaa
/-- The row, under a short name, for the claim. -/
theorem graphCopies_holds : Rows.GraphCopiesUptoSaid := copies.over
#print axioms graphCopies_holds
end Go.Proofs.Ytihebfhhnoneiaa
