/- What the law GraphNext says holds: for every graph and block's number, of bulk at most 1048576, the program's answer where the block leads, and its counts, are the document's; what comes out is the caller's own; and the graph is as it was. -/
import Derived.Test.YtihebfhhnoneiaaG05X
import Derived.Test.YtihebfhhnoneiaaG05Z
import Derived.WalkKit
import Derived.ProofKit
import Derived.OpenShut
import Derived.ChangeOld
import Derived.Below
import Derived.Carry
import Derived.JoinedCond
namespace Go.Proofs.Ytihebfhhnoneiaa.nexts
open Go Go.ChangeShapes Go.WideShapes Go.ChangeAt Go.RowKit Go.Proofs.Ytihebfhhnoneiaa.Am
set_option linter.unusedVariables false
set_option maxRecDepth 10000

theorem own : ownKnob Try.prog.godebug = none := by kernel_rfl
theorem laidOut : laidOutB Try.prog = true := by kernel_rfl
theorem tyOk38 : tyOk tt 9 38 = true := by kernel_rfl

theorem agg_of {W : World} {v : Value} {base : Nat} (hv : Value.okWide Try.prog W .any base 38 v) : ∃ cs, v = .agg cs := by
  obtain ⟨fields, hu, _⟩ := und_struct (ttOk.at 38 rfl) (fs := [(23, 0), (3, 1), (35, 2), (36, 3)]) rfl
  unfold Value.okWide at hv
  rw [hu] at hv
  obtain ⟨cs, h, _⟩ := hv
  exact ⟨cs, h⟩

set_option maxRecDepth 100000 in
theorem contract (H : Type) (enc : TypeId × Value → H) (W : World) (base : Nat) (args : Array Value) (ds gs : List (DataW H)) (before : List MemPlace)
    (hval : ∀ (j : Nat) t v, Try.f5.params[j]? = some t → args[j]? = some v → Value.okWide Try.prog W .any base t v)
    (hW : DataW.Whole enc Try.prog Try.f5.params.toList Rows.graphNextSpec.vars false W args.toList ds gs before) (hk : Rows.uptoSmall H (ds ++ gs) = true) :
    Calls Try.prog 5 args W fun e W' => ∃ v, e = .returned v ∧ Rows.graphNextSpec.post enc Try.prog Try.f5 false true false false W args v W' := by
  have hW' := hW
  obtain ⟨p, q, hA0, hV, rfl, hfz, hnd⟩ := hW
  have hA : DataW.TrodAll enc Try.prog W 0 (fun _ => true) true Try.f5.params.toList args.toList ds p := hA0
  rw [Try.params5] at hA hval
  obtain ⟨v0, vs0, d0, ds0, p0, q0, hargs, rfl, rfl, h0, r0⟩ := trodAll_cons hA
  obtain ⟨v1, vs1, d1, ds1, p1, q1, rfl, rfl, rfl, h1, r1⟩ := trodAll_cons r0
  obtain ⟨rfl, rfl, rfl⟩ := trodAll_nil r1
  obtain rfl : args = #[v0, v1] := by cases args; simp_all
  obtain ⟨rfl, rfl⟩ := trodVars_none hV
  have hv0 : Value.okWide Try.prog W .any base 38 v0 := hval 0 38 v0 rfl rfl
  have hv1 : Value.okWide Try.prog W .any base 3 v1 := hval 1 3 v1 rfl rfl
  obtain ⟨cs, rfl⟩ := agg_of hv0
  obtain ⟨a1, rfl, rfl, rfl, w1⟩ := open_int Try.underlying3 hv1 h1
  have k0 := h0
  have lt0 : ∀ x ∈ p0, x.block < W.heap.size := by obtain ⟨m, hm⟩ := k0; exact DataW.trod_lt m _ _ _ hm
  have hb : Rows.uptoBulk d0 ≤ 2 ^ 20 := by
    rw [List.append_nil] at hk
    exact Nat.le_trans (Nat.le_add_right _ _) (of_decide_eq_true hk)
  obtain ⟨fuel, hf⟩ := h0
  obtain ⟨xs, hr⟩ := read_tree ttOk (B := 2 ^ 20) (Nat.pow_le_pow_right (by omega) (by omega)) 9 38 tyOk38 fuel _ _ hf hb
  obtain ⟨g, hgt, hgw, hg⟩ := ty_graphw (Nat.le_refl _) hr.2.2.2.1
  have hvt : VT (fun b => b < W.heap.size) W g.t (.agg cs) := by
    rw [← hg]
    exact .agg _ _ (by have := hr.2.1; simp [Value.cells] at this; omega) fun i x v hx hv => (hr.2.2.1 i x v hx (by simpa [Value.cells] using hv)).1
  have hp := law5 g a1 hgt (hgw _)
  unfold PCalls at hp
  clear hA0
  refine (hp.2 (fun b => b < W.heap.size) W [.agg cs, .int .i64 a1] rfl (fun i x v hx hv => ?_) (fun b h => h)).mono ?_
  · cases i with
    | zero => simp at hx hv; subst hx hv; exact hvt
    | succ i =>
      cases i with
      | zero => simp at hx hv; subst hx hv; exact .int _ _
      | succ i => simp at hx
  · rintro e W' ⟨r, mv, F', rfl, rfl, hv', _, _, _, bel⟩
    cases hv'
    exact ⟨_, rfl, _, _, _, [], _, [], hW', trodAll_mk1 (shut_bool Try.underlying4 _), (trodAll_cons_mk (Below.trod laidOut (by kernel_rfl) (of_decide_eq_true (by kernel_rfl)) k0 bel lt0) (trodAll_cons_mk (shut_int Try.underlying3 w1) trodAll_mk0)), rfl, bel.frame _, fun h => by cases h⟩

set_option maxRecDepth 100000 in
theorem lifted (os : Os) (started : os.Started) (H : Type) (enc : TypeId × Value → H) (F : Stop.Interp) :
    ReturnsInHanded {} Try.checked os 5 .any ((Rows.OpenSpec.upto Rows.graphNextSpec).pre6 enc Try.prog Try.f5 Rows.graphNextUptoRow.domain false) (((Rows.OpenSpec.upto Rows.graphNextSpec).at F).post enc Try.prog Try.f5 false true false false) := by
  refine returnsInHanded_of_cond (C := Try.checked) (s := Rows.OpenSpec.upto Rows.graphNextSpec) (k := Rows.uptoSmall) rfl own started (by kernel_rfl) Try.func5
    (OpenSpec.witness (enc := enc) (C := Try.checked) (s := Rows.OpenSpec.upto Rows.graphNextSpec) (k := Rows.uptoSmall) rfl false ⟨#[], #[.agg #[.slice none 0 0, .int .i64 0, .slice none 0 0, .slice none 0 0], .int .i64 0], []⟩ 8 (by kernel_rfl) (by kernel_rfl) (by kernel_rfl)
      (x := ([.agg [.nil, .lit (.int .i64 0), .nil, .nil], .lit (.int .i64 0)], [], [])) (by kernel_rfl) rfl (by kernel_rfl)) ?_
  intro W base args ds gs before hval hW _ hk _
  exact contract H enc W base args ds gs before hval hW hk

theorem over : Rows.graphNextUptoRow.holds Try.pinned (Rows.OpenSpec.upto Rows.graphNextSpec) :=
  OpenClaim.holds_of_cond 5 Try.f5 rfl rfl rfl rfl rfl rfl rfl ⟨rfl, rfl, rfl, rfl, rfl⟩ rfl rfl rfl rfl rfl (by kernel_rfl) Try.func5 (by kernel_rfl)
    (of_decide_eq_true (by kernel_rfl)) (by unfold Func.isWrapper; first | (rw [if_pos (by decide +kernel)]; kernel_rfl) | (rw [if_neg (by decide +kernel)]; exact ⟨rfl, rfl⟩))
    (fun os started H enc _ F => lifted os started H enc F)

end Go.Proofs.Ytihebfhhnoneiaa.nexts
namespace Go.Proofs.Ytihebfhhnoneiaa
/-- The row, under a short name, for the claim. -/
theorem graphNext_holds : Rows.GraphNextUptoSaid := nexts.over
#print axioms graphNext_holds
end Go.Proofs.Ytihebfhhnoneiaa
