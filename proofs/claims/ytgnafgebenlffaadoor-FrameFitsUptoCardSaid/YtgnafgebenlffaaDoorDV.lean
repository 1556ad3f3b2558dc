/- What the law FrameFits says holds: for every module of bulk at most 1048576 that may be, the frames of 50 calls of any of its functions, with all that a program keeps, fit into the memory. The table of the library package math/bits holds what its text lays. -/
import Derived.Test.YtgnafgebenlffaaDoorDQ
import Derived.Test.YtgnafgebenlffaaDoorDU
import Derived.Test.YtgnafgebenlffaaDoorCards
import Derived.Test.YtgnafgebenlffaaDoorTie
import Derived.WalkKit
import Derived.ProofKit
import Derived.OpenShut
import Derived.ChangeOld
import Derived.Below
import Derived.Carry
import Derived.JoinedCond
import Derived.Deep.DeepHandedRow
import Derived.Lib.LaidTab
/- What the law FrameFits says holds: for every module of bulk at most 1048576 that may be, the frames of 50 calls of any of its functions, with all that a program keeps, fit into the memory. The table of the library package math/bits holds what its text lays. -/
namespace Go.Proofs.YtgnafgebenlffaaDoor.frameFits
open Go Go.ChangeShapes Go.WideShapes Go.ChangeAt Go.RowKit Go.Proofs.YtgnafgebenlffaaDoor.Am
set_option linter.unusedVariables false
set_option maxRecDepth 10000
set_option maxHeartbeats 2000000
theorem own : ownKnob Tryd.prog.godebug = none := by kernel_rfl
theorem laidOut : laidOutB Tryd.prog = true := by kernel_rfl
theorem tyOkM : tyOk tt 9 44 = true := by kernel_rfl
theorem gTab : Tryd.prog.globalNamed "math/bits.deBruijn64tab" = some 0 := by kernel_rfl
theorem gTabType : (Tryd.prog.globals[0]?).map (·.type) = some 123 := by kernel_rfl
theorem cells107 : Tryd.prog.cellsOf 123 = 64 := by kernel_rfl
theorem cells5 : Tryd.prog.cellsOf 5 = 1 := by kernel_rfl
abbrev tabZ : List Int := Lib.deBruijn64tab.map fun (n : Nat) => (n : Int)
theorem table {W : World} (h : laidMetH Tryd.prog Rows.frameFitsUptoRow.laid W) : Lib.TabIs Tryd.prog W "math/bits.deBruijn64tab" .u8 tabZ :=
  Lib.tabIs_of_head (rest := []) gTab gTabType Tryd.underlying123 Tryd.underlying5 cells5 cells107 h
theorem fb {W : World} (h : laidMetH Tryd.prog Rows.frameFitsUptoRow.laid W) : FB (fun b => b < W.heap.size) W := by
  have hc : ∀ (j : Nat) (v : Value), (Lib.deBruijn64tab.map fun (n : Nat) => Value.int .u8 n)[j]? = some v → W.cell? ⟨0, j, none⟩ = some v := by
    intro j v hv
    obtain ⟨hj, rfl⟩ := List.getElem?_eq_some_iff.1 hv
    have hj2 : j < tabZ.length := by simpa [tabZ] using hj
    rw [(table h).cell gTab j hj2]
    have hj3 : j < Lib.deBruijn64tab.length := by simpa using hj
    simp [tabZ, List.getElem_map, List.getElem?_eq_getElem hj3]
  refine ⟨fun b hb => hb, fun p hp => ?_⟩
  simp only [tabs, List.mem_singleton] at hp
  subst hp
  refine ⟨?_, hc⟩
  have h0 := hc 0 (.int .u8 0) rfl
  show 0 < W.heap.size
  unfold World.cell? at h0
  rcases Nat.eq_zero_or_pos W.heap.size with e | e
  · rw [Array.getElem?_eq_none (by omega)] at h0
    cases h0
  · exact e
theorem agg_ofM {W : World} {v : Value} {base : Nat} (hv : Value.okWide Tryd.prog W .any base 44 v) : ∃ cs, v = .agg cs := by
  obtain ⟨fields, hu, _⟩ := und_struct (ttOk.at 44 rfl) (fs := [(41, 0), (22, 1), (42, 2), (3, 3)]) rfl
  unfold Value.okWide at hv
  rw [hu] at hv
  obtain ⟨cs, h, _⟩ := hv
  exact ⟨cs, h⟩
set_option maxRecDepth 100000 in
theorem contract (H : Type) (enc : TypeId × Value → H) (W : World) (base : Nat) (args : Array Value) (ds gs : List (DataW H)) (before : List MemPlace)
    (hval : ∀ (j : Nat) t v, Tryd.f5.params[j]? = some t → args[j]? = some v → Value.okWide Tryd.prog W .any base t v)
    (hW : DataW.Whole enc Tryd.prog Tryd.f5.params.toList Rows.frameFitsSpec.vars false W args.toList ds gs before) (hk : Rows.uptoSmall H (ds ++ gs) = true)
    (hL : laidMetH Tryd.prog Rows.frameFitsUptoRow.laid W) :
    Calls Tryd.prog 5 args W fun e W' => ∃ v, e = .returned v ∧ Rows.frameFitsSpec.post enc Tryd.prog Tryd.f5 false true false false W args v W' := by
  have hW' := hW
  obtain ⟨p, q, hA0, hV, rfl, hfz, hnd⟩ := hW
  have hA : DataW.TrodAll enc Tryd.prog W 0 (fun _ => true) true Tryd.f5.params.toList args.toList ds p := hA0
  rw [Tryd.params5] at hA hval
  obtain ⟨v0, vs0, d0, ds0, p0, q0, hargs, rfl, rfl, h0, r0⟩ := trodAll_cons hA
  obtain ⟨rfl, rfl, rfl⟩ := trodAll_nil r0
  obtain rfl : args = #[v0] := by cases args; simp_all
  obtain ⟨rfl, rfl⟩ := trodVars_none hV
  have hv0 : Value.okWide Tryd.prog W .any base 44 v0 := hval 0 44 v0 rfl rfl
  obtain ⟨cs0, rfl⟩ := agg_ofM hv0
  have k0 := h0
  have lt0 : ∀ x ∈ p0, x.block < W.heap.size := by obtain ⟨m, hm⟩ := k0; exact DataW.trod_lt m _ _ _ hm
  have hb : Rows.uptoBulk d0 ≤ 2 ^ 20 := by
    rw [List.append_nil] at hk
    have := of_decide_eq_true hk
    simp only [Rows.uptoBulkAll] at this
    omega
  obtain ⟨fuel0, hf0⟩ := h0
  obtain ⟨xs0, hr0⟩ := read_tree ttOk (B := 2 ^ 20) (Nat.pow_le_pow_right (by omega) (by omega)) 9 44 tyOkM fuel0 _ _ hf0 (show Rows.uptoBulk d0 ≤ 2 ^ 20 by omega)
  obtain ⟨g0, hgt0, hgw0, hg0⟩ := ty_modulew (Nat.le_refl _) hr0.2.2.2.1
  have hvt0 : VT (fun b => b < W.heap.size) W g0.t (.agg cs0) := by
    rw [← hg0]
    exact .agg _ _ (by have := hr0.2.1; simp [Value.cells] at this; omega) fun i x v hx hv => (hr0.2.2.1 i x v hx (by simpa [Value.cells] using hv)).1
  have hp := law5F g0 hgt0 (fun g hg b hb => ((hgw0 g hg).blocks b hb).fin.all)
  unfold PCalls at hp
  clear hA0
  refine (hp.2 (fun b => b < W.heap.size) W [(.agg cs0)] rfl (fun i x v hx hv => ?_) (fb hL)).mono ?_
  · cases i with
    | zero => simp at hx hv; subst hx hv; exact hvt0
    | succ i => simp at hx
  · rintro e W' ⟨r, mv, F', rfl, rfl, hv', _, _, _, bel⟩
    cases hv'
    exact ⟨_, rfl, _, _, _, [], _, [], hW', trodAll_mk1 (shut_bool Tryd.underlying4 _), (trodAll_cons_mk (Below.trod laidOut (by kernel_rfl) (of_decide_eq_true (by kernel_rfl)) k0 bel lt0) trodAll_mk0), rfl, bel.frame _, fun h => by cases h⟩
noncomputable def laidWorld (os : Os) : World :=
  { World.holding Tryd.prog os ⟨#[], #[], []⟩ with heap := (World.holding Tryd.prog os ⟨#[], #[], []⟩).heap.modify 0 fun
      | .cells _ t frozen => .cells (Lib.deBruijn64tab.map fun (n : Nat) => Value.int .u8 n).toArray t frozen
      | o => o }
abbrev wit : Array Value := #[.agg #[.slice none 0 0, .slice none 0 0, .slice none 0 0, .int .i64 0]]
theorem laid_met (os : Os) : laidMet Tryd.prog Rows.frameFitsRow.laid ((laidWorld os).forCall (fun _ _ => 0) ⟨#[], wit, []⟩).memory :=
  laidMet_of_run' 8 (by kernel_rfl) (by kernel_rfl)
theorem reads (os : Os) {H : Type} (enc : TypeId × Value → H) : ∃ places, DataW.whole enc Tryd.prog ((laidWorld os).forCall (fun _ _ => 0) ⟨#[], wit, []⟩).memory Tryd.f5.params.toList Rows.frameFitsSpec.vars false wit.toList 8 = some ([.agg [.nil, .nil, .nil, .lit (.int .i64 0)]], [], places) :=
  ⟨[], by kernel_rfl⟩
set_option maxRecDepth 100000 in
theorem lifted (os : Os) (started : os.Started) (H : Type) (enc : TypeId × Value → H) (F : Stop.Interp) :
    ReturnsInHanded {} Tryd.checked os 5 .any ((Rows.OpenSpec.upto Rows.frameFitsSpec).preRow enc Tryd.prog Tryd.f5 Rows.frameFitsUptoRow.domain false Rows.frameFitsUptoRow.laid) (((Rows.OpenSpec.upto Rows.frameFitsSpec).at F).post enc Tryd.prog Tryd.f5 false true false false) := by
  obtain ⟨places, hx⟩ := reads os enc
  refine returnsInHanded_of_row (C := Tryd.checked) (s := Rows.OpenSpec.upto Rows.frameFitsSpec) own started (by kernel_rfl) Tryd.func5
    (witness_row_at (enc := enc) (C := Tryd.checked) false (laidWorld os) wit rfl (by kernel_rfl) (by kernel_rfl) (by kernel_rfl)
      (OpenSpec.preRow_of_cond 8 hx (by kernel_rfl) (fun k hk => by cases hk; kernel_rfl) (by kernel_rfl) (laid_met os))) ?_
  intro W base args ds gs before hval hW _ hcond _ hL _ _
  exact contract H enc W base args ds gs before hval hW (hcond _ rfl) hL
theorem said : Rows.FrameFitsUptoSaid :=
  OpenClaim.holds_of_cond 5 Tryd.f5 rfl rfl rfl rfl rfl rfl rfl ⟨rfl, rfl, rfl, rfl, rfl⟩ rfl rfl rfl rfl rfl (by kernel_rfl) Tryd.func5 (by kernel_rfl)
    (of_decide_eq_true (by kernel_rfl)) (by unfold Func.isWrapper; first | (rw [if_pos (by decide +kernel)]; kernel_rfl) | (rw [if_neg (by decide +kernel)]; exact ⟨rfl, rfl⟩))
    (fun os started H enc _ F => by rw [OpenClaim.pre_eq_preRow]; exact lifted os started H enc F)
theorem plain (f : FuncId) (fn : Func) (hf : Tryd.pinned.checked.prog.funcNamed "switchback/switchbacklaw19.FrameFits" = some f) (hfn : Tryd.pinned.checked.prog.funcs[f]? = some fn) :
    false = Tryd.pinned.checked.prog.looks [] ∧ ∀ (j : Nat) t, fn.params[j]? = some t → Tryd.pinned.checked.prog.wantsStandIn t = false := by
  obtain rfl : f = 5 := Option.some.inj ((show Tryd.prog.funcNamed "switchback/switchbacklaw19.FrameFits" = some 5 by kernel_rfl).symm.trans hf) |>.symm
  obtain rfl : fn = Tryd.f5 := (Option.some.inj (Tryd.func5.symm.trans hfn)).symm
  refine ⟨by kernel_rfl, fun j t ht => ?_⟩
  rw [Tryd.params5] at ht
  obtain rfl : t = 44 := by simpa using Array.mem_of_getElem? ht
  exact (show Tryd.prog.wantsStandIn 44 = false by kernel_rfl)
end Go.Proofs.YtgnafgebenlffaaDoor.frameFits
namespace Go.Proofs.YtgnafgebenlffaaDoor
theorem frameFits_holds : Rows.FrameFitsUptoCardSaid :=
  Claim7.holds_tied_plain_at .later [] _ _ _ _ frameFits.said (fun _ h => by cases h) (by kernel_rfl) (fun _ h => by cases h) frameFitsUpto_row_tie rfl ⟨rfl, rfl⟩ (by kernel_rfl) rfl frameFits.plain (by kernel_rfl)
#print axioms frameFits_holds
end Go.Proofs.YtgnafgebenlffaaDoor
