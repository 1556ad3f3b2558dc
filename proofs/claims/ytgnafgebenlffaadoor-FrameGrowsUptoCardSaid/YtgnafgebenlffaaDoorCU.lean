/- What the law FrameGrows says holds: for every graph and three numbers of bulk at most 1048576 together, an instruction more, or a temp more, makes no frame smaller. The table of the library package math/bits holds what its text lays. -/
import Derived.Test.YtgnafgebenlffaaDoorCQ
import Derived.Test.YtgnafgebenlffaaDoorCT
import Derived.Test.YtgnafgebenlffaaDoorCards
import Derived.Test.YtgnafgebenlffaaDoorTie
import Derived.WalkKit
import Derived.ProofKit
import Derived.OpenShut
import Derived.ChangeOld
import Derived.Below
import Derived.Carry
import Derived.JoinedCond
import Derived.Deep.DeepHandedRow
import Derived.Lib.LaidTab
/- What the law FrameGrows says holds: for every graph and three numbers of bulk at most 1048576 together, an instruction more, or a temp more, makes no frame smaller. The table of the library package math/bits holds what its text lays. -/
namespace Go.Proofs.YtgnafgebenlffaaDoor.frameGrows
open Go Go.ChangeShapes Go.WideShapes Go.ChangeAt Go.RowKit Go.Proofs.YtgnafgebenlffaaDoor.Am
set_option linter.unusedVariables false
set_option maxRecDepth 10000
set_option maxHeartbeats 2000000
theorem own : ownKnob Tryd.prog.godebug = none := by kernel_rfl
theorem laidOut : laidOutB Tryd.prog = true := by kernel_rfl
theorem tyOkB : tyOk tt 9 26 = true := by kernel_rfl
theorem tyOki : tyOk tt 9 3 = true := by kernel_rfl
theorem gTab : Tryd.prog.globalNamed "math/bits.deBruijn64tab" = some 0 := by kernel_rfl
theorem gTabType : (Tryd.prog.globals[0]?).map (·.type) = some 123 := by kernel_rfl
theorem cells107 : Tryd.prog.cellsOf 123 = 64 := by kernel_rfl
theorem cells5 : Tryd.prog.cellsOf 5 = 1 := by kernel_rfl
abbrev tabZ : List Int := Lib.deBruijn64tab.map fun (n : Nat) => (n : Int)
theorem table {W : World} (h : laidMetH Tryd.prog Rows.frameGrowsUptoRow.laid W) : Lib.TabIs Tryd.prog W "math/bits.deBruijn64tab" .u8 tabZ :=
  Lib.tabIs_of_head (rest := []) gTab gTabType Tryd.underlying123 Tryd.underlying5 cells5 cells107 h
theorem fb {W : World} (h : laidMetH Tryd.prog Rows.frameGrowsUptoRow.laid W) : FB (fun b => b < W.heap.size) W := by
  have hc : ∀ (j : Nat) (v : Value), (Lib.deBruijn64tab.map fun (n : Nat) => Value.int .u8 n)[j]? = some v → W.cell? ⟨0, j, none⟩ = some v := by
    intro j v hv
    obtain ⟨hj, rfl⟩ := List.getElem?_eq_some_iff.1 hv
    have hj2 : j < tabZ.length := by simpa [tabZ] using hj
    rw [(table h).cell gTab j hj2]
    have hj3 : j < Lib.deBruijn64tab.length := by simpa using hj
    simp [tabZ, List.getElem_map, List.getElem?_eq_getElem hj3]
  refine ⟨fun b hb => hb, fun p hp => ?_⟩
  simp only [tabs, List.mem_singleton] at hp
  subst hp
  refine ⟨?_, hc⟩
  have h0 := hc 0 (.int .u8 0) rfl
  show 0 < W.heap.size
  unfold World.cell? at h0
  rcases Nat.eq_zero_or_pos W.heap.size with e | e
  · rw [Array.getElem?_eq_none (by omega)] at h0
    cases h0
  · exact e
theorem agg_ofG {W : World} {v : Value} {base : Nat} (hv : Value.okWide Tryd.prog W .any base 26 v) : ∃ cs, v = .agg cs := by
  obtain ⟨fields, hu, _⟩ := und_struct (ttOk.at 26 rfl) (fs := [(22, 0), (3, 1), (23, 2), (24, 3)]) rfl
  unfold Value.okWide at hv
  rw [hu] at hv
  obtain ⟨cs, h, _⟩ := hv
  exact ⟨cs, h⟩
theorem one_ofi {W : World} {v : Value} {base : Nat} (hv : Value.okWide Tryd.prog W .any base 3 v) : v.cells.toList = [v] := by
  obtain ⟨m, rfl⟩ := okWide_int (und_int (ttOk.at 3 rfl) rfl) hv
  rfl
set_option maxRecDepth 100000 in
theorem contract (H : Type) (enc : TypeId × Value → H) (W : World) (base : Nat) (args : Array Value) (ds gs : List (DataW H)) (before : List MemPlace)
    (hval : ∀ (j : Nat) t v, Tryd.f6.params[j]? = some t → args[j]? = some v → Value.okWide Tryd.prog W .any base t v)
    (hW : DataW.Whole enc Tryd.prog Tryd.f6.params.toList Rows.frameGrowsSpec.vars false W args.toList ds gs before) (hk : Rows.uptoSmall H (ds ++ gs) = true)
    (hL : laidMetH Tryd.prog Rows.frameGrowsUptoRow.laid W) :
    Calls Tryd.prog 6 args W fun e W' => ∃ v, e = .returned v ∧ Rows.frameGrowsSpec.post enc Tryd.prog Tryd.f6 false true false false W args v W' := by
  have hW' := hW
  obtain ⟨p, q, hA0, hV, rfl, hfz, hnd⟩ := hW
  have hA : DataW.TrodAll enc Tryd.prog W 0 (fun _ => true) true Tryd.f6.params.toList args.toList ds p := hA0
  rw [Tryd.params6] at hA hval
  obtain ⟨v0, vs0, d0, ds0, p0, q0, hargs, rfl, rfl, h0, r0⟩ := trodAll_cons hA
  obtain ⟨v1, vs1, d1, ds1, p1, q1, rfl, rfl, rfl, h1, r1⟩ := trodAll_cons r0
  obtain ⟨v2, vs2, d2, ds2, p2, q2, rfl, rfl, rfl, h2, r2⟩ := trodAll_cons r1
  obtain ⟨v3, vs3, d3, ds3, p3, q3, rfl, rfl, rfl, h3, r3⟩ := trodAll_cons r2
  obtain ⟨rfl, rfl, rfl⟩ := trodAll_nil r3
  obtain rfl : args = #[v0, v1, v2, v3] := by cases args; simp_all
  obtain ⟨rfl, rfl⟩ := trodVars_none hV
  have hv0 : Value.okWide Tryd.prog W .any base 26 v0 := hval 0 26 v0 rfl rfl
  have hv1 : Value.okWide Tryd.prog W .any base 3 v1 := hval 1 3 v1 rfl rfl
  have hv2 : Value.okWide Tryd.prog W .any base 3 v2 := hval 2 3 v2 rfl rfl
  have hv3 : Value.okWide Tryd.prog W .any base 3 v3 := hval 3 3 v3 rfl rfl
  obtain ⟨cs0, rfl⟩ := agg_ofG hv0
  have k0 := h0
  have lt0 : ∀ x ∈ p0, x.block < W.heap.size := by obtain ⟨m, hm⟩ := k0; exact DataW.trod_lt m _ _ _ hm
  have k1 := h1
  have lt1 : ∀ x ∈ p1, x.block < W.heap.size := by obtain ⟨m, hm⟩ := k1; exact DataW.trod_lt m _ _ _ hm
  have k2 := h2
  have lt2 : ∀ x ∈ p2, x.block < W.heap.size := by obtain ⟨m, hm⟩ := k2; exact DataW.trod_lt m _ _ _ hm
  have k3 := h3
  have lt3 : ∀ x ∈ p3, x.block < W.heap.size := by obtain ⟨m, hm⟩ := k3; exact DataW.trod_lt m _ _ _ hm
  have hb : Rows.uptoBulk d0 + Rows.uptoBulk d1 + Rows.uptoBulk d2 + Rows.uptoBulk d3 ≤ 2 ^ 20 := by
    rw [List.append_nil] at hk
    have := of_decide_eq_true hk
    simp only [Rows.uptoBulkAll] at this
    omega
  obtain ⟨fuel0, hf0⟩ := h0
  have hl0 := bulk_one d0
  have hl1 := bulk_one d1
  have hl2 := bulk_one d2
  have hl3 := bulk_one d3
  obtain ⟨xs0, hr0⟩ := read_tree ttOk (B := 2 ^ 20 - 1) (by decide) 9 26 tyOkB fuel0 _ _ hf0 (show Rows.uptoBulk d0 ≤ 2 ^ 20 - 1 by omega)
  obtain ⟨g0, hgt0, hgw0, hgc0, hg0⟩ := ty_graphwB (by decide) hr0.2.2.2.1
  have hvt0 : VT (fun b => b < W.heap.size) W g0.t (.agg cs0) := by
    rw [← hg0]
    exact .agg _ _ (by have := hr0.2.1; simp [Value.cells] at this; omega) fun i x v hx hv => (hr0.2.2.1 i x v hx (by simpa [Value.cells] using hv)).1
  obtain ⟨fuel1, hf1⟩ := h1
  rw [one_ofi hv1] at hf1
  obtain ⟨xs1, hr1⟩ := read_tree ttOk (B := 2 ^ 20) (Nat.pow_le_pow_right (by omega) (by omega)) 9 3 tyOki fuel1 _ _ hf1 (show Rows.uptoBulk d1 ≤ 2 ^ 20 by omega)
  obtain ⟨n1, rfl, hn1⟩ := ty_intw (k := .i64) rfl hr1.2.2.2.1
  have hvt1 : VT (fun b => b < W.heap.size) W (.int .i64 n1) v1 := (hr1.2.2.1 0 _ _ rfl rfl).1
  obtain ⟨fuel2, hf2⟩ := h2
  rw [one_ofi hv2] at hf2
  obtain ⟨xs2, hr2⟩ := read_tree ttOk (B := 2 ^ 20) (Nat.pow_le_pow_right (by omega) (by omega)) 9 3 tyOki fuel2 _ _ hf2 (show Rows.uptoBulk d2 ≤ 2 ^ 20 by omega)
  obtain ⟨n2, rfl, hn2⟩ := ty_intw (k := .i64) rfl hr2.2.2.2.1
  have hvt2 : VT (fun b => b < W.heap.size) W (.int .i64 n2) v2 := (hr2.2.2.1 0 _ _ rfl rfl).1
  obtain ⟨fuel3, hf3⟩ := h3
  rw [one_ofi hv3] at hf3
  obtain ⟨xs3, hr3⟩ := read_tree ttOk (B := 2 ^ 20) (Nat.pow_le_pow_right (by omega) (by omega)) 9 3 tyOki fuel3 _ _ hf3 (show Rows.uptoBulk d3 ≤ 2 ^ 20 by omega)
  obtain ⟨n3, rfl, hn3⟩ := ty_intw (k := .i64) rfl hr3.2.2.2.1
  have hvt3 : VT (fun b => b < W.heap.size) W (.int .i64 n3) v3 := (hr3.2.2.1 0 _ _ rfl rfl).1
  have hp := law6F g0 hgt0 (fun b hb => Nat.lt_of_le_of_lt (hgc0 b hb) (by decide)) (fun b hb => (hgw0.blocks b hb).fin.all) n1 hn1 n2 hn2 n3 hn3
  unfold PCalls at hp
  clear hA0
  refine (hp.2 (fun b => b < W.heap.size) W [(.agg cs0), v1, v2, v3] rfl (fun i x v hx hv => ?_) (fb hL)).mono ?_
  · cases i with
    | zero => simp at hx hv; subst hx hv; exact hvt0
    | succ i =>
      cases i with
      | zero => simp at hx hv; subst hx hv; exact hvt1
      | succ i =>
        cases i with
        | zero => simp at hx hv; subst hx hv; exact hvt2
        | succ i =>
          cases i with
          | zero => simp at hx hv; subst hx hv; exact hvt3
          | succ i => simp at hx
  · rintro e W' ⟨r, mv, F', rfl, rfl, hv', _, _, _, bel⟩
    cases hv'
    exact ⟨_, rfl, _, _, _, [], _, [], hW', trodAll_mk1 (shut_bool Tryd.underlying4 _), (trodAll_cons_mk (Below.trod laidOut (by kernel_rfl) (of_decide_eq_true (by kernel_rfl)) k0 bel lt0) (trodAll_cons_mk (Below.trod laidOut (by kernel_rfl) (of_decide_eq_true (by kernel_rfl)) k1 bel lt1) (trodAll_cons_mk (Below.trod laidOut (by kernel_rfl) (of_decide_eq_true (by kernel_rfl)) k2 bel lt2) (trodAll_cons_mk (Below.trod laidOut (by kernel_rfl) (of_decide_eq_true (by kernel_rfl)) k3 bel lt3) trodAll_mk0)))), rfl, bel.frame _, fun h => by cases h⟩
noncomputable def laidWorld (os : Os) : World :=
  { World.holding Tryd.prog os ⟨#[], #[], []⟩ with heap := (World.holding Tryd.prog os ⟨#[], #[], []⟩).heap.modify 0 fun
      | .cells _ t frozen => .cells (Lib.deBruijn64tab.map fun (n : Nat) => Value.int .u8 n).toArray t frozen
      | o => o }
abbrev wit : Array Value := #[.agg #[.slice none 0 0, .int .i64 0, .slice none 0 0, .slice none 0 0], .int .i64 0, .int .i64 0, .int .i64 0]
theorem laid_met (os : Os) : laidMet Tryd.prog Rows.frameGrowsRow.laid ((laidWorld os).forCall (fun _ _ => 0) ⟨#[], wit, []⟩).memory :=
  laidMet_of_run' 8 (by kernel_rfl) (by kernel_rfl)
theorem reads (os : Os) {H : Type} (enc : TypeId × Value → H) : ∃ places, DataW.whole enc Tryd.prog ((laidWorld os).forCall (fun _ _ => 0) ⟨#[], wit, []⟩).memory Tryd.f6.params.toList Rows.frameGrowsSpec.vars false wit.toList 8 = some ([.agg [.nil, .lit (.int .i64 0), .nil, .nil], .lit (.int .i64 0), .lit (.int .i64 0), .lit (.int .i64 0)], [], places) :=
  ⟨[], by kernel_rfl⟩
set_option maxRecDepth 100000 in
theorem lifted (os : Os) (started : os.Started) (H : Type) (enc : TypeId × Value → H) (F : Stop.Interp) :
    ReturnsInHanded {} Tryd.checked os 6 .any ((Rows.OpenSpec.upto Rows.frameGrowsSpec).preRow enc Tryd.prog Tryd.f6 Rows.frameGrowsUptoRow.domain false Rows.frameGrowsUptoRow.laid) (((Rows.OpenSpec.upto Rows.frameGrowsSpec).at F).post enc Tryd.prog Tryd.f6 false true false false) := by
  obtain ⟨places, hx⟩ := reads os enc
  refine returnsInHanded_of_row (C := Tryd.checked) (s := Rows.OpenSpec.upto Rows.frameGrowsSpec) own started (by kernel_rfl) Tryd.func6
    (witness_row_at (enc := enc) (C := Tryd.checked) false (laidWorld os) wit rfl (by kernel_rfl) (by kernel_rfl) (by kernel_rfl)
      (OpenSpec.preRow_of_cond 8 hx (by kernel_rfl) (fun k hk => by cases hk; kernel_rfl) (by kernel_rfl) (laid_met os))) ?_
  intro W base args ds gs before hval hW _ hcond _ hL _ _
  exact contract H enc W base args ds gs before hval hW (hcond _ rfl) hL
theorem said : Rows.FrameGrowsUptoSaid :=
  OpenClaim.holds_of_cond 6 Tryd.f6 rfl rfl rfl rfl rfl rfl rfl ⟨rfl, rfl, rfl, rfl, rfl⟩ rfl rfl rfl rfl rfl (by kernel_rfl) Tryd.func6 (by kernel_rfl)
    (of_decide_eq_true (by kernel_rfl)) (by unfold Func.isWrapper; first | (rw [if_pos (by decide +kernel)]; kernel_rfl) | (rw [if_neg (by decide +kernel)]; exact ⟨rfl, rfl⟩))
    (fun os started H enc _ F => by rw [OpenClaim.pre_eq_preRow]; exact lifted os started H enc F)
theorem plain (f : FuncId) (fn : Func) (hf : Tryd.pinned.checked.prog.funcNamed "switchback/switchbacklaw19.FrameGrows" = some f) (hfn : Tryd.pinned.checked.prog.funcs[f]? = some fn) :
    false = Tryd.pinned.checked.prog.looks [] ∧ ∀ (j : Nat) t, fn.params[j]? = some t → Tryd.pinned.checked.prog.wantsStandIn t = false := by
  obtain rfl : f = 6 := Option.some.inj ((show Tryd.prog.funcNamed "switchback/switchbacklaw19.FrameGrows" = some 6 by kernel_rfl).symm.trans hf) |>.symm
  obtain rfl : fn = Tryd.f6 := (Option.some.inj (Tryd.func6.symm.trans hfn)).symm
  refine ⟨by kernel_rfl, fun j t ht => ?_⟩
  rw [Tryd.params6] at ht
  have h : t = 26 ∨ t = 3 := by simpa using Array.mem_of_getElem? ht
  rcases h with rfl | rfl
  · exact (show Tryd.prog.wantsStandIn 26 = false by kernel_rfl)
  · exact (show Tryd.prog.wantsStandIn 3 = false by kernel_rfl)
end Go.Proofs.YtgnafgebenlffaaDoor.frameGrows
namespace Go.Proofs.YtgnafgebenlffaaDoor
theorem frameGrows_holds : Rows.FrameGrowsUptoCardSaid :=
  Claim7.holds_tied_plain_at .later [] _ _ _ _ frameGrows.said (fun _ h => by cases h) (by kernel_rfl) (fun _ h => by cases h) frameGrowsUpto_row_tie rfl ⟨rfl, rfl⟩ (by kernel_rfl) rfl frameGrows.plain (by kernel_rfl)
#print axioms frameGrows_holds
end Go.Proofs.YtgnafgebenlffaaDoor
