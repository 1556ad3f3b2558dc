/- Graphs, as they are read: where blocks lead, in the range of their kind. -/
import Derived.Test.YtihebfhhnoneiaaG05R
import Derived.Test.YtihebfhhnoneiaaG05W
namespace Go.Proofs.Ytihebfhhnoneiaa.Am
open Go Go.Proofs
set_option maxRecDepth 10000
set_option linter.unusedVariables false
set_option linter.unusedSimpArgs false

section
variable {B n : Nat} {xs : List T} {t : TypeId}
theorem ty_intsw (h : TyC tt B n 23 xs) : ∃ l : List Int, xs = [ilist l] ∧ l.length ≤ B ∧ ∀ x ∈ l, I64 x :=
  ty_slice (f := fun n : Int => .int .i64 n) (Q := I64) (e := 3) rfl (fun n y hy => by obtain ⟨m, rfl, hm⟩ := ty_intw (k := .i64) rfl hy; exact ⟨m, hm, rfl⟩) h
theorem ty_casew (h : TyC tt B n 67 xs) : ∃ x : Case, I64 x.to ∧ elT tt 67 xs = x.t := by
  obtain ⟨n', c0, _, rfl, h0, c1, _, rfl, h1, rfl⟩ := ty_struct rfl h
  obtain ⟨a, rfl⟩ := ty_int (k := .u32) rfl h0
  obtain ⟨b, rfl, hb⟩ := ty_intw (k := .i64) rfl h1
  exact ⟨⟨a, b⟩, hb, rfl⟩
theorem ty_endw (h : TyC tt B n 52 xs) : ∃ x : End, x.cases.length ≤ B ∧ x.targets.length ≤ B ∧ (∀ y ∈ allN x, I64 y) ∧
    xs = [.int .i64 x.kind, .int .i64 x.op, .int .i64 x.a, .int .i64 x.b, .int .u32 x.n, .int .i64 x.to, .int .i64 x.els, .sl 2 (x.cases.map Case.t), .sl 1 (x.targets.map fun n => .int .i64 n)] := by
  obtain ⟨n', c0, _, rfl, h0, c1, _, rfl, h1, c2, _, rfl, h2, c3, _, rfl, h3, c4, _, rfl, h4, c5, _, rfl, h5, c6, _, rfl, h6, c7, _, rfl, h7, c8, _, rfl, h8, rfl⟩ := ty_struct rfl h
  obtain ⟨kind, rfl⟩ := ty_int (k := .i64) rfl h0
  obtain ⟨op, rfl⟩ := ty_int (k := .i64) rfl h1
  obtain ⟨a, rfl⟩ := ty_int (k := .i64) rfl h2
  obtain ⟨b, rfl⟩ := ty_int (k := .i64) rfl h3
  obtain ⟨m, rfl⟩ := ty_int (k := .u32) rfl h4
  obtain ⟨to, rfl, hto⟩ := ty_intw (k := .i64) rfl h5
  obtain ⟨els, rfl, hels⟩ := ty_intw (k := .i64) rfl h6
  obtain ⟨cs, rfl, hc, hcw⟩ := ty_slice (f := Case.t) (Q := fun c => I64 c.to) (e := 67) rfl (fun n y hy => ty_casew hy) h7
  obtain ⟨ts, rfl, ht, htw⟩ := ty_intsw h8
  refine ⟨⟨kind, op, a, b, m, to, els, cs, ts⟩, hc, ht, ?_, rfl⟩
  intro y hy
  unfold allN at hy
  repeat' split at hy
  · rw [List.mem_singleton] at hy; subst hy; exact hto
  · rcases List.mem_cons.1 hy with rfl | hy
    · exact hto
    · rw [List.mem_singleton] at hy; subst hy; exact hels
  · rcases List.mem_cons.1 hy with rfl | hy
    · exact hto
    · obtain ⟨c, hc, rfl⟩ := List.mem_map.1 hy
      exact hcw c hc
  · rcases List.mem_cons.1 hy with rfl | hy
    · exact hto
    · exact htw y hy
  · simp at hy
theorem ty_blockw (hB : B ≤ 2 ^ 20) (h : TyC tt B n 54 xs) : ∃ x : Block, (x.tiny ∧ ∀ y ∈ allN x.fin, I64 y) ∧ elT tt 54 xs = x.t := by
  obtain ⟨n', c0, _, rfl, h0, c1, _, rfl, h1, rfl⟩ := ty_struct rfl h
  obtain ⟨code, rfl, hl, hc⟩ := ty_slice (f := Ins.t) (Q := fun x => x.args.length ≤ B ∧ x.arrs.length ≤ B) (e := 56) rfl (fun n y hy => ty_ins hy) h0
  obtain ⟨e, he1, he2, hew, rfl⟩ := ty_endw h1
  exact ⟨⟨code, e⟩, ⟨⟨by simp; omega, fun x hx => Nat.le_trans (hc x hx).1 hB, fun x hx => Nat.le_trans (hc x hx).2 hB, Nat.le_trans he1 hB, Nat.le_trans he2 hB⟩, hew⟩, rfl⟩
theorem ty_graphw (hB : B ≤ 2 ^ 20) (h : TyC tt B n 38 xs) : ∃ x : Graph, x.tiny ∧ (∀ i, ∀ y ∈ allN (nthD x.blocks i).fin, I64 y) ∧ T.agg xs = x.t := by
  obtain ⟨n', c0, _, rfl, h0, c1, _, rfl, h1, c2, _, rfl, h2, c3, _, rfl, h3, rfl⟩ := ty_struct rfl h
  obtain ⟨ps, rfl, hp⟩ := ty_ints h0
  obtain ⟨m, rfl⟩ := ty_int (k := .i64) rfl h1
  obtain ⟨ar, rfl, ha, _⟩ := ty_slice (f := Arr.t) (Q := fun _ => True) (e := 63) rfl (fun n y hy => ty_arr hy) h2
  obtain ⟨bs, rfl, hb, hbt⟩ := ty_slice (f := Block.t) (Q := fun x => x.tiny ∧ ∀ y ∈ allN x.fin, I64 y) (e := 54) rfl (fun n y hy => ty_blockw hB hy) h3
  refine ⟨⟨ps, m, ar, bs⟩, ⟨Nat.le_trans hp hB, Nat.le_trans ha hB, Nat.le_trans hb hB, fun b hb => (hbt b hb).1⟩, ?_, rfl⟩
  intro i y hy
  rcases nthD_cases bs i with h | h
  · exact (hbt _ h).2 y hy
  · rw [h] at hy
    exact absurd hy (by simp [allN, show (default : Block).fin.kind = 0 from rfl])
end
end Go.Proofs.Ytihebfhhnoneiaa.Am
