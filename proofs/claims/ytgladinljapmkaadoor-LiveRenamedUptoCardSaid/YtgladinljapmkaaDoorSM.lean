/- Modules, as they are read. -/
import Derived.Test.YtgladinljapmkaaDoorSK
import Derived.Test.YtgladinljapmkaaDoorSL
/- Modules, as they are read. -/
namespace Go.Proofs.YtgladinljapmkaaDoor.Am
open Go Go.Proofs
set_option maxRecDepth 10000
set_option maxHeartbeats 2000000
set_option linter.unusedVariables false
set_option linter.unusedSimpArgs false

section
variable {B n : Nat} {xs : List T} {t : TypeId}
theorem ty_intw {k : IntKind} (hti : (tt.at t).ti = .int k) (h : TyC tt B n t xs) : ∃ m, xs = [.int k m] ∧ (Lit.int k m).wf = true := by
  cases n with
  | zero => exact h.elim
  | succ n => unfold TyC at h; rw [hti] at h; exact h
theorem ty_int {k : IntKind} (hti : (tt.at t).ti = .int k) (h : TyC tt B n t xs) : ∃ m, xs = [.int k m] := by
  obtain ⟨m, h, _⟩ := ty_intw hti h
  exact ⟨m, h⟩
theorem ty_struct {fs : List (TypeId × Nat)} (hti : (tt.at t).ti = .struct fs) (h : TyC tt B n t xs) : ∃ n', TyFs (TyC tt B n') fs xs := by
  cases n with
  | zero => exact h.elim
  | succ n => unfold TyC at h; rw [hti] at h; exact ⟨n, h⟩
theorem ty_slice {e : TypeId} {α : Type} {f : α → T} {Q : α → Prop} (hti : (tt.at t).ti = .slice e) (he : ∀ n y, TyC tt B n e y → ∃ a, Q a ∧ elT tt e y = f a) (h : TyC tt B n t xs) : ∃ l : List α, xs = [.sl (tt.at e).size (l.map f)] ∧ l.length ≤ B ∧ ∀ a ∈ l, Q a := by
  cases n with
  | zero => exact h.elim
  | succ n =>
    unfold TyC at h
    rw [hti] at h
    obtain ⟨ys, rfl, hl, hy⟩ := h
    have : ∀ ys : List (List T), (∀ y ∈ ys, TyC tt B n e y) → ∃ l : List α, ys.map (elT tt e) = l.map f ∧ ∀ a ∈ l, Q a := by
      intro ys
      induction ys with
      | nil => exact fun _ => ⟨[], rfl, by simp⟩
      | cons y ys ih =>
        intro hy
        obtain ⟨l, h1, h2⟩ := ih fun z hz => hy z (by simp [hz])
        obtain ⟨a, h3, h4⟩ := he n y (hy y (by simp))
        exact ⟨a :: l, by simp [h1, h4], by simpa using ⟨h3, h2⟩⟩
    obtain ⟨l, h1, h2⟩ := this ys hy
    refine ⟨l, by rw [h1], ?_, h2⟩
    have := congrArg List.length h1
    simp at this
    omega
theorem ty_ints (h : TyC tt B n 22 xs) : ∃ l : List Int, xs = [ilist l] ∧ l.length ≤ B := by
  obtain ⟨l, h1, h2, _⟩ := ty_slice (f := fun n : Int => .int .i64 n) (Q := fun _ => True) (e := 3) rfl (fun n y hy => by obtain ⟨m, rfl⟩ := ty_int (k := .i64) rfl hy; exact ⟨m, trivial, rfl⟩) h
  exact ⟨l, h1, h2⟩
theorem ty_words (h : TyC tt B n 50 xs) : ∃ l : List Int, xs = [ulist l] ∧ l.length ≤ B := by
  obtain ⟨l, h1, h2, _⟩ := ty_slice (f := fun n : Int => .int .u32 n) (Q := fun _ => True) (e := 37) rfl (fun n y hy => by obtain ⟨m, rfl⟩ := ty_int (k := .u32) rfl hy; exact ⟨m, trivial, rfl⟩) h
  exact ⟨l, h1, h2⟩
theorem ty_ins (h : TyC tt B n 62 xs) : ∃ x : Ins, (x.args.length ≤ B ∧ x.arrs.length ≤ B) ∧ elT tt 62 xs = x.t := by
  obtain ⟨n', c0, _, rfl, h0, c1, _, rfl, h1, c2, _, rfl, h2, c3, _, rfl, h3, c4, _, rfl, h4, c5, _, rfl, h5, c6, _, rfl, h6, c7, _, rfl, h7, rfl⟩ := ty_struct rfl h
  obtain ⟨op, rfl⟩ := ty_int (k := .i64) rfl h0
  obtain ⟨d, rfl⟩ := ty_int (k := .i64) rfl h1
  obtain ⟨a, rfl⟩ := ty_int (k := .i64) rfl h2
  obtain ⟨b, rfl⟩ := ty_int (k := .i64) rfl h3
  obtain ⟨f, rfl⟩ := ty_int (k := .i64) rfl h4
  obtain ⟨m, rfl⟩ := ty_int (k := .u32) rfl h5
  obtain ⟨args, rfl, ha⟩ := ty_ints h6
  obtain ⟨arrs, rfl, hr⟩ := ty_ints h7
  exact ⟨⟨op, d, a, b, f, m, args, arrs⟩, ⟨ha, hr⟩, rfl⟩
theorem ty_case (h : TyC tt B n 80 xs) : ∃ x : Case, True ∧ elT tt 80 xs = x.t := by
  obtain ⟨n', c0, _, rfl, h0, c1, _, rfl, h1, rfl⟩ := ty_struct rfl h
  obtain ⟨a, rfl⟩ := ty_int (k := .u32) rfl h0
  obtain ⟨b, rfl⟩ := ty_int (k := .i64) rfl h1
  exact ⟨⟨a, b⟩, trivial, rfl⟩
theorem ty_arr (h : TyC tt B n 114 xs) : ∃ x : Arr, True ∧ elT tt 114 xs = x.t := by
  obtain ⟨n', c0, _, rfl, h0, c1, _, rfl, h1, rfl⟩ := ty_struct rfl h
  obtain ⟨a, rfl⟩ := ty_int (k := .i64) rfl h0
  obtain ⟨b, rfl⟩ := ty_int (k := .i64) rfl h1
  exact ⟨⟨a, b⟩, trivial, rfl⟩
theorem ty_end (h : TyC tt B n 40 xs) : ∃ x : End, x.cases.length ≤ B ∧ x.targets.length ≤ B ∧
    xs = [.int .i64 x.kind, .int .i64 x.op, .int .i64 x.a, .int .i64 x.b, .int .u32 x.n, .int .i64 x.to, .int .i64 x.els, .sl 2 (x.cases.map Case.t), .sl 1 (x.targets.map fun n => .int .i64 n)] := by
  obtain ⟨n', c0, _, rfl, h0, c1, _, rfl, h1, c2, _, rfl, h2, c3, _, rfl, h3, c4, _, rfl, h4, c5, _, rfl, h5, c6, _, rfl, h6, c7, _, rfl, h7, c8, _, rfl, h8, rfl⟩ := ty_struct rfl h
  obtain ⟨kind, rfl⟩ := ty_int (k := .i64) rfl h0
  obtain ⟨op, rfl⟩ := ty_int (k := .i64) rfl h1
  obtain ⟨a, rfl⟩ := ty_int (k := .i64) rfl h2
  obtain ⟨b, rfl⟩ := ty_int (k := .i64) rfl h3
  obtain ⟨m, rfl⟩ := ty_int (k := .u32) rfl h4
  obtain ⟨to, rfl⟩ := ty_int (k := .i64) rfl h5
  obtain ⟨els, rfl⟩ := ty_int (k := .i64) rfl h6
  obtain ⟨cs, rfl, hc, _⟩ := ty_slice (f := Case.t) (Q := fun _ => True) (e := 80) rfl (fun n y hy => ty_case hy) h7
  obtain ⟨ts, rfl, ht⟩ := ty_ints h8
  exact ⟨⟨kind, op, a, b, m, to, els, cs, ts⟩, hc, ht, rfl⟩
theorem ty_block (hB : B ≤ 2 ^ 20) (h : TyC tt B n 42 xs) : ∃ x : Block, x.tiny ∧ elT tt 42 xs = x.t := by
  obtain ⟨n', c0, _, rfl, h0, c1, _, rfl, h1, rfl⟩ := ty_struct rfl h
  obtain ⟨code, rfl, hl, hc⟩ := ty_slice (f := Ins.t) (Q := fun x => x.args.length ≤ B ∧ x.arrs.length ≤ B) (e := 62) rfl (fun n y hy => ty_ins hy) h0
  obtain ⟨e, he1, he2, rfl⟩ := ty_end h1
  exact ⟨⟨code, e⟩, ⟨by simp; omega, fun x hx => Nat.le_trans (hc x hx).1 hB, fun x hx => Nat.le_trans (hc x hx).2 hB, Nat.le_trans he1 hB, Nat.le_trans he2 hB⟩, rfl⟩
theorem ty_graph (hB : B ≤ 2 ^ 20) (h : TyC tt B n 26 xs) : ∃ x : Graph, x.tiny ∧ elT tt 26 xs = x.t := by
  obtain ⟨n', c0, _, rfl, h0, c1, _, rfl, h1, c2, _, rfl, h2, c3, _, rfl, h3, rfl⟩ := ty_struct rfl h
  obtain ⟨ps, rfl, hp⟩ := ty_ints h0
  obtain ⟨m, rfl⟩ := ty_int (k := .i64) rfl h1
  obtain ⟨ar, rfl, ha, _⟩ := ty_slice (f := Arr.t) (Q := fun _ => True) (e := 114) rfl (fun n y hy => ty_arr hy) h2
  obtain ⟨bs, rfl, hb, hbt⟩ := ty_slice (f := Block.t) (Q := Block.tiny) (e := 42) rfl (fun n y hy => ty_block hB hy) h3
  exact ⟨⟨ps, m, ar, bs⟩, ⟨Nat.le_trans hp hB, Nat.le_trans ha hB, Nat.le_trans hb hB, hbt⟩, rfl⟩
theorem ty_module (hB : B ≤ 2 ^ 20) (h : TyC tt B n 53 xs) : ∃ x : Module, x.tiny ∧ T.agg xs = x.t := by
  obtain ⟨n', c0, _, rfl, h0, c1, _, rfl, h1, c2, _, rfl, h2, c3, _, rfl, h3, rfl⟩ := ty_struct rfl h
  obtain ⟨gs, rfl, hg⟩ := ty_words h0
  obtain ⟨ar, rfl, ha⟩ := ty_ints h1
  obtain ⟨fs, rfl, hf, hft⟩ := ty_slice (f := Graph.t) (Q := Graph.tiny) (e := 26) rfl (fun n y hy => ty_graph hB hy) h2
  obtain ⟨m, rfl⟩ := ty_int (k := .i64) rfl h3
  exact ⟨⟨gs, ar, fs, m⟩, ⟨Nat.le_trans hg hB, Nat.le_trans ha hB, Nat.le_trans hf hB, hft⟩, rfl⟩
end

end Go.Proofs.YtgladinljapmkaaDoor.Am
