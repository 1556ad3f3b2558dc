/- Where a block leads, by the document's answer; counts. -/
import Derived.Test.YtgladinljapmkaaXK
import Derived.Test.YtgladinljapmkaaXI
/- Small functions that the laws of layer 13 lean on. -/
namespace Go.Proofs.Ytgladinljapmkaa.Am
open Go Go.Proofs
set_option maxRecDepth 10000
set_option maxHeartbeats 2000000
set_option linter.unusedVariables false
set_option linter.unusedSimpArgs false
theorem below75 (a m : Int) : PCalls Try.prog 44 [.int .i64 a, .int .i64 m] (fun r => r = .bool (bel a m)) := by
  refine PCalls.of_body ttOk Try.func44 rfl ?_
  repeat' ((conv => whnf); first | (with_reducible first | refine onBool_intro (fun _ => ?_) (fun _ => ?_) | refine And.intro (Ob.mk (Nat.le_of_ble_eq_true rfl)) ?_ | refine And.intro (Ob.mk rfl) ?_ | exact ⟨rfl, rfl⟩ | refine And.intro (Ob.mk (fun h => h)) ?_) | (with_reducible refine Or.inl (And.intro (Ob.mk (Flat.map ?_)) ?_); exact fun _ => rfl) | (refine Or.inl (And.intro (Ob.mk (flat_of rfl)) ?_)) | (refine Or.inl (And.intro (Ob.mk ⟨rfl, rfl, rfl, rfl⟩) ?_)) | (refine Or.inl (And.intro (Ob.mk ⟨rfl, rfl, rfl⟩) ?_)) | (refine And.intro (Ob.mk ⟨rfl, rfl⟩) ?_) | (with_reducible refine Or.inr ?_) | (refine And.intro (Ob.mk (flat_of rfl)) ?_) | (with_reducible refine And.intro (Ob.mk (Flat.map ?_)) ?_; exact fun _ => rfl) | (with_reducible first | exact Ob.mk (Flat.map fun _ => rfl) | refine And.intro ?_ ?_ | apply exG.mk | apply exGS.mk | exact Dd.nil) | (refine Dd.same _ ?_) | (refine Dd.dead _ ?_) | (with_reducible first | apply exQ.mk | apply exP.mk) | (refine EqP.mk rfl rfl) | (with_reducible apply exW.mk) | (refine EqW.mk rfl) | (with_reducible first | intro _ | refine Dn.mk ?_) | (refine exS.full (by first | rfl | (simp; done) | (simp; omega)) ?_) | (refine And.intro (Ob.mk ⟨rfl, rfl, by first | rfl | (simp; done) | (simp; omega)⟩) ?_) | (with_reducible refine exE.mapD ?_) | (refine exL.int ?_) | (with_reducible first | refine Up0.mk rfl ?_ | refine Up0i.mk rfl ?_ | refine Up1.mk rfl ?_ | refine Up1i.mk rfl ?_ | refine Up2.mk rfl ?_ | refine Up2i.mk rfl ?_) | (refine Col.mk rfl rfl rfl ?_) | (refine Coli.mk rfl rfl rfl rfl ?_))
  all_goals exact congrArg T.bool (bel_eq _ _)
def kindN (op : Int) : Int := if op = 1 then 1 else if 2 ≤ op ∧ op ≤ 5 then 2 else if 6 ≤ op ∧ op ≤ 24 then 3 else if 25 ≤ op ∧ op ≤ 29 then op - 21 else if op = 30 then 9 else if op = 31 ∨ op = 32 then 10 else 0
def setsN (x : Ins) : Int := if kindN x.op = 0 ∨ kindN x.op = 5 ∨ kindN x.op = 7 ∨ kindN x.op = 10 then -1 else x.d
def usesN (x : Ins) : List Int :=
  if kindN x.op = 2 ∨ kindN x.op = 5 ∨ kindN x.op = 6 ∨ kindN x.op = 10 then [x.a] else if kindN x.op = 3 ∨ kindN x.op = 7 then [x.a, x.b] else if kindN x.op = 8 then x.args else []
def eUsesN (x : End) : List Int := if x.kind = 2 then [x.a, x.b] else if x.kind = 3 ∨ x.kind = 4 then [x.a] else if x.kind = 5 ∧ x.a ≠ -1 then [x.a] else []
end Go.Proofs.Ytgladinljapmkaa.Am

/- Rising lists of whole numbers. -/
namespace Go.Proofs.Ytgladinljapmkaa.Am
set_option linter.unusedVariables false
set_option linter.unusedSimpArgs false
def dd : List Int → List Int
  | [] => []
  | x :: xs => if x ∈ xs then dd xs else x :: dd xs
theorem dd_mem (x : Int) : ∀ l, x ∈ dd l ↔ x ∈ l
  | [] => Iff.rfl
  | y :: l => by
    unfold dd
    split
    · rename_i h
      rw [dd_mem x l, List.mem_cons]
      constructor
      · exact .inr
      · rintro (rfl | h')
        · exact h
        · exact h'
    · rw [List.mem_cons, dd_mem x l, List.mem_cons]
theorem dd_nodup : ∀ l, (dd l).Nodup
  | [] => List.nodup_nil
  | y :: l => by
    unfold dd
    split
    · exact dd_nodup l
    · rename_i h
      rw [List.nodup_cons, dd_mem]
      exact ⟨h, dd_nodup l⟩
theorem dd_length : ∀ l, (dd l).length ≤ l.length
  | [] => Nat.le_refl _
  | y :: l => by
    have := dd_length l
    unfold dd
    split <;> simp <;> omega
def srt (l : List Int) : List Int := (dd l).mergeSort fun x y => decide (x ≤ y)
theorem srt_mem (l : List Int) (x : Int) : x ∈ srt l ↔ x ∈ l := by
  unfold srt
  rw [(List.mergeSort_perm _ _).mem_iff, dd_mem]
theorem srt_length (l : List Int) : (srt l).length ≤ l.length := by
  unfold srt
  rw [List.length_mergeSort]
  exact dd_length l
theorem asc_of {l : List Int} (h1 : l.Pairwise (fun x y => x ≤ y)) (h2 : l.Nodup) : l.Pairwise (fun x y => x < y) := by
  induction l with
  | nil => exact .nil
  | cons x l ih =>
    rw [List.pairwise_cons] at h1 ⊢
    rw [List.nodup_cons] at h2
    refine ⟨fun y hy => ?_, ih h1.2 h2.2⟩
    have h3 := h1.1 y hy
    have h4 : x ≠ y := fun e => h2.1 (e ▸ hy)
    omega
theorem srt_asc (l : List Int) : (srt l).Pairwise (fun x y => x < y) := by
  refine asc_of ?_ ?_
  · have h := List.pairwise_mergeSort (le := fun x y : Int => decide (x ≤ y)) (fun a b c h1 h2 => by simp at *; omega) (fun a b => by simp; omega) (dd l)
    exact h.imp fun h => by simpa using h
  · exact (List.mergeSort_perm (dd l) fun x y : Int => decide (x ≤ y)).nodup_iff.2 (dd_nodup l)
theorem asc_unique : ∀ {a b : List Int}, a.Pairwise (fun x y => x < y) → b.Pairwise (fun x y => x < y) → (∀ x, x ∈ a ↔ x ∈ b) → a = b
  | [], [], _, _, _ => rfl
  | [], y :: b, _, _, h => by have := (h y).2 (by simp); simp at this
  | x :: a, [], _, _, h => by have := (h x).1 (by simp); simp at this
  | x :: a, y :: b, h1, h2, h => by
    rw [List.pairwise_cons] at h1 h2
    have hxy : x = y := by
      rcases List.mem_cons.1 ((h x).1 (by simp)) with e | hx
      · exact e
      · rcases List.mem_cons.1 ((h y).2 (by simp)) with e | hy
        · exact e.symm
        · have := h1.1 y hy; have := h2.1 x hx; omega
    subst hxy
    rw [asc_unique h1.2 h2.2 fun z => ?_]
    constructor
    · intro hz
      rcases List.mem_cons.1 ((h z).1 (by simp [hz])) with e | h'
      · have := h1.1 z hz; omega
      · exact h'
    · intro hz
      rcases List.mem_cons.1 ((h z).2 (by simp [hz])) with e | h'
      · have := h2.1 z hz; omega
      · exact h'
theorem srt_unique {a l : List Int} (h1 : a.Pairwise (fun x y => x < y)) (h2 : ∀ x, x ∈ a ↔ x ∈ l) : a = srt l := asc_unique h1 (srt_asc l) fun x => by rw [h2, srt_mem]
theorem srt_congr {a b : List Int} (h : ∀ x, x ∈ a ↔ x ∈ b) : srt a = srt b := srt_unique (srt_asc a) fun x => by rw [srt_mem, h]
end Go.Proofs.Ytgladinljapmkaa.Am

/- Where a block leads, by the document's answer; counts. -/
namespace Go.Proofs.Ytgladinljapmkaa.Am
open Go Go.Proofs
set_option maxRecDepth 10000
set_option maxHeartbeats 2000000
set_option linter.unusedVariables false
set_option linter.unusedSimpArgs false
def allN (e : End) : List Int := if e.kind = 1 then [e.to] else if e.kind = 2 then [e.to, e.els] else if e.kind = 3 then e.to :: e.cases.map (·.to) else if e.kind = 4 then e.to :: e.targets else []
def nextN (g : Graph) (b : Int) : List Int := if bel b g.blocks.length = true then srt (allN (nthD g.blocks b.toNat).fin) else []
theorem srt_nil : srt [] = [] := List.eq_nil_of_length_eq_zero (Nat.le_zero.1 (srt_length []))
theorem nthD_cases {α : Type} [Inhabited α] (l : List α) (i : Nat) : nthD l i ∈ l ∨ nthD l i = default := by
  rcases Nat.lt_or_ge i l.length with h | h
  · exact .inl (nthD_mem h)
  · refine .inr ?_
    unfold nthD
    rw [List.getElem?_eq_none h]
    rfl
theorem block_tiny (g : Graph) (hg : g.tiny) (i : Nat) : (nthD g.blocks i).tiny := by
  rcases nthD_cases g.blocks i with h | h
  · exact hg.all _ h
  · rw [h]
    exact ⟨Nat.zero_le _, (fun x hx => nomatch hx), (fun x hx => nomatch hx), Nat.zero_le _, Nat.zero_le _⟩
theorem all_len {b : Block} (h : b.tiny) : (allN b.fin).length ≤ 2 ^ 21 := by
  have h1 := h.cases
  have h2 := h.targets
  unfold allN
  repeat' split
  all_goals simp
  all_goals omega
theorem allN_1 {e : End} (h : eqI e.kind 1 = true) : allN e = [e.to] := by rw [eqI_iff] at h; simp [allN, h]
theorem allN_2 {e : End} (h : eqI e.kind 2 = true) : allN e = [e.to, e.els] := by rw [eqI_iff] at h; simp [allN, h]
theorem allN_3 {e : End} (h : eqI e.kind 3 = true) : allN e = e.to :: e.cases.map (·.to) := by rw [eqI_iff] at h; simp [allN, h]
theorem allN_4 {e : End} (h : eqI e.kind 4 = true) : allN e = e.to :: e.targets := by rw [eqI_iff] at h; simp [allN, h]
theorem allN_5 {e : End} (h1 : eqI e.kind 1 = false) (h2 : eqI e.kind 2 = false) (h3 : eqI e.kind 3 = false) (h4 : eqI e.kind 4 = false) : allN e = [] := by
  rw [eqI_not] at h1 h2 h3 h4
  simp [allN, *]
theorem nextN_in {g : Graph} {b : Int} (h : (!bel b ((g.blocks.map Block.t).length : Nat)) = false) : nextN g b = srt (allN (nthD g.blocks b.toNat).fin) := by
  unfold nextN
  rw [List.length_map] at h
  rw [if_pos (by simpa using h)]
theorem nextN_out {g : Graph} {b : Int} (h : (!bel b ((g.blocks.map Block.t).length : Nat)) = true) : nextN g b = [] := by
  unfold nextN
  rw [List.length_map] at h
  rw [if_neg (by simpa using h)]
abbrev evar (e : End) : SObj := .var 47 [.t (.int .i64 e.kind), .t (.int .i64 e.op), .t (.int .i64 e.a), .t (.int .i64 e.b), .t (.int .u32 e.n), .t (.int .i64 e.to), .t (.int .i64 e.els), .t (.sl 2 (e.cases.map Case.t)), .t (ilist e.targets)]
end Go.Proofs.Ytgladinljapmkaa.Am
