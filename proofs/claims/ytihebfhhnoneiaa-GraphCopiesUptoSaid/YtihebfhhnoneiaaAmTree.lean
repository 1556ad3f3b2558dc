/- Trees of rows: ways, what is written, what is put in and taken out. -/
import Derived.Test.YtihebfhhnoneiaaAmRel
namespace Go.Proofs.Ytihebfhhnoneiaa.Am
open Go.RowKit
set_option linter.unusedVariables false
set_option linter.unusedSimpArgs false

theorem nd_toT (n : Nd) : n.toT.nd? = some n := by cases n <;> rfl
theorem nd_of {c : T} {n : Nd} (h : c.nd? = some n) : c = n.toT := by
  cases c <;> simp [T.nd?] at h <;> subst h <;> rfl
theorem toT_cells (n : Nd) : n.toT.cells = [n.toT] := by cases n <;> rfl
theorem noNst_nd {c : T} : noNst c = true ↔ c.nd? = none := by cases c <;> simp [noNst, T.nd?]

theorem nodeAt_cons {E : TypeId} {s : Nat} {ts : List T} {i j : Nat} {p : Path} {n : Nd} :
    nodeAt (.row E s ts) ((i, j) :: p) = some n ↔ ∃ x c m, ts[i]? = some x ∧ x.cells[j]? = some c ∧ c.nd? = some m ∧ nodeAt m p = some n := by
  simp only [nodeAt, nth_eq]
  constructor
  · intro h
    split at h
    · rename_i x hx
      split at h
      · rename_i c hc
        split at h
        · rename_i m hm
          exact ⟨x, c, m, hx, hc, hm, h⟩
        · exact nomatch h
      · exact nomatch h
    · exact nomatch h
  · rintro ⟨x, c, m, h1, h2, h3, h4⟩
    simp only [h1, h2, h3]
    exact h4
theorem nodeAt_nil {n : Nd} : nodeAt n [] = some n := by cases n <;> rfl
theorem nodeAt_map {kk : IntKind} {es : List (Int × T)} {q : Nat × Nat} {p : Path} : nodeAt (.map kk es) (q :: p) = none := rfl
theorem nodeAt_append : ∀ {p : Path} {nd n : Nd} {q : Path}, nodeAt nd p = some n → nodeAt nd (p ++ q) = nodeAt n q
  | [], nd, n, q, h => by rw [nodeAt_nil] at h; injection h with h; rw [h]; rfl
  | (i, j) :: p, .map .., n, q, h => by rw [nodeAt_map] at h; exact nomatch h
  | (i, j) :: p, .row E s ts, n, q, h => by
    obtain ⟨x, c, m, h1, h2, h3, h4⟩ := nodeAt_cons.1 h
    have := nodeAt_append (q := q) h4
    simp only [List.cons_append, nodeAt, nth_eq, h1, h2, h3]
    exact this
theorem nodeAt_pre : ∀ {p q : Path} {nd n : Nd}, nodeAt nd (p ++ q) = some n → ∃ m, nodeAt nd p = some m ∧ nodeAt m q = some n
  | [], q, nd, n, h => ⟨nd, nodeAt_nil, h⟩
  | (i, j) :: p, q, .map .., n, h => by rw [List.cons_append, nodeAt_map] at h; exact nomatch h
  | (i, j) :: p, q, .row E s ts, n, h => by
    rw [List.cons_append] at h
    obtain ⟨x, c, m, h1, h2, h3, h4⟩ := nodeAt_cons.1 h
    obtain ⟨m', h5, h6⟩ := nodeAt_pre h4
    exact ⟨m', nodeAt_cons.2 ⟨x, c, m, h1, h2, h3, h5⟩, h6⟩

theorem nodeK_out : ∀ {p : Path} {nd : Nd} {K : Nd → Prop}, nodeK nd p K → ∃ n, nodeAt nd p = some n ∧ K n
  | [], nd, K, h => ⟨nd, nodeAt_nil, by unfold nodeK at h; cases nd <;> exact h⟩
  | (i, j) :: p, .map .., K, h => h.elim
  | (i, j) :: p, .row E s ts, K, h => by
    obtain ⟨h1, h2⟩ := h
    have h1 := h1.out
    have h3 := h2.out (x := ts[i]) (by rw [nth_eq]; exact List.getElem?_eq_getElem h1)
    split at h3
    · rename_i c hc
      rw [nth_eq] at hc
      split at h3
      · rename_i m hm
        obtain ⟨n, h4, h5⟩ := nodeK_out h3
        exact ⟨n, nodeAt_cons.2 ⟨_, c, m, List.getElem?_eq_getElem h1, hc, hm, h4⟩, h5⟩
      · exact h3.elim
    · exact h3.elim

theorem updK_out : ∀ {p : Path} {nd : Nd} {u : Nd → (Nd → Prop) → Prop} {K : Nd → Prop}, updK nd p u K → ∃ n, nodeAt nd p = some n ∧ u n fun m => K (setAt nd p m)
  | [], nd, u, K, h => ⟨nd, nodeAt_nil, by unfold updK at h; cases nd <;> exact h⟩
  | (i, j) :: p, .map .., u, K, h => h.elim
  | (i, j) :: p, .row E s ts, u, K, h => by
    obtain ⟨h1, h2⟩ := h
    have h1 := h1.out
    have h3 := h2.out (x := ts[i]) (by rw [nth_eq]; exact List.getElem?_eq_getElem h1)
    split at h3
    · rename_i c hc
      rw [nth_eq] at hc
      split at h3
      · rename_i m hm
        obtain ⟨n, h4, h5⟩ := updK_out h3
        refine ⟨n, nodeAt_cons.2 ⟨_, c, m, List.getElem?_eq_getElem h1, hc, hm, h4⟩, ?_⟩
        simp only [setAt, nth_eq, List.getElem?_eq_getElem h1, hc, hm]
        exact h5
      · exact h3.elim
    · exact h3.elim

/-- The cells of an element some of whose cells were written. -/
theorem setT_cells {s off : Nat} {x : T} {ys : List T} (h : x.cells.length = s) (ho : off + ys.length ≤ s) (hn : ys ≠ []) (hy : ∀ y ∈ ys, y.cells = [y]) : (setT s x off ys).cells = x.cells.take off ++ ys ++ x.cells.drop (off + ys.length) := by
  unfold setT
  cases hs : Nat.beq s 1 with
  | true =>
    have hs := Nat.eq_of_beq_eq_true hs
    subst hs
    cases ys with
    | nil => exact absurd rfl hn
    | cons y ys =>
      simp at ho
      have h0 : off = 0 := by omega
      have h1 : ys = [] := List.eq_nil_of_length_eq_zero (by omega)
      subst h0 h1
      have h2 : x.cells.drop 1 = [] := List.eq_nil_of_length_eq_zero (by simp [h])
      simp only [hs, cond_true, List.headD_cons, hy y (by simp), List.take_zero, List.nil_append, List.length_singleton, Nat.zero_add, h2, List.append_nil]
  | false => rfl
theorem setT_get {s off : Nat} {x : T} {ys : List T} (h : x.cells.length = s) (ho : off + ys.length ≤ s) (hn : ys ≠ []) (hy : ∀ y ∈ ys, y.cells = [y]) (j : Nat) :
    (setT s x off ys).cells[j]? = if off ≤ j ∧ j < off + ys.length then ys[j - off]? else x.cells[j]? := by
  rw [setT_cells h ho hn hy]
  rcases Nat.lt_or_ge j off with h1 | h1
  · rw [if_neg (by omega), List.append_assoc, List.getElem?_append_left (by simp; omega), List.getElem?_take, if_pos h1]
  · rcases Nat.lt_or_ge j (off + ys.length) with h2 | h2
    · rw [if_pos ⟨h1, h2⟩, List.append_assoc, List.getElem?_append_right (by simp; omega), List.getElem?_append_left (by simp; omega)]
      congr 1; simp; omega
    · rw [if_neg (by omega), List.getElem?_append_right (by simp; omega), List.getElem?_drop]
      congr 1; simp; omega
theorem setT_len {s off : Nat} {x : T} {ys : List T} (h : x.cells.length = s) (ho : off + ys.length ≤ s) (hn : ys ≠ []) (hy : ∀ y ∈ ys, y.cells = [y]) : (setT s x off ys).cells.length = s := by
  rw [setT_cells h ho hn hy]; simp; omega
theorem setT_get1 {s off : Nat} {x y : T} (h : x.cells.length = s) (ho : off < s) (hy : y.cells = [y]) (j : Nat) : (setT s x off [y]).cells[j]? = if j = off then some y else x.cells[j]? := by
  rw [setT_get h (by simp; omega) (by simp) (by simpa using hy)]
  by_cases hj : j = off
  · subst hj; rw [if_pos (by simp), if_pos rfl]; simp
  · rw [if_neg (by simp; omega), if_neg hj]

/-- Elements have their cells. -/
def WF (nd : Nd) : Prop := ∀ (q : Path) (E : TypeId) (s : Nat) (ys : List T), nodeAt nd q = some (.row E s ys) → ∀ x ∈ ys, x.cells.length = s
theorem WF.sub {nd n : Nd} {p : Path} (h : WF nd) (hp : nodeAt nd p = some n) : WF n := fun q E s ys hq => h (p ++ q) E s ys (by rw [nodeAt_append hp]; exact hq)

/-- The value of a row or map that lies there. -/
def Nd.lv (n : Nd) (L : Loc) : Value := match n with | .row .. => L.val | .map .. => L.mval
def sameKind : Nd → Nd → Bool
  | .row .., .row .. => true
  | .map .., .map .. => true
  | _, _ => false
def T.kind2 : T → T → Prop := fun a b => a = b ∨ ∃ n m, a.nd? = some n ∧ b.nd? = some m ∧ sameKind n m = true
/-- Rows alike but for what lies in the rows within. -/
def SimN : Nd → Nd → Prop
  | .row E s xs, .row E' s' xn => E' = E ∧ s' = s ∧ xn.length = xs.length ∧ ∀ (i : Nat) (x' : T), xn[i]? = some x' → ∃ x, xs[i]? = some x ∧ x'.cells.length = x.cells.length ∧ ∀ (j : Nat) (c' : T), x'.cells[j]? = some c' → ∃ c, x.cells[j]? = some c ∧ T.kind2 c c'
  | .map kk es, n => n = .map kk es
  | _, _ => False
theorem SimN.refl : ∀ n, SimN n n
  | .row E s xs => ⟨rfl, rfl, rfl, fun i x h => ⟨x, h, rfl, fun j c hc => ⟨c, hc, .inl rfl⟩⟩⟩
  | .map kk es => rfl
theorem sameKind_set {n : Nd} {p : Path} {m n0 : Nd} (h : nodeAt n p = some n0) (hk : sameKind n0 m = true) : sameKind n (setAt n p m) = true := by
  cases p with
  | nil =>
    rw [nodeAt_nil] at h
    injection h with h
    subst h
    cases n <;> exact hk
  | cons q p =>
    cases n with
    | row E s ts =>
      obtain ⟨i, j⟩ := q
      obtain ⟨x, c, m', h1, h2, h3, h4⟩ := nodeAt_cons.1 h
      simp only [setAt, nth_eq, h1, h2, h3]
      rfl
    | map => rfl

theorem nodeAt_setAt : ∀ (p : Path) {nd m n0 : Nd}, nodeAt nd p = some n0 → WF nd → sameKind n0 m = true → ∀ (q : Path) (n' : Nd), nodeAt (setAt nd p m) q = some n' →
    (∃ r, q = p ++ r ∧ nodeAt m r = some n') ∨ ((¬ p <+: q) ∧ ∃ n, nodeAt nd q = some n ∧ SimN n n')
  | [], nd, m, n0, hp, hw, hk, q, n', hq => .inl ⟨q, rfl, by unfold setAt at hq; cases nd <;> exact hq⟩
  | (i, j) :: p, .map .., m, n0, hp, hw, hk, q, n', hq => by rw [nodeAt_map] at hp; exact nomatch hp
  | (i, j) :: p, .row E s ts, m, n0, hp, hw, hk, q, n', hq => by
    obtain ⟨x, c, m0, h1, h2, h3, h4⟩ := nodeAt_cons.1 hp
    have hi := (List.getElem?_eq_some_iff.1 h1).1
    have hcx := hw [] E s ts nodeAt_nil x (List.mem_of_getElem? h1)
    have hj : j < s := by rw [← hcx]; exact (List.getElem?_eq_some_iff.1 h2).1
    have hset : setAt (.row E s ts) ((i, j) :: p) m = .row E s (ts.set i (setT s x j [(setAt m0 p m).toT])) := by simp only [setAt, nth_eq, h1, h2, h3]
    have hX := setT_get1 (y := (setAt m0 p m).toT) hcx hj (toT_cells _)
    have hw2 : WF m0 := hw.sub (p := [(i, j)]) (nodeAt_cons.2 ⟨x, c, m0, h1, h2, h3, nodeAt_nil⟩)
    have hsk := sameKind_set h4 hk
    rw [hset] at hq
    cases q with
    | nil =>
      rw [nodeAt_nil] at hq
      injection hq with hq
      subst hq
      refine .inr ⟨by simp, .row E s ts, nodeAt_nil, rfl, rfl, by simp, fun i' x' hx' => ?_⟩
      rw [List.getElem?_set] at hx'
      by_cases hii : i = i'
      · subst hii
        rw [if_pos rfl, if_pos hi] at hx'
        injection hx' with hx'
        subst hx'
        refine ⟨x, h1, by rw [setT_len hcx (by simp; omega) (by simp) (by simpa using toT_cells _), hcx], fun j' c' hc' => ?_⟩
        rw [hX] at hc'
        by_cases hjj : j' = j
        · subst hjj
          rw [if_pos rfl] at hc'
          injection hc' with hc'
          subst hc'
          exact ⟨_, h2, .inr ⟨m0, _, h3, nd_toT _, hsk⟩⟩
        · rw [if_neg hjj] at hc'
          exact ⟨c', hc', .inl rfl⟩
      · rw [if_neg hii] at hx'
        exact ⟨x', hx', rfl, fun j c hc => ⟨c, hc, .inl rfl⟩⟩
    | cons h q =>
      obtain ⟨i', j'⟩ := h
      obtain ⟨x', c', m', g1, g2, g3, g4⟩ := nodeAt_cons.1 hq
      rw [List.getElem?_set] at g1
      by_cases hii : i = i'
      · subst hii
        rw [if_pos rfl, if_pos hi] at g1
        injection g1 with g1
        subst g1
        rw [hX] at g2
        by_cases hjj : j' = j
        · subst hjj
          rw [if_pos rfl] at g2
          injection g2 with g2
          subst g2
          rw [nd_toT] at g3
          injection g3 with g3
          subst g3
          rcases nodeAt_setAt p h4 hw2 hk q n' g4 with ⟨r, rfl, k1⟩ | ⟨k1, n, k2, k3⟩
          · exact .inl ⟨r, rfl, k1⟩
          · exact .inr ⟨fun e => k1 (List.cons_prefix_cons.1 e).2, n, nodeAt_cons.2 ⟨x, c, m0, h1, h2, h3, k2⟩, k3⟩
        · rw [if_neg hjj] at g2
          refine .inr ⟨fun e => ?_, n', nodeAt_cons.2 ⟨x, c', m', h1, g2, g3, g4⟩, SimN.refl _⟩
          have := (List.cons_prefix_cons.1 e).1
          injection this with _ this
          exact hjj this.symm
      · rw [if_neg hii] at g1
        refine .inr ⟨fun e => ?_, n', nodeAt_cons.2 ⟨x', c', m', g1, g2, g3, g4⟩, SimN.refl _⟩
        have := (List.cons_prefix_cons.1 e).1
        injection this with this _
        exact hii this
theorem nodeAt_setAt_at : ∀ (p : Path) {nd m n0 : Nd}, nodeAt nd p = some n0 → WF nd → nodeAt (setAt nd p m) p = some m
  | [], nd, m, n0, hp, hw => by cases nd <;> exact nodeAt_nil
  | (i, j) :: p, .map .., m, n0, hp, hw => by rw [nodeAt_map] at hp; exact nomatch hp
  | (i, j) :: p, .row E s ts, m, n0, hp, hw => by
    obtain ⟨x, c, m0, h1, h2, h3, h4⟩ := nodeAt_cons.1 hp
    have hi := (List.getElem?_eq_some_iff.1 h1).1
    have hcx := hw [] E s ts nodeAt_nil x (List.mem_of_getElem? h1)
    have hj : j < s := by rw [← hcx]; exact (List.getElem?_eq_some_iff.1 h2).1
    have hset : setAt (.row E s ts) ((i, j) :: p) m = .row E s (ts.set i (setT s x j [(setAt m0 p m).toT])) := by simp only [setAt, nth_eq, h1, h2, h3]
    rw [hset]
    refine nodeAt_cons.2 ⟨setT s x j [(setAt m0 p m).toT], (setAt m0 p m).toT, _, ?_, ?_, nd_toT _, nodeAt_setAt_at p h4 (hw.sub (p := [(i, j)]) (nodeAt_cons.2 ⟨x, c, m0, h1, h2, h3, nodeAt_nil⟩))⟩
    · rw [List.getElem?_set, if_pos rfl, if_pos hi]
    · rw [setT_get1 hcx hj (toT_cells _), if_pos rfl]

section
variable {F F' : Nat → Prop} {w w' : World} {c c' c2 : Path → Option Loc}

theorem TreeOk.wf {nd : Nd} (h : TreeOk F w c nd) : WF nd := by
  intro q E s ys hq x hx
  rcases h.1 q _ hq with ⟨rfl, _⟩ | ⟨_, _, _, _, _, _, _, _, _, _, _, q8, _⟩
  · simp at hx
  · exact q8 x hx
theorem TreeOk.sub {nd n : Nd} {p : Path} (h : TreeOk F w c nd) (hp : nodeAt nd p = some n) : TreeOk F w (fun r => c (p ++ r)) n := by
  refine ⟨fun q m hq => ?_, fun q q' m m' b o s cp mm o' s' cp' mm' h1 h2 h3 h4 => ?_⟩
  · have := h.1 (p ++ q) m (by rw [nodeAt_append hp]; exact hq)
    exact this.move rfl (fun i j => by simp) (fun _ _ _ _ _ _ => rfl) fun _ _ h => h
  · have := h.2 (p ++ q) (p ++ q') m m' b o s cp mm o' s' cp' mm' (by rw [nodeAt_append hp]; exact h1) (by rw [nodeAt_append hp]; exact h2) h3 h4
    exact List.append_cancel_left this
theorem Bk.sub {nd n : Nd} {p : Path} {b : Nat} (hp : nodeAt nd p = some n) (h : Bk (fun r => c (p ++ r)) n b) : Bk c nd b := by
  obtain ⟨q, m, o, s, cp, mm, h1, h2⟩ := h
  exact ⟨p ++ q, m, o, s, cp, mm, by rw [nodeAt_append hp]; exact h1, h2⟩

/-- Another row at the end of a way. -/
theorem TreeOk.upd {nd n0 m : Nd} {p : Path} (h : TreeOk F w c nd) (hp : nodeAt nd p = some n0) (hk : sameKind n0 m = true) (hc : ∀ q, ¬ p <+: q → c' q = c q) (hc0 : c' p = c p) (hm : TreeOk F' w' (fun r => c' (p ++ r)) m)
    (hh : ∀ q n b o s cp mm, ¬ p <+: q → nodeAt nd q = some n → c q = some (.at b o s cp mm) → w'.heap[b]? = w.heap[b]?) (hv : ∀ x v, VT F w x v → VT F' w' x v)
    (hd : ∀ b, Bk (fun r => c' (p ++ r)) m b → ∀ q n o s cp mm, ¬ p <+: q → nodeAt nd q = some n → c q = some (.at b o s cp mm) → False) : TreeOk F' w' c' (setAt nd p m) := by
  have hw := h.wf
  have hchild : ∀ q, ¬ p <+: q → ∀ i j, c' (q ++ [(i, j)]) = c (q ++ [(i, j)]) := by
    intro q hq i j
    by_cases hpq : p <+: q ++ [(i, j)]
    · rcases List.prefix_concat_iff.1 hpq with e | e
      · rw [← e]; exact hc0
      · exact absurd e hq
    · exact hc _ hpq
  refine ⟨fun q n' hq => ?_, fun q q' n n' b o s cp mm o' s' cp' mm' h1 h2 h3 h4 => ?_⟩
  · rcases nodeAt_setAt p hp hw hk q n' hq with ⟨r, rfl, h1⟩ | ⟨h1, n, h2, h3⟩
    · exact (hm.1 r n' h1).move rfl (fun i j => by simp) (fun _ _ _ _ _ _ => rfl) fun _ _ h => h
    · have ho := (h.1 q n h2).move (c' := c') (p' := q) (hc q h1) (hchild q h1) (fun b o s cp mm hb => hh q n b o s cp mm h1 h2 hb) hv
      cases n with
      | map kk es =>
        have : n' = .map kk es := h3
        rw [this]; exact ho
      | row E s xs =>
        cases n' with
        | map => exact h3.elim
        | row E' s' xn =>
          obtain ⟨rfl, rfl, hl, hs⟩ := h3
          rcases ho with ⟨rfl, ad, g⟩ | ⟨b, o, cap, vals, g1, g3, g4, g5, g6, g7, g8, g9, g10, g11⟩
          · exact .inl ⟨List.eq_nil_of_length_eq_zero hl, ad, g⟩
          · refine .inr ⟨b, o, cap, vals, by rw [hl]; exact g1, g3, g4, g5, g6, by omega, by omega, ?_, ?_, by rw [hl]; exact g11⟩
            · intro x hx
              obtain ⟨i, hi⟩ := List.getElem?_of_mem hx
              obtain ⟨x0, hx0, hl0, _⟩ := hs i x hi
              rw [hl0]; exact g9 x0 (List.mem_of_getElem? hx0)
            · intro i x j y v hx hy hvv
              obtain ⟨x0, hx0, hl0, hcc⟩ := hs i x hx
              obtain ⟨y0, hy0, hk0⟩ := hcc j y hy
              have := g10 i x0 j y0 v hx0 hy0 hvv
              rcases hk0 with rfl | ⟨a, b', e1, e2, e3⟩
              · exact this
              · have e1 := nd_of e1
                have e2 := nd_of e2
                subst e1 e2
                cases a <;> cases b' <;> first | exact this | exact nomatch e3
  · rcases nodeAt_setAt p hp hw hk q n h1 with ⟨r, rfl, k1⟩ | ⟨k1, m1, k2, _⟩ <;> rcases nodeAt_setAt p hp hw hk q' n' h2 with ⟨r', rfl, l1⟩ | ⟨l1, m2, l2, _⟩
    · rw [hm.2 r r' n n' b o s cp mm o' s' cp' mm' k1 l1 h3 h4]
    · rw [hc _ l1] at h4
      exact (hd b ⟨r, n, o, s, cp, mm, k1, h3⟩ q' m2 o' s' cp' mm' l1 l2 h4).elim
    · rw [hc _ k1] at h3
      exact (hd b ⟨r', n', o', s', cp', mm', l1, h4⟩ q m1 o s cp mm k1 k2 h3).elim
    · rw [hc _ k1] at h3
      rw [hc _ l1] at h4
      exact h.2 q q' m1 m2 b o s cp mm o' s' cp' mm' k2 l2 h3 h4

/-- A row some of whose cells hold something else, but no rows that it did not hold. -/
theorem TreeOk.less {E : TypeId} {sz : Nat} {xs xs' : List T} (h : TreeOk F w c (.row E sz xs)) (hs : ∀ q p n, nodeAt (.row E sz xs') (q :: p) = some n → nodeAt (.row E sz xs) (q :: p) = some n) (h0 : NodeOk F' w' c [] (.row E sz xs'))
    (hh : ∀ q p n b o s cp m, nodeAt (.row E sz xs) (q :: p) = some n → c (q :: p) = some (.at b o s cp m) → w'.heap[b]? = w.heap[b]?) (hv : ∀ x v, VT F w x v → VT F' w' x v) : TreeOk F' w' c (.row E sz xs') := by
  refine ⟨fun p n hp => ?_, fun p p' n n' b o s cp mm o' s' cp' mm' h1 h2 h3 h4 => ?_⟩
  · cases p with
    | nil => rw [nodeAt_nil] at hp; injection hp with hp; subst hp; exact h0
    | cons q p => exact (h.1 _ _ (hs q p n hp)).move rfl (fun _ _ => rfl) (fun b o s cp m hb => hh q p n b o s cp m (hs q p n hp) hb) hv
  · have key : ∀ p n, nodeAt (.row E sz xs') p = some n → ∃ n0, nodeAt (.row E sz xs) p = some n0 := by
      intro p n hp
      cases p with
      | nil => exact ⟨_, nodeAt_nil⟩
      | cons q p => exact ⟨n, hs q p n hp⟩
    obtain ⟨m1, g1⟩ := key p n h1
    obtain ⟨m2, g2⟩ := key p' n' h2
    exact h.2 p p' m1 m2 b o s cp mm o' s' cp' mm' g1 g2 h3 h4

theorem nodeAt_put {E : TypeId} {sz : Nat} {xs : List T} {x : T} {i j : Nat} {n2 : Nd} (hx : xs[i]? = some x) (hcx : x.cells.length = sz) (hj : j < sz) (p : Path) (n : Nd) (hp : nodeAt (.row E sz (xs.set i (setT sz x j [n2.toT]))) p = some n) :
    (p = [] ∧ n = .row E sz (xs.set i (setT sz x j [n2.toT]))) ∨ (∃ r, p = (i, j) :: r ∧ nodeAt n2 r = some n) ∨ (p ≠ [] ∧ (¬ [(i, j)] <+: p) ∧ nodeAt (.row E sz xs) p = some n) := by
  have hi := (List.getElem?_eq_some_iff.1 hx).1
  have hX := setT_get1 (y := n2.toT) hcx hj (toT_cells _)
  cases p with
  | nil => rw [nodeAt_nil] at hp; injection hp with hp; exact .inl ⟨rfl, hp.symm⟩
  | cons q p =>
    obtain ⟨i', j'⟩ := q
    obtain ⟨x', c', m', g1, g2, g3, g4⟩ := nodeAt_cons.1 hp
    rw [List.getElem?_set] at g1
    by_cases hii : i = i'
    · subst hii
      rw [if_pos rfl, if_pos hi] at g1
      injection g1 with g1
      subst g1
      rw [hX] at g2
      by_cases hjj : j' = j
      · subst hjj
        rw [if_pos rfl] at g2
        injection g2 with g2
        subst g2
        rw [nd_toT] at g3
        injection g3 with g3
        subst g3
        exact .inr (.inl ⟨p, rfl, g4⟩)
      · rw [if_neg hjj] at g2
        refine .inr (.inr ⟨by simp, fun e => ?_, nodeAt_cons.2 ⟨x, c', m', hx, g2, g3, g4⟩⟩)
        have := (List.cons_prefix_cons.1 e).1
        injection this with _ this
        exact hjj this.symm
    · rw [if_neg hii] at g1
      refine .inr (.inr ⟨by simp, fun e => ?_, nodeAt_cons.2 ⟨x', c', m', g1, g2, g3, g4⟩⟩)
      have := (List.cons_prefix_cons.1 e).1
      injection this with this _
      exact hii this

/-- A tree put into a cell of a row that holds none. -/
theorem TreeOk.put {E : TypeId} {sz : Nat} {xs : List T} {x y : T} {i j : Nat} {n2 : Nd} {u : Value} {b o sz' cap m : Nat} {vals : Array Value} (h : TreeOk F w c (.row E sz xs)) (hx : xs[i]? = some x) (hy : x.cells[j]? = some y) (hn : y.nd? = none)
    (h0 : c [] = some (.at b o sz' cap m)) (hb : w.heap[b]? = some (.cells vals E (0, 0))) (hu : vals[o + i * sz + j]? = some u)
    (h2 : TreeOk F w c2 n2) (hval : ∃ L, c2 [] = some L ∧ u = n2.lv L) (hd : ∀ b, Bk c (.row E sz xs) b → Bk c2 n2 b → False)
    (hc : ∀ q, ¬ [(i, j)] <+: q → c' q = c q) (hc2 : ∀ r, c' ((i, j) :: r) = c2 r) : TreeOk F w c' (.row E sz (xs.set i (setT sz x j [n2.toT]))) := by
  have hi := (List.getElem?_eq_some_iff.1 hx).1
  have hcx := h.wf [] E sz xs nodeAt_nil x (List.mem_of_getElem? hx)
  have hj : j < sz := by rw [← hcx]; exact (List.getElem?_eq_some_iff.1 hy).1
  have hX := setT_get1 (y := n2.toT) hcx hj (toT_cells _)
  have hnode : ∀ p n, nodeAt (.row E sz (xs.set i (setT sz x j [n2.toT]))) p = some n → (p = [] ∧ n = .row E sz (xs.set i (setT sz x j [n2.toT]))) ∨ (∃ r, p = (i, j) :: r ∧ nodeAt n2 r = some n) ∨ (p ≠ [] ∧ (¬ [(i, j)] <+: p) ∧ nodeAt (.row E sz xs) p = some n) := fun p n hp => nodeAt_put hx hcx hj p n hp
  have hnone : nodeAt (.row E sz xs) [(i, j)] = none := by
    simp only [nodeAt, nth_eq, hx, hy, hn]
  have hchild : ∀ q, ¬ [(i, j)] <+: q → q ≠ [] → ∀ a, c' (q ++ [a]) = c (q ++ [a]) := by
    intro q hq hq0 a
    refine hc _ fun e => ?_
    cases q with
    | nil => exact hq0 rfl
    | cons z q => exact hq (by rw [List.cons_append] at e; have := (List.cons_prefix_cons.1 e).1; rw [← this]; exact List.cons_prefix_cons.2 ⟨rfl, List.nil_prefix⟩)
  have h00 : c' [] = c [] := hc [] (by simp)
  refine ⟨fun p n hp => ?_, fun p p' n n' b o s cp mm o' s' cp' mm' h1 h2' h3 h4 => ?_⟩
  · rcases hnode p n hp with ⟨rfl, rfl⟩ | ⟨r, rfl, h1⟩ | ⟨hp0, h1, h3⟩
    · rcases h.1 [] _ nodeAt_nil with ⟨rfl, _⟩ | ⟨b1, o1, cap1, vals1, g1, g3, g4, g5, g6, g7, g8, g9, g10, g11⟩
      · simp at hi
      · rw [h0] at g1
        injection g1 with g1
        injection g1 with e1 e2 e3 e4 e5
        subst e1 e2 e3 e4 e5
        rw [hb] at g5
        injection g5 with g5
        injection g5 with e1
        subst e1
        refine .inr ⟨b, o, cap, vals, by rw [h00, List.length_set]; exact h0, g3, g4, hb, g6, by simpa using g7, by simpa using g8, ?_, ?_, by simpa using g11⟩
        · intro z hz
          rcases List.mem_or_eq_of_mem_set hz with hz | hz
          · exact g9 z hz
          · subst hz; exact setT_len hcx (by simp; omega) (by simp) (by simpa using toT_cells _)
        · intro i' x' j' y' v hx' hy' hv'
          rw [List.getElem?_set] at hx'
          by_cases hii : i = i'
          · subst hii
            rw [if_pos rfl, if_pos hi] at hx'
            injection hx' with hx'
            subst hx'
            rw [hX] at hy'
            by_cases hjj : j' = j
            · subst hjj
              rw [if_pos rfl] at hy'
              injection hy' with hy'
              subst hy'
              rw [hu] at hv'
              injection hv' with hv'
              subst hv'
              obtain ⟨L, q1, q2⟩ := hval
              cases n2 with
              | row => exact ⟨L, (hc2 []).trans q1, q2⟩
              | map => exact ⟨L, (hc2 []).trans q1, q2⟩
            · rw [if_neg hjj] at hy'
              refine (g10 i x j' y' v hx hy' hv').move ?_ fun _ _ h => h
              refine hc _ fun e => ?_
              have := (List.cons_prefix_cons.1 e).1
              injection this with _ this
              exact hjj this.symm
          · rw [if_neg hii] at hx'
            refine (g10 i' x' j' y' v hx' hy' hv').move ?_ fun _ _ h => h
            refine hc _ fun e => ?_
            have := (List.cons_prefix_cons.1 e).1
            injection this with this _
            exact hii this
    · exact (h2.1 r n h1).move (hc2 r) (fun a b => hc2 _) (fun _ _ _ _ _ _ => rfl) fun _ _ h => h
    · exact (h.1 p n h3).move (hc p h1) (fun a b => hchild p h1 hp0 _) (fun _ _ _ _ _ _ => rfl) fun _ _ h => h
  · have key : ∀ p n b o s cp mm, nodeAt (.row E sz (xs.set i (setT sz x j [n2.toT]))) p = some n → c' p = some (.at b o s cp mm) → (∃ r, p = (i, j) :: r ∧ nodeAt n2 r = some n ∧ c2 r = some (.at b o s cp mm)) ∨ (∃ n0, nodeAt (.row E sz xs) p = some n0 ∧ c p = some (.at b o s cp mm)) := by
      intro p n b o s cp mm hp hcp
      rcases hnode p n hp with ⟨rfl, rfl⟩ | ⟨r, rfl, h1⟩ | ⟨hp0, h1, h3⟩
      · rw [h00] at hcp; exact .inr ⟨_, nodeAt_nil, hcp⟩
      · rw [hc2] at hcp; exact .inl ⟨r, rfl, h1, hcp⟩
      · rw [hc p h1] at hcp; exact .inr ⟨n, h3, hcp⟩
    rcases key p n _ _ _ _ _ h1 h3 with ⟨r, rfl, k1, k2⟩ | ⟨m1, k1, k2⟩ <;> rcases key p' n' _ _ _ _ _ h2' h4 with ⟨r', rfl, l1, l2⟩ | ⟨m2, l1, l2⟩
    · rw [h2.2 r r' n n' b o s cp mm o' s' cp' mm' k1 l1 k2 l2]
    · exact (hd b ⟨p', m2, o', s', cp', mm', l1, l2⟩ ⟨r, n, o, s, cp, mm, k1, k2⟩).elim
    · exact (hd b ⟨p, m1, o, s, cp, mm, k1, k2⟩ ⟨r', n', o', s', cp', mm', l1, l2⟩).elim
    · exact h.2 p p' m1 m2 b o s cp mm o' s' cp' mm' k1 l1 k2 l2

theorem idx_ne {i j i' j' s : Nat} (hj : j < s) (hj' : j' < s) (h : ¬ (i' = i ∧ j' = j)) : i' * s + j' ≠ i * s + j := by
  intro e
  rcases Nat.lt_trichotomy i i' with h1 | h1 | h1
  · have : (i + 1) * s ≤ i' * s := Nat.mul_le_mul_right _ h1
    rw [Nat.add_mul, Nat.one_mul] at this
    omega
  · subst h1
    exact h ⟨rfl, by omega⟩
  · have : (i' + 1) * s ≤ i * s := Nat.mul_le_mul_right _ h1
    rw [Nat.add_mul, Nat.one_mul] at this
    omega

/-- A tree reads as a tree that nobody writes. -/
theorem tree_VT {G : Nat → Prop} {nd : Nd} (hF : ∀ b, F b → G b) (hn : ∀ (p : Path) (n : Nd), nodeAt nd p = some n → NodeOk F w c p n) (hb : ∀ b, Bk c nd b → G b) :
    ∀ (d : Nat) (p : Path) (n : Nd) (L : Loc), SizeOf.sizeOf n.toT ≤ d → nodeAt nd p = some n → c p = some L → VT G w n.toT (n.lv L)
  | 0, p, n, L, hs, _, _ => by cases n <;> simp [Nd.toT] at hs
  | d + 1, p, .map kk es, L, hs, hp, hL => by
    obtain ⟨b, ents, clock, g1, g2, g3, g4, g5, g6⟩ := hn p _ hp
    rw [hL] at g1
    injection g1 with g1
    subst g1
    exact .nmp _ _ _ (.map kk es b ents clock (hb b ⟨p, _, _, _, _, _, hp, hL⟩) g2 g3 g4 (fun i kv e hx he => (g5 i kv e hx he).sub hF) g6)
  | d + 1, p, .row E sz xs, L, hs, hp, hL => by
    refine .nst E sz xs _ ?_
    rcases hn p _ hp with ⟨rfl, a, ha⟩ | ⟨b, o, cap, vals, h1, h3, h3', h4, h5, h6, h7, h8, h9, h10⟩
    · rw [hL] at ha; injection ha with ha; subst ha; exact .sl0 _ _ _
    · rw [hL] at h1
      injection h1 with h1
      subst h1
      by_cases hx0 : xs = []
      · subst hx0; exact .sl0 _ _ _
      · have hin : ∀ j, j < xs.length * sz → o + j < vals.size := fun j hj => by
          have := Nat.mul_le_mul_right sz h6
          omega
        refine .sl sz xs b o cap (fun j => vals.getD (o + j) undef) hx0 h6 h7 (hb b ⟨p, _, _, _, _, _, hp, hL⟩) h8 (fun j hj => ?_) h10 ?_
        · have := hin j hj
          simp [World.cell?, h4, Array.getElem?_eq_getElem this, Array.getD_eq_getD_getElem?]
        · intro i x j y hx hy
          have hi : i < xs.length := (List.getElem?_eq_some_iff.1 hx).1
          have hj : j < sz := by rw [← h8 x (List.mem_of_getElem? hx)]; exact (List.getElem?_eq_some_iff.1 hy).1
          have hlt : i * sz + j < xs.length * sz := by
            have : (i + 1) * sz ≤ xs.length * sz := Nat.mul_le_mul_right _ hi
            rw [Nat.add_mul, Nat.one_mul] at this
            omega
          have hl2 := hin _ hlt
          have hg : vals.getD (o + (i * sz + j)) undef = vals[o + (i * sz + j)] := by simp [Array.getD_eq_getD_getElem?, Array.getElem?_eq_getElem hl2]
          rw [hg]
          have hc := h9 i x j y vals[o + (i * sz + j)] hx hy (by rw [Nat.add_assoc]; exact Array.getElem?_eq_getElem hl2)
          have hsz : SizeOf.sizeOf y ≤ d := by
            have q1 : SizeOf.sizeOf x < SizeOf.sizeOf xs := List.sizeOf_lt_of_mem (List.mem_of_getElem? hx)
            have q2 : SizeOf.sizeOf y ≤ SizeOf.sizeOf x := by
              unfold T.cells at hy
              split at hy
              · have := List.sizeOf_lt_of_mem (List.mem_of_getElem? hy)
                simp at this ⊢; omega
              · cases j with
                | zero => simp at hy; subst hy; exact Nat.le_refl _
                | succ j => simp at hy
            simp [Nd.toT] at hs
            omega
          cases hnd : y.nd? with
          | none => cases y <;> first | exact VT.sub hc hF | exact nomatch hnd
          | some m =>
            have e := nd_of hnd
            subst e
            have hnode : nodeAt nd (p ++ [(i, j)]) = some m := by
              rw [nodeAt_append hp]
              exact nodeAt_cons.2 ⟨x, _, m, hx, hy, nd_toT m, nodeAt_nil⟩
            cases m with
            | row E2 s2 x2 =>
              obtain ⟨L2, q1, q2⟩ := hc
              have := tree_VT hF hn hb d (p ++ [(i, j)]) (.row E2 s2 x2) L2 hsz hnode q1
              rw [q2]; exact this
            | map k2 e2 =>
              obtain ⟨L2, q1, q2⟩ := hc
              have := tree_VT hF hn hb d (p ++ [(i, j)]) (.map k2 e2) L2 hsz hnode q1
              rw [q2]; exact this
end
end Go.Proofs.Ytihebfhhnoneiaa.Am
