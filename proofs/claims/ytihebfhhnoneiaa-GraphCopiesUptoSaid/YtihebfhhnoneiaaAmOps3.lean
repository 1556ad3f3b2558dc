/- Stores. -/
import Derived.Test.YtihebfhhnoneiaaAmOps2
namespace Go.Proofs.Ytihebfhhnoneiaa.Am
open Go.RowKit
set_option linter.unusedVariables false
set_option linter.unusedSimpArgs false

theorem putIds_mem : ∀ {ss : List SV} {t k : Nat} {s : SV}, ss[t]? = some s → rootId s = some k → k ∈ putIds ss
  | [], t, k, s, h, _ => by simp at h
  | x :: ss, 0, k, s, h, hr => by simp at h; subst h; rw [putIds_cons, hr]; simp
  | x :: ss, t + 1, k, s, h, hr => by
    have := putIds_mem (ss := ss) (by simpa using h) hr
    rw [putIds_cons]
    split
    · exact List.mem_cons_of_mem _ this
    · exact this
theorem putIds_one : ∀ {ss : List SV} {t t' k : Nat} {s s' : SV}, (putIds ss).Nodup → ss[t]? = some s → rootId s = some k → ss[t']? = some s' → rootId s' = some k → t = t'
  | [], t, t', k, s, s', _, h, _, _, _ => by simp at h
  | x :: ss, 0, 0, k, s, s', _, _, _, _, _ => rfl
  | x :: ss, 0, t' + 1, k, s, s', hn, h, hr, h', hr' => by
    simp at h; subst h
    rw [putIds_cons, hr] at hn
    exact absurd (putIds_mem (by simpa using h') hr') (List.nodup_cons.1 hn).1
  | x :: ss, t + 1, 0, k, s, s', hn, h, hr, h', hr' => by
    simp at h'; subst h'
    rw [putIds_cons, hr'] at hn
    exact absurd (putIds_mem (by simpa using h) hr) (List.nodup_cons.1 hn).1
  | x :: ss, t + 1, t' + 1, k, s, s', hn, h, hr, h', hr' => by
    have hn' : (putIds ss).Nodup := by
      rw [putIds_cons] at hn
      split at hn
      · exact (List.nodup_cons.1 hn).2
      · exact hn
    exact congrArg (· + 1) (putIds_one hn' (by simpa using h) hr (by simpa using h') hr')
theorem putIds_of : ∀ {ss : List SV} {k : Nat}, k ∈ putIds ss → ∃ (t : Nat) (s : SV), ss[t]? = some s ∧ rootId s = some k
  | [], k, h => by simp [putIds] at h
  | x :: ss, k, h => by
    rw [putIds_cons] at h
    have rest : k ∈ putIds ss → ∃ (t : Nat) (s : SV), (x :: ss)[t]? = some s ∧ rootId s = some k := fun h => by
      obtain ⟨t, s, h1, h2⟩ := putIds_of h
      exact ⟨t + 1, s, by simpa using h1, h2⟩
    split at h
    · rename_i k' hr
      rcases List.mem_cons.1 h with rfl | h
      · exact ⟨0, x, rfl, hr⟩
      · exact rest h
    · exact rest h

section
variable {P : Program} {tt : Tab} {own : Nat → Own} {F : Nat → Prop} {w : World} {σ : Sto} {env : Env} {a : Act} {N : Nat} {o : Oper}
variable {K : SV → Sto → Prop} {next : Act → World → Prop} {Q : Exit → Act → World → Prop}

theorem run_storeVar_at {t : TypeId} {e : TE} (h : TOk P t e) (w : World) (b off : Nat) (v : Value) (cur : Array Value) (E : TypeId) (hb : w.heap[b]? = some (.cells cur E (0, 0))) (hs : v.cells.size = e.size)
    (h1 : ∀ u ∈ v.cells.toList, u.oneCell' = true) (hfit : off + e.size ≤ cur.size) :
    (storeVar t ⟨b, off, none⟩ v).run P w = .ok () (w.setRow b (cur.toList.take off ++ v.cells.toList ++ cur.toList.drop (off + e.size)).toArray) := by
  have hst := run_storeCells_at P b off E v.cells.toList 0 cur w hb (by simpa [hs] using hfit) h1
  simp only [Nat.add_zero, Array.length_toList, hs] at hst
  simp [storeVar, run_size h, hs, hst]

/-- What comes to stand in a cell: a part, or the row that stands there. -/
def Comes (own : Nat → Own) (F : Nat → Prop) (w : World) (σ : Sto) (old : T) (s : SV) (y : T) (u : Value) : Prop :=
  Part own F w σ s y u ∨ (y = old ∧ rootId s = none ∧ ((∃ k e q p off E sz ts, s = .ref k e (q :: p) off ts.length ∧ y = .nst E sz ts) ∨ ∃ k e q p kk es, s = .mp k e (q :: p) ∧ y = .nmp kk es))

theorem cellsT_out (r : Rel own F w σ) : ∀ {xs : List T} {ss : List SV} {us : List Value} {K : List T → Prop}, us.length = ss.length → (∀ (i : Nat) (x : SV) (v : Value), ss[i]? = some x → us[i]? = some v → VS own F w x v) → cellsT σ xs ss K →
    ∃ ys, K ys ∧ ys.length = ss.length ∧ ss.length ≤ xs.length ∧ ∀ (i : Nat) (old : T) (s : SV) (y : T) (u : Value), xs[i]? = some old → ss[i]? = some s → ys[i]? = some y → us[i]? = some u → Comes own F w σ old s y u
  | xs, [], us, K, hl, hv, h => ⟨[], by unfold cellsT at h; exact h, rfl, by simp, by simp⟩
  | [], s :: ss, us, K, hl, hv, h => by unfold cellsT at h; exact h.elim
  | x :: xs, s :: ss, [], K, hl, hv, h => by simp at hl
  | x :: xs, s :: ss, u :: us, K, hl, hv, h => by
    have go : ∀ {y : T}, (cellsT σ xs ss fun ys => K (y :: ys)) → Comes own F w σ x s y u → ∃ ys, K ys ∧ ys.length = (s :: ss).length ∧ (s :: ss).length ≤ (x :: xs).length ∧ ∀ (i : Nat) (old : T) (s' : SV) (y : T) (u' : Value), (x :: xs)[i]? = some old → (s :: ss)[i]? = some s' → ys[i]? = some y → (u :: us)[i]? = some u' → Comes own F w σ old s' y u' := by
      intro y h1 h2
      obtain ⟨ys, h3, h4, h5, h6⟩ := cellsT_out r (us := us) (by simpa using hl) (fun i x v hx hv' => hv (i + 1) x v (by simpa using hx) (by simpa using hv')) h1
      refine ⟨y :: ys, h3, by simp [h4], by simpa using h5, fun i old s' y' u' ho hs hy hu => ?_⟩
      cases i with
      | zero => simp at ho hs hy hu; subst ho hs hy hu; exact h2
      | succ i => exact h6 i old s' y' u' (by simpa using ho) (by simpa using hs) (by simpa using hy) (by simpa using hu)
    unfold cellsT at h
    split at h
    · rename_i k e q p off len
      split at h
      · rename_i E sz ts
        obtain ⟨h1, h2⟩ := h
        have h1 := h1.out
        subst h1
        exact go h2 (.inr ⟨rfl, rfl, .inl ⟨_, _, _, _, _, _, _, _, rfl, rfl⟩⟩)
      · exact h.elim
    · rename_i k e q p
      split at h
      · exact go h (.inr ⟨rfl, rfl, .inr ⟨_, _, _, _, _, _, rfl, rfl⟩⟩)
      · exact h.elim
    · obtain ⟨y, h1, h2⟩ := partK_out r (hv 0 s u rfl rfl) h
      exact go h1 (.inl h2)

theorem setT_setT {sz j : Nat} {x a b : T} (hx : x.cells.length = sz) (hj : j < sz) (ha : a.cells = [a]) : setT sz (setT sz x j [a]) j [b] = setT sz x j [b] := by
  unfold setT
  cases hs : Nat.beq sz 1 with
  | true => rfl
  | false =>
    simp only [cond_false]
    have hag : ∀ l : List T, (T.agg l).cells = l := fun _ => rfl
    rw [hag]
    congr 1
    apply List.ext_getElem?
    intro n
    have g1 := splice_get x.cells [a] j n (by simp; omega)
    have g2 := splice_get (x.cells.take j ++ [a] ++ x.cells.drop (j + [a].length)) [b] j n (by simp; omega)
    have g3 := splice_get x.cells [b] j n (by simp; omega)
    rw [g2, g3, g1]
    split
    · rfl
    · rename_i hc; exact if_neg hc
theorem setAt_setAt : ∀ (p : Path) {nd n0 m m' : Nd}, nodeAt nd p = some n0 → WF nd → setAt (setAt nd p m) p m' = setAt nd p m'
  | [], nd, n0, m, m', hp, hw => by cases nd <;> rfl
  | (i, j) :: p, .map .., n0, m, m', hp, hw => by rw [nodeAt_map] at hp; exact nomatch hp
  | (i, j) :: p, .row E s ts, n0, m, m', hp, hw => by
    obtain ⟨x, c, m0, h1, h2, h3, h4⟩ := nodeAt_cons.1 hp
    have hi := (List.getElem?_eq_some_iff.1 h1).1
    have hcx := hw [] E s ts nodeAt_nil x (List.mem_of_getElem? h1)
    have hj : j < s := by rw [← hcx]; exact (List.getElem?_eq_some_iff.1 h2).1
    have hset : ∀ m, setAt (.row E s ts) ((i, j) :: p) m = .row E s (ts.set i (setT s x j [(setAt m0 p m).toT])) := fun m => by simp only [setAt, nth_eq, h1, h2, h3]
    rw [hset, hset]
    have g1 : (ts.set i (setT s x j [(setAt m0 p m).toT]))[i]? = some (setT s x j [(setAt m0 p m).toT]) := by rw [List.getElem?_set, if_pos rfl, if_pos hi]
    have g2 : (setT s x j [(setAt m0 p m).toT]).cells[j]? = some (setAt m0 p m).toT := by rw [setT_get1 hcx hj (toT_cells _), if_pos rfl]
    simp only [setAt, nth_eq, g1, g2, nd_toT, List.set_set]
    rw [setAt_setAt p h4 (hw.sub (p := [(i, j)]) (nodeAt_cons.2 ⟨x, c, m0, h1, h2, h3, nodeAt_nil⟩)), setT_setT hcx hj (toT_cells _)]
theorem kills_set : ∀ {L : List Nat} {σ : Sto} {k : Nat} {o : SObj}, k ∉ L → kills L (σ.set k o) = (kills L σ).set k o
  | [], σ, k, o, _ => rfl
  | j :: L, σ, k, o, h => by
    simp only [List.mem_cons, not_or] at h
    simp only [kills]
    rw [List.set_comm _ _ (show k ≠ j from h.1)]
    exact kills_set h.2

/-- What is written first: rows that are put in are put in behind it. -/
def plainOf (s : SV) (y : T) : T := match rootId s with | some _ => .any | none => y

theorem store_nd (r : Rel own F w σ) {k : Nat} {ep : Nat → Nat} {nd : Nd} (hk : nth σ k = some (.nd ep nd)) {p : Path} {E : TypeId} {sz : Nat} {xs : List T} (hp : nodeAt nd p = some (.row E sz xs)) {i off : Nat} (hi : i < xs.length) {ss : List SV} {ys : List T} {us : List Value}
    (hl : us.length = ss.length) (hly : ys.length = ss.length) (hn : 0 < ss.length) (ho : off + ss.length ≤ sz) (hu1 : ∀ u ∈ us, u.oneCell' = true) (hv : ∀ (t : Nat) (x : SV) (v : Value), ss[t]? = some x → us[t]? = some v → VS own F w x v)
    (hc : ∀ (t : Nat) (old : T) (s : SV) (y : T) (u : Value), xs[i].cells[off + t]? = some old → ss[t]? = some s → ys[t]? = some y → us[t]? = some u → Comes own F w σ old s y u)
    (c1 : ∀ (t : Nat) (k2 e2 : Nat) (q : Nat × Nat) (p2 : Path) (off2 len2 : Nat), ss[t]? = some (.ref k2 e2 (q :: p2) off2 len2) → k2 = k ∧ q :: p2 = p ++ [(i, off + t)] ∧ off2 = 0 ∧ e2 = ep (p.length + 1))
    (c2 : ∀ (t : Nat) (k2 e2 : Nat) (q : Nat × Nat) (p2 : Path), ss[t]? = some (.mp k2 e2 (q :: p2)) → k2 = k ∧ q :: p2 = p ++ [(i, off + t)] ∧ e2 = ep (p.length + 1))
    (hun : unlikeIds (putIds ss) = true) (hkn : (putIds ss).contains k = false) {mv : Value} (hmv : VS own F w (.pl k (ep p.length) p i off) mv) :
    ∃ (b a : Nat) (cur : Array Value), mv = .pointer (some ⟨b, a, none⟩) ∧ w.heap[b]? = some (.cells cur E (0, 0)) ∧ a + us.length ≤ cur.size ∧
      ∃ own', Rel own' F (w.setRow b (cur.toList.take a ++ us ++ cur.toList.drop (a + us.length)).toArray) ((kills (putIds ss) σ).set k (.nd (bif (putIds ss).isEmpty then ep else bumpE (p.length + 1) ep) (setAt nd p (.row E sz (xs.set i (setT sz xs[i] off ys)))))) ∧
        Ext σ.length own F w own' F (w.setRow b (cur.toList.take a ++ us ++ cur.toList.drop (a + us.length)).toArray) := by
  obtain ⟨hT, hB, hep, hfr⟩ := nd_obj r hk
  have hxi := hT.wf p E sz xs hp xs[i] (List.getElem_mem hi)
  have hold : ∀ t, t < ss.length → ∃ old, xs[i].cells[off + t]? = some old := fun t ht => ⟨_, List.getElem?_eq_getElem (by omega)⟩
  have hcells : ∀ (t : Nat) (y : T), ys[t]? = some y → y.cells = [y] := by
    intro t y hy
    have ht : t < ss.length := by rw [← hly]; exact (List.getElem?_eq_some_iff.1 hy).1
    obtain ⟨old, ho'⟩ := hold t ht
    rcases hc t old _ y _ ho' (List.getElem?_eq_getElem ht) hy (List.getElem?_eq_getElem (by omega)) with h | ⟨rfl, _, h⟩
    · exact h.1
    · rcases h with ⟨_, _, _, _, _, _, _, _, _, rfl⟩ | ⟨_, _, _, _, _, _, _, rfl⟩ <;> rfl
  let ysP := List.zipWith plainOf ss ys
  have hlP : ysP.length = ss.length := by simp [ysP, hly]
  have hgetP : ∀ (t : Nat) (y : T), ysP[t]? = some y → ∃ s y0, ss[t]? = some s ∧ ys[t]? = some y0 ∧ y = plainOf s y0 := by
    intro t y hy
    simp only [ysP, List.getElem?_zipWith] at hy
    cases h1 : ss[t]? with
    | none => simp [h1] at hy
    | some s =>
      cases h2 : ys[t]? with
      | none => simp [h1, h2] at hy
      | some y0 => simp [h1, h2] at hy; exact ⟨s, y0, rfl, rfl, hy.symm⟩
  have hcP : ∀ y ∈ ysP, y.cells = [y] := by
    intro y hy
    obtain ⟨t, ht⟩ := List.getElem?_of_mem hy
    obtain ⟨s, y0, _, h2, rfl⟩ := hgetP t y ht
    unfold plainOf
    split
    · rfl
    · exact hcells t y0 h2
  have hcY : ∀ y ∈ ys, y.cells = [y] := fun y hy => by
    obtain ⟨t, ht⟩ := List.getElem?_of_mem hy
    exact hcells t y ht
  rw [nth_eq] at hk
  obtain ⟨b, a, cur, g1, g2, g3, r2, e2, o', cap, m, g4, g5⟩ := r.storeRow hk hp hi (off := off) (ys := ysP) (us := us) (by omega) (by intro h; rw [h] at hlP; simp at hlP; omega) (by omega) hcP hu1 (fun t y u hy hu => by
    obtain ⟨s, y0, h1, h2, rfl⟩ := hgetP t y hy
    have ht : t < ss.length := (List.getElem?_eq_some_iff.1 h1).1
    obtain ⟨old, h3⟩ := hold t ht
    have hcm := hc t old s y0 u h3 h1 h2 hu
    unfold plainOf
    cases hr : rootId s with
    | some k2 => exact ⟨VT.any _, fun h => absurd rfl h⟩
    | none =>
      rcases hcm with ⟨_, ⟨h4, h5, _⟩ | ⟨k2, _, _, _, h4, _⟩⟩ | ⟨rfl, _, h4⟩
      · refine ⟨?_, fun h => absurd h4 h⟩
        simp only
        cases y0 <;> first | exact h5 | exact nomatch h4
      · rw [hr] at h4; exact nomatch h4
      · refine ⟨?_, fun _ => h3⟩
        have hlen : (p ++ [(i, off + t)]).length = p.length + 1 := by simp
        have hvt := hv t s u h1 hu
        rcases h4 with ⟨k2, ee, q, p2, off2, E2, s2, ts, rfl, rfl⟩ | ⟨k2, ee, q, p2, kk, es, rfl, rfl⟩
        · obtain ⟨rfl, h6, rfl, rfl⟩ := c1 t k2 ee q p2 off2 _ h1
          have hnd : nodeAt nd (p ++ [(i, off + t)]) = some (.row E2 s2 ts) := by
            rw [nodeAt_append hp]
            exact nodeAt_cons.2 ⟨xs[i], _, _, List.getElem?_eq_getElem hi, h3, rfl, nodeAt_nil⟩
          obtain ⟨L, q1, q2⟩ := (hT.1 _ _ hnd).loc
          refine ⟨L, q1, ?_⟩
          have q1' : (own k2).am (ep (p.length + 1)) (q :: p2) = some L := by rw [h6, ← hlen]; exact q1
          generalize hq : ts.length = l at hvt q2
          cases hvt with
          | refZ _ _ _ _ a ho => exact absurd ho (by omega)
          | refE _ _ _ a h => rw [q1'] at h; injection h with h; subst h; rfl
          | ref _ _ _ _ _ b o sz cap mm h hl hm hn =>
            rw [q1'] at h
            injection h with h
            subst h
            obtain ⟨w1, _, _⟩ := q2
            rw [w1]
            simp [Loc.val]
        · obtain ⟨rfl, h6, rfl⟩ := c2 t k2 ee q p2 h1
          have hnd : nodeAt nd (p ++ [(i, off + t)]) = some (.map kk es) := by
            rw [nodeAt_append hp]
            exact nodeAt_cons.2 ⟨xs[i], _, _, List.getElem?_eq_getElem hi, h3, rfl, nodeAt_nil⟩
          obtain ⟨b2, ents, clock, q1, _⟩ := hT.1 _ _ hnd
          refine ⟨_, q1, ?_⟩
          have q1' : (own k2).am (ep (p.length + 1)) (q :: p2) = some (.at b2 0 0 1 1) := by rw [h6, ← hlen]; exact q1
          cases hvt with
          | mp _ _ _ b o sz cap mm h =>
            rw [q1'] at h
            injection h with h
            injection h with w1
            subst w1
            rfl) hmv
  rw [hlP, ← hl] at g3
  rw [hlP, ← hl] at r2 e2
  refine ⟨b, a, cur, g1, g2, g3, ?_⟩
  have hkL : k ∉ putIds ss := by simpa using hkn
  cases hem : (putIds ss).isEmpty with
  | true =>
    have hnil : putIds ss = [] := by simpa using hem
    have hPP : ysP = ys := by
      apply List.ext_getElem?
      intro t
      cases h2 : ys[t]? with
      | none =>
        have := List.getElem?_eq_none_iff.1 h2
        exact List.getElem?_eq_none (by omega)
      | some y0 =>
        have ht : t < ss.length := by rw [← hly]; exact (List.getElem?_eq_some_iff.1 h2).1
        simp only [ysP, List.getElem?_zipWith, List.getElem?_eq_getElem ht, h2, plainOf]
        cases hr : rootId ss[t] with
        | none => rfl
        | some k2 =>
          have := putIds_mem (List.getElem?_eq_getElem ht) hr
          rw [hnil] at this
          simp at this
    rw [hPP] at r2
    rw [hnil]
    exact ⟨own, r2, e2⟩
  | false =>
    simp only [cond_false]
    have hk2 : (σ.set k (.nd ep (setAt nd p (.row E sz (xs.set i (setT sz xs[i] off ysP))))))[k]? = some (.nd ep (setAt nd p (.row E sz (xs.set i (setT sz xs[i] off ysP))))) := by
      rw [List.getElem?_set, if_pos rfl, if_pos (Rel.lt_obj hk)]
    have hp2 := nodeAt_setAt_at p (m := .row E sz (xs.set i (setT sz xs[i] off ysP))) hp hT.wf
    have hx2 : (xs.set i (setT sz xs[i] off ysP))[i]? = some (setT sz xs[i] off ysP) := by rw [List.getElem?_set, if_pos rfl, if_pos hi]
    have nP : ysP ≠ [] := by intro h; rw [h] at hlP; simp at hlP; omega
    have nY : ys ≠ [] := by intro h; rw [h] at hly; simp at hly; omega
    have getY := setT_get (off := off) (ys := ys) hxi (by omega) nY hcY
    have getP := setT_get (off := off) (ys := ysP) hxi (by omega) nP hcP
    have hvals : ∀ t, t < us.length → (cur.toList.take a ++ us ++ cur.toList.drop (a + us.length)).toArray[a + t]? = us[t]? := by
      intro t ht
      rw [List.getElem?_toArray, splice_get _ _ _ _ (by simp; omega), if_pos ⟨by omega, by omega⟩]
      congr 1; omega
    obtain ⟨own', r3, e3⟩ := r2.grafts (k := k) hk2 hp2 hx2 (x' := setT sz xs[i] off ys) (setT_len hxi (by omega) nY hcY) (putIds ss) hkL
      (fun j => if off ≤ j then (match ss[j - off]? with | some s => rootId s | none => none) else none) (b := b) (o := o') (cap := cap) (m := m) g4 (setRow_heap w b cur _ E (0, 0) g2)
      (fun j k2 hj => by
        split at hj
        · rename_i hoj
          split at hj
          · rename_i s hs
            have ht : j - off < ss.length := (List.getElem?_eq_some_iff.1 hs).1
            obtain ⟨old, ho'⟩ := hold (j - off) ht
            rw [show off + (j - off) = j by omega] at ho'
            have hy : ys[j - off]? = some ys[j - off] := List.getElem?_eq_getElem (by omega)
            have hu : us[j - off]? = some us[j - off] := List.getElem?_eq_getElem (by omega)
            have hcm := hc (j - off) old s _ _ (by rw [show off + (j - off) = j by omega]; exact ho') hs hy hu
            refine ⟨putIds_mem hs hj, ?_⟩
            rcases hcm with ⟨_, ⟨_, _, h4⟩ | ⟨k3, ep3, n3, L, h4, h5, h6, h7, h8⟩⟩ | ⟨_, h4, _⟩
            · rw [hj] at h4; exact nomatch h4
            · rw [hj] at h4
              injection h4 with h4
              subst h4
              have hne : k ≠ k2 := fun e => hkL (e ▸ putIds_mem hs hj)
              refine ⟨ep3, n3, .any, us[j - off], L, ?_, ?_, rfl, ?_, ?_, h7, h8⟩
              · rw [List.getElem?_set, if_neg hne]; exact h5
              · rw [getP, if_pos ⟨hoj, by omega⟩]
                simp only [ysP, List.getElem?_zipWith, hs, hy, plainOf, hj]
              · rw [getY, if_pos ⟨hoj, by omega⟩, hy, h6]
              · rw [show o' + i * sz + j = a + (j - off) by omega, hvals _ (by omega)]
                exact hu
            · rw [hj] at h4; exact nomatch h4
          · exact nomatch hj
        · exact nomatch hj)
      (fun j j' k2 h1 h2 => by
        split at h1
        · split at h2
          · split at h1
            · rename_i s1 hs1
              split at h2
              · rename_i s2 hs2
                have := putIds_one (unlikeIds_nodup hun) hs1 h1 hs2 h2
                omega
              · exact nomatch h2
            · exact nomatch h1
          · exact nomatch h2
        · exact nomatch h1)
      (fun j hj => by
        rw [getY, getP, hly, hlP]
        by_cases hr : off ≤ j ∧ j < off + ss.length
        · rw [if_pos hr, if_pos hr]
          have hs : ss[j - off]? = some ss[j - off] := List.getElem?_eq_getElem (by omega)
          have hy : ys[j - off]? = some ys[j - off] := List.getElem?_eq_getElem (by omega)
          rw [if_pos hr.1, hs] at hj
          simp only at hj
          simp only [ysP, List.getElem?_zipWith, hs, hy, plainOf, hj]
        · rw [if_neg hr, if_neg hr])
    rw [setAt_setAt p hp hT.wf, List.set_set, kills_set hkL, List.set_set] at r3
    simp only [List.length_set] at e3
    exact ⟨own', r3, e2.trans e3⟩

theorem op_store (ht : TabOk P tt) (hn : Next P o a own F w σ K next) (r : Rel own F w σ) {t : TypeId} {x y : Operand} (ho : o.op = .store t x y) {sx sy : SV} (hx : VS own F w sx (a.eval x)) (hy : VS own F w sy (a.eval y))
    (hs : storeOp tt t sx sy σ fun σ' => K .any σ') : o.wp P a w next Q := by
  unfold storeOp at hs
  simp only at hs
  cases hg : (tt.at t).ti.good with
  | false => rw [hg] at hs; exact hs.elim
  | true =>
    cases hl : sy.cells.all SV.leaf with
    | false => rw [hg, hl] at hs; exact hs.elim
    | true =>
      have hT := ht.at t hg
      rw [hg, hl, Bool.true_and, cond_true] at hs
      obtain ⟨hc1, hc2, hc3⟩ := hy.cells hl
      have run : ∀ (b off : Nat) (cur : Array Value) (E : TypeId), a.eval x = .pointer (some ⟨b, off, none⟩) → w.heap[b]? = some (.cells cur E (0, 0)) → (a.eval y).cells.size = (tt.at t).size → off + (tt.at t).size ≤ cur.size →
          (execOp a.eval o).run P w = .ok .skip (w.setRow b (cur.toList.take off ++ (a.eval y).cells.toList ++ cur.toList.drop (off + (tt.at t).size)).toArray) := by
        intro b off cur E hx hb hsz hfit
        unfold execOp
        simp only [ho, hx, Instr.storeAt, Instr.sureAddr, Sem.run_bind, Sem.run_pure, Result.andThen_ok, run_storeVar_at hT w b off _ cur E hb hsz hc2 hfit]
      split at hs
      · rename_i k ee p i off
        split at hs
        · rename_i E cs hk
          split at hs
          · obtain ⟨h1, h2, h3, h4⟩ := hs
            have h1 := h1.out
            have h2 := h2.out
            have h3 := h3.out
            subst h1
            rw [forceSto_iff] at h4
            have he := pl_e0 r hk hx
            subst he
            obtain ⟨b, vals, ho1, ho2, hb, hsz, hcs, hone, hno⟩ := var_obj r hk
            have hm := pl_out ho1 hx
            simp only [Nat.zero_mul, Nat.add_zero, Nat.zero_add] at hm
            have hrun := run b off vals E hm hb (by omega) (by omega)
            have hlen : (a.eval y).cells.toList.length = (tt.at t).size := by simp; omega
            have hsl : (setCells cs off sy.cells).length = cs.length := by unfold setCells; simp; omega
            rw [nth_eq] at hk
            have hwr := r.turn (k := k) (own k) (fun _ h => h) (fun _ _ _ h => h) (Rel.lt_obj hk) (w' := w.setRow b (vals.toList.take off ++ (a.eval y).cells.toList ++ vals.toList.drop (off + (tt.at t).size)).toArray) rfl rfl rfl (by simp)
              (fun i hi => heap_setRow_other w b _ i fun e => hi (e ▸ ho2)) (.var E (setCells cs off sy.cells)) (fun _ hvs => by
                refine ⟨b, _, by rw [hsl]; exact ho1, ho2, setRow_heap w b vals _ E (0, 0) hb, by rw [hsl]; simp; omega, ?_, ?_, hno⟩
                · intro j z v hz hv
                  unfold setCells at hz
                  rw [splice_get _ _ _ _ (by omega)] at hz
                  rw [List.getElem?_toArray] at hv
                  have hsp := splice_get vals.toList (a.eval y).cells.toList off j (by simp; omega)
                  rw [hlen] at hsp
                  rw [hsp] at hv
                  split at hz
                  · rename_i hc
                    rw [if_pos (by omega)] at hv
                    exact hvs _ _ (hc3 (j - off) z v hz (by simpa using hv))
                  · rename_i hc
                    rw [if_neg (by omega)] at hv
                    exact hvs _ _ (hcs j z v hz (by simpa using hv))
                · intro v hv
                  simp only [List.mem_append] at hv
                  rcases hv with (hv | hv) | hv
                  · exact hone v (List.take_subset _ _ hv)
                  · exact hc2 v hv
                  · exact hone v (List.drop_subset _ _ hv))
            rw [upd1_id] at hwr
            exact wp_skip' hrun (hn _ _ _ _ _ _ h4 hwr.2 hwr.1 (by simp) (.t _ _ (.any _)))
          · exact hs.elim
        · rename_i ep0 nd0 hk0
          obtain ⟨ss, σ1, own1, h1, r1, e1, l1, hls, hvs, c1, c2⟩ := keepK_sound (vs := (a.eval y).cells.toList) r (by simpa using hc1) (fun t x v hx hv => hc3 t x v hx (by simpa using hv)) hs
          split at h1
          · rename_i ep nd hk
            cases hu : unlikeIds (putIds ss) && !(putIds ss).contains k && !ss.isEmpty with
            | false => rw [hu] at h1; exact h1.elim
            | true =>
              rw [hu] at h1
              simp only [Bool.and_eq_true, Bool.not_eq_true'] at hu
              obtain ⟨g1, g2, g3, g4⟩ := h1
              have g1 := g1.out
              have g2 := g2.out
              have g3 := g3.out
              obtain ⟨n, hp, g5⟩ := updK_out g4
              cases n with
              | map => exact g5.elim
              | row E sz xs =>
                obtain ⟨g6, g7, g8⟩ := g5
                have g6 := g6.out
                have g7 := g7.out
                have g8 := g8.out (x := xs[i]) (by rw [nth_eq]; exact List.getElem?_eq_getElem g6)
                obtain ⟨ys, h2, h3, h4, h5⟩ := cellsT_out r1 (us := (a.eval y).cells.toList) (by simp; omega) (fun t x v hx hv => hvs t x v hx hv) g8
                rw [forceSto_iff] at h2
                subst g2
                rw [← g3] at c1 c2
                have hz : 0 < ss.length := by
                  cases ss with
                  | nil => simp at hu
                  | cons => simp
                obtain ⟨b, ad, cur, k1, k2, k3, own', r', e'⟩ := store_nd r1 hk hp g6 (off := off) (ss := ss) (ys := ys) (us := (a.eval y).cells.toList) (by simp; omega) h3 (by omega) (by omega) hc2 hvs
                  (fun t old s y u q1 q2 q3 q4 => h5 t old s y u (by rw [List.getElem?_drop]; exact q1) q2 q3 q4) c1 c2 hu.1.1 hu.1.2 (hx.ext r e1)
                have hsz : (a.eval y).cells.toList.length = (tt.at t).size := by simp; omega
                have hb0 : w.heap[b]? = some (.cells cur E (0, 0)) := k2
                have hrun := run b ad cur E k1 hb0 (by simpa using hsz) (by omega)
                rw [← hsz] at hrun
                exact wp_skip' hrun (hn _ _ _ _ _ _ h2 (e1.trans (e'.mono l1)) r' (by simp [kills_len]; exact l1) (.t _ _ (.any _)))
          · exact h1.elim
        · exact hs.elim
      · exact hs.elim
end
end Go.Proofs.Ytihebfhhnoneiaa.Am
