/- What is frozen; rows taken out of trees, and put into them; stores. -/
import Derived.Test.YtihebfhhnoneiaaAmOps
namespace Go.Proofs.Ytihebfhhnoneiaa.Am
open Go.RowKit
set_option linter.unusedVariables false
set_option linter.unusedSimpArgs false

section
variable {P : Program} {tt : Tab} {own : Nat → Own} {F : Nat → Prop} {w : World} {σ : Sto} {env : Env} {a : Act} {N : Nat} {o : Oper}
variable {K : SV → Sto → Prop} {next : Act → World → Prop} {Q : Exit → Act → World → Prop}

/-! ### freezing -/
theorem Fk.mono {L L' : List Nat} {b : Nat} (h : Fk own F L b) (hL : ∀ k, k ∈ L → k ∈ L') : Fk own F L' b := by
  rcases h with h | ⟨k, h1, h2⟩
  · exact .inl h
  · exact .inr ⟨k, hL k h1, h2⟩

theorem VT.part {sz : Nat} {xs : List T} {b o c m off len : Nat} (h : VT F w (.sl sz xs) (.slice (some ⟨b, o, none⟩) m c)) (hm : m = xs.length) (hl : off + len ≤ xs.length) (hc : xs.length ≤ c) : VT F w (.sl sz ((xs.drop off).take len)) (.slice (some ⟨b, o + off * sz, none⟩) len (c - off)) := by
  subst hm
  have hlen : ((xs.drop off).take len).length = len := by simp; omega
  by_cases h0 : len = 0
  · subst h0; simp; exact .sl0 _ _ _
  · generalize hv : Value.slice (some ⟨b, o, none⟩) xs.length c = v at h
    cases h with
    | sl0 => simp at hl; omega
    | sl _ _ b' o' c' vals hp hcc hn hF hz hcell h1 hh =>
      injection hv with e1 e2 e3
      injection e1 with e1
      injection e1 with e1 e4
      subst e1 e4 e3
      have := VT.sl (F := F) (w := w) sz ((xs.drop off).take len) b (o + off * sz) (c - off) (fun j => vals (off * sz + j)) (by intro h; rw [h] at hlen; simp at hlen; omega) (by omega) (by omega) hF
        (fun x hx => hz x (List.drop_subset _ _ (List.take_subset _ _ hx)))
        (fun j hj => by
          rw [hlen] at hj
          have hle : (off + len) * sz ≤ xs.length * sz := Nat.mul_le_mul_right _ (by omega)
          rw [Nat.add_mul] at hle
          rw [Nat.add_assoc]
          exact hcell _ (by omega))
        (fun j hj => by
          rw [hlen] at hj
          have hle : (off + len) * sz ≤ xs.length * sz := Nat.mul_le_mul_right _ (by omega)
          rw [Nat.add_mul] at hle
          exact h1 _ (by omega))
        (fun i x j y hx hy => by
          have hi : i < len := by
            have := (List.getElem?_eq_some_iff.1 hx).1
            rw [hlen] at this; exact this
          simp [hi] at hx
          have := hh (off + i) x j y hx hy
          rwa [Nat.add_mul, Nat.add_assoc] at this)
      rw [hlen] at this
      exact this

/-- A reference to a part of a row, as a slice that nobody writes. -/
theorem ref_VT (r : Rel own F w σ) {k e : Nat} {p : Path} {off len : Nat} {v : Value} (hv : VS own F w (.ref k e p off len) v) {ep : Nat → Nat} {nd : Nd} (hk : nth σ k = some (.nd ep nd)) (he : e = ep p.length) {E : TypeId} {sz : Nat} {xs : List T} (hp : nodeAt nd p = some (.row E sz xs)) {G : Nat → Prop} (hF : ∀ b, F b → G b) (hG : ∀ b, (own k).bl b → G b) :
    VT G w (.sl sz ((xs.drop off).take len)) v := by
  obtain ⟨hT, hB, hep, hfr⟩ := nd_obj r hk
  subst he
  obtain ⟨L, h1, h2⟩ := (hT.1 p _ hp).loc
  have hw : VT G w (.sl sz xs) L.val := by
    have := tree_VT (G := G) hF hT.1 (fun b hb => hG b (hB b hb)) _ p (.row E sz xs) L (Nat.le_refl _) hp h1
    cases this with
    | nst _ _ _ _ h => exact h
  have h1' : (own k).am (ep p.length) p = some L := h1
  cases hv with
  | refZ => simp; exact .sl0 _ _ _
  | refE _ _ _ a h =>
    rw [h1'] at h
    injection h with h
    subst h
    have h2 : xs.length = 0 := h2
    have : xs = [] := List.eq_nil_of_length_eq_zero h2
    subst this
    simp
    exact .sl0 _ _ _
  | ref _ _ _ _ _ b o' sz' cap m h hl hm hn =>
    rw [h1'] at h
    injection h with h
    subst h
    obtain ⟨q1, q2, q3⟩ := h2
    have hsz : sz' = sz := by
      rcases hT.1 p _ hp with ⟨_, a, ha⟩ | ⟨b2, o2, cap2, vals2, ha, _⟩
      · rw [h1] at ha; exact nomatch ha
      · rw [h1] at ha; injection ha with ha; injection ha
    subst hsz
    exact hw.part q1 (by omega) (by omega)

theorem frzKs_out {n : Nat} (ih : ∀ {x : SV} {v : Value} {K : T → Prop}, VS own F w x v → frzK n σ x K → ∃ t, K t ∧ VT (Fk own F (ids n σ x)) w t v) :
    ∀ {xs : List SV} {vs : List Value} {K : List T → Prop}, vs.length = xs.length → (∀ (i : Nat) (x : SV) (v : Value), xs[i]? = some x → vs[i]? = some v → VS own F w x v) → frzKs (frzK n σ) xs K →
      ∃ ts, K ts ∧ ts.length = xs.length ∧ ∀ (i : Nat) (x : T) (v : Value), ts[i]? = some x → vs[i]? = some v → VT (Fk own F (xs.flatMap (ids n σ))) w x v
  | [], vs, K, hl, h, hs => ⟨[], hs, rfl, by simp⟩
  | x :: xs, [], K, hl, h, hs => by simp at hl
  | x :: xs, v :: vs, K, hl, h, hs => by
    obtain ⟨t, h1, h2⟩ := ih (h 0 x v rfl rfl) hs
    obtain ⟨ts, h3, h4, h5⟩ := frzKs_out ih (vs := vs) (by simpa using hl) (fun i x v hx hv => h (i + 1) x v (by simpa using hx) (by simpa using hv)) h1
    refine ⟨t :: ts, h3, by simp [h4], fun i y u hy hu => ?_⟩
    cases i with
    | zero =>
      simp at hy hu
      subst hy hu
      exact h2.sub fun b hb => hb.mono fun k hk => by simp [hk]
    | succ i =>
      refine (h5 i y u (by simpa using hy) (by simpa using hu)).sub fun b hb => hb.mono fun k hk => ?_
      rw [List.flatMap_cons]; exact List.mem_append.2 (.inr hk)

theorem frzK_VT (r : Rel own F w σ) : ∀ (n : Nat) {x : SV} {v : Value} {K : T → Prop}, VS own F w x v → frzK n σ x K → ∃ t, K t ∧ VT (Fk own F (ids n σ x)) w t v := by
  intro n
  induction n with
  | zero =>
    intro x v K hv hs
    cases x with
    | t x =>
      cases hv with
      | t _ _ h => exact ⟨x, hs, h.sub fun b hb => .inl hb⟩
    | _ => exact hs.elim
  | succ n ih =>
    intro x v K hv hs
    cases x with
    | t x =>
      cases hv with
      | t _ _ h => exact ⟨x, hs, h.sub fun b hb => .inl hb⟩
    | agg xs =>
      cases hv with
      | agg _ vs hsz h =>
        obtain ⟨ts, h1, h2, h3⟩ := frzKs_out ih (vs := vs.toList) (by simpa using hsz) (fun i x v hx hv => h i x v hx (by simpa using hv)) hs
        exact ⟨_, h1, .agg _ _ (by rw [hsz, h2]) fun i x v hx hv => h3 i x v hx (by simpa using hv)⟩
    | tup xs =>
      cases hv with
      | tup _ vs hsz h =>
        obtain ⟨ts, h1, h2, h3⟩ := frzKs_out ih (vs := vs.toList) (by simpa using hsz) (fun i x v hx hv => h i x v hx (by simpa using hv)) hs
        exact ⟨_, h1, .tup _ _ (by rw [hsz, h2]) fun i x v hx hv => h3 i x v hx (by simpa using hv)⟩
    | fn f xs =>
      cases hv with
      | fn _ _ vs hsz h =>
        obtain ⟨ts, h1, h2, h3⟩ := frzKs_out ih (vs := vs.toList) (by simpa using hsz) (fun i x v hx hv => h i x v hx (by simpa using hv)) hs
        exact ⟨_, h1, .fn _ _ _ (by rw [hsz, h2]) fun i x v hx hv => h3 i x v hx (by simpa using hv)⟩
    | g c x => exact hs.elim
    | mp k e p =>
      unfold frzK at hs
      split at hs
      · rename_i ep nd hk
        obtain ⟨h1, h2⟩ := hs
        have h1 := h1.out
        obtain ⟨m, hp, h3⟩ := nodeK_out h2
        obtain ⟨hT, hB, hep, hfr⟩ := nd_obj r hk
        cases m with
        | row => exact h3.elim
        | map kk es =>
          obtain ⟨b, ents, clock, g1, g2, g3, g4, g5, g6⟩ := hT.1 p _ hp
          have g1' : (own k).am e p = some (.at b 0 0 1 1) := by rw [h1]; exact g1
          cases hv with
          | mp _ _ _ b' o' sz' cap' m' h =>
            rw [g1'] at h
            injection h with h
            injection h with e1
            subst e1
            exact ⟨_, h3, .map kk es b ents clock (.inr ⟨k, by simp [ids], hB b ⟨p, _, _, _, _, _, hp, g1⟩⟩) g2 g3 g4 (fun i kv e hx he => (g5 i kv e hx he).sub fun b hb => .inl hb) g6⟩
      · exact hs.elim
    | ref k e p off len =>
      unfold frzK at hs
      split at hs
      · rename_i ep nd hk
        obtain ⟨h1, h2⟩ := hs
        obtain ⟨m, hp, h3⟩ := nodeK_out h2
        cases m with
        | map => exact h3.elim
        | row E sz xs => exact ⟨_, h3.out, ref_VT r hv hk h1.out hp (fun b hb => .inl hb) fun b hb => .inr ⟨k, by simp [ids], hb⟩⟩
      · exact hs.elim
    | pl k e p i off =>
      unfold frzK at hs
      split at hs
      · rename_i E cs hk
        split at hs
        · have he := pl_e0 r hk hv
          subst he
          obtain ⟨b, vals, ho1, ho2, hb, hsz, hcs, _⟩ := var_obj r hk
          have hm := pl_out ho1 hv
          simp only [Nat.zero_mul, Nat.add_zero, Nat.zero_add] at hm
          subst hm
          obtain ⟨ts, h1, h2, h3⟩ := frzKs_out ih (vs := vals.toList) (by simpa using hsz) (fun i x v hx hv => hcs i x v hx (by simpa using hv)) hs
          refine ⟨_, h1, .ptr _ b off (fun j => vals.getD (off + j) undef) (.inr ⟨k, by simp [ids], ho2⟩) (fun j hj => cell_of hb (by simp at hj; omega)) ?_⟩
          intro j y hy
          simp only [List.getElem?_drop] at hy
          have hlt : off + j < vals.size := by
            have := (List.getElem?_eq_some_iff.1 hy).1
            omega
          have e : vals.getD (off + j) undef = vals[off + j] := by simp [Array.getD_eq_getD_getElem?, Array.getElem?_eq_getElem hlt]
          rw [e]
          exact (h3 (off + j) y _ hy (by simp [Array.getElem?_eq_getElem hlt])).sub fun b hb => hb.mono fun k' hk' => by
            simp only [ids, hk, List.mem_cons]; exact .inr hk'
        · exact hs.elim
      · rename_i ep nd hk
        obtain ⟨h1, h2⟩ := hs
        have h1 := h1.out
        subst h1
        obtain ⟨m, hp, h3⟩ := nodeK_out h2
        obtain ⟨hT, hB, hep, hfr⟩ := nd_obj r hk
        cases m with
        | map => exact h3.elim
        | row E sz xs =>
          obtain ⟨h4, h5⟩ := h3
          have h4 := h4.out
          have h5 := h5.out (x := xs[i]) (by rw [nth_eq]; exact List.getElem?_eq_getElem h4)
          rcases hT.1 p _ hp with ⟨rfl, _⟩ | ⟨b, o, cap, vals, g1, g3, g4, g5, g6, g7, g8, g9, g10, g11⟩
          · simp at h4
          have hm := pl_out g1 hv
          subst hm
          have hxi := g9 xs[i] (List.getElem_mem h4)
          have hle : (i + 1) * sz ≤ cap * sz := Nat.mul_le_mul_right _ (by omega)
          rw [Nat.add_mul, Nat.one_mul] at hle
          have hbl : Fk own F (ids (n + 1) σ (.pl k (ep p.length) p i off)) b := .inr ⟨k, by simp [ids], hB b ⟨p, _, _, _, _, _, hp, g1⟩⟩
          refine ⟨_, h5, .ptr _ b _ (fun j => vals.getD (o + i * sz + off + j) undef) hbl (fun j hj => cell_of g5 (by simp at hj; omega)) ?_⟩
          intro j y hy
          simp only [List.getElem?_drop] at hy
          have hj : off + j < sz := by rw [← hxi]; exact (List.getElem?_eq_some_iff.1 hy).1
          have hlt : o + i * sz + (off + j) < vals.size := by omega
          have e : vals.getD (o + i * sz + off + j) undef = vals[o + i * sz + (off + j)] := by
            rw [show o + i * sz + off + j = o + i * sz + (off + j) by omega]
            simp [Array.getD_eq_getD_getElem?, Array.getElem?_eq_getElem hlt]
          rw [e]
          have hc := g10 i xs[i] (off + j) y _ (List.getElem?_eq_getElem h4) hy (Array.getElem?_eq_getElem hlt)
          have hG : ∀ b, (own k).bl b → Fk own F (ids (n + 1) σ (.pl k (ep p.length) p i off)) b := fun b hb => .inr ⟨k, by simp [ids], hb⟩
          cases hyn : y.nd? with
          | none => cases y <;> first | exact VT.sub hc fun b hb => .inl hb | exact nomatch hyn
          | some m =>
            have e := nd_of hyn
            subst e
            have hnd : nodeAt nd (p ++ [(i, off + j)]) = some m := by
              rw [nodeAt_append hp]
              exact nodeAt_cons.2 ⟨xs[i], _, m, List.getElem?_eq_getElem h4, hy, nd_toT m, nodeAt_nil⟩
            cases m with
            | row E2 s2 x2 =>
              obtain ⟨L, q1, q2⟩ := hc
              rw [q2]
              exact tree_VT (fun b hb => .inl hb) hT.1 (fun b hb => hG b (hB b hb)) _ _ (.row E2 s2 x2) L (Nat.le_refl _) hnd q1
            | map k2 e2 =>
              obtain ⟨L, q1, q2⟩ := hc
              rw [q2]
              exact tree_VT (fun b hb => .inl hb) hT.1 (fun b hb => hG b (hB b hb)) _ _ (.map k2 e2) L (Nat.le_refl _) hnd q1
      · exact hs.elim

/-! ### taking out -/
theorem lastP_eq : ∀ (q : Nat × Nat) (p : Path), (lastP q p).1 ++ [(lastP q p).2] = q :: p
  | q, [] => rfl
  | q, q' :: p => by simp [lastP, lastP_eq q' p]

theorem detK_sound (r : Rel own F w σ) {k e : Nat} {q : Nat × Nat} {p : Path} {K : Nd → Sto → Prop} (h : detK k e q p σ K) :
    ∃ own' σ' m, K m σ' ∧ Rel own' F w σ' ∧ Ext σ.length own F w own' F w ∧ σ'.length = σ.length + 1 ∧ (∀ L, (own k).am e (q :: p) = some L → (own' σ.length).am 0 [] = some L) ∧ nth σ' σ.length = some (.nd e0 m) := by
  unfold detK at h
  split at h
  · rename_i ep nd hk
    obtain ⟨h1, h2⟩ := h
    have h1 := h1.out
    subst h1
    have hl := lastP_eq q p
    generalize hlp : lastP q p = lp at h2 hl
    obtain ⟨p0, i, j⟩ := lp
    simp only at h2 hl
    obtain ⟨n, hp, h3⟩ := updK_out h2
    cases n with
    | map => exact h3.elim
    | row E sz xs =>
      obtain ⟨h4, h5⟩ := h3
      have h4 := h4.out
      have h5 := h5.out (x := xs[i]) (by rw [nth_eq]; exact List.getElem?_eq_getElem h4)
      split at h5
      · rename_i c hc
        rw [nth_eq] at hc
        split at h5
        · rename_i m hm
          obtain ⟨n2, hp2, h6⟩ := nodeK_out h5
          have hp3 : nodeAt nd (p0 ++ [(i, j)]) = some m := by
            rw [nodeAt_append hp]
            exact nodeAt_cons.2 ⟨xs[i], c, m, List.getElem?_eq_getElem h4, hc, hm, nodeAt_nil⟩
          rw [hl, hp2] at hp3
          injection hp3 with hp3
          subst hp3
          rw [nth_eq] at hk
          obtain ⟨own', r', e', g1, g2⟩ := r.detach hk hp (List.getElem?_eq_getElem h4) hc hm
          refine ⟨own', _, n2, h6, r', e', by simp, fun L hL => g1 L ?_, ?_⟩
          · rw [hl]; exact hL
          · rw [nth_eq, List.getElem?_append_right (by simp)]; simp
        · exact h5.elim
      · exact h5.elim
  · exact h.elim

theorem tak1_sound (r : Rel own F w σ) {s : SV} {v : Value} (hv : VS own F w s v) {K : SV → Sto → Prop} (h : tak1 s σ K) :
    ∃ s' σ' own', K s' σ' ∧ Rel own' F w σ' ∧ Ext σ.length own F w own' F w ∧ σ.length ≤ σ'.length ∧ VS own' F w s' v := by
  unfold tak1 at h
  split at h
  · rename_i k e q p off len
    obtain ⟨own', σ', m, h1, r', e', hl, ha, _⟩ := detK_sound r h
    obtain ⟨h2, h3⟩ := h1
    have h2 := h2.out
    subst h2
    refine ⟨_, σ', own', h3, r', e', by omega, ?_⟩
    cases hv with
    | refZ _ _ _ _ a ho => exact absurd ho (by omega)
    | refE _ _ _ a hh => exact .refE _ _ _ a (ha _ hh)
    | ref _ _ _ _ _ b o sz cap mm hh hl1 hm hn => exact .ref _ _ _ _ _ b o sz cap mm (ha _ hh) hl1 hm hn
  · rename_i k e q p
    obtain ⟨own', σ', m, h1, r', e', hl, ha, _⟩ := detK_sound r h
    refine ⟨_, σ', own', h1, r', e', by omega, ?_⟩
    cases hv with
    | mp _ _ _ b o sz cap mm h => exact .mp _ _ _ b o sz cap mm (ha _ h)
  · exact ⟨s, σ, own, h, r, Ext.refl _ _ _ _, Nat.le_refl _, hv⟩

theorem takL_sound : ∀ {ss : List SV} {vs : List Value} {own : Nat → Own} {σ : Sto} {K : List SV → Sto → Prop}, Rel own F w σ → vs.length = ss.length → (∀ (i : Nat) (x : SV) (v : Value), ss[i]? = some x → vs[i]? = some v → VS own F w x v) → takL ss σ K →
    ∃ ss' σ' own', K ss' σ' ∧ Rel own' F w σ' ∧ Ext σ.length own F w own' F w ∧ σ.length ≤ σ'.length ∧ ss'.length = ss.length ∧ ∀ (i : Nat) (x : SV) (v : Value), ss'[i]? = some x → vs[i]? = some v → VS own' F w x v
  | [], vs, own, σ, K, r, hl, hv, h => ⟨[], σ, own, h, r, Ext.refl _ _ _ _, Nat.le_refl _, rfl, by simp⟩
  | s :: ss, [], own, σ, K, r, hl, hv, h => by simp at hl
  | s :: ss, v :: vs, own, σ, K, r, hl, hv, h => by
    obtain ⟨s', σ1, own1, h1, r1, e1, l1, v1⟩ := tak1_sound r (hv 0 s v rfl rfl) h
    obtain ⟨ss', σ2, own2, h2, r2, e2, l2, hl2, v2⟩ := takL_sound (vs := vs) r1 (by simpa using hl) (fun i x v hx hv' => (hv (i + 1) x v (by simpa using hx) (by simpa using hv')).ext r e1) h1
    refine ⟨s' :: ss', σ2, own2, h2, r2, e1.trans (e2.mono l1), by omega, by simp [hl2], fun i x u hx hu => ?_⟩
    cases i with
    | zero => simp at hx hu; subst hx hu; exact v1.ext r1 e2
    | succ i => exact v2 i x u (by simpa using hx) (by simpa using hu)

theorem keepK_sound {k ep1 : Nat} {p : Path} {i : Nat} : ∀ {ss : List SV} {j : Nat} {vs : List Value} {own : Nat → Own} {σ : Sto} {K : List SV → Sto → Prop}, Rel own F w σ → vs.length = ss.length → (∀ (t : Nat) (x : SV) (v : Value), ss[t]? = some x → vs[t]? = some v → VS own F w x v) → keepK k ep1 p i j ss σ K →
    ∃ ss' σ' own', K ss' σ' ∧ Rel own' F w σ' ∧ Ext σ.length own F w own' F w ∧ σ.length ≤ σ'.length ∧ ss'.length = ss.length ∧ (∀ (t : Nat) (x : SV) (v : Value), ss'[t]? = some x → vs[t]? = some v → VS own' F w x v) ∧
      (∀ (t : Nat) (k2 e2 : Nat) (q : Nat × Nat) (p2 : Path) (off2 len2 : Nat), ss'[t]? = some (.ref k2 e2 (q :: p2) off2 len2) → k2 = k ∧ q :: p2 = p ++ [(i, j + t)] ∧ off2 = 0 ∧ e2 = ep1) ∧
      (∀ (t : Nat) (k2 e2 : Nat) (q : Nat × Nat) (p2 : Path), ss'[t]? = some (.mp k2 e2 (q :: p2)) → k2 = k ∧ q :: p2 = p ++ [(i, j + t)] ∧ e2 = ep1)
  | [], j, vs, own, σ, K, r, hl, hv, h => ⟨[], σ, own, h, r, Ext.refl _ _ _ _, Nat.le_refl _, rfl, by simp, by simp, by simp⟩
  | s :: ss, j, [], own, σ, K, r, hl, hv, h => by simp at hl
  | s :: ss, j, v :: vs, own, σ, K, r, hl, hv, h => by
    have taken : (tak1 s σ fun s' σ' => keepK k ep1 p i (j + 1) ss σ' fun ss' σ'' => K (s' :: ss') σ'') → ((∀ k2 e2 q p2 off2 len2, s ≠ .ref k2 e2 (q :: p2) off2 len2) ∧ (∀ k2 e2 q p2, s ≠ .mp k2 e2 (q :: p2))) ∨ True →
        ∃ ss' σ' own', K ss' σ' ∧ Rel own' F w σ' ∧ Ext σ.length own F w own' F w ∧ σ.length ≤ σ'.length ∧ ss'.length = (s :: ss).length ∧ (∀ (t : Nat) (x : SV) (u : Value), ss'[t]? = some x → (v :: vs)[t]? = some u → VS own' F w x u) ∧
      (∀ (t : Nat) (k2 e2 : Nat) (q : Nat × Nat) (p2 : Path) (off2 len2 : Nat), ss'[t]? = some (.ref k2 e2 (q :: p2) off2 len2) → k2 = k ∧ q :: p2 = p ++ [(i, j + t)] ∧ off2 = 0 ∧ e2 = ep1) ∧
      (∀ (t : Nat) (k2 e2 : Nat) (q : Nat × Nat) (p2 : Path), ss'[t]? = some (.mp k2 e2 (q :: p2)) → k2 = k ∧ q :: p2 = p ++ [(i, j + t)] ∧ e2 = ep1) := by
      intro h _
      have key : ∃ s' σ' own', (keepK k ep1 p i (j + 1) ss σ' fun ss' σ'' => K (s' :: ss') σ'') ∧ Rel own' F w σ' ∧ Ext σ.length own F w own' F w ∧ σ.length ≤ σ'.length ∧ VS own' F w s' v ∧
          (∀ k2 e2 q p2 off2 len2, s' ≠ .ref k2 e2 (q :: p2) off2 len2) ∧ (∀ k2 e2 q p2, s' ≠ .mp k2 e2 (q :: p2)) := by
        have h0 := hv 0 s v rfl rfl
        unfold tak1 at h
        split at h
        · rename_i k e q p off len
          obtain ⟨own', σ', m, h1, r', e', hl, ha, _⟩ := detK_sound r h
          obtain ⟨h2, h3⟩ := h1
          have h2 := h2.out
          subst h2
          refine ⟨_, σ', own', h3, r', e', by omega, ?_, by simp, by simp⟩
          cases h0 with
          | refZ _ _ _ _ a ho => exact absurd ho (by omega)
          | refE _ _ _ a hh => exact .refE _ _ _ a (ha _ hh)
          | ref _ _ _ _ _ b o sz cap mm hh hl1 hm hn => exact .ref _ _ _ _ _ b o sz cap mm (ha _ hh) hl1 hm hn
        · rename_i k e q p
          obtain ⟨own', σ', m, h1, r', e', hl, ha, _⟩ := detK_sound r h
          refine ⟨_, σ', own', h1, r', e', by omega, ?_, by simp, by simp⟩
          cases h0 with
          | mp _ _ _ b o sz cap mm h => exact .mp _ _ _ b o sz cap mm (ha _ h)
        · rename_i n1 n2
          exact ⟨s, σ, own, h, r, Ext.refl _ _ _ _, Nat.le_refl _, h0, fun k2 e2 q p2 off2 len2 e => n1 k2 e2 q p2 off2 len2 e, fun k2 e2 q p2 e => n2 k2 e2 q p2 e⟩
      obtain ⟨s', σ1, own1, h1, r1, e1, l1, v1, n1, n2⟩ := key
      obtain ⟨ss', σ2, own2, h2, r2, e2, l2, hl2, v2, c1, c2⟩ := keepK_sound (vs := vs) r1 (by simpa using hl) (fun i x v hx hv' => (hv (i + 1) x v (by simpa using hx) (by simpa using hv')).ext r e1) h1
      refine ⟨s' :: ss', σ2, own2, h2, r2, e1.trans (e2.mono l1), by omega, by simp [hl2], fun i x u hx hu => ?_, fun t k2 e2 q p2 off2 len2 ht => ?_, fun t k2 e2 q p2 ht => ?_⟩
      · cases i with
        | zero => simp at hx hu; subst hx hu; exact v1.ext r1 e2
        | succ i => exact v2 i x u (by simpa using hx) (by simpa using hu)
      · cases t with
        | zero => simp at ht; exact absurd ht (n1 _ _ _ _ _ _)
        | succ t => have := c1 t k2 e2 q p2 off2 len2 (by simpa using ht); rwa [show j + 1 + t = j + (t + 1) by omega] at this
      · cases t with
        | zero => simp at ht; exact absurd ht (n2 _ _ _ _)
        | succ t => have := c2 t k2 e2 q p2 (by simpa using ht); rwa [show j + 1 + t = j + (t + 1) by omega] at this
    unfold keepK at h
    split at h
    · rename_i k2 e2 q p2 off2 len2
      rcases h with ⟨h1, h⟩ | h
      · have h1 := h1.out
        obtain ⟨ss', σ2, own2, h2, r2, e2', l2, hl2, v2, c1, c2⟩ := keepK_sound (vs := vs) r (by simpa using hl) (fun i x v hx hv' => hv (i + 1) x v (by simpa using hx) (by simpa using hv')) h
        refine ⟨_ :: ss', σ2, own2, h2, r2, e2', l2, by simp [hl2], fun i x u hx hu => ?_, fun t k3 e3 q3 p3 off3 len3 ht => ?_, fun t k3 e3 q3 p3 ht => ?_⟩
        · cases i with
          | zero => simp at hx hu; subst hx hu; exact (hv 0 _ v rfl rfl).ext r e2'
          | succ i => exact v2 i x u (by simpa using hx) (by simpa using hu)
        · cases t with
          | zero => simp at ht; obtain ⟨rfl, rfl, ⟨rfl, rfl⟩, rfl, rfl⟩ := ht; exact h1
          | succ t => have := c1 t k3 e3 q3 p3 off3 len3 (by simpa using ht); rwa [show j + 1 + t = j + (t + 1) by omega] at this
        · cases t with
          | zero => simp at ht
          | succ t => have := c2 t k3 e3 q3 p3 (by simpa using ht); rwa [show j + 1 + t = j + (t + 1) by omega] at this
      · exact taken h (.inr trivial)
    · rename_i k2 e2 q p2
      rcases h with ⟨h1, h⟩ | h
      · have h1 := h1.out
        obtain ⟨ss', σ2, own2, h2, r2, e2', l2, hl2, v2, c1, c2⟩ := keepK_sound (vs := vs) r (by simpa using hl) (fun i x v hx hv' => hv (i + 1) x v (by simpa using hx) (by simpa using hv')) h
        refine ⟨_ :: ss', σ2, own2, h2, r2, e2', l2, by simp [hl2], fun i x u hx hu => ?_, fun t k3 e3 q3 p3 off3 len3 ht => ?_, fun t k3 e3 q3 p3 ht => ?_⟩
        · cases i with
          | zero => simp at hx hu; subst hx hu; exact (hv 0 _ v rfl rfl).ext r e2'
          | succ i => exact v2 i x u (by simpa using hx) (by simpa using hu)
        · cases t with
          | zero => simp at ht
          | succ t => have := c1 t k3 e3 q3 p3 off3 len3 (by simpa using ht); rwa [show j + 1 + t = j + (t + 1) by omega] at this
        · cases t with
          | zero => simp at ht; obtain ⟨rfl, rfl, rfl, rfl⟩ := ht; exact h1
          | succ t => have := c2 t k3 e3 q3 p3 (by simpa using ht); rwa [show j + 1 + t = j + (t + 1) by omega] at this
      · exact taken h (.inr trivial)
    · exact taken h (.inr trivial)

/-- What a part stands for. -/
def Part (own : Nat → Own) (F : Nat → Prop) (w : World) (σ : Sto) (s : SV) (y : T) (u : Value) : Prop :=
  y.cells = [y] ∧ ((y.nd? = none ∧ VT F w y u ∧ rootId s = none) ∨ ∃ k ep n L, rootId s = some k ∧ σ[k]? = some (.nd ep n) ∧ y = n.toT ∧ (own k).am 0 [] = some L ∧ u = n.lv L)
theorem leaf1_cells {y : T} (h : leaf1 y = true) : y.cells = [y] ∧ y.nd? = none := by cases y <;> first | exact ⟨rfl, rfl⟩ | simp [leaf1] at h

theorem partK_out (r : Rel own F w σ) {s : SV} {u : Value} (hv : VS own F w s u) {K : T → Prop} (h : partK σ s K) : ∃ y, K y ∧ Part own F w σ s y u := by
  unfold partK at h
  split at h
  · rename_i y
    cases hl : leaf1 y with
    | false => rw [hl] at h; exact h.elim
    | true =>
      rw [hl] at h
      obtain ⟨h1, h2⟩ := leaf1_cells hl
      cases hv with
      | t _ _ hv => exact ⟨y, h, h1, .inl ⟨h2, hv, rfl⟩⟩
  · rename_i k e off len
    split at h
    · rename_i ep E s ts hk
      obtain ⟨h1, h2⟩ := h
      obtain ⟨h11, h12, h13⟩ := h1.out
      subst h11 h12
      obtain ⟨hT, hB, hep, hfr⟩ := nd_obj r hk
      obtain ⟨L, q1, q2⟩ := (hT.1 [] _ nodeAt_nil).loc
      have q1' : (own k).am 0 [] = some L := by rw [← hep]; exact q1
      rw [nth_eq] at hk
      refine ⟨_, h2, rfl, .inr ⟨k, ep, .row E s ts, L, rfl, hk, rfl, q1', ?_⟩⟩
      cases hv with
      | refZ _ _ _ _ a ho => exact absurd ho (by omega)
      | refE _ _ _ a h => rw [q1'] at h; injection h with h; subst h; rfl
      | ref _ _ _ _ _ b o sz cap mm h hl hm hn =>
        rw [q1'] at h
        injection h with h
        subst h
        obtain ⟨g1, _, _⟩ := q2
        rw [g1, ← h13]
        simp [Nd.lv, Loc.val]
    · exact h.elim
  · rename_i k e
    split at h
    · rename_i ep kk es hk
      obtain ⟨h1, h2⟩ := h
      have h1 := h1.out
      subst h1
      obtain ⟨hT, hB, hep, hfr⟩ := nd_obj r hk
      obtain ⟨b, ents, clock, g1, _⟩ := hT.1 [] _ nodeAt_nil
      have g1' : (own k).am 0 [] = some (.at b 0 0 1 1) := by
        have g2 : (own k).am (ep 0) [] = some (.at b 0 0 1 1) := g1
        rw [hep] at g2; exact g2
      rw [nth_eq] at hk
      refine ⟨_, h2, rfl, .inr ⟨k, ep, .map kk es, _, rfl, hk, rfl, g1', ?_⟩⟩
      cases hv with
      | mp _ _ _ b' o sz cap mm h =>
        rw [g1'] at h
        injection h with h
        injection h with e1
        subst e1
        rfl
    · exact h.elim
  · rename_i f xs
    split at h
    · rename_i ts hm
      refine ⟨_, h, rfl, .inl ⟨rfl, ?_, rfl⟩⟩
      cases hv with
      | fn _ _ vs hs hh =>
        refine .fn _ _ _ (by rw [hs, mapO_len hm]) fun i x v hx hv => ?_
        obtain ⟨y, hy, hfy⟩ := mapO_get hm i x hx
        split at hfy
        · simp at hfy
          subst hfy
          have := hh i _ v hy hv
          cases this with
          | t _ _ h => exact h
        · simp at hfy
    · exact h.elim
  · exact h.elim

theorem partL_out (r : Rel own F w σ) : ∀ {ss : List SV} {us : List Value} {K : List T → Prop}, us.length = ss.length → (∀ (i : Nat) (x : SV) (v : Value), ss[i]? = some x → us[i]? = some v → VS own F w x v) → partL σ ss K →
    ∃ ys, K ys ∧ ys.length = ss.length ∧ ∀ (i : Nat) (s : SV) (y : T) (u : Value), ss[i]? = some s → ys[i]? = some y → us[i]? = some u → Part own F w σ s y u
  | [], us, K, hl, hv, h => ⟨[], h, rfl, by simp⟩
  | s :: ss, [], K, hl, hv, h => by simp at hl
  | s :: ss, u :: us, K, hl, hv, h => by
    obtain ⟨y, h1, h2⟩ := partK_out r (hv 0 s u rfl rfl) h
    obtain ⟨ys, h3, h4, h5⟩ := partL_out r (us := us) (by simpa using hl) (fun i x v hx hv' => hv (i + 1) x v (by simpa using hx) (by simpa using hv')) h1
    refine ⟨y :: ys, h3, by simp [h4], fun i s' y' u' hs hy hu => ?_⟩
    cases i with
    | zero => simp at hs hy hu; subst hs hy hu; exact h2
    | succ i => exact h5 i s' y' u' (by simpa using hs) (by simpa using hy) (by simpa using hu)

theorem unlikeIds_nodup : ∀ {L : List Nat}, unlikeIds L = true → L.Nodup
  | [], _ => List.nodup_nil
  | k :: L, h => by
    simp only [unlikeIds, Bool.and_eq_true, Bool.not_eq_true'] at h
    exact List.nodup_cons.2 ⟨by simpa using h.1, unlikeIds_nodup h.2⟩
end
end Go.Proofs.Ytihebfhhnoneiaa.Am
