/- Code does what the abstract machine says. -/
import Derived.Test.YtihebfhhnoneiaaAmDraw2
namespace Go.Proofs.Ytihebfhhnoneiaa.Am
open Go.RowKit
set_option linter.unusedVariables false
set_option linter.unusedSimpArgs false

section
variable {P : Program} {tt : Tab} {I : FuncId → Bool} {own : Nat → Own} {F : Nat → Prop} {w : World} {σ : Sto} {env : Env} {a : Act} {N : Nat} {o : Oper}
variable {K : SV → Sto → Prop} {next : Act → World → Prop} {Q : Exit → Act → World → Prop}

/-! ### code -/
def AX.out : AX → Exit
  | .normal => .normal
  | .exit id => .exit id
  | .goto l => .goto l
  | .ret => .ret

/-- What goes on behind code, whichever way it is left. -/
def GoesX (N : Nat) (M : List Nat) (a : Act) (own : Nat → Own) (F : Nat → Prop) (w : World) (σ : Sto) (K : AX → Env → Sto → Prop) (Q : Exit → Act → World → Prop) : Prop :=
  ∀ x, Goes N M a own F w σ (K x) (Q x.out)

theorem GoesX.mono {M M' : List Nat} {K : AX → Env → Sto → Prop} (h : GoesX N M a own F w σ K Q) (hm : ∀ j, j ∈ M' → j ∈ M) : GoesX N M' a own F w σ K Q :=
  fun x env' σ' own' F' w' a' hk e r l he hd hs => h x env' σ' own' F' w' a' hk e r l he hd (hs.mono hm)

theorem cwp_sound (ht : TabOk P tt) : ∀ (c : Code), (∀ d ∈ mods c, d < N) → ∀ {Ka : AX → Env → Sto → Prop} {Q : Exit → Act → World → Prop} {own : Nat → Own} {F : Nat → Prop} {w : World} {σ : Sto} {env : Env} {a : Act},
    cwp (ctr P I) tt N c Ka env σ → Rel own F w σ → ER N own F w env a → GoesX N (mods c) a own F w σ Ka Q → c.wp P Q a w := by
  intro c
  induction c with
  | skip =>
    intro hm Ka Q own F w σ env a hs r he hk
    exact wp_skip (hk .normal _ _ _ _ _ _ hs (Ext.refl _ _ _ _) r (Nat.le_refl _) he rfl (Same.refl _ _))
  | region id ops draw =>
    intro hm Ka Q own F w σ env a hs r he hk
    have hd : ∀ o ∈ ops.toList, ∀ d, o.dst = some d → d < N := fun o ho d hd => hm d (List.mem_filterMap.2 ⟨o, ho, hd⟩)
    have hM : ∀ o ∈ ops.toList, ∀ d, o.dst = some d → d ∈ mods (.region id ops draw) := fun o ho d hd => List.mem_filterMap.2 ⟨o, ho, hd⟩
    unfold cwp at hs
    cases draw with
    | true => exact drawVC_sound ht hd hs r he (hk .normal)
    | false =>
      refine wp_region ?_
      have := rops_sound ht hM hd ops.toList 0 rfl hs r he (hk .normal)
      rwa [Array.length_toList, ← List.range_eq_range'] at this
  | seq x y ihx ihy =>
    intro hm Ka Q own F w σ env a hs r he hk
    refine wp_seq (ihx (fun d hd => hm d (List.mem_append.2 (.inl hd))) hs r he ?_)
    intro ax env' σ' own' F' w' a' hka e r' l he' hdf hsm
    have hsm' : Same (mods (.seq x y)) a a' := hsm.mono fun j hj => List.mem_append.2 (.inl hj)
    cases ax with
    | normal =>
      refine ihy (fun d hd => hm d (List.mem_append.2 (.inr hd))) hka r' he' ?_
      intro ax2
      have := (hk ax2).later e l hdf hsm'
      intro env2 σ2 own2 F2 w2 a2 k2 e2 r2 l2 he2 hd2 hs2
      exact this env2 σ2 own2 F2 w2 a2 k2 e2 r2 l2 he2 hd2 (hs2.mono fun j hj => List.mem_append.2 (.inr hj))
    | exit id => exact hk (.exit id) _ _ _ _ _ _ hka e r' l he' hdf hsm'
    | goto l' => exact hk (.goto l') _ _ _ _ _ _ hka e r' l he' hdf hsm'
    | ret => exact hk .ret _ _ _ _ _ _ hka e r' l he' hdf hsm'
  | cond c x y ihx ihy =>
    intro hm Ka Q own F w σ env a hs r he hk
    cases c with
    | tmp t =>
      unfold cwp at hs
      have hv := he.2 t
      split at hs
      · rename_i cb hc
        rw [hc] at hv
        have hb := boolV hv
        cases cb with
        | true =>
          refine wp_cond_true (by exact hb) (ihx (fun d hd => hm d (List.mem_append.2 (.inl hd))) hs r (he.refine (hb ▸ .t _ _ (.bool _))) (hk.mono fun j hj => List.mem_append.2 (.inl hj)))
        | false =>
          refine wp_cond_false (by exact hb) (ihy (fun d hd => hm d (List.mem_append.2 (.inr hd))) hs r (he.refine (hb ▸ .t _ _ (.bool _))) (hk.mono fun j hj => List.mem_append.2 (.inr hj)))
      · exact hs.elim
    | _ => exact (by unfold cwp at hs; exact hs.elim)
  | block id c ih =>
    intro hm Ka Q own F w σ env a hs r he hk
    refine wp_block (ih hm hs r he ?_)
    intro ax env' σ' own' F' w' a' hka e r' l he' hdf hsm
    cases ax with
    | normal => exact hk .normal _ _ _ _ _ _ hka e r' l he' hdf hsm
    | exit i =>
      have hka : (bif Nat.beq i id then Ka .normal env' σ' else Ka (.exit i) env' σ') := hka
      simp only [AX.out, Exit.inBlock]
      cases hb : Nat.beq i id with
      | true =>
        rw [hb, cond_true] at hka
        rw [if_pos (Nat.eq_of_beq_eq_true hb)]
        exact hk .normal _ _ _ _ _ _ hka e r' l he' hdf hsm
      | false =>
        rw [hb, cond_false] at hka
        rw [if_neg (fun e => by rw [e] at hb; simp at hb)]
        exact hk (.exit i) _ _ _ _ _ _ hka e r' l he' hdf hsm
    | goto l' => exact hk (.goto l') _ _ _ _ _ _ hka e r' l he' hdf hsm
    | ret => exact hk .ret _ _ _ _ _ _ hka e r' l he' hdf hsm
  | loop c ih =>
    intro hm Ka Q own F w σ env a hs r he hk
    unfold cwp at hs
    obtain ⟨tl, hs, htl⟩ := mkTab_out hs
    rw [modsK_iff, List.append_nil] at hs
    obtain ⟨tl2, hs, htl2⟩ := tabNot_out hs
    have he2 : ∀ j, tabEnv tl2 j = .any ∨ (tabEnv tl2 j = env j ∧ j ∉ mods c) := by
      intro j
      rcases tabEnv_out (j := j) tl2 with h | ⟨p, h1, rfl, h3⟩
      · exact .inl h
      · exact .inr ⟨by rw [h3, htl p (htl2 p h1).1], by simpa using (htl2 p h1).2⟩
    have heO := he
    have he : ER N own F w (tabEnv tl) a := ⟨heO.1, fun j => by
      rcases tabEnv_out (j := j) tl with h | ⟨p, h1, rfl, h3⟩
      · rw [h]; exact .t _ _ (.any _)
      · rw [h3, htl p h1]; exact heO.2 p.1⟩
    obtain ⟨env', henv'⟩ : ∃ e, e = tabEnv tl := ⟨_, rfl⟩
    rw [← henv'] at hs he
    obtain ⟨env2, henv2⟩ : ∃ e, e = tabEnv tl2 := ⟨_, rfl⟩
    rw [← henv2] at hs he2
    unfold LoopVC at hs
    obtain ⟨S, N0, V, A, R, h0, h1⟩ := hs
    have hmc : mods (.loop c) = mods c := rfl
    obtain ⟨σ00, own00, h0, r00, e00, l00⟩ := thawV_sound V r h0
    obtain ⟨σ0, own0, h0, r0, e01, l01⟩ := adoptL_sound A r00 h0
    have e0 : Ext σ.length own F w own0 F w := e00.trans (e01.mono l00)
    have l0 : σ.length ≤ σ0.length := Nat.le_trans l00 l01
    obtain ⟨vals1, σ1, own1, h2, r1, e1', l1', len1, v1'⟩ := thaw_sound ht S (S.map env') r0 h0
    have e1 : Ext σ.length own F w own1 F w := e0.trans (e1'.mono l0)
    have l1 : σ.length ≤ σ1.length := Nat.le_trans l0 l1'
    have v1 : ∀ (i : Nat) (x y : SV) (v : Value), (S.map env')[i]? = some x → vals1[i]? = some y → VS own F w x v → VS own1 F w y v := fun i x y v hx hy hv => v1' i x y v hx hy (hv.ext r e0)
    obtain ⟨vals2, σ2, own2, ⟨m0, hR0⟩, r2, l2, len2, v2, ok2, lv2⟩ := headSt_sound r1 l1 h2
    refine wp_loop_ghost (fun m a' w' => ∃ (vals : List SV) (σh : Sto) (ownh : Nat → Own) (Fh : Nat → Prop), R m vals σh ∧ Rel ownh Fh w' σh ∧ Ext σ.length own F w ownh Fh w' ∧ σ.length ≤ σh.length ∧
      ER N ownh Fh w' (setL S vals (env2)) a' ∧ a'.defers = a.defers ∧ Same (mods c) a a') m0 ⟨vals2, σ2, own2, F, hR0, r2, e1.less ok2 lv2, l2, ?_, rfl, Same.refl _ _⟩ ?_
    · refine ER.head r heO (e1.less ok2 lv2) (Same.refl _ _) he.1 he2 ?_
      intro i s v hi hv
      have hlt1 : i < vals1.length := by rw [len1]; simp; exact (List.getElem?_eq_some_iff.1 hi).1
      refine v2 i vals1[i] v _ (List.getElem?_eq_getElem hlt1) hv ?_
      exact v1 i (env' s) vals1[i] _ (by rw [List.getElem?_map, hi]; rfl) (List.getElem?_eq_getElem hlt1) (he.2 s)
    · rintro m a1 w1 ⟨vals, σh, ownh, Fh, hR, rh, eh, lh, heh, hdh, hsh⟩
      refine ih hm (h1 m vals σh hR) rh heh ?_
      intro ax env3 σ3 own3 F3 w3 a3 hka e3 r3 l3 he3 hd3 hs3
      cases ax with
      | normal =>
        have hka : headSt σ.length (S.map env3) σ3 fun vals σ2 => ∃ m', m' < m ∧ R m' vals σ2 := hka
        obtain ⟨vals4, σ4, own4, ⟨m', hm', hR4⟩, r4, l4, len4, v4, ok4, lv4⟩ := headSt_sound r3 (Nat.le_trans lh l3) hka
        refine ⟨m', hm', vals4, σ4, own4, F3, hR4, r4, (eh.trans (e3.mono lh)).less ok4 lv4, l4, ?_, hd3.trans hdh, hsh.trans hs3⟩
        refine ER.head r heO ((eh.trans (e3.mono lh)).less ok4 lv4) (hsh.trans hs3) he3.1 he2 ?_
        intro i s v hi hv
        exact v4 i (env3 s) v _ (by rw [List.getElem?_map, hi]; rfl) hv (he3.2 s)
      | exit id => exact hk (.exit id) _ _ _ _ _ _ hka (eh.trans (e3.mono lh)) r3 (Nat.le_trans lh l3) he3 (hd3.trans hdh) (hsh.trans hs3)
      | goto l' => exact hk (.goto l') _ _ _ _ _ _ hka (eh.trans (e3.mono lh)) r3 (Nat.le_trans lh l3) he3 (hd3.trans hdh) (hsh.trans hs3)
      | ret => exact hk .ret _ _ _ _ _ _ hka (eh.trans (e3.mono lh)) r3 (Nat.le_trans lh l3) he3 (hd3.trans hdh) (hsh.trans hs3)
  | exit id =>
    intro hm Ka Q own F w σ env a hs r he hk
    exact wp_exit (hk (.exit id) _ _ _ _ _ _ hs (Ext.refl _ _ _ _) r (Nat.le_refl _) he rfl (Same.refl _ _))
  | label l =>
    intro hm Ka Q own F w σ env a hs r he hk
    exact wp_label (hk .normal _ _ _ _ _ _ hs (Ext.refl _ _ _ _) r (Nat.le_refl _) he rfl (Same.refl _ _))
  | goto l =>
    intro hm Ka Q own F w σ env a hs r he hk
    exact wp_goto (hk (.goto l) _ _ _ _ _ _ hs (Ext.refl _ _ _ _) r (Nat.le_refl _) he rfl (Same.refl _ _))
  | ret =>
    intro hm Ka Q own F w σ env a hs r he hk
    exact wp_ret (hk .ret _ _ _ _ _ _ hs (Ext.refl _ _ _ _) r (Nat.le_refl _) he rfl (Same.refl _ _))
  | rangeFunc => intro hm Ka Q own F w σ env a hs; unfold cwp at hs; exact hs.elim
  | scope => intro hm Ka Q own F w σ env a hs; unfold cwp at hs; exact hs.elim
  | refuse => intro hm Ka Q own F w σ env a hs; unfold cwp at hs; exact hs.elim

end
end Go.Proofs.Ytihebfhhnoneiaa.Am
