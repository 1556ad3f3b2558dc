/- Slices built out of their elements, made, cut; strings. -/
import Derived.Test.YtgladinljapmkaaXD
/- Maps, lengths, append. -/
namespace Go.Proofs.Ytgladinljapmkaa.Am
open Go.RowKit
set_option linter.unusedVariables false
set_option linter.unusedSimpArgs false
section
variable {P : Program} {tt : Tab} {own : Nat → Own} {F : Nat → Prop} {w : World} {σ : Sto} {env : Env} {a : Act} {N : Nat} {o : Oper}
variable {K : SV → Sto → Prop} {next : Act → World → Prop} {Q : Exit → Act → World → Prop}
theorem map_node (r : Rel own F w σ) {k e : Nat} {p : Path} {ep : Nat → Nat} {nd : Nd} {kk : MK} {es : List (Int × T)} {mv : Value} (hk : nth σ k = some (.nd ep nd)) (he : e = ep p.length) (hp : nodeAt nd p = some (.map kk es)) (hv : VS own F w (.mp k e p) mv) :
    ∃ (b : Nat) (ents : Array MapEntry) (clock : Nat), mv = .map (some b) ∧ (own k).cur ep p = some (.at b 0 0 1 1) ∧ w.heap[b]? = some (.map ents clock) ∧ ents.size = es.length ∧
      (∀ (i : Nat) (kv : Int × T) (e : MapEntry), es[i]? = some kv → ents[i]? = some e → MKey kk kv.1 e.key) ∧
      (∀ (i : Nat) (kv : Int × T) (e : MapEntry), es[i]? = some kv → ents[i]? = some e → VT F w kv.2 e.val) ∧
      BornOk ents clock := by
  obtain ⟨hT, hB, hep, hfr⟩ := nd_obj r hk
  subst he
  obtain ⟨b, ents, clock, g1, g2, g3, g4, g5, g6⟩ := hT.1 p _ hp
  have g1' : (own k).am (ep p.length) p = some (.at b 0 0 1 1) := g1
  cases hv with
  | mp _ _ _ b' o' sz' cap' m' h =>
    rw [g1'] at h
    injection h with h
    injection h with e1
    subst e1
    exact ⟨b, ents, clock, rfl, g1, g2, g3, g4, g5, g6⟩
theorem Rel.storeMap {w' : World} (r : Rel own F w σ) {k b : Nat} {p : Path} {ep : Nat → Nat} {nd : Nd} {kk : MK} {es es' : List (Int × T)} {ents : Array MapEntry} {clock : Nat} (hk : nth σ k = some (.nd ep nd)) (hp : nodeAt nd p = some (.map kk es)) (hb : (own k).cur ep p = some (.at b 0 0 1 1))
    (os : w'.os = w.os) (tape : w'.tape = w.tape) (output : w'.output = w.output) (sz : w'.heap.size = w.heap.size) (hh : ∀ x, x ≠ b → w'.heap[x]? = w.heap[x]?) (hn : w'.heap[b]? = some (.map ents clock)) (g3 : ents.size = es'.length)
    (g4 : ∀ (i : Nat) (kv : Int × T) (e : MapEntry), es'[i]? = some kv → ents[i]? = some e → MKey kk kv.1 e.key) (g5 : ∀ (i : Nat) (kv : Int × T) (e : MapEntry), es'[i]? = some kv → ents[i]? = some e → VT F w kv.2 e.val)
    (g6 : BornOk ents clock) : Rel own F w' (σ.set k (.nd ep (setAt nd p (.map kk es')))) ∧ Ext σ.length own F w own F w' := by
  obtain ⟨hT, hB, hep, hfr⟩ := nd_obj r hk
  rw [nth_eq] at hk
  have hbk : (own k).bl b := hB b ⟨p, _, _, _, _, _, hp, hb⟩
  have ht := r.turn (k := k) (own k) (fun _ h => h) (fun _ _ _ h => h) (Rel.lt_obj hk) (w' := w') os tape output sz (fun x hx => hh x fun e => hx (e ▸ hbk)) (.nd ep (setAt nd p (.map kk es'))) (fun hvt _ => by
    have hm : TreeOk F w' (fun r => (own k).cur ep (p ++ r)) (.map kk es') := by
      refine ⟨fun q n hq => ?_, fun q q' n n' b o s cp m o' s' cp' m' h1 h2 _ _ => ?_⟩
      · cases q with
        | nil => rw [nodeAt_nil] at hq; injection hq with hq; subst hq; exact ⟨b, ents, clock, by simpa using hb, hn, g3, g4, fun i kv e h1 h2 => hvt _ _ (g5 i kv e h1 h2), g6⟩
        | cons => rw [nodeAt_map] at hq; exact nomatch hq
      · cases q with
        | nil =>
          cases q' with
          | nil => rfl
          | cons => rw [nodeAt_map] at h2; exact nomatch h2
        | cons => rw [nodeAt_map] at h1; exact nomatch h1
    refine ⟨hT.upd hp rfl (c' := (own k).cur ep) (fun _ _ => rfl) rfl hm (fun q n b' o' s' cp' m' h1 h2 h3 => hh b' fun e => ?_) hvt ?_, ?_, hep, hfr⟩
    · subst e
      exact h1 (hT.2 p q _ n b' _ _ _ _ o' s' cp' m' hp h2 hb h3 ▸ List.prefix_refl _)
    · rintro b' ⟨q', n', o', s', cp', m', h1, h2⟩ q n o2 s2 cp2 m2 h3 h4 h5
      cases q' with
      | nil =>
        have := hT.2 p q _ n b' o' s' cp' m' o2 s2 cp2 m2 hp h4 (by simpa using h2) h5
        exact h3 (this ▸ List.prefix_refl _)
      | cons => rw [nodeAt_map] at h1; exact nomatch h1
    · rintro b' ⟨q', n', o', s', cp', m', h1, h2⟩
      rcases nodeAt_setAt p hp hT.wf rfl q' n' h1 with ⟨r', rfl, h3⟩ | ⟨_, n3, h4, _⟩
      · cases r' with
        | nil => exact hB b' ⟨p, _, o', s', cp', m', hp, by simpa using h2⟩
        | cons => rw [nodeAt_map] at h3; exact nomatch h3
      · exact hB b' ⟨_, n3, o', s', cp', m', h4, h2⟩)
  rw [upd1_id] at ht
  exact ht
def posE (n : Int) : List (Int × T) → Nat → Option (Nat × T)
  | [], _ => none
  | (m, v) :: es, i => if m = n then some (i, v) else posE n es (i + 1)
theorem beqBA {s t : ByteArray} : (s == t) = true ↔ s = t := by
  constructor
  · intro h
    have h : (s.data == t.data) = true := h
    cases s; cases t
    simp at h
    rw [h]
  · rintro rfl
    show (s.data == s.data) = true
    simp
theorem sameM_eq {a b : MK} (h : sameM a b = true) : a = b := by
  cases a <;> cases b <;> simp only [sameM, Bool.and_eq_true, Bool.false_eq_true] at h
  · rw [sameK_eq h]
  · rw [sameK_eq h.1, Nat.eq_of_beq_eq_true h.2]
  · rfl
theorem intsK_out {k : IntKind} : ∀ {xs : List T} {C : List Int → Prop}, intsK k xs C → ∃ ns, C ns ∧ xs = ns.map (T.int k)
  | [], C, h => ⟨[], h, rfl⟩
  | x :: xs, C, h => by
    unfold intsK at h
    split at h
    · rename_i j n
      obtain ⟨h1, h2⟩ := bif_elim0 h
      obtain ⟨ns, h3, h4⟩ := intsK_out h2
      exact ⟨n :: ns, h3, by rw [h4, sameK_eq h1]; rfl⟩
    · exact h.elim
theorem keyK_out {kt : TypeId} {x : SV} {v : Value} {C : MK → Int → Prop} (h : keyK tt kt x C) (hx : VS own F w x v) : ∃ mk n, C mk n ∧ mkOf tt kt = some mk ∧ MKey mk n v := by
  unfold keyK at h
  split at h
  · rename_i kk' kk n e
    obtain ⟨h1, h2⟩ := bif_elim0 h
    have := sameK_eq h1
    subst this
    refine ⟨_, _, h2, by unfold mkOf; rw [e], ?_⟩
    exact intV hx
  · rename_i s e
    refine ⟨_, _, h, by unfold mkOf; rw [e], s, rfl, ?_⟩
    cases hx with | t _ _ h => cases h; rfl
  · rename_i m e xs he
    split at h
    · rename_i k hk
      obtain ⟨h1, h2⟩ := h
      obtain ⟨ns, h3, rfl⟩ := intsK_out h2
      refine ⟨_, _, h3, by unfold mkOf; rw [he]; simp only [hk], ns, by simpa using h1.out, rfl, ?_⟩
      cases hx with
      | t _ _ h =>
        cases h with
        | arr _ vs hs hv =>
          congr 1
          apply Array.ext'
          apply List.ext_getElem?
          intro i
          simp only [List.getElem?_map, Array.getElem?_toList] at *
          cases hn : ns[i]? with
          | none =>
            have : ns.length ≤ i := List.getElem?_eq_none_iff.1 hn
            simp at hs ⊢; omega
          | some n =>
            have hi : i < ns.length := (List.getElem?_eq_some_iff.1 hn).1
            have hlt : i < vs.size := by rw [hs, List.length_map]; exact hi
            have := hv i (.int k n) vs[i] (by rw [hn]; rfl) (Array.getElem?_eq_getElem hlt)
            cases hq : vs[i] with
            | _ => rw [hq] at this; cases this
                   try (rw [Array.getElem?_eq_getElem hlt, hq]; rfl)
    · exact h.elim
  · exact h.elim
theorem MKey.find {mk : MK} {n m : Int} {kt : TypeId} {v u : Value} (ht : TabOk P tt) (hm : mkOf tt kt = some mk) (hv : MKey mk n v) (hu : MKey mk m u) :
    ∃ d, P.underlying kt = some d ∧ (Instr.sameNow d v u = some (n == m) ∨ (Instr.sameNow d v u = none ∧ ∀ w : World, (Op.equal kt v u).run P w = .ok (n == m) w)) := by
  unfold mkOf at hm
  split at hm
  · rename_i k e
    injection hm with hm; subst hm
    refine ⟨_, und_int (ht.at kt (by rw [e]; rfl)) e, .inl ?_⟩
    rw [show v = _ from hv, show u = _ from hu]
    simp [Instr.sameNow]
  · rename_i e
    injection hm with hm; subst hm
    obtain ⟨s, rfl, rfl⟩ := hv
    obtain ⟨s', rfl, rfl⟩ := hu
    refine ⟨_, und_str (ht.at kt (by rw [e]; rfl)) e, .inl ?_⟩
    simp only [Instr.sameNow, Option.some.injEq]
    rw [Bool.eq_iff_iff]
    rw [beqBA, beq_iff_eq]
    exact ⟨fun h => by rw [h], codeS_inj⟩
  · rename_i l e he
    split at hm
    · rename_i k hk
      injection hm with hm; subst hm
      obtain ⟨ns, h1, rfl, rfl⟩ := hv
      obtain ⟨ns', h1', rfl, rfl⟩ := hu
      have hu := und_arr (ht.at kt (by rw [he]; rfl)) he
      refine ⟨_, hu, .inr ⟨rfl, fun w => ?_⟩⟩
      have hTe := ht.at e (by rw [hk]; rfl)
      obtain ⟨i, hi1, hi2, _⟩ := hTe.info
      have hsz : (tt.at e).size = 1 := hTe.one (by rw [hk]; rfl)
      have hco : P.cellsOf e = 1 := by
        unfold Program.cellsOf
        rw [hi1]
        simp [hi2, hsz]
      have hvt : ∀ (ns : List Int) (i : Nat) (x : T), (ns.map (T.int k))[i]? = some x → ∃ v, (ns.map (Value.int k)).toArray[i]? = some v ∧ VT (fun _ => True) w x v := by
        intro ns i x hx
        rw [List.getElem?_map] at hx
        cases hn : ns[i]? with
        | none => rw [hn] at hx; simp at hx
        | some n =>
          rw [hn] at hx
          simp at hx
          subst hx
          exact ⟨.int k n, by simp [hn], .int _ _⟩
      have hia : ∀ ns : List Int, IntA k (ns.map (T.int k)) := fun ns x hx => by
        obtain ⟨n, _, rfl⟩ := List.mem_map.1 hx
        exact ⟨n, rfl⟩
      obtain ⟨b, hb1, hb2⟩ := run_eqItems_int (P := P) (F := fun _ => True) (w := w) 9998 (und_int hTe hk) (by rw [run_isAgg hTe, hk]; rfl) (ns.map (Value.int k)).toArray (ns'.map (Value.int k)).toArray (ns.map (T.int k)) (ns'.map (T.int k))
        (hvt ns) (hvt ns') (hia ns) (hia ns') (List.range l) (fun i hi => by have := List.mem_range.1 hi; simp; omega)
      have hb3 : b = true ↔ codeL ns = codeL ns' := by
        rw [hb2]
        constructor
        · intro h
          congr 1
          apply List.ext_getElem?
          intro i
          rcases Nat.lt_or_ge i l with hi | hi
          · have := h i (List.mem_range.2 hi)
            simp only [List.getElem?_map] at this
            cases h3 : ns[i]? <;> cases h4 : ns'[i]? <;> rw [h3, h4] at this <;> simp at this ⊢
            exact this
          · rw [List.getElem?_eq_none (by omega), List.getElem?_eq_none (by omega)]
        · intro h i _
          rw [codeL_inj h]
      have : (codeL ns == codeL ns') = b := by rw [Bool.eq_iff_iff, hb3]; simp
      rw [this]
      show (Op.equalIn 10000 kt _ _).run P w = _
      rw [run_equalIn_array (P := P) w 9999 _ _ hu hi1, hco]; exact hb1
    · exact nomatch hm
  · exact nomatch hm
theorem run_checkInts {k : IntKind} {e : TypeId} (hTe : TOk P e (tt.at e)) (hk : (tt.at e).ti = .int k) (em : Bool) (d : Nat) (cs : Array Value) : ∀ (is : List Nat), (∀ i ∈ is, i < cs.size) →
    (forIn is PUnit.unit fun i (_ : PUnit) => (do Instr.checkKey em (d + 1) e (← part e cs (i * (← sizeOf e))); pure (.yield PUnit.unit) : Sem (ForInStep PUnit))).run P w = .ok PUnit.unit w
  | [], _ => rfl
  | i :: is, h => by
    have hsz : (tt.at e).size = 1 := hTe.one (by rw [hk]; rfl)
    have hi := h i List.mem_cons_self
    have p1 : (part e cs (i * 1)).run P w = .ok cs[i] w := by
      have hag : (isAgg e).run P w = .ok false w := by rw [run_isAgg hTe, hk]; rfl
      simp [part, hag, Array.getElem?_eq_getElem hi]
    have p2 : ∀ v : Value, (Instr.checkKey em (d + 1) e v).run P w = .ok () w := fun v => by
      unfold Instr.checkKey
      simp [run_underlying (und_int hTe hk)]
    rw [List.forIn_cons]
    simp only [Sem.run_bind, run_size hTe w, hsz, p1, p2, Result.andThen_ok, Sem.run_pure]
    exact run_checkInts hTe hk em d cs is fun j hj => h j (List.mem_cons_of_mem _ hj)
theorem MKey.check {mk : MK} {n : Int} {kt : TypeId} {v : Value} (ht : TabOk P tt) (hm : mkOf tt kt = some mk) (hv : MKey mk n v) (em : Bool) : (Instr.checkKey em 10000 kt v).run P w = .ok () w := by
  unfold mkOf at hm
  split at hm
  · rename_i k e
    injection hm with hm; subst hm
    rw [show v = _ from hv]
    unfold Instr.checkKey
    simp [run_underlying (und_int (ht.at kt (by rw [e]; rfl)) e)]
  · rename_i e
    injection hm with hm; subst hm
    obtain ⟨s, rfl, rfl⟩ := hv
    unfold Instr.checkKey
    simp [run_underlying (und_str (ht.at kt (by rw [e]; rfl)) e)]
  · rename_i l e he
    split at hm
    · rename_i k hk
      injection hm with hm; subst hm
      obtain ⟨ns, h1, rfl, rfl⟩ := hv
      have hu := und_arr (ht.at kt (by rw [he]; rfl)) he
      unfold Instr.checkKey
      simp only [Sem.run_bind, run_underlying hu, Result.andThen_ok]
      rw [Std.Legacy.Range.forIn_eq_forIn_range']
      have := run_checkInts (w := w) (ht.at e (by rw [hk]; rfl)) hk em 9998 (ns.map (Value.int k)).toArray (List.range' 0 l) (fun i hi => by simp at hi ⊢; omega)
      simp only [Std.Legacy.Range.size, Nat.sub_zero, Nat.add_one_sub_one, Nat.div_one]
      simp at this ⊢
      rw [this]; rfl
    · exact nomatch hm
  · exact nomatch hm
theorem MKey.stays {mk : MK} {n : Int} {v : Value} (hv : MKey mk n v) : Instr.sameBits 10000 v v = true := by
  cases mk with
  | int k => rw [show v = _ from hv]; simp [Instr.sameBits]
  | str => obtain ⟨s, _, rfl⟩ := hv; simp [Instr.sameBits, beqBA]
  | arr k m =>
    obtain ⟨ns, _, _, rfl⟩ := hv
    unfold Instr.sameBits
    simp only [beq_self_eq_true, Bool.true_and, List.all_eq_true]
    intro p hp
    have : ∀ (l : List Value) (p : Value × Value), p ∈ l.zip l → p.1 ∈ l ∧ p.1 = p.2 := by
      intro l
      induction l with
      | nil => intro p hp; simp at hp
      | cons x l ih =>
        intro p hp
        simp only [List.zip_cons_cons, List.mem_cons] at hp
        rcases hp with rfl | hp
        · exact ⟨by simp, rfl⟩
        · exact ⟨List.mem_cons_of_mem _ (ih p hp).1, (ih p hp).2⟩
    obtain ⟨h1, h2⟩ := this _ p hp
    obtain ⟨n, _, e⟩ := List.mem_map.1 (by simpa using h1)
    rw [← h2, ← e]
    simp [Instr.sameBits]
theorem findAsking_key {mk : MK} {kt : TypeId} {v : Value} {n : Int} (h : ∀ (m : Int) (u : Value), MKey mk m u → (Op.equal kt v u).run P w = .ok (n == m) w) : ∀ (es : List (Int × T)) (ents : List MapEntry) (i : Nat), ents.length = es.length →
    (∀ (j : Nat) (kv : Int × T) (e : MapEntry), es[j]? = some kv → ents[j]? = some e → MKey mk kv.1 e.key) →
    (posE n es i = none ∧ (Instr.findAsking kt v ents i).run P w = .ok none w) ∨
    ∃ (j : Nat) (kv : Int × T) (e : MapEntry), posE n es i = some (i + j, kv.2) ∧ es[j]? = some kv ∧ ents[j]? = some e ∧ kv.1 = n ∧ (Instr.findAsking kt v ents i).run P w = .ok (some (i + j, e.val)) w
  | [], [], i, _, _ => .inl ⟨rfl, rfl⟩
  | [], _ :: _, _, h, _ => by simp at h
  | _ :: _, [], _, h, _ => by simp at h
  | (m, x) :: es, e :: ents, i, hl, hk => by
    have h0 := h m _ (hk 0 (m, x) e rfl rfl)
    by_cases hm : m = n
    · subst hm
      right
      refine ⟨0, (m, x), e, by simp [posE], rfl, rfl, rfl, ?_⟩
      simp [Instr.findAsking, h0]
    · have hne : (n == m) = false := by simp; exact fun e => hm e.symm
      rw [hne] at h0
      rcases findAsking_key h es ents (i + 1) (by simpa using hl) (fun j kv e' hj he => hk (j + 1) kv e' (by simpa using hj) (by simpa using he)) with ⟨h1, h2⟩ | ⟨j, kv, e', h1, h2, h3, h4, h5⟩
      · left
        refine ⟨by simp [posE, hm, h1], ?_⟩
        simp [Instr.findAsking, h0, h2]
      · right
        refine ⟨j + 1, kv, e', by simp [posE, hm, h1]; omega, by simpa using h2, by simpa using h3, h4, ?_⟩
        simp [Instr.findAsking, h0, h5]; omega
theorem findNow_key {mk : MK} {d : TypeDesc} {v : Value} {n : Int} (h : ∀ (m : Int) (u : Value), MKey mk m u → Instr.sameNow d v u = some (n == m)) : ∀ (es : List (Int × T)) (ents : List MapEntry) (i : Nat), ents.length = es.length →
    (∀ (j : Nat) (kv : Int × T) (e : MapEntry), es[j]? = some kv → ents[j]? = some e → MKey mk kv.1 e.key) →
    (posE n es i = none ∧ Instr.findNow d v ents i = some none) ∨
    ∃ (j : Nat) (kv : Int × T) (e : MapEntry), posE n es i = some (i + j, kv.2) ∧ es[j]? = some kv ∧ ents[j]? = some e ∧ kv.1 = n ∧ Instr.findNow d v ents i = some (some (i + j, e.val))
  | [], [], i, _, _ => .inl ⟨rfl, rfl⟩
  | [], _ :: _, _, h, _ => by simp at h
  | _ :: _, [], _, h, _ => by simp at h
  | (m, x) :: es, e :: ents, i, hl, hk => by
    have h0 := h m _ (hk 0 (m, x) e rfl rfl)
    by_cases hm : m = n
    · subst hm
      right
      refine ⟨0, (m, x), e, by simp [posE], rfl, rfl, rfl, ?_⟩
      simp [Instr.findNow, h0]
    · have hne : (n == m) = false := by simp; exact fun e => hm e.symm
      rw [hne] at h0
      rcases findNow_key h es ents (i + 1) (by simpa using hl) (fun j kv e' hj he => hk (j + 1) kv e' (by simpa using hj) (by simpa using he)) with ⟨h1, h2⟩ | ⟨j, kv, e', h1, h2, h3, h4, h5⟩
      · left
        refine ⟨by simp [posE, hm, h1], ?_⟩
        simp [Instr.findNow, h0, h2]
      · right
        refine ⟨j + 1, kv, e', by simp [posE, hm, h1]; omega, by simpa using h2, by simpa using h3, h4, ?_⟩
        simp [Instr.findNow, h0, h5]; omega
theorem findKey_run {mk : MK} {n : Int} {kt : TypeId} {v : Value} (ht : TabOk P tt) (hm : mkOf tt kt = some mk) (hv : MKey mk n v) (es : List (Int × T)) (ents : List MapEntry) (hl : ents.length = es.length)
    (hk : ∀ (j : Nat) (kv : Int × T) (e : MapEntry), es[j]? = some kv → ents[j]? = some e → MKey mk kv.1 e.key) :
    (posE n es 0 = none ∧ (Instr.findKey kt v ents).run P w = .ok none w) ∨
    ∃ (j : Nat) (kv : Int × T) (e : MapEntry), posE n es 0 = some (0 + j, kv.2) ∧ es[j]? = some kv ∧ ents[j]? = some e ∧ kv.1 = n ∧ (Instr.findKey kt v ents).run P w = .ok (some (0 + j, e.val)) w := by
  obtain ⟨d, hd, _⟩ := MKey.find ht hm hv hv
  have run : ∀ r, Instr.findNow d v ents 0 = some r → (Instr.findKey kt v ents).run P w = .ok r w := fun r h => by
    simp [Instr.findKey, run_underlying hd, h]
  by_cases hnow : ∀ (m : Int) (u : Value), MKey mk m u → Instr.sameNow d v u = some (n == m)
  · rcases findNow_key hnow es ents 0 hl hk with ⟨h1, h2⟩ | ⟨j, kv, e, h1, h2, h3, h4, h5⟩
    · exact .inl ⟨h1, run _ h2⟩
    · exact .inr ⟨j, kv, e, h1, h2, h3, h4, run _ h5⟩
  · have hno : ∀ (m : Int) (u : Value), MKey mk m u → Instr.sameNow d v u = none ∧ (Op.equal kt v u).run P w = .ok (n == m) w := by
      intro m u hu
      obtain ⟨d', hd', h⟩ := MKey.find ht hm hv hu
      rw [hd] at hd'
      injection hd' with hd'
      subst hd'
      rcases h with h | h
      · exfalso
        refine hnow fun m' u' hu' => ?_
        obtain ⟨d', hd', h'⟩ := MKey.find ht hm hv hu'
        rw [hd] at hd'
        injection hd' with hd'
        subst hd'
        rcases h' with h' | h'
        · exact h'
        · exfalso
          have h1 := h'.1
          revert h h1
          cases mk with
          | int k => rw [show v = _ from hv, show u = _ from hu, show u' = _ from hu']; cases d <;> simp [Instr.sameNow]
          | str => obtain ⟨_, _, rfl⟩ := hv; obtain ⟨_, _, rfl⟩ := hu; obtain ⟨_, _, rfl⟩ := hu'; cases d <;> simp [Instr.sameNow]
          | arr k m => obtain ⟨_, _, _, rfl⟩ := hv; cases d <;> simp [Instr.sameNow]
      · exact ⟨h.1, h.2 w⟩
    have hru : Instr.findNow d v ents 0 = if ents = [] then some none else none := by
      cases ents with
      | nil => rfl
      | cons e ents =>
        cases es with
        | nil => simp at hl
        | cons kv es =>
          have := (hno _ _ (hk 0 kv e rfl rfl)).1
          simp [Instr.findNow, this]
    rcases findAsking_key (P := P) (w := w) (kt := kt) (fun m u hu => (hno m u hu).2) es ents 0 hl hk with ⟨h1, h2⟩ | ⟨j, kv, e, h1, h2, h3, h4, h5⟩
    · refine .inl ⟨h1, ?_⟩
      by_cases he : ents = []
      · rw [if_pos he] at hru; exact run _ hru
      · rw [if_neg he] at hru
        simp [Instr.findKey, run_underlying hd, hru, h2]
    · refine .inr ⟨j, kv, e, h1, h2, h3, h4, ?_⟩
      rw [if_neg (by rintro rfl; simp at h3)] at hru
      simpa [Instr.findKey, run_underlying hd, hru] using h5
theorem look_pos (n : Int) : ∀ (es : List (Int × T)) (i : Nat), look n es = (posE n es i).map (·.2)
  | [], _ => rfl
  | (m, v) :: es, i => by
    unfold look posE
    split
    · rfl
    · exact look_pos n es (i + 1)
theorem putE_some (n : Int) (v : T) : ∀ (es : List (Int × T)) (i j : Nat) (u : T), posE n es i = some (i + j, u) → putE n v es = es.set j (n, v)
  | [], _, _, _, h => by simp [posE] at h
  | (m, u0) :: es, i, j, u, h => by
    unfold posE at h
    unfold putE
    split at h
    · rename_i hm
      simp at h
      have : j = 0 := by omega
      subst this
      rw [if_pos hm]; rfl
    · rename_i hm
      rw [if_neg hm]
      cases j with
      | zero =>
        exfalso
        have : ∀ (es : List (Int × T)) (i q : Nat) (u : T), posE n es i = some (q, u) → i ≤ q := by
          intro es
          induction es with
          | nil => intro i q u h; simp [posE] at h
          | cons e es ih =>
            intro i q u h
            unfold posE at h
            split at h
            · simp at h; omega
            · have := ih _ _ _ h; omega
        have := this es (i + 1) _ _ h
        omega
      | succ j =>
        rw [putE_some n v es (i + 1) j u (by rw [h]; congr 2; omega)]; rfl
theorem putE_none (n : Int) (v : T) : ∀ (es : List (Int × T)) (i : Nat), posE n es i = none → putE n v es = es ++ [(n, v)]
  | [], _, _ => rfl
  | (m, u0) :: es, i, h => by
    unfold posE at h
    unfold putE
    split at h
    · simp at h
    · rename_i hm
      rw [if_neg hm, putE_none n v es (i + 1) h]; rfl
theorem posE_lt (n : Int) : ∀ (es : List (Int × T)) (i : Nat) {j : Nat} {x : T}, posE n es i = some (j, x) → j < i + es.length
  | [], _, _, _, h => by simp [posE] at h
  | (m, v) :: es, i, j, x, h => by
    unfold posE at h
    split at h
    · simp at h
      simp; omega
    · have := posE_lt n es (i + 1) h
      simp; omega
theorem zero_VT (ht : TabOk P tt) {t : TypeId} (hg : (tt.at t).ti.good = true) : ∃ z, (zeroValue t).run P w = .ok z w ∧ VT F w (mkT (tt.at t).ti.isAgg (tt.at t).size (tt.at t).zero) z := by
  obtain ⟨i, hi, hs, hb, hz0, z, hz, hzs, hza, hz1, hzv⟩ := (ht.at t hg).info
  refine ⟨z, by simp [zeroValue, typeInfo, hi, hz], ?_⟩
  have hm := mkT_VT (F := F) (w := w) (agg := (tt.at t).ti.isAgg) (n := (tt.at t).size) (cs := (tt.at t).zero) (f := fun j => z.cells.getD j undef) (by omega) (ht.at t hg).one (fun j y hy hj => by
    refine (hzv F w j y _ hy ?_).1
    simp [Array.getD_eq_getD_getElem?, Array.getElem?_eq_getElem (show j < z.cells.size by omega)])
  cases ha : (tt.at t).ti.isAgg with
  | true =>
    obtain ⟨vs, rfl⟩ := hza ha
    rw [ha] at hm
    simp only [if_true] at hm
    have e : ((List.range (tt.at t).size).map fun j => (Value.agg vs).cells.getD j undef).toArray = vs := by
      have hsz : vs.size = (tt.at t).size := hzs
      apply Array.ext'
      apply List.ext_getElem?
      intro j
      simp only [Value.cells, List.getElem?_map]
      by_cases hj : j < (tt.at t).size
      · simp [hj, Array.getD_eq_getD_getElem?, Array.getElem?_eq_getElem (show j < vs.size by omega)]
      · simp [hj, Array.getElem?_eq_none (show vs.size ≤ j by omega)]
    rw [e] at hm
    exact hm
  | false =>
    rw [ha] at hm
    simp only [Bool.false_eq_true, if_false, (hz1 ha).1] at hm
    simpa using hm
theorem op_lookup (ht : TabOk P tt) (hn : Next P o a own F w σ K next) (r : Rel own F w σ) {t kt e : TypeId} {x i : Operand} {m : Nat} {kk kk2 : MK} {n : Int} {es : List (Int × T)} (ho : o.op = .lookup t x i false) (hti : (tt.at t).ti = .map kt e) (hkt : mkOf tt kt = some kk)
    {ee : Nat} {p : Path} {ep : Nat → Nat} {nd : Nd} (hx : VS own F w (.mp m ee p) (a.eval x)) (hi : MKey kk n (a.eval i)) (hm : nth σ m = some (.nd ep nd)) (hee : ee = ep p.length) (hp : nodeAt nd p = some (.map kk2 es)) (hb : (sameM kk kk2 && (tt.at e).ti.good) = true)
    (hs : K (.t ((look n es).getD (mkT (tt.at e).ti.isAgg (tt.at e).size (tt.at e).zero))) σ) : o.wp P a w next Q := by
  simp only [Bool.and_eq_true] at hb
  have h2 := sameM_eq hb.1
  subst h2
  obtain ⟨b, ents, clock, hmv, hown, hh, hsz, hk, hv, _⟩ := map_node r hm hee hp hx
  have hu := und_map (ht.at t (by rw [hti]; rfl)) hti
  obtain ⟨z, hz, hzv⟩ := zero_VT (F := F) (w := w) ht hb.2
  have hget : (getObj b).run P w = .ok (.map ents clock) w := by simp [getObj, Sem.run, hh]
  have hck : ∀ em, (Instr.checkKey em 10000 kt (a.eval i)).run P w = .ok () w := hi.check ht hkt
  rcases findKey_run (w := w) ht hkt hi es ents.toList (by simpa using hsz) (fun j kv e' hj he => hk j kv e' hj (by simpa using he)) with ⟨p1, p2⟩ | ⟨j, kv, e', p1, p2, p3, p4, p5⟩
  · rw [look_pos n es 0, p1] at hs
    refine op_pure hn r (mv := z) ?_ hs (.t _ _ hzv)
    unfold execOp
    simp only [ho, hmv, Instr.lookup, Sem.run_bind, run_underlying hu, Result.andThen_ok, hget, Sem.run_pure, hck, p2, hz]
    rfl
  · rw [look_pos n es 0, p1] at hs
    refine op_pure hn r (mv := e'.val) ?_ hs (.t _ _ (hv j kv e' p2 (by simpa using p3)))
    unfold execOp
    simp only [ho, hmv, Instr.lookup, Sem.run_bind, run_underlying hu, Result.andThen_ok, hget, Sem.run_pure, hck, p5]
    rfl
def setBlock (w : World) (b : Nat) (o : Obj) : World := { w with heap := w.heap.setIfInBounds b o }
def entsPut (n : Int) (es : List (Int × T)) (k v : Value) (ents : Array MapEntry) (clock : Nat) : Array MapEntry × Nat := match posE n es 0 with
  | some (j, _) => (ents.modify j fun e => { e with key := k, val := v }, clock)
  | none => (ents.push { key := k, val := v, born := clock }, clock + 1)
theorem entsPut_ok {kk : MK} {n : Int} {es : List (Int × T)} {kv : Value} {v : T} {u : Value} {ents : Array MapEntry} {clock : Nat} (hi : MKey kk n kv) (hu : VT F w v u) (hsz : ents.size = es.length)
    (hk : ∀ (i : Nat) (kv : Int × T) (e : MapEntry), es[i]? = some kv → ents[i]? = some e → MKey kk kv.1 e.key)
    (hv : ∀ (i : Nat) (kv : Int × T) (e : MapEntry), es[i]? = some kv → ents[i]? = some e → VT F w kv.2 e.val)
    (hbo : BornOk ents clock) :
    (entsPut n es kv u ents clock).1.size = (putE n v es).length ∧
      (∀ (i : Nat) (kv' : Int × T) (e : MapEntry), (putE n v es)[i]? = some kv' → (entsPut n es kv u ents clock).1[i]? = some e → MKey kk kv'.1 e.key) ∧
      (∀ (i : Nat) (kv' : Int × T) (e : MapEntry), (putE n v es)[i]? = some kv' → (entsPut n es kv u ents clock).1[i]? = some e → VT F w kv'.2 e.val) ∧
      BornOk (entsPut n es kv u ents clock).1 (entsPut n es kv u ents clock).2 := by
  cases hpos : posE n es 0 with
  | none =>
    have hput := putE_none n v es 0 hpos
    simp only [entsPut, hpos]
    refine ⟨by rw [hput]; simp [hsz], ?_, ?_, ?_⟩
    · intro i kv e h1 h2
      rw [hput] at h1
      rw [Array.getElem?_push] at h2
      split at h2
      · rename_i hi'
        rw [hi', hsz] at h1
        simp at h1 h2
        rw [← h1, ← h2]; exact hi
      · have hlt' : i < ents.size := by
          have := (Array.getElem?_eq_some_iff.1 h2).1; exact this
        rw [List.getElem?_append_left (by omega)] at h1
        exact hk i kv e h1 h2
    · intro i kv e h1 h2
      rw [hput] at h1
      rw [Array.getElem?_push] at h2
      split at h2
      · rename_i hi'
        rw [hi', hsz] at h1
        simp at h1 h2
        rw [← h1, ← h2]; exact hu
      · have hlt' : i < ents.size := by
          have := (Array.getElem?_eq_some_iff.1 h2).1; exact this
        rw [List.getElem?_append_left (by omega)] at h1
        exact hv i kv e h1 h2
    · refine ⟨by rw [Array.size_push, hbo.1], fun i e h2 => ?_⟩
      rw [Array.getElem?_push] at h2
      split at h2
      · rename_i hi'
        simp at h2
        subst h2
        show clock = i
        rw [hi', hbo.1]
      · exact hbo.2 i e h2
  | some jx =>
    obtain ⟨j, x⟩ := jx
    have hput := putE_some n v es 0 j x (by rw [hpos]; simp)
    simp only [entsPut, hpos]
    have hjl := posE_lt n es 0 hpos
    have hjlt : j < ents.size := by omega
    refine ⟨by rw [hput]; simp [hsz], ?_, ?_, ?_⟩
    · intro i kv2 e h1 h2
      rw [hput, List.getElem?_set] at h1
      rw [Array.getElem?_modify] at h2
      by_cases hij : j = i
      · subst hij
        rw [if_pos rfl] at h1 h2
        rw [if_pos (by omega)] at h1
        rw [Array.getElem?_eq_getElem hjlt] at h2
        simp at h1 h2
        rw [← h1, ← h2]; exact hi
      · rw [if_neg hij] at h1
        rw [if_neg hij] at h2
        exact hk i kv2 e h1 h2
    · intro i kv2 e h1 h2
      rw [hput, List.getElem?_set] at h1
      rw [Array.getElem?_modify] at h2
      by_cases hij : j = i
      · subst hij
        rw [if_pos rfl] at h1 h2
        rw [if_pos (by omega)] at h1
        rw [Array.getElem?_eq_getElem hjlt] at h2
        simp at h1 h2
        rw [← h1, ← h2]; exact hu
      · rw [if_neg hij] at h1
        rw [if_neg hij] at h2
        exact hv i kv2 e h1 h2
    · have bsame : ∀ (i : Nat) (e : MapEntry), (ents.modify j fun e => { e with key := kv, val := u })[i]? = some e → ∃ e0, ents[i]? = some e0 ∧ e0.born = e.born := by
        intro i e h2
        rw [Array.getElem?_modify] at h2
        split at h2
        · cases hq : ents[i]? with
          | none => simp [hq] at h2
          | some e0 => simp [hq] at h2; exact ⟨e0, rfl, by rw [← h2]⟩
        · exact ⟨e, h2, rfl⟩
      refine ⟨by rw [Array.size_modify]; exact hbo.1, fun i e h2 => ?_⟩
      obtain ⟨e0, q1, q2⟩ := bsame i e h2
      rw [← q2]
      exact hbo.2 i e0 q1
theorem posE_idx (n : Int) : ∀ (es : List (Int × T)) (i : Nat), (∀ {j : Nat} {x : T}, posE n es i = some (j, x) → j = i + idxE0 n es ∧ ∀ z, entE0 n z es = es) ∧ (posE n es i = none → idxE0 n es = es.length ∧ ∀ z, entE0 n z es = es ++ [(n, z)])
  | [], i => ⟨(fun h => nomatch h), fun _ => ⟨rfl, fun _ => rfl⟩⟩
  | (m, v) :: es, i => by
    have ih := posE_idx n es (i + 1)
    unfold posE idxE0 entE0
    by_cases hm : m = n
    · simp only [if_pos hm]
      refine ⟨fun h => ?_, fun h => nomatch h⟩
      simp at h
      exact ⟨by omega, fun _ => trivial⟩
    · simp only [if_neg hm]
      refine ⟨fun h => ?_, fun h => ?_⟩
      · obtain ⟨h1, h3⟩ := ih.1 h
        exact ⟨by omega, fun z => by rw [h3 z]⟩
      · obtain ⟨h1, h2⟩ := ih.2 h
        exact ⟨by rw [h1]; rfl, fun z => by rw [h2 z]; rfl⟩
theorem op_mapEntry (ht : TabOk P tt) (hn : Next P o a own F w σ K next) (r : Rel own F w σ) {t kt e : TypeId} {x i : Operand} {m : Nat} {kk kk2 : MK} {n : Int} {es : List (Int × T)} (ho : o.op = .mapEntry t x i) (hti : (tt.at t).ti = .map kt e) (hkt : mkOf tt kt = some kk)
    {ee : Nat} {p : Path} {ep : Nat → Nat} {nd : Nd} (hx : VS own F w (.mp m ee p) (a.eval x)) (hi : MKey kk n (a.eval i)) (hm : nth σ m = some (.nd ep nd)) (hee : ee = ep p.length) (hp : nodeAt nd p = some (.map kk2 es)) (hb : (sameM kk kk2 && (tt.at e).ti.good) = true)
    (hs : K (.t (.tup [.any, .int .i64 (idxE n es : Nat)])) (σ.set m (.nd ep (setAt nd p (.map kk2 (entE n (mkT (tt.at e).ti.isAgg (tt.at e).size (tt.at e).zero) es)))))) : o.wp P a w next Q := by
  simp only [Bool.and_eq_true] at hb
  have h2 := sameM_eq hb.1
  subst h2
  obtain ⟨b, ents, clock, hmv, hown, hh, hsz, hk, hv, hbo⟩ := map_node r hm hee hp hx
  have hu := und_map (ht.at t (by rw [hti]; rfl)) hti
  obtain ⟨z, hz, hzv⟩ := zero_VT (F := F) (w := w) ht hb.2
  have hget : (getObj b).run P w = .ok (.map ents clock) w := by simp [getObj, Sem.run, hh]
  have hck : ∀ em, (Instr.checkKey em 10000 kt (a.eval i)).run P w = .ok () w := hi.check ht hkt
  have hlt : b < w.heap.size := (Array.getElem?_eq_some_iff.1 hh).1
  have hset : ∀ ob, (setObj b ob).run P w = .ok () (setBlock w b ob) := by
    intro ob
    simp only [setObj, Sem.run, hh]
    rfl
  have hpi := posE_idx n es 0
  have go : ∀ (u : Value) (ents' : Array MapEntry) (clock' : Nat), (execOp a.eval o).run P w = .ok (.value (.tuple #[u, goInt (idxE n es : Nat)])) (setBlock w b (.map ents' clock')) → ents'.size = (entE n (mkT (tt.at e).ti.isAgg (tt.at e).size (tt.at e).zero) es).length →
      (∀ (i : Nat) (kv : Int × T) (e' : MapEntry), (entE n (mkT (tt.at e).ti.isAgg (tt.at e).size (tt.at e).zero) es)[i]? = some kv → ents'[i]? = some e' → MKey kk kv.1 e'.key) →
      (∀ (i : Nat) (kv : Int × T) (e' : MapEntry), (entE n (mkT (tt.at e).ti.isAgg (tt.at e).size (tt.at e).zero) es)[i]? = some kv → ents'[i]? = some e' → VT F w kv.2 e'.val) → BornOk ents' clock' → o.wp P a w next Q := by
    intro u ents' clock' hr g1 g2 g3 g4
    have hwr := r.storeMap (w' := setBlock w b (.map ents' clock')) hm hp hown rfl rfl rfl (by simp [setBlock]) (fun j hj => by
        simp only [setBlock, Array.getElem?_setIfInBounds]
        rw [if_neg (by omega)]) (by simp [setBlock, hlt]) g1 g2 g3 g4
    refine wp_value hr (hn _ _ _ _ _ _ hs hwr.2 hwr.1 (by simp) (.t _ _ (.tup _ _ rfl fun j x v hx hv => ?_)))
    cases j with
    | zero => simp at hx hv; subst hx; exact .any _
    | succ j => cases j with
      | zero => simp at hx hv; subst hx hv; exact .int _ _
      | succ j => simp at hx
  rcases findKey_run (w := w) ht hkt hi es ents.toList (by simpa using hsz) (fun j kv e' hj he => hk j kv e' hj (by simpa using he)) with ⟨p1, p2⟩ | ⟨j, kv, e', p1, p2, p3, p4, p5⟩
  · obtain ⟨q1, q2⟩ := hpi.2 p1
    have hent : ∀ z, entE n z es = es ++ [(n, z)] := fun z => by unfold entE; exact q2 z
    have hid : idxE n es = es.length := by unfold idxE; exact q1
    refine go z (ents.push { key := a.eval i, val := z, born := clock }) (clock + 1) ?_ (by rw [hent]; simp [hsz]) ?_ ?_ ⟨by rw [Array.size_push, hbo.1], ?_⟩
    · unfold execOp
      simp only [ho, hmv, Instr.mapEntry, Sem.run_bind, run_underlying hu, Result.andThen_ok, hget, hck, p2, Sem.run_pure, hz, hset]
      rw [hid, ← hsz, ← hbo.1]
    · intro i kv e h1 h2
      rw [hent] at h1
      rw [Array.getElem?_push] at h2
      split at h2
      · rename_i hi'
        rw [hi', hsz] at h1
        simp at h1 h2
        rw [← h1, ← h2]; exact hi
      · have hlt' : i < ents.size := (Array.getElem?_eq_some_iff.1 h2).1
        rw [List.getElem?_append_left (by omega)] at h1
        exact hk i kv e h1 h2
    · intro i kv e h1 h2
      rw [hent] at h1
      rw [Array.getElem?_push] at h2
      split at h2
      · rename_i hi'
        rw [hi', hsz] at h1
        simp at h1 h2
        rw [← h1, ← h2]; exact hzv
      · have hlt' : i < ents.size := (Array.getElem?_eq_some_iff.1 h2).1
        rw [List.getElem?_append_left (by omega)] at h1
        exact hv i kv e h1 h2
    · intro i e h2
      rw [Array.getElem?_push] at h2
      split at h2
      · rename_i hi'
        simp at h2
        subst h2
        show clock = i
        rw [hi', hbo.1]
      · exact hbo.2 i e h2
  · simp only [Nat.zero_add] at p1 p5
    obtain ⟨q1, q2⟩ := hpi.1 p1
    have hent : ∀ z, entE n z es = es := fun z => by unfold entE; exact q2 z
    have hid : idxE n es = j := by unfold idxE; omega
    have p3' : ents[j]? = some e' := by simpa using p3
    have hkey : e'.key = a.eval i := by
      have := hk j kv e' p2 p3'
      rw [p4] at this
      exact this.one hi
    have hstay : (Instr.keyThatStays (a.eval i) (a.eval i)).run P w = .ok (a.eval i) w := by
      unfold Instr.keyThatStays
      rw [if_pos hi.stays]; rfl
    have hmod : (ents.modify j fun e => { e with key := a.eval i }) = ents := by
      apply Array.ext_getElem?
      intro l
      rw [Array.getElem?_modify]
      split
      · rename_i e0
        subst e0
        rw [p3']
        simp only [Option.map_some, ← hkey]
      · rfl
    refine go e'.val ents clock ?_ (by rw [hent]; exact hsz) (fun i kv e h1 h2 => hk i kv e (by rwa [hent] at h1) h2) (fun i kv e h1 h2 => hv i kv e (by rwa [hent] at h1) h2) hbo
    unfold execOp
    simp only [ho, hmv, Instr.mapEntry, Sem.run_bind, run_underlying hu, Result.andThen_ok, hget, hck, p5, Sem.run_pure, p3', Option.map_some, Option.getD_some, hkey, hstay, hmod, hset]
    rw [hid, hbo.2 j e' p3']
theorem setE_len (v : T) : ∀ (es : List (Int × T)) (j : Nat), (setE0 v es j).length = es.length
  | [], _ => rfl
  | _ :: _, 0 => rfl
  | x :: es, j + 1 => by unfold setE0; simp [setE_len v es j]
theorem setE_get (v : T) : ∀ (es : List (Int × T)) (j i : Nat), (setE0 v es j)[i]? = if i = j then es[i]?.map fun p => (p.1, v) else es[i]?
  | [], j, i => by simp [setE0]
  | (m, u) :: es, 0, i => by cases i <;> simp [setE0]
  | x :: es, j + 1, i => by cases i <;> simp [setE0, setE_get v es j]
theorem op_entryStore (hn : Next P o a own F w σ K next) (r : Rel own F w σ) {t : TypeId} {x s y : Operand} {m : Nat} {kk2 : MK} {j : Int} {v : T} {es : List (Int × T)} (ho : o.op = .entryStore t x s y)
    {ee : Nat} {p : Path} {ep : Nat → Nat} {nd : Nd} (hx : VS own F w (.mp m ee p) (a.eval x)) (hi : VS own F w (.t (.int .i64 j)) (a.eval s)) (hy : VS own F w (.t v) (a.eval y)) (hm : nth σ m = some (.nd ep nd)) (hee : ee = ep p.length) (hp : nodeAt nd p = some (.map kk2 es)) (hlo : 0 ≤ j) (hhi : j.toNat < es.length)
    (hs : K .any (σ.set m (.nd ep (setAt nd p (.map kk2 (setE0 v es j.toNat)))))) : o.wp P a w next Q := by
  obtain ⟨b, ents, clock, hmv, hown, hh, hsz, hk, hv, hbo⟩ := map_node r hm hee hp hx
  have hyv : VT F w v (a.eval y) := by cases hy with | t _ _ h => exact h
  have hget : (getObj b).run P w = .ok (.map ents clock) w := by simp [getObj, Sem.run, hh]
  have hlt : b < w.heap.size := (Array.getElem?_eq_some_iff.1 hh).1
  have hset : ∀ ob, (setObj b ob).run P w = .ok () (setBlock w b ob) := by
    intro ob
    simp only [setObj, Sem.run, hh]
    rfl
  have hjl : j.toNat < ents.size := by omega
  have hfind : ents.findIdx? (fun e => (e.born : Int) == j) = some j.toNat := by
    rw [Array.findIdx?_eq_some_iff_getElem]
    refine ⟨hjl, ?_, fun l hl => ?_⟩
    · rw [hbo.2 _ _ (Array.getElem?_eq_getElem hjl), Int.toNat_of_nonneg hlo]; simp
    · have hl' : l < ents.size := by omega
      rw [hbo.2 _ _ (Array.getElem?_eq_getElem hl')]
      intro hq
      have : (l : Int) = j := by simpa using hq
      omega
  have g2 : ∀ (i : Nat) (kv : Int × T) (e : MapEntry), (setE0 v es j.toNat)[i]? = some kv → (ents.modify j.toNat fun e => { e with val := a.eval y })[i]? = some e → MKey kk2 kv.1 e.key ∧ VT F w kv.2 e.val := fun i kv e h1 h2 => by
    rw [setE_get] at h1
    rw [Array.getElem?_modify] at h2
    by_cases e0 : i = j.toNat
    · rw [if_pos e0] at h1
      rw [if_pos e0.symm] at h2
      cases h3 : es[i]? with
      | none => rw [h3] at h1; simp at h1
      | some kv0 => cases h4 : ents[i]? with
        | none => rw [h4] at h2; simp at h2
        | some en0 =>
          rw [h3] at h1; rw [h4] at h2
          simp at h1 h2
          rw [← h1, ← h2]
          exact ⟨hk i kv0 en0 h3 h4, hyv⟩
    · rw [if_neg e0] at h1
      rw [if_neg fun h => e0 h.symm] at h2
      exact ⟨hk i kv e h1 h2, hv i kv e h1 h2⟩
  have g4 : BornOk (ents.modify j.toNat fun e => { e with val := a.eval y }) clock := ⟨by rw [Array.size_modify]; exact hbo.1, fun i e h2 => by
    rw [Array.getElem?_modify] at h2
    split at h2
    · cases h4 : ents[i]? with
      | none => rw [h4] at h2; simp at h2
      | some en0 =>
        rw [h4] at h2
        simp at h2
        rw [← h2]
        exact hbo.2 i en0 h4
    · exact hbo.2 i e h2⟩
  have hwr := r.storeMap (w' := setBlock w b (.map (ents.modify j.toNat fun e => { e with val := a.eval y }) clock)) hm hp hown rfl rfl rfl (by simp [setBlock]) (fun j hj => by
      simp only [setBlock, Array.getElem?_setIfInBounds]
      rw [if_neg (by omega)]) (by simp [setBlock, hlt]) (es' := setE0 v es j.toNat) (by rw [Array.size_modify, setE_len]; exact hsz) (fun i kv e h1 h2 => (g2 i kv e h1 h2).1) (fun i kv e h1 h2 => (g2 i kv e h1 h2).2) g4
  refine wp_skip' ?_ (hn _ _ _ _ _ _ hs hwr.2 hwr.1 (by simp) (.t _ _ (.any _)))
  unfold execOp
  have e4 : (asInt (a.eval s)).run P w = .ok j w := by rw [intV hi]; simp [asInt, asIntOf]
  simp only [ho, hmv, Instr.entryStore, Sem.run_bind, hget, Result.andThen_ok, e4, Sem.run_pure, hfind, hset]
theorem op_mapUpdate (ht : TabOk P tt) (hn : Next P o a own F w σ K next) (r : Rel own F w σ) {t kt e : TypeId} {x i y : Operand} {m : Nat} {kk kk2 : MK} {n : Int} {v : T} {es : List (Int × T)} (ho : o.op = .mapUpdate t x i y) (hti : (tt.at t).ti = .map kt e) (hkt : mkOf tt kt = some kk)
    {ee : Nat} {p : Path} {ep : Nat → Nat} {nd : Nd} (hx : VS own F w (.mp m ee p) (a.eval x)) (hi : MKey kk n (a.eval i)) (hy : VS own F w (.t v) (a.eval y)) (hm : nth σ m = some (.nd ep nd)) (hee : ee = ep p.length) (hp : nodeAt nd p = some (.map kk2 es)) (hb : sameM kk kk2 = true)
    (hs : K .any (σ.set m (.nd ep (setAt nd p (.map kk2 (putE n v es)))))) : o.wp P a w next Q := by
  have h2 := sameM_eq hb
  subst h2
  obtain ⟨b, ents, clock, hmv, hown, hh, hsz, hk, hv, hbo⟩ := map_node r hm hee hp hx
  have hu := und_map (ht.at t (by rw [hti]; rfl)) hti
  have hyv : VT F w v (a.eval y) := by cases hy with | t _ _ h => exact h
  have hget : (getObj b).run P w = .ok (.map ents clock) w := by simp [getObj, Sem.run, hh]
  have hck : ∀ em, (Instr.checkKey em 10000 kt (a.eval i)).run P w = .ok () w := hi.check ht hkt
  have hlt : b < w.heap.size := (Array.getElem?_eq_some_iff.1 hh).1
  have hset : ∀ ob, (setObj b ob).run P w = .ok () (setBlock w b ob) := by
    intro ob
    simp only [setObj, Sem.run, hh]
    rfl
  obtain ⟨g1, g2, g3, g4⟩ := entsPut_ok hi hyv hsz hk hv hbo
  generalize hE : entsPut n es (a.eval i) (a.eval y) ents clock = E at g1 g2 g3 g4
  obtain ⟨ents', clock'⟩ := E
  have hwr := r.storeMap (w' := setBlock w b (.map ents' clock')) hm hp hown rfl rfl rfl (by simp [setBlock]) (fun j hj => by
      simp only [setBlock, Array.getElem?_setIfInBounds]
      rw [if_neg (by omega)]) (by simp [setBlock, hlt]) g1 g2 g3 g4
  refine wp_skip' ?_ (hn _ _ _ _ _ _ hs hwr.2 hwr.1 (by simp) (.t _ _ (.any _)))
  rcases findKey_run (w := w) ht hkt hi es ents.toList (by simpa using hsz) (fun j kv e' hj he => hk j kv e' hj (by simpa using he)) with ⟨p1, p2⟩ | ⟨j, kv, e', p1, p2, p3, p4, p5⟩
  · simp only [entsPut, p1, Prod.mk.injEq] at hE
    obtain ⟨rfl, rfl⟩ := hE
    unfold execOp
    simp only [ho, hmv, Instr.mapUpdate, Sem.run_bind, run_underlying hu, Result.andThen_ok, hget, hck, p2, Sem.run_pure, hset]
  · simp only [Nat.zero_add] at p1 p5
    simp only [entsPut, p1, Prod.mk.injEq] at hE
    obtain ⟨rfl, rfl⟩ := hE
    have p3' : ents[j]? = some e' := by simpa using p3
    have hkey : e'.key = a.eval i := by
      have := hk j kv e' p2 p3'
      rw [p4] at this
      exact this.one hi
    have hstay : (Instr.keyThatStays (a.eval i) (a.eval i)).run P w = .ok (a.eval i) w := by
      unfold Instr.keyThatStays
      rw [if_pos hi.stays]; rfl
    unfold execOp
    simp only [ho, hmv, Instr.mapUpdate, Sem.run_bind, run_underlying hu, Result.andThen_ok, hget, hck, p5, Sem.run_pure, p3', Option.map_some, Option.getD_some, hkey, hstay, hset]
theorem op_len (ht : TabOk P tt) (hn : Next P o a own F w σ K next) (r : Rel own F w σ) {t : TypeId} {x : Operand} (ho : o.op = .call { callee := .builtin .len, args := #[x], argTypes := #[t] })
    {sx : SV} (hx : VS own F w sx (a.eval x)) (hs : lenOp (tt.at t).ti sx σ fun v => K v σ) : o.wp P a w next Q := by
  have run : ∀ v, (Builtin.len_ #[t] o.type #[a.eval x]).run P w = .ok v w → (execOp a.eval o).run P w = .ok (.value v) w := by
    intro v hv
    unfold execOp
    simp only [ho, resolve, Sem.run_bind, Sem.run_pure, Result.andThen_ok, invoke, builtin]
    have e : #[x].map a.eval = #[a.eval x] := by simp
    rw [e, hv]; rfl
  generalize hm : a.eval x = mv at hx run
  unfold lenOp at hs
  split at hs
  · rename_i e sz xs hti
    have hu := und_slice (ht.at t (by rw [hti]; rfl)) hti
    cases hx with
    | t _ _ hv =>
      cases hv with
      | sl _ _ b off c vals hp hc hnn =>
        exact op_pure hn r (run (.int .i64 xs.length) (by simp [Builtin.len_, run_underlying hu, goInt])) (hs hnn) (.t _ _ (.int _ _))
      | sl0 _ ad c =>
        exact op_pure hn r (run (.int .i64 0) (by simp [Builtin.len_, run_underlying hu, goInt])) (hs (by simp)) (.t _ _ (.int _ _))
  · rename_i e hti
    have hu := und_slice (ht.at t (by rw [hti]; rfl)) hti
    cases hx with
    | t _ _ hv =>
      cases hv
      exact op_pure hn r (run (.int .i64 0) (by simp [Builtin.len_, run_underlying hu, goInt])) hs (.t _ _ (.int _ _))
  · rename_i e hti
    have hu := und_slice (ht.at t (by rw [hti]; rfl)) hti
    cases hx with
    | t _ _ hv =>
      cases hv
      exact op_pure hn r (run (.int .i64 0) (by simp [Builtin.len_, run_underlying hu, goInt])) hs (.t _ _ (.int _ _))
  · rename_i s hti
    have hu := und_str (ht.at t (by rw [hti]; rfl)) hti
    cases hx with
    | t _ _ hv =>
      cases hv
      exact op_pure hn r (run (.int .i64 s.size) (by simp [Builtin.len_, run_underlying hu, goInt])) hs (.t _ _ (.int _ _))
  · rename_i e k ee p off len hti
    have hu := und_slice (ht.at t (by rw [hti]; rfl)) hti
    cases hx with
    | refZ _ _ _ _ ad h => exact op_pure hn r (run (.int .i64 0) (by simp [Builtin.len_, run_underlying hu, goInt])) (hs (by omega)) (.t _ _ (.int _ _))
    | refE _ _ _ ad h => exact op_pure hn r (run (.int .i64 0) (by simp [Builtin.len_, run_underlying hu, goInt])) (hs (by omega)) (.t _ _ (.int _ _))
    | ref _ _ _ _ _ b o sz cap m h hl hm hnn => exact op_pure hn r (run (.int .i64 len) (by simp [Builtin.len_, run_underlying hu, goInt])) (hs hnn) (.t _ _ (.int _ _))
  · rename_i k1 e1 k ee p hti
    have hu := und_map (ht.at t (by rw [hti]; rfl)) hti
    split at hs
    · rename_i ep nd hk
      obtain ⟨h1, h2⟩ := hs
      obtain ⟨nn, hp, h3⟩ := nodeK_out h2
      cases nn with
      | row => exact h3.elim
      | map kk es =>
        obtain ⟨b, ents, clock, hmv, hown, hh, hsz, _⟩ := map_node r hk h1.out hp hx
        subst hmv
        have hget : (getObj b).run P w = .ok (.map ents clock) w := by simp [getObj, Sem.run, hh]
        exact op_pure hn r (run (.int .i64 es.length) (by simp [Builtin.len_, run_underlying hu, goInt, hget, hsz])) h3 (.t _ _ (.int _ _))
    · exact hs.elim
  · exact hs.elim
end
end Go.Proofs.Ytgladinljapmkaa.Am

/- append. -/
namespace Go.Proofs.Ytgladinljapmkaa.Am
open Go.RowKit
set_option linter.unusedVariables false
set_option linter.unusedSimpArgs false
section
variable {P : Program} {tt : Tab} {own : Nat → Own} {F : Nat → Prop} {w : World} {σ : Sto} {env : Env} {a : Act} {N : Nat} {o : Oper}
variable {K : SV → Sto → Prop} {next : Act → World → Prop} {Q : Exit → Act → World → Prop}
structure Sup (own : Nat → Own) (F : Nat → Prop) (w : World) (L : List Nat) (esz : Nat) (A : Nat → Nat → Path → Option Loc) (ys : List T) (vs : List Value) : Prop where
  hc : ∀ x ∈ ys, x.cells.length = esz
  hl : vs.length = ys.length * esz
  one : ∀ v ∈ vs, v.oneCell' = true
  cell : ∀ (i : Nat) (x : T) (j : Nat) (y : T) (v : Value), ys[i]? = some x → x.cells[j]? = some y → vs[i * esz + j]? = some v →
    (y.nd? = none ∧ VT F w y v) ∨ ∃ m Lo, y.nd? = some m ∧ TreeOk F w (A i j) m ∧ A i j [] = some Lo ∧ v = m.lv Lo ∧ ∀ b, Bk (A i j) m b → ∃ k, k ∈ L ∧ (own k).bl b
  dis : ∀ (i j i' j' : Nat) (x x' y y' : T) (m m' : Nd) (b : Nat), ys[i]? = some x → x.cells[j]? = some y → y.nd? = some m → ys[i']? = some x' → x'.cells[j']? = some y' → y'.nd? = some m' → Bk (A i j) m b → Bk (A i' j') m' b → i = i' ∧ j = j'
theorem Sup.nil {L : List Nat} {esz : Nat} {A : Nat → Nat → Path → Option Loc} : Sup own F w L esz A [] [] := ⟨by simp, by simp, by simp, by simp, by simp⟩
theorem Sup.flat {L L' : List Nat} {esz : Nat} {A B : Nat → Nat → Path → Option Loc} {ys : List T} {vs : List Value} (h : Sup own F w L esz A ys vs) (hf : Flat ys) : Sup own F w L' esz B ys vs := by
  have key : ∀ (i : Nat) (x : T) (j : Nat) (y : T), ys[i]? = some x → x.cells[j]? = some y → y.nd? = none := fun i x j y hx hy => noNst_nd.1 (hf x (List.mem_of_getElem? hx) y (List.mem_of_getElem? hy))
  refine ⟨h.hc, h.hl, h.one, fun i x j y v hx hy hv => ?_, fun i j i' j' x x' y y' m m' b hx hy hn => ?_⟩
  · rcases h.cell i x j y v hx hy hv with h1 | ⟨m, Lo, h1, _⟩
    · exact .inl h1
    · rw [key i x j y hx hy] at h1; exact nomatch h1
  · rw [key i x j y hx hy] at hn; exact nomatch hn
theorem flat_idx {L esz i j : Nat} {n : Nat} (hi : i < n) (hj : j < esz) : i * esz + j < n * esz := by
  have : (i + 1) * esz ≤ n * esz := Nat.mul_le_mul_right _ hi
  rw [Nat.add_mul, Nat.one_mul] at this
  omega
theorem Sup.append {L1 L2 : List Nat} {esz : Nat} {A B : Nat → Nat → Path → Option Loc} {ts ys : List T} {vs us : List Value} (r : Rel own F w σ) (h1 : Sup own F w L1 esz A ts vs) (h2 : Sup own F w L2 esz B ys us) (hd : ∀ k, k ∈ L1 → k ∉ L2) :
    Sup own F w (L1 ++ L2) esz (fun i j => if i < ts.length then A i j else B (i - ts.length) j) (ts ++ ys) (vs ++ us) := by
  have cellAt : ∀ (i : Nat) (x : T) (j : Nat) (y : T) (m : Nd), (ts ++ ys)[i]? = some x → x.cells[j]? = some y → y.nd? = some m →
      (i < ts.length ∧ ts[i]? = some x ∧ (∀ b, Bk (A i j) m b → ∃ k, k ∈ L1 ∧ (own k).bl b)) ∨ (ts.length ≤ i ∧ ys[i - ts.length]? = some x ∧ (∀ b, Bk (B (i - ts.length) j) m b → ∃ k, k ∈ L2 ∧ (own k).bl b)) := by
    intro i x j y m hx hy hn
    rcases Nat.lt_or_ge i ts.length with hi | hi
    · rw [List.getElem?_append_left hi] at hx
      have hj : j < esz := by rw [← h1.hc x (List.mem_of_getElem? hx)]; exact (List.getElem?_eq_some_iff.1 hy).1
      have hlt := flat_idx (L := 0) hi hj
      rw [← h1.hl] at hlt
      rcases h1.cell i x j y _ hx hy (List.getElem?_eq_getElem hlt) with ⟨g, _⟩ | ⟨m', Lo, g1, g2, g3, g4, g5⟩
      · rw [hn] at g; exact nomatch g
      · rw [hn] at g1; injection g1 with g1; subst g1
        exact .inl ⟨hi, hx, g5⟩
    · rw [List.getElem?_append_right hi] at hx
      have hi2 : i - ts.length < ys.length := (List.getElem?_eq_some_iff.1 hx).1
      have hj : j < esz := by rw [← h2.hc x (List.mem_of_getElem? hx)]; exact (List.getElem?_eq_some_iff.1 hy).1
      have hlt := flat_idx (L := 0) hi2 hj
      rw [← h2.hl] at hlt
      rcases h2.cell _ x j y _ hx hy (List.getElem?_eq_getElem hlt) with ⟨g, _⟩ | ⟨m', Lo, g1, g2, g3, g4, g5⟩
      · rw [hn] at g; exact nomatch g
      · rw [hn] at g1; injection g1 with g1; subst g1
        exact .inr ⟨hi, hx, g5⟩
  refine ⟨fun x hx => ?_, by simp [h1.hl, h2.hl, Nat.add_mul], fun v hv => ?_, fun i x j y v hx hy hv => ?_, fun i j i' j' x x' y y' m m' b hx hy hn hx' hy' hn' hb hb' => ?_⟩
  · rcases List.mem_append.1 hx with h | h
    · exact h1.hc x h
    · exact h2.hc x h
  · rcases List.mem_append.1 hv with h | h
    · exact h1.one v h
    · exact h2.one v h
  · rcases Nat.lt_or_ge i ts.length with hi | hi
    · rw [List.getElem?_append_left hi] at hx
      have hj : j < esz := by rw [← h1.hc x (List.mem_of_getElem? hx)]; exact (List.getElem?_eq_some_iff.1 hy).1
      have hlt := flat_idx (L := 0) hi hj
      rw [← h1.hl] at hlt
      rw [List.getElem?_append_left hlt] at hv
      simp only [if_pos hi]
      rcases h1.cell i x j y v hx hy hv with g | ⟨m, Lo, g1, g2, g3, g4, g5⟩
      · exact .inl g
      · exact .inr ⟨m, Lo, g1, g2, g3, g4, fun b hb => by obtain ⟨k, q1, q2⟩ := g5 b hb; exact ⟨k, by simp [q1], q2⟩⟩
    · rw [List.getElem?_append_right hi] at hx
      have e : i * esz = ts.length * esz + (i - ts.length) * esz := by rw [← Nat.add_mul]; congr 1; omega
      rw [List.getElem?_append_right (by rw [h1.hl]; omega), h1.hl, show i * esz + j - ts.length * esz = (i - ts.length) * esz + j by omega] at hv
      simp only [if_neg (show ¬ i < ts.length by omega)]
      rcases h2.cell _ x j y v hx hy hv with g | ⟨m, Lo, g1, g2, g3, g4, g5⟩
      · exact .inl g
      · exact .inr ⟨m, Lo, g1, g2, g3, g4, fun b hb => by obtain ⟨k, q1, q2⟩ := g5 b hb; exact ⟨k, by simp [q1], q2⟩⟩
  · rcases cellAt i x j y m hx hy hn with ⟨p1, p2, p3⟩ | ⟨p1, p2, p3⟩ <;> rcases cellAt i' x' j' y' m' hx' hy' hn' with ⟨q1, q2, q3⟩ | ⟨q1, q2, q3⟩
    · simp only [if_pos p1] at hb
      simp only [if_pos q1] at hb'
      exact h1.dis i j i' j' x x' y y' m m' b p2 hy hn q2 hy' hn' hb hb'
    · simp only [if_pos p1] at hb
      simp only [if_neg (show ¬ i' < ts.length by omega)] at hb'
      obtain ⟨k, w1, w2⟩ := p3 b hb
      obtain ⟨k', w3, w4⟩ := q3 b hb'
      have := r.inj k k' b w2 w4
      subst this
      exact absurd w3 (hd k w1)
    · simp only [if_neg (show ¬ i < ts.length by omega)] at hb
      simp only [if_pos q1] at hb'
      obtain ⟨k, w1, w2⟩ := p3 b hb
      obtain ⟨k', w3, w4⟩ := q3 b hb'
      have := r.inj k k' b w2 w4
      subst this
      exact absurd w1 (hd k w3)
    · simp only [if_neg (show ¬ i < ts.length by omega)] at hb
      simp only [if_neg (show ¬ i' < ts.length by omega)] at hb'
      obtain ⟨e1, e2⟩ := h2.dis _ j _ j' x x' y y' m m' b p2 hy hn q2 hy' hn' hb hb'
      exact ⟨by omega, e2⟩
theorem Rel.gather {w' : World} (r : Rel own F w σ) {L : List Nat} {E : TypeId} {sz : Nat} {A : Nat → Nat → Path → Option Loc} {ys : List T} {vs : List Value} (hs : Sup own F w L sz A ys vs) {b oo cap : Nat} {arr : Array Value} (hpos : 0 < sz) (hcap : 0 < cap) (hle : ys.length ≤ cap) (h48 : ys.length ≤ 2 ^ 48)
    (os : w'.os = w.os) (tape : w'.tape = w.tape) (output : w'.output = w.output) (hsz : w.heap.size ≤ w'.heap.size) (hh : ∀ x, x < w.heap.size → x ≠ b → w'.heap[x]? = w.heap[x]?) (hb : w.heap.size ≤ b ∨ ((∃ k, k ∈ L ∧ (own k).bl b) ∧ ∀ (i : Nat) (x : T) (j : Nat) (y : T) (m : Nd), ys[i]? = some x → x.cells[j]? = some y → y.nd? = some m → ¬ Bk (A i j) m b))
    (harr : w'.heap[b]? = some (.cells arr E (0, 0))) (hfit : oo + cap * sz ≤ arr.size) (hval : ∀ t, t < vs.length → arr[oo + t]? = vs[t]?) :
    ∃ own', Rel own' F w' (kills L σ ++ [.nd e0 (.row E sz ys)]) ∧ Ext σ.length own F w own' F w' ∧ (own' σ.length).am 0 [] = some (.at b oo sz cap ys.length) := by
  have hbw : b < w'.heap.size := (Array.getElem?_eq_some_iff.1 harr).1
  let c : Path → Option Loc := fun p => match p with | [] => some (.at b oo sz cap ys.length) | (i, j) :: q => A i j q
  let ow : Own := ⟨fun e p => if e = 0 then c p else none, fun x => x = b ∨ ∃ i x' j y m, ys[i]? = some x' ∧ x'.cells[j]? = some y ∧ y.nd? = some m ∧ Bk (A i j) m x⟩
  have hcur : ow.cur e0 = c := by
    funext p
    show (if (0 : Nat) = 0 then c p else none) = c p
    rw [if_pos rfl]
  have hchild : ∀ (i : Nat) (x : T) (j : Nat) (y : T) (m : Nd), ys[i]? = some x → x.cells[j]? = some y → y.nd? = some m → TreeOk F w (A i j) m ∧ (∃ Lo, A i j [] = some Lo ∧ ∀ v, vs[i * sz + j]? = some v → v = m.lv Lo) ∧ (∀ b, Bk (A i j) m b → ∃ k, k ∈ L ∧ (own k).bl b) ∧ ¬ Bk (A i j) m b := by
    intro i x j y m hx hy hn
    have hi := (List.getElem?_eq_some_iff.1 hx).1
    have hj : j < sz := by rw [← hs.hc x (List.mem_of_getElem? hx)]; exact (List.getElem?_eq_some_iff.1 hy).1
    have hlt := flat_idx (L := 0) hi hj
    rw [← hs.hl] at hlt
    rcases hs.cell i x j y _ hx hy (List.getElem?_eq_getElem hlt) with ⟨g, _⟩ | ⟨m', Lo, g1, g2, g3, g4, g5⟩
    · rw [hn] at g; exact nomatch g
    · rw [hn] at g1; injection g1 with g1; subst g1
      refine ⟨g2, ⟨Lo, g3, fun v hv => by rw [List.getElem?_eq_getElem hlt] at hv; injection hv with hv; rw [← hv]; exact g4⟩, g5, fun h => ?_⟩
      rcases hb with h' | ⟨_, h'⟩
      · obtain ⟨k, _, q2⟩ := g5 b h
        have := r.lb k b q2
        omega
      · exact h' i x j y m hx hy hn h
  obtain ⟨r', e'⟩ := r.fuse L ow (w' := w') (fun x hx => by
      rcases hx with rfl | ⟨i, x', j, y, m, h1, h2, h3, h4⟩
      · refine ⟨?_, hbw⟩
        rcases hb with h | ⟨h, _⟩
        · exact .inl h
        · exact .inr h
      · obtain ⟨_, _, g, _⟩ := hchild i x' j y m h1 h2 h3
        obtain ⟨k, q1, q2⟩ := g x h4
        exact ⟨.inr ⟨k, q1, q2⟩, Nat.lt_of_lt_of_le (r.lb k x q2) hsz⟩) os tape output hsz (fun x hx hn => by
      refine hh x hx fun e => ?_
      subst e
      rcases hb with h | ⟨⟨k, q1, q2⟩, _⟩
      · omega
      · exact hn k q1 q2) (.nd e0 (.row E sz ys)) (fun hvt _ => by
    refine ⟨?_, ?_, rfl, fun e p he => by
      show (if e = 0 then c p else none) = none
      rw [if_neg (by simp [e0] at he; omega)]⟩
    · rw [hcur]
      refine TreeOk.form ?_ ?_ ?_ ?_
      · refine .inr ⟨b, oo, cap, arr, rfl, hpos, hcap, harr, hfit, hle, h48, hs.hc, fun i x j y v hx hy hv => ?_, fun j hj => ?_⟩
        · have hi := (List.getElem?_eq_some_iff.1 hx).1
          have hj : j < sz := by rw [← hs.hc x (List.mem_of_getElem? hx)]; exact (List.getElem?_eq_some_iff.1 hy).1
          have hlt := flat_idx (L := 0) hi hj
          rw [← hs.hl] at hlt
          rw [Nat.add_assoc, hval _ hlt] at hv
          cases hyn : y.nd? with
          | none =>
            rcases hs.cell i x j y v hx hy hv with ⟨_, g⟩ | ⟨m, Lo, g1, _⟩
            · cases y <;> first | exact hvt _ _ g | exact nomatch hyn
            · rw [hyn] at g1; exact nomatch g1
          | some m =>
            obtain ⟨_, ⟨Lo, g2, g3⟩, _⟩ := hchild i x j y m hx hy hyn
            have e := nd_of hyn
            subst e
            cases m with
            | row => exact ⟨Lo, g2, g3 v hv⟩
            | map => exact ⟨Lo, g2, g3 v hv⟩
        · have hlt : j < vs.length := by rw [hs.hl]; exact hj
          rw [Array.getD_eq_getD_getElem?, hval j hlt, List.getElem?_eq_getElem hlt]
          exact hs.one _ (List.getElem_mem hlt)
      · intro i x j y m hx hy hn
        obtain ⟨g1, _, g3, g4⟩ := hchild i x j y m hx hy hn
        refine g1.move (fun _ => rfl) (fun x hxb => ?_) hvt
        obtain ⟨k, q1, q2⟩ := g3 x hxb
        exact hh x (r.lb k x q2) fun e => g4 (e ▸ hxb)
      · intro i j i' j' x x' y y' m m' b' hx hy hn hx' hy' hn' hb1 hb2
        exact hs.dis i j i' j' x x' y y' m m' b' hx hy hn hx' hy' hn' hb1 hb2
      · intro i x j y m b' o' s' cp' mm' hx hy hn hr hb1
        injection hr with hr
        injection hr with hr
        subst hr
        exact (hchild i x j y m hx hy hn).2.2.2 hb1
    · rw [hcur]
      rintro x ⟨p, n, o', s', cp', m', h1, h2⟩
      cases p with
      | nil =>
        injection h2 with h2
        injection h2 with h2
        exact .inl h2.symm
      | cons q p =>
        obtain ⟨i, j⟩ := q
        obtain ⟨x', y, m, g1, g2, g3, g4⟩ := nodeAt_cons.1 h1
        exact .inr ⟨i, x', j, y, m, g1, g2, g3, p, n, o', s', cp', m', g4, h2⟩)
  refine ⟨_, r', e', ?_⟩
  rw [upd1_same]
  show (if (0 : Nat) = 0 then c [] else none) = _
  rw [if_pos rfl]
theorem Rel.gather0 (r : Rel own F w σ) (L : List Nat) (E : TypeId) (sz : Nat) (ad : Option Addr) :
    ∃ own', Rel own' F w (kills L σ ++ [.nd e0 (.row E sz [])]) ∧ Ext σ.length own F w own' F w ∧ (own' σ.length).am 0 [] = some (.e ad) := by
  obtain ⟨r', e'⟩ := r.fuse L (ownN (.e ad) fun b => ∃ o s c m, Loc.e ad = .at b o s c m) (w' := w) (fun b ⟨_, _, _, _, h⟩ => nomatch h) rfl rfl rfl (Nat.le_refl _) (fun _ _ _ => rfl) (.nd e0 (.row E sz []))
    (fun _ _ => OR.flat rfl (.inl ⟨rfl, ad, by simp⟩) (fun q p n h => by obtain ⟨i, j⟩ := q; obtain ⟨x, _, _, h, _⟩ := nodeAt_cons.1 h; simp at h))
  exact ⟨_, r', e', by rw [upd1_same]; exact ownN_at⟩
theorem own_part (r : Rel own F w σ) {k : Nat} {ep : Nat → Nat} {nd : Nd} (hk : nth σ k = some (.nd ep nd)) {p : Path} {E : TypeId} {sz : Nat} {xs : List T} (hp : nodeAt nd p = some (.row E sz xs)) {e off len : Nat} (he : e = ep p.length) {mv : Value} (hv : VS own F w (.ref k e p off len) mv) :
    ∃ (ad : Option Addr) (c : Nat) (news : List Value), mv = .slice ad len c ∧ ((xs.drop off).take len).length = len ∧ (len ≠ 0 → ∃ q, ad = some q ∧ ∀ j v, news[j]? = some v → w.cell? (q.add j) = some v) ∧
      Sup own F w [k] sz (fun i j q => (own k).cur ep (p ++ (off + i, j) :: q)) ((xs.drop off).take len) news ∧
      ((len = 0 ∧ c = 0) ∨ ∃ b oo cap vals, (own k).cur ep p = some (.at b oo sz cap xs.length) ∧ ad = some ⟨b, oo + off * sz, none⟩ ∧ c = cap - off ∧ w.heap[b]? = some (.cells vals E (0, 0)) ∧ oo + cap * sz ≤ vals.size ∧ off + len ≤ xs.length ∧ xs.length ≤ cap ∧ 0 < sz ∧ (own k).bl b ∧
        (∀ t, t < len * sz → vals[oo + off * sz + t]? = news[t]?) ∧ ∀ (i : Nat) (x : T) (j : Nat) (y : T) (m : Nd), ((xs.drop off).take len)[i]? = some x → x.cells[j]? = some y → y.nd? = some m → ¬ Bk (fun q => (own k).cur ep (p ++ (off + i, j) :: q)) m b) := by
  obtain ⟨hT, hB, hep, hfr⟩ := nd_obj r hk
  subst he
  rcases hT.1 p _ hp with ⟨rfl, ad, ha⟩ | ⟨b, oo, cap, vals, g1, g3, g4, g5, g6, g7, g8, g9, g10, g11⟩
  · have ha' : (own k).am (ep p.length) p = some (.e ad) := ha
    cases hv with
    | refE _ _ _ a' h =>
      rw [ha'] at h
      injection h with h
      injection h with h
      subst h
      exact ⟨ad, 0, [], rfl, by simp, fun h => absurd rfl h, by simpa using Sup.nil, .inl ⟨rfl, rfl⟩⟩
    | refZ _ _ _ _ a' h => exact ⟨a', 0, [], rfl, by simp, fun h => absurd rfl h, by simpa using Sup.nil, .inl ⟨rfl, rfl⟩⟩
    | ref _ _ _ _ _ b o sz' cap m h => rw [ha'] at h; injection h with h; exact nomatch h
  · have g1' : (own k).am (ep p.length) p = some (.at b oo sz cap xs.length) := g1
    cases hv with
    | refE _ _ _ a' h => rw [g1'] at h; injection h with h; exact nomatch h
    | refZ _ _ _ _ a' h => exact ⟨a', 0, [], rfl, by simp, fun h => absurd rfl h, by simpa using Sup.nil, .inl ⟨rfl, rfl⟩⟩
    | ref _ _ _ _ _ b' o' sz' cap' m' h hl hm hnn =>
      rw [g1'] at h
      injection h with h
      injection h with e1 e2 e3 e4 e5
      subst e1 e2 e3 e4 e5
      have hlen : ((xs.drop off).take len).length = len := by simp; omega
      have hbound : (off + len) * sz ≤ cap * sz := Nat.mul_le_mul_right _ (by omega)
      rw [Nat.add_mul] at hbound
      have hget : ∀ t, t < len * sz → ((List.range (len * sz)).map fun j => vals.getD (oo + off * sz + j) undef)[t]? = vals[oo + off * sz + t]? := by
        intro t ht
        simp [ht, Array.getD_eq_getD_getElem?, Array.getElem?_eq_getElem (show oo + off * sz + t < vals.size by omega)]
      have hsub : ∀ (i : Nat) (x : T) (j : Nat) (y : T) (m : Nd), ((xs.drop off).take len)[i]? = some x → x.cells[j]? = some y → y.nd? = some m → i < len ∧ xs[off + i]? = some x ∧ nodeAt nd (p ++ [(off + i, j)]) = some m := by
        intro i x j y m hx hy hn
        have hi : i < len := by
          have := (List.getElem?_eq_some_iff.1 hx).1
          rw [hlen] at this; exact this
        have hx' := hx
        simp [hi] at hx'
        refine ⟨hi, hx', ?_⟩
        rw [nodeAt_append hp]
        exact nodeAt_cons.2 ⟨x, y, m, hx', hy, hn, nodeAt_nil⟩
      have hbk : ∀ (i : Nat) (x : T) (j : Nat) (y : T) (m : Nd) (b' : Nat), ((xs.drop off).take len)[i]? = some x → x.cells[j]? = some y → y.nd? = some m → Bk (fun q => (own k).cur ep (p ++ (off + i, j) :: q)) m b' → ∃ q n o s cp mm, nodeAt nd (p ++ (off + i, j) :: q) = some n ∧ (own k).cur ep (p ++ (off + i, j) :: q) = some (.at b' o s cp mm) := by
        rintro i x j y m b' hx hy hn ⟨q, n, o, s, cp, mm, h1, h2⟩
        obtain ⟨_, _, h3⟩ := hsub i x j y m hx hy hn
        refine ⟨q, n, o, s, cp, mm, ?_, h2⟩
        have := nodeAt_append (q := q) h3
        rw [h1] at this
        simpa using this
      refine ⟨some ⟨b, oo + off * sz, none⟩, cap - off, (List.range (len * sz)).map fun j => vals.getD (oo + off * sz + j) undef, rfl, hlen, fun _ => ⟨_, rfl, ?_⟩, ⟨?_, by rw [hlen]; simp, ?_, ?_, ?_⟩,
        .inr ⟨b, oo, cap, vals, g1, rfl, rfl, g5, g6, hl, g7, g3, hB b ⟨p, _, _, _, _, _, hp, g1⟩, fun t ht => (hget t ht).symm, ?_⟩⟩
      · intro j v hj
        rw [add_plain]
        have hlt : j < len * sz := by
          have := (List.getElem?_eq_some_iff.1 hj).1
          simpa using this
        rw [hget j hlt] at hj
        rw [cell_of g5 (by omega)]
        rw [Array.getElem?_eq_getElem (show oo + off * sz + j < vals.size by omega)] at hj
        simp [Array.getD_eq_getD_getElem?, Array.getElem?_eq_getElem (show oo + off * sz + j < vals.size by omega)]
        injection hj
      · exact fun x hx => g9 x (List.drop_subset _ _ (List.take_subset _ _ hx))
      · intro v hv
        obtain ⟨j, hj, rfl⟩ := List.mem_map.1 hv
        have hj : j < len * sz := by simpa using hj
        have hle2 : (off + len) * sz ≤ xs.length * sz := Nat.mul_le_mul_right _ (by omega)
        rw [Nat.add_mul] at hle2
        have := g11 (off * sz + j) (by omega)
        rwa [← Nat.add_assoc] at this
      · intro i x j y v hx hy hv
        have hi : i < len := by
          have := (List.getElem?_eq_some_iff.1 hx).1
          rw [hlen] at this; exact this
        have hj : j < sz := by rw [← g9 x (List.drop_subset _ _ (List.take_subset _ _ (List.mem_of_getElem? hx)))]; exact (List.getElem?_eq_some_iff.1 hy).1
        have hlt := flat_idx (L := 0) hi hj
        rw [hget _ hlt] at hv
        have hx' := hx
        simp [hi] at hx'
        have e : oo + (off + i) * sz + j = oo + off * sz + (i * sz + j) := by rw [Nat.add_mul]; omega
        have hc := g10 (off + i) x j y v hx' hy (by rw [e]; exact hv)
        cases hyn : y.nd? with
        | none => exact .inl ⟨rfl, by cases y <;> first | exact hc | exact nomatch hyn⟩
        | some m =>
          obtain ⟨_, _, h3⟩ := hsub i x j y m hx hy hyn
          have hTs : TreeOk F w (fun q => (own k).cur ep (p ++ (off + i, j) :: q)) m := (hT.sub h3).move (fun q => by simp) (fun _ _ => rfl) fun _ _ h => h
          have e := nd_of hyn
          subst e
          refine .inr ?_
          have hbs : ∀ b', Bk (fun q => (own k).cur ep (p ++ (off + i, j) :: q)) m b' → ∃ k', k' ∈ [k] ∧ (own k').bl b' := by
            intro b' hb'
            obtain ⟨q, n, o, s, cp, mm, w1, w2⟩ := hbk i x j _ m b' hx hy (nd_toT m) hb'
            exact ⟨k, by simp, hB b' ⟨_, _, _, _, _, _, w1, w2⟩⟩
          cases m with
          | row E2 s2 x2 =>
            obtain ⟨Lo, q1, q2⟩ := hc
            exact ⟨_, Lo, rfl, hTs, q1, q2, hbs⟩
          | map k2 e2 =>
            obtain ⟨Lo, q1, q2⟩ := hc
            exact ⟨_, Lo, rfl, hTs, q1, q2, hbs⟩
      · intro i j i' j' x x' y y' m m' b' hx hy hn hx' hy' hn' hb1 hb2
        obtain ⟨q, n, o, s, cp, mm, w1, w2⟩ := hbk i x j y m b' hx hy hn hb1
        obtain ⟨q', n', o', s', cp', mm', w3, w4⟩ := hbk i' x' j' y' m' b' hx' hy' hn' hb2
        have := hT.2 _ _ _ _ b' _ _ _ _ _ _ _ _ w1 w3 w2 w4
        have := List.append_cancel_left this
        injection this with this _
        injection this with e1 e2
        exact ⟨by omega, e2⟩
      · intro i x j y m hx hy hn hb1
        obtain ⟨q, n, o, s, cp, mm, w1, w2⟩ := hbk i x j y m b hx hy hn hb1
        have := hT.2 _ _ _ _ b _ _ _ _ _ _ _ _ hp w1 g1 w2
        have := congrArg List.length this
        simp at this
theorem srcK_out (r : Rel own F w σ) {y : SV} {vy : Value} {esz : Nat} {K : List T → List Nat → Prop} (hy : VS own F w y vy) (h : srcK esz y σ K) :
    ∃ (ys : List T) (L : List Nat) (ad : Option Addr) (c : Nat) (news : List Value) (A : Nat → Nat → Path → Option Loc), K ys L ∧ vy = .slice ad ys.length c ∧ (news ≠ [] → ∃ p, ad = some p ∧ ∀ j v, news[j]? = some v → w.cell? (p.add j) = some v) ∧ Sup own F w L esz A ys news := by
  unfold srcK at h
  split at h
  · rename_i sz ys
    obtain ⟨hb, h1, h2⟩ := bif_elim0 h
    have h1 := h1.out
    have := Nat.eq_of_beq_eq_true hb
    subst this
    cases hy with
    | t _ _ hv =>
      cases hv with
      | sl0 _ ad c => exact ⟨[], [], ad, c, [], fun _ _ _ => none, h2, rfl, fun h => absurd rfl h, Sup.nil⟩
      | sl _ _ b off c vals hp hc hn hF hz hcell h1c hh =>
        refine ⟨ys, [], some ⟨b, off, none⟩, c, (List.range (ys.length * sz)).map vals, fun _ _ _ => none, h2, rfl, fun _ => ⟨_, rfl, ?_⟩, ⟨hz, by simp, ?_, ?_, ?_⟩⟩
        · intro j v hj
          rw [add_plain]
          have hlt : j < ys.length * sz := by
            have := (List.getElem?_eq_some_iff.1 hj).1
            simpa using this
          simp [hlt] at hj
          subst hj
          exact hcell j hlt
        · intro v hv
          obtain ⟨j, hj, rfl⟩ := List.mem_map.1 hv
          exact h1c j (by simpa using hj)
        · intro i x j c v hx hc hv
          have hlt : i * sz + j < ys.length * sz := by
            have := (List.getElem?_eq_some_iff.1 hv).1
            simpa using this
          simp [hlt] at hv
          subst hv
          exact .inl ⟨noNst_nd.1 (h1 x (List.mem_of_getElem? hx) c (List.mem_of_getElem? hc)), hh i x j c hx hc⟩
        · intro i j i' j' x x' y y' m m' b hx hy hn
          rw [noNst_nd.1 (h1 x (List.mem_of_getElem? hx) y (List.mem_of_getElem? hy))] at hn
          exact nomatch hn
  · cases hy with
    | t _ _ hv => cases hv; exact ⟨[], [], none, 0, [], fun _ _ _ => none, h, rfl, fun h => absurd rfl h, Sup.nil⟩
  · cases hy with
    | t _ _ hv =>
      cases hv with
      | esl ad => exact ⟨[], [], ad, 0, [], fun _ _ _ => none, h, rfl, fun h => absurd rfl h, Sup.nil⟩
  · rename_i k e p off len
    split at h
    · rename_i ep nd hk
      obtain ⟨h1, h2⟩ := h
      have h1 := h1.out
      obtain ⟨n, hp, h3⟩ := nodeK_out h2
      cases n with
      | map => exact h3.elim
      | row E sz xs =>
        obtain ⟨hb, h3'⟩ := bif_elim0 h3
        clear h3
        have := Nat.eq_of_beq_eq_true hb
        subst this
        have h3 := h3'.out
        obtain ⟨ad, c, news, g1, g2, g3, g4, _⟩ := own_part r hk hp h1 hy
        have hne : news ≠ [] → len ≠ 0 := fun hne h0 => by
          have := g4.hl
          rw [g2, h0, Nat.zero_mul] at this
          exact hne (List.eq_nil_of_length_eq_zero this)
        rcases h3 with ⟨h4, h5⟩ | h4
        · exact ⟨_, [], ad, c, news, fun _ _ _ => none, h5, by rw [g2]; exact g1, fun h => g3 (hne h), g4.flat h4.out⟩
        · split at h4
          · exact ⟨_, [k], ad, c, news, _, h4, by rw [g2]; exact g1, fun h => g3 (hne h), g4⟩
          · exact h4.elim
    · exact h.elim
  · exact h.elim
theorem run_firstCells (w : World) (esz n : Nat) (ad : Option Addr) (l c : Nat) (news : List Value) (hl : news.length = n * esz) (h : news ≠ [] → ∃ p, ad = some p ∧ ∀ j v, news[j]? = some v → w.cell? (p.add j) = some v) :
    (Builtin.firstCells esz n (.slice ad l c)).run P w = .ok news.toArray w := by
  cases hn : news with
  | nil =>
    rw [hn] at hl
    have h0 : n * esz = 0 := hl.symm
    cases ad with
    | none => simp [Builtin.firstCells]
    | some p =>
      simp [Builtin.firstCells, h0, loadCells, loadCellsFrom]
  | cons v vs =>
    obtain ⟨p, hp, hc⟩ := h (by rw [hn]; simp)
    subst hp
    rw [← hn]
    exact run_firstCells_some w esz n p l c news hl hc
theorem run_append_grow' (ht : TabOk P tt) {t u ty E E' : TypeId} (htt : (tt.at t).ti = .slice E) (htu : (tt.at u).ti = .slice E') (hg : (tt.at E).ti.good = true) (w : World) (base : Option Addr) (sLen sCap : Nat) (olds : List Value) (hlo : olds.length = sLen * (tt.at E).size)
    (ho : olds ≠ [] → ∃ p, base = some p ∧ ∀ j v, olds[j]? = some v → w.cell? (p.add j) = some v) (ad : Option Addr) (n c : Nat) (news : List Value) (hln : news.length = n * (tt.at E).size)
    (hn : news ≠ [] → ∃ p, ad = some p ∧ ∀ j v, news[j]? = some v → w.cell? (p.add j) = some v) (hgr : sCap < sLen + n) (h48 : sLen + n ≤ 2 ^ 48) (hb : (sLen + n) * (tt.at E).bytes ≤ 2 ^ 47) :
    ∃ (cap : Nat) (rest : List Value), sLen + n ≤ cap ∧ (olds ++ news ++ rest).length = cap * (tt.at E).size ∧ (Builtin.append_ #[t, u] ty #[.slice base sLen sCap, .slice ad n c]).run P w =
      .ok (.slice (some ⟨w.heap.size, 0, none⟩) (sLen + n) cap) (w.drew.alloc (.cells (olds ++ news ++ rest).toArray E)) := by
  have hu := und_slice (ht.at t (by rw [htt]; rfl)) htt
  have huu := und_slice (ht.at u (by rw [htu]; rfl)) htu
  obtain ⟨i, hi, hs, hby, hz0, z, hz, hzs, _⟩ := (ht.at E hg).info
  have fo := run_firstCells (P := P) w.drew (tt.at E).size sLen base sLen sCap olds hlo ho
  have fn := run_firstCells (P := P) w.drew (tt.at E).size n ad n c news hln hn
  rw [← hs] at fo fn
  have hfit := growslice_fits hgr (bytes := i.bytes) (by rw [hby]; omega)
  have h1 : ¬ (sLen + n ≤ sCap) := by omega
  have h63 : ¬ (((sLen + n : Nat) : Int) > IntKind.i64.max) := by
    have : IntKind.i64.max = 9223372036854775807 := by decide
    omega
  have hf2 : ¬ (Builtin.nextslicecap (sLen + n) sCap * i.bytes > 2 ^ 48) := by omega
  refine ⟨grownCap w (sLen + n) sCap E, (Builtin.zeroCells z.cells (grownCap w (sLen + n) sCap E - (sLen + n))).toList, ?_, ?_, ?_⟩
  · unfold grownCap
    simp only [Question.cut]
    omega
  · have hcap : sLen + n ≤ grownCap w (sLen + n) sCap E := by unfold grownCap; simp only [Question.cut]; omega
    simp only [List.length_append, hlo, hln, Array.length_toList, Builtin.zeroCells, Array.size_map, Array.size_range, hzs]
    rw [← Nat.add_mul, ← Nat.add_mul]
    congr 1
    omega
  · have e : (olds ++ news ++ (Builtin.zeroCells z.cells (grownCap w (sLen + n) sCap E - (sLen + n))).toList).toArray = olds.toArray ++ news.toArray ++ Builtin.zeroCells z.cells (grownCap w (sLen + n) sCap E - (sLen + n)) := by
      apply Array.ext'; simp
    rw [e]
    unfold Builtin.append_
    simp only [List.getElem?_toArray, List.getElem?_cons_zero, List.getElem?_cons_succ, Sem.run_bind, run_underlying hu, Result.andThen_ok, run_underlying huu, Sem.run_pure, sizeOf, typeInfo, run_program, hi, Builtin.lenOf, h1, if_false, Bool.false_eq_true, false_or]
    have a1 : ¬ (9223372036854775807 < (sLen : Int) + (n : Int)) := by omega
    have a2 : ¬ (281474976710656 < Builtin.nextslicecap (sLen + n) sCap * i.bytes) := by omega
    simp [run_underlying hu, run_underlying huu, sizeOf, typeInfo, zeroValue, hi, hz, Builtin.lenOf, h1, a1, a2, Question.forced, fo, fn, newRow, grownCap]
    congr 2
    apply Array.ext'
    simp
theorem run_append_fit' (ht : TabOk P tt) {t u ty E E' : TypeId} (htt : (tt.at t).ti = .slice E) (htu : (tt.at u).ti = .slice E') (hg : (tt.at E).ti.good = true) (w : World) (base : Option Addr) (sLen sCap : Nat) (ad : Option Addr) (n c : Nat) (news : List Value) (hln : news.length = n * (tt.at E).size)
    (hn : news ≠ [] → ∃ p, ad = some p ∧ ∀ j v, news[j]? = some v → w.cell? (p.add j) = some v) (hfit : sLen + n ≤ sCap) :
    (Builtin.append_ #[t, u] ty #[.slice base sLen sCap, .slice ad n c]).run P w =
      ((match base with | some p => storeCells (p.add (sLen * (tt.at E).size)) news | none => pure ()) >>= fun _ => (pure (.slice base (sLen + n) sCap) : Sem Value)).run P w := by
  have hu := und_slice (ht.at t (by rw [htt]; rfl)) htt
  have huu := und_slice (ht.at u (by rw [htu]; rfl)) htu
  obtain ⟨i, hi, hs, hby, hz0, z, hz, hzs, _⟩ := (ht.at E hg).info
  have fn := run_firstCells (P := P) w (tt.at E).size n ad n c news hln hn
  rw [← hs] at fn ⊢
  unfold Builtin.append_
  cases base <;> simp [run_underlying hu, run_underlying huu, sizeOf, typeInfo, hi, Builtin.lenOf, hfit, fn]
theorem setRow_self (w : World) (b : Nat) (vals : Array Value) (E : TypeId) (fr : Nat × Nat) (h : w.heap[b]? = some (.cells vals E fr)) : w.setRow b vals = w := by
  have hh : (w.setRow b vals).heap = w.heap := by
    apply Array.ext_getElem?
    intro i
    by_cases hi : i = b
    · subst hi; rw [h]; exact setRow_heap w i vals vals E fr h
    · exact heap_setRow_other w b vals i hi
  have : w.setRow b vals = { w with heap := (w.setRow b vals).heap } := rfl
  rw [this, hh]
theorem kills_app : ∀ (L M : List Nat) (σ : Sto), kills (L ++ M) σ = kills M (kills L σ)
  | [], M, σ => rfl
  | k :: L, M, σ => kills_app L M _
theorem op_append (ht : TabOk P tt) (hn : Next P o a own F w σ K next) (r : Rel own F w σ) {t u E E' : TypeId} {x y : Operand} (ho : o.op = .call { callee := .builtin .append, args := #[x, y], argTypes := #[t, u] }) (htt : (tt.at t).ti = .slice E) (htu : (tt.at u).ti = .slice E')
    {sx sy : SV} (hx : VS own F w sx (a.eval x)) (hy : VS own F w sy (a.eval y)) (hs : appendOp tt E sx sy σ K) : o.wp P a w next Q := by
  unfold appendOp at hs
  simp only at hs
  obtain ⟨hgs, hs⟩ := bif_elim0 hs
  simp only [Bool.and_eq_true] at hgs
  obtain ⟨hg, hpos⟩ := hgs
  have hpos : 0 < (tt.at E).size := by simpa [Nat.blt_eq] using hpos
  obtain ⟨sx', σ1, own1, hs, r1, e1, l1, hx1⟩ := tak1_sound r hx hs
  obtain ⟨ys, L, ad, c, news, A, hs, hvy, hread, hsup⟩ := srcK_out r1 (hy.ext r e1) hs
  have hln := hsup.hl
  have run : ∀ (base : Option Addr) (l cp : Nat) (v : Value) (w' : World), a.eval x = .slice base l cp → (Builtin.append_ #[t, u] o.type #[.slice base l cp, .slice ad ys.length c]).run P w = .ok v w' → (execOp a.eval o).run P w = .ok (.value v) w' := by
    intro base l cp v w' hvx hr
    unfold execOp
    simp only [ho, resolve, Sem.run_bind, Sem.run_pure, Result.andThen_ok, invoke, builtin]
    have e : #[x, y].map a.eval = #[.slice base l cp, .slice ad ys.length c] := by simp [hvx, hvy]
    rw [e, hr]; rfl
  have empty : ∀ (base : Option Addr) (M : List Nat), a.eval x = .slice base 0 0 → ys.length * (tt.at E).bytes ≤ 2 ^ 47 → ys.length ≤ 2 ^ 48 →
      K (.osl σ1.length 0 ys.length) (kills (L ++ M) σ1 ++ [.row E (tt.at E).size ys]) → o.wp P a w next Q := by
    intro base M hvx hb h48 hk
    cases hys : ys with
    | nil =>
      subst hys
      have hr := run_append_fit' ht htt htu hg (ty := o.type) w base 0 0 ad 0 c news hln hread (by omega)
      have hnil : news = [] := by simpa using hln
      subst hnil
      have hr' : (Builtin.append_ #[t, u] o.type #[.slice base 0 0, .slice ad ([] : List T).length c]).run P w = .ok (.slice base 0 0) w := by
        show (Builtin.append_ #[t, u] o.type #[.slice base 0 0, .slice ad 0 c]).run P w = _
        rw [hr]
        cases base <;> simp [storeCells]
      obtain ⟨own', r', e', ha⟩ := r1.gather0 (L ++ M) E (tt.at E).size base
      exact wp_value (run base 0 0 _ w hvx hr') (hn _ _ _ _ _ _ hk (e1.trans (e'.mono l1)) r' (by simp [kills_len]; omega) (.refE _ _ _ base ha))
    | cons z zs =>
      have hlen : 0 < ys.length := by rw [hys]; simp
      obtain ⟨cap, rest, g1, g2, g3⟩ := run_append_grow' ht htt htu hg (ty := o.type) w base 0 0 [] (by simp) (fun h => absurd rfl h) ad ys.length c news hln hread (by omega) (by omega) (by simpa using hb)
      simp only [Nat.zero_add, List.nil_append] at g1 g2 g3
      have hsup' : Sup own1 F w (L ++ M) (tt.at E).size A ys news := ⟨hsup.hc, hsup.hl, hsup.one, fun i x j y v q1 q2 q3 => by
        rcases hsup.cell i x j y v q1 q2 q3 with h | ⟨m, Lo, h1, h2, h3, h4, h5⟩
        · exact .inl h
        · exact .inr ⟨m, Lo, h1, h2, h3, h4, fun b hb => by obtain ⟨k, z1, z2⟩ := h5 b hb; exact ⟨k, by simp [z1], z2⟩⟩, hsup.dis⟩
      obtain ⟨own', r', e', ha⟩ := r1.gather hsup' (E := E) (b := w.heap.size) (oo := 0) (cap := cap) (arr := (news ++ rest).toArray) hpos (by omega) g1 h48 (w' := w.drew.alloc (.cells (news ++ rest).toArray E)) rfl rfl rfl (by simp) (fun i hi _ => Below.heap_alloc w.drew _ i hi) (.inl (Nat.le_refl _)) (heap_alloc_new w.drew _)
        (by simpa using Nat.le_of_eq g2.symm) (fun t ht => by rw [Nat.zero_add, List.getElem?_toArray, List.getElem?_append_left ht])
      refine wp_value (run base 0 0 _ _ hvx g3) (hn _ _ _ _ _ _ hk (e1.trans (e'.mono l1)) r' (by simp [kills_len]; omega) ?_)
      have := VS.ref (F := F) (w := w.drew.alloc (.cells (news ++ rest).toArray E)) σ1.length 0 [] 0 ys.length _ _ _ _ _ ha (by omega) g1 h48
      simpa using this
  split at hs
  · obtain ⟨h1, h2, h3⟩ := hs
    rw [forceSto_iff] at h3
    generalize hmx : a.eval x = mx at hx1
    cases hx1 with
    | t _ _ hv => cases hv; exact empty none [] hmx h1.out h2.out (by simpa using h3)
  · obtain ⟨h1, h2, h3⟩ := hs
    rw [forceSto_iff] at h3
    generalize hmx : a.eval x = mx at hx1
    cases hx1 with
    | t _ _ hv =>
      cases hv with
      | esl ad0 => exact empty ad0 [] hmx h1.out h2.out (by simpa using h3)
  · rename_i k ee off len _
    split at hs
    · rename_i ep E1 sz ts hk
      cases hkL : L.contains k || !Nat.beq ee 0 with
      | true => rw [hkL] at hs; exact hs.elim
      | false =>
        rw [hkL, cond_false] at hs
        obtain ⟨h1, h3, h4, h5⟩ := hs
        have h5 := h5.out
        rw [forceSto_iff] at h5
        obtain ⟨h1a, h1b⟩ := h1.out
        have h3 := h3.out
        have h4 := h4.out
        subst h1a h1b
        simp only [Bool.or_eq_false_iff, Bool.not_eq_false'] at hkL
        have hee0 := Nat.eq_of_beq_eq_true hkL.2
        have hkL : k ∉ L := by simpa using hkL.1
        obtain ⟨hT, hB, hep, hfr⟩ := nd_obj r1 hk
        have hee : ee = ep ([] : Path).length := hee0.trans hep.symm
        obtain ⟨bad, bc, olds, q1, q2, q3, q4, q5⟩ := own_part r1 hk nodeAt_nil hee hx1
        have hmv := q1
        have hkl : k < σ1.length := by rw [nth_eq] at hk; exact Rel.lt_obj hk
        have hset : (kills L σ1).set k .dead = kills (L ++ [k]) σ1 := by rw [kills_app]; rfl
        rw [hset] at h5
        rcases q5 with ⟨rfl, rfl⟩ | ⟨b, oo, cap, vals, w1, w2, w3, w4, w5, w6, w7, w8, w9, w10, w11⟩
        · simp only [List.take_zero, List.nil_append, Nat.zero_add] at h3 h4 h5
          exact empty bad [k] hmv h3 h4 h5
        · have hol : olds.length = len * (tt.at E1).size := by rw [q4.hl, q2]
          have hor : olds ≠ [] → ∃ q, bad = some q ∧ ∀ j v, olds[j]? = some v → w.cell? (q.add j) = some v := fun hne => q3 fun h0 => hne (List.eq_nil_of_length_eq_zero (by rw [hol, h0, Nat.zero_mul]))
          have hsup2 := (Sup.append r1 q4 hsup (fun j hj => by simp at hj; subst hj; exact hkL))
          have hsup3 : Sup own1 F w (L ++ [k]) (tt.at E1).size _ ((ts.drop off).take len ++ ys) (olds ++ news) := ⟨hsup2.hc, hsup2.hl, hsup2.one, fun i x j y v g1 g2 g3 => by
            rcases hsup2.cell i x j y v g1 g2 g3 with h | ⟨m, Lo, z1, z2, z3, z4, z5⟩
            · exact .inl h
            · exact .inr ⟨m, Lo, z1, z2, z3, z4, fun b hb => by obtain ⟨k', y1, y2⟩ := z5 b hb; exact ⟨k', by simp at y1 ⊢; rcases y1 with h | h; exact .inr h; exact .inl h, y2⟩⟩, hsup2.dis⟩
          have hlen2 : ((ts.drop off).take len ++ ys).length = len + ys.length := by rw [List.length_append, q2]
          have hbk : ∀ (i : Nat) (x : T) (j : Nat) (y : T) (m : Nd), ((ts.drop off).take len ++ ys)[i]? = some x → x.cells[j]? = some y → y.nd? = some m → ¬ Bk ((fun i j => if i < ((ts.drop off).take len).length then (fun i j q => (own1 k).cur ep ([] ++ (off + i, j) :: q)) i j else A (i - ((ts.drop off).take len).length) j) i j) m b := by
            intro i x j y m g1 g2 g3 g4
            rcases Nat.lt_or_ge i ((ts.drop off).take len).length with hi | hi
            · rw [List.getElem?_append_left hi] at g1
              simp only [if_pos hi] at g4
              exact w11 i x j y m g1 g2 g3 g4
            · rw [List.getElem?_append_right hi] at g1
              simp only [if_neg (show ¬ i < ((ts.drop off).take len).length by omega)] at g4
              have hj : j < (tt.at E1).size := by rw [← hsup.hc x (List.mem_of_getElem? g1)]; exact (List.getElem?_eq_some_iff.1 g2).1
              have hlt := flat_idx (L := 0) (List.getElem?_eq_some_iff.1 g1).1 hj
              rw [← hsup.hl] at hlt
              rcases hsup.cell _ x j y _ g1 g2 (List.getElem?_eq_getElem hlt) with ⟨h, _⟩ | ⟨m', Lo, z1, _, _, _, z5⟩
              · rw [g3] at h; exact nomatch h
              · rw [g3] at z1; injection z1 with z1; subst z1
                obtain ⟨k', y1, y2⟩ := z5 b g4
                have := r1.inj k' k b y2 w9
                exact hkL (this ▸ y1)
          by_cases hfit : len + ys.length ≤ bc
          · have hr := run_append_fit' ht htt htu hg (ty := o.type) w bad len bc ad ys.length c news hln hread hfit
            rw [w2] at hr
            have hbnd : (off + (len + ys.length)) * (tt.at E1).size ≤ cap * (tt.at E1).size := Nat.mul_le_mul_right _ (by omega)
            rw [Nat.add_mul, Nat.add_mul] at hbnd
            have hst := run_storeCells_at P b (oo + off * (tt.at E1).size + len * (tt.at E1).size) E1 news 0 vals w w4 (by simp; omega) hsup.one
            simp only [Nat.add_zero] at hst
            simp only [add_plain, Sem.run_bind, hst, Result.andThen_ok, Sem.run_pure] at hr
            rw [← w2] at hr
            have hcapm : (cap - off) * (tt.at E1).size = cap * (tt.at E1).size - off * (tt.at E1).size := Nat.sub_mul _ _ _
            by_cases hz : cap - off = 0
            · have hl0 : len = 0 := by omega
              have hy0 : ys = [] := List.eq_nil_of_length_eq_zero (by omega)
              subst hl0 hy0
              have hn0 : news = [] := List.eq_nil_of_length_eq_zero (by simpa using hln)
              subst hn0
              have hw : w.setRow b (vals.toList.take (oo + off * (tt.at E1).size + 0 * (tt.at E1).size) ++ [] ++ vals.toList.drop (oo + off * (tt.at E1).size + 0 * (tt.at E1).size + ([] : List Value).length)).toArray = w := by
                simp only [Nat.zero_mul, Nat.add_zero, List.length_nil, List.append_nil, List.take_append_drop, Array.toArray_toList]
                exact setRow_self w b vals _ _ w4
              rw [hw] at hr
              simp only [List.take_zero, List.nil_append, Nat.zero_add, List.length_nil, Nat.add_zero] at h5 hr
              obtain ⟨own', r', e', ha⟩ := r1.gather0 (L ++ [k]) E1 (tt.at E1).size bad
              refine wp_value (run _ _ _ _ _ hmv hr) (hn _ _ _ _ _ _ h5 (e1.trans (e'.mono l1)) r' (by simp [kills_len]; omega) ?_)
              rw [w3, hz]
              exact .refE _ _ _ bad ha
            · obtain ⟨own', r', e', ha⟩ := r1.gather hsup3 (E := E1) (b := b) (oo := oo + off * (tt.at E1).size) (cap := cap - off) (arr := (vals.toList.take (oo + off * (tt.at E1).size + len * (tt.at E1).size) ++ news ++ vals.toList.drop (oo + off * (tt.at E1).size + len * (tt.at E1).size + news.length)).toArray) hpos (by omega) (by rw [hlen2]; omega) (by rw [hlen2]; exact h4)
                (w' := w.setRow b (vals.toList.take (oo + off * (tt.at E1).size + len * (tt.at E1).size) ++ news ++ vals.toList.drop (oo + off * (tt.at E1).size + len * (tt.at E1).size + news.length)).toArray) rfl rfl rfl (by simp) (fun x _ hx => heap_setRow_other w b _ x hx) (.inr ⟨⟨k, by simp, w9⟩, hbk⟩) (setRow_heap w b vals _ E1 (0, 0) w4) (by simp; omega) (fun t ht => by
                  have htn : t < len * (tt.at E1).size + news.length := by simpa [hol] using ht
                  rw [List.getElem?_toArray, splice_get _ _ _ _ (by simp; omega)]
                  by_cases hto : t < olds.length
                  · rw [if_neg (by omega), List.getElem?_append_left hto]
                    rw [Array.getElem?_toList]
                    exact w10 t (by omega)
                  · rw [if_pos (by omega), List.getElem?_append_right (by omega)]
                    congr 1; omega)
              refine wp_value (run _ _ _ _ _ hmv hr) (hn _ _ _ _ _ _ h5 (e1.trans (e'.mono l1)) r' (by simp [kills_len]; omega) ?_)
              have := VS.ref (own := own') (F := F) (w := w.setRow b (vals.toList.take (oo + off * (tt.at E1).size + len * (tt.at E1).size) ++ news ++ vals.toList.drop (oo + off * (tt.at E1).size + len * (tt.at E1).size + news.length)).toArray) σ1.length 0 [] 0 (len + ys.length) _ _ _ _ _ ha (by rw [hlen2]; omega) (by rw [hlen2]; omega) h4
              rw [w2, w3]
              simpa using this
          · obtain ⟨ncap, rest, g1, g2, g3⟩ := run_append_grow' ht htt htu hg (ty := o.type) w bad len bc olds hol hor ad ys.length c news hln hread (by omega) h4 h3
            obtain ⟨own', r', e', ha⟩ := r1.gather hsup3 (E := E1) (b := w.heap.size) (oo := 0) (cap := ncap) (arr := (olds ++ news ++ rest).toArray) hpos (by omega) (by rw [hlen2]; exact g1) (by rw [hlen2]; exact h4) (w' := w.drew.alloc (.cells (olds ++ news ++ rest).toArray E1)) rfl rfl rfl (by simp) (fun i hi _ => Below.heap_alloc w.drew _ i hi) (.inl (Nat.le_refl _)) (heap_alloc_new w.drew _)
              (by simpa using Nat.le_of_eq g2.symm) (fun t ht => by rw [Nat.zero_add, List.getElem?_toArray, List.getElem?_append_left ht])
            refine wp_value (run _ _ _ _ _ hmv g3) (hn _ _ _ _ _ _ h5 (e1.trans (e'.mono l1)) r' (by simp [kills_len]; omega) ?_)
            have := VS.ref (own := own') (F := F) (w := w.drew.alloc (.cells (olds ++ news ++ rest).toArray E1)) σ1.length 0 [] 0 (len + ys.length) _ _ _ _ _ ha (by rw [hlen2]; omega) (by rw [hlen2]; exact g1) h4
            simpa using this
    · exact hs.elim
  · exact hs.elim
end
end Go.Proofs.Ytgladinljapmkaa.Am

/- Slices built out of their elements, made, cut; strings. -/
namespace Go.Proofs.Ytgladinljapmkaa.Am
open Go.RowKit
set_option linter.unusedVariables false
set_option linter.unusedSimpArgs false
section
variable {P : Program} {tt : Tab} {own : Nat → Own} {F : Nat → Prop} {w : World} {σ : Sto} {env : Env} {a : Act} {N : Nat} {o : Oper}
variable {K : SV → Sto → Prop} {next : Act → World → Prop} {Q : Exit → Act → World → Prop}
theorem fold_set (off : Nat) : ∀ (l : List Value) (n : Nat) (vs : Array Value), off + n + l.length ≤ vs.size → ((l.zipIdx n).foldl (fun cs (c, j) => cs.setIfInBounds (off + j) c) vs).toList = vs.toList.take (off + n) ++ l ++ vs.toList.drop (off + n + l.length) := by
  intro l
  induction l with
  | nil => intro n vs _; simp
  | cons u l ih =>
    intro n vs hle
    simp only [List.zipIdx_cons, List.foldl_cons]
    rw [ih (n + 1) _ (by simp at hle ⊢; omega)]
    simp only [List.length_cons] at hle
    apply List.ext_getElem?
    intro j
    rw [splice_get _ l (off + (n + 1)) j (by simp; omega), show off + n + (u :: l).length = off + n + (u :: l).length from rfl, splice_get _ (u :: l) (off + n) j (by simp; omega)]
    simp only [Array.toList_setIfInBounds, List.getElem?_set, List.length_cons]
    by_cases ha : off + (n + 1) ≤ j ∧ j < off + (n + 1) + l.length
    · rw [if_pos ha, if_pos (by omega)]
      rw [show j - (off + n) = (j - (off + (n + 1))) + 1 by omega]
      simp
    · rw [if_neg ha]
      by_cases hb : off + n = j
      · subst hb
        rw [if_pos rfl, if_pos (by simp; omega), if_pos (by omega)]
        simp
      · rw [if_neg hb]
        rw [if_neg (by omega)]
theorem fill_seq {sz : Nat} : ∀ (l : List Value) (k : Nat) (cs : Array Value), cs.size = (k + l.length) * sz → (∀ v ∈ l, v.cells.size = sz) →
    ∃ vs', Instr.fill (fun i => some (i * sz, sz)) cs ((l.zipIdx k).map fun p => (p.2, p.1)) = some vs' ∧ vs'.toList = cs.toList.take (k * sz) ++ l.flatMap fun v => v.cells.toList
  | [], k, cs, hs, _ => ⟨cs, rfl, by simp at hs; simp; rw [List.take_of_length_le (by simp [hs])]⟩
  | v :: l, k, cs, hs, hv => by
    have hv0 := hv v (by simp)
    have hk : (k + 1) * sz ≤ cs.size := by rw [hs]; exact Nat.mul_le_mul_right _ (by simp)
    rw [Nat.add_mul, Nat.one_mul] at hk
    have hf := fold_set (k * sz) v.cells.toList 0 cs (by simp; omega)
    simp only [Nat.add_zero] at hf
    have hvs1 : ∃ vs1 : Array Value, (v.cells.zipIdx.foldl (fun cs (c, j) => cs.setIfInBounds (k * sz + j) c) cs) = vs1 ∧ vs1.toList = cs.toList.take (k * sz) ++ v.cells.toList ++ cs.toList.drop (k * sz + v.cells.toList.length) := by
      refine ⟨_, rfl, ?_⟩
      rw [← hf]
      rw [← Array.foldl_toList, Array.toList_zipIdx]
    obtain ⟨vs1, he1, hl1⟩ := hvs1
    have hsz1 : vs1.size = cs.size := by rw [← Array.length_toList, hl1]; simp; omega
    obtain ⟨vs', h1, h2⟩ := fill_seq l (k + 1) vs1 (by rw [hsz1, hs]; simp; congr 1; omega) fun u hu => hv u (by simp [hu])
    refine ⟨vs', ?_, ?_⟩
    · simp only [List.zipIdx_cons, List.map_cons, Instr.fill]
      rw [if_neg (by simp; omega)]
      rw [show v.cells.zipIdx.foldl (fun cs x => cs.setIfInBounds (k * sz + x.snd) x.fst) cs = vs1 from he1]
      exact h1
    · rw [h2, hl1]
      have e : (k + 1) * sz = k * sz + v.cells.toList.length := by rw [Nat.add_mul, Nat.one_mul]; simp [hv0]
      have hm : min (k * sz) cs.size = k * sz := Nat.min_eq_left (by omega)
      rw [e, List.take_append_of_le_length (by simp [hm]), List.take_of_length_le (by simp [hm])]
      simp
theorem idxOk_zip {α : Type} : ∀ (l : List (Nat × α)) (k n : Nat), idxOk k l n = true → k + l.length = n ∧ ∀ {β : Type} (g : α → β), l.map (fun p => (p.1, g p.2)) = ((l.map fun p => g p.2).zipIdx k).map fun p => (p.2, p.1)
  | [], k, n, h => by simp [idxOk] at h; exact ⟨h, fun _ => rfl⟩
  | p :: l, k, n, h => by
    simp only [idxOk, Bool.and_eq_true] at h
    obtain ⟨h1, h2⟩ := h
    have h1 := Nat.eq_of_beq_eq_true h1
    obtain ⟨h3, h4⟩ := idxOk_zip l (k + 1) n h2
    refine ⟨by simp; omega, fun g => ?_⟩
    simp only [List.map_cons, List.zipIdx_cons, h4 g, h1]
theorem op_buildSlice0 (ht : TabOk P tt) (hn : Next P o a own F w σ K next) (r : Rel own F w σ) {t : TypeId} {parts : Array (Nat × Operand)} {E : TypeId} (ho : o.op = .buildSlice t 0 parts) (hti : (tt.at t).ti = .slice E)
    (hg : (tt.at E).ti.good = true) (hp : parts.toList.isEmpty = true) (hs : K (.t .esl) σ) : o.wp P a w next Q := by
  have hTt := ht.at t (by rw [hti]; rfl)
  have hT := ht.at E hg
  have hpe : parts = #[] := by simpa using hp
  subst hpe
  have g := r.grow (w' := w.alloc (.cells #[] E)) rfl rfl rfl (by simp) (fun i hi => Below.heap_alloc w _ i hi)
  refine wp_value (w' := w.alloc (.cells #[] E)) (mv := .slice (some ⟨w.heap.size, 0, none⟩) 0 0) ?_ (hn _ _ _ _ _ _ hs g.2 g.1 (Nat.le_refl _) (.t _ _ (.esl _)))
  unfold execOp
  simp only [ho, Instr.buildSlice, Sem.run_bind, run_underlying (und_slice hTt hti), Result.andThen_ok, run_size hT w]
  simp [newRow, Instr.fill, show Array.range 0 = #[] from rfl]
theorem mkEl_cells {sz : Nat} {l : List T} (h : l.length = sz) (hpos : 0 < sz) (h1 : ∀ y ∈ l, y.cells = [y]) : (mkEl sz l).cells = l := by
  unfold mkEl
  cases hb : Nat.beq sz 1 with
  | true =>
    have hb := Nat.eq_of_beq_eq_true hb
    rw [hb] at h
    obtain ⟨y, rfl⟩ := List.length_eq_one_iff.1 h
    simp only [cond_true, List.headD_cons]
    exact h1 y (by simp)
  | false => rfl
theorem els_len {sz : Nat} : ∀ (n : Nat) (ys : List T), (els sz n ys).length = n
  | 0, _ => rfl
  | n + 1, ys => by simp [els, els_len n]
theorem els_get {sz : Nat} : ∀ (n : Nat) (ys : List T) (i : Nat) (x : T), (els sz n ys)[i]? = some x → i < n ∧ x = mkEl sz ((ys.drop (i * sz)).take sz)
  | 0, ys, i, x, h => by simp [els] at h
  | n + 1, ys, 0, x, h => by simp [els] at h; simp [h]
  | n + 1, ys, i + 1, x, h => by
    simp only [els, List.getElem?_cons_succ] at h
    obtain ⟨h1, h2⟩ := els_get n (ys.drop sz) i x h
    refine ⟨by omega, ?_⟩
    rw [h2, List.drop_drop]
    congr 3
    rw [Nat.add_mul, Nat.one_mul]; omega
theorem els_cell {sz n : Nat} {ys : List T} (hl : ys.length = n * sz) (hpos : 0 < sz) (h1 : ∀ y ∈ ys, y.cells = [y]) {i : Nat} {x : T} (hx : (els sz n ys)[i]? = some x) : x.cells.length = sz ∧ ∀ j, j < sz → x.cells[j]? = ys[i * sz + j]? := by
  obtain ⟨hi, rfl⟩ := els_get n ys i x hx
  have hle : (i + 1) * sz ≤ n * sz := Nat.mul_le_mul_right _ hi
  rw [Nat.add_mul, Nat.one_mul] at hle
  have hlen : ((ys.drop (i * sz)).take sz).length = sz := by simp; omega
  rw [mkEl_cells hlen hpos fun y hy => h1 y (List.drop_subset _ _ (List.take_subset _ _ hy))]
  refine ⟨hlen, fun j hj => ?_⟩
  rw [List.getElem?_take, if_pos hj, List.getElem?_drop]
theorem flat_cells (hx : ∀ x, VS own F w (ev env x) (a.eval x)) : ∀ (l : List (Nat × Operand)), (∀ p ∈ l, (ev env p.2).cells.all SV.leaf = true) →
    (l.flatMap fun p => (a.eval p.2).cells.toList).length = (l.flatMap fun p => (ev env p.2).cells).length ∧ (∀ u ∈ l.flatMap fun p => (a.eval p.2).cells.toList, u.oneCell' = true) ∧
      ∀ (i : Nat) (x : SV) (v : Value), (l.flatMap fun p => (ev env p.2).cells)[i]? = some x → (l.flatMap fun p => (a.eval p.2).cells.toList)[i]? = some v → VS own F w x v
  | [], _ => ⟨rfl, by simp, by simp⟩
  | p :: l, h => by
    obtain ⟨h1, h2, h3⟩ := flat_cells hx l fun q hq => h q (by simp [hq])
    obtain ⟨c1, c2, c3⟩ := (hx p.2).cells (h p (by simp))
    have c1' : (a.eval p.2).cells.toList.length = (ev env p.2).cells.length := by simpa using c1
    simp only [List.flatMap_cons]
    refine ⟨by simp only [List.length_append]; rw [h1, c1'], fun u hu => ?_, fun i x v hx' hv => ?_⟩
    · rcases List.mem_append.1 hu with h | h
      · exact c2 u h
      · exact h2 u h
    · rcases Nat.lt_or_ge i (ev env p.2).cells.length with hi | hi
      · rw [List.getElem?_append_left hi] at hx'
        rw [List.getElem?_append_left (by omega)] at hv
        exact c3 i x v hx' (by simpa using hv)
      · rw [List.getElem?_append_right hi] at hx'
        rw [List.getElem?_append_right (by omega), c1'] at hv
        exact h3 _ x v hx' hv
theorem Sup.parts (r : Rel own F w σ) {ss : List SV} {ys : List T} {us : List Value} {sz n : Nat} (hpos : 0 < sz) (hl : ss.length = n * sz) (hly : ys.length = ss.length) (hlu : us.length = ss.length) (hone : ∀ u ∈ us, u.oneCell' = true) (hun : unlikeIds (putIds ss) = true)
    (hp : ∀ (i : Nat) (s : SV) (y : T) (u : Value), ss[i]? = some s → ys[i]? = some y → us[i]? = some u → Part own F w σ s y u) :
    ∃ A, Sup own F w (putIds ss) sz A (els sz n ys) us := by
  have hget : ∀ t, t < ss.length → Part own F w σ (ss.getD t .any) (ys.getD t .any) (us.getD t undef) := by
    intro t ht
    simp only [List.getD_eq_getElem?_getD, List.getElem?_eq_getElem ht, List.getElem?_eq_getElem (show t < ys.length by omega), List.getElem?_eq_getElem (show t < us.length by omega), Option.getD_some]
    exact hp t _ _ _ (List.getElem?_eq_getElem ht) (List.getElem?_eq_getElem (by omega)) (List.getElem?_eq_getElem (by omega))
  have h1 : ∀ y ∈ ys, y.cells = [y] := by
    intro y hy
    obtain ⟨t, ht⟩ := List.getElem?_of_mem hy
    have htl : t < ys.length := (List.getElem?_eq_some_iff.1 ht).1
    exact (hp t _ y _ (List.getElem?_eq_getElem (by omega)) ht (List.getElem?_eq_getElem (by omega))).1
  have hlyn : ys.length = n * sz := by omega
  let A : Nat → Nat → Path → Option Loc := fun i j => match ss[i * sz + j]? with
    | some s => match rootId s with
      | some k => match σ[k]? with
        | some (.nd ep _) => (own k).cur ep
        | _ => fun _ => none
      | none => fun _ => none
    | none => fun _ => none
  have hcell : ∀ (i : Nat) (x : T) (j : Nat) (y : T), (els sz n ys)[i]? = some x → x.cells[j]? = some y → j < sz ∧ i * sz + j < ss.length ∧ ys[i * sz + j]? = some y := by
    intro i x j y hx hy
    obtain ⟨g1, g2⟩ := els_cell hlyn hpos h1 hx
    have hj : j < sz := by rw [← g1]; exact (List.getElem?_eq_some_iff.1 hy).1
    rw [g2 j hj] at hy
    exact ⟨hj, by rw [← hly]; exact (List.getElem?_eq_some_iff.1 hy).1, hy⟩
  have hput : ∀ (i : Nat) (x : T) (j : Nat) (y : T) (m : Nd), (els sz n ys)[i]? = some x → x.cells[j]? = some y → y.nd? = some m → ∃ s k ep L, ss[i * sz + j]? = some s ∧ rootId s = some k ∧ σ[k]? = some (.nd ep m) ∧ A i j = (own k).cur ep ∧ (own k).am 0 [] = some L ∧ us[i * sz + j]? = some (m.lv L) := by
    intro i x j y m hx hy hn
    obtain ⟨hj, hlt, hy'⟩ := hcell i x j y hx hy
    have hs : ss[i * sz + j]? = some ss[i * sz + j] := List.getElem?_eq_getElem hlt
    have hu : us[i * sz + j]? = some us[i * sz + j] := List.getElem?_eq_getElem (by omega)
    rcases (hp _ _ y _ hs hy' hu).2 with ⟨g, _⟩ | ⟨k, ep, n', L, g1, g2, g3, g4, g5⟩
    · rw [hn] at g; exact nomatch g
    · rw [g3, nd_toT] at hn
      injection hn with hn
      subst hn
      refine ⟨_, k, ep, L, hs, g1, g2, ?_, g4, by rw [hu, g5]⟩
      show (match ss[i * sz + j]? with
        | some s => match rootId s with
          | some k => match σ[k]? with
            | some (.nd ep _) => (own k).cur ep
            | _ => fun _ => none
          | none => fun _ => none
        | none => fun _ => none) = _
      rw [hs]
      simp only [g1, g2]
  refine ⟨A, fun x hx => ?_, by rw [els_len]; omega, hone, fun i x j y v hx hy hv => ?_, fun i j i' j' x x' y y' m m' b hx hy hn hx' hy' hn' hb hb' => ?_⟩
  · obtain ⟨i, hi⟩ := List.getElem?_of_mem hx
    exact (els_cell hlyn hpos h1 hi).1
  · cases hyn : y.nd? with
    | none =>
      obtain ⟨hj, hlt, hy'⟩ := hcell i x j y hx hy
      rcases (hp _ _ y _ (List.getElem?_eq_getElem hlt) hy' hv).2 with ⟨_, g, _⟩ | ⟨k, ep, n', L, g1, g2, g3, g4, g5⟩
      · exact .inl ⟨rfl, g⟩
      · rw [g3, nd_toT] at hyn; exact nomatch hyn
    | some m =>
      obtain ⟨s, k, ep, L, g1, g2, g3, g4, g5, g6⟩ := hput i x j y m hx hy hyn
      obtain ⟨hT, hB, hep, _⟩ := r.obj k _ g3
      rw [g6] at hv
      injection hv with hv
      refine .inr ⟨m, L, rfl, by rw [g4]; exact hT, ?_, hv.symm, fun b hb => ⟨k, putIds_mem g1 g2, hB b (g4 ▸ hb)⟩⟩
      rw [g4]
      show (own k).am (ep 0) [] = some L
      rw [hep]; exact g5
  · obtain ⟨s, k, ep, L, g1, g2, g3, g4, _⟩ := hput i x j y m hx hy hn
    obtain ⟨s', k', ep', L', w1, w2, w3, w4, _⟩ := hput i' x' j' y' m' hx' hy' hn'
    have hk := r.inj k k' b ((r.obj k _ g3).2.1 b (g4 ▸ hb)) ((r.obj k' _ w3).2.1 b (w4 ▸ hb'))
    subst hk
    have ht := putIds_one (unlikeIds_nodup hun) g1 g2 w1 w2
    obtain ⟨hj, _⟩ := hcell i x j y hx hy
    obtain ⟨hj', _⟩ := hcell i' x' j' y' hx' hy'
    by_cases hij : i' = i ∧ j' = j
    · exact ⟨hij.1.symm, hij.2.symm⟩
    · exact absurd ht.symm (idx_ne hj hj' hij)
theorem op_buildSlice (ht : TabOk P tt) (hn : Next P o a own F w σ K next) (r : Rel own F w σ) {t : TypeId} {n : Nat} {parts : Array (Nat × Operand)} {E : TypeId} (ho : o.op = .buildSlice t n parts) (hti : (tt.at t).ti = .slice E)
    (hx : ∀ x, VS own F w (ev env x) (a.eval x))
    (hg : (tt.at E).ti.good = true) (hpos : 0 < (tt.at E).size) (hn0 : 0 < n) (hbig : n * (tt.at E).size ≤ 16777216) (hidx : idxOk 0 parts.toList n = true)
    (hall : (parts.toList.all fun p => (ev env p.2).cells.all SV.leaf && Nat.beq (ev env p.2).cells.length (tt.at E).size) = true)
    (hs : takL (parts.toList.flatMap fun p => (ev env p.2).cells) σ fun ss σ1 => bif unlikeIds (putIds ss) then partL σ1 ss fun ys => forceSto (kills (putIds ss) σ1 ++ [.row E (tt.at E).size (els (tt.at E).size n ys)]) (K (.osl σ1.length 0 n)) else False) : o.wp P a w next Q := by
  have hTt := ht.at t (by rw [hti]; rfl)
  have hT := ht.at E hg
  obtain ⟨i, hi, hsz, hb, hz0, z, hz, hzs, hza, _, hzv⟩ := hT.info
  obtain ⟨hlen, hzip⟩ := idxOk_zip parts.toList 0 n hidx
  simp only [Nat.zero_add] at hlen
  have hleaf : ∀ p ∈ parts.toList, (ev env p.2).cells.all SV.leaf = true ∧ (ev env p.2).cells.length = (tt.at E).size := by
    intro p hp
    have := (List.all_eq_true.1 hall) p hp
    simp only [Bool.and_eq_true] at this
    exact ⟨this.1, Nat.eq_of_beq_eq_true this.2⟩
  have hpart : ∀ p ∈ parts.toList, (a.eval p.2).cells.size = (tt.at E).size := by
    intro p hp
    obtain ⟨h1, h2⟩ := hleaf p hp
    rw [((hx p.2).cells h1).1, h2]
  obtain ⟨vs', hfill, hvs⟩ := fill_seq (sz := (tt.at E).size) (parts.toList.map fun p => a.eval p.2) 0 ((Array.range (n * (tt.at E).size)).map (z.cells[· % z.cells.size]!)) (by rw [Array.size_map, Array.size_range, List.length_map, Nat.zero_add, hlen]) (by
    intro v hv
    obtain ⟨p, hp, rfl⟩ := List.mem_map.1 hv
    exact hpart p hp)
  simp only [Nat.zero_mul, List.take_zero, List.nil_append, List.flatMap_map] at hvs
  obtain ⟨f1, f2, f3⟩ := flat_cells (own := own) (F := F) (w := w) hx parts.toList fun p hp => (hleaf p hp).1
  obtain ⟨ss, σ1, own1, h1, r1, e1, l1, hls, hvs1⟩ := takL_sound r f1 f3 hs
  obtain ⟨hun, h2⟩ := bif_elim0 h1
  obtain ⟨ys, h3, h4, h5⟩ := partL_out r1 (by rw [f1, hls]) hvs1 h2
  rw [forceSto_iff] at h3
  have hssn : ss.length = n * (tt.at E).size := by
    rw [hls]
    have : ∀ (l : List (Nat × Operand)), (∀ p ∈ l, (ev env p.2).cells.length = (tt.at E).size) → (l.flatMap fun p => (ev env p.2).cells).length = l.length * (tt.at E).size := by
      intro l
      induction l with
      | nil => intro _; simp
      | cons v l ih => intro h; simp only [List.flatMap_cons, List.length_append, List.length_cons]; rw [ih fun u hu => h u (by simp [hu]), h v (by simp), Nat.add_mul]; omega
    rw [this _ fun p hp => (hleaf p hp).2, hlen]
  obtain ⟨A, hsup⟩ := Sup.parts r1 (n := n) hpos hssn h4 (by rw [f1, hls]) f2 hun h5
  have hvlen : vs'.size = n * (tt.at E).size := by rw [← Array.length_toList, hvs, f1, ← hls, hssn]
  have h48 : n ≤ 2 ^ 48 := by
    have : n * 1 ≤ n * (tt.at E).size := Nat.mul_le_mul_left _ hpos
    omega
  obtain ⟨own', r', e', ha⟩ := r1.gather hsup (E := E) (b := w.heap.size) (oo := 0) (cap := n) (arr := vs') hpos hn0 (by rw [els_len]; exact Nat.le_refl _) (by rw [els_len]; exact h48) (w' := w.alloc (.cells vs' E)) rfl rfl rfl (by simp) (fun i hi _ => Below.heap_alloc w _ i hi) (.inl (Nat.le_refl _)) (heap_alloc_new w _) (by omega)
    (fun t ht => by rw [Nat.zero_add, ← Array.getElem?_toList, hvs])
  refine wp_value (w' := w.alloc (.cells vs' E)) (mv := .slice (some ⟨w.heap.size, 0, none⟩) n n) ?_ (hn _ _ _ _ _ _ h3 (e1.trans (e'.mono l1)) r' (by simp [kills_len]; omega) ?_)
  · have hps : (parts.map fun (i, x) => (i, a.eval x)).toList = ((parts.toList.map fun p => a.eval p.2).zipIdx 0).map fun p => (p.2, p.1) := by
      rw [← hzip a.eval]; simp
    unfold execOp
    simp only [ho, Instr.buildSlice, Sem.run_bind, run_underlying (und_slice hTt hti), Result.andThen_ok, run_size hT w]
    rw [if_neg (by omega), if_neg (by have := Nat.mul_pos hn0 hpos; omega)]
    simp only [zeroValue, typeInfo, Sem.run_bind, run_program, Result.andThen_ok, hi, Sem.run_pure, hz]
    rw [hps, hfill]
    simp [newRow]
  · have := VS.ref (own := own') (F := F) (w := w.alloc (.cells vs' E)) σ1.length 0 [] 0 n _ _ _ _ _ ha (by rw [els_len]; omega) (by rw [els_len]; exact Nat.le_refl _) h48
    simpa using this
theorem mkElT_cells {arr : Bool} {sz : Nat} {l : List T} (h : l.length = sz) (hpos : 0 < sz) (h1 : ∀ y ∈ l, y.cells = [y]) : (mkElT arr sz l).cells = l := by
  unfold mkElT
  cases arr && !Nat.beq sz 1 with
  | true => rfl
  | false => exact mkEl_cells h hpos h1
theorem op_makeSlice (ht : TabOk P tt) (hn : Next P o a own F w σ K next) (r : Rel own F w σ) {t E : TypeId} {l c : Operand} {kl kc : IntKind} {n m : Int} (ho : o.op = .makeSlice t l c) (hti : (tt.at t).ti = .slice E) (hl : VS own F w (.t (.int kl n)) (a.eval l)) (hc : VS own F w (.t (.int kc m)) (a.eval c))
    (hg : (tt.at E).ti.good = true) (hpos : 0 < (tt.at E).size) (hflat : (tt.at E).zero.all noNst = true) (h0 : 0 ≤ n) (hnm : n ≤ m) (hbytes : m * ((tt.at E).bytes : Int) ≤ 140737488355328) (h48 : m ≤ 281474976710656)
    (hs : K (.osl σ.length 0 n.toNat) (σ ++ [.row E (tt.at E).size (List.replicate n.toNat (mkElT (isArr (tt.at E).ti) (tt.at E).size (tt.at E).zero))])) : o.wp P a w next Q := by
  have hT := ht.at E hg
  obtain ⟨i, hi, hsz, hb, hz0, z, hz, hzs, hza, _, hzv⟩ := hT.info
  have hu := und_slice (ht.at t (by rw [hti]; rfl)) hti
  have hrun := run_make (P := P) w t E i z hu hi hz kl kc n m h0 hnm (by rw [hb, Int.mul_comm]; omega) (by omega)
  have hexec : (execOp a.eval o).run P w = .ok (.value (.slice (some ⟨w.heap.size, 0, none⟩) n.toNat m.toNat)) (w.alloc (.cells (madeCells z.cells (m.toNat * (tt.at E).size)) E)) := by
    unfold execOp
    rw [← hsz]
    simp only [ho, intV hl, intV hc, Sem.run_bind, hrun, Result.andThen_ok, Sem.run_pure]
  have hz1 : ∀ y ∈ (tt.at E).zero, y.cells = [y] := by
    intro y hy
    obtain ⟨j, hj⟩ := List.getElem?_of_mem hy
    have hjl : j < z.cells.size := by rw [hzs, ← hz0]; exact (List.getElem?_eq_some_iff.1 hj).1
    have h1 := hzv (fun _ => True) w j y _ hj (Array.getElem?_eq_getElem hjl)
    generalize z.cells[j] = v at h1
    obtain ⟨h1, h2⟩ := h1
    cases h1 <;> first | rfl | simp [Value.oneCell'] at h2
  have hcells := mkElT_cells (arr := isArr (tt.at E).ti) hz0 hpos hz1
  have hvals : ∀ t, t < m.toNat * (tt.at E).size → (madeCells z.cells (m.toNat * (tt.at E).size))[t]? = z.cells[t % (tt.at E).size]? := by
    intro t ht
    have hlt : t % (tt.at E).size < z.cells.size := by rw [hzs]; exact Nat.mod_lt _ hpos
    simp only [madeCells, Array.getElem?_map, hzs]
    rw [Array.getElem?_range]
    simp only [ht, if_true, Option.map_some]
    rw [getElem!_pos z.cells _ hlt, Array.getElem?_eq_getElem hlt]
  have hsup : Sup own F w [] (tt.at E).size (fun _ _ _ => none) (List.replicate n.toNat (mkElT (isArr (tt.at E).ti) (tt.at E).size (tt.at E).zero)) ((madeCells z.cells (m.toNat * (tt.at E).size)).toList.take (n.toNat * (tt.at E).size)) := by
    have hle : n.toNat * (tt.at E).size ≤ m.toNat * (tt.at E).size := Nat.mul_le_mul_right _ (by omega)
    have hflat' : ∀ y ∈ (tt.at E).zero, y.nd? = none := fun y hy => noNst_nd.1 ((List.all_eq_true.1 hflat) y hy)
    refine ⟨fun x hx => by rw [(List.mem_replicate.1 hx).2, hcells, hz0], by rw [List.length_take, List.length_replicate, Array.length_toList, size_madeCells, Nat.min_eq_left hle], fun v hv => ?_, fun i x j y v hx hy hv => ?_, fun i j i' j' x x' y y' m m' b hx hy hn' => ?_⟩
    · have hv := List.take_subset _ _ hv
      obtain ⟨t, ht⟩ := List.getElem?_of_mem hv
      have htl : t < m.toNat * (tt.at E).size := by have := (List.getElem?_eq_some_iff.1 ht).1; simpa [size_madeCells] using this
      rw [Array.getElem?_toList, hvals t htl] at ht
      have hzl : t % (tt.at E).size < (tt.at E).zero.length := by rw [hz0]; exact Nat.mod_lt _ hpos
      exact (hzv F w _ _ v (List.getElem?_eq_getElem hzl) ht).2
    · have hxm := (List.mem_replicate.1 (List.mem_of_getElem? hx)).2
      rw [hxm, hcells] at hy
      have hj : j < (tt.at E).size := by rw [← hz0]; exact (List.getElem?_eq_some_iff.1 hy).1
      have hlt := (List.getElem?_eq_some_iff.1 hv).1
      rw [List.length_take, Array.length_toList, size_madeCells, Nat.min_eq_left hle] at hlt
      rw [List.getElem?_take, if_pos hlt, Array.getElem?_toList, hvals _ (by omega)] at hv
      rw [Nat.add_comm, Nat.add_mul_mod_self_right, Nat.mod_eq_of_lt hj] at hv
      exact .inl ⟨hflat' y (List.mem_of_getElem? hy), (hzv F w j y v hy hv).1⟩
    · have hxm := (List.mem_replicate.1 (List.mem_of_getElem? hx)).2
      rw [hxm, hcells] at hy
      rw [hflat' y (List.mem_of_getElem? hy)] at hn'
      exact nomatch hn'
  by_cases hm : m.toNat = 0
  · have hn0 : n.toNat = 0 := by omega
    rw [hn0] at hs
    have g := r.grow (w' := w.alloc (.cells (madeCells z.cells (m.toNat * (tt.at E).size)) E)) rfl rfl rfl (by simp) (fun i hi => Below.heap_alloc w _ i hi)
    obtain ⟨own', r', e', ha⟩ := g.1.gather0 [] E (tt.at E).size (some ⟨w.heap.size, 0, none⟩)
    rw [hn0, hm] at hexec
    rw [hm] at r' e' g
    exact wp_value hexec (hn _ _ _ _ _ _ (by simpa using hs) (g.2.trans e') (by simpa [kills] using r') (by simp) (.refE _ _ _ _ ha))
  · obtain ⟨own', r', e', ha⟩ := r.gather hsup (E := E) (b := w.heap.size) (oo := 0) (cap := m.toNat) (arr := madeCells z.cells (m.toNat * (tt.at E).size)) hpos (by omega) (by simp; omega) (by simp; omega) (w' := w.alloc (.cells (madeCells z.cells (m.toNat * (tt.at E).size)) E)) rfl rfl rfl (by simp) (fun i hi _ => Below.heap_alloc w _ i hi) (.inl (Nat.le_refl _)) (heap_alloc_new w _) (by simp [size_madeCells])
      (fun t ht => by
        have ht' : t < n.toNat * (tt.at E).size := by
          have := ht
          simp at this; omega
        rw [Nat.zero_add, List.getElem?_take, if_pos ht', Array.getElem?_toList])
    refine wp_value hexec (hn _ _ _ _ _ _ hs e' (by simpa [kills] using r') (by simp) ?_)
    have := VS.ref (own := own') (F := F) (w := w.alloc (.cells (madeCells z.cells (m.toNat * (tt.at E).size)) E)) σ.length 0 [] 0 n.toNat _ _ _ _ _ ha (by simp) (by simp; omega) (by omega)
    simpa using this
theorem loHi_out {lo : Option Operand} {K : Int → Prop} (hx : ∀ x, VS own F w (ev env x) (a.eval x)) (h : loHi env lo K) : ∃ l, K l ∧ ((lo.map a.eval = none ∧ l = 0) ∨ ∃ k, lo.map a.eval = some (.int k l)) := by
  cases lo with
  | none => exact ⟨0, h, .inl ⟨rfl, rfl⟩⟩
  | some x =>
    unfold loHi at h
    simp only at h
    have hv := hx x
    split at h
    · rename_i k n e
      rw [e] at hv
      exact ⟨n, h, .inr ⟨k, by simp [intV hv]⟩⟩
    · exact h.elim
theorem hiOf_out {hi : Option Operand} {len : Nat} {K : Int → Prop} (hx : ∀ x, VS own F w (ev env x) (a.eval x)) (h : hiOf env hi len K) : ∃ l, K l ∧ ((hi.map a.eval = none ∧ l = len) ∨ ∃ k, hi.map a.eval = some (.int k l)) := by
  cases hi with
  | none => exact ⟨len, h, .inl ⟨rfl, rfl⟩⟩
  | some x =>
    unfold hiOf at h
    simp only at h
    have hv := hx x
    split at h
    · rename_i k n e
      rw [e] at hv
      exact ⟨n, h, .inr ⟨k, by simp [intV hv]⟩⟩
    · exact h.elim
theorem run_bounds (isSlice : Bool) (len cap : Nat) {lo hi : Option Value} {l h : Int} (hlo : (lo = none ∧ l = 0) ∨ ∃ k, lo = some (.int k l)) (hhi : (hi = none ∧ h = len) ∨ ∃ k, hi = some (.int k h)) (h0 : 0 ≤ l) (h1 : l ≤ h) (h2 : h ≤ cap) :
    (Instr.sliceBounds isSlice len cap lo hi none).run P w = .ok (l.toNat, h.toNat, cap) w := by
  have eh : (h.toNat : Int) = h := Int.toNat_of_nonneg (by omega)
  have hh0 : 0 ≤ h := by omega
  rcases hlo with ⟨rfl, rfl⟩ | ⟨k, rfl⟩ <;> rcases hhi with ⟨rfl, rfl⟩ | ⟨k', rfl⟩ <;> simp [Instr.sliceBounds, Instr.sliceBound, asIntOf, *]
theorem run_slice_op (ht : TabOk P tt) {t E : TypeId} (hti : (tt.at t).ti = .slice E) (hg : (tt.at E).ti.good = true) (ad : Option Addr) (len cap : Nat) {lo hi : Option Value} {l h : Int} (hlo : (lo = none ∧ l = 0) ∨ ∃ k, lo = some (.int k l)) (hhi : (hi = none ∧ h = len) ∨ ∃ k, hi = some (.int k h)) (h0 : 0 ≤ l) (h1 : l ≤ h) (h2 : h ≤ cap) :
    (Instr.sliceAt t (.slice ad len cap) lo hi none).run P w = .ok (.slice (if cap = l.toNat then ad else ad.map (·.add (l.toNat * (tt.at E).size))) (h.toNat - l.toNat) (cap - l.toNat)) w := by
  have hu := und_slice (ht.at t (by rw [hti]; rfl)) hti
  simp [Instr.sliceAt, Instr.slice, run_underlying hu, run_bounds true len cap hlo hhi h0 h1 h2, run_size (ht.at E hg)]
theorem op_slice (ht : TabOk P tt) (hn : Next P o a own F w σ K next) (r : Rel own F w σ) {t : TypeId} {x : Operand} {lo hi : Option Operand} (ho : o.op = .slice t x lo hi none) (hx : ∀ x, VS own F w (ev env x) (a.eval x))
    (hs : loHi env lo fun l => match (generalizing := false) (tt.at t).ti, ev env x with
    | .slice E, .ref k e p off len => match nth σ k with
      | some (.nd ep nd) => Ob (e = ep p.length) ∧ nodeK nd p fun q => match q with
        | .row _ sz _ => bif Nat.beq sz (tt.at E).size && (tt.at E).ti.good then hiOf env hi len fun h => Ob (0 ≤ l ∧ l ≤ h ∧ h ≤ len) ∧ K (.ref k e p (off + l.toNat) (h - l).toNat) σ else False
        | .map .. => False
      | _ => False
    | .slice E, .t (.sl sz xs) => bif Nat.beq sz (tt.at E).size && (tt.at E).ti.good then hiOf env hi xs.length fun h => Ob (0 ≤ l ∧ l ≤ h ∧ h ≤ xs.length) ∧ exS xs l.toNat (h - l).toNat fun xs => K (.t (.sl sz xs)) σ else False
    | .slice E, .t .nsl => bif (tt.at E).ti.good then hiOf env hi 0 fun h => Ob (l = 0 ∧ h = 0) ∧ K (.t .nsl) σ else False
    | .slice E, .t .esl => bif (tt.at E).ti.good then hiOf env hi 0 fun h => Ob (l = 0 ∧ h = 0) ∧ K (.t .esl) σ else False
    | .str, .t (.str s) => hiOf env hi s.size fun h => Ob (0 ≤ l ∧ l ≤ h ∧ h ≤ s.size) ∧ K (.t (.str (subS s l.toNat h.toNat))) σ
    | _, _ => False) : o.wp P a w next Q := by
  have exec : ∀ {mv v : Value}, a.eval x = mv → (Instr.sliceAt t mv (lo.map a.eval) (hi.map a.eval) none).run P w = .ok v w → (execOp a.eval o).run P w = .ok (.value v) w := by
    intro mv v hm hr
    unfold execOp
    simp only [ho, hm, Option.map_none, Sem.run_bind, hr, Result.andThen_ok, Sem.run_pure]
  obtain ⟨l, hs, hlo⟩ := loHi_out hx hs
  have hv := hx x
  generalize hsx : ev env x = sx at hv hs
  generalize hmx : a.eval x = mx at hv
  split at hs
  · rename_i E k e p off len hti
    split at hs
    · rename_i ep nd hk
      obtain ⟨he, hs⟩ := hs
      have he := he.out
      obtain ⟨q, hp, hs⟩ := nodeK_out hs
      cases q with
      | map => exact hs.elim
      | row E2 sz xs =>
        obtain ⟨hb, hs⟩ := bif_elim0 hs
        simp only [Bool.and_eq_true] at hb
        have hsz := Nat.eq_of_beq_eq_true hb.1
        obtain ⟨h, hs, hhi⟩ := hiOf_out hx hs
        obtain ⟨h1, h2⟩ := hs
        obtain ⟨g0, g1, g2⟩ := h1.out
        obtain ⟨hT, hB, hep, hfr⟩ := nd_obj r hk
        cases hv with
        | refE _ _ _ ad ha =>
          have hl0 : l = 0 := by omega
          have hh0 : h = 0 := by omega
          subst hl0 hh0
          have := run_slice_op (P := P) (w := w) ht hti hb.2 ad 0 0 hlo hhi (by omega) (by omega) (by omega)
          refine op_pure hn r (exec hmx this) h2 ?_
          simp
          exact .refE _ _ _ ad ha
        | refZ _ _ _ _ ad ha =>
          have hl0 : l = 0 := by omega
          have hh0 : h = 0 := by omega
          subst hl0 hh0
          have := run_slice_op (P := P) (w := w) ht hti hb.2 ad 0 0 hlo hhi (by omega) (by omega) (by omega)
          refine op_pure hn r (exec hmx this) h2 ?_
          simp
          exact .refZ _ _ _ _ ad ha
        | ref _ _ _ _ _ b oo sz' cap m ha hl hm hnn =>
          have hs2 : sz' = sz := by
            have h' : (own k).cur ep p = some (.at b oo sz' cap m) := by rw [he] at ha; exact ha
            rcases hT.1 p _ hp with ⟨_, a, ha⟩ | ⟨b2, o2, cap2, vals2, ha, _⟩
            · rw [h'] at ha; exact nomatch ha
            · rw [h'] at ha; injection ha with ha; injection ha
          subst hs2
          have := run_slice_op (P := P) (w := w) ht hti hb.2 (some ⟨b, oo + off * sz', none⟩) len (cap - off) hlo hhi g0 g1 (by omega)
          refine op_pure hn r (exec hmx this) h2 ?_
          have hsub : (h - l).toNat = h.toNat - l.toNat := by omega
          rw [hsub]
          by_cases hc : cap - off = l.toNat
          · rw [if_pos hc]
            have hz : h.toNat - l.toNat = 0 := by omega
            rw [hz, hc, Nat.sub_self]
            by_cases hl0 : l.toNat = 0
            · rw [hl0, Nat.add_zero]
              have := VS.ref (own := own) (F := F) (w := w) k e p off 0 b oo sz' cap m ha (by omega) hm (by omega)
              rw [show cap - off = 0 by omega] at this
              exact this
            · exact .refZ _ _ _ _ _ (by omega)
          · rw [if_neg hc]
            have := VS.ref (own := own) (F := F) (w := w) k e p (off + l.toNat) (h.toNat - l.toNat) b oo sz' cap m ha (by omega) hm (by omega)
            rw [Nat.add_mul, ← Nat.add_assoc] at this
            simp only [Option.map_some, add_plain, ← hsz]
            rw [show cap - off - l.toNat = cap - (off + l.toNat) by omega]
            exact this
    · exact hs.elim
  · rename_i E sz xs hti
    obtain ⟨hb, hs⟩ := bif_elim0 hs
    simp only [Bool.and_eq_true] at hb
    have hsz := Nat.eq_of_beq_eq_true hb.1
    obtain ⟨h, hs, hhi⟩ := hiOf_out hx hs
    obtain ⟨h1, h2⟩ := hs
    obtain ⟨g0, g1, g2⟩ := h1.out
    have h2 := h2.out
    cases hv with
    | t _ _ hv =>
      have hsub : (h - l).toNat = h.toNat - l.toNat := by omega
      rw [hsub] at h2
      have hv0 := hv
      cases hv with
      | sl0 _ ad c =>
        simp at g2
        have hl0 : l = 0 := by omega
        have hh0 : h = 0 := by omega
        subst hl0 hh0
        have := run_slice_op (P := P) (w := w) ht hti hb.2 ad 0 c hlo hhi (by omega) (by omega) (by omega)
        refine op_pure hn r (exec hmx this) h2 ?_
        simp
        exact .t _ _ (.sl0 _ _ _)
      | sl _ _ b oo c vals hp hcc hnn =>
        have := run_slice_op (P := P) (w := w) ht hti hb.2 (some ⟨b, oo, none⟩) xs.length c hlo hhi g0 g1 (by omega)
        refine op_pure hn r (exec hmx this) h2 (.t _ _ ?_)
        by_cases hc : c = l.toNat
        · rw [if_pos hc]
          have hz : h.toNat - l.toNat = 0 := by omega
          rw [hz]
          simp
          exact .sl0 _ _ _
        · rw [if_neg hc]
          have := hv0.part (off := l.toNat) (len := h.toNat - l.toNat) rfl (by omega) hcc
          simp only [Option.map_some, add_plain, ← hsz]
          exact this
  · rename_i E hti
    obtain ⟨hb, hs⟩ := bif_elim0 hs
    obtain ⟨h, hs, hhi⟩ := hiOf_out hx hs
    obtain ⟨h1, h2⟩ := hs
    obtain ⟨rfl, rfl⟩ := h1.out
    cases hv with
    | t _ _ hv =>
      cases hv
      have := run_slice_op (P := P) (w := w) ht hti hb none 0 0 hlo hhi (by omega) (by omega) (by omega)
      exact op_pure hn r (exec hmx this) h2 (.t _ _ (by simpa using VT.nsl))
  · rename_i E hti
    obtain ⟨hb, hs⟩ := bif_elim0 hs
    obtain ⟨h, hs, hhi⟩ := hiOf_out hx hs
    obtain ⟨h1, h2⟩ := hs
    obtain ⟨rfl, rfl⟩ := h1.out
    cases hv with
    | t _ _ hv =>
      cases hv with
      | esl ad =>
        have := run_slice_op (P := P) (w := w) ht hti hb ad 0 0 hlo hhi (by omega) (by omega) (by omega)
        exact op_pure hn r (exec hmx this) h2 (.t _ _ (by simpa using VT.esl ad))
  · rename_i s hti
    obtain ⟨h, hs, hhi⟩ := hiOf_out hx hs
    obtain ⟨h1, h2⟩ := hs
    obtain ⟨g0, g1, g2⟩ := h1.out
    have hu := und_str (ht.at t (by rw [hti]; rfl)) hti
    cases hv with
    | t _ _ hv =>
      cases hv
      refine op_pure hn r (exec hmx (v := .string (s.extract l.toNat h.toNat)) ?_) h2 (.t _ _ ?_)
      · simp [Instr.sliceAt, Instr.slice, run_underlying hu, run_bounds false s.size s.size hlo hhi g0 g1 (by omega)]
      · unfold subS; exact .str _
  · exact hs.elim
theorem op_index (ht : TabOk P tt) (hn : Next P o a own F w σ K next) (r : Rel own F w σ) {t : TypeId} {x i : Operand} (ho : o.op = .index t x i) {sx si : SV} (hx : VS own F w sx (a.eval x)) (hi : VS own F w si (a.eval i))
    (hs : match (generalizing := false) (tt.at t).ti, sx, si with
    | .str, .t (.str s), .t (.int _ n) => Ob (0 ≤ n ∧ n < s.size) ∧ K (.t (.int .u8 (byteAt s n.toNat))) σ
    | _, _, _ => False) : o.wp P a w next Q := by
  split at hs
  · rename_i s kk n hti
    obtain ⟨h1, h2⟩ := hs
    obtain ⟨g0, g1⟩ := h1.out
    have hu := und_str (ht.at t (by rw [hti]; rfl)) hti
    have hxs : a.eval x = .string s := by
      generalize a.eval x = v at hx
      cases hx with
      | t _ _ h => cases h; rfl
    have hlt : n.toNat < s.size := by omega
    have hq : s[n.toNat]? = some s[n.toNat] := getElem?_pos s n.toNat hlt
    refine op_pure hn r (mv := .int .u8 (s[n.toNat]).toNat) ?_ h2 (.t _ _ ?_)
    · unfold execOp
      simp [ho, hxs, intV hi, Instr.index, asIntOf, run_underlying hu, g0, hq]
    · unfold byteAt
      rw [hq]
      exact .int _ _
  · exact hs.elim
theorem op_max (hn : Next P o a own F w σ K next) (r : Rel own F w σ) {x y : Operand} {k k' : IntKind} {n m : Int} {argTypes : Array TypeId} (ho : o.op = .call { callee := .builtin .max, args := #[x, y], argTypes }) (hx : VS own F w (.t (.int k n)) (a.eval x)) (hy : VS own F w (.t (.int k' m)) (a.eval y))
    (hs : K (.t (.int k (maxI n m))) σ) : o.wp P a w next Q := by
  refine op_pure hn r (mv := .int k (if m > n then m else n)) ?_ hs (.t _ _ ?_)
  · unfold execOp
    simp only [ho, resolve, Sem.run_bind, Sem.run_pure, Result.andThen_ok, invoke, builtin]
    have e : #[x, y].map a.eval = #[.int k n, .int k' m] := by simp [intV hx, intV hy]
    rw [e]
    simp [Builtin.max_, Builtin.max2]
  · unfold maxI; exact .int _ _
theorem op_min (hn : Next P o a own F w σ K next) (r : Rel own F w σ) {x y : Operand} {k k' : IntKind} {n m : Int} {argTypes : Array TypeId} (ho : o.op = .call { callee := .builtin .min, args := #[x, y], argTypes }) (hx : VS own F w (.t (.int k n)) (a.eval x)) (hy : VS own F w (.t (.int k' m)) (a.eval y))
    (hs : K (.t (.int k (minI n m))) σ) : o.wp P a w next Q := by
  refine op_pure hn r (mv := .int k (if m < n then m else n)) ?_ hs (.t _ _ ?_)
  · unfold execOp
    simp only [ho, resolve, Sem.run_bind, Sem.run_pure, Result.andThen_ok, invoke, builtin]
    have e : #[x, y].map a.eval = #[.int k n, .int k' m] := by simp [intV hx, intV hy]
    rw [e]
    simp [Builtin.min_, Builtin.min2]
  · unfold minI; exact .int _ _
end
end Go.Proofs.Ytgladinljapmkaa.Am
