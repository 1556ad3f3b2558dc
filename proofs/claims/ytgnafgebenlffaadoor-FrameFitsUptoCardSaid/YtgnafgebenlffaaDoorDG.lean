/- Arrays of the call's own: rows of a fixed length; arrays as values. -/
import Derived.Test.YtgnafgebenlffaaDoorDF
/- Arrays of the call's own: rows of a fixed length; arrays as values. -/
namespace Go.Proofs.YtgnafgebenlffaaDoor.Am
open Go.RowKit
set_option linter.unusedVariables false
set_option linter.unusedSimpArgs false
section
variable {P : Program} {tt : Tab} {own : Nat → Own} {F : Nat → Prop} {w : World} {σ : Sto} {env : Env} {a : Act} {N : Nat} {o : Oper}
variable {K : SV → Sto → Prop} {next : Act → World → Prop} {Q : Exit → Act → World → Prop}
theorem leaf1_flat {xs : List T} (h : FlatA xs) {x : T} (hx : x ∈ xs) : x.cells = [x] ∧ x.nd? = none := leaf1_cells (h x hx)
theorem leaf1_one {F : Nat → Prop} {w : World} {x : T} {v : Value} (h : leaf1 x = true) (hv : VT F w x v) : v.oneCell' = true := by
  cases hv <;> first | rfl | exact nomatch h
theorem leaf1_ok {F : Nat → Prop} {w : World} {c : Path → Option Loc} {p : Path} {i j : Nat} {y : T} {v : Value} (h : leaf1 y = true) : CellOk F w c p i j y v ↔ VT F w y v := by
  cases y <;> first | exact Iff.rfl | exact nomatch h
theorem cellOk_of {F : Nat → Prop} {w : World} {c : Path → Option Loc} {p : Path} {i j : Nat} {y : T} {v : Value} (h : y.nd? = none) (hv : VT F w y v) : CellOk F w c p i j y v := by
  cases y <;> first | exact hv | exact nomatch h
theorem TreeOk.flat {c : Path → Option Loc} {E : TypeId} {sz : Nat} {xs : List T} (hf : Flat xs) (h : NodeOk F w c [] (.row E sz xs)) : TreeOk F w c (.row E sz xs) := by
  have only : ∀ p n, nodeAt (.row E sz xs) p = some n → p = [] := by
    intro p n hp
    cases p with
    | nil => rfl
    | cons q p =>
      obtain ⟨i, j⟩ := q
      obtain ⟨x, y, m, h1, h2, h3, _⟩ := nodeAt_cons.1 hp
      have := hf x (List.mem_of_getElem? h1) y (List.mem_of_getElem? h2)
      rw [noNst_nd.1 this] at h3
      exact nomatch h3
  refine ⟨fun p n hp => ?_, fun p p' n n' _ _ _ _ _ _ _ _ _ hp hp' _ _ => (only p n hp).trans (only p' n' hp').symm⟩
  obtain rfl := only p n hp
  rw [nodeAt_nil] at hp
  injection hp with hp
  subst hp
  exact h
theorem Flat.of {xs : List T} (h : FlatA xs) : Flat xs := fun x hx c hc => by
  rw [(leaf1_flat h hx).1] at hc
  simp at hc
  subst hc
  exact noNst_nd.2 (leaf1_flat h hx).2
def ownA1 (b n : Nat) : Own := ⟨fun e p => if e = 0 ∧ p = [] then some (.at b 0 1 n n) else none, fun x => x = b⟩
theorem ownA1_at {b n : Nat} : (ownA1 b n).am 0 [] = some (.at b 0 1 n n) := by unfold ownA1; simp
theorem op_arrNew (hn : Next P o a own F w σ K next) (r : Rel own F w σ) {t : TypeId} {ys : List T} {vals : Array Value} (hrun : (execOp a.eval o).run P w = .ok (.value (.pointer (some ⟨w.heap.size, 0, none⟩))) (w.alloc (.cells vals t)))
    (hs : vals.size = ys.length) (h48 : ys.length ≤ 2 ^ 48) (hpos : 0 < ys.length) (hfl : FlatA ys) (hv : ∀ (j : Nat) (x : T) (v : Value), ys[j]? = some x → vals[j]? = some v → VT F w x v) (hk : K (.pl σ.length 0 [] 0 0) (σ ++ [.row t 1 ys])) : o.wp P a w next Q := by
  have hp := r.pushE (w' := w.alloc (.cells vals t)) (ownA1 w.heap.size ys.length) (fun b hb => by
      have hb : b = w.heap.size := hb
      subst hb; simp) rfl rfl rfl (by simp) (fun i hi => Below.heap_alloc w _ i hi) (.row t 1 ys) (fun own' _ h2 _ => by
    have hc : (ownA1 w.heap.size ys.length).cur e0 [] = some (.at w.heap.size 0 1 ys.length ys.length) := ownA1_at
    refine ⟨TreeOk.flat (Flat.of hfl) (.inr ⟨w.heap.size, 0, ys.length, vals, hc, by omega, hpos, heap_alloc_new w _, by omega, Nat.le_refl _, h48, fun x hx => by rw [(leaf1_flat hfl hx).1]; rfl, fun i x j y v hx hy hv' => ?_, fun j hj => ?_⟩), ?_, rfl, ?_⟩
    · have hx' := leaf1_flat hfl (List.mem_of_getElem? hx)
      rw [hx'.1] at hy
      cases j with
      | zero =>
        simp at hy
        subst hy
        refine (leaf1_ok (hfl _ (List.mem_of_getElem? hx))).2 (h2 _ _ (hv i x v hx ?_))
        simpa using hv'
      | succ j => simp at hy
    · have hlt : j < vals.size := by omega
      have : vals.getD (0 + j) undef = vals[j] := by simp [Array.getD_eq_getD_getElem?, Array.getElem?_eq_getElem hlt]
      rw [this]
      exact leaf1_one (hfl _ (List.getElem_mem (show j < ys.length by omega))) (hv j _ _ (List.getElem?_eq_getElem (by omega)) (Array.getElem?_eq_getElem hlt))
    · rintro b ⟨p, n, o', s, cp, m, h1, h3⟩
      have h3 : (if e0 p.length = 0 ∧ p = [] then some (Loc.at w.heap.size 0 1 ys.length ys.length) else none) = some (.at b o' s cp m) := h3
      split at h3
      · injection h3 with h3; injection h3 with h3; exact h3.symm
      · exact nomatch h3
    · intro e p he
      show (if e = 0 ∧ p = [] then _ else none) = none
      rw [if_neg fun h => by have := h.1; simp [e0] at he; omega])
  refine wp_value hrun (hn _ _ _ _ _ _ hk hp.2 hp.1 (by simp) ?_)
  have := VS.pl (own := upd1 own σ.length (ownA1 w.heap.size ys.length)) (F := F) (w := w.alloc (.cells vals t)) σ.length 0 [] 0 0 w.heap.size 0 1 ys.length ys.length (by rw [upd1_same]; exact ownA1_at)
  simpa using this
theorem op_allocArr (ht : TabOk P tt) (hn : Next P o a own F w σ K next) (r : Rel own F w σ) {t : TypeId} (ho : o.op = .alloc t) (hg : (tt.at t).ti.good = true) (hz1 : (tt.at t).zero.all leaf1 = true)
    (hk : arrNew tt t (tt.at t).zero σ K) : o.wp P a w next Q := by
  unfold arrNew at hk
  obtain ⟨hp, hk⟩ := bif_elim0 hk
  rw [Bool.and_eq_true] at hp
  obtain ⟨hp, h48⟩ := hp
  have h48 := Nat.le_of_ble_eq_true h48
  rw [forceSto_iff] at hk
  obtain ⟨i, hi, hs, hb, hz0, z, hz, hzs, _, _, hzv⟩ := (ht.at t hg).info
  refine op_arrNew hn r (vals := z.cells) ?_ (by simp [hzs, hz0]) (by omega) (by have := Nat.le_of_ble_eq_true hp; omega) (fun x hx => List.all_eq_true.1 hz1 x hx) (fun j x v hx hv => (hzv F w j x v hx hv).1) hk
  unfold execOp
  simp [ho, Instr.alloc, zeroValue, typeInfo, hi, hz, newVar, newRow]
theorem op_boxArr (hn : Next P o a own F w σ K next) (r : Rel own F w σ) {t : TypeId} {x : Operand} (ho : o.op = .box t x) {ys : List T} (hv : VS own F w (.t (.arr ys)) (a.eval x)) (hl : ys.length = (tt.at t).size) (hfl : FlatA ys)
    (hk : arrNew tt t ys σ K) : o.wp P a w next Q := by
  unfold arrNew at hk
  obtain ⟨hp, hk⟩ := bif_elim0 hk
  rw [Bool.and_eq_true] at hp
  obtain ⟨hp, h48⟩ := hp
  have h48 := Nat.le_of_ble_eq_true h48
  rw [forceSto_iff] at hk
  generalize hm : a.eval x = mv at hv
  cases hv with
  | t _ _ hv =>
    cases hv with
    | arr _ vs hs h =>
      refine op_arrNew hn r (vals := vs) ?_ hs (by omega) (by have := Nat.le_of_ble_eq_true hp; omega) hfl h hk
      unfold execOp
      simp [ho, Instr.box, newVar, newRow, hm, Value.cells]
theorem op_buildArr (ht : TabOk P tt) (hn : Next P o a own F w σ K next) (r : Rel own F w σ) {t : TypeId} {parts : Array (Nat × Operand)} {m : Nat} {e : TypeId} (ho : o.op = .build t parts) (hti : (tt.at t).ti = .arr m e) (hp : parts.toList.isEmpty = true) (he : (tt.at e).ti.good = true)
    (hk : K (.t (.arr (tt.at t).zero)) σ) : o.wp P a w next Q := by
  have hg : (tt.at t).ti.good = true := by rw [hti]; rfl
  obtain ⟨i, hi, hs, hb, hz0, z, hz, hzs, _, _, hzv⟩ := (ht.at t hg).info
  have hpe : parts = #[] := by
    apply Array.ext'
    simpa using hp
  subst hpe
  have hu := und_arr (ht.at t hg) hti
  obtain ⟨ie, hie, _⟩ := (ht.at e he).info
  refine op_pure hn r (mv := .agg z.cells) ?_ hk (.t _ _ (.arr _ _ (by rw [hzs, hz0]) fun j x v hx hv => (hzv F w j x v hx hv).1))
  unfold execOp
  simp [ho, Instr.build, zeroValue, typeInfo, hi, hz, run_underlying hu, Instr.fill, sizeOf, hie]
theorem loadArr_out (ht : TabOk P tt) (r : Rel own F w σ) {t : TypeId} {sv : SV} {mv : Value} (hv : VS own F w sv mv) (hagg : (tt.at t).ti.isAgg = true) {K : SV → Prop} (hs : loadArr tt t sv σ K) :
    ∃ (ad : Addr) (x : SV) (u : Value), mv = .pointer (some ad) ∧ (loadVar t ad).run P w = .ok u w ∧ K x ∧ VS own F w x u := by
  unfold loadArr at hs
  cases hg : (tt.at t).ti.good with
  | false => rw [hg] at hs; exact hs.elim
  | true =>
    have hT := ht.at t hg
    rw [hg, cond_true] at hs
    have mk : ∀ (ys : List T) (b off : Nat) (f : Nat → Value), ys.length = (tt.at t).size → (∀ j, j < ys.length → w.cell? ⟨b, off + j, none⟩ = some (f j)) → (∀ (j : Nat) (y : T), ys[j]? = some y → VT F w y (f j)) → mv = .pointer (some ⟨b, off, none⟩) → K (.t (.arr ys)) →
        ∃ (ad : Addr) (x : SV) (u : Value), mv = .pointer (some ad) ∧ (loadVar t ad).run P w = .ok u w ∧ K x ∧ VS own F w x u := by
      intro ys b off f hl hc hy hm hk
      refine ⟨_, _, _, hm, run_loadVar hT w b off f fun j hj => hc j (by omega), hk, ?_⟩
      rw [if_pos hagg]
      refine .t _ _ (.arr _ _ (by simp [hl]) fun j x v hx hv => ?_)
      simp only [List.getElem?_toArray, List.getElem?_map] at hv
      have hj : j < (tt.at t).size := by rw [← hl]; exact (List.getElem?_eq_some_iff.1 hx).1
      rw [List.getElem?_range hj] at hv
      simp at hv
      subst hv
      exact hy j x hx
    split at hs
    · rename_i cs
      obtain ⟨h1, h2⟩ := hs
      cases hv with
      | t _ _ hv =>
        cases hv with
        | ptr _ b off vals hF hcell h => exact mk cs b off vals h1.out hcell h rfl h2
    · rename_i k ee p i off
      split at hs
      · rename_i ep E sz xs hk
        obtain ⟨hTr, hB, hep, hfr⟩ := nd_obj r hk
        cases hsz : Nat.beq sz 1 with
        | true =>
          rw [hsz, cond_true] at hs
          obtain ⟨h1, h2, h3, h4⟩ := hs
          have h1 := h1.out
          have h2 := h2.out
          have h3 := h3.out
          obtain ⟨h5, h6⟩ := h4.out
          have h5 := h5.out
          have hsz := Nat.eq_of_beq_eq_true hsz
          subst hsz h1 h2
          rcases hTr.1 [] _ nodeAt_nil with ⟨rfl, ad, ha⟩ | ⟨b, o, cap, vals, g1, g3, g4, g5, g6, g7, g8, g9, g10, g11⟩
          · exact (by
              cases hv with
              | pl _ _ _ _ _ b' o' sz' cap' m' h =>
                have h' : (own k).cur ep [] = some (.at b' o' sz' cap' m') := h
                rw [ha] at h'; exact nomatch h')
          · have hm := pl_out g1 hv
            have hlen : ((xs.drop i).take (tt.at t).size).length = (tt.at t).size := by simp; omega
            refine mk _ b (o + i) (fun j => vals.getD (o + i + j) undef) hlen (fun j hj => cell_of g5 (by rw [hlen] at hj; omega)) (fun j y hy => ?_) (by simpa using hm) h6
            have hjl := (List.getElem?_eq_some_iff.1 hy).1
            rw [hlen] at hjl
            rw [List.getElem?_take, if_pos hjl, List.getElem?_drop] at hy
            have hlf : leaf1 y = true := h5 y (List.mem_of_getElem? (show ((xs.drop i).take (tt.at t).size)[j]? = some y by rw [List.getElem?_take, if_pos hjl, List.getElem?_drop]; exact hy))
            have hlt : o + i + j < vals.size := by omega
            have := g10 (i + j) y 0 y (vals.getD (o + i + j) undef) hy (by rw [(leaf1_cells hlf).1]; rfl) (by rw [show o + (i + j) * 1 + 0 = o + i + j by omega]; simp [Array.getD_eq_getD_getElem?, Array.getElem?_eq_getElem hlt])
            exact (leaf1_ok hlf).1 this
        | false =>
          rw [hsz, cond_false] at hs
          obtain ⟨h1, h2, h0, h3, h4⟩ := hs
          have h1 := h1.out
          have h2 := h2.out
          have h0 := h0.out
          have h3 := h3.out
          obtain ⟨h5, h6⟩ := h4.out (x := xs[i]) (by rw [nth_eq]; exact List.getElem?_eq_getElem h3)
          have h5 := h5.out
          subst h1 h2
          rcases hTr.1 [] _ nodeAt_nil with ⟨rfl, ad, ha⟩ | ⟨b, o, cap, vals, g1, g3, g4, g5, g6, g7, g8, g9, g10, g11⟩
          · simp at h3
          · have hm := pl_out g1 hv
            have hcl := g9 xs[i] (List.getElem_mem h3)
            have hle : (i + 1) * sz ≤ cap * sz := Nat.mul_le_mul_right _ (by omega)
            rw [Nat.add_mul, Nat.one_mul] at hle
            refine mk _ b (o + i * sz) (fun j => vals.getD (o + i * sz + j) undef) (by omega) (fun j hj => cell_of g5 (by omega)) (fun j y hy => ?_) (by simpa using hm) h6
            have hjl := (List.getElem?_eq_some_iff.1 hy).1
            have hlf : leaf1 y = true := h5 y (List.mem_of_getElem? hy)
            have hlt : o + i * sz + j < vals.size := by omega
            have := g10 i xs[i] j y (vals.getD (o + i * sz + j) undef) (List.getElem?_eq_getElem h3) hy (by simp [Array.getD_eq_getD_getElem?, Array.getElem?_eq_getElem hlt])
            exact (leaf1_ok hlf).1 this
      · exact hs.elim
    · exact hs.elim
theorem op_loadArr (ht : TabOk P tt) (hn : Next P o a own F w σ K next) (r : Rel own F w σ) {t : TypeId} {x : Operand} (ho : o.op = .load t x) (hagg : (tt.at t).ti.isAgg = true) {sv : SV} (hv : VS own F w sv (a.eval x))
    (hs : loadArr tt t sv σ fun v => K v σ) : o.wp P a w next Q := by
  obtain ⟨ad, y, u, h1, h2, h3, h4⟩ := loadArr_out (P := P) ht r hv hagg hs
  refine op_pure hn r ?_ h3 h4
  unfold execOp
  simp only [ho, h1, Instr.loadAt, Instr.sureAddr, Sem.run_bind, Sem.run_pure, Result.andThen_ok, h2]
theorem op_indexArr (ht : TabOk P tt) (hn : Next P o a own F w σ K next) (r : Rel own F w σ) {t : TypeId} {x i : Operand} {m : Nat} {e : TypeId} {xs : List T} {k : IntKind} {n : Int} (ho : o.op = .index t x i) (hti : (tt.at t).ti = .arr m e) (hx : VS own F w (.t (.arr xs)) (a.eval x)) (hi : VS own F w (.t (.int k n)) (a.eval i))
    (hg : (tt.at e).ti.good = true) (hagg : (tt.at e).ti.isAgg = false) (h0 : 0 ≤ n ∧ n < m) (hl : xs.length = m) (hs : exE xs n.toNat fun x => K (.t x) σ) : o.wp P a w next Q := by
  have hT := ht.at e hg
  have hu := und_arr (ht.at t (by rw [hti]; rfl)) hti
  have hs1 := hT.one hagg
  have hi := intV hi
  generalize hm : a.eval x = mv at hx
  cases hx with
  | t _ _ hx =>
    cases hx with
    | arr _ vs hvs h =>
      have hlt : n.toNat < xs.length := by omega
      have hlt' : n.toNat < vs.size := by omega
      have hx := hs.out (x := xs[n.toNat]) (by rw [nth_eq]; exact List.getElem?_eq_getElem hlt)
      refine op_pure hn r (mv := vs[n.toNat]) ?_ hx (.t _ _ (h _ _ _ (List.getElem?_eq_getElem hlt) (Array.getElem?_eq_getElem hlt')))
      unfold execOp
      simp only [ho, hm, hi, Instr.index, asIntOf, Sem.run_bind, Sem.run_pure, Result.andThen_ok, run_underlying hu, if_pos h0, run_size hT, hs1, Nat.mul_one, part, run_isAgg hT, hagg]
      simp [Array.getElem?_eq_getElem hlt']
theorem Rel.storeFlat (r : Rel own F w σ) {k : Nat} {ep : Nat → Nat} {E : TypeId} {sz : Nat} {xs xs' : List T} (hk : σ[k]? = some (.nd ep (.row E sz xs))) (hf : Flat xs') (hl : xs'.length = xs.length) (hz : ∀ x ∈ xs', x.cells.length = sz) {b o cap : Nat} {vals : Array Value}
    (g1 : (own k).cur ep [] = some (.at b o sz cap xs.length)) (g3 : 0 < sz) (g4 : 0 < cap) (g5 : w.heap[b]? = some (.cells vals E (0, 0))) (g6 : o + cap * sz ≤ vals.size) (g7 : xs.length ≤ cap) (g8 : xs.length ≤ 2 ^ 48) (vals' : Array Value) (hvs : vals'.size = vals.size)
    (hc : ∀ (i : Nat) (x : T) (j : Nat) (y : T) (v : Value), xs'[i]? = some x → x.cells[j]? = some y → vals'[o + i * sz + j]? = some v → VT F w y v ∧ y.nd? = none ∧ v.oneCell' = true) :
    Rel own F (w.setRow b vals') (σ.set k (.nd ep (.row E sz xs'))) ∧ Ext σ.length own F w own F (w.setRow b vals') := by
  obtain ⟨hT, hB, hep, hfr⟩ := r.obj k _ hk
  have hbk : (own k).bl b := hB b ⟨[], _, _, _, _, _, nodeAt_nil, g1⟩
  have hwr := r.turn (k := k) (own k) (fun _ h => h) (fun _ _ _ h => h) (Rel.lt_obj hk) (w' := w.setRow b vals') rfl rfl rfl (by simp) (fun i hi => heap_setRow_other w b _ i fun e => hi (e ▸ hbk)) (.nd ep (.row E sz xs')) (fun hv _ => by
    refine ⟨TreeOk.flat hf (.inr ⟨b, o, cap, vals', by rw [hl]; exact g1, g3, g4, setRow_heap w b vals _ E (0, 0) g5, by omega, by omega, by omega, hz, fun i x j y v h1 h2 h3 => ?_, fun j hj => ?_⟩), ?_, hep, hfr⟩
    · obtain ⟨q1, q2, _⟩ := hc i x j y v h1 h2 h3
      exact cellOk_of q2 (hv _ _ q1)
    · have hi : j / sz < xs'.length := Nat.div_lt_of_lt_mul (by rw [Nat.mul_comm]; exact hj)
      have hmd : j % sz < sz := Nat.mod_lt _ g3
      have hle : xs.length * sz ≤ cap * sz := Nat.mul_le_mul_right _ g7
      have hlt : o + j < vals'.size := by rw [hl] at hj; omega
      have hcl := hz xs'[j / sz] (List.getElem_mem hi)
      have hjj : j / sz * sz + j % sz = j := by rw [Nat.mul_comm]; exact Nat.div_add_mod j sz
      obtain ⟨q1, _, q2⟩ := hc (j / sz) xs'[j / sz] (j % sz) (xs'[j / sz].cells[j % sz]'(by omega)) vals'[o + j] (List.getElem?_eq_getElem hi) (List.getElem?_eq_getElem (by omega)) (by rw [Nat.add_assoc, hjj]; exact Array.getElem?_eq_getElem hlt)
      have : vals'.getD (o + j) undef = vals'[o + j] := by simp [Array.getD_eq_getD_getElem?, Array.getElem?_eq_getElem hlt]
      rw [this]
      exact q2
    · rintro b' ⟨p, n, o', s, cp, m, h1, h3⟩
      have hp : p = [] := by
        cases p with
        | nil => rfl
        | cons q p =>
          obtain ⟨i, j⟩ := q
          obtain ⟨x, y, m, h1, h2, h3, _⟩ := nodeAt_cons.1 h1
          have := hf x (List.mem_of_getElem? h1) y (List.mem_of_getElem? h2)
          rw [noNst_nd.1 this] at h3
          exact nomatch h3
      subst hp
      exact hB b' ⟨[], _, _, _, _, _, nodeAt_nil, h3⟩)
  rw [upd1_id] at hwr
  exact hwr
theorem op_storeArr (ht : TabOk P tt) (hn : Next P o a own F w σ K next) (r : Rel own F w σ) {t : TypeId} {x y : Operand} (ho : o.op = .store t x y) {sx sy : SV} (hx : VS own F w sx (a.eval x)) (hy : VS own F w sy (a.eval y))
    (hs : storeArr tt t sx sy σ fun σ' => K .any σ') : o.wp P a w next Q := by
  unfold storeArr at hs
  have hs0 := bif_elim0 hs
  clear hs
  obtain ⟨hgp, hs⟩ := hs0
  simp only [Bool.and_eq_true] at hgp
  have hT := ht.at t hgp.1
  have hpos := Nat.le_of_ble_eq_true hgp.2
  split at hs
  · rename_i k ee p i off ys
    split at hs
    · rename_i ep E sz xs hk
      have hk0 := hk
      obtain ⟨hTr, hB, hep, hfr⟩ := nd_obj r hk
      rw [nth_eq] at hk
      generalize hmy : a.eval y = my at hy
      cases hy with
      | t _ _ hy =>
        cases hy with
        | arr _ us hus huy =>
          have run : ∀ (b off : Nat) (cur : Array Value) (E : TypeId), a.eval x = .pointer (some ⟨b, off, none⟩) → w.heap[b]? = some (.cells cur E (0, 0)) → us.size = (tt.at t).size → (∀ u ∈ us.toList, u.oneCell' = true) → off + (tt.at t).size ≤ cur.size →
              (execOp a.eval o).run P w = .ok .skip (w.setRow b (cur.toList.take off ++ us.toList ++ cur.toList.drop (off + (tt.at t).size)).toArray) := by
            intro b off cur E hx hb hsz hone hfit
            unfold execOp
            simp only [ho, hx, hmy, Instr.storeAt, Instr.sureAddr, Sem.run_bind, Sem.run_pure, Result.andThen_ok]
            have := run_storeVar_at (P := P) hT w b off (.agg us) cur E hb hsz hone hfit
            simp only [Value.cells] at this
            simp only [this, Result.andThen_ok]
          have one : FlatA ys → ∀ u ∈ us.toList, u.oneCell' = true := by
            intro hfl u hu
            obtain ⟨j, hj⟩ := List.getElem?_of_mem hu
            have hj' : us[j]? = some u := by simpa using hj
            have hlt : j < ys.length := by rw [← hus]; exact (Array.getElem?_eq_some_iff.1 hj').1
            exact leaf1_one (hfl _ (List.getElem_mem hlt)) (huy j _ _ (List.getElem?_eq_getElem hlt) hj')
          have place : ∀ (hee : ee = ep 0), 0 < xs.length → ∃ (b o cap : Nat) (vals : Array Value), (own k).cur ep [] = some (.at b o sz cap xs.length) ∧ 0 < sz ∧ 0 < cap ∧ w.heap[b]? = some (.cells vals E (0, 0)) ∧ o + cap * sz ≤ vals.size ∧ xs.length ≤ cap ∧ xs.length ≤ 2 ^ 48 ∧
              (∀ x ∈ xs, x.cells.length = sz) ∧ (∀ (i : Nat) (x : T) (j : Nat) (y : T) (v : Value), xs[i]? = some x → x.cells[j]? = some y → vals[o + i * sz + j]? = some v → CellOk F w ((own k).cur ep) [] i j y v) ∧ a.eval x = .pointer (some ⟨b, o + i * sz + off, none⟩) := by
            intro hee hx0
            rcases hTr.1 [] _ nodeAt_nil with ⟨rfl, ad, ha⟩ | ⟨b, o, cap, vals, g1, g3, g4, g5, g6, g7, g8, g9, g10, g11⟩
            · simp at hx0
            · subst hee
              exact ⟨b, o, cap, vals, g1, g3, g4, g5, g6, g7, g8, g9, g10, pl_out g1 hx⟩
          cases hsz : Nat.beq sz 1 with
          | true =>
            rw [hsz, cond_true] at hs
            obtain ⟨h1, h2, h3, h4, h5, h6, h7⟩ := hs
            have h1 := h1.out
            have h2 := h2.out
            have h3 := h3.out
            have h4 := h4.out
            have h5 := h5.out
            have h6 := h6.out
            rw [forceSto_iff] at h7
            have hsz := Nat.eq_of_beq_eq_true hsz
            obtain ⟨b, o1, cap, vals, g1, g3, g4, g5, g6, g7, g8, g9, g10, hm⟩ := place h1 (by omega)
            subst hsz h2 h3
            simp only [Nat.zero_mul, Nat.add_zero] at hm
            have hfit : o1 + (tt.at t).size ≤ vals.size := by omega
            have hrun := run b o1 vals E hm g5 (by omega) (one h6) hfit
            have hsp : ∀ j, (vals.toList.take o1 ++ us.toList ++ vals.toList.drop (o1 + (tt.at t).size))[j]? = if o1 ≤ j ∧ j < o1 + (tt.at t).size then us[j - o1]? else vals[j]? := by
              intro j
              have h := splice_get vals.toList us.toList o1 j (by simp; omega)
              rw [show us.toList.length = (tt.at t).size by simp; omega] at h
              rw [h]; simp
            have hst := r.storeFlat (xs' := ys) hk (Flat.of h6) (by omega) (fun z hz => by rw [(leaf1_flat h6 hz).1]; rfl) g1 g3 g4 g5 g6 g7 g8 (vals.toList.take o1 ++ us.toList ++ vals.toList.drop (o1 + (tt.at t).size)).toArray (by simp; omega) (fun q z j u v hz hu hv => by
              have hzl := leaf1_flat h6 (List.mem_of_getElem? hz)
              rw [hzl.1] at hu
              cases j with
              | zero =>
                simp at hu
                subst hu
                have hql := (List.getElem?_eq_some_iff.1 hz).1
                rw [List.getElem?_toArray, hsp, if_pos (by omega)] at hv
                rw [show o1 + q * 1 + 0 - o1 = q by omega] at hv
                exact ⟨huy q z v hz hv, (leaf1_flat h6 (List.mem_of_getElem? hz)).2, leaf1_one (h6 z (List.mem_of_getElem? hz)) (huy q z v hz hv)⟩
              | succ j => simp at hu)
            exact wp_skip' hrun (hn _ _ _ _ _ _ h7 hst.2 hst.1 (by simp) (.t _ _ (.any _)))
          | false =>
            rw [hsz, cond_false] at hs
            obtain ⟨h1, h2, h3, h4, h5, h6, h6', h7⟩ := hs
            have h1 := h1.out
            have h2 := h2.out
            have h3 := h3.out
            have h4 := h4.out
            have h5 := h5.out
            have h6 := h6.out
            have h6' := h6'.out
            rw [forceSto_iff] at h7
            obtain ⟨b, o1, cap, vals, g1, g3, g4, g5, g6, g7, g8, g9, g10, hm⟩ := place h1 (by omega)
            subst h2
            rw [Nat.add_zero] at hm
            have hle : (i + 1) * sz ≤ cap * sz := Nat.mul_le_mul_right _ (by omega)
            rw [Nat.add_mul, Nat.one_mul] at hle
            have hfit : o1 + i * sz + (tt.at t).size ≤ vals.size := by omega
            have hrun := run b (o1 + i * sz) vals E hm g5 (by omega) (one h6) hfit
            have hsp : ∀ j, (vals.toList.take (o1 + i * sz) ++ us.toList ++ vals.toList.drop (o1 + i * sz + (tt.at t).size))[j]? = if o1 + i * sz ≤ j ∧ j < o1 + i * sz + (tt.at t).size then us[j - (o1 + i * sz)]? else vals[j]? := by
              intro j
              have h := splice_get vals.toList us.toList (o1 + i * sz) j (by simp; omega)
              rw [show us.toList.length = (tt.at t).size by simp; omega] at h
              rw [h]; simp
            have hyf : Flat [T.arr ys] := fun z hz c hc => by
              simp at hz
              subst hz
              exact noNst_nd.2 (leaf1_flat h6 hc).2
            have hst := r.storeFlat (xs' := xs.set i (.arr ys)) hk (fun z hz c hc => by
                rcases List.mem_or_eq_of_mem_set hz with h | h
                · exact h6' z h c hc
                · exact hyf z (by simp [h]) c hc) (by simp) (fun z hz => by
                rcases List.mem_or_eq_of_mem_set hz with h | h
                · exact g9 z h
                · rw [h]; show ys.length = sz; omega) g1 g3 g4 g5 g6 g7 g8 (vals.toList.take (o1 + i * sz) ++ us.toList ++ vals.toList.drop (o1 + i * sz + (tt.at t).size)).toArray (by simp; omega) (fun q z j u v hz hu hv => by
              rw [List.getElem?_toArray, hsp] at hv
              rw [List.getElem?_set] at hz
              by_cases hqi : i = q
              · subst hqi
                rw [if_pos rfl, if_pos h4] at hz
                injection hz with hz
                subst hz
                have hju : j < ys.length := (List.getElem?_eq_some_iff.1 (show ys[j]? = some u from hu)).1
                rw [if_pos (by omega), show o1 + i * sz + j - (o1 + i * sz) = j by omega] at hv
                exact ⟨huy j u v hu hv, (leaf1_flat h6 (List.mem_of_getElem? (show ys[j]? = some u from hu))).2, leaf1_one (h6 u (List.mem_of_getElem? (show ys[j]? = some u from hu))) (huy j u v hu hv)⟩
              · rw [if_neg hqi] at hz
                have hj : j < sz := by
                  have := (List.getElem?_eq_some_iff.1 hu).1
                  rw [g9 z (List.mem_of_getElem? hz)] at this; exact this
                have hne : ¬ (o1 + i * sz ≤ o1 + q * sz + j ∧ o1 + q * sz + j < o1 + i * sz + (tt.at t).size) := by
                  rintro ⟨q1, q2⟩
                  rcases Nat.lt_or_gt_of_ne hqi with h | h
                  · have := Nat.mul_le_mul_right sz (show i + 1 ≤ q by omega)
                    rw [Nat.add_mul, Nat.one_mul] at this; omega
                  · have := Nat.mul_le_mul_right sz (show q + 1 ≤ i by omega)
                    rw [Nat.add_mul, Nat.one_mul] at this; omega
                rw [if_neg hne] at hv
                have hco := g10 q z j u v hz hu hv
                have hnn : u.nd? = none := noNst_nd.1 (h6' z (List.mem_of_getElem? hz) u (List.mem_of_getElem? hu))
                have hv1 : VT F w u v := by cases u <;> first | exact hco | exact nomatch hnn
                have hone : v.oneCell' = true := by
                  have hql := (List.getElem?_eq_some_iff.1 hz).1
                  rcases hTr.1 [] _ nodeAt_nil with ⟨rfl, ad, ha⟩ | ⟨b2, o2, cap2, vals2, q1, _, _, q5, _, _, _, _, _, q11⟩
                  · simp at h4
                  · rw [q1] at g1
                    injection g1 with g1
                    injection g1 with e1 e2 e3 e4 e5
                    subst e1 e2
                    rw [q5] at g5
                    injection g5 with g5
                    injection g5 with g5
                    subst g5
                    have hjl : q * sz + j < xs.length * sz := by
                      have := Nat.mul_le_mul_right sz (show q + 1 ≤ xs.length by omega)
                      rw [Nat.add_mul, Nat.one_mul] at this; omega
                    have := q11 (q * sz + j) hjl
                    rw [← Nat.add_assoc] at this
                    simpa [Array.getD_eq_getD_getElem?, hv] using this
                exact ⟨hv1, hnn, hone⟩)
            exact wp_skip' hrun (hn _ _ _ _ _ _ h7 hst.2 hst.1 (by simp) (.t _ _ (.any _)))
    · exact hs.elim
  · exact hs.elim
end
end Go.Proofs.YtgnafgebenlffaaDoor.Am
