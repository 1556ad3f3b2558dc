/- What is read of an argument is a tree of its type. -/
import Derived.Test.YtgladinljapmkaaRows
import Derived.Test.YtgladinljapmkaaXI
import Derived.ChangeArms
/- What is read of an argument is a tree of its type. -/
namespace Go.Proofs.Ytgladinljapmkaa.Am
open Go Go.Proofs
set_option linter.unusedVariables false
set_option linter.unusedSimpArgs false
def elT (tt : Tab) (e : TypeId) (ys : List T) : T := mkT (tt.at e).ti.isAgg (tt.at e).size ys
def TyFs (p : TypeId → List T → Prop) : List (TypeId × Nat) → List T → Prop
  | [], xs => xs = []
  | f :: fs, xs => ∃ a b, xs = a ++ b ∧ p f.1 a ∧ TyFs p fs b
def TyC (tt : Tab) (B : Nat) : Nat → TypeId → List T → Prop
  | 0, _, _ => False
  | n + 1, t, xs => match (tt.at t).ti with
    | .bool => ∃ b, xs = [.bool b]
    | .int k => ∃ m, xs = [.int k m] ∧ (Lit.int k m).wf = true
    | .str => ∃ s, xs = [.str s] ∧ s.size ≤ B
    | .slice e => ∃ ys : List (List T), xs = [.sl (tt.at e).size (ys.map (elT tt e))] ∧ ys.length ≤ B ∧ ∀ y ∈ ys, TyC tt B n e y
    | .struct fs => TyFs (TyC tt B n) fs xs
    | _ => False
def offsL (tt : Tab) : Nat → List (TypeId × Nat) → Nat → Bool
  | k, [], s => Nat.beq k s
  | k, f :: fs, s => Nat.beq f.2 k && offsL tt (k + (tt.at f.1).size) fs s
def tyOk (tt : Tab) : Nat → TypeId → Bool
  | 0, _ => false
  | n + 1, t => match (tt.at t).ti with
    | .bool => true
    | .int _ => true
    | .str => true
    | .slice e => Nat.blt 0 (tt.at e).size && tyOk tt n e
    | .struct fs => offsL tt 0 fs (tt.at t).size && fs.all fun f => tyOk tt n f.1
    | _ => false
theorem list_of {α : Type} {p : Nat → α → Prop} : ∀ {n : Nat}, (∀ i, i < n → ∃ y, p i y) → ∃ ys : List α, ys.length = n ∧ ∀ i y, ys[i]? = some y → p i y
  | 0, _ => ⟨[], rfl, by simp⟩
  | n + 1, h => by
    obtain ⟨ys, h1, h2⟩ := list_of (n := n) fun i hi => h i (by omega)
    obtain ⟨y, hy⟩ := h n (by omega)
    refine ⟨ys ++ [y], by simp [h1], fun i z hz => ?_⟩
    rcases Nat.lt_or_ge i ys.length with hi | hi
    · rw [List.getElem?_append_left hi] at hz
      exact h2 i z hz
    · rw [List.getElem?_append_right hi] at hz
      have hi0 : i = n := by
        rcases Nat.eq_or_lt_of_le hi with e | e
        · omega
        · obtain ⟨d, hd⟩ : ∃ d, i - ys.length = d + 1 := ⟨i - ys.length - 1, by omega⟩
          rw [hd] at hz; simp at hz
      subst hi0
      rw [h1] at hz
      simp at hz
      subst hz
      exact hy
section
variable {H : Type}
theorem bulk_one (d : DataW H) : 1 ≤ Rows.uptoBulk d := by
  cases d with
  | lit l => cases l <;> simp [Rows.uptoBulk]
  | nil => simp [Rows.uptoBulk]
  | ptr d => simp [Rows.uptoBulk]
  | slice elems spare => simp [Rows.uptoBulk]
  | agg parts => simp [Rows.uptoBulk]
  | iface t d => simp [Rows.uptoBulk]
  | map entries => simp [Rows.uptoBulk]
  | held h => simp [Rows.uptoBulk]
theorem bulk_part {d : DataW H} {l : List (DataW H)} (h : d ∈ l) : Rows.uptoBulk d ≤ Rows.uptoBulkAll l := by
  induction l with
  | nil => cases h
  | cons x r ih =>
    simp only [Rows.uptoBulkAll]
    cases List.mem_cons.1 h with
    | inl e => subst e; omega
    | inr e => have := ih e; omega
theorem bulk_length (l : List (DataW H)) : l.length ≤ Rows.uptoBulkAll l := by
  induction l with
  | nil => simp
  | cons x r ih => have := bulk_one x; simp only [Rows.uptoBulkAll, List.length_cons]; omega
end
theorem TOk.cellsOf {P : Program} {t : TypeId} {e : TE} (h : TOk P t e) : P.cellsOf t = e.size := by
  obtain ⟨i, hi, hs, _⟩ := h.info
  unfold Program.cellsOf
  rw [hi]; simpa using hs
theorem tyOk_good {tt : Tab} {n : Nat} {t : TypeId} (h : tyOk tt n t = true) : (tt.at t).ti.good = true := by
  cases n with
  | zero => simp [tyOk] at h
  | succ n =>
    unfold tyOk at h
    split at h <;> first | (rename_i e; rw [e]; rfl) | simp at h
section
variable {P : Program} {tt : Tab} {B : Nat} {w : World} {H : Type} {enc : TypeId × Value → H} {spare : Nat → Bool} {held : Bool}
def Reads (tt : Tab) (B : Nat) (w : World) (n : Nat) (t : TypeId) (cs : List Value) (xs : List T) : Prop :=
  cs.length = (tt.at t).size ∧ xs.length = cs.length ∧ (∀ (i : Nat) (y : T) (v : Value), xs[i]? = some y → cs[i]? = some v → VT (fun b => b < w.heap.size) w y v ∧ v.oneCell' = true) ∧ TyC tt B n t xs ∧ ∀ y ∈ xs, y.cells = [y]
theorem Reads.one (ht : TabOk P tt) {n : Nat} {t : TypeId} (hg : (tt.at t).ti.good = true) (ha : (tt.at t).ti.isAgg = false) {v : Value} {y : T} (h1 : VT (fun b => b < w.heap.size) w y v) (h2 : v.oneCell' = true) (h3 : TyC tt B n t [y]) (h4 : y.cells = [y]) : Reads tt B w n t [v] [y] := by
  refine ⟨by rw [(ht.at t hg).one ha]; rfl, rfl, ?_, h3, by simpa using h4⟩
  intro i z u hz hu
  cases i with
  | zero => simp at hz hu; subst hz hu; exact ⟨h1, h2⟩
  | succ i => simp at hz
theorem elT_cells {e : TypeId} {y : List T} (h1 : y.length = (tt.at e).size) (h2 : ∀ z ∈ y, z.cells = [z]) (h3 : (tt.at e).ti.isAgg = false → (tt.at e).size = 1) : (elT tt e y).cells = y := by
  unfold elT mkT
  cases ha : (tt.at e).ti.isAgg with
  | true => simp only [cond_true, T.cells]; exact List.take_of_length_le (by omega)
  | false =>
    rw [h3 ha] at h1
    obtain ⟨z, rfl⟩ := List.length_eq_one_iff.1 h1
    simp only [cond_false, List.headD_cons]
    exact h2 z (by simp)
theorem read_fields (ht : TabOk P tt) {n m : Nat} {cs : List Value} {s : Nat} (hcs : cs.length = s)
    (ih : ∀ (t : TypeId), tyOk tt n t = true → ∀ (cs : List Value) (x : DataW H × List MemPlace), DataW.trod enc P w 0 spare held m t cs = some x → Rows.uptoBulk x.1 ≤ B → ∃ xs, Reads tt B w n t cs xs) :
    ∀ (l : List (TypeId × Nat)) (ds : List (DataW H × List MemPlace)) (k : Nat), offsL tt k l s = true → (l.all fun f => tyOk tt n f.1) = true → ds.length = l.length →
      (∀ (i : Nat) (f : TypeId × Nat), l[i]? = some f → DataW.trod enc P w 0 spare held m f.1 ((cs.drop f.2).take (tt.at f.1).size) = ds[i]?) → Rows.uptoBulkAll (ds.map (·.1)) ≤ B →
      ∃ xs : List T, k + xs.length = s ∧ (∀ (i : Nat) (y : T) (v : Value), xs[i]? = some y → cs[k + i]? = some v → VT (fun b => b < w.heap.size) w y v ∧ v.oneCell' = true) ∧ TyFs (TyC tt B n) l xs ∧ ∀ y ∈ xs, y.cells = [y]
  | [], ds, k, ho, _, _, _, _ => ⟨[], by simpa [offsL] using ho, by simp, rfl, by simp⟩
  | f :: fs, ds, k, ho, ha, hl, hd, hb => by
    simp only [offsL, Bool.and_eq_true] at ho
    have ho1 := Nat.eq_of_beq_eq_true ho.1
    simp only [List.all_cons, Bool.and_eq_true] at ha
    obtain ⟨d, ds', rfl⟩ : ∃ d ds', ds = d :: ds' := by cases ds with | nil => simp at hl | cons d ds' => exact ⟨d, ds', rfl⟩
    simp only [List.map_cons, Rows.uptoBulkAll] at hb
    have h0 := hd 0 f rfl
    obtain ⟨xs, r1, r2, r3, r4, r5⟩ := ih f.1 ha.1 _ d h0 (by omega)
    obtain ⟨ys, q1, q2, q3, q4⟩ := read_fields ht hcs ih fs ds' (k + (tt.at f.1).size) ho.2 ha.2 (by simpa using hl) (fun i g hg => by have := hd (i + 1) g (by simpa using hg); simpa using this) (by omega)
    rw [r1] at r2
    refine ⟨xs ++ ys, by simp; omega, ?_, ⟨xs, ys, rfl, r4, q3⟩, ?_⟩
    · intro i y v hy hv
      rcases Nat.lt_or_ge i xs.length with hi | hi
      · rw [List.getElem?_append_left hi] at hy
        refine r3 i y v hy ?_
        rw [List.getElem?_take_of_lt (by omega), List.getElem?_drop, ho1]
        exact hv
      · rw [List.getElem?_append_right hi] at hy
        refine q2 _ y v hy ?_
        rw [show k + (tt.at f.1).size + (i - xs.length) = k + i by omega]
        exact hv
    · intro y hy
      rcases List.mem_append.1 hy with h | h
      · exact r5 y h
      · exact q4 y h
theorem read_tree (ht : TabOk P tt) (hB : B ≤ 2 ^ 48) : ∀ (n : Nat) (t : TypeId), tyOk tt n t = true → ∀ (m : Nat) (cs : List Value) (x : DataW H × List MemPlace), DataW.trod enc P w 0 spare held m t cs = some x → Rows.uptoBulk x.1 ≤ B → ∃ xs, Reads tt B w n t cs xs
  | 0, t, h, _, _, _, _, _ => by simp [tyOk] at h
  | n + 1, t, h, m, cs, x, hx, hb => by
    have hg := tyOk_good h
    have hT := ht.at t hg
    unfold tyOk at h
    split at h
    · rename_i hti
      obtain ⟨b, rfl, rfl⟩ := DataW.trod_bool (und_bool hT hti) hx
      exact ⟨[.bool b], Reads.one ht hg (by rw [hti]; rfl) (.bool b) rfl (by unfold TyC; rw [hti]; exact ⟨b, rfl⟩) rfl⟩
    · rename_i k hti
      obtain ⟨z, rfl, rfl, hz⟩ := DataW.trod_int (und_int hT hti) hx
      exact ⟨[.int k z], Reads.one ht hg (by rw [hti]; rfl) (.int k z) rfl (by unfold TyC; rw [hti]; exact ⟨z, rfl, hz⟩) rfl⟩
    · rename_i hti
      obtain ⟨s, rfl, rfl, hz⟩ := DataW.trod_string (und_str hT hti) hx
      simp only [Rows.uptoBulk] at hb
      exact ⟨[.str s], Reads.one ht hg (by rw [hti]; rfl) (.str s) rfl (by unfold TyC; rw [hti]; exact ⟨s, rfl, by rw [Array.length_toList] at hb; exact Nat.le_of_succ_le hb⟩) rfl⟩
    · rename_i e hti
      simp only [Bool.and_eq_true, Nat.blt_eq] at h
      obtain ⟨hpos, he⟩ := h
      have hge := tyOk_good he
      have hce := (ht.at e hge).cellsOf
      have hag : (tt.at t).ti.isAgg = false := by rw [hti]; rfl
      have hone : (tt.at e).ti.isAgg = false → (tt.at e).size = 1 := fun h => (ht.at e hge).one h
      rcases DataW.trod_slice (und_slice hT hti) hx with ⟨rfl, rfl⟩ | ⟨a, len, cap, elems, rest, m', rfl, rfl, rfl, _, hlc, _, hlen, hel, _, _⟩
      · exact ⟨[.sl (tt.at e).size []], Reads.one ht hg hag (.sl0 _ _ _) rfl (by unfold TyC; rw [hti]; exact ⟨[], rfl, Nat.zero_le _, by simp⟩) rfl⟩
      · rw [hce] at hel
        simp only [Rows.uptoBulk] at hb
        have hl1 := bulk_length (elems.map (·.1))
        rw [List.length_map] at hl1
        obtain ⟨ys, hys, hyp⟩ := list_of (n := len) (p := fun i y => ∃ ci, w.cells? 0 (a.add (i * (tt.at e).size)) (tt.at e).size = some ci ∧ Reads tt B w n e ci y) fun i hi => by
          have h1 := hel i hi
          rw [List.getElem?_eq_getElem (by omega : i < elems.length), Option.bind_eq_some_iff] at h1
          obtain ⟨ci, h2, h3⟩ := h1
          have h4 := bulk_part (List.mem_map_of_mem (f := (·.1)) (List.getElem_mem (by omega : i < elems.length)))
          obtain ⟨y, hy⟩ := read_tree ht hB n e he m' ci _ h3 (by omega)
          exact ⟨y, ci, h2, hy⟩
        have hlB : ys.length ≤ B := by omega
        have hty : TyC tt B (n + 1) t [.sl (tt.at e).size (ys.map (elT tt e))] := by
          unfold TyC
          rw [hti]
          refine ⟨ys, rfl, hlB, fun y hy => ?_⟩
          obtain ⟨i, hi⟩ := List.getElem?_of_mem hy
          obtain ⟨ci, _, hr⟩ := hyp i y hi
          exact hr.2.2.2.1
        refine ⟨[.sl (tt.at e).size (ys.map (elT tt e))], Reads.one ht hg hag ?_ rfl hty rfl⟩
        rcases Nat.eq_zero_or_pos len with h0 | hpl
        · subst h0
          have : ys = [] := List.eq_nil_of_length_eq_zero hys
          subst this
          exact .sl0 _ _ _
        · have hcell : ∀ i, i < len → ∃ y ci, ys[i]? = some y ∧ Reads tt B w n e ci y ∧ ∀ j, j < (tt.at e).size → w.cell? ((a.add (i * (tt.at e).size)).add j) = ci[j]? := by
            intro i hi
            have hyi := List.getElem?_eq_getElem (show i < ys.length by omega)
            obtain ⟨ci, h1, h2⟩ := hyp i _ hyi
            refine ⟨_, ci, hyi, h2, fun j hj => ?_⟩
            unfold World.cells? at h1
            rw [if_pos (Nat.zero_le _)] at h1
            exact mapM_some_get h1 j j (by simp [hj])
          obtain ⟨b, off, sp⟩ := a
          have hsp : sp = none ∧ b < w.heap.size := by
            obtain ⟨y, ci, _, h2, h3⟩ := hcell 0 hpl
            have h4 := h3 0 hpos
            simp only [Nat.zero_mul, Addr.add, if_true] at h4
            rw [List.getElem?_eq_getElem (by rw [h2.1]; exact hpos)] at h4
            refine ⟨?_, World.block_lt_of_cell? w _ h4⟩
            unfold World.cell? at h4
            split at h4
            · cases sp with
              | none => rfl
              | some z => simp at h4
            · simp at h4
          obtain ⟨rfl, hbl⟩ := hsp
          have hadd : ∀ i j, ((⟨b, off, none⟩ : Addr).add i).add j = ⟨b, off + (i + j), none⟩ := by
            intro i j
            unfold Addr.add
            by_cases hi : i = 0 <;> by_cases hj : j = 0 <;> simp [hi, hj, Nat.add_assoc]
          have hcell' : ∀ i, i < len → ∃ y ci, ys[i]? = some y ∧ Reads tt B w n e ci y ∧ ∀ j, j < (tt.at e).size → w.cell? ⟨b, off + (i * (tt.at e).size + j), none⟩ = ci[j]? := by
            intro i hi
            obtain ⟨y, ci, h1, h2, h3⟩ := hcell i hi
            refine ⟨y, ci, h1, h2, fun j hj => ?_⟩
            rw [← h3 j hj, hadd]
          have hvt := VT.sl (F := fun b => b < w.heap.size) (w := w) (tt.at e).size (ys.map (elT tt e)) b off cap (fun j => (w.cell? ⟨b, off + j, none⟩).getD undef)
            (by intro hn; simp at hn; rw [hn] at hys; simp at hys; omega) (by rw [List.length_map]; omega) (by rw [List.length_map]; omega) hbl ?_ ?_ ?_ ?_
          · rw [List.length_map, hys] at hvt
            exact hvt
          · intro x hx
            obtain ⟨y, hy, rfl⟩ := List.mem_map.1 hx
            obtain ⟨i, hi⟩ := List.getElem?_of_mem hy
            obtain ⟨ci, _, hr⟩ := hyp i y hi
            rw [elT_cells (by rw [hr.2.1, hr.1]) hr.2.2.2.2 hone, hr.2.1, hr.1]
          · intro j hj
            rw [List.length_map, hys] at hj
            obtain ⟨y, ci, _, h2, h3⟩ := hcell' (j / (tt.at e).size) (Nat.div_lt_of_lt_mul (by rw [Nat.mul_comm]; exact hj))
            have h4 := h3 (j % (tt.at e).size) (Nat.mod_lt _ hpos)
            rw [show j / (tt.at e).size * (tt.at e).size + j % (tt.at e).size = j by rw [Nat.mul_comm]; exact Nat.div_add_mod _ _] at h4
            rw [h4, List.getElem?_eq_getElem (by rw [h2.1]; exact Nat.mod_lt _ hpos)]
            rfl
          · intro j hj
            rw [List.length_map, hys] at hj
            obtain ⟨y, ci, _, h2, h3⟩ := hcell' (j / (tt.at e).size) (Nat.div_lt_of_lt_mul (by rw [Nat.mul_comm]; exact hj))
            have h4 := h3 (j % (tt.at e).size) (Nat.mod_lt _ hpos)
            have hm : j % (tt.at e).size < ci.length := by rw [h2.1]; exact Nat.mod_lt _ hpos
            rw [show j / (tt.at e).size * (tt.at e).size + j % (tt.at e).size = j by rw [Nat.mul_comm]; exact Nat.div_add_mod _ _] at h4
            simp only [h4, List.getElem?_eq_getElem hm, Option.getD_some]
            exact (h2.2.2.1 _ _ _ (List.getElem?_eq_getElem (by rw [h2.2.1]; exact hm)) (List.getElem?_eq_getElem hm)).2
          · intro i x j z hx hz
            rw [List.getElem?_map, Option.map_eq_some_iff] at hx
            obtain ⟨y, hy, rfl⟩ := hx
            have hi : i < len := by have := (List.getElem?_eq_some_iff.1 hy).1; omega
            obtain ⟨y', ci, h1, h2, h3⟩ := hcell' i hi
            rw [hy] at h1
            cases h1
            rw [elT_cells (by rw [h2.2.1, h2.1]) h2.2.2.2.2 hone] at hz
            have hj := (List.getElem?_eq_some_iff.1 hz).1
            have hm : j < ci.length := by rw [← h2.2.1]; exact hj
            have h4 := h3 j (by rw [← h2.1]; exact hm)
            simp only [h4, List.getElem?_eq_getElem hm, Option.getD_some]
            exact (h2.2.2.1 _ _ _ hz (List.getElem?_eq_getElem hm)).1
    · rename_i fs hti
      simp only [Bool.and_eq_true] at h
      obtain ⟨fields, hu, hf⟩ := und_struct hT hti
      obtain ⟨ds, m', rfl, rfl, hcl, hdl, hdf⟩ := DataW.trod_struct hu hx
      rw [hT.cellsOf] at hcl
      simp only [Rows.uptoBulk] at hb
      have hfl : fs.length = fields.size := by rw [← hf]; simp
      obtain ⟨xs, q1, q2, q3, q4⟩ := read_fields (enc := enc) (spare := spare) (held := held) (m := m') ht hcl (fun t' ht' cs' x' hx' hb' => read_tree ht hB n t' ht' m' cs' x' hx' hb') fs ds 0 h.1 h.2 (by omega) (fun i f hif => by
        rw [← hf, List.getElem?_map, Option.map_eq_some_iff] at hif
        obtain ⟨fd, h1, rfl⟩ := hif
        have h2 := hdf i fd (by simpa using h1)
        have hfo : tyOk tt n fd.type = true := (List.all_eq_true.1 h.2) (fd.type, fd.offset) (by rw [← hf]; exact List.mem_map.2 ⟨fd, List.mem_of_getElem? h1, rfl⟩)
        rw [(ht.at fd.type (tyOk_good hfo)).cellsOf] at h2
        exact h2) (by omega)
      refine ⟨xs, hcl, by omega, fun i y v hy hv => q2 i y v hy (by rw [Nat.zero_add]; exact hv), ?_, q4⟩
      unfold TyC
      rw [hti]
      exact q3
    · exact absurd h (by simp)
end
end Go.Proofs.Ytgladinljapmkaa.Am
