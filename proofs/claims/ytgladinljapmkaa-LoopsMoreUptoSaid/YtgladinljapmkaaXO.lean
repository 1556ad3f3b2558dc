/- The keys of a map, sorted. -/
import Derived.Test.YtgladinljapmkaaXM
import Derived.Test.YtgladinljapmkaaXN
/- The keys of a map, sorted. -/
namespace Go.Proofs.Ytgladinljapmkaa.Am
open Go Go.Proofs Go.RowKit Go.Maps Go.Sort Go.Shelf
set_option maxRecDepth 10000
set_option maxHeartbeats 2000000
set_option linter.unusedVariables false
set_option linter.unusedSimpArgs false
def I64 (n : Int) : Prop := (Lit.int .i64 n).wf = true
theorem keys77 (es : List (Int × T)) : PCalls Try.prog 46 [.map .i64 es] (fun r => r = .fn 51 [.box (.map .i64 es)]) := by
  unfold PCalls
  refine ⟨⟨Try.f46, Try.func46, rfl, rfl⟩, ?_⟩
  intro F w vs h1 h2 h3
  obtain ⟨v, rfl⟩ := List.length_eq_one_iff.1 h1
  have hv := h2 0 _ _ rfl rfl
  cases hv with
  | map _ _ r ents clock hF hh hs hk hvv hb =>
    refine ((callsIn_wide (n := 5)).1 (AnyZI.keys_in Try.keysA Fence.wide 5 trivial rfl (some r) w)).mono ?_
    rintro e w' ⟨rfl, rfl⟩
    have hold : ∀ b, b < w.heap.size → (w.alloc (.cells #[.map (some r)] (Try.keysA_ren.t 23))).heap[b]? = w.heap[b]? := fun b hb => Below.heap_alloc w _ b hb
    have hcell : (w.alloc (.cells #[.map (some r)] (Try.keysA_ren.t 23))).cell? ⟨w.heap.size, 0, none⟩ = some (.map (some r)) := by
      unfold World.cell?
      rw [heap_alloc_new w _]
      rfl
    have hm : VT F w (.map .i64 es) (.map (some r)) := .map _ _ r ents clock hF hh hs hk hvv hb
    refine ⟨_, _, fun b => F b ∨ b = w.heap.size, rfl, rfl, ?_, ?_, ?_, fun b hb => .inl hb, ((Below.refl _ w).alloc (Nat.le_refl _) _)⟩
    · refine .fn 51 _ _ rfl fun i x v hx hv => ?_
      cases i with
      | zero =>
        simp at hx hv
        subst hx hv
        refine .box _ w.heap.size _ (.inr rfl) hcell ?_
        exact hm.mono (fun b hb => .inl hb) fun b hb hbl => hold b hbl
      | succ i => simp at hx
    · rintro b (hb | rfl)
      · exact .inl hb
      · exact .inr (Nat.le_refl _)
    · rintro b (hb | rfl)
      · have := h3.lt b hb; simp; omega
      · simp
theorem sortsA (m : Nat) : AnyZI.SortsIn Try.prog Try.sortedA_ren Fence.wide m :=
  ⟨fun blk off cap ss W hH hblk hsz => callsIn_wide.2 (AnyM.slices_Sort_int Try.sortA blk off cap ss W hH hblk hsz),
   fun p cap W => callsIn_wide.2 (AnyM.slices_Sort_int_none Try.sortA p cap W)⟩
theorem pair_nodup {es : List (Int × T)} (h : (es.map (·.1)).Nodup) {i j : Nat} (hi : i < es.length) (hj : j < es.length) (e : es[i].1 = es[j].1) : i = j := by
  rcases Nat.lt_trichotomy i j with h1 | h1 | h1
  · unfold List.Nodup at h
    rw [List.pairwise_iff_getElem] at h
    have := h i j (by simpa using hi) (by simpa using hj) h1
    simp at this
    exact absurd e this
  · exact h1
  · unfold List.Nodup at h
    rw [List.pairwise_iff_getElem] at h
    have := h j i (by simpa using hj) (by simpa using hi) h1
    simp at this
    exact absurd e.symm this
abbrev noElem : Value → Option (DataW Unit × List MemPlace) := fun _ => some (.nil, [])
theorem sorted76 (es : List (Int × T)) (hw : ∀ p ∈ es, I64 p.1) (hl : es.length ≤ 2 ^ 21) (hnd : (es.map (·.1)).Nodup) : PCalls Try.prog 45 [.fn 51 [.box (.map .i64 es)]] (fun r => r = ilist (srt (es.map (·.1)))) := by
  unfold PCalls
  refine ⟨⟨Try.f45, Try.func45, rfl, rfl⟩, ?_⟩
  intro F w vs h1 h2 h3
  obtain ⟨v, rfl⟩ := List.length_eq_one_iff.1 h1
  have hv := h2 0 _ _ rfl rfl
  cases hv with
  | fn _ _ lb hsz hlb =>
    obtain ⟨u, hu⟩ : ∃ u, lb = #[u] := Array.size_eq_one_iff.1 hsz
    subst hu
    have hbx := hlb 0 _ _ rfl rfl
    cases hbx with
    | box _ bm mv hFb hcell hmv =>
      cases hmv with
      | map _ _ r ents clock hF hh hs hk hvv hb =>
        have hkey : ∀ (i : Nat) (hi : i < ents.size), (ents[i]).key = .int .i64 (es[i]'(by omega)).1 := fun i hi => hk i _ _ (List.getElem?_eq_getElem (by omega)) (Array.getElem?_eq_getElem hi)
        have hrd : ∀ x ∈ ents.toList, ∃ n, I64 n ∧ x.key = .int .i64 n := fun x hx => by
          obtain ⟨i, hi, rfl⟩ := List.getElem_of_mem hx
          simp only [Array.length_toList] at hi
          exact ⟨_, hw _ (List.getElem_mem (by omega : i < es.length)), by rw [Array.getElem_toList]; exact hkey i hi⟩
        have hfit : WideElems.Fit Try.prog 3 noElem ents clock := by
          refine ⟨by have : es.length ≤ 2 ^ 63 - 1 := Nat.le_trans hl (Nat.le_of_ble_eq_true rfl); unfold maxLen; omega, ⟨?_, ?_, ?_⟩, ?_⟩
          · intro x hx
            obtain ⟨i, hi, rfl⟩ := List.getElem_of_mem hx
            simp only [Array.length_toList] at hi
            rw [Array.getElem_toList]
            exact (hb.old i _ (Array.getElem?_eq_getElem hi)).1
          · unfold List.Nodup
            rw [List.pairwise_iff_getElem]
            intro i j hi hj hij e
            simp at hi hj e
            have := (hb.old i _ (Array.getElem?_eq_getElem hi)).2 j _ (Array.getElem?_eq_getElem hj) e
            omega
          · unfold List.Nodup
            rw [List.pairwise_iff_getElem]
            intro i j hi hj hij e
            simp at hi hj e
            rw [hkey i hi, hkey j hj] at e
            have := pair_nodup hnd (by omega : i < es.length) (by omega : j < es.length) (by simpa using e)
            omega
          · intro x hx
            obtain ⟨n, hn, hxk⟩ := hrd x hx
            refine ⟨(.int .i64 n, .nil), ?_⟩
            unfold WideElems.rd
            rw [hxk, keyOf_int_mk Try.underlying3 hn]
            rfl
        have hD : ∀ x ∈ ents.toList, (WideElems.rg Try.prog 3 noElem x).1 = (match x.key with | .int .i64 n => .int .i64 n | _ => .bool false) := fun x hx => by
          obtain ⟨n, hn, hxk⟩ := hrd x hx
          unfold WideElems.rg WideElems.rd
          rw [hxk, keyOf_int_mk Try.underlying3 hn]
          rfl
        have hperm : (intKeys (DataW.map ((ents.toList.map (WideElems.rg Try.prog 3 noElem)).foldr DataW.insert []))).Perm (es.map (·.1)) := by
          refine ((WideShapes.sorted_perm _).map _).trans ?_
          rw [List.map_map]
          have e : ents.toList.map ((fun p : Lit × DataW Unit => Go.intOf p.1) ∘ WideElems.rg Try.prog 3 noElem) = es.map (·.1) := by
            apply List.ext_getElem
            · simp [hs]
            · intro i h1 h2
              simp only [List.getElem_map, Function.comp]
              simp only [List.length_map, Array.length_toList] at h1
              rw [hD _ (List.getElem_mem _), Array.getElem_toList, hkey i h1]
              rfl
          rw [e]
        have hown : w.ownsMap Try.prog 3 noElem r ents.size (DataW.map ((ents.toList.map (WideElems.rg Try.prog 3 noElem)).foldr DataW.insert [])) := ⟨ents, clock, hh, hfit, Nat.le_refl _, rfl⟩
        have hsz : Maps.size (DataW.map ((ents.toList.map (WideElems.rg Try.prog 3 noElem)).foldr DataW.insert [])) ≤ 2 ^ 21 := by
          rw [Maps.size_eq, (WideShapes.sorted_perm _).length_eq]
          simp
          omega
        have hseq := AnyZI.keys_gives (ρ := Try.keysA_ren) { Try.keysA with } Fence.wide 2 trivial rfl (by omega) bm r ents.size _ w (h3.lt bm hFb) hcell hown
        have cS := AnyZI.sorted_in Try.sortedA Fence.wide 5 trivial trivial trivial trivial rfl (by omega) (sortsA _) (enters_of Try.func50 (by kernel_rfl) rfl) 51 #[.pointer (some ⟨bm, 0, none⟩)] trivial (enters_of Try.func51 (by kernel_rfl) rfl) _ _
          (Nat.le_trans hsz (Nat.le_of_ble_eq_true rfl)) (by omega) w hseq
        refine ((callsIn_wide (n := 5)).1 cS).mono ?_
        rintro e w' ⟨v, ss, rfl, hS, hrow, hnil, hbel⟩
        have hsrt : (ss.mergeSort fun x y => decide (x ≤ y)) = srt (es.map (·.1)) := by
          have hp2 := List.mergeSort_perm ss fun x y : Int => decide (x ≤ y)
          refine srt_unique (asc_of ?_ ?_) fun x => ?_
          · have h := List.pairwise_mergeSort (le := fun x y : Int => decide (x ≤ y)) (fun a b c h1 h2 => by simp at *; omega) (fun a b => by simp; omega) ss
            exact h.imp fun h => by simpa using h
          · exact (hp2.trans (hS.trans hperm)).nodup_iff.2 hnd
          · exact (hp2.trans (hS.trans hperm)).mem_iff
        have hlen : ss.length = (srt (es.map (·.1))).length := by rw [← hsrt, List.length_mergeSort]
        rw [hsrt] at hrow
        have hle : (srt (es.map (·.1))).length ≤ 2 ^ 48 := by
          have h1 := srt_length (es.map (·.1))
          rw [List.length_map] at h1
          exact Nat.le_trans h1 (Nat.le_trans hl (Nat.le_of_ble_eq_true rfl))
        rcases hrow.2 with ⟨rfl, h0⟩ | ⟨g, cap, cur, rfl, hbase, hgb, r1, r2, r3, r4⟩
        · have e0 : srt (es.map (·.1)) = [] := List.eq_nil_of_length_eq_zero (by omega)
          refine ⟨_, _, F, rfl, rfl, ?_, fun b hb => .inl hb, fun b hb => by have := h3.lt b hb; have := hbel.size; omega, fun _ h => h, hbel⟩
          rw [e0]
          exact VT.sl0 1 none 0
        · rw [Nat.mul_one] at r3 r4
          have hcur : ∀ j, j < (srt (es.map (·.1))).length → cur[j]? = some (.int .i64 ((srt (es.map (·.1))).getD j 0)) := by
            intro j hj
            have h1 : (cur.toList.take ss.length)[j]? = ((srt (es.map (·.1))).map encZ)[j]? := by rw [r4]
            rw [List.getElem?_take_of_lt (by omega), List.getElem?_map, List.getElem?_eq_getElem hj] at h1
            rw [← Array.getElem?_toList, h1]
            simp [encZ, List.getD_eq_getElem?_getD, List.getElem?_eq_getElem hj]
          have hgl : g < w'.heap.size := (Array.getElem?_eq_some_iff.1 hgb).1
          refine ⟨_, _, fun b => F b ∨ b = g, rfl, rfl, ?_, ?_, ?_, fun _ h => .inl h, hbel⟩
          · by_cases hne : srt (es.map (·.1)) = []
            · rw [hne] at hlen ⊢
              simp at hlen
              subst hlen
              exact VT.sl0 1 _ _
            · have hll : ((srt (es.map (·.1))).map fun n => T.int .i64 n).length = ss.length := by rw [List.length_map, hlen]
              show VT _ w' (.sl 1 ((srt (es.map (·.1))).map fun n => T.int .i64 n)) (.slice (some ⟨g, 0, none⟩) ss.length cap)
              rw [← hll]
              refine VT.sl 1 _ g 0 cap (fun j => cur.getD j undef) (by simpa using hne) (by rw [hll]; omega) (by rw [hll, hlen]; exact hle) (.inr rfl) ?_ ?_ ?_ ?_
              · intro x hx
                obtain ⟨n, _, rfl⟩ := List.mem_map.1 hx
                rfl
              · intro j hj
                rw [List.length_map, Nat.mul_one] at hj
                rw [Nat.zero_add]
                exact cell_of hgb (Array.getElem?_eq_some_iff.1 (hcur j hj)).1
              · intro j hj
                rw [List.length_map, Nat.mul_one] at hj
                rw [Array.getD_eq_getD_getElem?, hcur j hj]
                rfl
              · intro i x j y hx hy
                rw [List.getElem?_map, Option.map_eq_some_iff] at hx
                obtain ⟨n, hn, rfl⟩ := hx
                have hi := (List.getElem?_eq_some_iff.1 hn).1
                cases j with
                | zero =>
                  simp [T.cells] at hy
                  subst hy
                  rw [Nat.mul_one, Nat.add_zero, Array.getD_eq_getD_getElem?, hcur i hi, List.getD_eq_getElem?_getD, hn]
                  exact .int _ _
                | succ j => simp [T.cells] at hy
          · rintro b (hb | rfl)
            · exact .inl hb
            · exact .inr hbase
          · rintro b (hb | rfl)
            · have := h3.lt b hb; have := hbel.size; omega
            · exact hgl
end Go.Proofs.Ytgladinljapmkaa.Am
