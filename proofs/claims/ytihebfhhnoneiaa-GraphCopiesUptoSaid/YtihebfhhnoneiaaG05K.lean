/- The two answers for an instruction are one. -/
import Derived.Test.YtihebfhhnoneiaaG05J
namespace Go.Proofs.Ytihebfhhnoneiaa.Am
open Go Go.Proofs
set_option maxRecDepth 10000
set_option maxHeartbeats 2000000
set_option linter.unusedVariables false
set_option linter.unusedSimpArgs false

theorem gcall_eq (m : Module) (g : Graph) (x : Ins) : gcallN m g x = callN m g x := by
  unfold gcallN callN
  rw [Bool.eq_iff_iff]
  simp only [Bool.and_eq_true, eqI_iff, decide_eq_true_eq]
  grind

theorem instr_eq (m : Module) (g : Graph) (x : Ins) (h1 : x.args.length ≤ 2 ^ 20) (h2 : x.arrs.length ≤ 2 ^ 20) : instrN m g x = insN m g x := by
  have ha : addI .i64 (x.args.length : Int) (x.arrs.length : Int) = x.args.length + x.arrs.length := addI_i64 (by omega) (by omega)
  have hb := bel_iff (n := x.d) (m := g.temps)
  by_cases c1 : x.op = 1
  · have hk : kindN x.op = 1 := by simp [kindN, c1]
    have hf : formN x.op = ⟨true, true, false, false, false, false, true⟩ := by simp [formN, c1, eqI, leI]
    simp [instrN, insN, plainN, setsN, usesN, hk, hf, ha, eqI, ltI, bif_and, bif_or, bel, gcall_eq]
    simp only [c1, ← List.length_eq_zero_iff]
    grind
  by_cases c25 : x.op = 25
  · have hk : kindN x.op = 4 := by simp [kindN, c25]
    have hf : formN x.op = ⟨false, true, false, false, true, false, true⟩ := by simp [formN, c25, eqI, leI]
    simp [instrN, insN, plainN, setsN, usesN, hk, hf, ha, eqI, ltI, bif_and, bif_or, bel, gcall_eq]
    simp only [c25, ← List.length_eq_zero_iff]
    grind
  by_cases c26 : x.op = 26
  · have hk : kindN x.op = 5 := by simp [kindN, c26]
    have hf : formN x.op = ⟨false, false, true, false, true, false, true⟩ := by simp [formN, c26, eqI, leI]
    simp [instrN, insN, plainN, setsN, usesN, hk, hf, ha, eqI, ltI, bif_and, bif_or, bel, gcall_eq]
    simp only [c26, ← List.length_eq_zero_iff]
    grind
  by_cases c27 : x.op = 27
  · have hk : kindN x.op = 6 := by simp [kindN, c27]
    have hf : formN x.op = ⟨false, true, true, false, true, false, true⟩ := by simp [formN, c27, eqI, leI]
    simp [instrN, insN, plainN, setsN, usesN, hk, hf, ha, eqI, ltI, bif_and, bif_or, bel, gcall_eq]
    simp only [c27, ← List.length_eq_zero_iff]
    grind
  by_cases c28 : x.op = 28
  · have hk : kindN x.op = 7 := by simp [kindN, c28]
    have hf : formN x.op = ⟨false, false, true, true, true, false, true⟩ := by simp [formN, c28, eqI, leI]
    simp [instrN, insN, plainN, setsN, usesN, hk, hf, ha, eqI, ltI, bif_and, bif_or, bel, gcall_eq]
    simp only [c28, ← List.length_eq_zero_iff]
    grind
  by_cases c29 : x.op = 29
  · have hk : kindN x.op = 8 := by simp [kindN, c29]
    have hf : formN x.op = ⟨false, true, false, false, true, true, true⟩ := by simp [formN, c29, eqI, leI]
    simp [instrN, insN, plainN, setsN, usesN, hk, hf, ha, eqI, ltI, bif_and, bif_or, bel, gcall_eq]
    simp only [c29, ← List.length_eq_zero_iff]
    grind
  by_cases c30 : x.op = 30
  · have hk : kindN x.op = 9 := by simp [kindN, c30]
    have hf : formN x.op = ⟨false, true, false, false, false, false, true⟩ := by simp [formN, c30, eqI, leI]
    simp [instrN, insN, plainN, setsN, usesN, hk, hf, ha, eqI, ltI, bif_and, bif_or, bel, gcall_eq]
    simp only [c30, ← List.length_eq_zero_iff]
    grind
  by_cases c31 : x.op = 31
  · have hk : kindN x.op = 10 := by simp [kindN, c31]
    have hf : formN x.op = ⟨false, false, true, false, false, false, true⟩ := by simp [formN, c31, eqI, leI]
    simp [instrN, insN, plainN, setsN, usesN, hk, hf, ha, eqI, ltI, bif_and, bif_or, bel, gcall_eq]
    simp only [c31, ← List.length_eq_zero_iff]
    grind
  by_cases c32 : x.op = 32
  · have hk : kindN x.op = 10 := by simp [kindN, c32]
    have hf : formN x.op = ⟨false, false, true, false, false, false, true⟩ := by simp [formN, c32, eqI, leI]
    simp [instrN, insN, plainN, setsN, usesN, hk, hf, ha, eqI, ltI, bif_and, bif_or, bel, gcall_eq]
    simp only [c32, ← List.length_eq_zero_iff]
    grind
  have e1 : eqI x.op 1 = false := eqI_not.2 c1
  have e25 : eqI x.op 25 = false := eqI_not.2 c25
  have e26 : eqI x.op 26 = false := eqI_not.2 c26
  have e27 : eqI x.op 27 = false := eqI_not.2 c27
  have e28 : eqI x.op 28 = false := eqI_not.2 c28
  have e29 : eqI x.op 29 = false := eqI_not.2 c29
  have e30 : eqI x.op 30 = false := eqI_not.2 c30
  have e31 : eqI x.op 31 = false := eqI_not.2 c31
  have e32 : eqI x.op 32 = false := eqI_not.2 c32
  by_cases c2 : 2 ≤ x.op ∧ x.op ≤ 5
  · have hk : kindN x.op = 2 := by unfold kindN; rw [if_neg (by omega)]; rw [if_pos c2]
    have l2 : (leI 2 x.op && leI x.op 5) = true := by rw [Bool.and_eq_true, leI_iff, leI_iff]; exact c2
    have hf : formN x.op = ⟨false, true, true, false, false, false, true⟩ := by simp only [formN, e1, l2, cond_true, cond_false]
    simp [instrN, insN, plainN, setsN, usesN, hk, hf, ha, eqI, ltI, bif_and, bif_or, bel, gcall_eq]
    simp only [← List.length_eq_zero_iff]
    grind
  by_cases c6 : 6 ≤ x.op ∧ x.op ≤ 24
  · have hk : kindN x.op = 3 := by unfold kindN; rw [if_neg (by omega)]; rw [if_neg (by omega), if_pos c6]
    have l2 : (leI 2 x.op && leI x.op 5) = false := by rw [Bool.eq_false_iff, ne_eq, Bool.and_eq_true, leI_iff, leI_iff]; exact c2
    have l6 : (leI 6 x.op && leI x.op 24) = true := by rw [Bool.and_eq_true, leI_iff, leI_iff]; exact c6
    have hf : formN x.op = ⟨false, true, true, true, false, false, true⟩ := by simp only [formN, e1, l2, l6, cond_true, cond_false]
    simp [instrN, insN, plainN, setsN, usesN, hk, hf, ha, eqI, ltI, bif_and, bif_or, bel, gcall_eq]
    simp only [← List.length_eq_zero_iff]
    grind
  have hk : kindN x.op = 0 := by unfold kindN; rw [if_neg c1, if_neg c2, if_neg c6, if_neg (by omega), if_neg c30, if_neg (by omega)]
  have hf : (formN x.op).ok = false := by
    have l2 : (leI 2 x.op && leI x.op 5) = false := by rw [Bool.eq_false_iff, ne_eq, Bool.and_eq_true, leI_iff, leI_iff]; exact c2
    have l6 : (leI 6 x.op && leI x.op 24) = false := by rw [Bool.eq_false_iff, ne_eq, Bool.and_eq_true, leI_iff, leI_iff]; exact c6
    simp only [formN, e1, e25, e26, e27, e28, e29, e30, e31, e32, l2, l6, cond_false, Bool.or_false]
  simp [instrN, insN, hk, hf, eqI]
end Go.Proofs.Ytihebfhhnoneiaa.Am
