/-
  No cell of these rows narrows 'for every input' (looked for: loops, veiled, ifaces, maps, wideKeys, modest, calm, conditions, laid).
  DERIVED. THE GIVEN ROWS OF THIS SEAT. 6 by the template 'for every input the law returns true; each argument reads behind the call as it read before'; 0 by the template 'total and deterministic' (their statements: YtgladinljapmkaaTotals.lean).
  GIVEN WITH THE SEED: the statements are not yours to turn. If you find one false, say at which input.
  Laid BY PROGRAM, IN A SANDBOX (cutbox-rows.mjs): the forced cells as the released guide's own fill.sh prints them over the translation 829bbf09e61681a6… (all of the seat's roots in one cut). By AI agents, Wed Nov 11 2026. No macro, syntax, notation, axiom, sorry.
-/
import Derived.Test.YtgladinljapmkaaChecked
import GoSem.Claim
import GoSem.ClaimJoined
import GoSem.ClaimMapViews
import Derived.JoinedTies
import Derived.KernelRfl
namespace Go.Proofs.Ytgladinljapmkaa
/- THE CELL 'sum', in the pinned program and in every row, IS THE sha256 OF THE DUMP (.gsa) THAT YtgladinljapmkaaProg.lean LOADS. Nothing in Lean hashes anything: it is a label: what it is worth is what the hold of that sum in a sandbox is worth. -/
noncomputable def Try.pinned : Pinned := { name := "ytgladinljapmkaa", sum := "829bbf09e61681a607d9d9f41da0be6fe1c73a0b1bccc9844d79c87c137dce78", checked := Try.checked }
namespace Rows
def none {H : Type} : Left H := { results := [], args := [] }

/-- 'switchbacklaw11.LoopsTells': WHATEVER THE INPUT: true; the input reads as it did. -/
def loopsTellsSpec : ChangeSpec := { name := "loopsTells", fn := fun _ => fun
  | [d] => { results := [.lit (.bool true)], args := [d] }
  | _ => none }
def loopsTellsRow : OpenClaim := { program := "ytgladinljapmkaa", sum := "829bbf09e61681a607d9d9f41da0be6fe1c73a0b1bccc9844d79c87c137dce78", func := "switchback/switchbacklaw11.LoopsTells", spec := "loopsTells", unfollowed := true, recurses := true, plainKeys := false, apart := false }
def LoopsTellsSaid : Prop := loopsTellsRow.holds Try.pinned (OpenSpec.ofChange loopsTellsSpec)

/-- ITS FALSE NEIGHBOUR: 'it returns false'. Refute it at one input. -/
def loopsTellsWrong : ChangeSpec := { name := "loopsTells", fn := fun _ => fun
  | [d] => { results := [.lit (.bool false)], args := [d] }
  | _ => none }
def LoopsTellsWrongFalsely : Prop := loopsTellsRow.holds Try.pinned (OpenSpec.ofChange loopsTellsWrong)

/-- 'switchbacklaw11.LoopsTree': WHATEVER THE INPUT: true; the input reads as it did. -/
def loopsTreeSpec : ChangeSpec := { name := "loopsTree", fn := fun _ => fun
  | [d] => { results := [.lit (.bool true)], args := [d] }
  | _ => none }
def loopsTreeRow : OpenClaim := { program := "ytgladinljapmkaa", sum := "829bbf09e61681a607d9d9f41da0be6fe1c73a0b1bccc9844d79c87c137dce78", func := "switchback/switchbacklaw11.LoopsTree", spec := "loopsTree", unfollowed := true, recurses := true, plainKeys := false, apart := false }
def LoopsTreeSaid : Prop := loopsTreeRow.holds Try.pinned (OpenSpec.ofChange loopsTreeSpec)

/-- ITS FALSE NEIGHBOUR: 'it returns false'. Refute it at one input. -/
def loopsTreeWrong : ChangeSpec := { name := "loopsTree", fn := fun _ => fun
  | [d] => { results := [.lit (.bool false)], args := [d] }
  | _ => none }
def LoopsTreeWrongFalsely : Prop := loopsTreeRow.holds Try.pinned (OpenSpec.ofChange loopsTreeWrong)

/-- 'switchbacklaw11.LoopsMore': WHATEVER THE INPUT: true; the input reads as it did. -/
def loopsMoreSpec : ChangeSpec := { name := "loopsMore", fn := fun _ => fun
  | [d1, d2] => { results := [.lit (.bool true)], args := [d1, d2] }
  | _ => none }
def loopsMoreRow : OpenClaim := { program := "ytgladinljapmkaa", sum := "829bbf09e61681a607d9d9f41da0be6fe1c73a0b1bccc9844d79c87c137dce78", func := "switchback/switchbacklaw11.LoopsMore", spec := "loopsMore", unfollowed := true, recurses := true, plainKeys := false, apart := false }
def LoopsMoreSaid : Prop := loopsMoreRow.holds Try.pinned (OpenSpec.ofChange loopsMoreSpec)

/-- ITS FALSE NEIGHBOUR: 'it returns false'. Refute it at one input. -/
def loopsMoreWrong : ChangeSpec := { name := "loopsMore", fn := fun _ => fun
  | [d1, d2] => { results := [.lit (.bool false)], args := [d1, d2] }
  | _ => none }
def LoopsMoreWrongFalsely : Prop := loopsMoreRow.holds Try.pinned (OpenSpec.ofChange loopsMoreWrong)

/-- 'switchbacklaw11.LoopsNumbers': WHATEVER THE INPUT: true; the input reads as it did. -/
def loopsNumbersSpec : ChangeSpec := { name := "loopsNumbers", fn := fun _ => fun
  | [d1, d2] => { results := [.lit (.bool true)], args := [d1, d2] }
  | _ => none }
def loopsNumbersRow : OpenClaim := { program := "ytgladinljapmkaa", sum := "829bbf09e61681a607d9d9f41da0be6fe1c73a0b1bccc9844d79c87c137dce78", func := "switchback/switchbacklaw11.LoopsNumbers", spec := "loopsNumbers", unfollowed := true, recurses := true, plainKeys := false, apart := false }
def LoopsNumbersSaid : Prop := loopsNumbersRow.holds Try.pinned (OpenSpec.ofChange loopsNumbersSpec)

/-- ITS FALSE NEIGHBOUR: 'it returns false'. Refute it at one input. -/
def loopsNumbersWrong : ChangeSpec := { name := "loopsNumbers", fn := fun _ => fun
  | [d1, d2] => { results := [.lit (.bool false)], args := [d1, d2] }
  | _ => none }
def LoopsNumbersWrongFalsely : Prop := loopsNumbersRow.holds Try.pinned (OpenSpec.ofChange loopsNumbersWrong)

/-- 'switchbacklaw11.LoopsReduces': WHATEVER THE INPUT: true; the input reads as it did. -/
def loopsReducesSpec : ChangeSpec := { name := "loopsReduces", fn := fun _ => fun
  | [d] => { results := [.lit (.bool true)], args := [d] }
  | _ => none }
def loopsReducesRow : OpenClaim := { program := "ytgladinljapmkaa", sum := "829bbf09e61681a607d9d9f41da0be6fe1c73a0b1bccc9844d79c87c137dce78", func := "switchback/switchbacklaw11.LoopsReduces", spec := "loopsReduces", unfollowed := true, recurses := true, plainKeys := false, apart := false }
def LoopsReducesSaid : Prop := loopsReducesRow.holds Try.pinned (OpenSpec.ofChange loopsReducesSpec)

/-- ITS FALSE NEIGHBOUR: 'it returns false'. Refute it at one input. -/
def loopsReducesWrong : ChangeSpec := { name := "loopsReduces", fn := fun _ => fun
  | [d] => { results := [.lit (.bool false)], args := [d] }
  | _ => none }
def LoopsReducesWrongFalsely : Prop := loopsReducesRow.holds Try.pinned (OpenSpec.ofChange loopsReducesWrong)

/-- 'switchbacklaw11.LoopsCut': WHATEVER THE INPUT: true; the input reads as it did. -/
def loopsCutSpec : ChangeSpec := { name := "loopsCut", fn := fun _ => fun
  | [d1, d2] => { results := [.lit (.bool true)], args := [d1, d2] }
  | _ => none }
def loopsCutRow : OpenClaim := { program := "ytgladinljapmkaa", sum := "829bbf09e61681a607d9d9f41da0be6fe1c73a0b1bccc9844d79c87c137dce78", func := "switchback/switchbacklaw11.LoopsCut", spec := "loopsCut", unfollowed := true, recurses := true, plainKeys := false, apart := false }
def LoopsCutSaid : Prop := loopsCutRow.holds Try.pinned (OpenSpec.ofChange loopsCutSpec)

/-- ITS FALSE NEIGHBOUR: 'it returns false'. Refute it at one input. -/
def loopsCutWrong : ChangeSpec := { name := "loopsCut", fn := fun _ => fun
  | [d1, d2] => { results := [.lit (.bool false)], args := [d1, d2] }
  | _ => none }
def LoopsCutWrongFalsely : Prop := loopsCutRow.holds Try.pinned (OpenSpec.ofChange loopsCutWrong)

/- THE SECOND FORM. 'bulk': how many values and letters a reading holds, each counted each time it is reached (what is shared counts as often as it is met; a slice's spare places count too). A statement '..UptoSaid' is the law's where the arguments, and the package variables that the reading takes, are together of bulk at most 1048576: NARROWER than '..Said'. Prove '..Said' where nothing that the law and all that it calls make is longer than what came in: it says more and counts as full. Else prove '..UptoSaid'. A law counts once. -/
mutual
def uptoBulk {H : Type} : DataW H → Nat
  | .lit (.string bytes) => bytes.length + 1
  | .lit _ => 1
  | .nil => 1
  | .ptr d => uptoBulk d + 1
  | .slice elems spare => uptoBulkAll elems + uptoBulkAll spare + 1
  | .agg parts => uptoBulkAll parts + 1
  | .iface _ d => uptoBulk d + 1
  | .map entries => uptoBulkEntries entries + 1
  | .held _ => 1
def uptoBulkAll {H : Type} : List (DataW H) → Nat
  | [] => 0
  | d :: r => uptoBulk d + uptoBulkAll r
def uptoBulkEntries {H : Type} : List (Lit × DataW H) → Nat
  | [] => 0
  | x :: r => uptoBulkEntry x + uptoBulkEntries r
def uptoBulkEntry {H : Type} : Lit × DataW H → Nat
  | (.string bytes, d) => bytes.length + uptoBulk d + 1
  | (_, d) => uptoBulk d + 1
 end
def uptoSmall : (H : Type) → List (DataW H) → Bool := fun _ ds => decide (uptoBulkAll ds ≤ 1048576)
def OpenSpec.upto (s : _root_.Go.ChangeSpec) : _root_.Go.OpenSpec := { _root_.Go.OpenSpec.ofChange s with cond := some uptoSmall }

/-- 'switchbacklaw11.LoopsTells', WHERE WHAT IT READS IS OF BULK AT MOST 1048576: true; the input reads as it did. -/
def loopsTellsUptoRow : OpenClaim := { program := "ytgladinljapmkaa", sum := "829bbf09e61681a607d9d9f41da0be6fe1c73a0b1bccc9844d79c87c137dce78", func := "switchback/switchbacklaw11.LoopsTells", spec := "loopsTells", unfollowed := true, recurses := true, plainKeys := false, apart := false, narrowed := true }
def LoopsTellsUptoSaid : Prop := loopsTellsUptoRow.holds Try.pinned (OpenSpec.upto loopsTellsSpec)

/-- 'switchbacklaw11.LoopsTree', WHERE WHAT IT READS IS OF BULK AT MOST 1048576: true; the input reads as it did. -/
def loopsTreeUptoRow : OpenClaim := { program := "ytgladinljapmkaa", sum := "829bbf09e61681a607d9d9f41da0be6fe1c73a0b1bccc9844d79c87c137dce78", func := "switchback/switchbacklaw11.LoopsTree", spec := "loopsTree", unfollowed := true, recurses := true, plainKeys := false, apart := false, narrowed := true }
def LoopsTreeUptoSaid : Prop := loopsTreeUptoRow.holds Try.pinned (OpenSpec.upto loopsTreeSpec)

/-- 'switchbacklaw11.LoopsMore', WHERE WHAT IT READS IS OF BULK AT MOST 1048576: true; the input reads as it did. -/
def loopsMoreUptoRow : OpenClaim := { program := "ytgladinljapmkaa", sum := "829bbf09e61681a607d9d9f41da0be6fe1c73a0b1bccc9844d79c87c137dce78", func := "switchback/switchbacklaw11.LoopsMore", spec := "loopsMore", unfollowed := true, recurses := true, plainKeys := false, apart := false, narrowed := true }
def LoopsMoreUptoSaid : Prop := loopsMoreUptoRow.holds Try.pinned (OpenSpec.upto loopsMoreSpec)

/-- 'switchbacklaw11.LoopsNumbers', WHERE WHAT IT READS IS OF BULK AT MOST 1048576: true; the input reads as it did. -/
def loopsNumbersUptoRow : OpenClaim := { program := "ytgladinljapmkaa", sum := "829bbf09e61681a607d9d9f41da0be6fe1c73a0b1bccc9844d79c87c137dce78", func := "switchback/switchbacklaw11.LoopsNumbers", spec := "loopsNumbers", unfollowed := true, recurses := true, plainKeys := false, apart := false, narrowed := true }
def LoopsNumbersUptoSaid : Prop := loopsNumbersUptoRow.holds Try.pinned (OpenSpec.upto loopsNumbersSpec)

/-- 'switchbacklaw11.LoopsReduces', WHERE WHAT IT READS IS OF BULK AT MOST 1048576: true; the input reads as it did. -/
def loopsReducesUptoRow : OpenClaim := { program := "ytgladinljapmkaa", sum := "829bbf09e61681a607d9d9f41da0be6fe1c73a0b1bccc9844d79c87c137dce78", func := "switchback/switchbacklaw11.LoopsReduces", spec := "loopsReduces", unfollowed := true, recurses := true, plainKeys := false, apart := false, narrowed := true }
def LoopsReducesUptoSaid : Prop := loopsReducesUptoRow.holds Try.pinned (OpenSpec.upto loopsReducesSpec)

/-- 'switchbacklaw11.LoopsCut', WHERE WHAT IT READS IS OF BULK AT MOST 1048576: true; the input reads as it did. -/
def loopsCutUptoRow : OpenClaim := { program := "ytgladinljapmkaa", sum := "829bbf09e61681a607d9d9f41da0be6fe1c73a0b1bccc9844d79c87c137dce78", func := "switchback/switchbacklaw11.LoopsCut", spec := "loopsCut", unfollowed := true, recurses := true, plainKeys := false, apart := false, narrowed := true }
def LoopsCutUptoSaid : Prop := loopsCutUptoRow.holds Try.pinned (OpenSpec.upto loopsCutSpec)

end Rows
end Go.Proofs.Ytgladinljapmkaa
