/- The library's tables that the program's variables hold: (block, values). -/
import Derived.Test.YtgnafgebenlffaaDoorDA
import Derived.Lib.TrailingZeros
/- The library's tables that the program's variables hold: (block, values). -/
namespace Go.Proofs.YtgnafgebenlffaaDoor.Am
open Go Go.Proofs
def tabs : List (Nat × List Value) := [(0, Lib.deBruijn64tab.map fun (n : Nat) => .int .u8 n)]
def TF (b : Nat) : Prop := ∃ p, p ∈ tabs ∧ p.1 = b
end Go.Proofs.YtgnafgebenlffaaDoor.Am
