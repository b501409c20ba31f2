/- The links' box. -/
import Derived.Test.YtikddknhcfhnbaaB1
import Derived.Laws.Tables
namespace Go.Proofs.Ytikddknhcfhnbaa
open Go.RowKit
/-- the cells of new links: no arcs at any vertex -/
def linkCells (v : Value) : Array Value := (List.replicate 512 (Value.slice none 0 0) ++ [v]).toArray
set_option maxRecDepth 100000 in
theorem built_links (a : Option Addr) (n c : Nat) : Try.prog.built 60 [(1, .slice a n c)] = some (linkCells (.slice a n c)) := by kernel_rfl
end Go.Proofs.Ytikddknhcfhnbaa
