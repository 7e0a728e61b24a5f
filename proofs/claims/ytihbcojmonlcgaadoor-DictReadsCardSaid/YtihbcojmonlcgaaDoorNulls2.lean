import Derived.Test.YtihbcojmonlcgaaDoorNulls
namespace Go.Proofs.YtihbcojmonlcgaaDoor
open Go.RowKit

theorem refp_succ (l : List Bool) (j : Nat) : (List.range (j + 1)).map (fun j => sb l (8 * j) 8) = (List.range j).map (fun j => sb l (8 * j) 8) ++ [sb l (8 * j) 8] := by simp [List.range_succ]
end Go.Proofs.YtihbcojmonlcgaaDoor
