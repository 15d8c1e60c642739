/- The program's Come, walked. -/
import Derived.Test.YtadekfjgdbngdaaCome
namespace Go.Proofs.Ytadekfjgdbngdaa
open Go Go.RowKit

/-- a graph that is small enough to be gone through -/
structure Fit (locs : List LocD) (edges : List EdgeD) (D : Nat) : Prop where
  deref : ∀ e ∈ edges, e.deref ≤ D
  d : D ≤ 1048576
  l : locs.length ≤ 1048576
  e : edges.length ≤ 1048576
  m : locs.length * (locs.length * D + 2) ≤ 1099511627776

end Go.Proofs.Ytadekfjgdbngdaa
