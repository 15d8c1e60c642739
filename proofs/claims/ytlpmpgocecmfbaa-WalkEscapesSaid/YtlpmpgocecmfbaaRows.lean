/-
  No cell of these rows narrows 'for every input' (looked for: loops, veiled, ifaces, maps, wideKeys, modest, calm, conditions, laid).
  DERIVED. THE GIVEN ROWS OF THIS SEAT. 5 by the template 'for every input the law returns true; each argument reads behind the call as it read before'; 0 by the template 'total and deterministic' (their statements: YtlpmpgocecmfbaaTotals.lean).
  GIVEN WITH THE SEED: the statements are not yours to turn. If you find one false, say at which input.
  Laid BY PROGRAM, IN A SANDBOX (cutbox-rows.mjs): the forced cells as the released guide's own fill.sh prints them over the translation f1a0d015eb4e78b0… (all of the seat's roots in one cut). By AI agents, Wed Nov 11 2026. No macro, syntax, notation, axiom, sorry.
-/
import Derived.Test.YtlpmpgocecmfbaaChecked
import GoSem.Claim
import GoSem.ClaimJoined
import GoSem.ClaimMapViews
import Derived.JoinedTies
import Derived.KernelRfl
namespace Go.Proofs.Ytlpmpgocecmfbaa
/- THE CELL 'sum', in the pinned program and in every row, IS THE sha256 OF THE DUMP (.gsa) THAT YtlpmpgocecmfbaaProg.lean LOADS. Nothing in Lean hashes anything: it is a label: what it is worth is what the hold of that sum in a sandbox is worth. -/
noncomputable def Try.pinned : Pinned := { name := "ytlpmpgocecmfbaa", sum := "f1a0d015eb4e78b0d08d41459514892d2108ca7a5e264c89269fe7cb705e0043", checked := Try.checked }
namespace Rows
def none {H : Type} : Left H := { results := [], args := [] }

/-- 'boltholelaw17.WalkComes': WHATEVER THE INPUT: true; the input reads as it did. -/
def walkComesSpec : ChangeSpec := { name := "walkComes", fn := fun _ => fun
  | [d1, d2] => { results := [.lit (.bool true)], args := [d1, d2] }
  | _ => none }
def walkComesRow : OpenClaim := { program := "ytlpmpgocecmfbaa", sum := "f1a0d015eb4e78b0d08d41459514892d2108ca7a5e264c89269fe7cb705e0043", func := "bolthole/boltholelaw17.WalkComes", spec := "walkComes", unfollowed := true, recurses := true, apart := false }
def WalkComesSaid : Prop := walkComesRow.holds Try.pinned (OpenSpec.ofChange walkComesSpec)

/-- ITS FALSE NEIGHBOUR: 'it returns false'. Refute it at one input. -/
def walkComesWrong : ChangeSpec := { name := "walkComes", fn := fun _ => fun
  | [d1, d2] => { results := [.lit (.bool false)], args := [d1, d2] }
  | _ => none }
def WalkComesWrongFalsely : Prop := walkComesRow.holds Try.pinned (OpenSpec.ofChange walkComesWrong)

/-- 'boltholelaw17.WalkEscapes': WHATEVER THE INPUT: true; the input reads as it did. -/
def walkEscapesSpec : ChangeSpec := { name := "walkEscapes", fn := fun _ => fun
  | [d] => { results := [.lit (.bool true)], args := [d] }
  | _ => none }
def walkEscapesRow : OpenClaim := { program := "ytlpmpgocecmfbaa", sum := "f1a0d015eb4e78b0d08d41459514892d2108ca7a5e264c89269fe7cb705e0043", func := "bolthole/boltholelaw17.WalkEscapes", spec := "walkEscapes", unfollowed := true, recurses := true, apart := false }
def WalkEscapesSaid : Prop := walkEscapesRow.holds Try.pinned (OpenSpec.ofChange walkEscapesSpec)

/-- ITS FALSE NEIGHBOUR: 'it returns false'. Refute it at one input. -/
def walkEscapesWrong : ChangeSpec := { name := "walkEscapes", fn := fun _ => fun
  | [d] => { results := [.lit (.bool false)], args := [d] }
  | _ => none }
def WalkEscapesWrongFalsely : Prop := walkEscapesRow.holds Try.pinned (OpenSpec.ofChange walkEscapesWrong)

/-- 'boltholelaw17.WalkLeast': WHATEVER THE INPUT: true; the input reads as it did. -/
def walkLeastSpec : ChangeSpec := { name := "walkLeast", fn := fun _ => fun
  | [d1, d2] => { results := [.lit (.bool true)], args := [d1, d2] }
  | _ => none }
def walkLeastRow : OpenClaim := { program := "ytlpmpgocecmfbaa", sum := "f1a0d015eb4e78b0d08d41459514892d2108ca7a5e264c89269fe7cb705e0043", func := "bolthole/boltholelaw17.WalkLeast", spec := "walkLeast", unfollowed := true, recurses := true, apart := false }
def WalkLeastSaid : Prop := walkLeastRow.holds Try.pinned (OpenSpec.ofChange walkLeastSpec)

/-- ITS FALSE NEIGHBOUR: 'it returns false'. Refute it at one input. -/
def walkLeastWrong : ChangeSpec := { name := "walkLeast", fn := fun _ => fun
  | [d1, d2] => { results := [.lit (.bool false)], args := [d1, d2] }
  | _ => none }
def WalkLeastWrongFalsely : Prop := walkLeastRow.holds Try.pinned (OpenSpec.ofChange walkLeastWrong)

/-- 'boltholelaw17.WalkMore': WHATEVER THE INPUT: true; the input reads as it did. -/
def walkMoreSpec : ChangeSpec := { name := "walkMore", fn := fun _ => fun
  | [d1, d2, d3] => { results := [.lit (.bool true)], args := [d1, d2, d3] }
  | _ => none }
def walkMoreRow : OpenClaim := { program := "ytlpmpgocecmfbaa", sum := "f1a0d015eb4e78b0d08d41459514892d2108ca7a5e264c89269fe7cb705e0043", func := "bolthole/boltholelaw17.WalkMore", spec := "walkMore", unfollowed := true, recurses := true, apart := false }
def WalkMoreSaid : Prop := walkMoreRow.holds Try.pinned (OpenSpec.ofChange walkMoreSpec)

/-- ITS FALSE NEIGHBOUR: 'it returns false'. Refute it at one input. -/
def walkMoreWrong : ChangeSpec := { name := "walkMore", fn := fun _ => fun
  | [d1, d2, d3] => { results := [.lit (.bool false)], args := [d1, d2, d3] }
  | _ => none }
def WalkMoreWrongFalsely : Prop := walkMoreRow.holds Try.pinned (OpenSpec.ofChange walkMoreWrong)

/-- 'boltholelaw17.WalkClosed': WHATEVER THE INPUT: true; the input reads as it did. -/
def walkClosedSpec : ChangeSpec := { name := "walkClosed", fn := fun _ => fun
  | [d] => { results := [.lit (.bool true)], args := [d] }
  | _ => none }
def walkClosedRow : OpenClaim := { program := "ytlpmpgocecmfbaa", sum := "f1a0d015eb4e78b0d08d41459514892d2108ca7a5e264c89269fe7cb705e0043", func := "bolthole/boltholelaw17.WalkClosed", spec := "walkClosed", unfollowed := true, recurses := true, apart := false }
def WalkClosedSaid : Prop := walkClosedRow.holds Try.pinned (OpenSpec.ofChange walkClosedSpec)

/-- ITS FALSE NEIGHBOUR: 'it returns false'. Refute it at one input. -/
def walkClosedWrong : ChangeSpec := { name := "walkClosed", fn := fun _ => fun
  | [d] => { results := [.lit (.bool false)], args := [d] }
  | _ => none }
def WalkClosedWrongFalsely : Prop := walkClosedRow.holds Try.pinned (OpenSpec.ofChange walkClosedWrong)

/- THE SECOND FORM. 'bulk': how many values and letters a reading holds, each counted each time it is reached (what is shared counts as often as it is met; a slice's spare places count too). A statement '..UptoSaid' is the law's where the arguments, and the package variables that the reading takes, are together of bulk at most 1048576: NARROWER than '..Said'. Prove '..Said' where nothing that the law and all that it calls make is longer than what came in: it says more and counts as full. Else prove '..UptoSaid'. A law counts once. -/
mutual
def uptoBulk {H : Type} : DataW H → Nat
  | .lit (.string bytes) => bytes.length + 1
  | .lit _ => 1
  | .nil => 1
  | .ptr d => uptoBulk d + 1
  | .slice elems spare => uptoBulkAll elems + uptoBulkAll spare + 1
  | .agg parts => uptoBulkAll parts + 1
  | .iface _ d => uptoBulk d + 1
  | .map entries => uptoBulkEntries entries + 1
  | .held _ => 1
def uptoBulkAll {H : Type} : List (DataW H) → Nat
  | [] => 0
  | d :: r => uptoBulk d + uptoBulkAll r
def uptoBulkEntries {H : Type} : List (Lit × DataW H) → Nat
  | [] => 0
  | x :: r => uptoBulkEntry x + uptoBulkEntries r
def uptoBulkEntry {H : Type} : Lit × DataW H → Nat
  | (.string bytes, d) => bytes.length + uptoBulk d + 1
  | (_, d) => uptoBulk d + 1
 end
def uptoSmall : (H : Type) → List (DataW H) → Bool := fun _ ds => decide (uptoBulkAll ds ≤ 1048576)
def OpenSpec.upto (s : _root_.Go.ChangeSpec) : _root_.Go.OpenSpec := { _root_.Go.OpenSpec.ofChange s with cond := some uptoSmall }

/-- 'boltholelaw17.WalkComes', WHERE WHAT IT READS IS OF BULK AT MOST 1048576: true; the input reads as it did. -/
def walkComesUptoRow : OpenClaim := { program := "ytlpmpgocecmfbaa", sum := "f1a0d015eb4e78b0d08d41459514892d2108ca7a5e264c89269fe7cb705e0043", func := "bolthole/boltholelaw17.WalkComes", spec := "walkComes", unfollowed := true, recurses := true, apart := false, narrowed := true }
def WalkComesUptoSaid : Prop := walkComesUptoRow.holds Try.pinned (OpenSpec.upto walkComesSpec)

/-- 'boltholelaw17.WalkEscapes', WHERE WHAT IT READS IS OF BULK AT MOST 1048576: true; the input reads as it did. -/
def walkEscapesUptoRow : OpenClaim := { program := "ytlpmpgocecmfbaa", sum := "f1a0d015eb4e78b0d08d41459514892d2108ca7a5e264c89269fe7cb705e0043", func := "bolthole/boltholelaw17.WalkEscapes", spec := "walkEscapes", unfollowed := true, recurses := true, apart := false, narrowed := true }
def WalkEscapesUptoSaid : Prop := walkEscapesUptoRow.holds Try.pinned (OpenSpec.upto walkEscapesSpec)

/-- 'boltholelaw17.WalkLeast', WHERE WHAT IT READS IS OF BULK AT MOST 1048576: true; the input reads as it did. -/
def walkLeastUptoRow : OpenClaim := { program := "ytlpmpgocecmfbaa", sum := "f1a0d015eb4e78b0d08d41459514892d2108ca7a5e264c89269fe7cb705e0043", func := "bolthole/boltholelaw17.WalkLeast", spec := "walkLeast", unfollowed := true, recurses := true, apart := false, narrowed := true }
def WalkLeastUptoSaid : Prop := walkLeastUptoRow.holds Try.pinned (OpenSpec.upto walkLeastSpec)

/-- 'boltholelaw17.WalkMore', WHERE WHAT IT READS IS OF BULK AT MOST 1048576: true; the input reads as it did. -/
def walkMoreUptoRow : OpenClaim := { program := "ytlpmpgocecmfbaa", sum := "f1a0d015eb4e78b0d08d41459514892d2108ca7a5e264c89269fe7cb705e0043", func := "bolthole/boltholelaw17.WalkMore", spec := "walkMore", unfollowed := true, recurses := true, apart := false, narrowed := true }
def WalkMoreUptoSaid : Prop := walkMoreUptoRow.holds Try.pinned (OpenSpec.upto walkMoreSpec)

/-- 'boltholelaw17.WalkClosed', WHERE WHAT IT READS IS OF BULK AT MOST 1048576: true; the input reads as it did. -/
def walkClosedUptoRow : OpenClaim := { program := "ytlpmpgocecmfbaa", sum := "f1a0d015eb4e78b0d08d41459514892d2108ca7a5e264c89269fe7cb705e0043", func := "bolthole/boltholelaw17.WalkClosed", spec := "walkClosed", unfollowed := true, recurses := true, apart := false, narrowed := true }
def WalkClosedUptoSaid : Prop := walkClosedUptoRow.holds Try.pinned (OpenSpec.upto walkClosedSpec)

end Rows
end Go.Proofs.Ytlpmpgocecmfbaa
