/-
  NARROWER THAN 'FOR EVERY INPUT', by the rows' own cells (each row's printed sentence says how): CallsOf: loops.
  DERIVED. THE GIVEN ROWS OF THIS SEAT. 4 by the template 'for every input the law returns true; each argument reads behind the call as it read before'; 0 by the template 'total and deterministic' (their statements: YtnepamdmjppglaaTotals.lean).
  GIVEN WITH THE SEED: the statements are not yours to turn. If you find one false, say at which input.
  Laid BY PROGRAM, IN A SANDBOX (cutbox-rows.mjs): the forced cells as the released guide's own fill.sh prints them over the translation eab085cdf2e043dc… (all of the seat's roots in one cut). By AI agents, Wed Nov 11 2026. No macro, syntax, notation, axiom, sorry.
-/
import Derived.Test.YtnepamdmjppglaaChecked
import GoSem.Claim
import GoSem.ClaimJoined
import GoSem.ClaimMapViews
import Derived.JoinedTies
import Derived.KernelRfl
namespace Go.Proofs.Ytnepamdmjppglaa
/- THE CELL 'sum', in the pinned program and in every row, IS THE sha256 OF THE DUMP (.gsa) THAT YtnepamdmjppglaaProg.lean LOADS. Nothing in Lean hashes anything: it is a label: what it is worth is what the hold of that sum in a sandbox is worth. -/
noncomputable def Try.pinned : Pinned := { name := "ytnepamdmjppglaa", sum := "eab085cdf2e043dc70a9c1465d8f977b37f068d6c745df81d873c856079788c1", checked := Try.checked }
namespace Rows
def none {H : Type} : Left H := { results := [], args := [] }

/-- 'boltholelaw15.CallsOf': WHATEVER THE INPUT: true; the input reads as it did. -/
def callsOfSpec : ChangeSpec := { name := "callsOf", fn := fun _ => fun
  | [d] => { results := [.lit (.bool true)], args := [d] }
  | _ => none }
def callsOfRow : OpenClaim := { program := "ytnepamdmjppglaa", sum := "eab085cdf2e043dc70a9c1465d8f977b37f068d6c745df81d873c856079788c1", func := "bolthole/boltholelaw15.CallsOf", spec := "callsOf", unfollowed := true, recurses := true, loops := true, apart := false }
def CallsOfSaid : Prop := callsOfRow.holds Try.pinned (OpenSpec.ofChange callsOfSpec)

/-- ITS FALSE NEIGHBOUR: 'it returns false'. Refute it at one input. -/
def callsOfWrong : ChangeSpec := { name := "callsOf", fn := fun _ => fun
  | [d] => { results := [.lit (.bool false)], args := [d] }
  | _ => none }
def CallsOfWrongFalsely : Prop := callsOfRow.holds Try.pinned (OpenSpec.ofChange callsOfWrong)

/-- 'boltholelaw15.CallsGroups': WHATEVER THE INPUT: true; the input reads as it did. -/
def callsGroupsSpec : ChangeSpec := { name := "callsGroups", fn := fun _ => fun
  | [d1, d2] => { results := [.lit (.bool true)], args := [d1, d2] }
  | _ => none }
def callsGroupsRow : OpenClaim := { program := "ytnepamdmjppglaa", sum := "eab085cdf2e043dc70a9c1465d8f977b37f068d6c745df81d873c856079788c1", func := "bolthole/boltholelaw15.CallsGroups", spec := "callsGroups", unfollowed := true, recurses := true, apart := false }
def CallsGroupsSaid : Prop := callsGroupsRow.holds Try.pinned (OpenSpec.ofChange callsGroupsSpec)

/-- ITS FALSE NEIGHBOUR: 'it returns false'. Refute it at one input. -/
def callsGroupsWrong : ChangeSpec := { name := "callsGroups", fn := fun _ => fun
  | [d1, d2] => { results := [.lit (.bool false)], args := [d1, d2] }
  | _ => none }
def CallsGroupsWrongFalsely : Prop := callsGroupsRow.holds Try.pinned (OpenSpec.ofChange callsGroupsWrong)

/-- 'boltholelaw15.CallsOrder': WHATEVER THE INPUT: true; the input reads as it did. -/
def callsOrderSpec : ChangeSpec := { name := "callsOrder", fn := fun _ => fun
  | [d] => { results := [.lit (.bool true)], args := [d] }
  | _ => none }
def callsOrderRow : OpenClaim := { program := "ytnepamdmjppglaa", sum := "eab085cdf2e043dc70a9c1465d8f977b37f068d6c745df81d873c856079788c1", func := "bolthole/boltholelaw15.CallsOrder", spec := "callsOrder", unfollowed := true, recurses := true, apart := false }
def CallsOrderSaid : Prop := callsOrderRow.holds Try.pinned (OpenSpec.ofChange callsOrderSpec)

/-- ITS FALSE NEIGHBOUR: 'it returns false'. Refute it at one input. -/
def callsOrderWrong : ChangeSpec := { name := "callsOrder", fn := fun _ => fun
  | [d] => { results := [.lit (.bool false)], args := [d] }
  | _ => none }
def CallsOrderWrongFalsely : Prop := callsOrderRow.holds Try.pinned (OpenSpec.ofChange callsOrderWrong)

/-- 'boltholelaw15.CallsUsers': WHATEVER THE INPUT: true; the input reads as it did. -/
def callsUsersSpec : ChangeSpec := { name := "callsUsers", fn := fun _ => fun
  | [d1, d2] => { results := [.lit (.bool true)], args := [d1, d2] }
  | _ => none }
def callsUsersRow : OpenClaim := { program := "ytnepamdmjppglaa", sum := "eab085cdf2e043dc70a9c1465d8f977b37f068d6c745df81d873c856079788c1", func := "bolthole/boltholelaw15.CallsUsers", spec := "callsUsers", unfollowed := true, recurses := true, apart := false }
def CallsUsersSaid : Prop := callsUsersRow.holds Try.pinned (OpenSpec.ofChange callsUsersSpec)

/-- ITS FALSE NEIGHBOUR: 'it returns false'. Refute it at one input. -/
def callsUsersWrong : ChangeSpec := { name := "callsUsers", fn := fun _ => fun
  | [d1, d2] => { results := [.lit (.bool false)], args := [d1, d2] }
  | _ => none }
def CallsUsersWrongFalsely : Prop := callsUsersRow.holds Try.pinned (OpenSpec.ofChange callsUsersWrong)

/- THE SECOND FORM. 'bulk': how many values and letters a reading holds, each counted each time it is reached (what is shared counts as often as it is met; a slice's spare places count too). A statement '..UptoSaid' is the law's where the arguments, and the package variables that the reading takes, are together of bulk at most 1048576: NARROWER than '..Said'. Prove '..Said' where nothing that the law and all that it calls make is longer than what came in: it says more and counts as full. Else prove '..UptoSaid'. A law counts once. -/
mutual
def uptoBulk {H : Type} : DataW H → Nat
  | .lit (.string bytes) => bytes.length + 1
  | .lit _ => 1
  | .nil => 1
  | .ptr d => uptoBulk d + 1
  | .slice elems spare => uptoBulkAll elems + uptoBulkAll spare + 1
  | .agg parts => uptoBulkAll parts + 1
  | .iface _ d => uptoBulk d + 1
  | .map entries => uptoBulkEntries entries + 1
  | .held _ => 1
def uptoBulkAll {H : Type} : List (DataW H) → Nat
  | [] => 0
  | d :: r => uptoBulk d + uptoBulkAll r
def uptoBulkEntries {H : Type} : List (Lit × DataW H) → Nat
  | [] => 0
  | x :: r => uptoBulkEntry x + uptoBulkEntries r
def uptoBulkEntry {H : Type} : Lit × DataW H → Nat
  | (.string bytes, d) => bytes.length + uptoBulk d + 1
  | (_, d) => uptoBulk d + 1
 end
def uptoSmall : (H : Type) → List (DataW H) → Bool := fun _ ds => decide (uptoBulkAll ds ≤ 1048576)
def OpenSpec.upto (s : _root_.Go.ChangeSpec) : _root_.Go.OpenSpec := { _root_.Go.OpenSpec.ofChange s with cond := some uptoSmall }

/-- 'boltholelaw15.CallsOf', WHERE WHAT IT READS IS OF BULK AT MOST 1048576: true; the input reads as it did. -/
def callsOfUptoRow : OpenClaim := { program := "ytnepamdmjppglaa", sum := "eab085cdf2e043dc70a9c1465d8f977b37f068d6c745df81d873c856079788c1", func := "bolthole/boltholelaw15.CallsOf", spec := "callsOf", unfollowed := true, recurses := true, loops := true, apart := false, narrowed := true }
def CallsOfUptoSaid : Prop := callsOfUptoRow.holds Try.pinned (OpenSpec.upto callsOfSpec)

/-- 'boltholelaw15.CallsGroups', WHERE WHAT IT READS IS OF BULK AT MOST 1048576: true; the input reads as it did. -/
def callsGroupsUptoRow : OpenClaim := { program := "ytnepamdmjppglaa", sum := "eab085cdf2e043dc70a9c1465d8f977b37f068d6c745df81d873c856079788c1", func := "bolthole/boltholelaw15.CallsGroups", spec := "callsGroups", unfollowed := true, recurses := true, apart := false, narrowed := true }
def CallsGroupsUptoSaid : Prop := callsGroupsUptoRow.holds Try.pinned (OpenSpec.upto callsGroupsSpec)

/-- 'boltholelaw15.CallsOrder', WHERE WHAT IT READS IS OF BULK AT MOST 1048576: true; the input reads as it did. -/
def callsOrderUptoRow : OpenClaim := { program := "ytnepamdmjppglaa", sum := "eab085cdf2e043dc70a9c1465d8f977b37f068d6c745df81d873c856079788c1", func := "bolthole/boltholelaw15.CallsOrder", spec := "callsOrder", unfollowed := true, recurses := true, apart := false, narrowed := true }
def CallsOrderUptoSaid : Prop := callsOrderUptoRow.holds Try.pinned (OpenSpec.upto callsOrderSpec)

/-- 'boltholelaw15.CallsUsers', WHERE WHAT IT READS IS OF BULK AT MOST 1048576: true; the input reads as it did. -/
def callsUsersUptoRow : OpenClaim := { program := "ytnepamdmjppglaa", sum := "eab085cdf2e043dc70a9c1465d8f977b37f068d6c745df81d873c856079788c1", func := "bolthole/boltholelaw15.CallsUsers", spec := "callsUsers", unfollowed := true, recurses := true, apart := false, narrowed := true }
def CallsUsersUptoSaid : Prop := callsUsersUptoRow.holds Try.pinned (OpenSpec.upto callsUsersSpec)

end Rows
end Go.Proofs.Ytnepamdmjppglaa
