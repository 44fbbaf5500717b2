/-
  No cell of these rows narrows 'for every input' (looked for: loops, veiled, ifaces, maps, wideKeys, modest, calm, conditions, laid).
  DERIVED. THE GIVEN ROWS OF THIS SEAT. 6 by the template 'for every input the law returns true; each argument reads behind the call as it read before'; 0 by the template 'total and deterministic' (their statements: YtphbidcbepnihaaTotals.lean).
  GIVEN WITH THE SEED: the statements are not yours to turn. If you find one false, say at which input.
  Laid BY PROGRAM, IN A SANDBOX (cutbox-rows.mjs): the forced cells as the released guide's own fill.sh prints them over the translation f90882190a1106e5… (all of the seat's roots in one cut). By AI agents, Wed Nov 11 2026. No macro, syntax, notation, axiom, sorry.
-/
import Derived.Test.YtphbidcbepnihaaChecked
import GoSem.Claim
import GoSem.ClaimJoined
import GoSem.ClaimMapViews
import Derived.JoinedTies
import Derived.KernelRfl
namespace Go.Proofs.Ytphbidcbepnihaa
/- THE CELL 'sum', in the pinned program and in every row, IS THE sha256 OF THE DUMP (.gsa) THAT YtphbidcbepnihaaProg.lean LOADS. Nothing in Lean hashes anything: it is a label: what it is worth is what the hold of that sum in a sandbox is worth. -/
noncomputable def Try.pinned : Pinned := { name := "ytphbidcbepnihaa", sum := "f90882190a1106e5721ff3f662b7353c609ab4b776ec26c9b608cca17289c196", checked := Try.checked }
namespace Rows
def none {H : Type} : Left H := { results := [], args := [] }

/-- 'reevelaw13.FindEmpty': WHATEVER THE INPUT: true; the input reads as it did. -/
def findEmptySpec : ChangeSpec := { name := "findEmpty", fn := fun _ => fun
  | [d1, d2, d3] => { results := [.lit (.bool true)], args := [d1, d2, d3] }
  | _ => none }
def findEmptyRow : OpenClaim := { program := "ytphbidcbepnihaa", sum := "f90882190a1106e5721ff3f662b7353c609ab4b776ec26c9b608cca17289c196", func := "reeve/reevelaw13.FindEmpty", spec := "findEmpty", unfollowed := true, recurses := true, apart := false }
def FindEmptySaid : Prop := findEmptyRow.holds Try.pinned (OpenSpec.ofChange findEmptySpec)

/-- ITS FALSE NEIGHBOUR: 'it returns false'. Refute it at one input. -/
def findEmptyWrong : ChangeSpec := { name := "findEmpty", fn := fun _ => fun
  | [d1, d2, d3] => { results := [.lit (.bool false)], args := [d1, d2, d3] }
  | _ => none }
def FindEmptyWrongFalsely : Prop := findEmptyRow.holds Try.pinned (OpenSpec.ofChange findEmptyWrong)

/-- 'reevelaw18.MailRound': WHATEVER THE INPUT: true; the input reads as it did. -/
def mailRoundSpec : ChangeSpec := { name := "mailRound", fn := fun _ => fun
  | [d1, d2, d3, d4] => { results := [.lit (.bool true)], args := [d1, d2, d3, d4] }
  | _ => none }
def mailRoundRow : OpenClaim := { program := "ytphbidcbepnihaa", sum := "f90882190a1106e5721ff3f662b7353c609ab4b776ec26c9b608cca17289c196", func := "reeve/reevelaw18.MailRound", spec := "mailRound", inPlace := ["internal/bytealg.IndexByteString", "internal/bytealg.IndexString"], unfollowed := true, recurses := true, named := ["internal/bytealg.MaxLen"], apart := false }
def MailRoundSaid : Prop := mailRoundRow.holds Try.pinned (OpenSpec.ofChange mailRoundSpec)

/-- ITS FALSE NEIGHBOUR: 'it returns false'. Refute it at one input. -/
def mailRoundWrong : ChangeSpec := { name := "mailRound", fn := fun _ => fun
  | [d1, d2, d3, d4] => { results := [.lit (.bool false)], args := [d1, d2, d3, d4] }
  | _ => none }
def MailRoundWrongFalsely : Prop := mailRoundRow.holds Try.pinned (OpenSpec.ofChange mailRoundWrong)

/-- 'reevelaw18.MailHands': WHATEVER THE INPUT: true; the input reads as it did. -/
def mailHandsSpec : ChangeSpec := { name := "mailHands", fn := fun _ => fun
  | [d1, d2, d3, d4, d5, d6, d7] => { results := [.lit (.bool true)], args := [d1, d2, d3, d4, d5, d6, d7] }
  | _ => none }
def mailHandsRow : OpenClaim := { program := "ytphbidcbepnihaa", sum := "f90882190a1106e5721ff3f662b7353c609ab4b776ec26c9b608cca17289c196", func := "reeve/reevelaw18.MailHands", spec := "mailHands", inPlace := ["internal/bytealg.IndexByteString", "internal/bytealg.IndexString"], unfollowed := true, recurses := true, named := ["internal/bytealg.MaxLen"], apart := false }
def MailHandsSaid : Prop := mailHandsRow.holds Try.pinned (OpenSpec.ofChange mailHandsSpec)

/-- ITS FALSE NEIGHBOUR: 'it returns false'. Refute it at one input. -/
def mailHandsWrong : ChangeSpec := { name := "mailHands", fn := fun _ => fun
  | [d1, d2, d3, d4, d5, d6, d7] => { results := [.lit (.bool false)], args := [d1, d2, d3, d4, d5, d6, d7] }
  | _ => none }
def MailHandsWrongFalsely : Prop := mailHandsRow.holds Try.pinned (OpenSpec.ofChange mailHandsWrong)

/-- 'reevelaw13.FindWays': WHATEVER THE INPUT: true; the input reads as it did. -/
def findWaysSpec : ChangeSpec := { name := "findWays", fn := fun _ => fun
  | [d1, d2, d3] => { results := [.lit (.bool true)], args := [d1, d2, d3] }
  | _ => none }
def findWaysRow : OpenClaim := { program := "ytphbidcbepnihaa", sum := "f90882190a1106e5721ff3f662b7353c609ab4b776ec26c9b608cca17289c196", func := "reeve/reevelaw13.FindWays", spec := "findWays", unfollowed := true, recurses := true, apart := false }
def FindWaysSaid : Prop := findWaysRow.holds Try.pinned (OpenSpec.ofChange findWaysSpec)

/-- ITS FALSE NEIGHBOUR: 'it returns false'. Refute it at one input. -/
def findWaysWrong : ChangeSpec := { name := "findWays", fn := fun _ => fun
  | [d1, d2, d3] => { results := [.lit (.bool false)], args := [d1, d2, d3] }
  | _ => none }
def FindWaysWrongFalsely : Prop := findWaysRow.holds Try.pinned (OpenSpec.ofChange findWaysWrong)

/-- 'reevelaw13.FindKnown': WHATEVER THE INPUT: true; the input reads as it did. -/
def findKnownSpec : ChangeSpec := { name := "findKnown", fn := fun _ => fun
  | [] => { results := [.lit (.bool true)], args := [] }
  | _ => none }
def findKnownRow : OpenClaim := { program := "ytphbidcbepnihaa", sum := "f90882190a1106e5721ff3f662b7353c609ab4b776ec26c9b608cca17289c196", func := "reeve/reevelaw13.FindKnown", spec := "findKnown", unfollowed := true, recurses := true, apart := false }
def FindKnownSaid : Prop := findKnownRow.holds Try.pinned (OpenSpec.ofChange findKnownSpec)

/-- ITS FALSE NEIGHBOUR: 'it returns false'. Refute it at one input. -/
def findKnownWrong : ChangeSpec := { name := "findKnown", fn := fun _ => fun
  | [] => { results := [.lit (.bool false)], args := [] }
  | _ => none }
def FindKnownWrongFalsely : Prop := findKnownRow.holds Try.pinned (OpenSpec.ofChange findKnownWrong)

/-- 'reevelaw18.MailKnown': WHATEVER THE INPUT: true; the input reads as it did. -/
def mailKnownSpec : ChangeSpec := { name := "mailKnown", fn := fun _ => fun
  | [] => { results := [.lit (.bool true)], args := [] }
  | _ => none }
def mailKnownRow : OpenClaim := { program := "ytphbidcbepnihaa", sum := "f90882190a1106e5721ff3f662b7353c609ab4b776ec26c9b608cca17289c196", func := "reeve/reevelaw18.MailKnown", spec := "mailKnown", inPlace := ["internal/bytealg.IndexByteString", "internal/bytealg.IndexString"], unfollowed := true, recurses := true, named := ["internal/bytealg.MaxLen"], apart := false }
def MailKnownSaid : Prop := mailKnownRow.holds Try.pinned (OpenSpec.ofChange mailKnownSpec)

/-- ITS FALSE NEIGHBOUR: 'it returns false'. Refute it at one input. -/
def mailKnownWrong : ChangeSpec := { name := "mailKnown", fn := fun _ => fun
  | [] => { results := [.lit (.bool false)], args := [] }
  | _ => none }
def MailKnownWrongFalsely : Prop := mailKnownRow.holds Try.pinned (OpenSpec.ofChange mailKnownWrong)

/- THE SECOND FORM. 'bulk': how many values and letters a reading holds, each counted each time it is reached (what is shared counts as often as it is met; a slice's spare places count too). A statement '..UptoSaid' is the law's where the arguments, and the package variables that the reading takes, are together of bulk at most 1048576: NARROWER than '..Said'. Prove '..Said' where nothing that the law and all that it calls make is longer than what came in: it says more and counts as full. Else prove '..UptoSaid'. A law counts once. -/
mutual
def uptoBulk {H : Type} : DataW H → Nat
  | .lit (.string bytes) => bytes.length + 1
  | .lit _ => 1
  | .nil => 1
  | .ptr d => uptoBulk d + 1
  | .slice elems spare => uptoBulkAll elems + uptoBulkAll spare + 1
  | .agg parts => uptoBulkAll parts + 1
  | .iface _ d => uptoBulk d + 1
  | .map entries => uptoBulkEntries entries + 1
  | .held _ => 1
def uptoBulkAll {H : Type} : List (DataW H) → Nat
  | [] => 0
  | d :: r => uptoBulk d + uptoBulkAll r
def uptoBulkEntries {H : Type} : List (Lit × DataW H) → Nat
  | [] => 0
  | x :: r => uptoBulkEntry x + uptoBulkEntries r
def uptoBulkEntry {H : Type} : Lit × DataW H → Nat
  | (.string bytes, d) => bytes.length + uptoBulk d + 1
  | (_, d) => uptoBulk d + 1
 end
def uptoSmall : (H : Type) → List (DataW H) → Bool := fun _ ds => decide (uptoBulkAll ds ≤ 1048576)
def OpenSpec.upto (s : _root_.Go.ChangeSpec) : _root_.Go.OpenSpec := { _root_.Go.OpenSpec.ofChange s with cond := some uptoSmall }

/-- 'reevelaw13.FindEmpty', WHERE WHAT IT READS IS OF BULK AT MOST 1048576: true; the input reads as it did. -/
def findEmptyUptoRow : OpenClaim := { program := "ytphbidcbepnihaa", sum := "f90882190a1106e5721ff3f662b7353c609ab4b776ec26c9b608cca17289c196", func := "reeve/reevelaw13.FindEmpty", spec := "findEmpty", unfollowed := true, recurses := true, apart := false, narrowed := true }
def FindEmptyUptoSaid : Prop := findEmptyUptoRow.holds Try.pinned (OpenSpec.upto findEmptySpec)

/-- 'reevelaw18.MailRound', WHERE WHAT IT READS IS OF BULK AT MOST 1048576: true; the input reads as it did. -/
def mailRoundUptoRow : OpenClaim := { program := "ytphbidcbepnihaa", sum := "f90882190a1106e5721ff3f662b7353c609ab4b776ec26c9b608cca17289c196", func := "reeve/reevelaw18.MailRound", spec := "mailRound", inPlace := ["internal/bytealg.IndexByteString", "internal/bytealg.IndexString"], unfollowed := true, recurses := true, named := ["internal/bytealg.MaxLen"], apart := false, narrowed := true }
def MailRoundUptoSaid : Prop := mailRoundUptoRow.holds Try.pinned (OpenSpec.upto mailRoundSpec)

/-- 'reevelaw18.MailHands', WHERE WHAT IT READS IS OF BULK AT MOST 1048576: true; the input reads as it did. -/
def mailHandsUptoRow : OpenClaim := { program := "ytphbidcbepnihaa", sum := "f90882190a1106e5721ff3f662b7353c609ab4b776ec26c9b608cca17289c196", func := "reeve/reevelaw18.MailHands", spec := "mailHands", inPlace := ["internal/bytealg.IndexByteString", "internal/bytealg.IndexString"], unfollowed := true, recurses := true, named := ["internal/bytealg.MaxLen"], apart := false, narrowed := true }
def MailHandsUptoSaid : Prop := mailHandsUptoRow.holds Try.pinned (OpenSpec.upto mailHandsSpec)

/-- 'reevelaw13.FindWays', WHERE WHAT IT READS IS OF BULK AT MOST 1048576: true; the input reads as it did. -/
def findWaysUptoRow : OpenClaim := { program := "ytphbidcbepnihaa", sum := "f90882190a1106e5721ff3f662b7353c609ab4b776ec26c9b608cca17289c196", func := "reeve/reevelaw13.FindWays", spec := "findWays", unfollowed := true, recurses := true, apart := false, narrowed := true }
def FindWaysUptoSaid : Prop := findWaysUptoRow.holds Try.pinned (OpenSpec.upto findWaysSpec)

/-- 'reevelaw13.FindKnown', WHERE WHAT IT READS IS OF BULK AT MOST 1048576: true; the input reads as it did. -/
def findKnownUptoRow : OpenClaim := { program := "ytphbidcbepnihaa", sum := "f90882190a1106e5721ff3f662b7353c609ab4b776ec26c9b608cca17289c196", func := "reeve/reevelaw13.FindKnown", spec := "findKnown", unfollowed := true, recurses := true, apart := false, narrowed := true }
def FindKnownUptoSaid : Prop := findKnownUptoRow.holds Try.pinned (OpenSpec.upto findKnownSpec)

/-- 'reevelaw18.MailKnown', WHERE WHAT IT READS IS OF BULK AT MOST 1048576: true; the input reads as it did. -/
def mailKnownUptoRow : OpenClaim := { program := "ytphbidcbepnihaa", sum := "f90882190a1106e5721ff3f662b7353c609ab4b776ec26c9b608cca17289c196", func := "reeve/reevelaw18.MailKnown", spec := "mailKnown", inPlace := ["internal/bytealg.IndexByteString", "internal/bytealg.IndexString"], unfollowed := true, recurses := true, named := ["internal/bytealg.MaxLen"], apart := false, narrowed := true }
def MailKnownUptoSaid : Prop := mailKnownUptoRow.holds Try.pinned (OpenSpec.upto mailKnownSpec)

end Rows
end Go.Proofs.Ytphbidcbepnihaa
