/-
  No cell of these rows narrows 'for every input' (looked for: loops, veiled, ifaces, maps, wideKeys, modest, calm, conditions, laid).
  DERIVED. THE GIVEN ROWS OF THIS SEAT. 3 by the template 'for every input the law returns true; each argument reads behind the call as it read before'; 0 by the template 'total and deterministic' (their statements: YtidmcpkbcphpiaaTotals.lean).
  GIVEN WITH THE SEED: the statements are not yours to turn. If you find one false, say at which input.
  Laid BY PROGRAM, IN A SANDBOX (cutbox-rows.mjs): the forced cells as the released guide's own fill.sh prints them over the translation c0f2f6d48360bb68… (all of the seat's roots in one cut). By AI agents, Wed Nov 11 2026. No macro, syntax, notation, axiom, sorry.
-/
import Derived.Test.YtidmcpkbcphpiaaChecked
import GoSem.Claim
import GoSem.ClaimJoined
import GoSem.ClaimMapViews
import Derived.JoinedTies
import Derived.KernelRfl
namespace Go.Proofs.Ytidmcpkbcphpiaa
/- THE CELL 'sum', in the pinned program and in every row, IS THE sha256 OF THE DUMP (.gsa) THAT YtidmcpkbcphpiaaProg.lean LOADS. Nothing in Lean hashes anything: it is a label: what it is worth is what the hold of that sum in a sandbox is worth. -/
noncomputable def Try.pinned : Pinned := { name := "ytidmcpkbcphpiaa", sum := "c0f2f6d48360bb6845175649411215a073204e7b2c764f30f4f802b6dfd37d1f", checked := Try.checked }
namespace Rows
def none {H : Type} : Left H := { results := [], args := [] }

/-- 'reevelaw18.MailRound': WHATEVER THE INPUT: true; the input reads as it did. -/
def mailRoundSpec : ChangeSpec := { name := "mailRound", fn := fun _ => fun
  | [d1, d2, d3, d4] => { results := [.lit (.bool true)], args := [d1, d2, d3, d4] }
  | _ => none }
def mailRoundRow : OpenClaim := { program := "ytidmcpkbcphpiaa", sum := "c0f2f6d48360bb6845175649411215a073204e7b2c764f30f4f802b6dfd37d1f", func := "reeve/reevelaw18.MailRound", spec := "mailRound", inPlace := ["internal/bytealg.IndexByteString", "internal/bytealg.IndexString"], unfollowed := true, recurses := true, named := ["internal/bytealg.MaxLen"], apart := false }
def MailRoundSaid : Prop := mailRoundRow.holds Try.pinned (OpenSpec.ofChange mailRoundSpec)

/-- ITS FALSE NEIGHBOUR: 'it returns false'. Refute it at one input. -/
def mailRoundWrong : ChangeSpec := { name := "mailRound", fn := fun _ => fun
  | [d1, d2, d3, d4] => { results := [.lit (.bool false)], args := [d1, d2, d3, d4] }
  | _ => none }
def MailRoundWrongFalsely : Prop := mailRoundRow.holds Try.pinned (OpenSpec.ofChange mailRoundWrong)

/-- 'reevelaw18.MailHands': WHATEVER THE INPUT: true; the input reads as it did. -/
def mailHandsSpec : ChangeSpec := { name := "mailHands", fn := fun _ => fun
  | [d1, d2, d3, d4, d5, d6, d7] => { results := [.lit (.bool true)], args := [d1, d2, d3, d4, d5, d6, d7] }
  | _ => none }
def mailHandsRow : OpenClaim := { program := "ytidmcpkbcphpiaa", sum := "c0f2f6d48360bb6845175649411215a073204e7b2c764f30f4f802b6dfd37d1f", func := "reeve/reevelaw18.MailHands", spec := "mailHands", inPlace := ["internal/bytealg.IndexByteString", "internal/bytealg.IndexString"], unfollowed := true, recurses := true, named := ["internal/bytealg.MaxLen"], apart := false }
def MailHandsSaid : Prop := mailHandsRow.holds Try.pinned (OpenSpec.ofChange mailHandsSpec)

/-- ITS FALSE NEIGHBOUR: 'it returns false'. Refute it at one input. -/
def mailHandsWrong : ChangeSpec := { name := "mailHands", fn := fun _ => fun
  | [d1, d2, d3, d4, d5, d6, d7] => { results := [.lit (.bool false)], args := [d1, d2, d3, d4, d5, d6, d7] }
  | _ => none }
def MailHandsWrongFalsely : Prop := mailHandsRow.holds Try.pinned (OpenSpec.ofChange mailHandsWrong)

/-- 'reevelaw13.FindWays': WHATEVER THE INPUT: true; the input reads as it did. -/
def findWaysSpec : ChangeSpec := { name := "findWays", fn := fun _ => fun
  | [d1, d2, d3] => { results := [.lit (.bool true)], args := [d1, d2, d3] }
  | _ => none }
def findWaysRow : OpenClaim := { program := "ytidmcpkbcphpiaa", sum := "c0f2f6d48360bb6845175649411215a073204e7b2c764f30f4f802b6dfd37d1f", func := "reeve/reevelaw13.FindWays", spec := "findWays", unfollowed := true, recurses := true, apart := false }
def FindWaysSaid : Prop := findWaysRow.holds Try.pinned (OpenSpec.ofChange findWaysSpec)

/-- ITS FALSE NEIGHBOUR: 'it returns false'. Refute it at one input. -/
def findWaysWrong : ChangeSpec := { name := "findWays", fn := fun _ => fun
  | [d1, d2, d3] => { results := [.lit (.bool false)], args := [d1, d2, d3] }
  | _ => none }
def FindWaysWrongFalsely : Prop := findWaysRow.holds Try.pinned (OpenSpec.ofChange findWaysWrong)

/- THE SECOND FORM. 'bulk': how many values and letters a reading holds, each counted each time it is reached (what is shared counts as often as it is met; a slice's spare places count too). A statement '..UptoSaid' is the law's where the arguments, and the package variables that the reading takes, are together of bulk at most 1048576: NARROWER than '..Said'. Prove '..Said' where nothing that the law and all that it calls make is longer than what came in: it says more and counts as full. Else prove '..UptoSaid'. A law counts once. -/
mutual
def uptoBulk {H : Type} : DataW H → Nat
  | .lit (.string bytes) => bytes.length + 1
  | .lit _ => 1
  | .nil => 1
  | .ptr d => uptoBulk d + 1
  | .slice elems spare => uptoBulkAll elems + uptoBulkAll spare + 1
  | .agg parts => uptoBulkAll parts + 1
  | .iface _ d => uptoBulk d + 1
  | .map entries => uptoBulkEntries entries + 1
  | .held _ => 1
def uptoBulkAll {H : Type} : List (DataW H) → Nat
  | [] => 0
  | d :: r => uptoBulk d + uptoBulkAll r
def uptoBulkEntries {H : Type} : List (Lit × DataW H) → Nat
  | [] => 0
  | x :: r => uptoBulkEntry x + uptoBulkEntries r
def uptoBulkEntry {H : Type} : Lit × DataW H → Nat
  | (.string bytes, d) => bytes.length + uptoBulk d + 1
  | (_, d) => uptoBulk d + 1
 end
def uptoSmall : (H : Type) → List (DataW H) → Bool := fun _ ds => decide (uptoBulkAll ds ≤ 1048576)
def OpenSpec.upto (s : _root_.Go.ChangeSpec) : _root_.Go.OpenSpec := { _root_.Go.OpenSpec.ofChange s with cond := some uptoSmall }

/-- 'reevelaw18.MailRound', WHERE WHAT IT READS IS OF BULK AT MOST 1048576: true; the input reads as it did. -/
def mailRoundUptoRow : OpenClaim := { program := "ytidmcpkbcphpiaa", sum := "c0f2f6d48360bb6845175649411215a073204e7b2c764f30f4f802b6dfd37d1f", func := "reeve/reevelaw18.MailRound", spec := "mailRound", inPlace := ["internal/bytealg.IndexByteString", "internal/bytealg.IndexString"], unfollowed := true, recurses := true, named := ["internal/bytealg.MaxLen"], apart := false, narrowed := true }
def MailRoundUptoSaid : Prop := mailRoundUptoRow.holds Try.pinned (OpenSpec.upto mailRoundSpec)

/-- 'reevelaw18.MailHands', WHERE WHAT IT READS IS OF BULK AT MOST 1048576: true; the input reads as it did. -/
def mailHandsUptoRow : OpenClaim := { program := "ytidmcpkbcphpiaa", sum := "c0f2f6d48360bb6845175649411215a073204e7b2c764f30f4f802b6dfd37d1f", func := "reeve/reevelaw18.MailHands", spec := "mailHands", inPlace := ["internal/bytealg.IndexByteString", "internal/bytealg.IndexString"], unfollowed := true, recurses := true, named := ["internal/bytealg.MaxLen"], apart := false, narrowed := true }
def MailHandsUptoSaid : Prop := mailHandsUptoRow.holds Try.pinned (OpenSpec.upto mailHandsSpec)

/-- 'reevelaw13.FindWays', WHERE WHAT IT READS IS OF BULK AT MOST 1048576: true; the input reads as it did. -/
def findWaysUptoRow : OpenClaim := { program := "ytidmcpkbcphpiaa", sum := "c0f2f6d48360bb6845175649411215a073204e7b2c764f30f4f802b6dfd37d1f", func := "reeve/reevelaw13.FindWays", spec := "findWays", unfollowed := true, recurses := true, apart := false, narrowed := true }
def FindWaysUptoSaid : Prop := findWaysUptoRow.holds Try.pinned (OpenSpec.upto findWaysSpec)

end Rows
end Go.Proofs.Ytidmcpkbcphpiaa
