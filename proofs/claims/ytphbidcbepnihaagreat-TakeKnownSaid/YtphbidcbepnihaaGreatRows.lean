/-
  No cell of these rows narrows 'for every input' (looked for: loops, veiled, ifaces, maps, wideKeys, modest, calm, conditions, laid).
  DERIVED. THE GIVEN ROWS OF THIS SEAT. 6 by the template 'for every input the law returns true; each argument reads behind the call as it read before'; 0 by the template 'total and deterministic' (their statements: YtphbidcbepnihaaGreatTotals.lean).
  GIVEN WITH THE SEED: the statements are not yours to turn. If you find one false, say at which input.
  Laid BY PROGRAM, IN A SANDBOX (cutbox-rows.mjs): the forced cells as the released guide's own fill.sh prints them over the translation b6671f2f8ebe1798… (all of the seat's roots in one cut). By AI agents, Wed Nov 11 2026. No macro, syntax, notation, axiom, sorry.
-/
import Derived.Test.YtphbidcbepnihaaGreatChecked
import GoSem.Claim
import GoSem.ClaimJoined
import GoSem.ClaimMapViews
import Derived.JoinedTies
import Derived.KernelRfl
namespace Go.Proofs.YtphbidcbepnihaaGreat
/- THE CELL 'sum', in the pinned program and in every row, IS THE sha256 OF THE DUMP (.gsa) THAT YtphbidcbepnihaaGreatProg.lean LOADS. Nothing in Lean hashes anything: it is a label: what it is worth is what the hold of that sum in a sandbox is worth. -/
noncomputable def Tryz.pinned : Pinned := { name := "ytphbidcbepnihaagreat", sum := "b6671f2f8ebe1798ceda709573172f3197e6b3a7d3ba0cafa8bac51cdb3ddf6f", checked := Tryz.checked }
namespace Rows
def none {H : Type} : Left H := { results := [], args := [] }

/-- 'reevelaw18.MailSays': WHATEVER THE INPUT: true; the input reads as it did. -/
def mailSaysSpec : ChangeSpec := { name := "mailSays", fn := fun _ => fun
  | [d1, d2, d3] => { results := [.lit (.bool true)], args := [d1, d2, d3] }
  | _ => none }
def mailSaysRow : OpenClaim := { program := "ytphbidcbepnihaagreat", sum := "b6671f2f8ebe1798ceda709573172f3197e6b3a7d3ba0cafa8bac51cdb3ddf6f", func := "reeve/reevelaw18.MailSays", spec := "mailSays", inPlace := ["internal/bytealg.IndexByteString", "internal/bytealg.IndexString"], unfollowed := true, recurses := true, named := ["internal/bytealg.MaxLen"], apart := false }
def MailSaysSaid : Prop := mailSaysRow.holds Tryz.pinned (OpenSpec.ofChange mailSaysSpec)

/-- ITS FALSE NEIGHBOUR: 'it returns false'. Refute it at one input. -/
def mailSaysWrong : ChangeSpec := { name := "mailSays", fn := fun _ => fun
  | [d1, d2, d3] => { results := [.lit (.bool false)], args := [d1, d2, d3] }
  | _ => none }
def MailSaysWrongFalsely : Prop := mailSaysRow.holds Tryz.pinned (OpenSpec.ofChange mailSaysWrong)

/-- 'reevelaw13.FindSays': WHATEVER THE INPUT: true; the input reads as it did. -/
def findSaysSpec : ChangeSpec := { name := "findSays", fn := fun _ => fun
  | [d1, d2, d3, d4] => { results := [.lit (.bool true)], args := [d1, d2, d3, d4] }
  | _ => none }
def findSaysRow : OpenClaim := { program := "ytphbidcbepnihaagreat", sum := "b6671f2f8ebe1798ceda709573172f3197e6b3a7d3ba0cafa8bac51cdb3ddf6f", func := "reeve/reevelaw13.FindSays", spec := "findSays", unfollowed := true, recurses := true, apart := false }
def FindSaysSaid : Prop := findSaysRow.holds Tryz.pinned (OpenSpec.ofChange findSaysSpec)

/-- ITS FALSE NEIGHBOUR: 'it returns false'. Refute it at one input. -/
def findSaysWrong : ChangeSpec := { name := "findSays", fn := fun _ => fun
  | [d1, d2, d3, d4] => { results := [.lit (.bool false)], args := [d1, d2, d3, d4] }
  | _ => none }
def FindSaysWrongFalsely : Prop := findSaysRow.holds Tryz.pinned (OpenSpec.ofChange findSaysWrong)

/-- 'reevelaw17.TakeAll': WHATEVER THE INPUT: true; the input reads as it did. -/
def takeAllSpec : ChangeSpec := { name := "takeAll", fn := fun _ => fun
  | [d] => { results := [.lit (.bool true)], args := [d] }
  | _ => none }
def takeAllRow : OpenClaim := { program := "ytphbidcbepnihaagreat", sum := "b6671f2f8ebe1798ceda709573172f3197e6b3a7d3ba0cafa8bac51cdb3ddf6f", func := "reeve/reevelaw17.TakeAll", spec := "takeAll", inPlace := ["internal/bytealg.IndexByteString", "internal/bytealg.IndexString"], unfollowed := true, recurses := true, named := ["internal/bytealg.MaxLen"], apart := false }
def TakeAllSaid : Prop := takeAllRow.holds Tryz.pinned (OpenSpec.ofChange takeAllSpec)

/-- ITS FALSE NEIGHBOUR: 'it returns false'. Refute it at one input. -/
def takeAllWrong : ChangeSpec := { name := "takeAll", fn := fun _ => fun
  | [d] => { results := [.lit (.bool false)], args := [d] }
  | _ => none }
def TakeAllWrongFalsely : Prop := takeAllRow.holds Tryz.pinned (OpenSpec.ofChange takeAllWrong)

/-- 'reevelaw17.TakeCopies': WHATEVER THE INPUT: true; the input reads as it did. -/
def takeCopiesSpec : ChangeSpec := { name := "takeCopies", fn := fun _ => fun
  | [d1, d2, d3, d4, d5] => { results := [.lit (.bool true)], args := [d1, d2, d3, d4, d5] }
  | _ => none }
def takeCopiesRow : OpenClaim := { program := "ytphbidcbepnihaagreat", sum := "b6671f2f8ebe1798ceda709573172f3197e6b3a7d3ba0cafa8bac51cdb3ddf6f", func := "reeve/reevelaw17.TakeCopies", spec := "takeCopies", inPlace := ["internal/bytealg.IndexByteString", "internal/bytealg.IndexString"], unfollowed := true, recurses := true, named := ["internal/bytealg.MaxLen"], apart := false }
def TakeCopiesSaid : Prop := takeCopiesRow.holds Tryz.pinned (OpenSpec.ofChange takeCopiesSpec)

/-- ITS FALSE NEIGHBOUR: 'it returns false'. Refute it at one input. -/
def takeCopiesWrong : ChangeSpec := { name := "takeCopies", fn := fun _ => fun
  | [d1, d2, d3, d4, d5] => { results := [.lit (.bool false)], args := [d1, d2, d3, d4, d5] }
  | _ => none }
def TakeCopiesWrongFalsely : Prop := takeCopiesRow.holds Tryz.pinned (OpenSpec.ofChange takeCopiesWrong)

/-- 'reevelaw18.MailLost': WHATEVER THE INPUT: true; the input reads as it did. -/
def mailLostSpec : ChangeSpec := { name := "mailLost", fn := fun _ => fun
  | [d1, d2] => { results := [.lit (.bool true)], args := [d1, d2] }
  | _ => none }
def mailLostRow : OpenClaim := { program := "ytphbidcbepnihaagreat", sum := "b6671f2f8ebe1798ceda709573172f3197e6b3a7d3ba0cafa8bac51cdb3ddf6f", func := "reeve/reevelaw18.MailLost", spec := "mailLost", inPlace := ["internal/bytealg.IndexByteString", "internal/bytealg.IndexString"], unfollowed := true, recurses := true, named := ["internal/bytealg.MaxLen"], apart := false }
def MailLostSaid : Prop := mailLostRow.holds Tryz.pinned (OpenSpec.ofChange mailLostSpec)

/-- ITS FALSE NEIGHBOUR: 'it returns false'. Refute it at one input. -/
def mailLostWrong : ChangeSpec := { name := "mailLost", fn := fun _ => fun
  | [d1, d2] => { results := [.lit (.bool false)], args := [d1, d2] }
  | _ => none }
def MailLostWrongFalsely : Prop := mailLostRow.holds Tryz.pinned (OpenSpec.ofChange mailLostWrong)

/-- 'reevelaw17.TakeKnown': WHATEVER THE INPUT: true; the input reads as it did. -/
def takeKnownSpec : ChangeSpec := { name := "takeKnown", fn := fun _ => fun
  | [] => { results := [.lit (.bool true)], args := [] }
  | _ => none }
def takeKnownRow : OpenClaim := { program := "ytphbidcbepnihaagreat", sum := "b6671f2f8ebe1798ceda709573172f3197e6b3a7d3ba0cafa8bac51cdb3ddf6f", func := "reeve/reevelaw17.TakeKnown", spec := "takeKnown", inPlace := ["internal/bytealg.IndexByteString", "internal/bytealg.IndexString"], unfollowed := true, recurses := true, named := ["internal/bytealg.MaxLen"], apart := false }
def TakeKnownSaid : Prop := takeKnownRow.holds Tryz.pinned (OpenSpec.ofChange takeKnownSpec)

/-- ITS FALSE NEIGHBOUR: 'it returns false'. Refute it at one input. -/
def takeKnownWrong : ChangeSpec := { name := "takeKnown", fn := fun _ => fun
  | [] => { results := [.lit (.bool false)], args := [] }
  | _ => none }
def TakeKnownWrongFalsely : Prop := takeKnownRow.holds Tryz.pinned (OpenSpec.ofChange takeKnownWrong)

/- THE SECOND FORM. 'bulk': how many values and letters a reading holds, each counted each time it is reached (what is shared counts as often as it is met; a slice's spare places count too). A statement '..UptoSaid' is the law's where the arguments, and the package variables that the reading takes, are together of bulk at most 1048576: NARROWER than '..Said'. Prove '..Said' where nothing that the law and all that it calls make is longer than what came in: it says more and counts as full. Else prove '..UptoSaid'. A law counts once. -/
mutual
def uptoBulk {H : Type} : DataW H → Nat
  | .lit (.string bytes) => bytes.length + 1
  | .lit _ => 1
  | .nil => 1
  | .ptr d => uptoBulk d + 1
  | .slice elems spare => uptoBulkAll elems + uptoBulkAll spare + 1
  | .agg parts => uptoBulkAll parts + 1
  | .iface _ d => uptoBulk d + 1
  | .map entries => uptoBulkEntries entries + 1
  | .held _ => 1
def uptoBulkAll {H : Type} : List (DataW H) → Nat
  | [] => 0
  | d :: r => uptoBulk d + uptoBulkAll r
def uptoBulkEntries {H : Type} : List (Lit × DataW H) → Nat
  | [] => 0
  | x :: r => uptoBulkEntry x + uptoBulkEntries r
def uptoBulkEntry {H : Type} : Lit × DataW H → Nat
  | (.string bytes, d) => bytes.length + uptoBulk d + 1
  | (_, d) => uptoBulk d + 1
 end
def uptoSmall : (H : Type) → List (DataW H) → Bool := fun _ ds => decide (uptoBulkAll ds ≤ 1048576)
def OpenSpec.upto (s : _root_.Go.ChangeSpec) : _root_.Go.OpenSpec := { _root_.Go.OpenSpec.ofChange s with cond := some uptoSmall }

/-- 'reevelaw18.MailSays', WHERE WHAT IT READS IS OF BULK AT MOST 1048576: true; the input reads as it did. -/
def mailSaysUptoRow : OpenClaim := { program := "ytphbidcbepnihaagreat", sum := "b6671f2f8ebe1798ceda709573172f3197e6b3a7d3ba0cafa8bac51cdb3ddf6f", func := "reeve/reevelaw18.MailSays", spec := "mailSays", inPlace := ["internal/bytealg.IndexByteString", "internal/bytealg.IndexString"], unfollowed := true, recurses := true, named := ["internal/bytealg.MaxLen"], apart := false, narrowed := true }
def MailSaysUptoSaid : Prop := mailSaysUptoRow.holds Tryz.pinned (OpenSpec.upto mailSaysSpec)

/-- 'reevelaw13.FindSays', WHERE WHAT IT READS IS OF BULK AT MOST 1048576: true; the input reads as it did. -/
def findSaysUptoRow : OpenClaim := { program := "ytphbidcbepnihaagreat", sum := "b6671f2f8ebe1798ceda709573172f3197e6b3a7d3ba0cafa8bac51cdb3ddf6f", func := "reeve/reevelaw13.FindSays", spec := "findSays", unfollowed := true, recurses := true, apart := false, narrowed := true }
def FindSaysUptoSaid : Prop := findSaysUptoRow.holds Tryz.pinned (OpenSpec.upto findSaysSpec)

/-- 'reevelaw17.TakeAll', WHERE WHAT IT READS IS OF BULK AT MOST 1048576: true; the input reads as it did. -/
def takeAllUptoRow : OpenClaim := { program := "ytphbidcbepnihaagreat", sum := "b6671f2f8ebe1798ceda709573172f3197e6b3a7d3ba0cafa8bac51cdb3ddf6f", func := "reeve/reevelaw17.TakeAll", spec := "takeAll", inPlace := ["internal/bytealg.IndexByteString", "internal/bytealg.IndexString"], unfollowed := true, recurses := true, named := ["internal/bytealg.MaxLen"], apart := false, narrowed := true }
def TakeAllUptoSaid : Prop := takeAllUptoRow.holds Tryz.pinned (OpenSpec.upto takeAllSpec)

/-- 'reevelaw17.TakeCopies', WHERE WHAT IT READS IS OF BULK AT MOST 1048576: true; the input reads as it did. -/
def takeCopiesUptoRow : OpenClaim := { program := "ytphbidcbepnihaagreat", sum := "b6671f2f8ebe1798ceda709573172f3197e6b3a7d3ba0cafa8bac51cdb3ddf6f", func := "reeve/reevelaw17.TakeCopies", spec := "takeCopies", inPlace := ["internal/bytealg.IndexByteString", "internal/bytealg.IndexString"], unfollowed := true, recurses := true, named := ["internal/bytealg.MaxLen"], apart := false, narrowed := true }
def TakeCopiesUptoSaid : Prop := takeCopiesUptoRow.holds Tryz.pinned (OpenSpec.upto takeCopiesSpec)

/-- 'reevelaw18.MailLost', WHERE WHAT IT READS IS OF BULK AT MOST 1048576: true; the input reads as it did. -/
def mailLostUptoRow : OpenClaim := { program := "ytphbidcbepnihaagreat", sum := "b6671f2f8ebe1798ceda709573172f3197e6b3a7d3ba0cafa8bac51cdb3ddf6f", func := "reeve/reevelaw18.MailLost", spec := "mailLost", inPlace := ["internal/bytealg.IndexByteString", "internal/bytealg.IndexString"], unfollowed := true, recurses := true, named := ["internal/bytealg.MaxLen"], apart := false, narrowed := true }
def MailLostUptoSaid : Prop := mailLostUptoRow.holds Tryz.pinned (OpenSpec.upto mailLostSpec)

/-- 'reevelaw17.TakeKnown', WHERE WHAT IT READS IS OF BULK AT MOST 1048576: true; the input reads as it did. -/
def takeKnownUptoRow : OpenClaim := { program := "ytphbidcbepnihaagreat", sum := "b6671f2f8ebe1798ceda709573172f3197e6b3a7d3ba0cafa8bac51cdb3ddf6f", func := "reeve/reevelaw17.TakeKnown", spec := "takeKnown", inPlace := ["internal/bytealg.IndexByteString", "internal/bytealg.IndexString"], unfollowed := true, recurses := true, named := ["internal/bytealg.MaxLen"], apart := false, narrowed := true }
def TakeKnownUptoSaid : Prop := takeKnownUptoRow.holds Tryz.pinned (OpenSpec.upto takeKnownSpec)

end Rows
end Go.Proofs.YtphbidcbepnihaaGreat
