/-
  No cell of these rows narrows 'for every input' (looked for: loops, veiled, ifaces, maps, wideKeys, modest, calm, conditions, laid).
  DERIVED. THE GIVEN ROWS OF THIS SEAT. 9 by the template 'for every input the law returns true; each argument reads behind the call as it read before'; 0 by the template 'total and deterministic' (their statements: YtidmcpkbcphpiaaGreatTotals.lean).
  GIVEN WITH THE SEED: the statements are not yours to turn. If you find one false, say at which input.
  Laid BY PROGRAM, IN A SANDBOX (cutbox-rows.mjs): the forced cells as the released guide's own fill.sh prints them over the translation d03117e569f4b073… (all of the seat's roots in one cut). By AI agents, Wed Nov 11 2026. No macro, syntax, notation, axiom, sorry.
-/
import Derived.Test.YtidmcpkbcphpiaaGreatChecked
import GoSem.Claim
import GoSem.ClaimJoined
import GoSem.ClaimMapViews
import Derived.JoinedTies
import Derived.KernelRfl
namespace Go.Proofs.YtidmcpkbcphpiaaGreat
/- THE CELL 'sum', in the pinned program and in every row, IS THE sha256 OF THE DUMP (.gsa) THAT YtidmcpkbcphpiaaGreatProg.lean LOADS. Nothing in Lean hashes anything: it is a label: what it is worth is what the hold of that sum in a sandbox is worth. -/
noncomputable def Tryz.pinned : Pinned := { name := "ytidmcpkbcphpiaagreat", sum := "d03117e569f4b0732e7648147537b7ff58496c3db3411af1398a4b8c6b71e699", checked := Tryz.checked }
namespace Rows
def none {H : Type} : Left H := { results := [], args := [] }

/-- 'reevelaw18.MailSays': WHATEVER THE INPUT: true; the input reads as it did. -/
def mailSaysSpec : ChangeSpec := { name := "mailSays", fn := fun _ => fun
  | [d1, d2, d3] => { results := [.lit (.bool true)], args := [d1, d2, d3] }
  | _ => none }
def mailSaysRow : OpenClaim := { program := "ytidmcpkbcphpiaagreat", sum := "d03117e569f4b0732e7648147537b7ff58496c3db3411af1398a4b8c6b71e699", func := "reeve/reevelaw18.MailSays", spec := "mailSays", inPlace := ["internal/bytealg.IndexByteString", "internal/bytealg.IndexString"], unfollowed := true, recurses := true, named := ["internal/bytealg.MaxLen"], apart := false }
def MailSaysSaid : Prop := mailSaysRow.holds Tryz.pinned (OpenSpec.ofChange mailSaysSpec)

/-- ITS FALSE NEIGHBOUR: 'it returns false'. Refute it at one input. -/
def mailSaysWrong : ChangeSpec := { name := "mailSays", fn := fun _ => fun
  | [d1, d2, d3] => { results := [.lit (.bool false)], args := [d1, d2, d3] }
  | _ => none }
def MailSaysWrongFalsely : Prop := mailSaysRow.holds Tryz.pinned (OpenSpec.ofChange mailSaysWrong)

/-- 'reevelaw13.FindSays': WHATEVER THE INPUT: true; the input reads as it did. -/
def findSaysSpec : ChangeSpec := { name := "findSays", fn := fun _ => fun
  | [d1, d2, d3, d4] => { results := [.lit (.bool true)], args := [d1, d2, d3, d4] }
  | _ => none }
def findSaysRow : OpenClaim := { program := "ytidmcpkbcphpiaagreat", sum := "d03117e569f4b0732e7648147537b7ff58496c3db3411af1398a4b8c6b71e699", func := "reeve/reevelaw13.FindSays", spec := "findSays", unfollowed := true, recurses := true, apart := false }
def FindSaysSaid : Prop := findSaysRow.holds Tryz.pinned (OpenSpec.ofChange findSaysSpec)

/-- ITS FALSE NEIGHBOUR: 'it returns false'. Refute it at one input. -/
def findSaysWrong : ChangeSpec := { name := "findSays", fn := fun _ => fun
  | [d1, d2, d3, d4] => { results := [.lit (.bool false)], args := [d1, d2, d3, d4] }
  | _ => none }
def FindSaysWrongFalsely : Prop := findSaysRow.holds Tryz.pinned (OpenSpec.ofChange findSaysWrong)

/-- 'reevelaw17.TakeAll': WHATEVER THE INPUT: true; the input reads as it did. -/
def takeAllSpec : ChangeSpec := { name := "takeAll", fn := fun _ => fun
  | [d] => { results := [.lit (.bool true)], args := [d] }
  | _ => none }
def takeAllRow : OpenClaim := { program := "ytidmcpkbcphpiaagreat", sum := "d03117e569f4b0732e7648147537b7ff58496c3db3411af1398a4b8c6b71e699", func := "reeve/reevelaw17.TakeAll", spec := "takeAll", inPlace := ["internal/bytealg.IndexByteString", "internal/bytealg.IndexString"], unfollowed := true, recurses := true, named := ["internal/bytealg.MaxLen"], apart := false }
def TakeAllSaid : Prop := takeAllRow.holds Tryz.pinned (OpenSpec.ofChange takeAllSpec)

/-- ITS FALSE NEIGHBOUR: 'it returns false'. Refute it at one input. -/
def takeAllWrong : ChangeSpec := { name := "takeAll", fn := fun _ => fun
  | [d] => { results := [.lit (.bool false)], args := [d] }
  | _ => none }
def TakeAllWrongFalsely : Prop := takeAllRow.holds Tryz.pinned (OpenSpec.ofChange takeAllWrong)

/-- 'reevelaw17.TakeCopies': WHATEVER THE INPUT: true; the input reads as it did. -/
def takeCopiesSpec : ChangeSpec := { name := "takeCopies", fn := fun _ => fun
  | [d1, d2, d3, d4, d5] => { results := [.lit (.bool true)], args := [d1, d2, d3, d4, d5] }
  | _ => none }
def takeCopiesRow : OpenClaim := { program := "ytidmcpkbcphpiaagreat", sum := "d03117e569f4b0732e7648147537b7ff58496c3db3411af1398a4b8c6b71e699", func := "reeve/reevelaw17.TakeCopies", spec := "takeCopies", inPlace := ["internal/bytealg.IndexByteString", "internal/bytealg.IndexString"], unfollowed := true, recurses := true, named := ["internal/bytealg.MaxLen"], apart := false }
def TakeCopiesSaid : Prop := takeCopiesRow.holds Tryz.pinned (OpenSpec.ofChange takeCopiesSpec)

/-- ITS FALSE NEIGHBOUR: 'it returns false'. Refute it at one input. -/
def takeCopiesWrong : ChangeSpec := { name := "takeCopies", fn := fun _ => fun
  | [d1, d2, d3, d4, d5] => { results := [.lit (.bool false)], args := [d1, d2, d3, d4, d5] }
  | _ => none }
def TakeCopiesWrongFalsely : Prop := takeCopiesRow.holds Tryz.pinned (OpenSpec.ofChange takeCopiesWrong)

/-- 'reevelaw21.RuleRevokes': WHATEVER THE INPUT: true; the input reads as it did. -/
def ruleRevokesSpec : ChangeSpec := { name := "ruleRevokes", fn := fun _ => fun
  | [d1, d2, d3] => { results := [.lit (.bool true)], args := [d1, d2, d3] }
  | _ => none }
def ruleRevokesRow : OpenClaim := { program := "ytidmcpkbcphpiaagreat", sum := "d03117e569f4b0732e7648147537b7ff58496c3db3411af1398a4b8c6b71e699", func := "reeve/reevelaw21.RuleRevokes", spec := "ruleRevokes", inPlace := ["internal/bytealg.IndexByteString", "internal/bytealg.IndexString"], unfollowed := true, recurses := true, named := ["internal/bytealg.MaxLen"], apart := false }
def RuleRevokesSaid : Prop := ruleRevokesRow.holds Tryz.pinned (OpenSpec.ofChange ruleRevokesSpec)

/-- ITS FALSE NEIGHBOUR: 'it returns false'. Refute it at one input. -/
def ruleRevokesWrong : ChangeSpec := { name := "ruleRevokes", fn := fun _ => fun
  | [d1, d2, d3] => { results := [.lit (.bool false)], args := [d1, d2, d3] }
  | _ => none }
def RuleRevokesWrongFalsely : Prop := ruleRevokesRow.holds Tryz.pinned (OpenSpec.ofChange ruleRevokesWrong)

/-- 'reevelaw21.RuleApart': WHATEVER THE INPUT: true; the input reads as it did. -/
def ruleApartSpec : ChangeSpec := { name := "ruleApart", fn := fun _ => fun
  | [d1, d2, d3, d4] => { results := [.lit (.bool true)], args := [d1, d2, d3, d4] }
  | _ => none }
def ruleApartRow : OpenClaim := { program := "ytidmcpkbcphpiaagreat", sum := "d03117e569f4b0732e7648147537b7ff58496c3db3411af1398a4b8c6b71e699", func := "reeve/reevelaw21.RuleApart", spec := "ruleApart", inPlace := ["internal/bytealg.IndexByteString", "internal/bytealg.IndexString"], unfollowed := true, recurses := true, named := ["internal/bytealg.MaxLen"], apart := false }
def RuleApartSaid : Prop := ruleApartRow.holds Tryz.pinned (OpenSpec.ofChange ruleApartSpec)

/-- ITS FALSE NEIGHBOUR: 'it returns false'. Refute it at one input. -/
def ruleApartWrong : ChangeSpec := { name := "ruleApart", fn := fun _ => fun
  | [d1, d2, d3, d4] => { results := [.lit (.bool false)], args := [d1, d2, d3, d4] }
  | _ => none }
def RuleApartWrongFalsely : Prop := ruleApartRow.holds Tryz.pinned (OpenSpec.ofChange ruleApartWrong)

/-- 'reevelaw21.RuleWords': WHATEVER THE INPUT: true; the input reads as it did. -/
def ruleWordsSpec : ChangeSpec := { name := "ruleWords", fn := fun _ => fun
  | [d1, d2, d3] => { results := [.lit (.bool true)], args := [d1, d2, d3] }
  | _ => none }
def ruleWordsRow : OpenClaim := { program := "ytidmcpkbcphpiaagreat", sum := "d03117e569f4b0732e7648147537b7ff58496c3db3411af1398a4b8c6b71e699", func := "reeve/reevelaw21.RuleWords", spec := "ruleWords", inPlace := ["internal/bytealg.IndexByteString", "internal/bytealg.IndexString"], unfollowed := true, recurses := true, named := ["internal/bytealg.MaxLen"], apart := false }
def RuleWordsSaid : Prop := ruleWordsRow.holds Tryz.pinned (OpenSpec.ofChange ruleWordsSpec)

/-- ITS FALSE NEIGHBOUR: 'it returns false'. Refute it at one input. -/
def ruleWordsWrong : ChangeSpec := { name := "ruleWords", fn := fun _ => fun
  | [d1, d2, d3] => { results := [.lit (.bool false)], args := [d1, d2, d3] }
  | _ => none }
def RuleWordsWrongFalsely : Prop := ruleWordsRow.holds Tryz.pinned (OpenSpec.ofChange ruleWordsWrong)

/-- 'reevelaw21.RuleOthers': WHATEVER THE INPUT: true; the input reads as it did. -/
def ruleOthersSpec : ChangeSpec := { name := "ruleOthers", fn := fun _ => fun
  | [d] => { results := [.lit (.bool true)], args := [d] }
  | _ => none }
def ruleOthersRow : OpenClaim := { program := "ytidmcpkbcphpiaagreat", sum := "d03117e569f4b0732e7648147537b7ff58496c3db3411af1398a4b8c6b71e699", func := "reeve/reevelaw21.RuleOthers", spec := "ruleOthers", inPlace := ["internal/bytealg.IndexByteString", "internal/bytealg.IndexString"], unfollowed := true, recurses := true, named := ["internal/bytealg.MaxLen"], apart := false }
def RuleOthersSaid : Prop := ruleOthersRow.holds Tryz.pinned (OpenSpec.ofChange ruleOthersSpec)

/-- ITS FALSE NEIGHBOUR: 'it returns false'. Refute it at one input. -/
def ruleOthersWrong : ChangeSpec := { name := "ruleOthers", fn := fun _ => fun
  | [d] => { results := [.lit (.bool false)], args := [d] }
  | _ => none }
def RuleOthersWrongFalsely : Prop := ruleOthersRow.holds Tryz.pinned (OpenSpec.ofChange ruleOthersWrong)

/-- 'reevelaw21.RuleGrows': WHATEVER THE INPUT: true; the input reads as it did. -/
def ruleGrowsSpec : ChangeSpec := { name := "ruleGrows", fn := fun _ => fun
  | [d1, d2, d3] => { results := [.lit (.bool true)], args := [d1, d2, d3] }
  | _ => none }
def ruleGrowsRow : OpenClaim := { program := "ytidmcpkbcphpiaagreat", sum := "d03117e569f4b0732e7648147537b7ff58496c3db3411af1398a4b8c6b71e699", func := "reeve/reevelaw21.RuleGrows", spec := "ruleGrows", inPlace := ["internal/bytealg.IndexByteString", "internal/bytealg.IndexString"], unfollowed := true, recurses := true, named := ["internal/bytealg.MaxLen"], apart := false }
def RuleGrowsSaid : Prop := ruleGrowsRow.holds Tryz.pinned (OpenSpec.ofChange ruleGrowsSpec)

/-- ITS FALSE NEIGHBOUR: 'it returns false'. Refute it at one input. -/
def ruleGrowsWrong : ChangeSpec := { name := "ruleGrows", fn := fun _ => fun
  | [d1, d2, d3] => { results := [.lit (.bool false)], args := [d1, d2, d3] }
  | _ => none }
def RuleGrowsWrongFalsely : Prop := ruleGrowsRow.holds Tryz.pinned (OpenSpec.ofChange ruleGrowsWrong)

/- THE SECOND FORM. 'bulk': how many values and letters a reading holds, each counted each time it is reached (what is shared counts as often as it is met; a slice's spare places count too). A statement '..UptoSaid' is the law's where the arguments, and the package variables that the reading takes, are together of bulk at most 1048576: NARROWER than '..Said'. Prove '..Said' where nothing that the law and all that it calls make is longer than what came in: it says more and counts as full. Else prove '..UptoSaid'. A law counts once. -/
mutual
def uptoBulk {H : Type} : DataW H → Nat
  | .lit (.string bytes) => bytes.length + 1
  | .lit _ => 1
  | .nil => 1
  | .ptr d => uptoBulk d + 1
  | .slice elems spare => uptoBulkAll elems + uptoBulkAll spare + 1
  | .agg parts => uptoBulkAll parts + 1
  | .iface _ d => uptoBulk d + 1
  | .map entries => uptoBulkEntries entries + 1
  | .held _ => 1
def uptoBulkAll {H : Type} : List (DataW H) → Nat
  | [] => 0
  | d :: r => uptoBulk d + uptoBulkAll r
def uptoBulkEntries {H : Type} : List (Lit × DataW H) → Nat
  | [] => 0
  | x :: r => uptoBulkEntry x + uptoBulkEntries r
def uptoBulkEntry {H : Type} : Lit × DataW H → Nat
  | (.string bytes, d) => bytes.length + uptoBulk d + 1
  | (_, d) => uptoBulk d + 1
 end
def uptoSmall : (H : Type) → List (DataW H) → Bool := fun _ ds => decide (uptoBulkAll ds ≤ 1048576)
def OpenSpec.upto (s : _root_.Go.ChangeSpec) : _root_.Go.OpenSpec := { _root_.Go.OpenSpec.ofChange s with cond := some uptoSmall }

/-- 'reevelaw18.MailSays', WHERE WHAT IT READS IS OF BULK AT MOST 1048576: true; the input reads as it did. -/
def mailSaysUptoRow : OpenClaim := { program := "ytidmcpkbcphpiaagreat", sum := "d03117e569f4b0732e7648147537b7ff58496c3db3411af1398a4b8c6b71e699", func := "reeve/reevelaw18.MailSays", spec := "mailSays", inPlace := ["internal/bytealg.IndexByteString", "internal/bytealg.IndexString"], unfollowed := true, recurses := true, named := ["internal/bytealg.MaxLen"], apart := false, narrowed := true }
def MailSaysUptoSaid : Prop := mailSaysUptoRow.holds Tryz.pinned (OpenSpec.upto mailSaysSpec)

/-- 'reevelaw13.FindSays', WHERE WHAT IT READS IS OF BULK AT MOST 1048576: true; the input reads as it did. -/
def findSaysUptoRow : OpenClaim := { program := "ytidmcpkbcphpiaagreat", sum := "d03117e569f4b0732e7648147537b7ff58496c3db3411af1398a4b8c6b71e699", func := "reeve/reevelaw13.FindSays", spec := "findSays", unfollowed := true, recurses := true, apart := false, narrowed := true }
def FindSaysUptoSaid : Prop := findSaysUptoRow.holds Tryz.pinned (OpenSpec.upto findSaysSpec)

/-- 'reevelaw17.TakeAll', WHERE WHAT IT READS IS OF BULK AT MOST 1048576: true; the input reads as it did. -/
def takeAllUptoRow : OpenClaim := { program := "ytidmcpkbcphpiaagreat", sum := "d03117e569f4b0732e7648147537b7ff58496c3db3411af1398a4b8c6b71e699", func := "reeve/reevelaw17.TakeAll", spec := "takeAll", inPlace := ["internal/bytealg.IndexByteString", "internal/bytealg.IndexString"], unfollowed := true, recurses := true, named := ["internal/bytealg.MaxLen"], apart := false, narrowed := true }
def TakeAllUptoSaid : Prop := takeAllUptoRow.holds Tryz.pinned (OpenSpec.upto takeAllSpec)

/-- 'reevelaw17.TakeCopies', WHERE WHAT IT READS IS OF BULK AT MOST 1048576: true; the input reads as it did. -/
def takeCopiesUptoRow : OpenClaim := { program := "ytidmcpkbcphpiaagreat", sum := "d03117e569f4b0732e7648147537b7ff58496c3db3411af1398a4b8c6b71e699", func := "reeve/reevelaw17.TakeCopies", spec := "takeCopies", inPlace := ["internal/bytealg.IndexByteString", "internal/bytealg.IndexString"], unfollowed := true, recurses := true, named := ["internal/bytealg.MaxLen"], apart := false, narrowed := true }
def TakeCopiesUptoSaid : Prop := takeCopiesUptoRow.holds Tryz.pinned (OpenSpec.upto takeCopiesSpec)

/-- 'reevelaw21.RuleRevokes', WHERE WHAT IT READS IS OF BULK AT MOST 1048576: true; the input reads as it did. -/
def ruleRevokesUptoRow : OpenClaim := { program := "ytidmcpkbcphpiaagreat", sum := "d03117e569f4b0732e7648147537b7ff58496c3db3411af1398a4b8c6b71e699", func := "reeve/reevelaw21.RuleRevokes", spec := "ruleRevokes", inPlace := ["internal/bytealg.IndexByteString", "internal/bytealg.IndexString"], unfollowed := true, recurses := true, named := ["internal/bytealg.MaxLen"], apart := false, narrowed := true }
def RuleRevokesUptoSaid : Prop := ruleRevokesUptoRow.holds Tryz.pinned (OpenSpec.upto ruleRevokesSpec)

/-- 'reevelaw21.RuleApart', WHERE WHAT IT READS IS OF BULK AT MOST 1048576: true; the input reads as it did. -/
def ruleApartUptoRow : OpenClaim := { program := "ytidmcpkbcphpiaagreat", sum := "d03117e569f4b0732e7648147537b7ff58496c3db3411af1398a4b8c6b71e699", func := "reeve/reevelaw21.RuleApart", spec := "ruleApart", inPlace := ["internal/bytealg.IndexByteString", "internal/bytealg.IndexString"], unfollowed := true, recurses := true, named := ["internal/bytealg.MaxLen"], apart := false, narrowed := true }
def RuleApartUptoSaid : Prop := ruleApartUptoRow.holds Tryz.pinned (OpenSpec.upto ruleApartSpec)

/-- 'reevelaw21.RuleWords', WHERE WHAT IT READS IS OF BULK AT MOST 1048576: true; the input reads as it did. -/
def ruleWordsUptoRow : OpenClaim := { program := "ytidmcpkbcphpiaagreat", sum := "d03117e569f4b0732e7648147537b7ff58496c3db3411af1398a4b8c6b71e699", func := "reeve/reevelaw21.RuleWords", spec := "ruleWords", inPlace := ["internal/bytealg.IndexByteString", "internal/bytealg.IndexString"], unfollowed := true, recurses := true, named := ["internal/bytealg.MaxLen"], apart := false, narrowed := true }
def RuleWordsUptoSaid : Prop := ruleWordsUptoRow.holds Tryz.pinned (OpenSpec.upto ruleWordsSpec)

/-- 'reevelaw21.RuleOthers', WHERE WHAT IT READS IS OF BULK AT MOST 1048576: true; the input reads as it did. -/
def ruleOthersUptoRow : OpenClaim := { program := "ytidmcpkbcphpiaagreat", sum := "d03117e569f4b0732e7648147537b7ff58496c3db3411af1398a4b8c6b71e699", func := "reeve/reevelaw21.RuleOthers", spec := "ruleOthers", inPlace := ["internal/bytealg.IndexByteString", "internal/bytealg.IndexString"], unfollowed := true, recurses := true, named := ["internal/bytealg.MaxLen"], apart := false, narrowed := true }
def RuleOthersUptoSaid : Prop := ruleOthersUptoRow.holds Tryz.pinned (OpenSpec.upto ruleOthersSpec)

/-- 'reevelaw21.RuleGrows', WHERE WHAT IT READS IS OF BULK AT MOST 1048576: true; the input reads as it did. -/
def ruleGrowsUptoRow : OpenClaim := { program := "ytidmcpkbcphpiaagreat", sum := "d03117e569f4b0732e7648147537b7ff58496c3db3411af1398a4b8c6b71e699", func := "reeve/reevelaw21.RuleGrows", spec := "ruleGrows", inPlace := ["internal/bytealg.IndexByteString", "internal/bytealg.IndexString"], unfollowed := true, recurses := true, named := ["internal/bytealg.MaxLen"], apart := false, narrowed := true }
def RuleGrowsUptoSaid : Prop := ruleGrowsUptoRow.holds Tryz.pinned (OpenSpec.upto ruleGrowsSpec)

end Rows
end Go.Proofs.YtidmcpkbcphpiaaGreat
