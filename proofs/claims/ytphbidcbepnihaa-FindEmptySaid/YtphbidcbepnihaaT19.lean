/-
  The function awake of the package reevelaw13 answers true over a heap of four rows, whatever they hold, and changes nothing.
-/
import Derived.Test.YtphbidcbepnihaaS9
import Derived.Test.YtphbidcbepnihaaH23
import Derived.Test.YtphbidcbepnihaaProg
namespace Go.Proofs.Ytphbidcbepnihaa
open Go Go.Hai
def r0_reevelaw13_awake : List AOper := [(.mk (some 0) none (.mv (.const (.bool false))))]
def r1_reevelaw13_awake : List AOper := [(.mk (some 7) none (.call 28 [])), (.mk (some 8) none (.buildSl [(.int .i64 0)] 1 1 [(0, (1, (.const (.int .i64 1))))])), (.mk (some 9) none (.call 24 [(.tmp 8)])), (.mk (some 10) none (.call 11 [(.tmp 7), (.const (.int .i64 1)), (.tmp 9)])), (.mk (some 6) none (.mv (.tmp 10))), (.mk (some 11) none (.ext (.tmp 6) 0)), (.mk (some 12) none (.ext (.tmp 6) 1)), (.mk (some 1) none (.mv (.tmp 11))), (.mk (some 2) none (.mv (.tmp 12)))]
def r2_reevelaw13_awake : List AOper := [(.mk (some 14) none (.call 28 [])), (.mk (some 15) none (.buildSl [(.int .i64 0)] 1 1 [(0, (1, (.const (.int .i64 0))))])), (.mk (some 16) none (.call 24 [(.tmp 15)])), (.mk (some 17) none (.call 12 [(.tmp 14), (.const (.int .i64 0)), (.tmp 16)])), (.mk (some 13) none (.mv (.tmp 17))), (.mk (some 18) none (.ext (.tmp 13) 0)), (.mk (some 19) none (.ext (.tmp 13) 1)), (.mk (some 20) none (.ext (.tmp 13) 2)), (.mk (some 4) none (.alloc [(.int .i64 0), (.int .i64 0), (.int .i64 0), (.int .i64 0)] 4)), (.mk (some 3) none (.mv (.tmp 18))), (.mk none none (.store 4 (.tmp 4) (.tmp 19))), (.mk (some 5) none (.mv (.tmp 20)))]
def r3_reevelaw13_awake : List AOper := [(.mk (some 21) none (.mv (.tmp 2))), (.mk (some 22) none (.bin .eql (.tmp 21) (.const (.int .i64 0)))), (.mk (some 23) none (.mv (.tmp 22))), (.mk (some 24) (some (23, true)) (.mv (.tmp 1))), (.mk (some 25) (some (23, true)) (.bin .eql (.tmp 24) (.const (.int .i64 9)))), (.mk (some 26) none (.pick (.tmp 23) (.tmp 25) (.const (.bool false)))), (.mk (some 27) none (.mv (.tmp 26))), (.mk (some 28) (some (27, true)) (.mv (.tmp 5))), (.mk (some 29) (some (27, true)) (.bin .eql (.tmp 28) (.const (.int .i64 0)))), (.mk (some 30) none (.pick (.tmp 27) (.tmp 29) (.const (.bool false)))), (.mk (some 31) none (.mv (.tmp 30))), (.mk (some 32) (some (31, true)) (.mv (.tmp 3))), (.mk (some 33) (some (31, true)) (.bin .eql (.tmp 32) (.const (.int .i64 0)))), (.mk (some 34) none (.pick (.tmp 31) (.tmp 33) (.const (.bool false)))), (.mk (some 35) none (.mv (.tmp 34))), (.mk (some 36) (some (35, true)) (.fldA 0 (.tmp 4))), (.mk (some 37) (some (35, true)) (.load false 1 (.tmp 36))), (.mk (some 38) (some (35, true)) (.bin .eql (.tmp 37) (.const (.int .i64 1)))), (.mk (some 39) none (.pick (.tmp 35) (.tmp 38) (.const (.bool false)))), (.mk (some 40) none (.mv (.tmp 39))), (.mk (some 41) (some (40, true)) (.call 28 [])), (.mk (some 42) (some (40, true)) (.fld false 3 1 (.tmp 41))), (.mk (some 43) (some (40, true)) (.lenS (.tmp 42))), (.mk (some 44) (some (40, true)) (.bin .eql (.tmp 43) (.const (.int .i64 32)))), (.mk (some 45) none (.pick (.tmp 40) (.tmp 44) (.const (.bool false)))), (.mk (some 0) none (.mv (.tmp 45)))]
def k2_reevelaw13_awake : ACode := (.seq (.reg r3_reevelaw13_awake) .ret)
def k1_reevelaw13_awake : ACode := (.seq (.reg r2_reevelaw13_awake) k2_reevelaw13_awake)
def k0_reevelaw13_awake : ACode := (.seq (.reg r1_reevelaw13_awake) k1_reevelaw13_awake)
def c_reevelaw13_awake : ACode := (.seq (.reg r0_reevelaw13_awake) k0_reevelaw13_awake)
theorem e_reevelaw13_awake : ofProg Try.prog 9 = some ⟨46, [(.tmp 0)], c_reevelaw13_awake⟩ := by kernel_rfl

def heap4 (r0 r1 r2 r3 : AObj) (low : Nat) : AHeap := { t := (((Tr.tip.ins 0 r0).ins 1 r1).ins 2 r2).ins 3 r3, n := 4, nf := 0, dead := [], low := low }
noncomputable def testK (t : Tmps) (τ : AHeap) : A := AHeap.rec (fun _ _ _ _ low => Bool.rec none (tgetK t 0 fun v => boolK v none (some false) (some true)) (Nat.beq low 4)) τ
set_option maxHeartbeats 20000000 in
theorem awake_runs : (fun r0 r1 r2 r3 : AObj => acodeK c_reevelaw13_awake (acallK (ofProg Try.prog) 1000 110) 1000 (Tr.of []) (heap4 r0 r1 r2 r3 4) testK (fun _ _ _ => none) testK) = fun _ _ _ _ => some true := by kernel_rfl
end Go.Proofs.Ytphbidcbepnihaa
