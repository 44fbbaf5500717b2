/-
  What the functions held and lost of the package take do. Their conditions: where the state's rows are; things may be so.
-/
import Derived.Test.YtidmcpkbcphpiaaGreatRV4
namespace Go.Proofs.YtidmcpkbcphpiaaGreat
open Go Go.Hai
set_option maxRecDepth 20000
set_option linter.unusedSimpArgs false
set_option maxHeartbeats 8000000
attribute [local irreducible] Hai.Ends EndsR EndsO EndsD EndsX EndsE EndsK AHeap.grow AHeap.putR AHeap.putM okLow inN
def r0_take_held_1 : List AOper := [(.mk (some 2) none (.box 5 (.tmp 0))), (.mk (some 3) none (.mv (.const (.bool false))))]
def r1_take_held_1 : List AOper := [(.mk (some 4) none (.fldA 0 (.tmp 2))), (.mk (some 5) none (.load true 4 (.tmp 4))), (.mk (some 6) none (.call 38 [(.tmp 5)])), (.mk (some 7) none (.un .not (.tmp 6))), (.mk (some 8) none (.mv (.tmp 7))), (.mk (some 9) (some (8, true)) (.fldA 0 (.tmp 2))), (.mk (some 10) (some (8, true)) (.fldA 1 (.tmp 9))), (.mk (some 11) (some (8, true)) (.load false 1 (.tmp 10))), (.mk (some 12) (some (8, true)) (.load false 1 (.tmp 1))), (.mk (some 13) (some (8, true)) (.bin .eql (.tmp 11) (.tmp 12))), (.mk (some 14) none (.pick (.tmp 8) (.tmp 13) (.const (.bool false)))), (.mk (some 3) none (.mv (.tmp 14)))]
def k0_take_held_1 : ACode := (.seq (.reg r1_take_held_1) .ret)
def c_take_held_1 : ACode := (.seq (.reg r0_take_held_1) k0_take_held_1)
theorem e_take_held_1 : ofProg Tryz.prog 207 = some ⟨15, [(.tmp 3)], c_take_held_1⟩ := by kernel_rfl
def r0_slices_IndexFunc_state_Slot_state_Slot : List AOper := [(.mk (some 4) none (.mv (.const (.int .i64 0))))]
def r1_slices_IndexFunc_state_Slot_state_Slot : List AOper := [(.mk (some 6) none (.mv (.tmp 0))), (.mk (some 7) none (.lenS (.tmp 6))), (.mk (some 8) none (.mv (.const (.int .i64 0))))]
def r2_slices_IndexFunc_state_Slot_state_Slot : List AOper := [(.mk (some 9) none (.bin .lss (.tmp 8) (.tmp 7)))]
def r3_slices_IndexFunc_state_Slot_state_Slot : List AOper := [(.mk (some 10) none (.mv (.tmp 8))), (.mk (some 5) none (.mv (.tmp 10)))]
def r4_slices_IndexFunc_state_Slot_state_Slot : List AOper := [(.mk (some 11) none (.mv (.tmp 1))), (.mk (some 12) none (.mv (.tmp 0))), (.mk (some 13) none (.mv (.tmp 5))), (.mk (some 14) none (.idxA 5 (.tmp 12) (.tmp 13))), (.mk (some 15) none (.load true 5 (.tmp 14))), (.mk (some 16) none (.callV (.tmp 11) [(.tmp 15)]))]
def r5_slices_IndexFunc_state_Slot_state_Slot : List AOper := [(.mk (some 17) none (.mv (.tmp 5))), (.mk (some 4) none (.mv (.tmp 17)))]
def k5_slices_IndexFunc_state_Slot_state_Slot : ACode := (.cond (.tmp 16) (.seq (.reg r5_slices_IndexFunc_state_Slot_state_Slot) .ret) .skip)
def k4_slices_IndexFunc_state_Slot_state_Slot : ACode := (.seq (.reg r4_slices_IndexFunc_state_Slot_state_Slot) k5_slices_IndexFunc_state_Slot_state_Slot)
def r6_slices_IndexFunc_state_Slot_state_Slot : List AOper := [(.mk (some 18) none (.bin .add (.tmp 8) (.const (.int .i64 1)))), (.mk (some 8) none (.mv (.tmp 18)))]
def k6_slices_IndexFunc_state_Slot_state_Slot : ACode := (.reg r6_slices_IndexFunc_state_Slot_state_Slot)
def k3_slices_IndexFunc_state_Slot_state_Slot : ACode := (.seq (.block 1 (.seq (.reg r3_slices_IndexFunc_state_Slot_state_Slot) k4_slices_IndexFunc_state_Slot_state_Slot)) k6_slices_IndexFunc_state_Slot_state_Slot)
def k2_slices_IndexFunc_state_Slot_state_Slot : ACode := (.seq (.cond (.tmp 9) .skip (.exit 0)) k3_slices_IndexFunc_state_Slot_state_Slot)
def b0_slices_IndexFunc_state_Slot_state_Slot : ACode := (.seq (.reg r2_slices_IndexFunc_state_Slot_state_Slot) k2_slices_IndexFunc_state_Slot_state_Slot)
def k1_slices_IndexFunc_state_Slot_state_Slot : ACode := (.block 0 (.loop b0_slices_IndexFunc_state_Slot_state_Slot))
def r7_slices_IndexFunc_state_Slot_state_Slot : List AOper := [(.mk (some 4) none (.mv (.const (.int .i64 (-1)))))]
def k7_slices_IndexFunc_state_Slot_state_Slot : ACode := (.seq (.reg r7_slices_IndexFunc_state_Slot_state_Slot) .ret)
def k0_slices_IndexFunc_state_Slot_state_Slot : ACode := (.seq (.seq (.reg r1_slices_IndexFunc_state_Slot_state_Slot) k1_slices_IndexFunc_state_Slot_state_Slot) k7_slices_IndexFunc_state_Slot_state_Slot)
def c_slices_IndexFunc_state_Slot_state_Slot : ACode := (.seq (.reg r0_slices_IndexFunc_state_Slot_state_Slot) k0_slices_IndexFunc_state_Slot_state_Slot)
theorem e_slices_IndexFunc_state_Slot_state_Slot : ofProg Tryz.prog 234 = some ⟨19, [(.tmp 4)], c_slices_IndexFunc_state_Slot_state_Slot⟩ := by kernel_rfl
def r0_slices_ContainsFunc_state_Slot_state_Slot : List AOper := [(.mk (some 4) none (.mv (.const (.bool false))))]
def r1_slices_ContainsFunc_state_Slot_state_Slot : List AOper := [(.mk (some 5) none (.mv (.tmp 0))), (.mk (some 6) none (.mv (.tmp 1))), (.mk (some 7) none (.call 234 [(.tmp 5), (.tmp 6)])), (.mk (some 8) none (.bin .geq (.tmp 7) (.const (.int .i64 0)))), (.mk (some 4) none (.mv (.tmp 8)))]
def k0_slices_ContainsFunc_state_Slot_state_Slot : ACode := (.seq (.reg r1_slices_ContainsFunc_state_Slot_state_Slot) .ret)
def c_slices_ContainsFunc_state_Slot_state_Slot : ACode := (.seq (.reg r0_slices_ContainsFunc_state_Slot_state_Slot) k0_slices_ContainsFunc_state_Slot_state_Slot)
theorem e_slices_ContainsFunc_state_Slot_state_Slot : ofProg Tryz.prog 206 = some ⟨9, [(.tmp 4)], c_slices_ContainsFunc_state_Slot_state_Slot⟩ := by kernel_rfl
def r0_take_held : List AOper := [(.mk (some 2) none (.box 5 (.tmp 0))), (.mk (some 3) none (.box 1 (.tmp 1))), (.mk (some 4) none (.mv (.const (.bool false))))]
def r1_take_held : List AOper := [(.mk (some 5) none (.fldA 3 (.tmp 2))), (.mk (some 6) none (.load false 1 (.tmp 5))), (.mk (some 7) none (.mkFn 207 [] [(.tmp 3)])), (.mk (some 8) none (.call 206 [(.tmp 6), (.tmp 7)])), (.mk (some 4) none (.mv (.tmp 8)))]
def k0_take_held : ACode := (.seq (.reg r1_take_held) .ret)
def c_take_held : ACode := (.seq (.reg r0_take_held) k0_take_held)
theorem e_take_held : ofProg Tryz.prog 161 = some ⟨9, [(.tmp 4)], c_take_held⟩ := by kernel_rfl
def r0_take_lost : List AOper := [(.mk (some 2) none (.box 5 (.tmp 0))), (.mk (some 4) none (.mv (.const (.int .i64 0)))), (.mk (some 5) none (.mv (.const (.bool false))))]
def r1_take_lost : List AOper := [(.mk (some 10) none (.fldA 4 (.tmp 2))), (.mk (some 11) none (.load false 1 (.tmp 10))), (.mk (some 12) none (.mv (.tmp 1))), (.mk (some 13) none (.idxA 13 (.tmp 11) (.tmp 12))), (.mk (some 14) none (.load true 13 (.tmp 13))), (.mk (some 6) none (.alloc [(.int .i64 0), (.int .i64 0), (.int .i64 0), (.int .i64 0), (.int .i64 0), (.int .i64 0), (.int .i64 0), (.bool false), (.int .u64 0), (.int .u64 0), (.int .u64 0), (.int .u64 0), (.int .u64 0)] 13)), (.mk none none (.store 13 (.tmp 6) (.tmp 14)))]
def r2_take_lost : List AOper := [(.mk (some 15) none (.mv (.tmp 1))), (.mk (some 16) none (.bin .geq (.tmp 15) (.const (.int .i64 2)))), (.mk (some 17) none (.mv (.tmp 16))), (.mk (some 18) (some (17, true)) (.mv (.tmp 1))), (.mk (some 19) (some (17, true)) (.fldA 0 (.tmp 2))), (.mk (some 20) (some (17, true)) (.fldA 0 (.tmp 19))), (.mk (some 21) (some (17, true)) (.load false 1 (.tmp 20))), (.mk (some 22) (some (17, true)) (.bin .add (.const (.int .i64 2)) (.tmp 21))), (.mk (some 23) (some (17, true)) (.bin .lss (.tmp 18) (.tmp 22))), (.mk (some 24) none (.pick (.tmp 17) (.tmp 23) (.const (.bool false)))), (.mk (some 7) none (.mv (.tmp 24)))]
def r3_take_lost : List AOper := [(.mk (some 25) none (.fldA 0 (.tmp 6))), (.mk (some 26) none (.load false 1 (.tmp 25))), (.mk (some 27) none (.bin .eql (.tmp 26) (.const (.int .i64 0)))), (.mk (some 28) none (.mv (.tmp 27))), (.mk (some 29) (some (28, false)) (.mv (.tmp 7))), (.mk (some 30) none (.pick (.tmp 28) (.const (.bool true)) (.tmp 29))), (.mk (some 31) none (.mv (.tmp 30))), (.mk (some 32) (some (31, false)) (.load true 5 (.tmp 2))), (.mk (some 33) (some (31, false)) (.mv (.tmp 1))), (.mk (some 34) (some (31, false)) (.call 161 [(.tmp 32), (.tmp 33)])), (.mk (some 35) none (.pick (.tmp 31) (.const (.bool true)) (.tmp 34)))]
def r4_take_lost : List AOper := [(.mk (some 4) none (.mv (.const (.int .i64 0)))), (.mk (some 5) none (.mv (.const (.bool false))))]
def k3_take_lost : ACode := (.cond (.tmp 35) (.seq (.reg r4_take_lost) .ret) .skip)
def r5_take_lost : List AOper := [(.mk (some 8) none (.mv (.const (.int .i64 0))))]
def r6_take_lost : List AOper := [(.mk (some 36) none (.fldA 1 (.tmp 6))), (.mk (some 37) none (.load false 1 (.tmp 36))), (.mk (some 38) none (.bin .shl (.const (.int .i64 1)) (.tmp 37))), (.mk (some 39) none (.mv (.const (.int .i64 0))))]
def r7_take_lost : List AOper := [(.mk (some 40) none (.bin .lss (.tmp 39) (.tmp 38)))]
def r8_take_lost : List AOper := [(.mk (some 41) none (.mv (.tmp 39))), (.mk (some 9) none (.mv (.tmp 41)))]
def r9_take_lost : List AOper := [(.mk (some 42) none (.fldA 0 (.tmp 6))), (.mk (some 43) none (.load false 1 (.tmp 42))), (.mk (some 44) none (.bin .eql (.tmp 43) (.const (.int .i64 2)))), (.mk (some 45) none (.mv (.tmp 44))), (.mk (some 46) (some (45, true)) (.load true 5 (.tmp 2))), (.mk (some 47) (some (45, true)) (.fldA 2 (.tmp 6))), (.mk (some 48) (some (45, true)) (.load false 1 (.tmp 47))), (.mk (some 49) (some (45, true)) (.mv (.tmp 9))), (.mk (some 50) (some (45, true)) (.bin .add (.tmp 48) (.tmp 49))), (.mk (some 51) (some (45, true)) (.call 98 [(.tmp 46), (.tmp 50)])), (.mk (some 52) none (.pick (.tmp 45) (.tmp 51) (.const (.bool false))))]
def r10_take_lost : List AOper := [(.mk (some 53) none (.mv (.tmp 8))), (.mk (some 54) none (.bin .add (.tmp 53) (.const (.int .i64 1)))), (.mk (some 8) none (.mv (.tmp 54)))]
def k10_take_lost : ACode := (.cond (.tmp 52) (.reg r10_take_lost) .skip)
def k9_take_lost : ACode := (.seq (.reg r9_take_lost) k10_take_lost)
def r11_take_lost : List AOper := [(.mk (some 55) none (.bin .add (.tmp 39) (.const (.int .i64 1)))), (.mk (some 39) none (.mv (.tmp 55)))]
def k11_take_lost : ACode := (.reg r11_take_lost)
def k8_take_lost : ACode := (.seq (.block 1 (.seq (.reg r8_take_lost) k9_take_lost)) k11_take_lost)
def k7_take_lost : ACode := (.seq (.cond (.tmp 40) .skip (.exit 0)) k8_take_lost)
def b0_take_lost : ACode := (.seq (.reg r7_take_lost) k7_take_lost)
def k6_take_lost : ACode := (.block 0 (.loop b0_take_lost))
def r12_take_lost : List AOper := [(.mk (some 56) none (.fldA 4 (.tmp 2))), (.mk (some 57) none (.load false 1 (.tmp 56))), (.mk (some 58) none (.mv (.tmp 1))), (.mk (some 59) none (.build [(.int .i64 0), (.int .i64 0), (.int .i64 0), (.int .i64 0), (.int .i64 0), (.int .i64 0), (.int .i64 0), (.bool false), (.int .u64 0), (.int .u64 0), (.int .u64 0), (.int .u64 0), (.int .u64 0)] [])), (.mk (some 60) none (.idxA 13 (.tmp 57) (.tmp 58))), (.mk none none (.store 13 (.tmp 60) (.tmp 59)))]
def r13_take_lost : List AOper := [(.mk (some 61) none (.mv (.tmp 8))), (.mk (some 4) none (.mv (.tmp 61))), (.mk (some 5) none (.mv (.const (.bool true))))]
def k13_take_lost : ACode := (.seq (.reg r13_take_lost) .ret)
def k12_take_lost : ACode := (.seq (.reg r12_take_lost) k13_take_lost)
def k5_take_lost : ACode := (.seq (.seq (.reg r6_take_lost) k6_take_lost) k12_take_lost)
def k4_take_lost : ACode := (.seq (.reg r5_take_lost) k5_take_lost)
def k2_take_lost : ACode := (.seq (.seq (.reg r3_take_lost) k3_take_lost) k4_take_lost)
def k1_take_lost : ACode := (.seq (.reg r2_take_lost) k2_take_lost)
def k0_take_lost : ACode := (.seq (.reg r1_take_lost) k1_take_lost)
def c_take_lost : ACode := (.seq (.reg r0_take_lost) k0_take_lost)
theorem e_take_lost : ofProg Tryz.prog 99 = some ⟨62, [(.tmp 4), (.tmp 5)], c_take_lost⟩ := by kernel_rfl
def holdsB (t : Int) (x : SlotD) : Bool := !(capNone x) && decide (x.thing = t)
theorem held_1_ok (d : Nat) (σ : AHeap) (x : SlotD) (b : Nat) (n : Int) (hb : b < σ.n) (hl : σ.loadN b 0 1 = some [i64 n]) :
    acall (ofProg Tryz.prog) 1000 (d + 2) 207 [.agg (slotL x).toArray, here b 0] σ = some (.bool (holdsB n x), σ) := by
  refine acall_flat e_take_held_1 (by simp) rfl ?_
  have hl' : ∀ L, (σ.fresh.grow L).loadN b 0 1 = some [i64 n] := fun L => (load_old σ.fresh L 0 1 hb).trans hl
  unfold holdsB
  cases g : capNone x with
  | true => simp (disch := omega) only [hl', cap_None_ok, g, r0_take_held_1, r1_take_held_1, k0_take_held_1, c_take_held_1, Z0, Z1, Z2, Z3, Z4, Z5, Z6, Z7, Z8, Z9, Z10, resAll, Nat.reduceAdd, Nat.reduceEqDiff, Nat.reduceLeDiff, Nat.reduceMul, ↓reduceIte, reduceCtorEq, Nat.reduceBEq, aoper, Nat.reduceLT, Int.reduceEq, Int.reduceLT, Int.reduceLE]
  | false =>
    by_cases g2 : x.thing = n
    · simp (disch := omega) only [hl', cap_None_ok, g, eq_true g2, r0_take_held_1, r1_take_held_1, k0_take_held_1, c_take_held_1, Z0, Z1, Z2, Z3, Z4, Z5, Z6, Z7, Z8, Z9, Z10, resAll, Nat.reduceAdd, Nat.reduceEqDiff, Nat.reduceLeDiff, Nat.reduceMul, ↓reduceIte, reduceCtorEq, Nat.reduceBEq, aoper, Nat.reduceLT, Int.reduceEq, Int.reduceLT, Int.reduceLE]
    · simp (disch := omega) only [hl', cap_None_ok, g, g2, r0_take_held_1, r1_take_held_1, k0_take_held_1, c_take_held_1, Z0, Z1, Z2, Z3, Z4, Z5, Z6, Z7, Z8, Z9, Z10, resAll, Nat.reduceAdd, Nat.reduceEqDiff, Nat.reduceLeDiff, Nat.reduceMul, ↓reduceIte, reduceCtorEq, Nat.reduceBEq, aoper, Nat.reduceLT, Int.reduceEq, Int.reduceLT, Int.reduceLE]
theorem IndexFunc_held_ok (d : Nat) (σ : AHeap) (l : List SlotD) (a : Option Addr) (f : Nat) (b : Nat) (n : Int) (hm : l.length < 1000) (h2 : SlS σ a l) (hb : b < σ.n) (hl : σ.loadN b 0 1 = some [i64 n]) :
    acall (ofProg Tryz.prog) 1000 (d + 3) 234 [.slice a l.length f, .func (.func 207) [].toArray [here b 0].toArray] σ = some (i64 (firstI (holdsB n) l 0), σ) := by
  refine acall_flat e_slices_IndexFunc_state_Slot_state_Slot (by simp) rfl ?_
  simp (disch := omega) only [r0_slices_IndexFunc_state_Slot_state_Slot, r1_slices_IndexFunc_state_Slot_state_Slot, r2_slices_IndexFunc_state_Slot_state_Slot, r3_slices_IndexFunc_state_Slot_state_Slot, r4_slices_IndexFunc_state_Slot_state_Slot, r5_slices_IndexFunc_state_Slot_state_Slot, k5_slices_IndexFunc_state_Slot_state_Slot, k4_slices_IndexFunc_state_Slot_state_Slot, r6_slices_IndexFunc_state_Slot_state_Slot, k6_slices_IndexFunc_state_Slot_state_Slot, k3_slices_IndexFunc_state_Slot_state_Slot, k2_slices_IndexFunc_state_Slot_state_Slot, k1_slices_IndexFunc_state_Slot_state_Slot, r7_slices_IndexFunc_state_Slot_state_Slot, k7_slices_IndexFunc_state_Slot_state_Slot, k0_slices_IndexFunc_state_Slot_state_Slot, c_slices_IndexFunc_state_Slot_state_Slot, Z0, Z1, Z2, Z3, Z4, Z5, Z6, Z7, Z8, Z9, Z10, resAll, Nat.reduceAdd, Nat.reduceEqDiff, Nat.reduceLeDiff, Nat.reduceMul, ↓reduceIte, reduceCtorEq, Nat.reduceBEq, aoper, Nat.reduceLT, Int.reduceEq, Int.reduceLT, Int.reduceLE]
  refine ends_loop (fun i t τ => tget t 6 = .slice a l.length f ∧ tget t 0 = .slice a l.length f ∧ tget t 1 = .func (.func 207) [].toArray [here b 0].toArray ∧ tget t 7 = i64 l.length ∧ tget t 8 = i64 i ∧ Keeps σ.fresh τ ∧ ∀ (j : Nat) (y : SlotD), j < i → l[j]? = some y → holdsB n y = false)
    l.length hm ⟨?_, ?_, ?_, ?_, ?_, Keeps.self _ _, fun j y h => by omega⟩ ?_
  iterate 5 simp (disch := omega) only [Int.natCast_zero, Int.ofNat_zero, r0_slices_IndexFunc_state_Slot_state_Slot, r1_slices_IndexFunc_state_Slot_state_Slot, r2_slices_IndexFunc_state_Slot_state_Slot, r3_slices_IndexFunc_state_Slot_state_Slot, r4_slices_IndexFunc_state_Slot_state_Slot, r5_slices_IndexFunc_state_Slot_state_Slot, k5_slices_IndexFunc_state_Slot_state_Slot, k4_slices_IndexFunc_state_Slot_state_Slot, r6_slices_IndexFunc_state_Slot_state_Slot, k6_slices_IndexFunc_state_Slot_state_Slot, k3_slices_IndexFunc_state_Slot_state_Slot, k2_slices_IndexFunc_state_Slot_state_Slot, k1_slices_IndexFunc_state_Slot_state_Slot, r7_slices_IndexFunc_state_Slot_state_Slot, k7_slices_IndexFunc_state_Slot_state_Slot, k0_slices_IndexFunc_state_Slot_state_Slot, c_slices_IndexFunc_state_Slot_state_Slot, Z0, Z1, Z2, Z3, Z4, Z5, Z6, Z7, Z8, Z9, Z10, resAll, Nat.reduceAdd, Nat.reduceEqDiff, Nat.reduceLeDiff, Nat.reduceMul, ↓reduceIte, reduceCtorEq, Nat.reduceBEq, aoper, Nat.reduceLT, Int.reduceEq, Int.reduceLT, Int.reduceLE]
  rintro i t τ hi ⟨t6, t0, t1, t7, t8, hk, hall⟩
  rw [← grow_nil τ]
  by_cases hlt : i < l.length
  · obtain ⟨b2, rfl, hb2⟩ := h2.fresh.at hlt
    have hx : l[i]? = some l[i] := List.getElem?_eq_getElem hlt
    generalize l[i] = x at hx
    have hl5 := fun L => hb2.ld0 hk hx L 5 (by omega)
    simp only [List.take_succ_cons, List.take_zero] at hl5
    have hlt' : (i : Int) < (l.length : Int) := by omega
    have hcast : ((i + 1 : Nat) : Int) = (i : Int) + 1 := by omega
    have hown := fun L => held_1_ok d (τ.grow L) x b n (Nat.lt_of_lt_of_le hb (hk.grow L).n) (by rw [(hk.grow L).load _ _ hb]; exact hl)
    cases g : holdsB n x with
    | true =>
      have hr : firstI (holdsB n) l 0 = i := by rw [firstI_at (p := holdsB n) hall hx g]; simp
      simp (disch := omega) only [t6, t0, t1, t7, t8, hl5, hlt', Int.toNat_natCast, hown, g, hr, hk.low, r0_slices_IndexFunc_state_Slot_state_Slot, r1_slices_IndexFunc_state_Slot_state_Slot, r2_slices_IndexFunc_state_Slot_state_Slot, r3_slices_IndexFunc_state_Slot_state_Slot, r4_slices_IndexFunc_state_Slot_state_Slot, r5_slices_IndexFunc_state_Slot_state_Slot, k5_slices_IndexFunc_state_Slot_state_Slot, k4_slices_IndexFunc_state_Slot_state_Slot, r6_slices_IndexFunc_state_Slot_state_Slot, k6_slices_IndexFunc_state_Slot_state_Slot, k3_slices_IndexFunc_state_Slot_state_Slot, k2_slices_IndexFunc_state_Slot_state_Slot, k1_slices_IndexFunc_state_Slot_state_Slot, r7_slices_IndexFunc_state_Slot_state_Slot, k7_slices_IndexFunc_state_Slot_state_Slot, k0_slices_IndexFunc_state_Slot_state_Slot, b0_slices_IndexFunc_state_Slot_state_Slot, Z0, Z1, Z2, Z3, Z4, Z5, Z6, Z7, Z8, Z9, Z10, resAll, Nat.reduceAdd, Nat.reduceEqDiff, Nat.reduceLeDiff, Nat.reduceMul, ↓reduceIte, reduceCtorEq, Nat.reduceBEq, aoper, Nat.reduceLT, Int.reduceEq, Int.reduceLT, Int.reduceLE]
    | false =>
      simp (disch := omega) only [t6, t0, t1, t7, t8, hl5, hlt', hlt, hcast, Int.toNat_natCast, hown, g, hk.grow, r0_slices_IndexFunc_state_Slot_state_Slot, r1_slices_IndexFunc_state_Slot_state_Slot, r2_slices_IndexFunc_state_Slot_state_Slot, r3_slices_IndexFunc_state_Slot_state_Slot, r4_slices_IndexFunc_state_Slot_state_Slot, r5_slices_IndexFunc_state_Slot_state_Slot, k5_slices_IndexFunc_state_Slot_state_Slot, k4_slices_IndexFunc_state_Slot_state_Slot, r6_slices_IndexFunc_state_Slot_state_Slot, k6_slices_IndexFunc_state_Slot_state_Slot, k3_slices_IndexFunc_state_Slot_state_Slot, k2_slices_IndexFunc_state_Slot_state_Slot, k1_slices_IndexFunc_state_Slot_state_Slot, r7_slices_IndexFunc_state_Slot_state_Slot, k7_slices_IndexFunc_state_Slot_state_Slot, k0_slices_IndexFunc_state_Slot_state_Slot, b0_slices_IndexFunc_state_Slot_state_Slot, Z0, Z1, Z2, Z3, Z4, Z5, Z6, Z7, Z8, Z9, Z10, resAll, Nat.reduceAdd, Nat.reduceEqDiff, Nat.reduceLeDiff, Nat.reduceMul, ↓reduceIte, reduceCtorEq, Nat.reduceBEq, aoper, Nat.reduceLT, Int.reduceEq, Int.reduceLT, Int.reduceLE]
      intro j y hj hy
      by_cases hji : j < i
      · exact hall j y hji hy
      · have : j = i := by omega
        subst this
        rw [hx] at hy; cases hy; exact g
  · have hlt' : ¬ (i : Int) < (l.length : Int) := by omega
    have hr : firstI (holdsB n) l 0 = -1 := firstI_none fun j y hy => hall j y (by have := (List.getElem?_eq_some_iff.1 hy).1; omega) hy
    simp (disch := omega) only [t6, t0, t1, t7, t8, hlt', hr, hk.low, r0_slices_IndexFunc_state_Slot_state_Slot, r1_slices_IndexFunc_state_Slot_state_Slot, r2_slices_IndexFunc_state_Slot_state_Slot, r3_slices_IndexFunc_state_Slot_state_Slot, r4_slices_IndexFunc_state_Slot_state_Slot, r5_slices_IndexFunc_state_Slot_state_Slot, k5_slices_IndexFunc_state_Slot_state_Slot, k4_slices_IndexFunc_state_Slot_state_Slot, r6_slices_IndexFunc_state_Slot_state_Slot, k6_slices_IndexFunc_state_Slot_state_Slot, k3_slices_IndexFunc_state_Slot_state_Slot, k2_slices_IndexFunc_state_Slot_state_Slot, k1_slices_IndexFunc_state_Slot_state_Slot, r7_slices_IndexFunc_state_Slot_state_Slot, k7_slices_IndexFunc_state_Slot_state_Slot, k0_slices_IndexFunc_state_Slot_state_Slot, b0_slices_IndexFunc_state_Slot_state_Slot, Z0, Z1, Z2, Z3, Z4, Z5, Z6, Z7, Z8, Z9, Z10, resAll, Nat.reduceAdd, Nat.reduceEqDiff, Nat.reduceLeDiff, Nat.reduceMul, ↓reduceIte, reduceCtorEq, Nat.reduceBEq, aoper, Nat.reduceLT, Int.reduceEq, Int.reduceLT, Int.reduceLE]
theorem heldF_eq (S : StD) (n : Int) : heldF S n = decide (0 ≤ firstI (holdsB n) S.sl 0) := rfl
theorem take_held_ok (d : Nat) (σ : AHeap) (S : StD) (a1 : Option Addr) (f1 : Nat) (a2 : Option Addr) (f2 : Nat) (n : Int) (hm : S.sl.length < 1000) (h1 : SlS σ a1 S.sl) :
    acall (ofProg Tryz.prog) 1000 (d + 5) 161 [stV S a1 f1 a2 f2, .int .i64 n] σ = some (.bool (heldF S n), σ) := by
  have hc : ∀ τ : AHeap, SlS τ a1 S.sl → ∀ b, b < τ.n → τ.loadN b 0 1 = some [i64 n] → acall (ofProg Tryz.prog) 1000 (d + 4) 206 [.slice a1 S.sl.length f1, .func (.func 207) [].toArray [here b 0].toArray] τ = some (.bool (heldF S n), τ) := by
    intro τ h b hb hl
    refine acall_flat e_slices_ContainsFunc_state_Slot_state_Slot (by simp) rfl ?_
    have hi := IndexFunc_held_ok d (τ.fresh.grow []) S.sl a1 f1 b n hm (h.fresh.grow _) (by rw [grow_n]; exact hb) ((load_old τ.fresh [] 0 1 hb).trans hl)
    simp (disch := omega) only [hi, heldF_eq, r0_slices_ContainsFunc_state_Slot_state_Slot, r1_slices_ContainsFunc_state_Slot_state_Slot, k0_slices_ContainsFunc_state_Slot_state_Slot, c_slices_ContainsFunc_state_Slot_state_Slot, Z0, Z1, Z2, Z3, Z4, Z5, Z6, Z7, Z8, Z9, Z10, resAll, Nat.reduceAdd, Nat.reduceEqDiff, Nat.reduceLeDiff, Nat.reduceMul, ↓reduceIte, reduceCtorEq, Nat.reduceBEq, aoper, Nat.reduceLT, Int.reduceEq, Int.reduceLT, Int.reduceLE]
  refine acall_flat e_take_held (by simp) rfl ?_
  have hi := hc (σ.fresh.grow [(stL S a1 f1 a2 f2, 5), ([i64 n], 1)]) (h1.fresh.grow _) (σ.fresh.n + 1) (by rw [grow_n]; simp) (by rw [ld_1]; rfl)
  simp (disch := omega) only [hi, r0_take_held, r1_take_held, k0_take_held, c_take_held, Z0, Z1, Z2, Z3, Z4, Z5, Z6, Z7, Z8, Z9, Z10, resAll, Nat.reduceAdd, Nat.reduceEqDiff, Nat.reduceLeDiff, Nat.reduceMul, ↓reduceIte, reduceCtorEq, Nat.reduceBEq, aoper, Nat.reduceLT, Int.reduceEq, Int.reduceLT, Int.reduceLE]
def bitsOk (x : ThingD) : Prop := (0 ≤ x.bits ∧ x.bits ≤ 4) ∧ (x.type = 2 → 0 ≤ x.base ∧ x.base ≤ 96)
theorem emp1_alike (S : StD) (i : Int) : Shp S (emp1 S i).1 := by
  rcases emp1_cases S i with h | ⟨x, _, _, h⟩
  · rw [h]; exact Shp.refl S
  · rw [h]; exact ⟨rfl, rfl, rfl, by simp [empS], by simp [empS]⟩
theorem empR_alike (S : StD) (base : Int) : ∀ k, Shp S (empR S base k).1 := by
  intro k
  induction k with
  | zero => exact Shp.refl S
  | succ k ih => exact ih.trans (emp1_alike _ _)
theorem bInt_le (b : Bool) : 0 ≤ bInt b ∧ bInt b ≤ 1 := by cases b <;> decide
theorem empR_le (S : StD) (base : Int) : ∀ k : Nat, 0 ≤ (empR S base k).2 ∧ (empR S base k).2 ≤ k := by
  intro k
  induction k with
  | zero => simp [empR]
  | succ k ih => simp only [empR]; have := bInt_le (emp1 (empR S base k).1 (base + k)).2; omega
theorem pw_nat {b : Int} : ((pw b).toNat : Int) = pw b := by unfold pw; rw [Int.toNat_natCast]
theorem take_lost_ok (d : Nat) (σ : AHeap) (S : StD) (c1 f1 c2 f2 : Nat) (n : Nat) (x : ThingD) (hlo : σ.low ≤ σ.n) (h1 : c1 < σ.n) (h2 : c2 < σ.n) (hne : c1 ≠ c2) (hr : RowsAt σ c1 c2 S) (hn : S.sl.length < 1000) (hm : S.th.length < 1000)
    (hth : 0 ≤ S.threads ∧ S.threads ≤ 4) (hx : S.th[n]? = some x) (hb : bitsOk x) :
    ∃ τ, acall (ofProg Tryz.prog) 1000 (d + 6) 99 [stV S (some ⟨c1, 0, none⟩) f1 (some ⟨c2, 0, none⟩) f2, .int .i64 n] σ = some (.tuple [i64 (lostF S n).2.1, .bool (lostF S n).2.2].toArray, τ) ∧ RowsAt τ c1 c2 (lostF S n).1 ∧ Wr (two c1 c2) σ τ := by
  have hnl := (List.getElem?_eq_some_iff.1 hx).1
  have g1 : SlAt slotL 5 σ.fresh c1 S.sl := hr.s h1
  have g2 : SlAt thingL 13 σ.fresh c2 S.th := hr.t h2
  have hl : ∀ L, (σ.fresh.grow L).loadN c2 (n * 13) 13 = some (thingL x) := fun L => by
    rw [load_old _ _ _ _ g2.1]; exact g2.2 _ _ hx 0 13 (by omega)
  have q1 : (n : Int) < (S.th.length : Int) := by omega
  have hroot : (decide (2 ≤ (n : Int)) && decide ((n : Int) < 2 + S.threads)) = isRootB S n := rfl
  have hheld := fun L => take_held_ok d (σ.fresh.grow L) S (some ⟨c1, 0, none⟩) f1 (some ⟨c2, 0, none⟩) f2 n hn (.inr ⟨_, rfl, g1.keeps (Keeps.self _ L)⟩)
  have hst : stays S n x = (decide (x.type = 0) || isRootB S n || heldF S n) := rfl
  have hL : lostF S n = if stays S n x = true then (S, 0, false) else if x.type = 2 then (setT (empR S x.base (pw x.bits).toNat).1 n zeroT, (empR S x.base (pw x.bits).toNat).2, true) else (setT S n zeroT, 0, true) := by unfold lostF; rw [hx]
  cases hs : stays S n x with
  | true =>
    rw [hs, if_pos rfl] at hL
    rw [hL]
    refine ⟨σ, ?_, hr, Wr.refl _ _⟩
    refine acall_flat e_take_lost (by simp) rfl ?_
    by_cases k1 : (2 : Int) ≤ n
    · by_cases k2 : (n : Int) < 2 + S.threads
      · by_cases k3 : x.type = 0
        · simp (disch := omega) only [q1, hl, k1, k2, Int.toNat_natCast, eq_true k3, r0_take_lost, r1_take_lost, r2_take_lost, r3_take_lost, r4_take_lost, k3_take_lost, r5_take_lost, r6_take_lost, r7_take_lost, r8_take_lost, r9_take_lost, r10_take_lost, k10_take_lost, k9_take_lost, r11_take_lost, k11_take_lost, k8_take_lost, k7_take_lost, k6_take_lost, r12_take_lost, r13_take_lost, k13_take_lost, k12_take_lost, k5_take_lost, k4_take_lost, k2_take_lost, k1_take_lost, k0_take_lost, c_take_lost, Z0, Z1, Z2, Z3, Z4, Z5, Z6, Z7, Z8, Z9, Z10, resAll, Nat.reduceAdd, Nat.reduceEqDiff, Nat.reduceLeDiff, Nat.reduceMul, ↓reduceIte, reduceCtorEq, Nat.reduceBEq, aoper, Nat.reduceLT, Int.reduceEq, Int.reduceLT, Int.reduceLE]
        · simp (disch := omega) only [q1, hl, k1, k2, Int.toNat_natCast, k3, r0_take_lost, r1_take_lost, r2_take_lost, r3_take_lost, r4_take_lost, k3_take_lost, r5_take_lost, r6_take_lost, r7_take_lost, r8_take_lost, r9_take_lost, r10_take_lost, k10_take_lost, k9_take_lost, r11_take_lost, k11_take_lost, k8_take_lost, k7_take_lost, k6_take_lost, r12_take_lost, r13_take_lost, k13_take_lost, k12_take_lost, k5_take_lost, k4_take_lost, k2_take_lost, k1_take_lost, k0_take_lost, c_take_lost, Z0, Z1, Z2, Z3, Z4, Z5, Z6, Z7, Z8, Z9, Z10, resAll, Nat.reduceAdd, Nat.reduceEqDiff, Nat.reduceLeDiff, Nat.reduceMul, ↓reduceIte, reduceCtorEq, Nat.reduceBEq, aoper, Nat.reduceLT, Int.reduceEq, Int.reduceLT, Int.reduceLE]
      · by_cases k3 : x.type = 0
        · simp (disch := omega) only [q1, hl, k1, k2, Int.toNat_natCast, eq_true k3, r0_take_lost, r1_take_lost, r2_take_lost, r3_take_lost, r4_take_lost, k3_take_lost, r5_take_lost, r6_take_lost, r7_take_lost, r8_take_lost, r9_take_lost, r10_take_lost, k10_take_lost, k9_take_lost, r11_take_lost, k11_take_lost, k8_take_lost, k7_take_lost, k6_take_lost, r12_take_lost, r13_take_lost, k13_take_lost, k12_take_lost, k5_take_lost, k4_take_lost, k2_take_lost, k1_take_lost, k0_take_lost, c_take_lost, Z0, Z1, Z2, Z3, Z4, Z5, Z6, Z7, Z8, Z9, Z10, resAll, Nat.reduceAdd, Nat.reduceEqDiff, Nat.reduceLeDiff, Nat.reduceMul, ↓reduceIte, reduceCtorEq, Nat.reduceBEq, aoper, Nat.reduceLT, Int.reduceEq, Int.reduceLT, Int.reduceLE]
        · have k4 : heldF S n = true := by rw [hst] at hs; unfold isRootB at hs; simpa [k1, k2, k3] using hs
          simp (disch := omega) only [q1, hl, k1, k2, Int.toNat_natCast, k3, hheld, k4, r0_take_lost, r1_take_lost, r2_take_lost, r3_take_lost, r4_take_lost, k3_take_lost, r5_take_lost, r6_take_lost, r7_take_lost, r8_take_lost, r9_take_lost, r10_take_lost, k10_take_lost, k9_take_lost, r11_take_lost, k11_take_lost, k8_take_lost, k7_take_lost, k6_take_lost, r12_take_lost, r13_take_lost, k13_take_lost, k12_take_lost, k5_take_lost, k4_take_lost, k2_take_lost, k1_take_lost, k0_take_lost, c_take_lost, Z0, Z1, Z2, Z3, Z4, Z5, Z6, Z7, Z8, Z9, Z10, resAll, Nat.reduceAdd, Nat.reduceEqDiff, Nat.reduceLeDiff, Nat.reduceMul, ↓reduceIte, reduceCtorEq, Nat.reduceBEq, aoper, Nat.reduceLT, Int.reduceEq, Int.reduceLT, Int.reduceLE]
    · by_cases k3 : x.type = 0
      · simp (disch := omega) only [q1, hl, k1, Int.toNat_natCast, eq_true k3, r0_take_lost, r1_take_lost, r2_take_lost, r3_take_lost, r4_take_lost, k3_take_lost, r5_take_lost, r6_take_lost, r7_take_lost, r8_take_lost, r9_take_lost, r10_take_lost, k10_take_lost, k9_take_lost, r11_take_lost, k11_take_lost, k8_take_lost, k7_take_lost, k6_take_lost, r12_take_lost, r13_take_lost, k13_take_lost, k12_take_lost, k5_take_lost, k4_take_lost, k2_take_lost, k1_take_lost, k0_take_lost, c_take_lost, Z0, Z1, Z2, Z3, Z4, Z5, Z6, Z7, Z8, Z9, Z10, resAll, Nat.reduceAdd, Nat.reduceEqDiff, Nat.reduceLeDiff, Nat.reduceMul, ↓reduceIte, reduceCtorEq, Nat.reduceBEq, aoper, Nat.reduceLT, Int.reduceEq, Int.reduceLT, Int.reduceLE]
      · have k4 : heldF S n = true := by rw [hst] at hs; unfold isRootB at hs; simpa [k1, k3] using hs
        simp (disch := omega) only [q1, hl, k1, Int.toNat_natCast, k3, hheld, k4, r0_take_lost, r1_take_lost, r2_take_lost, r3_take_lost, r4_take_lost, k3_take_lost, r5_take_lost, r6_take_lost, r7_take_lost, r8_take_lost, r9_take_lost, r10_take_lost, k10_take_lost, k9_take_lost, r11_take_lost, k11_take_lost, k8_take_lost, k7_take_lost, k6_take_lost, r12_take_lost, r13_take_lost, k13_take_lost, k12_take_lost, k5_take_lost, k4_take_lost, k2_take_lost, k1_take_lost, k0_take_lost, c_take_lost, Z0, Z1, Z2, Z3, Z4, Z5, Z6, Z7, Z8, Z9, Z10, resAll, Nat.reduceAdd, Nat.reduceEqDiff, Nat.reduceLeDiff, Nat.reduceMul, ↓reduceIte, reduceCtorEq, Nat.reduceBEq, aoper, Nat.reduceLT, Int.reduceEq, Int.reduceLT, Int.reduceLE]
  | false =>
    have hst0 := hs
    rw [hst] at hs
    simp only [Bool.or_eq_false_iff, decide_eq_false_iff_not] at hs
    obtain ⟨⟨k3, k4⟩, k5⟩ := hs
    unfold isRootB at k4
    simp only [Bool.and_eq_false_iff, decide_eq_false_iff_not] at k4
    suffices hsu : Hai.Ends (acode (acall (ofProg Tryz.prog) 1000 (d + 5)) 1000 c_take_lost (Tr.of [stV S (some ⟨c1, 0, none⟩) f1 (some ⟨c2, 0, none⟩) f2, .int .i64 n]) (σ.fresh.grow []))
        (finE [.tmp 4, .tmp 5] fun v τ => v = .tuple [i64 (lostF S n).2.1, .bool (lostF S n).2.2].toArray ∧ RowsAt τ c1 c2 (lostF S n).1 ∧ Wr (two c1 c2) σ.fresh τ) by
      obtain ⟨v, τ', e, τ, ⟨rfl, q1, q2⟩, q⟩ := acall_eff e_take_lost (by simp) hsu
      rcases q with ⟨ql, _, rfl⟩ | rfl
      · exact ⟨_, e, ⟨(q2.same ql h1).symm.trans q1.sl, (q2.same ql h2).symm.trans q1.th⟩, Wr.refl _ _⟩
      · exact ⟨_, e, ⟨q1.sl, q1.th⟩, q2.ret⟩
    have hk0 := Keeps.self σ.fresh [(stL S (some ⟨c1, 0, none⟩) f1 (some ⟨c2, 0, none⟩) f2, 5), (thingL x, 13)]
    obtain ⟨b1, b2⟩ := hb
    have hp := pw_le b1.1 b1.2
    have hfn : σ.fresh.n = σ.n := rfl
    obtain ⟨A, hA⟩ : ∃ A : Nat → StD × Int, A = fun k => if x.type = 2 then empR S x.base k else (S, 0) := ⟨_, rfl⟩
    have hA0 : A 0 = (S, 0) := by rw [hA]; simp only [empR]; split <;> rfl
    have hAl : ∀ k, Shp S (A k).1 := fun k => by rw [hA]; simp only; split; exact empR_alike _ _ _; exact Shp.refl _
    have hAn : ∀ k, 0 ≤ (A k).2 ∧ (A k).2 ≤ k := fun k => by rw [hA]; simp only; split; exact empR_le _ _ _; simp
    have main : ∀ (t : Tmps) (Q : AEx → Tmps → AHeap → Prop), tget t 38 = i64 (pw x.bits) → tget t 39 = i64 0 → tget t 2 = here σ.fresh.n 0 → tget t 6 = here (σ.fresh.n + 1) 0 → tget t 8 = i64 0 → tget t 1 = i64 n →
        (∀ t' τ, tget t' 2 = here σ.fresh.n 0 → tget t' 8 = i64 (A (pw x.bits).toNat).2 → tget t' 1 = i64 n → Wr (two c1 c2) (σ.fresh.grow [(stL S (some ⟨c1, 0, none⟩) f1 (some ⟨c2, 0, none⟩) f2, 5), (thingL x, 13)]) τ → RowsAt τ c1 c2 (A (pw x.bits).toNat).1 → Q (.exit 0) t' τ) →
        Hai.Ends (acode (acall (ofProg Tryz.prog) 1000 (d + 5)) 1000 (.loop b0_take_lost) t (σ.fresh.grow [(stL S (some ⟨c1, 0, none⟩) f1 (some ⟨c2, 0, none⟩) f2, 5), (thingL x, 13)])) Q := by
      intro t Q t38 t39 t2 t6 t8 t1 hQ
      have hpn : ((pw x.bits).toNat : Int) = pw x.bits := pw_nat
      refine ends_loop (fun k t τ => tget t 38 = i64 (pw x.bits) ∧ tget t 39 = i64 k ∧ tget t 2 = here σ.fresh.n 0 ∧ tget t 6 = here (σ.fresh.n + 1) 0 ∧ tget t 8 = i64 (A k).2 ∧ tget t 1 = i64 n ∧ Wr (two c1 c2) (σ.fresh.grow [(stL S (some ⟨c1, 0, none⟩) f1 (some ⟨c2, 0, none⟩) f2, 5), (thingL x, 13)]) τ ∧ RowsAt τ c1 c2 (A k).1)
        (pw x.bits).toNat (by omega) ⟨t38, t39, t2, t6, ?_, t1, Wr.refl _ _, ?_⟩ ?_
      · rw [hA0]; exact t8
      · rw [hA0]; exact (show RowsAt σ.fresh c1 c2 S from ⟨hr.sl, hr.th⟩).keeps hk0 h1 h2
      clear t38 t39 t2 t6 t8 t1 t
      rintro k t τ hk ⟨t38, t39, t2, t6, t8, t1, hw, hrk⟩
      rw [← grow_nil τ]
      have hnn : σ.n + 2 ≤ τ.n := by have := hw.n; rw [grow_n] at this; exact this
      have hlow : τ.low ≤ τ.n := by have := hw.low; rw [grow_low] at this; exact Nat.le_trans this (by have : σ.fresh.low = σ.n := rfl; omega)
      have hbox : ∀ M o n, (τ.grow M).loadN σ.fresh.n o n = sliceL (stL S (some ⟨c1, 0, none⟩) f1 (some ⟨c2, 0, none⟩) f2) o n := fun M o n => by
        rw [(hw.grow M).load o n (by rw [grow_n]; simp) (by rintro (e | e) <;> omega), ld_0]
      have hbox2 : ∀ M o n, (τ.grow M).loadN (σ.fresh.n + 1) o n = sliceL (thingL x) o n := fun M o n => by
        rw [(hw.grow M).load o n (by rw [grow_n]; simp) (by rintro (e | e) <;> omega), ld_1]
      by_cases hlt : k < (pw x.bits).toNat
      · have hlt' : (k : Int) < pw x.bits := by omega
        have hcast : ((k + 1 : Nat) : Int) = (k : Int) + 1 := by omega
        by_cases g2' : x.type = 2
        · have hb2 := b2 g2'
          have hAs : A (k + 1) = ((emp1 (A k).1 (x.base + k)).1, (A k).2 + bInt (emp1 (A k).1 (x.base + k)).2) := by rw [hA]; simp only [if_pos g2', empR]
          obtain ⟨υ, e, u1, u2⟩ := take_empty_ok (d + 3) (τ.grow []) (A k).1 c1 f1 c2 f2 (x.base + k) (low_grow hlow _) (by rw [grow_n]; omega) (by rw [grow_n]; omega) hne (hrk.keeps (Keeps.self _ _) (by omega) (by omega)) (by rw [(hAl k).sl]; exact hn) (by rw [(hAl k).th]; exact hm)
          rw [(hAl k).stV] at e
          have hAk := hAn k
          have hAs1 : (A (k + 1)).1 = (emp1 (A k).1 (x.base + k)).1 := by rw [hAs]
          have hwk := (hw.grow []).trans u2
          cases ge : (emp1 (A k).1 (x.base + k)).2 with
          | true =>
            have hAs2 : (A (k + 1)).2 = (A k).2 + 1 := by rw [hAs, ge]; rfl
            simp (disch := omega) only [t38, t39, t2, t6, t8, t1, hlt', hlt, hcast, hbox, hbox2, eq_true g2', e, ge, hAs2, r0_take_lost, r1_take_lost, r2_take_lost, r3_take_lost, r4_take_lost, k3_take_lost, r5_take_lost, r6_take_lost, r7_take_lost, r8_take_lost, r9_take_lost, r10_take_lost, k10_take_lost, k9_take_lost, r11_take_lost, k11_take_lost, k8_take_lost, k7_take_lost, k6_take_lost, r12_take_lost, r13_take_lost, k13_take_lost, k12_take_lost, k5_take_lost, k4_take_lost, k2_take_lost, k1_take_lost, k0_take_lost, b0_take_lost, Z0, Z1, Z2, Z3, Z4, Z5, Z6, Z7, Z8, Z9, Z10, resAll, Nat.reduceAdd, Nat.reduceEqDiff, Nat.reduceLeDiff, Nat.reduceMul, ↓reduceIte, reduceCtorEq, Nat.reduceBEq, aoper, Nat.reduceLT, Int.reduceEq, Int.reduceLT, Int.reduceLE]
            rw [hAs1]
            exact ⟨hwk, u1⟩
          | false =>
            have hAs2 : (A (k + 1)).2 = (A k).2 := by rw [hAs, ge]; simp [bInt]
            simp (disch := omega) only [t38, t39, t2, t6, t8, t1, hlt', hlt, hcast, hbox, hbox2, eq_true g2', e, ge, hAs2, r0_take_lost, r1_take_lost, r2_take_lost, r3_take_lost, r4_take_lost, k3_take_lost, r5_take_lost, r6_take_lost, r7_take_lost, r8_take_lost, r9_take_lost, r10_take_lost, k10_take_lost, k9_take_lost, r11_take_lost, k11_take_lost, k8_take_lost, k7_take_lost, k6_take_lost, r12_take_lost, r13_take_lost, k13_take_lost, k12_take_lost, k5_take_lost, k4_take_lost, k2_take_lost, k1_take_lost, k0_take_lost, b0_take_lost, Z0, Z1, Z2, Z3, Z4, Z5, Z6, Z7, Z8, Z9, Z10, resAll, Nat.reduceAdd, Nat.reduceEqDiff, Nat.reduceLeDiff, Nat.reduceMul, ↓reduceIte, reduceCtorEq, Nat.reduceBEq, aoper, Nat.reduceLT, Int.reduceEq, Int.reduceLT, Int.reduceLE]
            rw [hAs1]
            exact ⟨hwk, u1⟩
        · have hAs : A (k + 1) = A k := by rw [hA]; simp only [if_neg g2']
          simp (disch := omega) only [t38, t39, t2, t6, t8, t1, hlt', hlt, hcast, hbox, hbox2, g2', hAs, r0_take_lost, r1_take_lost, r2_take_lost, r3_take_lost, r4_take_lost, k3_take_lost, r5_take_lost, r6_take_lost, r7_take_lost, r8_take_lost, r9_take_lost, r10_take_lost, k10_take_lost, k9_take_lost, r11_take_lost, k11_take_lost, k8_take_lost, k7_take_lost, k6_take_lost, r12_take_lost, r13_take_lost, k13_take_lost, k12_take_lost, k5_take_lost, k4_take_lost, k2_take_lost, k1_take_lost, k0_take_lost, b0_take_lost, Z0, Z1, Z2, Z3, Z4, Z5, Z6, Z7, Z8, Z9, Z10, resAll, Nat.reduceAdd, Nat.reduceEqDiff, Nat.reduceLeDiff, Nat.reduceMul, ↓reduceIte, reduceCtorEq, Nat.reduceBEq, aoper, Nat.reduceLT, Int.reduceEq, Int.reduceLT, Int.reduceLE]
          exact ⟨hw.grow _, hrk.keeps (Keeps.self _ _) (by omega) (by omega)⟩
      · have hlt' : ¬ (k : Int) < pw x.bits := by omega
        have hke : k = (pw x.bits).toNat := by omega
        simp (disch := omega) only [t38, t39, hlt', r0_take_lost, r1_take_lost, r2_take_lost, r3_take_lost, r4_take_lost, k3_take_lost, r5_take_lost, r6_take_lost, r7_take_lost, r8_take_lost, r9_take_lost, r10_take_lost, k10_take_lost, k9_take_lost, r11_take_lost, k11_take_lost, k8_take_lost, k7_take_lost, k6_take_lost, r12_take_lost, r13_take_lost, k13_take_lost, k12_take_lost, k5_take_lost, k4_take_lost, k2_take_lost, k1_take_lost, k0_take_lost, b0_take_lost, Z0, Z1, Z2, Z3, Z4, Z5, Z6, Z7, Z8, Z9, Z10, resAll, Nat.reduceAdd, Nat.reduceEqDiff, Nat.reduceLeDiff, Nat.reduceMul, ↓reduceIte, reduceCtorEq, Nat.reduceBEq, aoper, Nat.reduceLT, Int.reduceEq, Int.reduceLT, Int.reduceLE]
        rw [← hke] at hQ
        refine hQ _ _ ?_ ?_ ?_ (hw.grow _) (hrk.keeps (Keeps.self _ _) (by omega) (by omega))
        all_goals simp (disch := omega) only [t2, t8, t1, r0_take_lost, r1_take_lost, r2_take_lost, r3_take_lost, r4_take_lost, k3_take_lost, r5_take_lost, r6_take_lost, r7_take_lost, r8_take_lost, r9_take_lost, r10_take_lost, k10_take_lost, k9_take_lost, r11_take_lost, k11_take_lost, k8_take_lost, k7_take_lost, k6_take_lost, r12_take_lost, r13_take_lost, k13_take_lost, k12_take_lost, k5_take_lost, k4_take_lost, k2_take_lost, k1_take_lost, k0_take_lost, Z0, Z1, Z2, Z3, Z4, Z5, Z6, Z7, Z8, Z9, Z10, resAll, Nat.reduceAdd, Nat.reduceEqDiff, Nat.reduceLeDiff, Nat.reduceMul, ↓reduceIte, reduceCtorEq, Nat.reduceBEq, aoper, Nat.reduceLT, Int.reduceEq, Int.reduceLT, Int.reduceLE]
    have hend : lostF S n = (setT (A (pw x.bits).toNat).1 n zeroT, (A (pw x.bits).toNat).2, true) := by
      rw [hL, hst0, if_neg (by simp), hA]; simp only
      split <;> rfl
    by_cases j1 : (2 : Int) ≤ n
    · have j2 := k4.resolve_left (fun h => h j1)
      simp (disch := omega) only [q1, hl, j1, j2, Int.toNat_natCast, k3, hheld, k5, r0_take_lost, r1_take_lost, r2_take_lost, r3_take_lost, r4_take_lost, k3_take_lost, r5_take_lost, r6_take_lost, r7_take_lost, r8_take_lost, r9_take_lost, r10_take_lost, k10_take_lost, k9_take_lost, r11_take_lost, k11_take_lost, k8_take_lost, k7_take_lost, k6_take_lost, r12_take_lost, r13_take_lost, k13_take_lost, k12_take_lost, k5_take_lost, k4_take_lost, k2_take_lost, k1_take_lost, k0_take_lost, c_take_lost, Z0, Z1, Z2, Z3, Z4, Z5, Z6, Z7, Z8, Z9, Z10, resAll, Nat.reduceAdd, Nat.reduceEqDiff, Nat.reduceLeDiff, Nat.reduceMul, ↓reduceIte, reduceCtorEq, Nat.reduceBEq, aoper, Nat.reduceLT, Int.reduceEq, Int.reduceLT, Int.reduceLE]
      refine main _ _ ?_ ?_ ?_ ?_ ?_ ?_ ?_
      iterate 6 simp (disch := omega) only [Int.natCast_zero, Int.ofNat_zero, r0_take_lost, r1_take_lost, r2_take_lost, r3_take_lost, r4_take_lost, k3_take_lost, r5_take_lost, r6_take_lost, r7_take_lost, r8_take_lost, r9_take_lost, r10_take_lost, k10_take_lost, k9_take_lost, r11_take_lost, k11_take_lost, k8_take_lost, k7_take_lost, k6_take_lost, r12_take_lost, r13_take_lost, k13_take_lost, k12_take_lost, k5_take_lost, k4_take_lost, k2_take_lost, k1_take_lost, k0_take_lost, c_take_lost, Z0, Z1, Z2, Z3, Z4, Z5, Z6, Z7, Z8, Z9, Z10, resAll, Nat.reduceAdd, Nat.reduceEqDiff, Nat.reduceLeDiff, Nat.reduceMul, ↓reduceIte, reduceCtorEq, Nat.reduceBEq, aoper, Nat.reduceLT, Int.reduceEq, Int.reduceLT, Int.reduceLE]
      intro t' τ t2 t8 t1 hw hrk
      have hnn : σ.n + 2 ≤ τ.n := by have := hw.n; rw [grow_n] at this; exact this
      have hbox : ∀ M o n, (τ.grow M).loadN σ.fresh.n o n = sliceL (stL S (some ⟨c1, 0, none⟩) f1 (some ⟨c2, 0, none⟩) f2) o n := fun M o n => by
        rw [(hw.grow M).load o n (by rw [grow_n]; simp) (by rintro (e | e) <;> omega), ld_0]
      have hA2 := hAl (pw x.bits).toNat
      have w2 : ∀ M, (τ.grow M).t.get c2 = some (rowOf (flatL thingL (A (pw x.bits).toNat).1.th, 13)) := fun M => (grow_old _ _ (by omega)).trans hrk.th
      have hset := flatL_set (cells := thingL) (es := 13) (fun _ => rfl) zeroT (A (pw x.bits).toNat).1.th n (by rw [hA2.th]; exact hnl)
      simp only [zeroT, thingL] at hset
      have hlen : n * 13 + 13 ≤ (flatL thingL (A (pw x.bits).toNat).1.th).length := by rw [flatL_length (es := 13) (fun _ => rfl), hA2.th]; omega
      rw [← grow_nil τ]
      simp (disch := omega) only [t2, t8, t1, hbox, q1, Int.toNat_natCast, st_gen, rowSt_row, w2, hlen, hset, hend, r0_take_lost, r1_take_lost, r2_take_lost, r3_take_lost, r4_take_lost, k3_take_lost, r5_take_lost, r6_take_lost, r7_take_lost, r8_take_lost, r9_take_lost, r10_take_lost, k10_take_lost, k9_take_lost, r11_take_lost, k11_take_lost, k8_take_lost, k7_take_lost, k6_take_lost, r12_take_lost, r13_take_lost, k13_take_lost, k12_take_lost, k5_take_lost, k4_take_lost, k2_take_lost, k1_take_lost, k0_take_lost, c_take_lost, Z0, Z1, Z2, Z3, Z4, Z5, Z6, Z7, Z8, Z9, Z10, resAll, Nat.reduceAdd, Nat.reduceEqDiff, Nat.reduceLeDiff, Nat.reduceMul, ↓reduceIte, reduceCtorEq, Nat.reduceBEq, aoper, Nat.reduceLT, Int.reduceEq, Int.reduceLT, Int.reduceLE]
      refine ⟨⟨(putM_far hne).trans ((grow_old _ _ (by omega)).trans hrk.sl), putM_get⟩, (hk0.wr.trans (hw.grow _)).trans (putM_wr (.inr rfl))⟩
    · simp (disch := omega) only [q1, hl, j1, Int.toNat_natCast, k3, hheld, k5, r0_take_lost, r1_take_lost, r2_take_lost, r3_take_lost, r4_take_lost, k3_take_lost, r5_take_lost, r6_take_lost, r7_take_lost, r8_take_lost, r9_take_lost, r10_take_lost, k10_take_lost, k9_take_lost, r11_take_lost, k11_take_lost, k8_take_lost, k7_take_lost, k6_take_lost, r12_take_lost, r13_take_lost, k13_take_lost, k12_take_lost, k5_take_lost, k4_take_lost, k2_take_lost, k1_take_lost, k0_take_lost, c_take_lost, Z0, Z1, Z2, Z3, Z4, Z5, Z6, Z7, Z8, Z9, Z10, resAll, Nat.reduceAdd, Nat.reduceEqDiff, Nat.reduceLeDiff, Nat.reduceMul, ↓reduceIte, reduceCtorEq, Nat.reduceBEq, aoper, Nat.reduceLT, Int.reduceEq, Int.reduceLT, Int.reduceLE]
      refine main _ _ ?_ ?_ ?_ ?_ ?_ ?_ ?_
      iterate 6 simp (disch := omega) only [Int.natCast_zero, Int.ofNat_zero, r0_take_lost, r1_take_lost, r2_take_lost, r3_take_lost, r4_take_lost, k3_take_lost, r5_take_lost, r6_take_lost, r7_take_lost, r8_take_lost, r9_take_lost, r10_take_lost, k10_take_lost, k9_take_lost, r11_take_lost, k11_take_lost, k8_take_lost, k7_take_lost, k6_take_lost, r12_take_lost, r13_take_lost, k13_take_lost, k12_take_lost, k5_take_lost, k4_take_lost, k2_take_lost, k1_take_lost, k0_take_lost, c_take_lost, Z0, Z1, Z2, Z3, Z4, Z5, Z6, Z7, Z8, Z9, Z10, resAll, Nat.reduceAdd, Nat.reduceEqDiff, Nat.reduceLeDiff, Nat.reduceMul, ↓reduceIte, reduceCtorEq, Nat.reduceBEq, aoper, Nat.reduceLT, Int.reduceEq, Int.reduceLT, Int.reduceLE]
      intro t' τ t2 t8 t1 hw hrk
      have hnn : σ.n + 2 ≤ τ.n := by have := hw.n; rw [grow_n] at this; exact this
      have hbox : ∀ M o n, (τ.grow M).loadN σ.fresh.n o n = sliceL (stL S (some ⟨c1, 0, none⟩) f1 (some ⟨c2, 0, none⟩) f2) o n := fun M o n => by
        rw [(hw.grow M).load o n (by rw [grow_n]; simp) (by rintro (e | e) <;> omega), ld_0]
      have hA2 := hAl (pw x.bits).toNat
      have w2 : ∀ M, (τ.grow M).t.get c2 = some (rowOf (flatL thingL (A (pw x.bits).toNat).1.th, 13)) := fun M => (grow_old _ _ (by omega)).trans hrk.th
      have hset := flatL_set (cells := thingL) (es := 13) (fun _ => rfl) zeroT (A (pw x.bits).toNat).1.th n (by rw [hA2.th]; exact hnl)
      simp only [zeroT, thingL] at hset
      have hlen : n * 13 + 13 ≤ (flatL thingL (A (pw x.bits).toNat).1.th).length := by rw [flatL_length (es := 13) (fun _ => rfl), hA2.th]; omega
      rw [← grow_nil τ]
      simp (disch := omega) only [t2, t8, t1, hbox, q1, Int.toNat_natCast, st_gen, rowSt_row, w2, hlen, hset, hend, r0_take_lost, r1_take_lost, r2_take_lost, r3_take_lost, r4_take_lost, k3_take_lost, r5_take_lost, r6_take_lost, r7_take_lost, r8_take_lost, r9_take_lost, r10_take_lost, k10_take_lost, k9_take_lost, r11_take_lost, k11_take_lost, k8_take_lost, k7_take_lost, k6_take_lost, r12_take_lost, r13_take_lost, k13_take_lost, k12_take_lost, k5_take_lost, k4_take_lost, k2_take_lost, k1_take_lost, k0_take_lost, c_take_lost, Z0, Z1, Z2, Z3, Z4, Z5, Z6, Z7, Z8, Z9, Z10, resAll, Nat.reduceAdd, Nat.reduceEqDiff, Nat.reduceLeDiff, Nat.reduceMul, ↓reduceIte, reduceCtorEq, Nat.reduceBEq, aoper, Nat.reduceLT, Int.reduceEq, Int.reduceLT, Int.reduceLE]
      refine ⟨⟨(putM_far hne).trans ((grow_old _ _ (by omega)).trans hrk.sl), putM_get⟩, (hk0.wr.trans (hw.grow _)).trans (putM_wr (.inr rfl))⟩
end Go.Proofs.YtidmcpkbcphpiaaGreat
namespace Go.Proofs.YtidmcpkbcphpiaaGreat
open Go Go.Hai
def ne (S : StD) : Int := ((S.sl.countP fun x => !(capNone x) : Nat) : Int)
theorem ne_le (S : StD) : 0 ≤ ne S ∧ ne S ≤ S.sl.length := by unfold ne; have := List.countP_le_length (p := fun x => !(capNone x)) (l := S.sl); omega
theorem emp1_ne (S : StD) (i : Int) : bInt (emp1 S i).2 + ne (emp1 S i).1 = ne S := by
  rcases emp1_cases S i with h | ⟨x, hx, hc, h⟩
  · rw [h]; simp [bInt]
  · rw [h]
    obtain ⟨h1, _⟩ := atI_to hx
    have hl := (List.getElem?_eq_some_iff.1 h1).1
    have hg := (List.getElem?_eq_some_iff.1 h1).2
    unfold ne empS
    simp only
    rw [List.countP_set (by rw [List.length_map]; exact hl), List.countP_map]
    have e : ((fun x => !(capNone x)) ∘ eUp i x.up) = fun x => !(capNone x) := by funext y; simp [Function.comp, eUp_cap]
    have e2 : (!(capNone ((S.sl.map (eUp i x.up))[i.toNat]'(by rw [List.length_map]; exact hl)))) = true := by rw [List.getElem_map, eUp_cap, hg, hc]; rfl
    have e3 : capNone noneS = true := by decide
    rw [e, e2, e3]
    have hp : 0 < S.sl.countP fun x => !(capNone x) := List.countP_pos_iff.2 ⟨x, List.mem_of_getElem? h1, by rw [hc]; rfl⟩
    simp [bInt]
    omega
theorem empL_snoc (S : StD) : ∀ (l : List Int) (z : Int), empL S (l ++ [z]) = ((emp1 (empL S l).1 z).1, (empL S l).2 + bInt (emp1 (empL S l).1 z).2) := by
  intro l
  induction l generalizing S with
  | nil => intro z; simp [empL]
  | cons i l ih =>
    intro z
    simp only [List.cons_append, empL, ih, Int.add_assoc]
theorem empL_le (S : StD) : ∀ l : List Int, 0 ≤ (empL S l).2 ∧ (empL S l).2 ≤ l.length := by
  intro l
  induction l generalizing S with
  | nil => simp [empL]
  | cons i l ih => simp only [empL, List.length_cons]; have := ih (emp1 S i).1; have := bInt_le (emp1 S i).2; omega
theorem setT_alike (S : StD) (t : Nat) (x : ThingD) : Shp S (setT S t x) := ⟨rfl, rfl, rfl, rfl, by simp [setT]⟩
theorem shp_inv {S0 : StD} : (∀ S i, Shp S0 S → Shp S0 (emp1 S i).1) ∧ (∀ S t, Shp S0 S → Shp S0 (setT S t zeroT)) := ⟨fun S i h => h.trans (emp1_alike S i), fun S t h => h.trans (setT_alike S t zeroT)⟩
theorem empL_alike (S : StD) (l : List Int) : Shp S (empL S l).1 := empL_inv shp_inv.1 l S (Shp.refl S)
theorem sweep_alike (S : StD) (k : Nat) : Shp S (sweep S k).1 := sweep_inv shp_inv.1 shp_inv.2 S (Shp.refl S) k
theorem sweeps_alike (f : Nat) (S : StD) : Shp S (sweeps f S).1 := sweeps_inv shp_inv.1 shp_inv.2 f S (Shp.refl S)
theorem takeF_alike (S : StD) (l : List Int) : Shp S (takeF S l).1 := by
  unfold takeF
  split
  · exact (empL_alike S l).trans (sweeps_alike _ _)
  · exact Shp.refl S
theorem lostF_pos (S : StD) (t : Nat) : 0 ≤ (lostF S t).2.1 := by
  unfold lostF
  split
  · simp
  · split
    · simp
    · split
      · exact (empR_le _ _ _).1
      · simp
theorem sweep_pos (S : StD) : ∀ k, 0 ≤ (sweep S k).2.1 := by
  intro k
  induction k with
  | zero => simp [sweep]
  | succ k ih => simp only [sweep]; have := lostF_pos (sweep S k).1 k; omega
theorem sweep_ne (S : StD) (k : Nat) : (sweep S k).2.1 + ne (sweep S k).1 = ne S := by
  have := sweep_cnt (P := fun T n => n + ne T = ne S) (fun T i n h => by have := emp1_ne T i; omega) (fun T t n h => h) S 0 (by simp) k
  simpa using this
theorem empL_ne (S : StD) (l : List Int) : (empL S l).2 + ne (empL S l).1 = ne S := by
  have := empL_cnt (P := fun T n => n + ne T = ne S) (fun T i n h => by have := emp1_ne T i; omega) l S 0 (by simp)
  simpa using this
def isThere (t : ThingD) : Bool := !(decide (t.type = 0))
theorem live_eq (S : StD) : live S = S.th.countP isThere := rfl
theorem eFrm_type (i : Int) (t : ThingD) : (eFrm i t).type = t.type := by unfold eFrm; split <;> rfl
theorem emp1_live (S : StD) (i : Int) : live (emp1 S i).1 = live S := by
  rcases emp1_cases S i with h | ⟨x, hx, hc, h⟩
  · rw [h]
  · rw [h, live_eq, live_eq]
    unfold empS
    simp only
    rw [List.countP_map]
    congr 1
    funext t
    simp [Function.comp, isThere, eFrm_type]
theorem emp1_type (S : StD) (i : Int) (k : Nat) : ((emp1 S i).1.th[k]?).map (·.type) = (S.th[k]?).map (·.type) := by
  rcases emp1_cases S i with h | ⟨x, hx, hc, h⟩
  · rw [h]
  · rw [h]; unfold empS; simp only [List.getElem?_map, Option.map_map]; congr 1; funext t; simp [Function.comp, eFrm_type]
theorem empR_live (S : StD) (base : Int) : ∀ k, live (empR S base k).1 = live S := by
  intro k
  induction k with
  | zero => rfl
  | succ k ih => simp only [empR]; rw [emp1_live, ih]
theorem empR_type (S : StD) (base : Int) (j : Nat) : ∀ k, ((empR S base k).1.th[j]?).map (·.type) = (S.th[j]?).map (·.type) := by
  intro k
  induction k with
  | zero => rfl
  | succ k ih => simp only [empR]; rw [emp1_type, ih]
theorem setT_live {S : StD} {t : Nat} (h : ∃ n, (S.th[t]?).map (·.type) = some n ∧ n ≠ 0) : live (setT S t zeroT) + 1 = live S := by
  obtain ⟨n, hn, h0⟩ := h
  cases hx : S.th[t]? with
  | none => rw [hx] at hn; cases hn
  | some x =>
    rw [hx] at hn
    simp at hn
    have hl := (List.getElem?_eq_some_iff.1 hx).1
    have hg := (List.getElem?_eq_some_iff.1 hx).2
    have hs : isThere x = true := by unfold isThere; rw [hn]; simp [h0]
    rw [live_eq, live_eq]
    unfold setT
    simp only
    rw [List.countP_set hl, hg, hs]
    have hp : 0 < S.th.countP isThere := List.countP_pos_iff.2 ⟨x, List.mem_of_getElem? hx, hs⟩
    have hz : isThere zeroT = false := by decide
    rw [hz]
    simp
    omega
theorem lostF_live (S : StD) (t : Nat) : live (lostF S t).1 ≤ live S ∧ ((lostF S t).2.2 = true → live (lostF S t).1 < live S) := by
  unfold lostF
  split
  · exact ⟨Nat.le_refl _, fun h => by cases h⟩
  · next x hx =>
    split
    · exact ⟨Nat.le_refl _, fun h => by cases h⟩
    · next hs =>
      have h0 : x.type ≠ 0 := fun e => hs (by unfold stays; simp [e])
      split
      · have h1 := setT_live (S := (empR S x.base (pw x.bits).toNat).1) (t := t) ⟨x.type, by rw [empR_type, hx]; rfl, h0⟩
        rw [empR_live] at h1
        simp only
        omega
      · have h1 := setT_live (S := S) (t := t) ⟨x.type, by rw [hx]; rfl, h0⟩
        simp only
        omega
theorem sweep_live (S : StD) : ∀ k, live (sweep S k).1 ≤ live S ∧ ((sweep S k).2.2 = true → live (sweep S k).1 < live S) := by
  intro k
  induction k with
  | zero => exact ⟨Nat.le_refl _, fun h => by cases h⟩
  | succ k ih =>
    have h1 := lostF_live (sweep S k).1 k
    simp only [sweep, Bool.or_eq_true]
    refine ⟨by omega, fun h => ?_⟩
    rcases h with h | h
    · have := h1.2 h; omega
    · have := ih.2 h; omega
def bitsAll (S : StD) : Prop := ∀ (i : Nat) (x : ThingD), S.th[i]? = some x → bitsOk x
theorem bits_inv : (∀ S i, bitsAll S → bitsAll (emp1 S i).1) ∧ (∀ S t, bitsAll S → bitsAll (setT S t zeroT)) := by
  refine ⟨fun S i h => ?_, fun S t h => ?_⟩
  · rcases emp1_cases S i with e | ⟨x, hx, hc, e⟩
    · rw [e]; exact h
    · rw [e]
      intro j y hy
      unfold empS at hy
      simp only [List.getElem?_map] at hy
      cases hz : S.th[j]? with
      | none => rw [hz] at hy; cases hy
      | some z =>
        rw [hz] at hy
        simp at hy
        have := h j z hz
        rw [← hy]
        unfold eFrm
        split
        · exact this
        · exact this
  · intro j y hy
    rw [setT_th] at hy
    split at hy
    · split at hy
      · simp at hy; rw [← hy]; unfold bitsOk; decide
      · cases hy
    · exact h j y hy
theorem bits_of {S : StD} (h : thingsB S = true) : bitsAll S := fun i x hx => by
  have hg := thGood_of h i x hx
  by_cases h2 : x.type = 2
  · have := thGood_node hg h2
    have hp := pw_le (b := x.bits) (by omega) (by omega)
    exact ⟨by omega, fun _ => by omega⟩
  · have hb : x.bits = 0 := by
      unfold thGood at hg
      simp only [Bool.and_eq_true] at hg
      have := thEq_eq hg.1
      rw [← this]
      unfold thOwn
      split
      · rfl
      · first | rfl | (split <;> first | rfl | (split <;> first | rfl | (split <;> first | rfl | (split <;> first | rfl | (split <;> rfl)))))
    exact ⟨by omega, fun h => absurd h h2⟩
theorem sweeps_step {S : StD} {f : Nat} : sweeps (f + 1) S = if (sweep S S.th.length).2.2 = true then ((sweeps f (sweep S S.th.length).1).1, (sweep S S.th.length).2.1 + (sweeps f (sweep S S.th.length).1).2) else ((sweep S S.th.length).1, (sweep S S.th.length).2.1) := rfl
end Go.Proofs.YtidmcpkbcphpiaaGreat
namespace Go.Proofs.YtidmcpkbcphpiaaGreat
open Go Go.Hai
set_option maxRecDepth 20000
set_option linter.unusedSimpArgs false
set_option maxHeartbeats 8000000
attribute [local irreducible] Hai.Ends EndsR EndsO EndsD EndsX EndsE EndsK AHeap.grow AHeap.putR AHeap.putM okLow inN
def r0_take_Empty : List AOper := [(.mk (some 2) none (.box 5 (.tmp 0))), (.mk (some 4) none (.alloc [(.int .i64 0), (.int .i64 0), (.int .i64 0), (.slice none 0 0), (.slice none 0 0)] 5)), (.mk (some 5) none (.mv (.const (.int .i64 0))))]
def r1_take_Empty : List AOper := [(.mk (some 13) none (.load true 5 (.tmp 2))), (.mk (some 14) none (.call 15 [(.tmp 13)])), (.mk none none (.store 5 (.tmp 2) (.tmp 14)))]
def r2_take_Empty : List AOper := [(.mk (some 15) none (.load true 5 (.tmp 2))), (.mk (some 16) none (.call 14 [(.tmp 15)])), (.mk (some 17) none (.un .not (.tmp 16)))]
def r3_take_Empty : List AOper := [(.mk (some 18) none (.load true 5 (.tmp 2))), (.mk none none (.store 5 (.tmp 4) (.tmp 18))), (.mk (some 5) none (.mv (.const (.int .i64 0))))]
def k2_take_Empty : ACode := (.cond (.tmp 17) (.seq (.reg r3_take_Empty) .ret) .skip)
def r4_take_Empty : List AOper := [(.mk (some 6) none (.mv (.const (.int .i64 0))))]
def r5_take_Empty : List AOper := [(.mk (some 19) none (.mv (.tmp 1))), (.mk (some 20) none (.lenS (.tmp 19))), (.mk (some 21) none (.mv (.const (.int .i64 0))))]
def r6_take_Empty : List AOper := [(.mk (some 22) none (.bin .lss (.tmp 21) (.tmp 20)))]
def r7_take_Empty : List AOper := [(.mk (some 23) none (.idxA 1 (.tmp 19) (.tmp 21))), (.mk (some 24) none (.load false 1 (.tmp 23))), (.mk (some 8) none (.mv (.tmp 24)))]
def r8_take_Empty : List AOper := [(.mk (some 25) none (.load true 5 (.tmp 2))), (.mk (some 26) none (.mv (.tmp 8))), (.mk (some 27) none (.call 98 [(.tmp 25), (.tmp 26)]))]
def r9_take_Empty : List AOper := [(.mk (some 28) none (.mv (.tmp 6))), (.mk (some 29) none (.bin .add (.tmp 28) (.const (.int .i64 1)))), (.mk (some 6) none (.mv (.tmp 29)))]
def k9_take_Empty : ACode := (.cond (.tmp 27) (.reg r9_take_Empty) .skip)
def k8_take_Empty : ACode := (.seq (.reg r8_take_Empty) k9_take_Empty)
def r10_take_Empty : List AOper := [(.mk (some 30) none (.bin .add (.tmp 21) (.const (.int .i64 1)))), (.mk (some 21) none (.mv (.tmp 30)))]
def k10_take_Empty : ACode := (.reg r10_take_Empty)
def k7_take_Empty : ACode := (.seq (.block 1 (.seq (.reg r7_take_Empty) k8_take_Empty)) k10_take_Empty)
def k6_take_Empty : ACode := (.seq (.cond (.tmp 22) .skip (.exit 0)) k7_take_Empty)
def b0_take_Empty : ACode := (.seq (.reg r6_take_Empty) k6_take_Empty)
def k5_take_Empty : ACode := (.block 0 (.loop b0_take_Empty))
def r11_take_Empty : List AOper := [(.mk (some 9) none (.mv (.const (.bool true))))]
def r12_take_Empty : List AOper := [(.mk (some 31) none (.mv (.tmp 9)))]
def k13_take_Empty : ACode := (.cond (.tmp 31) .skip (.exit 2))
def r13_take_Empty : List AOper := [(.mk (some 9) none (.mv (.const (.bool false))))]
def r14_take_Empty : List AOper := [(.mk (some 32) none (.fldA 4 (.tmp 2))), (.mk (some 33) none (.load false 1 (.tmp 32))), (.mk (some 34) none (.lenS (.tmp 33))), (.mk (some 35) none (.mv (.const (.int .i64 0))))]
def r15_take_Empty : List AOper := [(.mk (some 36) none (.bin .lss (.tmp 35) (.tmp 34)))]
def r16_take_Empty : List AOper := [(.mk (some 37) none (.mv (.tmp 35))), (.mk (some 10) none (.mv (.tmp 37)))]
def r17_take_Empty : List AOper := [(.mk (some 39) none (.load true 5 (.tmp 2))), (.mk (some 40) none (.mv (.tmp 10))), (.mk (some 41) none (.call 99 [(.tmp 39), (.tmp 40)])), (.mk (some 38) none (.mv (.tmp 41))), (.mk (some 42) none (.ext (.tmp 38) 0)), (.mk (some 43) none (.ext (.tmp 38) 1)), (.mk (some 11) none (.mv (.tmp 42))), (.mk (some 12) none (.mv (.tmp 43)))]
def r18_take_Empty : List AOper := [(.mk (some 44) none (.mv (.tmp 6))), (.mk (some 45) none (.mv (.tmp 11))), (.mk (some 46) none (.bin .add (.tmp 44) (.tmp 45))), (.mk (some 6) none (.mv (.tmp 46)))]
def r19_take_Empty : List AOper := [(.mk (some 47) none (.mv (.tmp 12))), (.mk (some 48) none (.mv (.tmp 47))), (.mk (some 49) (some (48, false)) (.mv (.tmp 9))), (.mk (some 50) none (.pick (.tmp 48) (.const (.bool true)) (.tmp 49))), (.mk (some 9) none (.mv (.tmp 50)))]
def k21_take_Empty : ACode := (.reg r19_take_Empty)
def k20_take_Empty : ACode := (.seq (.reg r18_take_Empty) k21_take_Empty)
def k19_take_Empty : ACode := (.seq (.reg r17_take_Empty) k20_take_Empty)
def r20_take_Empty : List AOper := [(.mk (some 51) none (.bin .add (.tmp 35) (.const (.int .i64 1)))), (.mk (some 35) none (.mv (.tmp 51)))]
def k22_take_Empty : ACode := (.reg r20_take_Empty)
def k18_take_Empty : ACode := (.seq (.block 5 (.seq (.reg r16_take_Empty) k19_take_Empty)) k22_take_Empty)
def k17_take_Empty : ACode := (.seq (.cond (.tmp 36) .skip (.exit 4)) k18_take_Empty)
def b2_take_Empty : ACode := (.seq (.reg r15_take_Empty) k17_take_Empty)
def k16_take_Empty : ACode := (.block 4 (.loop b2_take_Empty))
def k15_take_Empty : ACode := (.seq (.reg r14_take_Empty) k16_take_Empty)
def k14_take_Empty : ACode := (.block 3 (.seq (.reg r13_take_Empty) k15_take_Empty))
def b1_take_Empty : ACode := (.seq (.seq (.reg r12_take_Empty) k13_take_Empty) k14_take_Empty)
def k12_take_Empty : ACode := (.block 2 (.loop b1_take_Empty))
def r21_take_Empty : List AOper := [(.mk (some 52) none (.load true 5 (.tmp 2))), (.mk (some 53) none (.mv (.tmp 6))), (.mk none none (.store 5 (.tmp 4) (.tmp 52))), (.mk (some 5) none (.mv (.tmp 53)))]
def k23_take_Empty : ACode := (.seq (.reg r21_take_Empty) .ret)
def k11_take_Empty : ACode := (.seq (.seq (.reg r11_take_Empty) k12_take_Empty) k23_take_Empty)
def k4_take_Empty : ACode := (.seq (.seq (.reg r5_take_Empty) k5_take_Empty) k11_take_Empty)
def k3_take_Empty : ACode := (.seq (.reg r4_take_Empty) k4_take_Empty)
def k1_take_Empty : ACode := (.seq (.seq (.reg r2_take_Empty) k2_take_Empty) k3_take_Empty)
def k0_take_Empty : ACode := (.seq (.reg r1_take_Empty) k1_take_Empty)
def c_take_Empty : ACode := (.seq (.reg r0_take_Empty) k0_take_Empty)
theorem e_take_Empty : ofProg Tryz.prog 39 = some ⟨54, [(.cell 4 true 5), (.tmp 5)], c_take_Empty⟩ := by kernel_rfl
theorem take_Empty_ok (d : Nat) (σ : AHeap) (S : StD) (b1 f1 b2 f2 : Nat) (l : List Int) (a : Option Addr) (f : Nat) (hg : goodB S = true) (hd : Liv σ.n σ) (hlo : σ.low ≤ σ.n)
    (h1 : SlAt slotL 5 σ b1 S.sl) (h2 : SlAt thingL 13 σ b2 S.th) (h3 : SlI σ a l) (hl : l.length < 1000) :
    ∃ v τ, acall (ofProg Tryz.prog) 1000 (d + S.th.length + 9) 39 [stV S (some ⟨b1, 0, none⟩) f1 (some ⟨b2, 0, none⟩) f2, .slice a l.length f] σ = some (.tuple [v, i64 (takeF S l).2].toArray, τ) ∧ StOut σ b1 b2 (takeF S l).1 v τ := by
  suffices hs : Hai.Ends (acode (acall (ofProg Tryz.prog) 1000 (d + S.th.length + 8)) 1000 c_take_Empty (Tr.of [stV S (some ⟨b1, 0, none⟩) f1 (some ⟨b2, 0, none⟩) f2, .slice a l.length f]) (σ.fresh.grow []))
      (finA σ.n [.cell 4 true 5, .tmp 5] fun v τ => ∃ u, v = .tuple [u, i64 (takeF S l).2].toArray ∧ StOut σ.fresh b1 b2 (takeF S l).1 u τ) by
    obtain ⟨v, τ', e, τ, ⟨u, rfl, a1', f1', a2', f2', rfl, g1, g2, g3, g4⟩, g⟩ := acall_addr e_take_Empty (by simp) hlo hs
    rcases g with ⟨g, _⟩ | rfl
    · cases g
    · exact ⟨_, _, e, _, _, _, _, rfl, g1, g2, g3.back, g4⟩
  obtain ⟨m1, m2, m3, m4⟩ := good_len hg
  have hk0 := Keeps.self σ.fresh [(stL S (some ⟨b1, 0, none⟩) f1 (some ⟨b2, 0, none⟩) f2, 5), ([.int .i64 0, .int .i64 0, .int .i64 0, .slice none 0 0, .slice none 0 0], 5)]
  obtain ⟨c1, c2, τ1, e1, k1, p1, p2, p3, r1, r2⟩ := state_Clone_ok (d + S.th.length + 6) _ S b1 f1 b2 f2 (low_grow fresh_le _) (SlAt.keeps (σ := σ.fresh) h1 hk0) (SlAt.keeps (σ := σ.fresh) h2 hk0) m1 m2 m3 m4
  rw [grow_n] at p1
  simp only [List.length_cons, List.length_nil, Nat.reduceAdd] at p1
  have hfn : σ.fresh.n = σ.n := rfl
  have hfl : σ.fresh.low = σ.n := rfl
  have q0 := k1.rows 0 rfl
  have q1 := k1.rows 1 rfl
  rw [Nat.add_zero] at q0
  have w1 : τ1.low = σ.fresh.n := by rw [k1.low, grow_low]; rfl
  simp (disch := omega) only [e1, st_gen, rowSt_row, putM_R, q0, w1, Nat.le_refl, r0_take_Empty, r1_take_Empty, r2_take_Empty, r3_take_Empty, k2_take_Empty, r4_take_Empty, r5_take_Empty, r6_take_Empty, r7_take_Empty, r8_take_Empty, r9_take_Empty, k9_take_Empty, k8_take_Empty, r10_take_Empty, k10_take_Empty, k7_take_Empty, k6_take_Empty, k5_take_Empty, r11_take_Empty, r12_take_Empty, k13_take_Empty, r13_take_Empty, r14_take_Empty, r15_take_Empty, r16_take_Empty, r17_take_Empty, r18_take_Empty, r19_take_Empty, k21_take_Empty, k20_take_Empty, k19_take_Empty, r20_take_Empty, k22_take_Empty, k18_take_Empty, k17_take_Empty, k16_take_Empty, k15_take_Empty, k14_take_Empty, k12_take_Empty, r21_take_Empty, k23_take_Empty, k11_take_Empty, k4_take_Empty, k3_take_Empty, k1_take_Empty, k0_take_Empty, c_take_Empty, Z0, Z1, Z2, Z3, Z4, Z5, Z6, Z7, Z8, Z9, Z10, resAll, Nat.reduceAdd, Nat.reduceEqDiff, Nat.reduceLeDiff, Nat.reduceMul, ↓reduceIte, reduceCtorEq, Nat.reduceBEq, aoper, Nat.reduceLT, Int.reduceEq, Int.reduceLT, Int.reduceLE]
  have kk := hk0.trans k1
  have kw := kk.putR (Nat.le_refl σ.fresh.n) (stL S (some ⟨c1, 0, none⟩) 1 (some ⟨c2, 0, none⟩) 1) 5
  have x0 : (τ1.putR σ.fresh.n (stL S (some ⟨c1, 0, none⟩) 1 (some ⟨c2, 0, none⟩) 1) 5).t.get σ.fresh.n = _ := putR_get
  have x1 := (putR_far (τ := τ1) (b := σ.fresh.n) (l := stL S (some ⟨c1, 0, none⟩) 1 (some ⟨c2, 0, none⟩) 1) (e := 5) (c := σ.fresh.n + 1) (by omega)).trans q1
  have y1 := (putR_far (τ := τ1) (b := σ.fresh.n) (l := stL S (some ⟨c1, 0, none⟩) 1 (some ⟨c2, 0, none⟩) 1) (e := 5) (c := c1) (by omega)).trans r1
  have y2 := (putR_far (τ := τ1) (b := σ.fresh.n) (l := stL S (some ⟨c1, 0, none⟩) 1 (some ⟨c2, 0, none⟩) 1) (e := 5) (c := c2) (by omega)).trans r2
  have n2 : c2 < (τ1.putR σ.fresh.n (stL S (some ⟨c1, 0, none⟩) 1 (some ⟨c2, 0, none⟩) 1) 5).n := by rw [putR_n]; exact p3
  have w2 : (τ1.putR σ.fresh.n (stL S (some ⟨c1, 0, none⟩) 1 (some ⟨c2, 0, none⟩) 1) 5).low = σ.n := by rw [putR_low]; exact w1
  generalize hτ2 : τ1.putR σ.fresh.n (stL S (some ⟨c1, 0, none⟩) 1 (some ⟨c2, 0, none⟩) 1) 5 = τ2 at *
  clear hτ2 q0 q1 w1 p3 r1 r2 e1 k1 kk
  have hd2 : Liv τ2.n τ2 := Liv.keeps (σ := σ.fresh) hd kw
  have hrow : RowsAt τ2 c1 c2 S := ⟨y1, y2⟩
  have hgood := fun M => state_Good_ok d (τ2.grow M) S (some ⟨c1, 0, none⟩) 1 (some ⟨c2, 0, none⟩) 1 (Liv.gr hd2 _) (.inr ⟨_, rfl, (hrow.s (by omega)).keeps (Keeps.self _ M)⟩) (.inr ⟨_, rfl, (hrow.t n2).keeps (Keeps.self _ M)⟩)
  have hb0 : ∀ M o n, (τ2.grow M).loadN σ.fresh.n o n = sliceL (stL S (some ⟨c1, 0, none⟩) 1 (some ⟨c2, 0, none⟩) 1) o n := fun M o n => load_sl ((grow_old _ _ (by omega)).trans x0) o n
  rw [← grow_nil τ2]
  simp (disch := omega) only [hb0, hgood, hg, r0_take_Empty, r1_take_Empty, r2_take_Empty, r3_take_Empty, k2_take_Empty, r4_take_Empty, r5_take_Empty, r6_take_Empty, r7_take_Empty, r8_take_Empty, r9_take_Empty, k9_take_Empty, k8_take_Empty, r10_take_Empty, k10_take_Empty, k7_take_Empty, k6_take_Empty, k5_take_Empty, r11_take_Empty, r12_take_Empty, k13_take_Empty, r13_take_Empty, r14_take_Empty, r15_take_Empty, r16_take_Empty, r17_take_Empty, r18_take_Empty, r19_take_Empty, k21_take_Empty, k20_take_Empty, k19_take_Empty, r20_take_Empty, k22_take_Empty, k18_take_Empty, k17_take_Empty, k16_take_Empty, k15_take_Empty, k14_take_Empty, k12_take_Empty, r21_take_Empty, k23_take_Empty, k11_take_Empty, k4_take_Empty, k3_take_Empty, k1_take_Empty, k0_take_Empty, c_take_Empty, Z0, Z1, Z2, Z3, Z4, Z5, Z6, Z7, Z8, Z9, Z10, resAll, Nat.reduceAdd, Nat.reduceEqDiff, Nat.reduceLeDiff, Nat.reduceMul, ↓reduceIte, reduceCtorEq, Nat.reduceBEq, aoper, Nat.reduceLT, Int.reduceEq, Int.reduceLT, Int.reduceLE]
  have hfacts : ∀ τ, Wr (two c1 c2) τ2 τ → σ.n + 2 ≤ τ.n ∧ c2 < τ.n ∧ τ.low ≤ τ.n ∧ τ.low = σ.n ∧ (∀ M o n, (τ.grow M).loadN σ.fresh.n o n = sliceL (stL S (some ⟨c1, 0, none⟩) 1 (some ⟨c2, 0, none⟩) 1) o n) ∧ τ.t.get (σ.fresh.n + 1) = some (rowOf ([.int .i64 0, .int .i64 0, .int .i64 0, .slice none 0 0, .slice none 0 0], 5)) ∧ Keeps σ.fresh τ := fun τ hw => by
    have hn := hw.n
    have hl1 := hw.low
    have hl2 := hw.bnd σ.n (by omega) (by omega) (by rintro b (rfl | rfl) <;> omega)
    refine ⟨by omega, by omega, by omega, by omega, fun M o n => ?_, ?_, ⟨by omega, by omega, hw.dead.trans kw.dead, fun b hb => ?_⟩⟩
    · rw [(hw.grow M).load o n (by omega) (by rintro (e | e) <;> omega)]; exact load_sl x0 o n
    · exact (hw.row _ (by omega) (by rintro (e | e) <;> omega)).trans x1
    · exact (hw.row _ (by omega) (by rintro (e | e) <;> omega)).trans (kw.row b hb)
  have hrow0 : RowsAt (τ2.grow []) c1 c2 S := hrow.keeps (Keeps.self _ _) (by omega) n2
  refine ends_loop (fun i t τ => tget t 19 = .slice a l.length f ∧ tget t 20 = i64 l.length ∧ tget t 21 = i64 i ∧ tget t 2 = here σ.fresh.n 0 ∧ tget t 4 = here (σ.fresh.n + 1) 0 ∧ tget t 6 = i64 (empL S (l.take i)).2 ∧ Wr (two c1 c2) τ2 τ ∧ RowsAt τ c1 c2 (empL S (l.take i)).1) l.length hl ⟨?_, ?_, ?_, ?_, ?_, ?_, (Keeps.self _ _).wr, hrow0⟩ ?_
  iterate 6 simp (disch := omega) only [Int.natCast_zero, Int.ofNat_zero, List.take_zero, empL, r0_take_Empty, r1_take_Empty, r2_take_Empty, r3_take_Empty, k2_take_Empty, r4_take_Empty, r5_take_Empty, r6_take_Empty, r7_take_Empty, r8_take_Empty, r9_take_Empty, k9_take_Empty, k8_take_Empty, r10_take_Empty, k10_take_Empty, k7_take_Empty, k6_take_Empty, k5_take_Empty, r11_take_Empty, r12_take_Empty, k13_take_Empty, r13_take_Empty, r14_take_Empty, r15_take_Empty, r16_take_Empty, r17_take_Empty, r18_take_Empty, r19_take_Empty, k21_take_Empty, k20_take_Empty, k19_take_Empty, r20_take_Empty, k22_take_Empty, k18_take_Empty, k17_take_Empty, k16_take_Empty, k15_take_Empty, k14_take_Empty, k12_take_Empty, r21_take_Empty, k23_take_Empty, k11_take_Empty, k4_take_Empty, k3_take_Empty, k1_take_Empty, k0_take_Empty, c_take_Empty, Z0, Z1, Z2, Z3, Z4, Z5, Z6, Z7, Z8, Z9, Z10, resAll, Nat.reduceAdd, Nat.reduceEqDiff, Nat.reduceLeDiff, Nat.reduceMul, ↓reduceIte, reduceCtorEq, Nat.reduceBEq, aoper, Nat.reduceLT, Int.reduceEq, Int.reduceLT, Int.reduceLE]
  rintro i t τ hi ⟨t19, t20, t21, t2, t4, t6, hw, hr⟩
  obtain ⟨w3, w4, w5, w6, hbox, w7, w8⟩ := hfacts τ hw
  rw [← grow_nil τ]
  have hS := empL_alike S (l.take i)
  have hm := empL_le S (l.take i)
  have hlt0 : (l.take i).length ≤ i := by rw [List.length_take]; omega
  by_cases hlt : i < l.length
  · obtain ⟨b, rfl, hb⟩ := h3.fresh.at hlt
    have hx : l[i]? = some l[i] := List.getElem?_eq_getElem hlt
    generalize l[i] = z at hx
    have hld : ∀ M, (τ.grow M).loadN b i 1 = some [i64 z] := fun M => by
      rw [w8.loadG M _ _ hb.1]
      have := hb.2 i z hx 0 1 (by omega)
      rw [Nat.mul_one, Nat.add_zero] at this
      exact this
    have hlt' : (i : Int) < (l.length : Int) := by omega
    have hcast : ((i + 1 : Nat) : Int) = (i : Int) + 1 := by omega
    have hsn : empL S (l.take (i + 1)) = ((emp1 (empL S (l.take i)).1 z).1, (empL S (l.take i)).2 + bInt (emp1 (empL S (l.take i)).1 z).2) := by rw [List.take_add_one, hx]; exact empL_snoc _ _ _
    obtain ⟨υ, e, u1, u2⟩ := take_empty_ok (d + S.th.length + 6) (τ.grow []) (empL S (l.take i)).1 c1 1 c2 1 z (low_grow w5 _) (by rw [grow_n]; omega) (by rw [grow_n]; omega) (by omega) (hr.keeps (Keeps.self _ _) (by omega) (by omega)) (by rw [hS.sl]; exact m2) (by rw [hS.th]; exact m4)
    rw [hS.stV] at e
    have hsn1 : (empL S (l.take (i + 1))).1 = (emp1 (empL S (l.take i)).1 z).1 := by rw [hsn]
    have hwk := (hw.grow []).trans u2
    cases ge : (emp1 (empL S (l.take i)).1 z).2 with
    | true =>
      have hsn2 : (empL S (l.take (i + 1))).2 = (empL S (l.take i)).2 + 1 := by rw [hsn, ge]; rfl
      simp (disch := omega) only [t19, t20, t21, t2, t4, t6, hlt', hlt, hcast, hbox, hld, Int.toNat_natCast, Nat.mul_one, e, ge, hsn2, r0_take_Empty, r1_take_Empty, r2_take_Empty, r3_take_Empty, k2_take_Empty, r4_take_Empty, r5_take_Empty, r6_take_Empty, r7_take_Empty, r8_take_Empty, r9_take_Empty, k9_take_Empty, k8_take_Empty, r10_take_Empty, k10_take_Empty, k7_take_Empty, k6_take_Empty, k5_take_Empty, r11_take_Empty, r12_take_Empty, k13_take_Empty, r13_take_Empty, r14_take_Empty, r15_take_Empty, r16_take_Empty, r17_take_Empty, r18_take_Empty, r19_take_Empty, k21_take_Empty, k20_take_Empty, k19_take_Empty, r20_take_Empty, k22_take_Empty, k18_take_Empty, k17_take_Empty, k16_take_Empty, k15_take_Empty, k14_take_Empty, k12_take_Empty, r21_take_Empty, k23_take_Empty, k11_take_Empty, k4_take_Empty, k3_take_Empty, k1_take_Empty, k0_take_Empty, b0_take_Empty, Z0, Z1, Z2, Z3, Z4, Z5, Z6, Z7, Z8, Z9, Z10, resAll, Nat.reduceAdd, Nat.reduceEqDiff, Nat.reduceLeDiff, Nat.reduceMul, ↓reduceIte, reduceCtorEq, Nat.reduceBEq, aoper, Nat.reduceLT, Int.reduceEq, Int.reduceLT, Int.reduceLE]
      rw [hsn1]
      exact ⟨hwk, u1⟩
    | false =>
      have hsn2 : (empL S (l.take (i + 1))).2 = (empL S (l.take i)).2 := by rw [hsn, ge]; simp [bInt]
      simp (disch := omega) only [t19, t20, t21, t2, t4, t6, hlt', hlt, hcast, hbox, hld, Int.toNat_natCast, Nat.mul_one, e, ge, hsn2, r0_take_Empty, r1_take_Empty, r2_take_Empty, r3_take_Empty, k2_take_Empty, r4_take_Empty, r5_take_Empty, r6_take_Empty, r7_take_Empty, r8_take_Empty, r9_take_Empty, k9_take_Empty, k8_take_Empty, r10_take_Empty, k10_take_Empty, k7_take_Empty, k6_take_Empty, k5_take_Empty, r11_take_Empty, r12_take_Empty, k13_take_Empty, r13_take_Empty, r14_take_Empty, r15_take_Empty, r16_take_Empty, r17_take_Empty, r18_take_Empty, r19_take_Empty, k21_take_Empty, k20_take_Empty, k19_take_Empty, r20_take_Empty, k22_take_Empty, k18_take_Empty, k17_take_Empty, k16_take_Empty, k15_take_Empty, k14_take_Empty, k12_take_Empty, r21_take_Empty, k23_take_Empty, k11_take_Empty, k4_take_Empty, k3_take_Empty, k1_take_Empty, k0_take_Empty, b0_take_Empty, Z0, Z1, Z2, Z3, Z4, Z5, Z6, Z7, Z8, Z9, Z10, resAll, Nat.reduceAdd, Nat.reduceEqDiff, Nat.reduceLeDiff, Nat.reduceMul, ↓reduceIte, reduceCtorEq, Nat.reduceBEq, aoper, Nat.reduceLT, Int.reduceEq, Int.reduceLT, Int.reduceLE]
      rw [hsn1]
      exact ⟨hwk, u1⟩
  · have hlt' : ¬ (i : Int) < (l.length : Int) := by omega
    rw [List.take_of_length_le (by omega)] at t6 hr hS hm
    clear hlt0
    simp (disch := omega) only [t19, t20, t21, hlt', r0_take_Empty, r1_take_Empty, r2_take_Empty, r3_take_Empty, k2_take_Empty, r4_take_Empty, r5_take_Empty, r6_take_Empty, r7_take_Empty, r8_take_Empty, r9_take_Empty, k9_take_Empty, k8_take_Empty, r10_take_Empty, k10_take_Empty, k7_take_Empty, k6_take_Empty, k5_take_Empty, r11_take_Empty, r12_take_Empty, k13_take_Empty, r13_take_Empty, r14_take_Empty, r15_take_Empty, r16_take_Empty, r17_take_Empty, r18_take_Empty, r19_take_Empty, k21_take_Empty, k20_take_Empty, k19_take_Empty, r20_take_Empty, k22_take_Empty, k18_take_Empty, k17_take_Empty, k16_take_Empty, k15_take_Empty, k14_take_Empty, k12_take_Empty, r21_take_Empty, k23_take_Empty, k11_take_Empty, k4_take_Empty, k3_take_Empty, k1_take_Empty, k0_take_Empty, b0_take_Empty, Z0, Z1, Z2, Z3, Z4, Z5, Z6, Z7, Z8, Z9, Z10, resAll, Nat.reduceAdd, Nat.reduceEqDiff, Nat.reduceLeDiff, Nat.reduceMul, ↓reduceIte, reduceCtorEq, Nat.reduceBEq, aoper, Nat.reduceLT, Int.reduceEq, Int.reduceLT, Int.reduceLE]
    have hT1 : (takeF S l).1 = (sweeps (live (empL S l).1 + 1) (empL S l).1).1 := by unfold takeF; rw [if_pos hg]
    have hT2 : (takeF S l).2 = (empL S l).2 + (sweeps (live (empL S l).1 + 1) (empL S l).1).2 := by unfold takeF; rw [if_pos hg]
    have hbits : bitsAll (empL S l).1 := empL_inv bits_inv.1 l S (bits_of (by unfold goodB at hg; simp only [Bool.and_eq_true] at hg; exact hg.1.1.1.1.2))
    have hne := empL_ne S l
    have hgeo := (goodF hg).geo
    have hgth := (goodF hg).th
    have hth : (0 ≤ S.threads ∧ S.threads ≤ 4) ∧ S.th.length ≤ 48 := by
      unfold goodGeo at hgeo
      omega
    obtain ⟨hth, h48⟩ := hth
    have hlive : live (empL S l).1 ≤ S.th.length := by rw [live_eq, ← hS.th]; exact List.countP_le_length
    have hneS := ne_le S
    generalize (empL S l).1 = S0 at *
    generalize (empL S l).2 = m0 at *
    have hr0 : RowsAt (τ.grow []) c1 c2 S0 := hr.keeps (Keeps.self _ _) (by omega) (by omega)
    refine ends_loop (fun j t τ => tget t 2 = here σ.fresh.n 0 ∧ tget t 4 = here (σ.fresh.n + 1) 0 ∧ Wr (two c1 c2) τ2 τ ∧ ∃ T m g, tget t 6 = i64 m ∧ tget t 9 = .bool g ∧ RowsAt τ c1 c2 T ∧ Shp S T ∧ bitsAll T ∧ 0 ≤ m ∧ m + ne T = ne S ∧
      ((g = true ∧ ∃ f, live T < f ∧ f + j ≤ live S0 + 1 ∧ (takeF S l).1 = (sweeps f T).1 ∧ (takeF S l).2 = m + (sweeps f T).2) ∨ (g = false ∧ (takeF S l).1 = T ∧ (takeF S l).2 = m))) (live S0 + 1) (by omega)
      ⟨?_, ?_, hw.grow _, S0, m0, true, ?_, ?_, hr0, hS, hbits, hm.1, hne, .inl ⟨rfl, live S0 + 1, by omega, by omega, hT1, hT2⟩⟩ ?_
    iterate 4 simp (disch := omega) only [t2, t4, t6, r0_take_Empty, r1_take_Empty, r2_take_Empty, r3_take_Empty, k2_take_Empty, r4_take_Empty, r5_take_Empty, r6_take_Empty, r7_take_Empty, r8_take_Empty, r9_take_Empty, k9_take_Empty, k8_take_Empty, r10_take_Empty, k10_take_Empty, k7_take_Empty, k6_take_Empty, k5_take_Empty, r11_take_Empty, r12_take_Empty, k13_take_Empty, r13_take_Empty, r14_take_Empty, r15_take_Empty, r16_take_Empty, r17_take_Empty, r18_take_Empty, r19_take_Empty, k21_take_Empty, k20_take_Empty, k19_take_Empty, r20_take_Empty, k22_take_Empty, k18_take_Empty, k17_take_Empty, k16_take_Empty, k15_take_Empty, k14_take_Empty, k12_take_Empty, r21_take_Empty, k23_take_Empty, k11_take_Empty, k4_take_Empty, k3_take_Empty, k1_take_Empty, k0_take_Empty, Z0, Z1, Z2, Z3, Z4, Z5, Z6, Z7, Z8, Z9, Z10, resAll, Nat.reduceAdd, Nat.reduceEqDiff, Nat.reduceLeDiff, Nat.reduceMul, ↓reduceIte, reduceCtorEq, Nat.reduceBEq, aoper, Nat.reduceLT, Int.reduceEq, Int.reduceLT, Int.reduceLE]
    clear hT1 hT2 hbits hne hr0 hr w3 w4 w5 w6 w7 w8 hbox hw t19 t20 t21 t2 t4 t6 hm hS hlt hlt' hi i t τ
    rintro j t τ hj ⟨t2, t4, hw, T, m, g, t6, t9, hr, hS, hbits, hm0, hme, hfin⟩
    obtain ⟨w3, w4, w5, w6, hbox, w7, w8⟩ := hfacts τ hw
    rw [← grow_nil τ]
    rcases hfin with ⟨rfl, fu, z1, z2, z3, z4⟩ | ⟨rfl, z3, z4⟩
    · simp (disch := omega) only [t2, t4, t6, t9, hbox, r0_take_Empty, r1_take_Empty, r2_take_Empty, r3_take_Empty, k2_take_Empty, r4_take_Empty, r5_take_Empty, r6_take_Empty, r7_take_Empty, r8_take_Empty, r9_take_Empty, k9_take_Empty, k8_take_Empty, r10_take_Empty, k10_take_Empty, k7_take_Empty, k6_take_Empty, k5_take_Empty, r11_take_Empty, r12_take_Empty, k13_take_Empty, r13_take_Empty, r14_take_Empty, r15_take_Empty, r16_take_Empty, r17_take_Empty, r18_take_Empty, r19_take_Empty, k21_take_Empty, k20_take_Empty, k19_take_Empty, r20_take_Empty, k22_take_Empty, k18_take_Empty, k17_take_Empty, k16_take_Empty, k15_take_Empty, k14_take_Empty, k12_take_Empty, r21_take_Empty, k23_take_Empty, k11_take_Empty, k4_take_Empty, k3_take_Empty, k1_take_Empty, k0_take_Empty, b1_take_Empty, Z0, Z1, Z2, Z3, Z4, Z5, Z6, Z7, Z8, Z9, Z10, resAll, Nat.reduceAdd, Nat.reduceEqDiff, Nat.reduceLeDiff, Nat.reduceMul, ↓reduceIte, reduceCtorEq, Nat.reduceBEq, aoper, Nat.reduceLT, Int.reduceEq, Int.reduceLT, Int.reduceLE]
      obtain ⟨fu, rfl⟩ : ∃ f', fu = f' + 1 := ⟨fu - 1, by omega⟩
      have hneT := ne_le T
      refine ends_loop (fun k t τ => tget t 34 = i64 S.th.length ∧ tget t 35 = i64 k ∧ tget t 2 = here σ.fresh.n 0 ∧ tget t 4 = here (σ.fresh.n + 1) 0 ∧ tget t 6 = i64 (m + (sweep T k).2.1) ∧ tget t 9 = .bool (sweep T k).2.2 ∧ Wr (two c1 c2) τ2 τ ∧ RowsAt τ c1 c2 (sweep T k).1) S.th.length m4
        ⟨?_, ?_, ?_, ?_, ?_, ?_, hw.grow _, hr.keeps (Keeps.self _ _) (by omega) (by omega)⟩ ?_
      iterate 6 simp (disch := omega) only [t2, t4, t6, sweep, Int.natCast_zero, Int.ofNat_zero, Int.add_zero, r0_take_Empty, r1_take_Empty, r2_take_Empty, r3_take_Empty, k2_take_Empty, r4_take_Empty, r5_take_Empty, r6_take_Empty, r7_take_Empty, r8_take_Empty, r9_take_Empty, k9_take_Empty, k8_take_Empty, r10_take_Empty, k10_take_Empty, k7_take_Empty, k6_take_Empty, k5_take_Empty, r11_take_Empty, r12_take_Empty, k13_take_Empty, r13_take_Empty, r14_take_Empty, r15_take_Empty, r16_take_Empty, r17_take_Empty, r18_take_Empty, r19_take_Empty, k21_take_Empty, k20_take_Empty, k19_take_Empty, r20_take_Empty, k22_take_Empty, k18_take_Empty, k17_take_Empty, k16_take_Empty, k15_take_Empty, k14_take_Empty, k12_take_Empty, r21_take_Empty, k23_take_Empty, k11_take_Empty, k4_take_Empty, k3_take_Empty, k1_take_Empty, k0_take_Empty, Z0, Z1, Z2, Z3, Z4, Z5, Z6, Z7, Z8, Z9, Z10, resAll, Nat.reduceAdd, Nat.reduceEqDiff, Nat.reduceLeDiff, Nat.reduceMul, ↓reduceIte, reduceCtorEq, Nat.reduceBEq, aoper, Nat.reduceLT, Int.reduceEq, Int.reduceLT, Int.reduceLE]
      clear w3 w4 w5 w6 w7 w8 hbox hw t2 t4 t6 t9 hr t τ
      rintro k t τ hk ⟨t34, t35, t2, t4, t6, t9, hw, hr⟩
      obtain ⟨w3, w4, w5, w6, hbox, w7, w8⟩ := hfacts τ hw
      rw [← grow_nil τ]
      have hSk := hS.trans (sweep_alike T k)
      have hpk := sweep_pos T k
      have hnk := sweep_ne T k
      have hnk2 := ne_le (sweep T k).1
      by_cases hlt : k < S.th.length
      · have hlt' : (k : Int) < (S.th.length : Int) := by omega
        have hcast : ((k + 1 : Nat) : Int) = (k : Int) + 1 := by omega
        have hx : (sweep T k).1.th[k]? = some ((sweep T k).1.th[k]'(by rw [hSk.th]; exact hlt)) := List.getElem?_eq_getElem _
        generalize (sweep T k).1.th[k]'(by rw [hSk.th]; exact hlt) = x at hx
        have hbk := sweep_inv bits_inv.1 bits_inv.2 T hbits k k x hx
        obtain ⟨υ, e, u1, u2⟩ := take_lost_ok (d + S.th.length + 2) (τ.grow []) (sweep T k).1 c1 1 c2 1 k x (low_grow w5 _) (by rw [grow_n]; omega) (by rw [grow_n]; omega) (by omega) (hr.keeps (Keeps.self _ _) (by omega) (by omega)) (by rw [hSk.sl]; exact m2) (by rw [hSk.th]; exact m4) (by rw [hSk.threads]; exact hth) hx hbk
        rw [hSk.stV] at e
        have hwk := (hw.grow []).trans u2
        have hs1 : (sweep T (k + 1)).1 = (lostF (sweep T k).1 k).1 := rfl
        have hs2 : (sweep T (k + 1)).2.1 = (sweep T k).2.1 + (lostF (sweep T k).1 k).2.1 := rfl
        have hs3 : (sweep T (k + 1)).2.2 = ((lostF (sweep T k).1 k).2.2 || (sweep T k).2.2) := rfl
        have hpk1 := sweep_pos T (k + 1)
        have hnk1 := sweep_ne T (k + 1)
        have hnk3 := ne_le (sweep T (k + 1)).1
        have hll := lostF_pos (sweep T k).1 k
        cases gl : (lostF (sweep T k).1 k).2.2 with
        | true =>
          rw [gl, Bool.true_or] at hs3
          simp (disch := omega) only [t34, t35, t2, t4, t6, t9, hlt', hlt, hcast, hbox, e, gl, hs2, hs3, Int.add_assoc, r0_take_Empty, r1_take_Empty, r2_take_Empty, r3_take_Empty, k2_take_Empty, r4_take_Empty, r5_take_Empty, r6_take_Empty, r7_take_Empty, r8_take_Empty, r9_take_Empty, k9_take_Empty, k8_take_Empty, r10_take_Empty, k10_take_Empty, k7_take_Empty, k6_take_Empty, k5_take_Empty, r11_take_Empty, r12_take_Empty, k13_take_Empty, r13_take_Empty, r14_take_Empty, r15_take_Empty, r16_take_Empty, r17_take_Empty, r18_take_Empty, r19_take_Empty, k21_take_Empty, k20_take_Empty, k19_take_Empty, r20_take_Empty, k22_take_Empty, k18_take_Empty, k17_take_Empty, k16_take_Empty, k15_take_Empty, k14_take_Empty, k12_take_Empty, r21_take_Empty, k23_take_Empty, k11_take_Empty, k4_take_Empty, k3_take_Empty, k1_take_Empty, k0_take_Empty, b2_take_Empty, Z0, Z1, Z2, Z3, Z4, Z5, Z6, Z7, Z8, Z9, Z10, resAll, Nat.reduceAdd, Nat.reduceEqDiff, Nat.reduceLeDiff, Nat.reduceMul, ↓reduceIte, reduceCtorEq, Nat.reduceBEq, aoper, Nat.reduceLT, Int.reduceEq, Int.reduceLT, Int.reduceLE]
          rw [hs1]
          exact ⟨hwk, u1⟩
        | false =>
          rw [gl, Bool.false_or] at hs3
          simp (disch := omega) only [t34, t35, t2, t4, t6, t9, hlt', hlt, hcast, hbox, e, gl, hs2, hs3, Int.add_assoc, r0_take_Empty, r1_take_Empty, r2_take_Empty, r3_take_Empty, k2_take_Empty, r4_take_Empty, r5_take_Empty, r6_take_Empty, r7_take_Empty, r8_take_Empty, r9_take_Empty, k9_take_Empty, k8_take_Empty, r10_take_Empty, k10_take_Empty, k7_take_Empty, k6_take_Empty, k5_take_Empty, r11_take_Empty, r12_take_Empty, k13_take_Empty, r13_take_Empty, r14_take_Empty, r15_take_Empty, r16_take_Empty, r17_take_Empty, r18_take_Empty, r19_take_Empty, k21_take_Empty, k20_take_Empty, k19_take_Empty, r20_take_Empty, k22_take_Empty, k18_take_Empty, k17_take_Empty, k16_take_Empty, k15_take_Empty, k14_take_Empty, k12_take_Empty, r21_take_Empty, k23_take_Empty, k11_take_Empty, k4_take_Empty, k3_take_Empty, k1_take_Empty, k0_take_Empty, b2_take_Empty, Z0, Z1, Z2, Z3, Z4, Z5, Z6, Z7, Z8, Z9, Z10, resAll, Nat.reduceAdd, Nat.reduceEqDiff, Nat.reduceLeDiff, Nat.reduceMul, ↓reduceIte, reduceCtorEq, Nat.reduceBEq, aoper, Nat.reduceLT, Int.reduceEq, Int.reduceLT, Int.reduceLE]
          rw [hs1]
          exact ⟨hwk, u1⟩
      · have hlt' : ¬ (k : Int) < (S.th.length : Int) := by omega
        have hke : k = T.th.length := by rw [hS.th]; omega
        subst hke
        have hll := sweep_live T T.th.length
        have hbk := sweep_inv bits_inv.1 bits_inv.2 T hbits T.th.length
        rw [sweeps_step] at z3 z4
        have hjn : j < live S0 + 1 := by omega
        simp (disch := omega) only [t34, t35, t2, t4, t6, t9, hlt', hjn, r0_take_Empty, r1_take_Empty, r2_take_Empty, r3_take_Empty, k2_take_Empty, r4_take_Empty, r5_take_Empty, r6_take_Empty, r7_take_Empty, r8_take_Empty, r9_take_Empty, k9_take_Empty, k8_take_Empty, r10_take_Empty, k10_take_Empty, k7_take_Empty, k6_take_Empty, k5_take_Empty, r11_take_Empty, r12_take_Empty, k13_take_Empty, r13_take_Empty, r14_take_Empty, r15_take_Empty, r16_take_Empty, r17_take_Empty, r18_take_Empty, r19_take_Empty, k21_take_Empty, k20_take_Empty, k19_take_Empty, r20_take_Empty, k22_take_Empty, k18_take_Empty, k17_take_Empty, k16_take_Empty, k15_take_Empty, k14_take_Empty, k12_take_Empty, r21_take_Empty, k23_take_Empty, k11_take_Empty, k4_take_Empty, k3_take_Empty, k1_take_Empty, k0_take_Empty, b2_take_Empty, Z0, Z1, Z2, Z3, Z4, Z5, Z6, Z7, Z8, Z9, Z10, resAll, Nat.reduceAdd, Nat.reduceEqDiff, Nat.reduceLeDiff, Nat.reduceMul, ↓reduceIte, reduceCtorEq, Nat.reduceBEq, aoper, Nat.reduceLT, Int.reduceEq, Int.reduceLT, Int.reduceLE]
        refine ⟨hw.grow _, _, _, _, rfl, rfl, hr.keeps (Keeps.self _ _) (by omega) (by omega), hSk, hbk, by omega, by omega, ?_⟩
        cases gs : (sweep T T.th.length).2.2 with
        | true =>
          rw [gs, if_pos rfl] at z3 z4
          have := hll.2 gs
          exact .inl ⟨rfl, fu, by omega, by omega, z3, by rw [z4]; simp only; omega⟩
        | false =>
          rw [gs, if_neg (by simp)] at z3 z4
          exact .inr ⟨rfl, z3, z4⟩
    · have r7 : ∀ M, (τ.grow M).t.get (σ.fresh.n + 1) = some (rowOf ([.int .i64 0, .int .i64 0, .int .i64 0, .slice none 0 0, .slice none 0 0], 5)) := fun M => (grow_old _ _ (by omega)).trans w7
      have hle : σ.n ≤ σ.fresh.n + 1 := by omega
      simp (disch := omega) only [t2, t4, t6, t9, hbox, st_gen, rowSt_row, putM_R, r7, w6, hle, putR_load, putR_low, z3, z4, r0_take_Empty, r1_take_Empty, r2_take_Empty, r3_take_Empty, k2_take_Empty, r4_take_Empty, r5_take_Empty, r6_take_Empty, r7_take_Empty, r8_take_Empty, r9_take_Empty, k9_take_Empty, k8_take_Empty, r10_take_Empty, k10_take_Empty, k7_take_Empty, k6_take_Empty, k5_take_Empty, r11_take_Empty, r12_take_Empty, k13_take_Empty, r13_take_Empty, r14_take_Empty, r15_take_Empty, r16_take_Empty, r17_take_Empty, r18_take_Empty, r19_take_Empty, k21_take_Empty, k20_take_Empty, k19_take_Empty, r20_take_Empty, k22_take_Empty, k18_take_Empty, k17_take_Empty, k16_take_Empty, k15_take_Empty, k14_take_Empty, k12_take_Empty, r21_take_Empty, k23_take_Empty, k11_take_Empty, k4_take_Empty, k3_take_Empty, k1_take_Empty, k0_take_Empty, b1_take_Empty, Z0, Z1, Z2, Z3, Z4, Z5, Z6, Z7, Z8, Z9, Z10, resAll, Nat.reduceAdd, Nat.reduceEqDiff, Nat.reduceLeDiff, Nat.reduceMul, ↓reduceIte, reduceCtorEq, Nat.reduceBEq, aoper, Nat.reduceLT, Int.reduceEq, Int.reduceLT, Int.reduceLE]
      have hb1 : b1 < σ.n := h1.1
      have hb2 : b2 < σ.n := h2.1
      refine ⟨_, rfl, c1, 1, c2, 1, (hS.stV _ _ _ _).symm, ?_, ?_, ((w8.grow _).putR (by omega) _ _), .inr (by omega), .inr (by omega)⟩
      · exact ((hr.s (by omega)).keeps (Keeps.self _ _)).putR (by omega)
      · exact ((hr.t w4).keeps (Keeps.self _ _)).putR (by omega)
end Go.Proofs.YtidmcpkbcphpiaaGreat
namespace Go.Proofs.YtidmcpkbcphpiaaGreat
open Go Go.Hai
def ofTo (up : List Int) (i : Int) : Nat → List Int
  | 0 => []
  | k + 1 => ofTo up i k ++ (match up[k]? with | some u => if u = i then [(k : Int)] else [] | none => [])
def ofF (up : List Int) (i : Int) : List Int := ofTo up i up.length
def behF (up : List Int) : Nat → List Int → List Int
  | 0, _ => []
  | f + 1, l => l.flatMap fun i => i :: behF up f (ofF up i)
def htOk (up : List Int) : Nat → List Int → Prop
  | 0, l => l = []
  | f + 1, l => ∀ i ∈ l, htOk up f (ofF up i)
theorem ofTo_mem {up : List Int} {i j : Int} : ∀ {k : Nat}, j ∈ ofTo up i k ↔ ∃ n : Nat, n < k ∧ j = n ∧ up[n]? = some i := by
  intro k
  induction k with
  | zero => simp [ofTo]
  | succ k ih =>
    simp only [ofTo, List.mem_append, ih]
    constructor
    · rintro (⟨n, h1, h2, h3⟩ | h)
      · exact ⟨n, by omega, h2, h3⟩
      · cases hu : up[k]? with
        | none => rw [hu] at h; simp at h
        | some u =>
          rw [hu] at h
          simp only at h
          split at h
          · next e => simp at h; exact ⟨k, by omega, h, by rw [hu, e]⟩
          · simp at h
    · rintro ⟨n, h1, h2, h3⟩
      by_cases e : n = k
      · subst e; right; rw [h3]; simp [h2]
      · left; exact ⟨n, by omega, h2, h3⟩
theorem ofF_mem {up : List Int} {i j : Int} : j ∈ ofF up i ↔ atI up j = some i ∧ 0 ≤ j := by
  unfold ofF
  rw [ofTo_mem]
  constructor
  · rintro ⟨n, h1, rfl, h3⟩
    exact ⟨by unfold atI; rw [if_pos (by omega), Int.toNat_natCast]; exact h3, by omega⟩
  · rintro ⟨h1, h2⟩
    obtain ⟨h3, _⟩ := atI_to h1
    exact ⟨j.toNat, (List.getElem?_eq_some_iff.1 h3).1, by omega, h3⟩
theorem ofTo_nodup (up : List Int) (i : Int) : ∀ k, (ofTo up i k).Nodup := by
  intro k
  induction k with
  | zero => simp [ofTo]
  | succ k ih =>
    simp only [ofTo]
    refine List.nodup_append.2 ⟨ih, ?_, ?_⟩
    · cases up[k]? with
      | none => simp
      | some u => simp only; split <;> simp
    · intro a ha b hb
      obtain ⟨n, h1, rfl, _⟩ := ofTo_mem.1 ha
      cases hu : up[k]? with
      | none => rw [hu] at hb; simp at hb
      | some u =>
        rw [hu] at hb
        simp only at hb
        split at hb
        · simp at hb; omega
        · simp at hb
theorem ofF_nodup (up : List Int) (i : Int) : (ofF up i).Nodup := ofTo_nodup _ _ _
def inR (up : List Int) (l : List Int) : Prop := ∀ x ∈ l, 0 ≤ x ∧ x < up.length
theorem ofF_inR (up : List Int) (i : Int) : inR up (ofF up i) := fun x hx => by
  obtain ⟨h1, h2⟩ := ofF_mem.1 hx
  have := (List.getElem?_eq_some_iff.1 (atI_to h1).1).1
  omega
theorem inR_le {up l : List Int} (h1 : l.Nodup) (h2 : inR up l) : l.length ≤ up.length := few up.length l h1 h2
theorem behF_app (up : List Int) (f : Nat) (l k : List Int) : behF up f (l ++ k) = behF up f l ++ behF up f k := by
  cases f with
  | zero => rfl
  | succ f => simp [behF]
theorem behF_count (up : List Int) (f : Nat) : ∀ l : List Int, (behF up (f + 1) l).length = l.length + (behF up f (l.flatMap (ofF up))).length := by
  intro l
  induction l with
  | nil => cases f <;> rfl
  | cons i l ih =>
    have e : behF up (f + 1) (i :: l) = (i :: behF up f (ofF up i)) ++ behF up (f + 1) l := by simp [behF]
    rw [e, List.length_append, ih, List.flatMap_cons, behF_app]
    simp; omega
theorem kids_nodup {up : List Int} : ∀ {l : List Int}, l.Nodup → (l.flatMap (ofF up)).Nodup ∧ inR up (l.flatMap (ofF up)) := by
  intro l
  induction l with
  | nil => intro _; exact ⟨by simp, fun x hx => by simp at hx⟩
  | cons i l ih =>
    intro h
    obtain ⟨h1, h2⟩ := List.nodup_cons.1 h
    obtain ⟨i1, i2⟩ := ih h2
    rw [List.flatMap_cons]
    refine ⟨List.nodup_append.2 ⟨ofF_nodup _ _, i1, ?_⟩, fun x hx => ?_⟩
    · rintro a ha b hb rfl
      obtain ⟨k, hk, hb⟩ := List.mem_flatMap.1 hb
      have e1 := (ofF_mem.1 ha).1
      have e2 := (ofF_mem.1 hb).1
      rw [e1] at e2
      cases e2
      exact h1 hk
    · rcases List.mem_append.1 hx with hx | hx
      · exact ofF_inR _ _ x hx
      · exact i2 x hx
theorem behF_len {up : List Int} : ∀ (f : Nat) {l : List Int}, l.Nodup → inR up l → (behF up f l).length ≤ f * up.length := by
  intro f
  induction f with
  | zero => intro l _ _; simp [behF]
  | succ f ih =>
    intro l h1 h2
    obtain ⟨k1, k2⟩ := kids_nodup (up := up) h1
    have := ih k1 k2
    have := inR_le h1 h2
    rw [behF_count, Nat.succ_mul]
    omega
def Gen (up : List Int) (n : Int) : Nat → Int → Prop
  | 0, i => i = n ∧ ∃ u, atI up n = some u ∧ u ≠ -2
  | g + 1, i => ∃ p, atI up i = some p ∧ 0 ≤ p ∧ Gen up n g p
theorem gen_le {up : List Int} {n : Int} : ∀ {g : Nat} {i : Int} {k s : Nat}, Gen up n g i → cF up k i s = true → g < k → s + g ≤ up.length := by
  intro g
  induction g with
  | zero =>
    intro i k s h hc hk
    obtain ⟨rfl, u, hu, hne⟩ := h
    obtain ⟨k, rfl⟩ : ∃ k', k = k' + 1 := ⟨k - 1, by omega⟩
    unfold cF at hc
    rw [hu] at hc
    simp only [if_neg hne] at hc
    split at hc
    · cases hc
    · omega
  | succ g ih =>
    intro i k s h hc hk
    obtain ⟨p, hp, hp0, hg⟩ := h
    obtain ⟨k, rfl⟩ : ∃ k', k = k' + 1 := ⟨k - 1, by omega⟩
    unfold cF at hc
    rw [hp] at hc
    simp only [if_neg (show ¬ p = -2 by omega)] at hc
    split at hc
    · cases hc
    · have := ih hg hc (by omega)
      omega
theorem gen_bound {up : List Int} (hf : forestB up = true) {n : Int} {g : Nat} {i : Int} (h : Gen up n g i) (hg : g ≤ up.length + 1) : g ≤ up.length := by
  have hi : ∃ u, atI up i = some u := by
    cases g with
    | zero => obtain ⟨rfl, u, hu, _⟩ := h; exact ⟨u, hu⟩
    | succ g => obtain ⟨p, hp, _⟩ := h; exact ⟨p, hp⟩
  obtain ⟨u, hu⟩ := hi
  obtain ⟨h1, h2⟩ := atI_to hu
  unfold forestB at hf
  simp only [Bool.and_eq_true] at hf
  have hc := allTo_true h1 _ (List.getElem?_eq_some_iff.1 h1).1 hf.2
  unfold chainB at hc
  rw [show ((i.toNat : Nat) : Int) = i by omega] at hc
  have := gen_le h hc (by omega)
  omega
theorem ht_of {up : List Int} (hf : forestB up = true) {n : Int} (hn : 0 ≤ n) : ∀ (f g : Nat) (i : Int), Gen up n g i → 0 ≤ i → g ≤ up.length → up.length + 1 ≤ f + g → htOk up f (ofF up i) := by
  intro f
  induction f with
  | zero => intro g i h _ hg hfg; omega
  | succ f ih =>
    intro g i h hi hg hfg j hj
    obtain ⟨h1, h2⟩ := ofF_mem.1 hj
    have hG : Gen up n (g + 1) j := ⟨i, h1, hi, h⟩
    have hgb := gen_bound hf hG (by omega)
    exact ih (g + 1) j hG h2 hgb (by omega)
theorem ht_root {up : List Int} (hf : forestB up = true) {n : Int} (hn : 0 ≤ n) {u : Int} (hu : atI up n = some u) (hne : u ≠ -2) : htOk up (up.length + 1) (ofF up n) :=
  ht_of hf hn _ 0 n ⟨rfl, u, hu, hne⟩ hn (Nat.zero_le _) (by omega)
theorem behF_closed {up : List Int} : ∀ {f : Nat} {l : List Int}, htOk up f l → ∀ x ∈ behF up f l, ∀ j ∈ ofF up x, j ∈ behF up f l := by
  intro f
  induction f with
  | zero => intro l _ x hx; simp [behF] at hx
  | succ f ih =>
    intro l h x hx j hj
    simp only [behF, List.mem_flatMap] at hx ⊢
    obtain ⟨i, hi, hx⟩ := hx
    refine ⟨i, hi, List.mem_cons_of_mem _ ?_⟩
    rcases List.mem_cons.1 hx with rfl | hx
    · have hh := h x hi
      cases f with
      | zero => rw [show ofF up x = [] from hh] at hj; simp at hj
      | succ f => simp only [behF, List.mem_flatMap]; exact ⟨j, hj, List.mem_cons_self⟩
    · exact ih (h i hi) x hx j hj
theorem behF_self {up : List Int} {f : Nat} {l : List Int} (h : htOk up f l) : ∀ x ∈ l, x ∈ behF up f l := by
  intro x hx
  cases f with
  | zero => rw [show l = [] from h] at hx; simp at hx
  | succ f => simp only [behF, List.mem_flatMap]; exact ⟨x, hx, List.mem_cons_self⟩
theorem behF_inR {up : List Int} : ∀ {f : Nat} {l : List Int}, inR up l → inR up (behF up f l) := by
  intro f
  induction f with
  | zero => intro l _ x hx; simp [behF] at hx
  | succ f ih =>
    intro l h x hx
    simp only [behF, List.mem_flatMap] at hx
    obtain ⟨i, hi, hx⟩ := hx
    rcases List.mem_cons.1 hx with rfl | hx
    · exact h x hi
    · exact ih (ofF_inR up i) x hx
end Go.Proofs.YtidmcpkbcphpiaaGreat
namespace Go.Proofs.YtidmcpkbcphpiaaGreat
open Go Go.Hai
def dF (up : List Int) : Nat → Int → Nat
  | 0, _ => 0
  | k + 1, i => match atI up i with
    | some u => if u = -2 then 0 else dF up k u + 1
    | none => 0
theorem dF_stay {up : List Int} : ∀ {k : Nat} {i : Int}, dF up k i < k → ∀ m, dF up (k + m) i = dF up k i := by
  intro k
  induction k with
  | zero => intro i h; omega
  | succ k ih =>
    intro i h m
    rw [show k + 1 + m = (k + m) + 1 by omega]
    unfold dF at h ⊢
    cases hu : atI up i with
    | none => rfl
    | some u =>
      rw [hu] at h
      simp only at h ⊢
      by_cases h2 : u = -2
      · rw [if_pos h2, if_pos h2]
      · rw [if_neg h2] at h ⊢
        rw [if_neg h2, ih (by omega)]
theorem dF_le {up : List Int} : ∀ {k : Nat} {i : Int} {s : Nat}, s ≤ up.length + 1 → cF up (up.length + 2 - s) i s = true → dF up k i + s ≤ up.length + 1 := by
  intro k
  induction k with
  | zero => intro i s h _; unfold dF; omega
  | succ k ih =>
    intro i s hs h
    obtain ⟨j, hj⟩ : ∃ j, up.length + 2 - s = j + 1 := ⟨up.length + 1 - s, by omega⟩
    rw [hj] at h
    unfold cF at h
    unfold dF
    cases hu : atI up i with
    | none => simp only; omega
    | some u =>
      rw [hu] at h
      simp only at h ⊢
      by_cases h2 : u = -2
      · rw [if_pos h2]; omega
      · rw [if_neg h2] at h ⊢
        split at h
        · cases h
        · have := ih (i := u) (s := s + 1) (by omega) (by rw [show up.length + 2 - (s + 1) = j by omega]; exact h)
          omega
def depF (up : List Int) (i : Int) : Nat := dF up (up.length + 2) i
theorem depF_kid {up : List Int} (hf : forestB up = true) {i j : Int} (hi : 0 ≤ i) (hj : j ∈ ofF up i) : depF up j = depF up i + 1 := by
  obtain ⟨h1, h0⟩ := ofF_mem.1 hj
  obtain ⟨h2, h3⟩ := atI_to h1
  unfold forestB at hf
  simp only [Bool.and_eq_true] at hf
  have hc := allTo_true h2 _ (List.getElem?_eq_some_iff.1 h2).1 hf.2
  unfold chainB at hc
  rw [show ((j.toNat : Nat) : Int) = j by omega] at hc
  have hd := dF_le (k := up.length + 2) (i := j) (s := 0) (by omega) hc
  have := dF_stay (up := up) (k := up.length + 2) (i := j) (by omega) 1
  unfold depF
  rw [← this, show up.length + 2 + 1 = (up.length + 2) + 1 from rfl]
  rw [dF, h1]
  simp only
  rw [if_neg (by omega)]
theorem behF_perm (up : List Int) (f : Nat) : ∀ l : List Int, (behF up (f + 1) l).Perm (l ++ behF up f (l.flatMap (ofF up))) := by
  intro l
  induction l with
  | nil => cases f <;> exact List.Perm.refl _
  | cons i l ih =>
    have e : behF up (f + 1) (i :: l) = i :: (behF up f (ofF up i) ++ behF up (f + 1) l) := by simp [behF]
    rw [e, List.flatMap_cons, behF_app, List.cons_append]
    refine List.Perm.cons _ ?_
    refine (List.Perm.append_left _ ih).trans ?_
    rw [← List.append_assoc, ← List.append_assoc]
    exact List.Perm.append_right _ List.perm_append_comm
theorem behF_set {up : List Int} (hf : forestB up = true) : ∀ (f c : Nat) {l : List Int}, l.Nodup → inR up l → (∀ x ∈ l, depF up x = c) → (behF up f l).Nodup ∧ ∀ x ∈ behF up f l, c ≤ depF up x := by
  intro f
  induction f with
  | zero => intro c l _ _ _; exact ⟨List.nodup_nil, fun x hx => by simp [behF] at hx⟩
  | succ f ih =>
    intro c l h1 h2 h3
    obtain ⟨k1, k2⟩ := kids_nodup (up := up) h1
    obtain ⟨i1, i2⟩ := ih (c + 1) k1 k2 (fun x hx => by
      obtain ⟨i, hi, hx⟩ := List.mem_flatMap.1 hx
      rw [depF_kid hf (h2 i hi).1 hx, h3 i hi])
    have hp := behF_perm up f l
    refine ⟨hp.nodup_iff.2 (List.nodup_append.2 ⟨h1, i1, ?_⟩), fun x hx => ?_⟩
    · rintro a ha b hb rfl
      have := i2 a hb
      rw [h3 a ha] at this
      omega
    · rcases List.mem_append.1 (hp.mem_iff.1 hx) with hx | hx
      · rw [h3 x hx]; exact Nat.le_refl _
      · have := i2 x hx; omega
def belF (up : List Int) (n : Int) : List Int := behF up (up.length + 1) (ofF up n)
theorem belF_set {up : List Int} (hf : forestB up = true) {n : Int} (hn : 0 ≤ n) : (belF up n).Nodup ∧ inR up (belF up n) :=
  ⟨(behF_set hf _ (depF up n + 1) (ofF_nodup _ _) (ofF_inR _ _) fun x hx => depF_kid hf hn hx).1, behF_inR (ofF_inR _ _)⟩
theorem belF_len {up : List Int} (hf : forestB up = true) {n : Int} (hn : 0 ≤ n) : (belF up n).length ≤ up.length := inR_le (belF_set hf hn).1 (belF_set hf hn).2
end Go.Proofs.YtidmcpkbcphpiaaGreat
namespace Go.Hai
open Go
def eqBQ (neg : Bool) (x y : Value) (σ : AHeap) (K : Kt) : Prop := match x, y with | .bool a, .bool b => K (.bool (if neg then !(a == b) else a == b)) σ | _, _ => False
end Go.Hai
namespace Go.Hai
open Go
theorem Tr.insP_insP {α : Type} (x y : α) : ∀ (p : Pth) (t : Tr α), Tr.insP y p (Tr.insP x p t) = Tr.insP y p t := by
  intro p
  induction p with
  | z => intro t; cases t <;> rfl
  | l p ih => intro t; cases t <;> simp only [Tr.insP, ih]
  | r p ih => intro t; cases t <;> simp only [Tr.insP, ih]
theorem Tr.ins_ins {α : Type} (t : Tr α) (i : Nat) (x y : α) : (t.ins i x).ins i y = t.ins i y := Tr.insP_insP x y _ t
def AHeap.itr (σ : AHeap) (s : ByteArray) (p : Nat) : AHeap := { σ with t := σ.t.ins σ.n (.obj (.stringIter s p)), n := σ.n + 1 }
theorem itr_low {σ : AHeap} {s : ByteArray} {p : Nat} : (σ.itr s p).low = σ.low := rfl
def rngQ (x : Value) (σ : AHeap) (K : Kt) : Prop := match x with | .string s => K (here σ.n 0) (σ.itr s 0) | _ => False
theorem rngQ_s {s : ByteArray} {σ : AHeap} {K : Kt} : rngQ (.string s) σ K = K (here σ.n 0) (σ.itr s 0) := rfl
theorem o_rng {σ : AHeap} {t : Tmps} {K : Kt} {x : Operand} : EndsO (aop σ t (.rng x)) K = rngQ (ev t x) σ K := by
  simp only [aop, rngQ]
  cases ev t x <;> simp [EndsO, AHeap.push, AHeap.itr]
def nxtQ (x : Value) (σ : AHeap) (K : Kt) : Prop := match x with
  | .pointer (some ⟨b, 0, _⟩) => (match σ.t.get b with
    | some (.obj (.stringIter s pos)) =>
      if pos < s.size then K (.tuple #[.bool true, .int .i64 pos, .int .i32 (Utf8.decode s pos).1]) { σ with t := σ.t.ins b (.obj (.stringIter s (pos + (Utf8.decode s pos).2))), low := minN σ.low b }
      else K (.tuple #[.bool false]) σ
    | _ => False)
  | _ => False
theorem o_next {σ : AHeap} {t : Tmps} {K : Kt} {x : Operand} : EndsO (aop σ t (.next x)) K = nxtQ (ev t x) σ K := by
  simp only [aop, nxtQ]
  cases ev t x with
  | pointer a => cases a with
    | none => rfl
    | some a =>
      obtain ⟨b, o, s⟩ := a
      cases o with
      | zero =>
        simp only
        cases σ.t.get b with
        | none => rfl
        | some r => cases r with
          | row _ _ _ _ _ _ => rfl
          | obj o => cases o with
            | stringIter s p => simp only; split <;> simp [EndsO]
            | _ => rfl
      | succ o => rfl
  | _ => rfl
theorem nxt_itr {σ : AHeap} (h : σ.low ≤ σ.n) {s : ByteArray} {p : Nat} {K : Kt} : nxtQ (here σ.n 0) (σ.itr s p) K =
    if p < s.size then K (.tuple [.bool true, .int .i64 p, .int .i32 (Utf8.decode s p).1].toArray) (σ.itr s (p + (Utf8.decode s p).2)) else K (.tuple [.bool false].toArray) (σ.itr s p) := by
  have hg : (σ.itr s p).t.get σ.n = some (.obj (.stringIter s p)) := by
    show (σ.t.ins σ.n _).get σ.n = _
    rw [Tr.get_ins, if_pos rfl]
  simp only [nxtQ, here, hg]
  split
  · have e : ({ σ.itr s p with t := (σ.itr s p).t.ins σ.n (.obj (.stringIter s (p + (Utf8.decode s p).2))), low := minN (σ.itr s p).low σ.n } : AHeap) = σ.itr s (p + (Utf8.decode s p).2) := by
      unfold AHeap.itr
      simp only [Tr.ins_ins]
      have : minN σ.low σ.n = σ.low := by rw [minN_min]; omega
      rw [this]
    rw [e]
  · rfl
def convQ (k : IntKind) (x : Value) (σ : AHeap) (K : Kt) : Prop := match x with | .int _ n => K (.int k (k.wrap n)) σ | _ => False
theorem convQ_i {k k' : IntKind} {n : Int} {σ : AHeap} {K : Kt} : convQ k (.int k' n) σ K = K (.int k (k.wrap n)) σ := rfl
theorem o_conv {σ : AHeap} {t : Tmps} {K : Kt} {k : IntKind} {x : Operand} : EndsO (aop σ t (.conv k x)) K = convQ k (ev t x) σ K := by
  simp only [aop, convQ]
  cases ev t x <;> simp [EndsO]
def iterQ (call : CallF) (fuel : Nat) (a : ACode) (f : Nat) (Q : AEx → Tmps → AHeap → Prop) : AEx → Tmps → AHeap → Prop
  | .normal, t, σ => Ends (iter (acode call fuel a) f t σ) Q
  | .exit j, t, σ => Q (.exit j) t σ
  | .ret, t, σ => Q .ret t σ
section
variable {call : CallF} {fuel f j : Nat} {a : ACode} {t : Tmps} {σ : AHeap} {Q : AEx → Tmps → AHeap → Prop}
theorem iterQ_normal : iterQ call fuel a f Q .normal t σ = Ends (iter (acode call fuel a) f t σ) Q := rfl
theorem iterQ_exit : iterQ call fuel a f Q (.exit j) t σ = Q (.exit j) t σ := rfl
theorem iterQ_ret : iterQ call fuel a f Q .ret t σ = Q .ret t σ := rfl
theorem ends_loopU : Ends (acode call fuel (.loop a) t σ) Q = Ends (iter (acode call fuel a) fuel t σ) Q := rfl
theorem ends_iter : Ends (iter (acode call fuel a) (f + 1) t σ) Q = Ends (acode call fuel a t σ) (iterQ call fuel a f Q) := by
  simp only [iter]
  cases acode call fuel a t σ with
  | none => rfl
  | some p => obtain ⟨e, t', σ'⟩ := p; cases e <;> rfl
theorem ends_iter1000 : Ends (iter (acode call fuel a) 1000 t σ) Q = Ends (acode call fuel a t σ) (iterQ call fuel a 999 Q) := ends_iter
theorem ends_iter999 : Ends (iter (acode call fuel a) 999 t σ) Q = Ends (acode call fuel a t σ) (iterQ call fuel a 998 Q) := ends_iter
theorem ends_iter998 : Ends (iter (acode call fuel a) 998 t σ) Q = Ends (acode call fuel a t σ) (iterQ call fuel a 997 Q) := ends_iter
theorem ends_iter997 : Ends (iter (acode call fuel a) 997 t σ) Q = Ends (acode call fuel a t σ) (iterQ call fuel a 996 Q) := ends_iter
end
end Go.Hai
namespace Go.Hai
open Go
theorem OutP.cells {base : Nat} {τ : AHeap} {v : Value} {l : List Int} (h : OutP base τ v l) (hd : Liv base τ) : srcCells τ 1 v = some (l.length, l.map i64) := by
  rcases h with ⟨rfl, rfl⟩ | ⟨b, cs, fam, rfl, h2, h3, h4, h5⟩
  · rfl
  · have hl : τ.loadN b 0 (l.length * 1) = some (l.map i64) := by
      unfold AHeap.loadN AHeap.row?
      rw [h4]
      simp only [Nat.mul_one, Nat.zero_add]
      rw [alive_liv hd fun p hp => (h2.2.2 p hp).1, if_pos rfl]
      simp only
      rw [if_pos (Nat.ble_eq_true_of_le (Nat.le_refl _))]
      have := cellsFrom_ints (cs := cs) l.length 0 l (fun i z hz => by rw [Nat.zero_add]; exact h5 i z hz) (Nat.le_refl _)
      rw [this, List.take_length]
    simp only [srcCells, hl]
theorem app_list {base : Nat} {τ : AHeap} {v x : Value} {l k : List Int} (hd : Liv base τ) (hlow : τ.low ≤ base) (hbase : base ≤ τ.n) (ho : OutP base τ v l) (hx : srcCells τ 1 x = some (k.length, k.map i64)) (hl : l.length + k.length < 1000000000) :
    ∃ v' τ', appOp τ 1 8 v x = some (v', τ') ∧ OutP base τ' v' (l ++ k) ∧ τ'.dead = τ.dead ∧ τ'.low = τ.low ∧ (∀ b, b < base → τ'.t.get b = τ.t.get b) ∧ Reads τ τ' := by
  by_cases hk : k = []
  · subst hk
    refine ⟨v, τ, ?_, by rw [List.append_nil]; exact ho, rfl, rfl, fun _ _ => rfl, Reads.refl _⟩
    obtain ⟨a, f, rfl⟩ := ho.shape
    simp only [appOp, hx]; rfl
  have hk0 : 0 < k.length := by cases k with
    | nil => exact absurd rfl hk
    | cons _ _ => simp
  have hkb : Nat.beq k.length 0 = false := by cases h : Nat.beq k.length 0 with
    | false => rfl
    | true => have := Nat.eq_of_beq_eq_true h; omega
  have hlow' : minN τ.low τ.n = τ.low := by unfold minN; rw [if_pos (Nat.ble_eq_true_of_le (by omega))]
  have push_row : ∀ (σ : AHeap) (r : AObj) (b : Nat), b < σ.n → (σ.push r).t.get b = σ.t.get b := fun σ r b hb => by
    show (σ.t.ins σ.n r).get b = _
    rw [Tr.get_ins, if_neg (by omega)]
  have hb1 : Nat.ble ((l.length + k.length) * 8) 140737488355328 = true := Nat.ble_eq_true_of_le (by omega)
  have hb2 : Nat.ble (l.length + k.length) 140737488355328 = true := Nat.ble_eq_true_of_le (by omega)
  rcases ho with ⟨rfl, rfl⟩ | ⟨b, cs, fam, rfl, h2, h3, h4, h5⟩
  · simp only [List.length_nil] at hb1 hb2
    refine ⟨.slice (some ⟨τ.n, 0, none⟩) k.length 1, τ.newRow (k.map i64) 1, ?_, ?_, rfl, rfl, fun b hb => push_row τ _ b (by omega), ?_, ?_⟩
    · simp only [appOp, hx]
      rw [if_neg (by rw [hkb]; decide), if_neg (by rw [hb1, hb2]; decide)]
      rfl
    · refine .inr ⟨τ.n, Tr.of (k.map i64), none, rfl, ⟨hbase, by simpa using hk, fun p hp => by cases hp⟩, Nat.lt_succ_self _, ?_, ?_⟩
      · show (τ.t.ins τ.n _).get τ.n = _
        rw [Tr.get_ins, if_pos rfl]; simp
      · intro i y hy
        rw [Tr.get_of, List.getElem?_map]
        rw [List.nil_append] at hy
        rw [hy]; rfl
    · exact Nat.le_succ _
    · intro b o n hb
      have : (τ.newRow (k.map i64) 1).t.get b = τ.t.get b := push_row τ _ b hb
      unfold AHeap.loadN AHeap.row?
      rw [this]; rfl
  · have htie : base ≤ (tieP τ b fam).2 := by
      cases fam with
      | none => exact h2.1
      | some p => exact (h2.2.2 p rfl).1
    have htib : (tieP τ b fam).2 ≤ b := by
      cases fam with
      | none => exact Nat.le_refl _
      | some p => exact (h2.2.2 p rfl).2
    have hal := alive_liv hd fun p hp => (h2.2.2 p hp).1
    replace h2 := h2.1
    have hdn : inDead (tieP τ b fam) τ.dead = false := inDead_no fun q hq => Nat.lt_of_lt_of_le (hd q hq) htie
    have hin : ∀ c, c < τ.n → ((τ.tie b cs l.length 1 fam).push (.row (cs.put l.length (k.map i64)) (l.length + k.length) 1 true true (some (tieP τ b fam)))).t.get c = if b = c then some (.row cs l.length 1 false true (some (tieP τ b fam))) else τ.t.get c := fun c hc => by
      rw [push_row _ _ _ (show c < (τ.tie b cs l.length 1 fam).n from hc)]
      show (τ.t.ins b _).get c = _
      rw [Tr.get_ins]
    refine ⟨.slice (some ⟨τ.n, 0, none⟩) (l.length + k.length) 1, (τ.tie b cs l.length 1 fam).push (.row (cs.put l.length (k.map i64)) (l.length + k.length) 1 true true (some (tieP τ b fam))), ?_, ?_, rfl, ?_, ?_, ?_, ?_⟩
    · simp only [appOp, hx]
      rw [if_neg (by rw [hkb]; decide), if_neg (by rw [hb1, hb2]; decide), if_neg (by decide)]
      simp only [h4]
      rw [if_pos (by rw [hal, hdn]; simp), List.length_map]
    · refine .inr ⟨τ.n, cs.put l.length (k.map i64), some (tieP τ b fam), by simp, ⟨hbase, by simp [hk], fun p hp => by cases hp; exact ⟨htie, Nat.le_trans htib (Nat.le_of_lt h3)⟩⟩, Nat.lt_succ_self _, ?_, ?_⟩
      · show ((τ.tie b cs l.length 1 fam).t.ins τ.n _).get τ.n = _
        rw [Tr.get_ins, if_pos rfl]; simp
      · intro i y hy
        rw [Tr.get_put]
        have hil := (List.getElem?_eq_some_iff.1 hy).1
        rw [List.length_append] at hil
        by_cases hi : i < l.length
        · rw [if_neg (by omega)]
          rw [List.getElem?_append_left hi] at hy
          exact h5 i y hy
        · rw [if_pos (by simp; omega)]
          rw [List.getElem?_append_right (by omega)] at hy
          rw [List.getElem?_map, hy]; rfl
    · show minN τ.low b = τ.low
      unfold minN; rw [if_pos (Nat.ble_eq_true_of_le (by omega))]
    · intro c hc
      rw [hin c (by omega), if_neg (by omega)]
    · exact Nat.le_succ _
    · intro c o n hc
      unfold AHeap.loadN AHeap.row?
      rw [hin c hc]
      by_cases hbc : b = c
      · subst hbc
        rw [if_pos rfl, h4]
        simp only
        have e2 : ((τ.tie b cs l.length 1 fam).push (.row (cs.put l.length (k.map i64)) (l.length + k.length) 1 true true (some (tieP τ b fam)))).alive (some (tieP τ b fam)) = true := alive_liv (show Liv base ((τ.tie b cs l.length 1 fam).push _) from hd) fun p hp => by cases hp; exact htie
        rw [hal, e2]
      · rw [if_neg hbc]
        have : ∀ fam', ((τ.tie b cs l.length 1 fam).push (.row (cs.put l.length (k.map i64)) (l.length + k.length) 1 true true (some (tieP τ b fam)))).alive fam' = τ.alive fam' := fun fam' => by
          cases fam' <;> rfl
        simp only [this]
end Go.Hai
namespace Go.Proofs.YtidmcpkbcphpiaaGreat
open Go Go.Hai
set_option maxRecDepth 20000
set_option linter.unusedSimpArgs false
set_option maxHeartbeats 1000000
attribute [local irreducible] Hai.Ends EndsR EndsO EndsD AHeap.grow
def r0_forest_of : List AOper := [(.mk (some 2) none (.box 1 (.tmp 0))), (.mk (some 4) none (.mv (.const (.slice none 0 0))))]
def r1_forest_of : List AOper := [(.mk (some 5) none (.mv (.const (.slice none 0 0))))]
def r2_forest_of : List AOper := [(.mk (some 8) none (.fldA 0 (.tmp 2))), (.mk (some 9) none (.load false 1 (.tmp 8))), (.mk (some 10) none (.lenS (.tmp 9))), (.mk (some 11) none (.mv (.const (.int .i64 0))))]
def r3_forest_of : List AOper := [(.mk (some 12) none (.bin .lss (.tmp 11) (.tmp 10)))]
def r4_forest_of : List AOper := [(.mk (some 13) none (.mv (.tmp 11))), (.mk (some 14) none (.idxA 1 (.tmp 9) (.tmp 11))), (.mk (some 15) none (.load false 1 (.tmp 14))), (.mk (some 6) none (.mv (.tmp 13))), (.mk (some 7) none (.mv (.tmp 15)))]
def r5_forest_of : List AOper := [(.mk (some 16) none (.mv (.tmp 7))), (.mk (some 17) none (.mv (.tmp 1))), (.mk (some 18) none (.bin .eql (.tmp 16) (.tmp 17)))]
def r6_forest_of : List AOper := [(.mk (some 19) none (.mv (.tmp 5))), (.mk (some 20) none (.mv (.tmp 6))), (.mk (some 21) none (.buildSl [(.int .i64 0)] 1 1 [(0, (1, (.tmp 20)))])), (.mk (some 22) none (.app 1 8 (.tmp 19) (.tmp 21))), (.mk (some 5) none (.mv (.tmp 22)))]
def k6_forest_of : ACode := (.cond (.tmp 18) (.reg r6_forest_of) .skip)
def k5_forest_of : ACode := (.seq (.reg r5_forest_of) k6_forest_of)
def r7_forest_of : List AOper := [(.mk (some 23) none (.bin .add (.tmp 11) (.const (.int .i64 1)))), (.mk (some 11) none (.mv (.tmp 23)))]
def k7_forest_of : ACode := (.reg r7_forest_of)
def k4_forest_of : ACode := (.seq (.block 1 (.seq (.reg r4_forest_of) k5_forest_of)) k7_forest_of)
def k3_forest_of : ACode := (.seq (.cond (.tmp 12) .skip (.exit 0)) k4_forest_of)
def b0_forest_of : ACode := (.seq (.reg r3_forest_of) k3_forest_of)
def k2_forest_of : ACode := (.block 0 (.loop b0_forest_of))
def r8_forest_of : List AOper := [(.mk (some 24) none (.mv (.tmp 5))), (.mk (some 4) none (.mv (.tmp 24)))]
def k8_forest_of : ACode := (.seq (.reg r8_forest_of) .ret)
def k1_forest_of : ACode := (.seq (.seq (.reg r2_forest_of) k2_forest_of) k8_forest_of)
def k0_forest_of : ACode := (.seq (.reg r1_forest_of) k1_forest_of)
def c_forest_of : ACode := (.seq (.reg r0_forest_of) k0_forest_of)
theorem e_forest_of : ofProg Tryz.prog 168 = some ⟨25, [(.tmp 4)], c_forest_of⟩ := by kernel_rfl
def r0_forest_may : List AOper := [(.mk (some 2) none (.box 1 (.tmp 0))), (.mk (some 4) none (.mv (.const (.bool false))))]
def r1_forest_may : List AOper := [(.mk (some 5) none (.load true 1 (.tmp 2))), (.mk (some 6) none (.call 61 [(.tmp 5)])), (.mk (some 7) none (.mv (.tmp 6))), (.mk (some 8) (some (7, true)) (.load true 1 (.tmp 2))), (.mk (some 9) (some (7, true)) (.mv (.tmp 1))), (.mk (some 10) (some (7, true)) (.call 126 [(.tmp 8), (.tmp 9)])), (.mk (some 11) none (.pick (.tmp 7) (.tmp 10) (.const (.bool false)))), (.mk (some 4) none (.mv (.tmp 11)))]
def k0_forest_may : ACode := (.seq (.reg r1_forest_may) .ret)
def c_forest_may : ACode := (.seq (.reg r0_forest_may) k0_forest_may)
theorem e_forest_may : ofProg Tryz.prog 166 = some ⟨12, [(.tmp 4)], c_forest_may⟩ := by kernel_rfl
theorem ofTo_len (up : List Int) (i : Int) : ∀ k, (ofTo up i k).length ≤ k := by
  intro k
  induction k with
  | zero => simp [ofTo]
  | succ k ih =>
    simp only [ofTo, List.length_append]
    cases up[k]? with
    | none => simp; omega
    | some u => simp only; split <;> simp <;> omega
theorem forest_of_ok (d : Nat) (σ : AHeap) (up : List Int) (a : Option Addr) (f : Nat) (n : Int) (hd : Liv σ.n σ) (hlo : σ.low ≤ σ.n) (h1 : SlI σ a up) (hn : up.length < 1000) :
    ∃ v τ, acall (ofProg Tryz.prog) 1000 (d + 1) 168 [.agg [.slice a up.length f].toArray, .int .i64 n] σ = some (v, τ) ∧ OutP σ.n τ v (ofF up n) ∧ Keeps σ τ := by
  suffices hs : Hai.Ends (acode (acall (ofProg Tryz.prog) 1000 d) 1000 c_forest_of (Tr.of [.agg [.slice a up.length f].toArray, .int .i64 n]) (σ.fresh.grow [])) (finA σ.n [.tmp 4] fun v τ => OutP σ.n τ v (ofF up n) ∧ Keeps σ.fresh τ) by
    obtain ⟨v, τ', e, τ, ⟨g1, g2⟩, g3⟩ := acall_addr e_forest_of (by simp) hlo hs
    refine ⟨v, τ', e, ?_⟩
    rcases g3 with ⟨g3, rfl⟩ | rfl
    · exact ⟨g1.flat g3, Keeps.refl _⟩
    · exact ⟨g1, g2.back⟩
  simp (disch := omega) only [r0_forest_of, r1_forest_of, r2_forest_of, r3_forest_of, r4_forest_of, r5_forest_of, r6_forest_of, k6_forest_of, k5_forest_of, r7_forest_of, k7_forest_of, k4_forest_of, k3_forest_of, k2_forest_of, r8_forest_of, k8_forest_of, k1_forest_of, k0_forest_of, c_forest_of, Z0, Z1, Z2, Z3, Z4, Z5, Z6, Z7, Z8, Z9, Z10, resAll, Nat.reduceAdd, Nat.reduceEqDiff, Nat.reduceLeDiff, Nat.reduceMul, ↓reduceIte, reduceCtorEq, Nat.reduceBEq, aoper, Nat.reduceLT, Int.reduceEq, Int.reduceLT, Int.reduceLE]
  refine ends_loop (fun i t τ => tget t 9 = .slice a up.length f ∧ tget t 10 = i64 up.length ∧ tget t 11 = i64 i ∧ tget t 1 = i64 n ∧ Keeps (σ.fresh.grow [([.slice a up.length f], 1)]) τ ∧ OutP (σ.n + 1) τ (tget t 5) (ofTo up n i))
    up.length hn ?_ ?_
  · refine ⟨?_, ?_, ?_, ?_, Keeps.refl _, ?_⟩ <;> simp (disch := omega) only [Int.natCast_zero, Int.ofNat_zero, r0_forest_of, r1_forest_of, r2_forest_of, r3_forest_of, r4_forest_of, r5_forest_of, r6_forest_of, k6_forest_of, k5_forest_of, r7_forest_of, k7_forest_of, k4_forest_of, k3_forest_of, k2_forest_of, r8_forest_of, k8_forest_of, k1_forest_of, k0_forest_of, c_forest_of, Z0, Z1, Z2, Z3, Z4, Z5, Z6, Z7, Z8, Z9, Z10, resAll, Nat.reduceAdd, Nat.reduceEqDiff, Nat.reduceLeDiff, Nat.reduceMul, ↓reduceIte, reduceCtorEq, Nat.reduceBEq, aoper, Nat.reduceLT, Int.reduceEq, Int.reduceLT, Int.reduceLE]
    exact OutP.nil _ _
  · rintro i t τ hi ⟨t9, t10, t11, t1, hk, hout⟩
    obtain ⟨vo, hvo⟩ : ∃ vo, tget t 5 = vo := ⟨_, rfl⟩
    rw [hvo] at hout
    rw [← grow_nil τ]
    have hlow : τ.low ≤ τ.n := by rw [hk.low]; exact Nat.le_trans (low_grow fresh_le _) hk.n
    have hdead : Liv (σ.n + 1) τ := hd.of (by rw [hk.dead, grow_dead]; rfl) (by omega)
    by_cases hlt : i < up.length
    · obtain ⟨b, rfl, hb⟩ := h1.fresh.at hlt
      have hx : up[i]? = some up[i] := List.getElem?_eq_getElem hlt
      generalize up[i] = x at hx
      have hl1 := fun L => hb.ld0 ((Keeps.self _ _).trans hk) hx L 1 (by omega)
      simp only [List.take_succ_cons, List.take_zero, Nat.mul_one] at hl1
      have hlt' : (i : Int) < (up.length : Int) := by omega
      have hcast : ((i + 1 : Nat) : Int) = (i : Int) + 1 := by omega
      by_cases g2 : x = n
      · have hh : ofTo up n (i + 1) = ofTo up n i ++ [(i : Int)] := by simp [ofTo, hx, g2]
        simp (disch := omega) only [b0_forest_of, t9, t10, t11, t1, hvo, hl1, hlt', hlt, hcast, Int.toNat_natCast, Nat.mul_one, eq_true g2, hh, hk.grow, r0_forest_of, r1_forest_of, r2_forest_of, r3_forest_of, r4_forest_of, r5_forest_of, r6_forest_of, k6_forest_of, k5_forest_of, r7_forest_of, k7_forest_of, k4_forest_of, k3_forest_of, k2_forest_of, r8_forest_of, k8_forest_of, k1_forest_of, k0_forest_of, c_forest_of, Z0, Z1, Z2, Z3, Z4, Z5, Z6, Z7, Z8, Z9, Z10, resAll, Nat.reduceAdd, Nat.reduceEqDiff, Nat.reduceLeDiff, Nat.reduceMul, ↓reduceIte, reduceCtorEq, Nat.reduceBEq, aoper, Nat.reduceLT, Int.reduceEq, Int.reduceLT, Int.reduceLE]
        have hrow : (τ.grow [([Value.int IntKind.i64 i], 1)]).loadN τ.n 0 1 = some [i64 i] := by rw [ld_0]; rfl
        have hkn := hk.n
        have hll := ofTo_len up n i
        rw [grow_n] at hkn
        obtain ⟨v', τ', he, ho', hd', hl', hr', hrd⟩ := app_step (base := σ.n + 1) (fx := 1) (hdead.of (grow_dead _ _) (Nat.le_refl _)) (by rw [grow_low, hk.low, grow_low, fresh_low]; omega) (by rw [grow_n]; exact Nat.le_trans hkn (by omega)) (hout.keeps (Keeps.self _ _)) hrow (by omega)
        have hk' : Keeps (σ.fresh.grow [([.slice (some ⟨b, 0, none⟩) up.length f], 1)]) τ' := (hk.grow _).app hrd hd' hl' fun c hc => hr' c (by rw [grow_n] at hc; exact hc)
        rw [he]
        simp (disch := omega) only [t9, t10, t11, t1, hlt, hcast, hh, hk', ho', r0_forest_of, r1_forest_of, r2_forest_of, r3_forest_of, r4_forest_of, r5_forest_of, r6_forest_of, k6_forest_of, k5_forest_of, r7_forest_of, k7_forest_of, k4_forest_of, k3_forest_of, k2_forest_of, r8_forest_of, k8_forest_of, k1_forest_of, k0_forest_of, c_forest_of, Z0, Z1, Z2, Z3, Z4, Z5, Z6, Z7, Z8, Z9, Z10, resAll, Nat.reduceAdd, Nat.reduceEqDiff, Nat.reduceLeDiff, Nat.reduceMul, ↓reduceIte, reduceCtorEq, Nat.reduceBEq, aoper, Nat.reduceLT, Int.reduceEq, Int.reduceLT, Int.reduceLE]
      · have hh : ofTo up n (i + 1) = ofTo up n i := by simp [ofTo, hx, g2]
        simp (disch := omega) only [b0_forest_of, t9, t10, t11, t1, hvo, hl1, hlt', hlt, hcast, Int.toNat_natCast, Nat.mul_one, g2, hh, hk.grow, r0_forest_of, r1_forest_of, r2_forest_of, r3_forest_of, r4_forest_of, r5_forest_of, r6_forest_of, k6_forest_of, k5_forest_of, r7_forest_of, k7_forest_of, k4_forest_of, k3_forest_of, k2_forest_of, r8_forest_of, k8_forest_of, k1_forest_of, k0_forest_of, c_forest_of, Z0, Z1, Z2, Z3, Z4, Z5, Z6, Z7, Z8, Z9, Z10, resAll, Nat.reduceAdd, Nat.reduceEqDiff, Nat.reduceLeDiff, Nat.reduceMul, ↓reduceIte, reduceCtorEq, Nat.reduceBEq, aoper, Nat.reduceLT, Int.reduceEq, Int.reduceLT, Int.reduceLE]
        exact hout.keeps (Keeps.self _ _)
    · have hlt' : ¬ (i : Int) < (up.length : Int) := by omega
      have hii : i = up.length := by omega
      subst hii
      simp (disch := omega) only [b0_forest_of, t9, t10, t11, t1, hlt', hvo, hk.low, r0_forest_of, r1_forest_of, r2_forest_of, r3_forest_of, r4_forest_of, r5_forest_of, r6_forest_of, k6_forest_of, k5_forest_of, r7_forest_of, k7_forest_of, k4_forest_of, k3_forest_of, k2_forest_of, r8_forest_of, k8_forest_of, k1_forest_of, k0_forest_of, c_forest_of, Z0, Z1, Z2, Z3, Z4, Z5, Z6, Z7, Z8, Z9, Z10, resAll, Nat.reduceAdd, Nat.reduceEqDiff, Nat.reduceLeDiff, Nat.reduceMul, ↓reduceIte, reduceCtorEq, Nat.reduceBEq, aoper, Nat.reduceLT, Int.reduceEq, Int.reduceLT, Int.reduceLE]
      exact ⟨(hout.le (by omega)).keeps (Keeps.self _ _), hk.cut.grow _⟩
theorem forest_may_ok (d : Nat) (σ : AHeap) (up : List Int) (a : Option Addr) (f : Nat) (n : Int) (h1 : SlI σ a up) (hn : up.length < 900) :
    acall (ofProg Tryz.prog) 1000 (d + 3) 166 [.agg [.slice a up.length f].toArray, .int .i64 n] σ = some (.bool (forestB up && upB up n), σ) := by
  refine acall_flat e_forest_may (by simp) rfl ?_
  have hg := fun L => forest_Good_ok d (σ.fresh.grow L) up a f (h1.fresh.grow L) hn
  have hi := fun L => forest_is_ok (d + 1) (σ.fresh.grow L) up a f n (h1.fresh.grow L)
  cases g1 : forestB up with
  | false => simp (disch := omega) only [hg, hi, g1, Bool.false_and, r0_forest_may, r1_forest_may, k0_forest_may, c_forest_may, Z0, Z1, Z2, Z3, Z4, Z5, Z6, Z7, Z8, Z9, Z10, resAll, Nat.reduceAdd, Nat.reduceEqDiff, Nat.reduceLeDiff, Nat.reduceMul, ↓reduceIte, reduceCtorEq, Nat.reduceBEq, aoper, Nat.reduceLT, Int.reduceEq, Int.reduceLT, Int.reduceLE]
  | true => simp (disch := omega) only [hg, hi, g1, Bool.true_and, r0_forest_may, r1_forest_may, k0_forest_may, c_forest_may, Z0, Z1, Z2, Z3, Z4, Z5, Z6, Z7, Z8, Z9, Z10, resAll, Nat.reduceAdd, Nat.reduceEqDiff, Nat.reduceLeDiff, Nat.reduceMul, ↓reduceIte, reduceCtorEq, Nat.reduceBEq, aoper, Nat.reduceLT, Int.reduceEq, Int.reduceLT, Int.reduceLE]
end Go.Proofs.YtidmcpkbcphpiaaGreat
namespace Go.Hai
open Go
theorem app_low {σ τ : AHeap} {sz by_ : Nat} {s x v : Value} (hl : σ.low ≤ σ.n) (h : appOp σ sz by_ s x = some (v, τ)) : ∃ m, appOp (σ.setLow σ.n) sz by_ s x = some (v, τ.setLow m) ∧ minN σ.low m = τ.low := by
  have hm : minN σ.low σ.n = σ.low := by unfold minN; rw [if_pos (Nat.ble_eq_true_of_le hl)]
  have hs : srcCells (σ.setLow σ.n) sz x = srcCells σ sz x := rfl
  unfold appOp at h ⊢
  rw [hs]
  cases hc : srcCells σ sz x with
  | none => rw [hc] at h; cases h
  | some p =>
    obtain ⟨k, xs⟩ := p
    rw [hc] at h
    simp only at h ⊢
    cases s with
    | slice a l f =>
      simp only at h ⊢
      split at h
      · next g => rw [if_pos g]; cases h; exact ⟨_, rfl, hm⟩
      next g =>
      rw [if_neg g]
      split at h
      · cases h
      next g2 =>
      rw [if_neg g2]
      split at h
      · next g3 =>
        rw [if_pos g3]
        split at h
        · next g4 => rw [if_pos g4]; cases h; exact ⟨σ.n, rfl, hm⟩
        · cases h
      next g3 =>
      rw [if_neg g3]
      split at h
      · next b c =>
        have ht : (σ.setLow σ.n).t.get b = σ.t.get b := rfl
        rw [ht]
        split at h
        · next cs len es fam hg =>
          split at h
          · next g5 =>
            rw [if_pos (by exact g5)]
            cases h
            refine ⟨minN σ.n b, rfl, ?_⟩
            show minN σ.low (minN σ.n b) = minN σ.low b
            simp only [minN_min]; omega
          · cases h
        · cases h
      · cases h
    | _ => cases h
theorem kontK_app {call : CallF} {os : List AOper} {t : Tmps} {σ τ : AHeap} {Q : Kk} {d : Option Nat} {op : AOp} {v : Value} {m : Nat} (h : minN σ.low m = τ.low) : kontK call op os t σ Q d v (τ.setLow m) = EndsK call os (setD t d v) τ (consK (kindOf op t σ (Nat.beq m σ.n)) Q) := by
  unfold kontK
  have e : ({ τ.setLow m with low := minN σ.low (τ.setLow m).low } : AHeap) = τ := by
    show AHeap.mk τ.t τ.n τ.nf τ.dead (minN σ.low m) = τ
    rw [h]
  rw [e]
  rfl
end Go.Hai
namespace Go.Proofs.YtidmcpkbcphpiaaGreat
open Go Go.Hai
set_option maxRecDepth 20000
set_option linter.unusedSimpArgs false
set_option maxHeartbeats 2000000
attribute [local irreducible] Hai.Ends EndsR EndsO EndsD EndsX EndsE EndsK AHeap.grow okLow inN
def r0_forest_behind : List AOper := [(.mk (some 2) none (.box 1 (.tmp 0))), (.mk (some 4) none (.mv (.const (.slice none 0 0))))]
def r1_forest_behind : List AOper := [(.mk (some 5) none (.mv (.const (.slice none 0 0))))]
def r2_forest_behind : List AOper := [(.mk (some 8) none (.mv (.tmp 1))), (.mk (some 9) none (.lenS (.tmp 8))), (.mk (some 10) none (.mv (.const (.int .i64 0))))]
def r3_forest_behind : List AOper := [(.mk (some 11) none (.bin .lss (.tmp 10) (.tmp 9)))]
def r4_forest_behind : List AOper := [(.mk (some 12) none (.idxA 1 (.tmp 8) (.tmp 10))), (.mk (some 13) none (.load false 1 (.tmp 12))), (.mk (some 7) none (.mv (.tmp 13)))]
def r5_forest_behind : List AOper := [(.mk (some 14) none (.mv (.tmp 5))), (.mk (some 15) none (.mv (.tmp 7))), (.mk (some 16) none (.buildSl [(.int .i64 0)] 1 1 [(0, (1, (.tmp 15)))])), (.mk (some 17) none (.app 1 8 (.tmp 14) (.tmp 16))), (.mk (some 5) none (.mv (.tmp 17)))]
def r6_forest_behind : List AOper := [(.mk (some 18) none (.mv (.tmp 5))), (.mk (some 19) none (.load true 1 (.tmp 2))), (.mk (some 20) none (.load true 1 (.tmp 2))), (.mk (some 21) none (.mv (.tmp 7))), (.mk (some 22) none (.call 168 [(.tmp 20), (.tmp 21)])), (.mk (some 23) none (.call 167 [(.tmp 19), (.tmp 22)])), (.mk (some 24) none (.app 1 8 (.tmp 18) (.tmp 23))), (.mk (some 5) none (.mv (.tmp 24)))]
def k6_forest_behind : ACode := (.drw r6_forest_behind [0, 0, 0, 0, 12, 30, 63, 127])
def k5_forest_behind : ACode := (.seq (.reg r5_forest_behind) k6_forest_behind)
def r7_forest_behind : List AOper := [(.mk (some 25) none (.bin .add (.tmp 10) (.const (.int .i64 1)))), (.mk (some 10) none (.mv (.tmp 25)))]
def k7_forest_behind : ACode := (.reg r7_forest_behind)
def k4_forest_behind : ACode := (.seq (.block 1 (.seq (.reg r4_forest_behind) k5_forest_behind)) k7_forest_behind)
def k3_forest_behind : ACode := (.seq (.cond (.tmp 11) .skip (.exit 0)) k4_forest_behind)
def b0_forest_behind : ACode := (.seq (.reg r3_forest_behind) k3_forest_behind)
def k2_forest_behind : ACode := (.block 0 (.loop b0_forest_behind))
def r8_forest_behind : List AOper := [(.mk (some 26) none (.mv (.tmp 5))), (.mk (some 4) none (.mv (.tmp 26)))]
def k8_forest_behind : ACode := (.seq (.reg r8_forest_behind) .ret)
def k1_forest_behind : ACode := (.seq (.seq (.reg r2_forest_behind) k2_forest_behind) k8_forest_behind)
def k0_forest_behind : ACode := (.seq (.reg r1_forest_behind) k1_forest_behind)
def c_forest_behind : ACode := (.seq (.reg r0_forest_behind) k0_forest_behind)
theorem e_forest_behind : ofProg Tryz.prog 167 = some ⟨27, [(.tmp 4)], c_forest_behind⟩ := by kernel_rfl
theorem flat_pre {G : Int → List Int} {l : List Int} {i : Nat} {x : Int} (hx : l[i]? = some x) : (l.take (i + 1)).flatMap G = (l.take i).flatMap G ++ G x := by
  rw [List.take_add_one, hx, Option.toList_some, List.flatMap_append]
  simp
theorem flat_len {G : Int → List Int} (l : List Int) (i : Nat) : ((l.take i).flatMap G).length ≤ (l.flatMap G).length := by
  have h := congrArg (fun z => (List.flatMap G z).length) (List.take_append_drop i l)
  simp only [List.flatMap_append, List.length_append] at h
  omega
theorem behind_step (d : Nat) (σ : AHeap) (up : List Int) (a : Option Addr) (f : Nat) (K : Int → List Int) (l : List Int) (a1 : Option Addr) (f1 : Nat) (hd : Liv σ.n σ) (hlo : σ.low ≤ σ.n) (h1 : SlI σ a up) (hn : up.length < 1000) (h2 : SlI σ a1 l) (hl : l.length < 1000)
    (hB : (l.flatMap fun i => i :: K i).length < 1000000)
    (hK : ∀ i ∈ l, ∀ (τ : AHeap) (a2 : Option Addr) (f2 : Nat), Liv τ.n τ → τ.low ≤ τ.n → SlI τ a up → SlI τ a2 (ofF up i) → ∃ v υ, acall (ofProg Tryz.prog) 1000 (d + 1) 167 [.agg [.slice a up.length f].toArray, .slice a2 (ofF up i).length f2] τ = some (v, υ) ∧ OutP τ.n υ v (K i) ∧ Keeps τ υ) :
    ∃ v τ, acall (ofProg Tryz.prog) 1000 (d + 2) 167 [.agg [.slice a up.length f].toArray, .slice a1 l.length f1] σ = some (v, τ) ∧ OutP σ.n τ v (l.flatMap fun i => i :: K i) ∧ Keeps σ τ := by
  suffices hs : Hai.Ends (acode (acall (ofProg Tryz.prog) 1000 (d + 1)) 1000 c_forest_behind (Tr.of [.agg [.slice a up.length f].toArray, .slice a1 l.length f1]) (σ.fresh.grow [])) (finA σ.n [.tmp 4] fun v τ => OutP σ.n τ v (l.flatMap fun i => i :: K i) ∧ Keeps σ.fresh τ) by
    obtain ⟨v, τ', e, τ, ⟨g1, g2⟩, g3⟩ := acall_addr e_forest_behind (by simp) hlo hs
    refine ⟨v, τ', e, ?_⟩
    rcases g3 with ⟨g3, rfl⟩ | rfl
    · exact ⟨g1.flat g3, Keeps.refl _⟩
    · exact ⟨g1, g2.back⟩
  have hfn : σ.fresh.n = σ.n := rfl
  simp (disch := omega) only [r0_forest_behind, r1_forest_behind, r2_forest_behind, r3_forest_behind, r4_forest_behind, r5_forest_behind, r6_forest_behind, k6_forest_behind, k5_forest_behind, r7_forest_behind, k7_forest_behind, k4_forest_behind, k3_forest_behind, k2_forest_behind, r8_forest_behind, k8_forest_behind, k1_forest_behind, k0_forest_behind, c_forest_behind, Z0, Z1, Z2, Z3, Z4, Z5, Z6, Z7, Z8, Z9, Z10, resAll, Nat.reduceAdd, Nat.reduceEqDiff, Nat.reduceLeDiff, Nat.reduceMul, ↓reduceIte, reduceCtorEq, Nat.reduceBEq, aoper, Nat.reduceLT, Int.reduceEq, Int.reduceLT, Int.reduceLE]
  refine ends_loop (fun i t τ => tget t 8 = .slice a1 l.length f1 ∧ tget t 9 = i64 l.length ∧ tget t 10 = i64 i ∧ tget t 2 = here σ.fresh.n 0 ∧ Keeps (σ.fresh.grow [([.slice a up.length f], 1)]) τ ∧ OutP (σ.n + 1) τ (tget t 5) ((l.take i).flatMap fun i => i :: K i))
    l.length hl ?_ ?_
  · refine ⟨?_, ?_, ?_, ?_, Keeps.refl _, ?_⟩ <;> simp (disch := omega) only [Int.natCast_zero, Int.ofNat_zero, r0_forest_behind, r1_forest_behind, r2_forest_behind, r3_forest_behind, r4_forest_behind, r5_forest_behind, r6_forest_behind, k6_forest_behind, k5_forest_behind, r7_forest_behind, k7_forest_behind, k4_forest_behind, k3_forest_behind, k2_forest_behind, r8_forest_behind, k8_forest_behind, k1_forest_behind, k0_forest_behind, c_forest_behind, Z0, Z1, Z2, Z3, Z4, Z5, Z6, Z7, Z8, Z9, Z10, resAll, Nat.reduceAdd, Nat.reduceEqDiff, Nat.reduceLeDiff, Nat.reduceMul, ↓reduceIte, reduceCtorEq, Nat.reduceBEq, aoper, Nat.reduceLT, Int.reduceEq, Int.reduceLT, Int.reduceLE]
    exact OutP.nil _ _
  rintro i t τ hi ⟨t8, t9, t10, t2, hk, hout⟩
  obtain ⟨vo, hvo⟩ : ∃ vo, tget t 5 = vo := ⟨_, rfl⟩
  rw [hvo] at hout
  rw [← grow_nil τ]
  have hkn := hk.n
  rw [grow_n] at hkn
  simp only [List.length_cons, List.length_nil, Nat.reduceAdd, hfn] at hkn
  have w0 : τ.low = σ.n := by rw [hk.low, grow_low]; rfl
  have hlow : τ.low ≤ τ.n := by omega
  have hdead : Liv (σ.n + 1) τ := hd.of (by rw [hk.dead, grow_dead]; rfl) (by omega)
  by_cases hlt : i < l.length
  · obtain ⟨b, rfl, hb⟩ := h2.fresh.at hlt
    have hx : l[i]? = some l[i] := List.getElem?_eq_getElem hlt
    have hmem : l[i] ∈ l := List.getElem_mem hlt
    generalize l[i] = x at hx hmem
    have hl1 := fun L => hb.ld0 ((Keeps.self _ _).trans hk) hx L 1 (by omega)
    simp only [List.take_succ_cons, List.take_zero, Nat.mul_one] at hl1
    have hlt' : (i : Int) < (l.length : Int) := by omega
    have hcast : ((i + 1 : Nat) : Int) = (i : Int) + 1 := by omega
    have hpre := flat_pre (G := fun i => i :: K i) hx
    have hlen := flat_len (G := fun i => i :: K i) l (i + 1)
    rw [hpre, List.length_append, List.length_cons] at hlen
    simp (disch := omega) only [t8, t9, t10, t2, hvo, hl1, hlt', Int.toNat_natCast, Nat.mul_one, r0_forest_behind, r1_forest_behind, r2_forest_behind, r3_forest_behind, r4_forest_behind, r5_forest_behind, r6_forest_behind, k6_forest_behind, k5_forest_behind, r7_forest_behind, k7_forest_behind, k4_forest_behind, k3_forest_behind, k2_forest_behind, r8_forest_behind, k8_forest_behind, k1_forest_behind, k0_forest_behind, b0_forest_behind, Z0, Z1, Z2, Z3, Z4, Z5, Z6, Z7, Z8, Z9, Z10, resAll, Nat.reduceAdd, Nat.reduceEqDiff, Nat.reduceLeDiff, Nat.reduceMul, ↓reduceIte, reduceCtorEq, Nat.reduceBEq, aoper, Nat.reduceLT, Int.reduceEq, Int.reduceLT, Int.reduceLE]
    have hrow : (τ.grow [([i64 x], 1)]).loadN τ.n 0 1 = some [i64 x] := by rw [ld_0]; rfl
    have hcells : srcCells (τ.grow [([i64 x], 1)]) 1 (.slice (some ⟨τ.n, 0, none⟩) 1 1) = some ([x].length, [x].map i64) := by simp only [srcCells, Nat.one_mul, hrow]; rfl
    obtain ⟨v', τ', he, ho', hd', hl', hr', hrd⟩ := app_list (base := σ.n + 1) (hdead.of (grow_dead _ _) (Nat.le_refl _)) (by rw [grow_low]; omega) (by rw [grow_n]; omega) (hout.keeps (Keeps.self _ _)) hcells (by rw [List.length_singleton]; omega)
    have hk' : Keeps (σ.fresh.grow [([.slice a up.length f], 1)]) τ' := (hk.grow _).app hrd hd' hl' fun c hc => hr' c (by rw [grow_n] at hc; exact hc)
    have w1 : τ'.low = σ.n := by rw [hk'.low, grow_low]; rfl
    have n1 : σ.n + 1 ≤ τ'.n := by have := hk'.n; rw [grow_n] at this; exact this
    have lo1 : τ'.low ≤ τ'.n := by omega
    have bx := fun M o n => hk'.own0 (r := [.slice a up.length f]) (e := 1) rfl M o n
    have s1 : SlI τ' a up := h1.fresh.keeps ((Keeps.self _ _).trans hk')
    rw [he, ← grow_nil τ']
    clear hd'
    have d1 : Liv τ'.n τ' := (Liv.gr (σ := σ.fresh) hd _).keeps hk'
    simp (disch := omega) only [t8, t9, t10, t2, r0_forest_behind, r1_forest_behind, r2_forest_behind, r3_forest_behind, r4_forest_behind, r5_forest_behind, r6_forest_behind, k6_forest_behind, k5_forest_behind, r7_forest_behind, k7_forest_behind, k4_forest_behind, k3_forest_behind, k2_forest_behind, r8_forest_behind, k8_forest_behind, k1_forest_behind, k0_forest_behind, b0_forest_behind, Z0, Z1, Z2, Z3, Z4, Z5, Z6, Z7, Z8, Z9, Z10, resAll, Nat.reduceAdd, Nat.reduceEqDiff, Nat.reduceLeDiff, Nat.reduceMul, ↓reduceIte, reduceCtorEq, Nat.reduceBEq, aoper, Nat.reduceLT, Int.reduceEq, Int.reduceLT, Int.reduceLE]
    refine ends_drwK [(0, 4), (0, 5), (1, 4)] (by kernel_rfl) ?_
    obtain ⟨v2, τ2', e2, o2', k2'⟩ := forest_of_ok d ((τ'.grow []).setLow (τ'.grow []).n) up a f x (by rw [grow_nil]; exact d1) low_set ((s1.grow []).setLow _) hn
    have hk2 := fun {call : CallF} {os : List AOper} {t : Tmps} {Q : Kk} {d : Option Nat} {op : AOp} {v : Value} => kontK_call (call := call) (os := os) (t := t) (Q := Q) (d := d) (op := op) (v := v) (low_grow lo1 []) k2'
    have k2 := k2'.unset
    rw [grow_low, w1] at k2 hk2
    have o2 : OutP τ'.n (τ2'.setLow σ.n) v2 (ofF up x) := by
      have := o2'
      rw [setLow_n, grow_nil] at this
      exact this
    generalize hτ2 : τ2'.setLow σ.n = τ2 at k2 hk2 o2
    rw [grow_nil] at k2
    have w2 : τ2.low = σ.n := by rw [k2.low]; exact w1
    have n2 : τ'.n ≤ τ2.n := k2.n
    have lo2 : τ2.low ≤ τ2.n := by omega
    have d2 : Liv τ2.n τ2 := d1.keeps k2
    obtain ⟨a2, f2, rfl, s2⟩ := o2.sl (d1.of k2.dead (Nat.le_refl _))
    obtain ⟨v3, τ3', e3, o3', k3'⟩ := hK x hmem (τ2.setLow τ2.n) a2 f2 d2 low_set ((s1.keeps k2).setLow _) (s2.setLow _)
    have hk3 := fun {call : CallF} {os : List AOper} {t : Tmps} {Q : Kk} {d : Option Nat} {op : AOp} {v : Value} => kontK_call (call := call) (os := os) (t := t) (Q := Q) (d := d) (op := op) (v := v) lo2 k3'
    have k3 := k3'.unset
    rw [w2] at k3 hk3
    have o3 : OutP τ2.n (τ3'.setLow σ.n) v3 (K x) := o3'
    generalize hτ3 : τ3'.setLow σ.n = τ3 at k3 hk3 o3
    have w3 : τ3.low = σ.n := by rw [k3.low]; exact w2
    have n3 : τ2.n ≤ τ3.n := k3.n
    have lo3 : τ3.low ≤ τ3.n := by omega
    have d3 : Liv τ3.n τ3 := d2.keeps k3
    have d3' : Liv (σ.n + 1) τ3 := hdead.of (by rw [k3.dead, k2.dead, hk'.dead, hk.dead]) (Nat.le_refl _)
    obtain ⟨v4, τ4, e4', ho4, hd4, hl4, hr4, hrd4⟩ := app_list (base := σ.n + 1) d3' (by omega) (by omega) ((ho'.keeps k2).keeps k3) (o3.cells (d2.of k3.dead (Nat.le_refl _))) (by rw [List.length_append, List.length_singleton]; omega)
    obtain ⟨m, e4, hm⟩ := app_low lo3 e4'
    have k13 := hk'.trans (k2.trans k3)
    have hk4 : Keeps (σ.fresh.grow [([.slice a up.length f], 1)]) τ4 := k13.app hrd4 hd4 hl4 fun c hc => hr4 c (by rw [grow_n] at hc; exact hc)
    have w4 : τ4.low = σ.n := by rw [hl4]; exact w3
    have n4 : τ3.n ≤ τ4.n := hrd4.1
    have lo4 : okLow τ4 = true := okLow_of (by omega)
    have y1 : okLow (τ'.grow []) = true := okLow_of (low_grow lo1 _)
    have y2 : okLow τ2 = true := okLow_of lo2
    have y3 : okLow τ3 = true := okLow_of lo3
    have z1 : inN σ.fresh.n (τ'.grow []) = true := inN_of (by rw [grow_n]; omega)
    have z2 := (hk'.grow []).rows 0 rfl
    rw [Nat.add_zero] at z2
    have hka := fun {call : CallF} {os : List AOper} {t : Tmps} {Q : Kk} {d : Option Nat} {op : AOp} {v : Value} => kontK_app (call := call) (os := os) (t := t) (Q := Q) (d := d) (op := op) (v := v) hm
    simp (disch := omega) only [t8, t9, t10, t2, k_1, k_nil, kontK_if, kd_load, kd_mv, kd_call, ldKind_if, famK_row, setLow_load, setLow_grown, consK_app, drwQ_app, drawOk_cons, drawOk_nil, pair_lq, pair_pq, List.getElem?_cons_succ, List.getElem?_cons_zero, bx, y1, y2, y3, z1, z2, e2, hk2, e3, hk3, e4, hka, lo4, b0_forest_behind, Z0, Z1, Z2, Z3, Z4, Z5, Z6, Z7, Z8, Z9, Z10, resAll, Nat.reduceAdd, Nat.reduceEqDiff, Nat.reduceLeDiff, Nat.reduceMul, ↓reduceIte, reduceCtorEq, Nat.reduceBEq, aoper, Nat.reduceLT, Int.reduceEq, Int.reduceLT, Int.reduceLE]
    refine ⟨hlt, by rw [hcast], hk4, ?_⟩
    rw [hpre]
    rw [List.append_assoc] at ho4
    exact ho4
  · have hlt' : ¬ (i : Int) < (l.length : Int) := by omega
    have hii : i = l.length := by omega
    subst hii
    rw [List.take_length] at hout
    simp (disch := omega) only [t8, t9, t10, t2, hvo, hlt', w0, r0_forest_behind, r1_forest_behind, r2_forest_behind, r3_forest_behind, r4_forest_behind, r5_forest_behind, r6_forest_behind, k6_forest_behind, k5_forest_behind, r7_forest_behind, k7_forest_behind, k4_forest_behind, k3_forest_behind, k2_forest_behind, r8_forest_behind, k8_forest_behind, k1_forest_behind, k0_forest_behind, b0_forest_behind, Z0, Z1, Z2, Z3, Z4, Z5, Z6, Z7, Z8, Z9, Z10, resAll, Nat.reduceAdd, Nat.reduceEqDiff, Nat.reduceLeDiff, Nat.reduceMul, ↓reduceIte, reduceCtorEq, Nat.reduceBEq, aoper, Nat.reduceLT, Int.reduceEq, Int.reduceLT, Int.reduceLE]
    exact ⟨(hout.le (by omega)).keeps (Keeps.self _ _), hk.cut.grow _⟩
theorem forest_behind_ok (up : List Int) (a : Option Addr) (f : Nat) (hn : up.length < 900) : ∀ (g d : Nat) (l : List Int) (σ : AHeap) (a1 : Option Addr) (f1 : Nat), htOk up g l → l.Nodup → inR up l → Liv σ.n σ → σ.low ≤ σ.n → SlI σ a up → SlI σ a1 l → (g + 1) * up.length < 1000000 →
    ∃ v τ, acall (ofProg Tryz.prog) 1000 (d + g + 2) 167 [.agg [.slice a up.length f].toArray, .slice a1 l.length f1] σ = some (v, τ) ∧ OutP σ.n τ v (behF up g l) ∧ Keeps σ τ := by
  intro g
  induction g with
  | zero =>
    intro d l σ a1 f1 hh _ _ hd hlo h1 h2 _
    have hl : l = [] := hh
    subst hl
    exact behind_step d σ up a f (fun _ => []) [] a1 f1 hd hlo h1 (by omega) h2 (by simp) (by simp) (fun i hi => by simp at hi)
  | succ g ih =>
    intro d l σ a1 f1 hh hnd hin hd hlo h1 h2 hg
    have hlen := inR_le hnd hin
    have hb := behF_len (g + 1) hnd hin
    rw [Nat.succ_mul] at hg
    exact behind_step (d + g + 1) σ up a f (fun i => behF up g (ofF up i)) l a1 f1 hd hlo h1 (by omega) h2 (by omega) (by
      show (behF up (g + 1) l).length < 1000000
      omega) (fun i hi τ a2 f2 hd' hlo' h1' h2' => ih d (ofF up i) τ a2 f2 (hh i hi) (ofF_nodup _ _) (ofF_inR _ _) hd' hlo' h1' h2' (by omega))
end Go.Proofs.YtidmcpkbcphpiaaGreat
namespace Go.Hai
open Go
theorem lowOf_min {fam : Option (Nat × Nat)} {low b : Nat} (h : low ≤ b) (hf : ∀ p, fam = some p → low ≤ p.2) : lowOf fam low b = low := by
  cases fam with
  | none => unfold lowOf; simp only [minN_min]; omega
  | some p => have := hf p rfl; unfold lowOf; simp only [minN_min]; omega
theorem srt_ok {base : Nat} {τ : AHeap} {v : Value} {l : List Int} (hd : Liv base τ) (hlow : τ.low ≤ base) (ho : OutP base τ v l) (hm : l.length ≤ 1000000) :
    ∃ τ', srtVal [v] τ = some (.tuple #[], τ') ∧ OutP base τ' v (sortI l) ∧ (∀ b, b < base → τ'.t.get b = τ.t.get b) ∧ τ'.n = τ.n ∧ τ'.low = τ.low ∧ (∀ p ∈ τ'.dead, p ∈ τ.dead ∨ p.2 < τ.n) ∧ ∃ a f, v = .slice a (sortI l).length f ∧ SlI τ' a (sortI l) := by
  have hsl := sortI_length l
  rcases ho with ⟨rfl, rfl⟩ | ⟨b, cs, fam, rfl, h2, h3, h4, h5⟩
  · have e0 : sortI [] = [] := by unfold sortI; simp
    rw [e0]
    exact ⟨τ, rfl, .inl ⟨rfl, rfl⟩, fun _ _ => rfl, rfl, rfl, fun p hp => .inl hp, none, 0, rfl, .inl rfl⟩
  · have hal := alive_liv hd fun p hp => (h2.2.2 p hp).1
    obtain ⟨n, hn⟩ : ∃ n, l.length = n + 1 := by
      cases l with
      | nil => exact absurd rfl h2.2.1
      | cons x l => exact ⟨l.length, rfl⟩
    have hld : τ.loadN b 0 (n + 1) = some (l.map (Value.int .i64)) := by
      unfold AHeap.loadN AHeap.row?
      rw [h4]
      simp only [Nat.zero_add]
      rw [hal, if_pos rfl]
      simp only
      rw [if_pos (Nat.ble_eq_true_of_le (by omega))]
      have := cellsFrom_ints (cs := cs) l.length 0 l (fun i z hz => by rw [Nat.zero_add]; exact h5 i z hz) (Nat.le_refl _)
      rw [List.take_length, hn] at this
      exact this
    have hst : τ.storeN b 0 ((sortI l).map (Value.int .i64)) = some (τ.wrote b (.row (cs.put 0 ((sortI l).map (Value.int .i64))) l.length 1 true true none) fam) := by
      unfold AHeap.storeN
      rw [h4]
      simp only
      rw [if_pos]
      rw [hal, Nat.ble_eq_true_of_le (by rw [List.length_map]; omega)]
      simp [isCell]
    have hlo : lowOf fam τ.low b = τ.low := lowOf_min (by omega) fun p hp => by have := (h2.2.2 p hp).1; omega
    have hrow : ∀ (c : Nat), (τ.wrote b (.row (cs.put 0 ((sortI l).map (Value.int .i64))) l.length 1 true true none) fam).t.get c = if b = c then some (.row (cs.put 0 ((sortI l).map (Value.int .i64))) l.length 1 true true none) else τ.t.get c := fun c => by
      show (τ.t.ins b _).get c = _
      rw [Tr.get_ins]
    have hcs : ∀ i z, (sortI l)[i]? = some z → (cs.put 0 ((sortI l).map (Value.int .i64))).get i = some (i64 z) := fun i z hz => by
      have hi := (List.getElem?_eq_some_iff.1 hz).1
      rw [Tr.get_put, if_pos (by simp; omega), List.getElem?_map, Nat.sub_zero, hz]; rfl
    have hO : OutP base (τ.wrote b (.row (cs.put 0 ((sortI l).map (Value.int .i64))) l.length 1 true true none) fam) (.slice (some ⟨b, 0, none⟩) l.length 1) (sortI l) :=
      .inr ⟨b, _, none, by rw [hsl], ⟨h2.1, fun e => by rw [e] at hsl; simp at hsl; omega, fun p hp => by cases hp⟩, h3, by rw [hrow, if_pos rfl, hsl], hcs⟩
    refine ⟨_, ?_, hO, fun c hc => by rw [hrow, if_neg (by have := h2.1; omega)], rfl, hlo, fun p hp => ?_, ?_⟩
    · rw [hn]
      simp only [srtVal]
      rw [if_pos (Nat.ble_eq_true_of_le (by omega)), hld]
      simp only [intsOf_ints]
      rw [hst, hn]
    · cases hfam : fam with
      | none => subst hfam; exact .inl hp
      | some q =>
        subst hfam
        rcases List.mem_cons.1 (show p ∈ q :: τ.dead from hp) with rfl | hp
        · have := (h2.2.2 p rfl).2; exact .inr (by omega)
        · exact .inl hp
    · refine ⟨_, 1, by rw [hsl], .inr ⟨b, rfl, h3, fun i x hx o m hom => ?_⟩⟩
      have hi := (List.getElem?_eq_some_iff.1 hx).1
      unfold AHeap.loadN AHeap.row?
      rw [hrow, if_pos rfl]
      simp only [AHeap.alive, if_true]
      rw [if_pos (Nat.ble_eq_true_of_le (by omega))]
      have hom' : (o = 0 ∧ m ≤ 1) ∨ (o = 1 ∧ m = 0) := by omega
      rcases hom' with ⟨rfl, hm'⟩ | ⟨rfl, rfl⟩
      · have : m = 0 ∨ m = 1 := by omega
        rcases this with rfl | rfl
        · rfl
        · simp only [cellsFrom, Nat.mul_one, Nat.add_zero, hcs i x hx]; rfl
      · rfl
end Go.Hai
namespace Go.Proofs.YtidmcpkbcphpiaaGreat
open Go Go.Hai
set_option maxRecDepth 20000
set_option linter.unusedSimpArgs false
set_option maxHeartbeats 2000000
attribute [local irreducible] Hai.Ends EndsR EndsO EndsD EndsX EndsE EndsK AHeap.grow okLow inN
def r0_forest_Below : List AOper := [(.mk (some 2) none (.box 1 (.tmp 0))), (.mk (some 4) none (.mv (.const (.slice none 0 0))))]
def r1_forest_Below : List AOper := [(.mk (some 6) none (.load true 1 (.tmp 2))), (.mk (some 7) none (.mv (.tmp 1))), (.mk (some 8) none (.call 166 [(.tmp 6), (.tmp 7)])), (.mk (some 9) none (.un .not (.tmp 8)))]
def r2_forest_Below : List AOper := [(.mk (some 4) none (.mv (.const (.slice none 0 0))))]
def k1_forest_Below : ACode := (.cond (.tmp 9) (.seq (.reg r2_forest_Below) .ret) .skip)
def r3_forest_Below : List AOper := [(.mk (some 10) none (.load true 1 (.tmp 2))), (.mk (some 11) none (.load true 1 (.tmp 2))), (.mk (some 12) none (.mv (.tmp 1))), (.mk (some 13) none (.call 168 [(.tmp 11), (.tmp 12)])), (.mk (some 14) none (.call 167 [(.tmp 10), (.tmp 13)])), (.mk (some 5) none (.mv (.tmp 14)))]
def r4_forest_Below : List AOper := [(.mk (some 15) none (.mv (.tmp 5))), (.mk (some 16) none (.call 95 [(.tmp 15)]))]
def r5_forest_Below : List AOper := [(.mk (some 17) none (.mv (.tmp 5))), (.mk (some 4) none (.mv (.tmp 17)))]
def k4_forest_Below : ACode := (.seq (.reg r5_forest_Below) .ret)
def k3_forest_Below : ACode := (.seq (.reg r4_forest_Below) k4_forest_Below)
def k2_forest_Below : ACode := (.seq (.drw r3_forest_Below [0, 0, 0, 6, 15, 31]) k3_forest_Below)
def k0_forest_Below : ACode := (.seq (.seq (.reg r1_forest_Below) k1_forest_Below) k2_forest_Below)
def c_forest_Below : ACode := (.seq (.reg r0_forest_Below) k0_forest_Below)
theorem e_forest_Below : ofProg Tryz.prog 101 = some ⟨18, [(.tmp 4)], c_forest_Below⟩ := by kernel_rfl
theorem sort_none : ofProg Tryz.prog 95 = none := rfl
theorem sort_ok (d : Nat) {base : Nat} {τ : AHeap} {v : Value} {l : List Int} (hd : Liv base τ) (hlow : τ.low ≤ base) (ho : OutP base τ v l) (hm : l.length ≤ 1000000) :
    ∃ τ', acall (ofProg Tryz.prog) 1000 (d + 1) 95 [v] τ = some (.tuple #[], τ') ∧ OutP base τ' v (sortI l) ∧ (∀ b, b < base → τ'.t.get b = τ.t.get b) ∧ τ'.n = τ.n ∧ τ'.low = τ.low ∧ (∀ p ∈ τ'.dead, p ∈ τ.dead ∨ p.2 < τ.n) ∧ ∃ a f, v = .slice a (sortI l).length f ∧ SlI τ' a (sortI l) := by
  obtain ⟨τ', e, h⟩ := srt_ok hd hlow ho hm
  refine ⟨τ', ?_, h⟩
  simp only [acall, sort_none]
  show (if Nat.beq 95 95 = true then srtVal [v] τ else none) = _
  rw [if_pos (Nat.beq_refl _)]
  exact e
structure Kee (σ τ : AHeap) : Prop where
  n : σ.n ≤ τ.n
  low : τ.low = σ.low
  dead : Liv τ.n τ
  row : ∀ b, b < σ.n → τ.t.get b = σ.t.get b
theorem Below_ok (d : Nat) (σ : AHeap) (up : List Int) (a : Option Addr) (f : Nat) (n : Int) (hd : Liv σ.n σ) (hlo : σ.low ≤ σ.n) (h1 : SlI σ a up) (hn : up.length < 900) (hf : forestB up = true) (hu : upB up n = true) :
    ∃ v τ, acall (ofProg Tryz.prog) 1000 (d + up.length + 4) 101 [.agg [.slice a up.length f].toArray, .int .i64 n] σ = some (v, τ) ∧ Kee σ τ ∧ ∃ a' f', v = .slice a' (sortI (belF up n)).length f' ∧ SlI τ a' (sortI (belF up n)) := by
  have hn0 : 0 ≤ n ∧ ∃ u, atI up n = some u ∧ u ≠ -2 := by
    unfold upB at hu
    cases e : atI up n with
    | none => rw [e] at hu; cases hu
    | some u =>
      rw [e] at hu
      simp only [Bool.not_eq_true', decide_eq_false_iff_not] at hu
      obtain ⟨h2, h3⟩ := atI_to e
      exact ⟨by omega, u, rfl, hu⟩
  obtain ⟨hn0, u, hu1, hu2⟩ := hn0
  have hbl := belF_len hf hn0
  have h96 : up.length ≤ 96 := by
    unfold forestB at hf
    simp only [Bool.and_eq_true, decide_eq_true_eq] at hf
    omega
  suffices hs : Hai.Ends (acode (acall (ofProg Tryz.prog) 1000 (d + up.length + 3)) 1000 c_forest_Below (Tr.of [.agg [.slice a up.length f].toArray, .int .i64 n]) (σ.fresh.grow [])) (finA σ.n [.tmp 4] fun v τ => Kee σ.fresh τ ∧ ∃ a' f', v = .slice a' (sortI (belF up n)).length f' ∧ SlI τ a' (sortI (belF up n))) by
    obtain ⟨v, τ', e, τ, ⟨g1, a', f', rfl, g2⟩, g3⟩ := acall_addr e_forest_Below (by simp) hlo hs
    rcases g3 with ⟨g3, rfl⟩ | rfl
    · refine ⟨_, _, e, ⟨Nat.le_refl _, rfl, hd, fun _ _ => rfl⟩, a', f', rfl, ?_⟩
      rcases g2 with g2 | ⟨b, rfl, _⟩
      · exact .inl g2
      · cases g3
    · exact ⟨_, _, e, ⟨g1.n, rfl, g1.dead, g1.row⟩, a', f', rfl, g2.setLow _⟩
  have hfn : σ.fresh.n = σ.n := rfl
  have hmay := fun L => forest_may_ok (d + up.length) (σ.fresh.grow L) up a f n (h1.fresh.grow L) hn
  simp (disch := omega) only [hmay, hf, hu, Bool.and_self, r0_forest_Below, r1_forest_Below, r2_forest_Below, k1_forest_Below, r3_forest_Below, r4_forest_Below, r5_forest_Below, k4_forest_Below, k3_forest_Below, k2_forest_Below, k0_forest_Below, c_forest_Below, Z0, Z1, Z2, Z3, Z4, Z5, Z6, Z7, Z8, Z9, Z10, resAll, Nat.reduceAdd, Nat.reduceEqDiff, Nat.reduceLeDiff, Nat.reduceMul, ↓reduceIte, reduceCtorEq, Nat.reduceBEq, aoper, Nat.reduceLT, Int.reduceEq, Int.reduceLT, Int.reduceLE]
  generalize hM : ([([.slice a up.length f], 1)] : List (List Value × Nat)) = M
  refine ends_drwK [(0, 3)] (by kernel_rfl) ?_
  have lo1 : (σ.fresh.grow M).low ≤ (σ.fresh.grow M).n := low_grow fresh_le M
  have dM : Liv (σ.fresh.grow M).n (σ.fresh.grow M) := Liv.gr (σ := σ.fresh) hd M
  have nM : (σ.fresh.grow M).n = σ.n + 1 := by rw [grow_n, ← hM]; rfl
  obtain ⟨v2, τ2', e2, o2', k2'⟩ := forest_of_ok (d + up.length + 2) ((σ.fresh.grow M).setLow (σ.fresh.grow M).n) up a f n dM low_set ((h1.fresh.grow M).setLow _) (by omega)
  have hk2 := fun {call : CallF} {os : List AOper} {t : Tmps} {Q : Kk} {d : Option Nat} {op : AOp} {v : Value} => kontK_call (call := call) (os := os) (t := t) (Q := Q) (d := d) (op := op) (v := v) lo1 k2'
  have k2 := k2'.unset
  rw [grow_low] at k2 hk2
  have o2 : OutP (σ.n + 1) (τ2'.setLow σ.fresh.low) v2 (ofF up n) := by
    have := o2'
    rw [setLow_n, nM] at this
    exact this
  generalize hτ2 : τ2'.setLow σ.fresh.low = τ2 at k2 hk2 o2
  have w2 : τ2.low = σ.n := by rw [k2.low, grow_low]; rfl
  have n2 : σ.n + 1 ≤ τ2.n := by have := k2.n; rw [nM] at this; exact this
  have lo2 : τ2.low ≤ τ2.n := by omega
  have d2 : Liv τ2.n τ2 := dM.keeps k2
  obtain ⟨a2, f2, rfl, s2⟩ := o2.sl (hd.of (by rw [k2.dead, grow_dead]; rfl) (by omega))
  obtain ⟨v3, τ3', e3, o3', k3'⟩ := forest_behind_ok up a f hn (up.length + 1) d (ofF up n) (τ2.setLow τ2.n) a2 f2 (ht_root hf hn0 hu1 hu2) (ofF_nodup _ _) (ofF_inR _ _) d2 low_set ((h1.fresh.keeps ((Keeps.self _ _).trans k2)).setLow _) (s2.setLow _) (by
    have := Nat.mul_le_mul (show up.length + 1 + 1 ≤ 98 by omega) h96
    omega)
  rw [show d + (up.length + 1) + 2 = d + up.length + 3 by omega] at e3
  have hk3 := fun {call : CallF} {os : List AOper} {t : Tmps} {Q : Kk} {d : Option Nat} {op : AOp} {v : Value} => kontK_call (call := call) (os := os) (t := t) (Q := Q) (d := d) (op := op) (v := v) lo2 k3'
  have k3 := k3'.unset
  rw [w2] at k3 hk3
  have o3 : OutP (σ.n + 1) (τ3'.setLow σ.n) v3 (belF up n) := (show OutP τ2.n (τ3'.setLow σ.n) v3 (belF up n) from o3').le n2
  generalize hτ3 : τ3'.setLow σ.n = τ3 at k3 hk3 o3
  have w3 : τ3.low = σ.n := by rw [k3.low]; exact w2
  have n3 : τ2.n ≤ τ3.n := k3.n
  have lo3 : τ3.low ≤ τ3.n := by omega
  have y1 : okLow (σ.fresh.grow M) = true := okLow_of lo1
  have y2 : okLow τ2 = true := okLow_of lo2
  have y3 : okLow τ3 = true := okLow_of lo3
  have z1 : inN σ.fresh.n (σ.fresh.grow M) = true := inN_of (by omega)
  have z2 := (Keeps.self σ.fresh M).n
  have z3 : (σ.fresh.grow M).t.get σ.fresh.n = some (rowOf ([.slice a up.length f], 1)) := by rw [← hM]; exact grow_new _ _ 0 rfl
  have bx : ∀ o n, (σ.fresh.grow M).loadN σ.fresh.n o n = sliceL [.slice a up.length f] o n := fun o n => by rw [← hM, ld_0]
  obtain ⟨τ4, e4, o4, r4, n4, w4, d4, a4, f4, rfl, s4⟩ := sort_ok (d + up.length + 2) (hd.of (by rw [k3.dead, k2.dead, grow_dead]; rfl) (by omega)) (show τ3.low ≤ σ.n + 1 by omega) o3 (by omega)
  simp (disch := omega) only [hk2, e4, k_1, k_nil, kontK_if, kd_load, kd_mv, kd_call, ldKind_if, famK_row, setLow_load, setLow_grown, consK_app, drwQ_app, drawOk_cons, drawOk_nil, pair_lq, pair_pq, List.getElem?_cons_succ, List.getElem?_cons_zero, bx, y1, y2, y3, z1, z3, e2, e3, hk3, r0_forest_Below, r1_forest_Below, r2_forest_Below, k1_forest_Below, r3_forest_Below, r4_forest_Below, r5_forest_Below, k4_forest_Below, k3_forest_Below, k2_forest_Below, k0_forest_Below, c_forest_Below, Z0, Z1, Z2, Z3, Z4, Z5, Z6, Z7, Z8, Z9, Z10, resAll, Nat.reduceAdd, Nat.reduceEqDiff, Nat.reduceLeDiff, Nat.reduceMul, ↓reduceIte, reduceCtorEq, Nat.reduceBEq, aoper, Nat.reduceLT, Int.reduceEq, Int.reduceLT, Int.reduceLE]
  have k13 := (Keeps.self σ.fresh M).trans (k2.trans k3)
  have nn : σ.fresh.n ≤ τ3.n := k13.n
  refine ⟨⟨⟨by omega, by rw [w4, w3]; rfl, fun p hp => ?_, fun b hb => ?_⟩, _, _, rfl, s4⟩, by rw [w4, w3]⟩
  · rcases d4 p hp with h | h
    · have := hd p (by rw [k13.dead] at h; exact h)
      omega
    · omega
  · rw [r4 b (by omega)]; exact k13.row b hb
end Go.Proofs.YtidmcpkbcphpiaaGreat
namespace Go.Proofs.YtidmcpkbcphpiaaGreat
open Go Go.Hai
set_option maxRecDepth 20000
set_option linter.unusedSimpArgs false
set_option maxHeartbeats 8000000
attribute [local irreducible] Hai.Ends EndsR EndsO EndsD EndsX AHeap.grow AHeap.itr
def r0_strings_IndexByte : List AOper := [(.mk (some 4) none (.mv (.const (.int .i64 0))))]
def r1_strings_IndexByte : List AOper := [(.mk (some 5) none (.mv (.tmp 0))), (.mk (some 6) none (.mv (.tmp 1))), (.mk (some 7) none (.call 238 [(.tmp 5), (.tmp 6)])), (.mk (some 4) none (.mv (.tmp 7)))]
def k0_strings_IndexByte : ACode := (.seq (.reg r1_strings_IndexByte) .ret)
def c_strings_IndexByte : ACode := (.seq (.reg r0_strings_IndexByte) k0_strings_IndexByte)
theorem e_strings_IndexByte : ofProg Tryz.prog 242 = some ⟨8, [(.tmp 4)], c_strings_IndexByte⟩ := by kernel_rfl
def r0_strings_IndexRune : List AOper := [(.mk (some 4) none (.mv (.const (.int .i64 0))))]
def r1_strings_IndexRune : List AOper := [(.mk (some 161) none (.mv (.tmp 1))), (.mk (some 162) none (.bin .leq (.const (.int .i32 0)) (.tmp 161))), (.mk (some 163) none (.mv (.tmp 162))), (.mk (some 164) (some (163, true)) (.mv (.tmp 1))), (.mk (some 165) (some (163, true)) (.bin .lss (.tmp 164) (.const (.int .i32 128)))), (.mk (some 166) none (.pick (.tmp 163) (.tmp 165) (.const (.bool false)))), (.mk (some 160) none (.mv (.tmp 166)))]
def r2_strings_IndexRune : List AOper := [(.mk (some 167) none (.mv (.tmp 0))), (.mk (some 168) none (.mv (.tmp 1))), (.mk (some 169) none (.conv .u8 (.tmp 168))), (.mk (some 170) none (.call 242 [(.tmp 167), (.tmp 169)])), (.mk (some 4) none (.mv (.tmp 170)))]
def r3_strings_IndexRune : List AOper := [(.mk (some 172) none (.mv (.tmp 1))), (.mk (some 173) none (.bin .eql (.tmp 172) (.const (.int .i32 65533)))), (.mk (some 171) none (.mv (.tmp 173)))]
def r4_strings_IndexRune : List AOper := [(.mk (some 174) none (.mv (.tmp 0))), (.mk (some 175) none (.rng (.tmp 174)))]
def r5_strings_IndexRune : List AOper := [(.mk (some 176) none (.next (.tmp 175))), (.mk (some 177) none (.ext (.tmp 176) 0))]
def r6_strings_IndexRune : List AOper := [(.mk (some 178) none (.ext (.tmp 176) 1)), (.mk (some 179) none (.ext (.tmp 176) 2)), (.mk (some 5) none (.mv (.tmp 178))), (.mk (some 6) none (.mv (.tmp 179)))]
def r7_strings_IndexRune : List AOper := [(.mk (some 180) none (.mv (.tmp 6))), (.mk (some 181) none (.bin .eql (.tmp 180) (.const (.int .i32 65533))))]
def r8_strings_IndexRune : List AOper := [(.mk (some 182) none (.mv (.tmp 5))), (.mk (some 4) none (.mv (.tmp 182)))]
def k7_strings_IndexRune : ACode := (.cond (.tmp 181) (.seq (.reg r8_strings_IndexRune) .ret) .skip)
def k6_strings_IndexRune : ACode := (.seq (.reg r7_strings_IndexRune) k7_strings_IndexRune)
def k5_strings_IndexRune : ACode := (.block 10 (.seq (.reg r6_strings_IndexRune) k6_strings_IndexRune))
def k4_strings_IndexRune : ACode := (.seq (.cond (.tmp 177) .skip (.exit 9)) k5_strings_IndexRune)
def b0_strings_IndexRune : ACode := (.seq (.reg r5_strings_IndexRune) k4_strings_IndexRune)
def k3_strings_IndexRune : ACode := (.block 9 (.loop b0_strings_IndexRune))
def r9_strings_IndexRune : List AOper := [(.mk (some 4) none (.mv (.const (.int .i64 (-1)))))]
def k8_strings_IndexRune : ACode := (.seq (.reg r9_strings_IndexRune) .ret)
def r10_strings_IndexRune : List AOper := [(.mk (some 184) none (.mv (.tmp 1))), (.mk (some 185) none (.call 243 [(.tmp 184)])), (.mk (some 186) none (.un .not (.tmp 185))), (.mk (some 183) none (.mv (.tmp 186)))]
def r11_strings_IndexRune : List AOper := [(.mk (some 4) none (.mv (.const (.int .i64 (-1)))))]
def k9_strings_IndexRune : ACode := (.cond (.tmp 183) (.seq (.reg r11_strings_IndexRune) .ret) .bad)
def k2_strings_IndexRune : ACode := (.cond (.tmp 171) (.seq (.seq (.reg r4_strings_IndexRune) k3_strings_IndexRune) k8_strings_IndexRune) (.seq (.reg r10_strings_IndexRune) k9_strings_IndexRune))
def k1_strings_IndexRune : ACode := (.cond (.tmp 160) (.seq (.reg r2_strings_IndexRune) .ret) (.seq (.reg r3_strings_IndexRune) k2_strings_IndexRune))
def k0_strings_IndexRune : ACode := (.block 0 (.seq (.reg r1_strings_IndexRune) k1_strings_IndexRune))
def c_strings_IndexRune : ACode := (.seq (.reg r0_strings_IndexRune) k0_strings_IndexRune)
theorem e_strings_IndexRune : ofProg Tryz.prog 218 = some ⟨187, [(.tmp 4)], c_strings_IndexRune⟩ := by kernel_rfl
def r0_strings_shouldUseASCIISet : List AOper := [(.mk (some 2) none (.mv (.const (.bool false))))]
def r1_strings_shouldUseASCIISet : List AOper := [(.mk (some 3) none (.mv (.tmp 0))), (.mk (some 4) none (.bin .gtr (.tmp 3) (.const (.int .i64 8)))), (.mk (some 2) none (.mv (.tmp 4)))]
def k0_strings_shouldUseASCIISet : ACode := (.seq (.reg r1_strings_shouldUseASCIISet) .ret)
def c_strings_shouldUseASCIISet : ACode := (.seq (.reg r0_strings_shouldUseASCIISet) k0_strings_shouldUseASCIISet)
theorem e_strings_shouldUseASCIISet : ofProg Tryz.prog 219 = some ⟨5, [(.tmp 2)], c_strings_shouldUseASCIISet⟩ := by kernel_rfl
def r0_strings_IndexAny : List AOper := [(.mk (some 4) none (.mv (.const (.int .i64 0))))]
def r1_strings_IndexAny : List AOper := [(.mk (some 11) none (.mv (.tmp 1))), (.mk (some 12) none (.bin .eql (.tmp 11) (.const (.string ⟨#[]⟩))))]
def r2_strings_IndexAny : List AOper := [(.mk (some 4) none (.mv (.const (.int .i64 (-1)))))]
def k1_strings_IndexAny : ACode := (.cond (.tmp 12) (.seq (.reg r2_strings_IndexAny) .ret) .skip)
def r3_strings_IndexAny : List AOper := [(.mk (some 13) none (.mv (.tmp 1))), (.mk (some 14) none (.lenStr (.tmp 13))), (.mk (some 15) none (.bin .eql (.tmp 14) (.const (.int .i64 1))))]
def r4_strings_IndexAny : List AOper := [(.mk (some 16) none (.mv (.tmp 1))), (.mk (some 17) none (.idxS (.tmp 16) (.const (.int .i64 0)))), (.mk (some 18) none (.conv .i32 (.tmp 17))), (.mk (some 5) none (.mv (.tmp 18)))]
def r5_strings_IndexAny : List AOper := [(.mk (some 19) none (.mv (.tmp 5))), (.mk (some 20) none (.bin .geq (.tmp 19) (.const (.int .i32 128))))]
def r6_strings_IndexAny : List AOper := [(.mk (some 5) none (.mv (.const (.int .i32 65533))))]
def k5_strings_IndexAny : ACode := (.cond (.tmp 20) (.reg r6_strings_IndexAny) .skip)
def r7_strings_IndexAny : List AOper := [(.mk (some 21) none (.mv (.tmp 0))), (.mk (some 22) none (.mv (.tmp 5))), (.mk (some 23) none (.call 218 [(.tmp 21), (.tmp 22)])), (.mk (some 4) none (.mv (.tmp 23)))]
def k6_strings_IndexAny : ACode := (.seq (.reg r7_strings_IndexAny) .ret)
def k4_strings_IndexAny : ACode := (.seq (.seq (.reg r5_strings_IndexAny) k5_strings_IndexAny) k6_strings_IndexAny)
def k3_strings_IndexAny : ACode := (.cond (.tmp 15) (.seq (.reg r4_strings_IndexAny) k4_strings_IndexAny) .skip)
def r8_strings_IndexAny : List AOper := [(.mk (some 24) none (.mv (.tmp 0))), (.mk (some 25) none (.lenStr (.tmp 24))), (.mk (some 26) none (.call 219 [(.tmp 25)]))]
def r9_strings_IndexAny : List AOper := [(.mk (some 28) none (.mv (.tmp 1))), (.mk (some 29) none (.call 220 [(.tmp 28)])), (.mk (some 27) none (.mv (.tmp 29))), (.mk (some 30) none (.ext (.tmp 27) 0)), (.mk (some 31) none (.ext (.tmp 27) 1)), (.mk (some 6) none (.alloc [(.bool false), (.bool false), (.bool false), (.bool false), (.bool false), (.bool false), (.bool false), (.bool false), (.bool false), (.bool false), (.bool false), (.bool false), (.bool false), (.bool false), (.bool false), (.bool false), (.bool false), (.bool false), (.bool false), (.bool false), (.bool false), (.bool false), (.bool false), (.bool false), (.bool false), (.bool false), (.bool false), (.bool false), (.bool false), (.bool false), (.bool false), (.bool false), (.bool false), (.bool false), (.bool false), (.bool false), (.bool false), (.bool false), (.bool false), (.bool false), (.bool false), (.bool false), (.bool false), (.bool false), (.bool false), (.bool false), (.bool false), (.bool false), (.bool false), (.bool false), (.bool false), (.bool false), (.bool false), (.bool false), (.bool false), (.bool false), (.bool false), (.bool false), (.bool false), (.bool false), (.bool false), (.bool false), (.bool false), (.bool false), (.bool false), (.bool false), (.bool false), (.bool false), (.bool false), (.bool false), (.bool false), (.bool false), (.bool false), (.bool false), (.bool false), (.bool false), (.bool false), (.bool false), (.bool false), (.bool false), (.bool false), (.bool false), (.bool false), (.bool false), (.bool false), (.bool false), (.bool false), (.bool false), (.bool false), (.bool false), (.bool false), (.bool false), (.bool false), (.bool false), (.bool false), (.bool false), (.bool false), (.bool false), (.bool false), (.bool false), (.bool false), (.bool false), (.bool false), (.bool false), (.bool false), (.bool false), (.bool false), (.bool false), (.bool false), (.bool false), (.bool false), (.bool false), (.bool false), (.bool false), (.bool false), (.bool false), (.bool false), (.bool false), (.bool false), (.bool false), (.bool false), (.bool false), (.bool false), (.bool false), (.bool false), (.bool false), (.bool false), (.bool false), (.bool false), (.bool false), (.bool false), (.bool false), (.bool false), (.bool false), (.bool false), (.bool false), (.bool false), (.bool false), (.bool false), (.bool false), (.bool false), (.bool false), (.bool false), (.bool false), (.bool false), (.bool false), (.bool false), (.bool false), (.bool false), (.bool false), (.bool false), (.bool false), (.bool false), (.bool false), (.bool false), (.bool false), (.bool false), (.bool false), (.bool false), (.bool false), (.bool false), (.bool false), (.bool false), (.bool false), (.bool false), (.bool false), (.bool false), (.bool false), (.bool false), (.bool false), (.bool false), (.bool false), (.bool false), (.bool false), (.bool false), (.bool false), (.bool false), (.bool false), (.bool false), (.bool false), (.bool false), (.bool false), (.bool false), (.bool false), (.bool false), (.bool false), (.bool false), (.bool false), (.bool false), (.bool false), (.bool false), (.bool false), (.bool false), (.bool false), (.bool false), (.bool false), (.bool false), (.bool false), (.bool false), (.bool false), (.bool false), (.bool false), (.bool false), (.bool false), (.bool false), (.bool false), (.bool false), (.bool false), (.bool false), (.bool false), (.bool false), (.bool false), (.bool false), (.bool false), (.bool false), (.bool false), (.bool false), (.bool false), (.bool false), (.bool false), (.bool false), (.bool false), (.bool false), (.bool false), (.bool false), (.bool false), (.bool false), (.bool false), (.bool false), (.bool false), (.bool false), (.bool false), (.bool false), (.bool false), (.bool false), (.bool false), (.bool false), (.bool false), (.bool false), (.bool false), (.bool false), (.bool false), (.bool false), (.bool false), (.bool false), (.bool false), (.bool false), (.bool false), (.bool false), (.bool false), (.bool false), (.bool false), (.bool false), (.bool false), (.bool false), (.bool false)] 256)), (.mk none none (.store 256 (.tmp 6) (.tmp 30))), (.mk (some 7) none (.mv (.tmp 31)))]
def r10_strings_IndexAny : List AOper := [(.mk (some 32) none (.mv (.tmp 7)))]
def r11_strings_IndexAny : List AOper := [(.mk (some 8) none (.mv (.const (.int .i64 0))))]
def r12_strings_IndexAny : List AOper := [(.mk (some 33) none (.mv (.tmp 8))), (.mk (some 34) none (.mv (.tmp 0))), (.mk (some 35) none (.lenStr (.tmp 34))), (.mk (some 36) none (.bin .lss (.tmp 33) (.tmp 35)))]
def k12_strings_IndexAny : ACode := (.cond (.tmp 36) .skip (.exit 0))
def r13_strings_IndexAny : List AOper := [(.mk (some 39) none (.mv (.tmp 0))), (.mk (some 40) none (.mv (.tmp 8))), (.mk (some 41) none (.idxS (.tmp 39) (.tmp 40))), (.mk (some 42) none (.call 221 [(.tmp 6), (.tmp 41)]))]
def r14_strings_IndexAny : List AOper := [(.mk (some 43) none (.mv (.tmp 8))), (.mk (some 4) none (.mv (.tmp 43)))]
def k14_strings_IndexAny : ACode := (.cond (.tmp 42) (.seq (.reg r14_strings_IndexAny) .ret) .skip)
def r15_strings_IndexAny : List AOper := [(.mk (some 37) none (.mv (.tmp 8))), (.mk (some 38) none (.bin .add (.tmp 37) (.const (.int .i64 1)))), (.mk (some 8) none (.mv (.tmp 38)))]
def k15_strings_IndexAny : ACode := (.reg r15_strings_IndexAny)
def k13_strings_IndexAny : ACode := (.seq (.block 1 (.seq (.reg r13_strings_IndexAny) k14_strings_IndexAny)) k15_strings_IndexAny)
def b0_strings_IndexAny : ACode := (.seq (.seq (.reg r12_strings_IndexAny) k12_strings_IndexAny) k13_strings_IndexAny)
def k11_strings_IndexAny : ACode := (.block 0 (.loop b0_strings_IndexAny))
def r16_strings_IndexAny : List AOper := [(.mk (some 4) none (.mv (.const (.int .i64 (-1)))))]
def k16_strings_IndexAny : ACode := (.seq (.reg r16_strings_IndexAny) .ret)
def k10_strings_IndexAny : ACode := (.cond (.tmp 32) (.seq (.seq (.reg r11_strings_IndexAny) k11_strings_IndexAny) k16_strings_IndexAny) .skip)
def k9_strings_IndexAny : ACode := (.seq (.reg r10_strings_IndexAny) k10_strings_IndexAny)
def k8_strings_IndexAny : ACode := (.cond (.tmp 26) (.seq (.reg r9_strings_IndexAny) k9_strings_IndexAny) .skip)
def r17_strings_IndexAny : List AOper := [(.mk (some 44) none (.mv (.tmp 0))), (.mk (some 45) none (.rng (.tmp 44)))]
def r18_strings_IndexAny : List AOper := [(.mk (some 46) none (.next (.tmp 45))), (.mk (some 47) none (.ext (.tmp 46) 0))]
def r19_strings_IndexAny : List AOper := [(.mk (some 48) none (.ext (.tmp 46) 1)), (.mk (some 49) none (.ext (.tmp 46) 2)), (.mk (some 9) none (.mv (.tmp 48))), (.mk (some 10) none (.mv (.tmp 49)))]
def r20_strings_IndexAny : List AOper := [(.mk (some 50) none (.mv (.tmp 1))), (.mk (some 51) none (.mv (.tmp 10))), (.mk (some 52) none (.call 218 [(.tmp 50), (.tmp 51)])), (.mk (some 53) none (.bin .geq (.tmp 52) (.const (.int .i64 0))))]
def r21_strings_IndexAny : List AOper := [(.mk (some 54) none (.mv (.tmp 9))), (.mk (some 4) none (.mv (.tmp 54)))]
def k22_strings_IndexAny : ACode := (.cond (.tmp 53) (.seq (.reg r21_strings_IndexAny) .ret) .skip)
def k21_strings_IndexAny : ACode := (.seq (.reg r20_strings_IndexAny) k22_strings_IndexAny)
def k20_strings_IndexAny : ACode := (.block 3 (.seq (.reg r19_strings_IndexAny) k21_strings_IndexAny))
def k19_strings_IndexAny : ACode := (.seq (.cond (.tmp 47) .skip (.exit 2)) k20_strings_IndexAny)
def b1_strings_IndexAny : ACode := (.seq (.reg r18_strings_IndexAny) k19_strings_IndexAny)
def k18_strings_IndexAny : ACode := (.block 2 (.loop b1_strings_IndexAny))
def r22_strings_IndexAny : List AOper := [(.mk (some 4) none (.mv (.const (.int .i64 (-1)))))]
def k23_strings_IndexAny : ACode := (.seq (.reg r22_strings_IndexAny) .ret)
def k17_strings_IndexAny : ACode := (.seq (.seq (.reg r17_strings_IndexAny) k18_strings_IndexAny) k23_strings_IndexAny)
def k7_strings_IndexAny : ACode := (.seq (.seq (.reg r8_strings_IndexAny) k8_strings_IndexAny) k17_strings_IndexAny)
def k2_strings_IndexAny : ACode := (.seq (.seq (.reg r3_strings_IndexAny) k3_strings_IndexAny) k7_strings_IndexAny)
def k0_strings_IndexAny : ACode := (.seq (.seq (.reg r1_strings_IndexAny) k1_strings_IndexAny) k2_strings_IndexAny)
def c_strings_IndexAny : ACode := (.seq (.reg r0_strings_IndexAny) k0_strings_IndexAny)
theorem e_strings_IndexAny : ofProg Tryz.prog 174 = some ⟨55, [(.tmp 4)], c_strings_IndexAny⟩ := by kernel_rfl
def r0_strings_ContainsAny : List AOper := [(.mk (some 4) none (.mv (.const (.bool false))))]
def r1_strings_ContainsAny : List AOper := [(.mk (some 5) none (.mv (.tmp 0))), (.mk (some 6) none (.mv (.tmp 1))), (.mk (some 7) none (.call 174 [(.tmp 5), (.tmp 6)])), (.mk (some 8) none (.bin .geq (.tmp 7) (.const (.int .i64 0)))), (.mk (some 4) none (.mv (.tmp 8)))]
def k0_strings_ContainsAny : ACode := (.seq (.reg r1_strings_ContainsAny) .ret)
def c_strings_ContainsAny : ACode := (.seq (.reg r0_strings_ContainsAny) k0_strings_ContainsAny)
theorem e_strings_ContainsAny : ofProg Tryz.prog 109 = some ⟨9, [(.tmp 4)], c_strings_ContainsAny⟩ := by kernel_rfl
def lOf (op : Int) : ByteArray := if op = 1 then ⟨#[65, 66, 88, 89]⟩ else if op = 2 then ⟨#[65, 66, 88]⟩ else if op = 3 then ⟨#[65, 66, 88, 89]⟩ else if op = 4 then ⟨#[65, 66]⟩ else if op = 5 then ⟨#[65]⟩ else if op = 6 then ⟨#[65]⟩ else if op = 7 then ⟨#[65, 98, 87]⟩ else if op = 8 then ⟨#[65, 98]⟩ else if op = 9 then ⟨#[65]⟩ else if op = 10 then ⟨#[65]⟩ else if op = 11 then ⟨#[65, 88, 87]⟩ else if op = 12 then ⟨#[65, 88]⟩ else if op = 13 then ⟨#[65]⟩ else ⟨#[]⟩
def wOf (op : Int) : ByteArray := if op = 1 then ⟨#[109, 97, 107, 101]⟩ else if op = 2 then ⟨#[99, 111, 112, 121]⟩ else if op = 3 then ⟨#[109, 105, 110, 116]⟩ else if op = 4 then ⟨#[109, 111, 118, 101]⟩ else if op = 5 then ⟨#[100, 101, 108, 101, 116, 101]⟩ else if op = 6 then ⟨#[114, 101, 118, 111, 107, 101]⟩ else if op = 7 then ⟨#[115, 101, 110, 100]⟩ else if op = 8 then ⟨#[114, 101, 99, 118]⟩ else if op = 9 then ⟨#[114, 105, 110, 103]⟩ else if op = 10 then ⟨#[112, 111, 108, 108]⟩ else if op = 11 then ⟨#[119, 114, 105, 116, 101]⟩ else if op = 12 then ⟨#[114, 101, 97, 100]⟩ else if op = 13 then ⟨#[116, 101, 108, 108]⟩ else ⟨#[]⟩
theorem sl14_1 {x0 x1 x2 x3 x4 x5 x6 x7 x8 x9 x10 x11 x12 x13 : Value} : sliceL [x0, x1, x2, x3, x4, x5, x6, x7, x8, x9, x10, x11, x12, x13] 1 1 = some [x1] := rfl
theorem sl14_2 {x0 x1 x2 x3 x4 x5 x6 x7 x8 x9 x10 x11 x12 x13 : Value} : sliceL [x0, x1, x2, x3, x4, x5, x6, x7, x8, x9, x10, x11, x12, x13] 2 1 = some [x2] := rfl
theorem sl14_3 {x0 x1 x2 x3 x4 x5 x6 x7 x8 x9 x10 x11 x12 x13 : Value} : sliceL [x0, x1, x2, x3, x4, x5, x6, x7, x8, x9, x10, x11, x12, x13] 3 1 = some [x3] := rfl
theorem sl14_4 {x0 x1 x2 x3 x4 x5 x6 x7 x8 x9 x10 x11 x12 x13 : Value} : sliceL [x0, x1, x2, x3, x4, x5, x6, x7, x8, x9, x10, x11, x12, x13] 4 1 = some [x4] := rfl
theorem sl14_5 {x0 x1 x2 x3 x4 x5 x6 x7 x8 x9 x10 x11 x12 x13 : Value} : sliceL [x0, x1, x2, x3, x4, x5, x6, x7, x8, x9, x10, x11, x12, x13] 5 1 = some [x5] := rfl
theorem sl14_6 {x0 x1 x2 x3 x4 x5 x6 x7 x8 x9 x10 x11 x12 x13 : Value} : sliceL [x0, x1, x2, x3, x4, x5, x6, x7, x8, x9, x10, x11, x12, x13] 6 1 = some [x6] := rfl
theorem sl14_9 {x0 x1 x2 x3 x4 x5 x6 x7 x8 x9 x10 x11 x12 x13 : Value} : sliceL [x0, x1, x2, x3, x4, x5, x6, x7, x8, x9, x10, x11, x12, x13] 9 1 = some [x9] := rfl
theorem sl14_10 {x0 x1 x2 x3 x4 x5 x6 x7 x8 x9 x10 x11 x12 x13 : Value} : sliceL [x0, x1, x2, x3, x4, x5, x6, x7, x8, x9, x10, x11, x12, x13] 10 1 = some [x10] := rfl
theorem sl14_11 {x0 x1 x2 x3 x4 x5 x6 x7 x8 x9 x10 x11 x12 x13 : Value} : sliceL [x0, x1, x2, x3, x4, x5, x6, x7, x8, x9, x10, x11, x12, x13] 11 1 = some [x11] := rfl
theorem sl14_12 {x0 x1 x2 x3 x4 x5 x6 x7 x8 x9 x10 x11 x12 x13 : Value} : sliceL [x0, x1, x2, x3, x4, x5, x6, x7, x8, x9, x10, x11, x12, x13] 12 1 = some [x12] := rfl
theorem sl14_13 {x0 x1 x2 x3 x4 x5 x6 x7 x8 x9 x10 x11 x12 x13 : Value} : sliceL [x0, x1, x2, x3, x4, x5, x6, x7, x8, x9, x10, x11, x12, x13] 13 1 = some [x13] := rfl
theorem fields_1 (d : Nat) (σ : AHeap) : acall (ofProg Tryz.prog) 1000 (d + 5) 107 [.int .i64 1] σ = some (.tuple [.string ⟨#[109, 97, 107, 101]⟩, .string ⟨#[65, 66, 88, 89]⟩].toArray, σ) := by
  refine acall_flat e_call_fields (by simp) rfl ?_
  have hc := fun L => Cut_ok d (σ.fresh.grow L) ⟨#[109, 97, 107, 101, 32, 65, 66, 88, 89]⟩ ⟨#[109, 97, 107, 101]⟩ ⟨#[65, 66, 88, 89]⟩ 4 (by decide +kernel) (by decide +kernel) (by decide) (by decide) rfl rfl
  have e : (1 : Int).toNat = 1 := rfl
  simp (disch := omega) only [isCell_s, cells_s, sl14_1, hc, e, Nat.beq_refl, r0_call_fields, r1_call_fields, r2_call_fields, r3_call_fields, k2_call_fields, r4_call_fields, r5_call_fields, k4_call_fields, k3_call_fields, k1_call_fields, k0_call_fields, c_call_fields, Z0, Z1, Z2, Z3, Z4, Z5, Z6, Z7, Z8, Z9, Z10, resAll, Nat.reduceAdd, Nat.reduceEqDiff, Nat.reduceLeDiff, Nat.reduceMul, ↓reduceIte, reduceCtorEq, Nat.reduceBEq, aoper, Nat.reduceLT, Int.reduceEq, Int.reduceLT, Int.reduceLE]
theorem fields_2 (d : Nat) (σ : AHeap) : acall (ofProg Tryz.prog) 1000 (d + 5) 107 [.int .i64 2] σ = some (.tuple [.string ⟨#[99, 111, 112, 121]⟩, .string ⟨#[65, 66, 88]⟩].toArray, σ) := by
  refine acall_flat e_call_fields (by simp) rfl ?_
  have hc := fun L => Cut_ok d (σ.fresh.grow L) ⟨#[99, 111, 112, 121, 32, 65, 66, 88]⟩ ⟨#[99, 111, 112, 121]⟩ ⟨#[65, 66, 88]⟩ 4 (by decide +kernel) (by decide +kernel) (by decide) (by decide) rfl rfl
  have e : (2 : Int).toNat = 2 := rfl
  simp (disch := omega) only [isCell_s, cells_s, sl14_2, hc, e, Nat.beq_refl, r0_call_fields, r1_call_fields, r2_call_fields, r3_call_fields, k2_call_fields, r4_call_fields, r5_call_fields, k4_call_fields, k3_call_fields, k1_call_fields, k0_call_fields, c_call_fields, Z0, Z1, Z2, Z3, Z4, Z5, Z6, Z7, Z8, Z9, Z10, resAll, Nat.reduceAdd, Nat.reduceEqDiff, Nat.reduceLeDiff, Nat.reduceMul, ↓reduceIte, reduceCtorEq, Nat.reduceBEq, aoper, Nat.reduceLT, Int.reduceEq, Int.reduceLT, Int.reduceLE]
theorem fields_3 (d : Nat) (σ : AHeap) : acall (ofProg Tryz.prog) 1000 (d + 5) 107 [.int .i64 3] σ = some (.tuple [.string ⟨#[109, 105, 110, 116]⟩, .string ⟨#[65, 66, 88, 89]⟩].toArray, σ) := by
  refine acall_flat e_call_fields (by simp) rfl ?_
  have hc := fun L => Cut_ok d (σ.fresh.grow L) ⟨#[109, 105, 110, 116, 32, 65, 66, 88, 89]⟩ ⟨#[109, 105, 110, 116]⟩ ⟨#[65, 66, 88, 89]⟩ 4 (by decide +kernel) (by decide +kernel) (by decide) (by decide) rfl rfl
  have e : (3 : Int).toNat = 3 := rfl
  simp (disch := omega) only [isCell_s, cells_s, sl14_3, hc, e, Nat.beq_refl, r0_call_fields, r1_call_fields, r2_call_fields, r3_call_fields, k2_call_fields, r4_call_fields, r5_call_fields, k4_call_fields, k3_call_fields, k1_call_fields, k0_call_fields, c_call_fields, Z0, Z1, Z2, Z3, Z4, Z5, Z6, Z7, Z8, Z9, Z10, resAll, Nat.reduceAdd, Nat.reduceEqDiff, Nat.reduceLeDiff, Nat.reduceMul, ↓reduceIte, reduceCtorEq, Nat.reduceBEq, aoper, Nat.reduceLT, Int.reduceEq, Int.reduceLT, Int.reduceLE]
theorem fields_4 (d : Nat) (σ : AHeap) : acall (ofProg Tryz.prog) 1000 (d + 5) 107 [.int .i64 4] σ = some (.tuple [.string ⟨#[109, 111, 118, 101]⟩, .string ⟨#[65, 66]⟩].toArray, σ) := by
  refine acall_flat e_call_fields (by simp) rfl ?_
  have hc := fun L => Cut_ok d (σ.fresh.grow L) ⟨#[109, 111, 118, 101, 32, 65, 66]⟩ ⟨#[109, 111, 118, 101]⟩ ⟨#[65, 66]⟩ 4 (by decide +kernel) (by decide +kernel) (by decide) (by decide) rfl rfl
  have e : (4 : Int).toNat = 4 := rfl
  simp (disch := omega) only [isCell_s, cells_s, sl14_4, hc, e, Nat.beq_refl, r0_call_fields, r1_call_fields, r2_call_fields, r3_call_fields, k2_call_fields, r4_call_fields, r5_call_fields, k4_call_fields, k3_call_fields, k1_call_fields, k0_call_fields, c_call_fields, Z0, Z1, Z2, Z3, Z4, Z5, Z6, Z7, Z8, Z9, Z10, resAll, Nat.reduceAdd, Nat.reduceEqDiff, Nat.reduceLeDiff, Nat.reduceMul, ↓reduceIte, reduceCtorEq, Nat.reduceBEq, aoper, Nat.reduceLT, Int.reduceEq, Int.reduceLT, Int.reduceLE]
theorem fields_5 (d : Nat) (σ : AHeap) : acall (ofProg Tryz.prog) 1000 (d + 5) 107 [.int .i64 5] σ = some (.tuple [.string ⟨#[100, 101, 108, 101, 116, 101]⟩, .string ⟨#[65]⟩].toArray, σ) := by
  refine acall_flat e_call_fields (by simp) rfl ?_
  have hc := fun L => Cut_ok d (σ.fresh.grow L) ⟨#[100, 101, 108, 101, 116, 101, 32, 65]⟩ ⟨#[100, 101, 108, 101, 116, 101]⟩ ⟨#[65]⟩ 6 (by decide +kernel) (by decide +kernel) (by decide) (by decide) rfl rfl
  have e : (5 : Int).toNat = 5 := rfl
  simp (disch := omega) only [isCell_s, cells_s, sl14_5, hc, e, Nat.beq_refl, r0_call_fields, r1_call_fields, r2_call_fields, r3_call_fields, k2_call_fields, r4_call_fields, r5_call_fields, k4_call_fields, k3_call_fields, k1_call_fields, k0_call_fields, c_call_fields, Z0, Z1, Z2, Z3, Z4, Z5, Z6, Z7, Z8, Z9, Z10, resAll, Nat.reduceAdd, Nat.reduceEqDiff, Nat.reduceLeDiff, Nat.reduceMul, ↓reduceIte, reduceCtorEq, Nat.reduceBEq, aoper, Nat.reduceLT, Int.reduceEq, Int.reduceLT, Int.reduceLE]
theorem fields_6 (d : Nat) (σ : AHeap) : acall (ofProg Tryz.prog) 1000 (d + 5) 107 [.int .i64 6] σ = some (.tuple [.string ⟨#[114, 101, 118, 111, 107, 101]⟩, .string ⟨#[65]⟩].toArray, σ) := by
  refine acall_flat e_call_fields (by simp) rfl ?_
  have hc := fun L => Cut_ok d (σ.fresh.grow L) ⟨#[114, 101, 118, 111, 107, 101, 32, 65]⟩ ⟨#[114, 101, 118, 111, 107, 101]⟩ ⟨#[65]⟩ 6 (by decide +kernel) (by decide +kernel) (by decide) (by decide) rfl rfl
  have e : (6 : Int).toNat = 6 := rfl
  simp (disch := omega) only [isCell_s, cells_s, sl14_6, hc, e, Nat.beq_refl, r0_call_fields, r1_call_fields, r2_call_fields, r3_call_fields, k2_call_fields, r4_call_fields, r5_call_fields, k4_call_fields, k3_call_fields, k1_call_fields, k0_call_fields, c_call_fields, Z0, Z1, Z2, Z3, Z4, Z5, Z6, Z7, Z8, Z9, Z10, resAll, Nat.reduceAdd, Nat.reduceEqDiff, Nat.reduceLeDiff, Nat.reduceMul, ↓reduceIte, reduceCtorEq, Nat.reduceBEq, aoper, Nat.reduceLT, Int.reduceEq, Int.reduceLT, Int.reduceLE]
theorem fields_7 (d : Nat) (σ : AHeap) : acall (ofProg Tryz.prog) 1000 (d + 5) 107 [.int .i64 7] σ = some (.tuple [.string ⟨#[115, 101, 110, 100]⟩, .string ⟨#[65, 98, 87]⟩].toArray, σ) := by
  refine acall_flat e_call_fields (by simp) rfl ?_
  have hc := fun L => Cut_ok d (σ.fresh.grow L) ⟨#[115, 101, 110, 100, 32, 65, 98, 87]⟩ ⟨#[115, 101, 110, 100]⟩ ⟨#[65, 98, 87]⟩ 4 (by decide +kernel) (by decide +kernel) (by decide) (by decide) rfl rfl
  have e : (7 : Int).toNat = 7 := rfl
  simp (disch := omega) only [isCell_s, cells_s, sl14_7, hc, e, Nat.beq_refl, r0_call_fields, r1_call_fields, r2_call_fields, r3_call_fields, k2_call_fields, r4_call_fields, r5_call_fields, k4_call_fields, k3_call_fields, k1_call_fields, k0_call_fields, c_call_fields, Z0, Z1, Z2, Z3, Z4, Z5, Z6, Z7, Z8, Z9, Z10, resAll, Nat.reduceAdd, Nat.reduceEqDiff, Nat.reduceLeDiff, Nat.reduceMul, ↓reduceIte, reduceCtorEq, Nat.reduceBEq, aoper, Nat.reduceLT, Int.reduceEq, Int.reduceLT, Int.reduceLE]
theorem fields_8 (d : Nat) (σ : AHeap) : acall (ofProg Tryz.prog) 1000 (d + 5) 107 [.int .i64 8] σ = some (.tuple [.string ⟨#[114, 101, 99, 118]⟩, .string ⟨#[65, 98]⟩].toArray, σ) := by
  refine acall_flat e_call_fields (by simp) rfl ?_
  have hc := fun L => Cut_ok d (σ.fresh.grow L) ⟨#[114, 101, 99, 118, 32, 65, 98]⟩ ⟨#[114, 101, 99, 118]⟩ ⟨#[65, 98]⟩ 4 (by decide +kernel) (by decide +kernel) (by decide) (by decide) rfl rfl
  have e : (8 : Int).toNat = 8 := rfl
  simp (disch := omega) only [isCell_s, cells_s, sl14_8, hc, e, Nat.beq_refl, r0_call_fields, r1_call_fields, r2_call_fields, r3_call_fields, k2_call_fields, r4_call_fields, r5_call_fields, k4_call_fields, k3_call_fields, k1_call_fields, k0_call_fields, c_call_fields, Z0, Z1, Z2, Z3, Z4, Z5, Z6, Z7, Z8, Z9, Z10, resAll, Nat.reduceAdd, Nat.reduceEqDiff, Nat.reduceLeDiff, Nat.reduceMul, ↓reduceIte, reduceCtorEq, Nat.reduceBEq, aoper, Nat.reduceLT, Int.reduceEq, Int.reduceLT, Int.reduceLE]
theorem fields_9 (d : Nat) (σ : AHeap) : acall (ofProg Tryz.prog) 1000 (d + 5) 107 [.int .i64 9] σ = some (.tuple [.string ⟨#[114, 105, 110, 103]⟩, .string ⟨#[65]⟩].toArray, σ) := by
  refine acall_flat e_call_fields (by simp) rfl ?_
  have hc := fun L => Cut_ok d (σ.fresh.grow L) ⟨#[114, 105, 110, 103, 32, 65]⟩ ⟨#[114, 105, 110, 103]⟩ ⟨#[65]⟩ 4 (by decide +kernel) (by decide +kernel) (by decide) (by decide) rfl rfl
  have e : (9 : Int).toNat = 9 := rfl
  simp (disch := omega) only [isCell_s, cells_s, sl14_9, hc, e, Nat.beq_refl, r0_call_fields, r1_call_fields, r2_call_fields, r3_call_fields, k2_call_fields, r4_call_fields, r5_call_fields, k4_call_fields, k3_call_fields, k1_call_fields, k0_call_fields, c_call_fields, Z0, Z1, Z2, Z3, Z4, Z5, Z6, Z7, Z8, Z9, Z10, resAll, Nat.reduceAdd, Nat.reduceEqDiff, Nat.reduceLeDiff, Nat.reduceMul, ↓reduceIte, reduceCtorEq, Nat.reduceBEq, aoper, Nat.reduceLT, Int.reduceEq, Int.reduceLT, Int.reduceLE]
theorem fields_10 (d : Nat) (σ : AHeap) : acall (ofProg Tryz.prog) 1000 (d + 5) 107 [.int .i64 10] σ = some (.tuple [.string ⟨#[112, 111, 108, 108]⟩, .string ⟨#[65]⟩].toArray, σ) := by
  refine acall_flat e_call_fields (by simp) rfl ?_
  have hc := fun L => Cut_ok d (σ.fresh.grow L) ⟨#[112, 111, 108, 108, 32, 65]⟩ ⟨#[112, 111, 108, 108]⟩ ⟨#[65]⟩ 4 (by decide +kernel) (by decide +kernel) (by decide) (by decide) rfl rfl
  have e : (10 : Int).toNat = 10 := rfl
  simp (disch := omega) only [isCell_s, cells_s, sl14_10, hc, e, Nat.beq_refl, r0_call_fields, r1_call_fields, r2_call_fields, r3_call_fields, k2_call_fields, r4_call_fields, r5_call_fields, k4_call_fields, k3_call_fields, k1_call_fields, k0_call_fields, c_call_fields, Z0, Z1, Z2, Z3, Z4, Z5, Z6, Z7, Z8, Z9, Z10, resAll, Nat.reduceAdd, Nat.reduceEqDiff, Nat.reduceLeDiff, Nat.reduceMul, ↓reduceIte, reduceCtorEq, Nat.reduceBEq, aoper, Nat.reduceLT, Int.reduceEq, Int.reduceLT, Int.reduceLE]
theorem fields_11 (d : Nat) (σ : AHeap) : acall (ofProg Tryz.prog) 1000 (d + 5) 107 [.int .i64 11] σ = some (.tuple [.string ⟨#[119, 114, 105, 116, 101]⟩, .string ⟨#[65, 88, 87]⟩].toArray, σ) := by
  refine acall_flat e_call_fields (by simp) rfl ?_
  have hc := fun L => Cut_ok d (σ.fresh.grow L) ⟨#[119, 114, 105, 116, 101, 32, 65, 88, 87]⟩ ⟨#[119, 114, 105, 116, 101]⟩ ⟨#[65, 88, 87]⟩ 5 (by decide +kernel) (by decide +kernel) (by decide) (by decide) rfl rfl
  have e : (11 : Int).toNat = 11 := rfl
  simp (disch := omega) only [isCell_s, cells_s, sl14_11, hc, e, Nat.beq_refl, r0_call_fields, r1_call_fields, r2_call_fields, r3_call_fields, k2_call_fields, r4_call_fields, r5_call_fields, k4_call_fields, k3_call_fields, k1_call_fields, k0_call_fields, c_call_fields, Z0, Z1, Z2, Z3, Z4, Z5, Z6, Z7, Z8, Z9, Z10, resAll, Nat.reduceAdd, Nat.reduceEqDiff, Nat.reduceLeDiff, Nat.reduceMul, ↓reduceIte, reduceCtorEq, Nat.reduceBEq, aoper, Nat.reduceLT, Int.reduceEq, Int.reduceLT, Int.reduceLE]
theorem fields_12 (d : Nat) (σ : AHeap) : acall (ofProg Tryz.prog) 1000 (d + 5) 107 [.int .i64 12] σ = some (.tuple [.string ⟨#[114, 101, 97, 100]⟩, .string ⟨#[65, 88]⟩].toArray, σ) := by
  refine acall_flat e_call_fields (by simp) rfl ?_
  have hc := fun L => Cut_ok d (σ.fresh.grow L) ⟨#[114, 101, 97, 100, 32, 65, 88]⟩ ⟨#[114, 101, 97, 100]⟩ ⟨#[65, 88]⟩ 4 (by decide +kernel) (by decide +kernel) (by decide) (by decide) rfl rfl
  have e : (12 : Int).toNat = 12 := rfl
  simp (disch := omega) only [isCell_s, cells_s, sl14_12, hc, e, Nat.beq_refl, r0_call_fields, r1_call_fields, r2_call_fields, r3_call_fields, k2_call_fields, r4_call_fields, r5_call_fields, k4_call_fields, k3_call_fields, k1_call_fields, k0_call_fields, c_call_fields, Z0, Z1, Z2, Z3, Z4, Z5, Z6, Z7, Z8, Z9, Z10, resAll, Nat.reduceAdd, Nat.reduceEqDiff, Nat.reduceLeDiff, Nat.reduceMul, ↓reduceIte, reduceCtorEq, Nat.reduceBEq, aoper, Nat.reduceLT, Int.reduceEq, Int.reduceLT, Int.reduceLE]
theorem fields_13 (d : Nat) (σ : AHeap) : acall (ofProg Tryz.prog) 1000 (d + 5) 107 [.int .i64 13] σ = some (.tuple [.string ⟨#[116, 101, 108, 108]⟩, .string ⟨#[65]⟩].toArray, σ) := by
  refine acall_flat e_call_fields (by simp) rfl ?_
  have hc := fun L => Cut_ok d (σ.fresh.grow L) ⟨#[116, 101, 108, 108, 32, 65]⟩ ⟨#[116, 101, 108, 108]⟩ ⟨#[65]⟩ 4 (by decide +kernel) (by decide +kernel) (by decide) (by decide) rfl rfl
  have e : (13 : Int).toNat = 13 := rfl
  simp (disch := omega) only [isCell_s, cells_s, sl14_13, hc, e, Nat.beq_refl, r0_call_fields, r1_call_fields, r2_call_fields, r3_call_fields, k2_call_fields, r4_call_fields, r5_call_fields, k4_call_fields, k3_call_fields, k1_call_fields, k0_call_fields, c_call_fields, Z0, Z1, Z2, Z3, Z4, Z5, Z6, Z7, Z8, Z9, Z10, resAll, Nat.reduceAdd, Nat.reduceEqDiff, Nat.reduceLeDiff, Nat.reduceMul, ↓reduceIte, reduceCtorEq, Nat.reduceBEq, aoper, Nat.reduceLT, Int.reduceEq, Int.reduceLT, Int.reduceLE]
theorem ops13 {op : Int} (h : ¬ (op < 1 ∨ 13 < op)) : op = 1 ∨ op = 2 ∨ op = 3 ∨ op = 4 ∨ op = 5 ∨ op = 6 ∨ op = 7 ∨ op = 8 ∨ op = 9 ∨ op = 10 ∨ op = 11 ∨ op = 12 ∨ op = 13 := by omega
theorem lOf_none {op : Int} (h : op < 1 ∨ 13 < op) : lOf op = ⟨#[]⟩ := by unfold lOf; repeat rw [if_neg (by omega)]
theorem wOf_none {op : Int} (h : op < 1 ∨ 13 < op) : wOf op = ⟨#[]⟩ := by unfold wOf; repeat rw [if_neg (by omega)]
theorem call_fields_ok (d : Nat) (σ : AHeap) (op : Int) : acall (ofProg Tryz.prog) 1000 (d + 5) 107 [.int .i64 op] σ = some (.tuple [.string (wOf op), .string (lOf op)].toArray, σ) := by
  by_cases h : op < 1 ∨ 13 < op
  · rw [lOf_none h, wOf_none h]
    refine acall_flat e_call_fields (by simp) rfl ?_
    by_cases h1 : op < 1
    · simp (disch := omega) only [isCell_s, cells_s, h1, Nat.beq_refl, r0_call_fields, r1_call_fields, r2_call_fields, r3_call_fields, k2_call_fields, r4_call_fields, r5_call_fields, k4_call_fields, k3_call_fields, k1_call_fields, k0_call_fields, c_call_fields, Z0, Z1, Z2, Z3, Z4, Z5, Z6, Z7, Z8, Z9, Z10, resAll, Nat.reduceAdd, Nat.reduceEqDiff, Nat.reduceLeDiff, Nat.reduceMul, ↓reduceIte, reduceCtorEq, Nat.reduceBEq, aoper, Nat.reduceLT, Int.reduceEq, Int.reduceLT, Int.reduceLE]
    · have h2 : 13 < op := by omega
      simp (disch := omega) only [isCell_s, cells_s, h1, h2, Nat.beq_refl, r0_call_fields, r1_call_fields, r2_call_fields, r3_call_fields, k2_call_fields, r4_call_fields, r5_call_fields, k4_call_fields, k3_call_fields, k1_call_fields, k0_call_fields, c_call_fields, Z0, Z1, Z2, Z3, Z4, Z5, Z6, Z7, Z8, Z9, Z10, resAll, Nat.reduceAdd, Nat.reduceEqDiff, Nat.reduceLeDiff, Nat.reduceMul, ↓reduceIte, reduceCtorEq, Nat.reduceBEq, aoper, Nat.reduceLT, Int.reduceEq, Int.reduceLT, Int.reduceLE]
  · rcases ops13 h with rfl | rfl | rfl | rfl | rfl | rfl | rfl | rfl | rfl | rfl | rfl | rfl | rfl
    · exact fields_1 d σ
    · exact fields_2 d σ
    · exact fields_3 d σ
    · exact fields_4 d σ
    · exact fields_5 d σ
    · exact fields_6 d σ
    · exact fields_7 d σ
    · exact fields_8 d σ
    · exact fields_9 d σ
    · exact fields_10 d σ
    · exact fields_11 d σ
    · exact fields_12 d σ
    · exact fields_13 d σ
abbrev sBb : ByteArray := ⟨#[66, 98]⟩
theorem IndexRune_ok (d : Nat) (σ : AHeap) (c : Int) (h0 : 0 ≤ c) (h1 : c < 128) : acall (ofProg Tryz.prog) 1000 (d + 3) 218 [.string sBb, .int .i32 c] σ = some (i64 (firstIdx sBb c.toNat.toUInt8), σ) := by
  have hx : ∀ τ (n : Int), acall (ofProg Tryz.prog) 1000 (d + 2) 242 [.string sBb, .int .u8 n] τ = some (i64 (firstIdx sBb n.toNat.toUInt8), τ) := fun τ n => by
    refine acall_flat e_strings_IndexByte (by simp) rfl ?_
    have hi := fun L => IndexByte_ok d (τ.fresh.grow L) sBb n
    simp (disch := omega) only [hi, r0_strings_IndexByte, r1_strings_IndexByte, k0_strings_IndexByte, c_strings_IndexByte, Z0, Z1, Z2, Z3, Z4, Z5, Z6, Z7, Z8, Z9, Z10, resAll, Nat.reduceAdd, Nat.reduceEqDiff, Nat.reduceLeDiff, Nat.reduceMul, ↓reduceIte, reduceCtorEq, Nat.reduceBEq, aoper, Nat.reduceLT, Int.reduceEq, Int.reduceLT, Int.reduceLE]
  have hw : IntKind.u8.wrap c = c := by simp [IntKind.wrap, IntKind.bits, IntKind.signed]; omega
  refine acall_flat e_strings_IndexRune (by simp) rfl ?_
  simp (disch := omega) only [h0, h1, o_conv, convQ_i, hw, hx, r0_strings_IndexRune, r1_strings_IndexRune, r2_strings_IndexRune, r3_strings_IndexRune, r4_strings_IndexRune, r5_strings_IndexRune, r6_strings_IndexRune, r7_strings_IndexRune, r8_strings_IndexRune, k7_strings_IndexRune, k6_strings_IndexRune, k5_strings_IndexRune, k4_strings_IndexRune, k3_strings_IndexRune, r9_strings_IndexRune, k8_strings_IndexRune, r10_strings_IndexRune, r11_strings_IndexRune, k9_strings_IndexRune, k2_strings_IndexRune, k1_strings_IndexRune, k0_strings_IndexRune, c_strings_IndexRune, Z0, Z1, Z2, Z3, Z4, Z5, Z6, Z7, Z8, Z9, Z10, resAll, Nat.reduceAdd, Nat.reduceEqDiff, Nat.reduceLeDiff, Nat.reduceMul, ↓reduceIte, reduceCtorEq, Nat.reduceBEq, aoper, Nat.reduceLT, Int.reduceEq, Int.reduceLT, Int.reduceLE]
theorem shouldUse_ok (d : Nat) (σ : AHeap) (n : Int) (h : n ≤ 8) : acall (ofProg Tryz.prog) 1000 (d + 1) 219 [.int .i64 n] σ = some (.bool false, σ) := by
  refine acall_flat e_strings_shouldUseASCIISet (by simp) rfl ?_
  have h' : ¬ 8 < n := by omega
  simp (disch := omega) only [h', r0_strings_shouldUseASCIISet, r1_strings_shouldUseASCIISet, k0_strings_shouldUseASCIISet, c_strings_shouldUseASCIISet, Z0, Z1, Z2, Z3, Z4, Z5, Z6, Z7, Z8, Z9, Z10, resAll, Nat.reduceAdd, Nat.reduceEqDiff, Nat.reduceLeDiff, Nat.reduceMul, ↓reduceIte, reduceCtorEq, Nat.reduceBEq, aoper, Nat.reduceLT, Int.reduceEq, Int.reduceLT, Int.reduceLE]
end Go.Proofs.YtidmcpkbcphpiaaGreat
namespace Go.Proofs.YtidmcpkbcphpiaaGreat
open Go Go.Hai
set_option maxRecDepth 20000
set_option linter.unusedSimpArgs false
set_option maxHeartbeats 8000000
attribute [local irreducible] Hai.Ends EndsR EndsO EndsD EndsX AHeap.grow AHeap.itr
theorem any_ABXY (d : Nat) (σ : AHeap) : acall (ofProg Tryz.prog) 1000 (d + 4) 174 [.string ⟨#[65, 66, 88, 89]⟩, .string sBb] σ = some (i64 (1), σ) := by
  refine acall_flat e_strings_IndexAny (by simp) rfl ?_
  rw [grow_nil]
  have d0 : Utf8.decode ⟨#[65, 66, 88, 89]⟩ 0 = (65, 1) := by decide +kernel
  have d1 : Utf8.decode ⟨#[65, 66, 88, 89]⟩ 1 = (66, 1) := by decide +kernel
  have x65 := fun τ => IndexRune_ok d τ 65 (by decide) (by decide)
  have y65 : firstIdx sBb ((65 : Int).toNat.toUInt8) = -1 := by decide +kernel
  have x66 := fun τ => IndexRune_ok d τ 66 (by decide) (by decide)
  have y66 : firstIdx sBb ((66 : Int).toNat.toUInt8) = 0 := by decide +kernel
  have hz : (⟨#[65, 66, 88, 89]⟩ : ByteArray).size = 4 := rfl
  have hz2 : (((⟨#[65, 66, 88, 89]⟩ : ByteArray).size : Nat) : Int) = 4 := rfl
  have hs := fun τ => shouldUse_ok (d + 2) τ 4 (by decide)
  have e1 : (sBb.toList == (⟨#[]⟩ : ByteArray).toList) = false := by decide +kernel
  have e2 : (((sBb : ByteArray).size : Nat) : Int) = 2 := rfl
  simp (disch := omega) only [bin_eqlS, e1, e2, o_lenStr, lenStQ_s, hs, o_rng, rngQ_s, b0_strings_IndexAny, b1_strings_IndexAny, ends_loopU, ends_iter1000, ends_iter999, ends_iter998, iterQ_normal, iterQ_exit, iterQ_ret, o_next, nxt_itr fresh_le, Nat.zero_lt_succ, Nat.lt_irrefl, Int.cast_ofNat_Int, Nat.reduceAdd, itr_low, d0, d1, x65, y65, x66, y66, hz, hz2, r0_strings_IndexAny, r1_strings_IndexAny, r2_strings_IndexAny, k1_strings_IndexAny, r3_strings_IndexAny, r4_strings_IndexAny, r5_strings_IndexAny, r6_strings_IndexAny, k5_strings_IndexAny, r7_strings_IndexAny, k6_strings_IndexAny, k4_strings_IndexAny, k3_strings_IndexAny, r8_strings_IndexAny, r9_strings_IndexAny, r10_strings_IndexAny, r11_strings_IndexAny, r12_strings_IndexAny, k12_strings_IndexAny, r13_strings_IndexAny, r14_strings_IndexAny, k14_strings_IndexAny, r15_strings_IndexAny, k15_strings_IndexAny, k13_strings_IndexAny, k11_strings_IndexAny, r16_strings_IndexAny, k16_strings_IndexAny, k10_strings_IndexAny, k9_strings_IndexAny, k8_strings_IndexAny, r17_strings_IndexAny, r18_strings_IndexAny, r19_strings_IndexAny, r20_strings_IndexAny, r21_strings_IndexAny, k22_strings_IndexAny, k21_strings_IndexAny, k20_strings_IndexAny, k19_strings_IndexAny, k18_strings_IndexAny, r22_strings_IndexAny, k23_strings_IndexAny, k17_strings_IndexAny, k7_strings_IndexAny, k2_strings_IndexAny, k0_strings_IndexAny, c_strings_IndexAny, Z0, Z1, Z2, Z3, Z4, Z5, Z6, Z7, Z8, Z9, Z10, resAll, Nat.reduceAdd, Nat.reduceEqDiff, Nat.reduceLeDiff, Nat.reduceMul, ↓reduceIte, reduceCtorEq, Nat.reduceBEq, aoper, Nat.reduceLT, Int.reduceEq, Int.reduceLT, Int.reduceLE]
theorem any_ABX (d : Nat) (σ : AHeap) : acall (ofProg Tryz.prog) 1000 (d + 4) 174 [.string ⟨#[65, 66, 88]⟩, .string sBb] σ = some (i64 (1), σ) := by
  refine acall_flat e_strings_IndexAny (by simp) rfl ?_
  rw [grow_nil]
  have d0 : Utf8.decode ⟨#[65, 66, 88]⟩ 0 = (65, 1) := by decide +kernel
  have d1 : Utf8.decode ⟨#[65, 66, 88]⟩ 1 = (66, 1) := by decide +kernel
  have x65 := fun τ => IndexRune_ok d τ 65 (by decide) (by decide)
  have y65 : firstIdx sBb ((65 : Int).toNat.toUInt8) = -1 := by decide +kernel
  have x66 := fun τ => IndexRune_ok d τ 66 (by decide) (by decide)
  have y66 : firstIdx sBb ((66 : Int).toNat.toUInt8) = 0 := by decide +kernel
  have hz : (⟨#[65, 66, 88]⟩ : ByteArray).size = 3 := rfl
  have hz2 : (((⟨#[65, 66, 88]⟩ : ByteArray).size : Nat) : Int) = 3 := rfl
  have hs := fun τ => shouldUse_ok (d + 2) τ 3 (by decide)
  have e1 : (sBb.toList == (⟨#[]⟩ : ByteArray).toList) = false := by decide +kernel
  have e2 : (((sBb : ByteArray).size : Nat) : Int) = 2 := rfl
  simp (disch := omega) only [bin_eqlS, e1, e2, o_lenStr, lenStQ_s, hs, o_rng, rngQ_s, b0_strings_IndexAny, b1_strings_IndexAny, ends_loopU, ends_iter1000, ends_iter999, ends_iter998, iterQ_normal, iterQ_exit, iterQ_ret, o_next, nxt_itr fresh_le, Nat.zero_lt_succ, Nat.lt_irrefl, Int.cast_ofNat_Int, Nat.reduceAdd, itr_low, d0, d1, x65, y65, x66, y66, hz, hz2, r0_strings_IndexAny, r1_strings_IndexAny, r2_strings_IndexAny, k1_strings_IndexAny, r3_strings_IndexAny, r4_strings_IndexAny, r5_strings_IndexAny, r6_strings_IndexAny, k5_strings_IndexAny, r7_strings_IndexAny, k6_strings_IndexAny, k4_strings_IndexAny, k3_strings_IndexAny, r8_strings_IndexAny, r9_strings_IndexAny, r10_strings_IndexAny, r11_strings_IndexAny, r12_strings_IndexAny, k12_strings_IndexAny, r13_strings_IndexAny, r14_strings_IndexAny, k14_strings_IndexAny, r15_strings_IndexAny, k15_strings_IndexAny, k13_strings_IndexAny, k11_strings_IndexAny, r16_strings_IndexAny, k16_strings_IndexAny, k10_strings_IndexAny, k9_strings_IndexAny, k8_strings_IndexAny, r17_strings_IndexAny, r18_strings_IndexAny, r19_strings_IndexAny, r20_strings_IndexAny, r21_strings_IndexAny, k22_strings_IndexAny, k21_strings_IndexAny, k20_strings_IndexAny, k19_strings_IndexAny, k18_strings_IndexAny, r22_strings_IndexAny, k23_strings_IndexAny, k17_strings_IndexAny, k7_strings_IndexAny, k2_strings_IndexAny, k0_strings_IndexAny, c_strings_IndexAny, Z0, Z1, Z2, Z3, Z4, Z5, Z6, Z7, Z8, Z9, Z10, resAll, Nat.reduceAdd, Nat.reduceEqDiff, Nat.reduceLeDiff, Nat.reduceMul, ↓reduceIte, reduceCtorEq, Nat.reduceBEq, aoper, Nat.reduceLT, Int.reduceEq, Int.reduceLT, Int.reduceLE]
theorem any_AB (d : Nat) (σ : AHeap) : acall (ofProg Tryz.prog) 1000 (d + 4) 174 [.string ⟨#[65, 66]⟩, .string sBb] σ = some (i64 (1), σ) := by
  refine acall_flat e_strings_IndexAny (by simp) rfl ?_
  rw [grow_nil]
  have d0 : Utf8.decode ⟨#[65, 66]⟩ 0 = (65, 1) := by decide +kernel
  have d1 : Utf8.decode ⟨#[65, 66]⟩ 1 = (66, 1) := by decide +kernel
  have x65 := fun τ => IndexRune_ok d τ 65 (by decide) (by decide)
  have y65 : firstIdx sBb ((65 : Int).toNat.toUInt8) = -1 := by decide +kernel
  have x66 := fun τ => IndexRune_ok d τ 66 (by decide) (by decide)
  have y66 : firstIdx sBb ((66 : Int).toNat.toUInt8) = 0 := by decide +kernel
  have hz : (⟨#[65, 66]⟩ : ByteArray).size = 2 := rfl
  have hz2 : (((⟨#[65, 66]⟩ : ByteArray).size : Nat) : Int) = 2 := rfl
  have hs := fun τ => shouldUse_ok (d + 2) τ 2 (by decide)
  have e1 : (sBb.toList == (⟨#[]⟩ : ByteArray).toList) = false := by decide +kernel
  have e2 : (((sBb : ByteArray).size : Nat) : Int) = 2 := rfl
  simp (disch := omega) only [bin_eqlS, e1, e2, o_lenStr, lenStQ_s, hs, o_rng, rngQ_s, b0_strings_IndexAny, b1_strings_IndexAny, ends_loopU, ends_iter1000, ends_iter999, ends_iter998, iterQ_normal, iterQ_exit, iterQ_ret, o_next, nxt_itr fresh_le, Nat.zero_lt_succ, Nat.lt_irrefl, Int.cast_ofNat_Int, Nat.reduceAdd, itr_low, d0, d1, x65, y65, x66, y66, hz, hz2, r0_strings_IndexAny, r1_strings_IndexAny, r2_strings_IndexAny, k1_strings_IndexAny, r3_strings_IndexAny, r4_strings_IndexAny, r5_strings_IndexAny, r6_strings_IndexAny, k5_strings_IndexAny, r7_strings_IndexAny, k6_strings_IndexAny, k4_strings_IndexAny, k3_strings_IndexAny, r8_strings_IndexAny, r9_strings_IndexAny, r10_strings_IndexAny, r11_strings_IndexAny, r12_strings_IndexAny, k12_strings_IndexAny, r13_strings_IndexAny, r14_strings_IndexAny, k14_strings_IndexAny, r15_strings_IndexAny, k15_strings_IndexAny, k13_strings_IndexAny, k11_strings_IndexAny, r16_strings_IndexAny, k16_strings_IndexAny, k10_strings_IndexAny, k9_strings_IndexAny, k8_strings_IndexAny, r17_strings_IndexAny, r18_strings_IndexAny, r19_strings_IndexAny, r20_strings_IndexAny, r21_strings_IndexAny, k22_strings_IndexAny, k21_strings_IndexAny, k20_strings_IndexAny, k19_strings_IndexAny, k18_strings_IndexAny, r22_strings_IndexAny, k23_strings_IndexAny, k17_strings_IndexAny, k7_strings_IndexAny, k2_strings_IndexAny, k0_strings_IndexAny, c_strings_IndexAny, Z0, Z1, Z2, Z3, Z4, Z5, Z6, Z7, Z8, Z9, Z10, resAll, Nat.reduceAdd, Nat.reduceEqDiff, Nat.reduceLeDiff, Nat.reduceMul, ↓reduceIte, reduceCtorEq, Nat.reduceBEq, aoper, Nat.reduceLT, Int.reduceEq, Int.reduceLT, Int.reduceLE]
theorem any_A (d : Nat) (σ : AHeap) : acall (ofProg Tryz.prog) 1000 (d + 4) 174 [.string ⟨#[65]⟩, .string sBb] σ = some (i64 (-1), σ) := by
  refine acall_flat e_strings_IndexAny (by simp) rfl ?_
  rw [grow_nil]
  have d0 : Utf8.decode ⟨#[65]⟩ 0 = (65, 1) := by decide +kernel
  have x65 := fun τ => IndexRune_ok d τ 65 (by decide) (by decide)
  have y65 : firstIdx sBb ((65 : Int).toNat.toUInt8) = -1 := by decide +kernel
  have hz : (⟨#[65]⟩ : ByteArray).size = 1 := rfl
  have hz2 : (((⟨#[65]⟩ : ByteArray).size : Nat) : Int) = 1 := rfl
  have hs := fun τ => shouldUse_ok (d + 2) τ 1 (by decide)
  have e1 : (sBb.toList == (⟨#[]⟩ : ByteArray).toList) = false := by decide +kernel
  have e2 : (((sBb : ByteArray).size : Nat) : Int) = 2 := rfl
  simp (disch := omega) only [bin_eqlS, e1, e2, o_lenStr, lenStQ_s, hs, o_rng, rngQ_s, b0_strings_IndexAny, b1_strings_IndexAny, ends_loopU, ends_iter1000, ends_iter999, iterQ_normal, iterQ_exit, iterQ_ret, o_next, nxt_itr fresh_le, Nat.zero_lt_succ, Nat.lt_irrefl, Int.cast_ofNat_Int, Nat.reduceAdd, itr_low, d0, x65, y65, hz, hz2, r0_strings_IndexAny, r1_strings_IndexAny, r2_strings_IndexAny, k1_strings_IndexAny, r3_strings_IndexAny, r4_strings_IndexAny, r5_strings_IndexAny, r6_strings_IndexAny, k5_strings_IndexAny, r7_strings_IndexAny, k6_strings_IndexAny, k4_strings_IndexAny, k3_strings_IndexAny, r8_strings_IndexAny, r9_strings_IndexAny, r10_strings_IndexAny, r11_strings_IndexAny, r12_strings_IndexAny, k12_strings_IndexAny, r13_strings_IndexAny, r14_strings_IndexAny, k14_strings_IndexAny, r15_strings_IndexAny, k15_strings_IndexAny, k13_strings_IndexAny, k11_strings_IndexAny, r16_strings_IndexAny, k16_strings_IndexAny, k10_strings_IndexAny, k9_strings_IndexAny, k8_strings_IndexAny, r17_strings_IndexAny, r18_strings_IndexAny, r19_strings_IndexAny, r20_strings_IndexAny, r21_strings_IndexAny, k22_strings_IndexAny, k21_strings_IndexAny, k20_strings_IndexAny, k19_strings_IndexAny, k18_strings_IndexAny, r22_strings_IndexAny, k23_strings_IndexAny, k17_strings_IndexAny, k7_strings_IndexAny, k2_strings_IndexAny, k0_strings_IndexAny, c_strings_IndexAny, Z0, Z1, Z2, Z3, Z4, Z5, Z6, Z7, Z8, Z9, Z10, resAll, Nat.reduceAdd, Nat.reduceEqDiff, Nat.reduceLeDiff, Nat.reduceMul, ↓reduceIte, reduceCtorEq, Nat.reduceBEq, aoper, Nat.reduceLT, Int.reduceEq, Int.reduceLT, Int.reduceLE]
theorem any_AbW (d : Nat) (σ : AHeap) : acall (ofProg Tryz.prog) 1000 (d + 4) 174 [.string ⟨#[65, 98, 87]⟩, .string sBb] σ = some (i64 (1), σ) := by
  refine acall_flat e_strings_IndexAny (by simp) rfl ?_
  rw [grow_nil]
  have d0 : Utf8.decode ⟨#[65, 98, 87]⟩ 0 = (65, 1) := by decide +kernel
  have d1 : Utf8.decode ⟨#[65, 98, 87]⟩ 1 = (98, 1) := by decide +kernel
  have x65 := fun τ => IndexRune_ok d τ 65 (by decide) (by decide)
  have y65 : firstIdx sBb ((65 : Int).toNat.toUInt8) = -1 := by decide +kernel
  have x98 := fun τ => IndexRune_ok d τ 98 (by decide) (by decide)
  have y98 : firstIdx sBb ((98 : Int).toNat.toUInt8) = 1 := by decide +kernel
  have hz : (⟨#[65, 98, 87]⟩ : ByteArray).size = 3 := rfl
  have hz2 : (((⟨#[65, 98, 87]⟩ : ByteArray).size : Nat) : Int) = 3 := rfl
  have hs := fun τ => shouldUse_ok (d + 2) τ 3 (by decide)
  have e1 : (sBb.toList == (⟨#[]⟩ : ByteArray).toList) = false := by decide +kernel
  have e2 : (((sBb : ByteArray).size : Nat) : Int) = 2 := rfl
  simp (disch := omega) only [bin_eqlS, e1, e2, o_lenStr, lenStQ_s, hs, o_rng, rngQ_s, b0_strings_IndexAny, b1_strings_IndexAny, ends_loopU, ends_iter1000, ends_iter999, ends_iter998, iterQ_normal, iterQ_exit, iterQ_ret, o_next, nxt_itr fresh_le, Nat.zero_lt_succ, Nat.lt_irrefl, Int.cast_ofNat_Int, Nat.reduceAdd, itr_low, d0, d1, x65, y65, x98, y98, hz, hz2, r0_strings_IndexAny, r1_strings_IndexAny, r2_strings_IndexAny, k1_strings_IndexAny, r3_strings_IndexAny, r4_strings_IndexAny, r5_strings_IndexAny, r6_strings_IndexAny, k5_strings_IndexAny, r7_strings_IndexAny, k6_strings_IndexAny, k4_strings_IndexAny, k3_strings_IndexAny, r8_strings_IndexAny, r9_strings_IndexAny, r10_strings_IndexAny, r11_strings_IndexAny, r12_strings_IndexAny, k12_strings_IndexAny, r13_strings_IndexAny, r14_strings_IndexAny, k14_strings_IndexAny, r15_strings_IndexAny, k15_strings_IndexAny, k13_strings_IndexAny, k11_strings_IndexAny, r16_strings_IndexAny, k16_strings_IndexAny, k10_strings_IndexAny, k9_strings_IndexAny, k8_strings_IndexAny, r17_strings_IndexAny, r18_strings_IndexAny, r19_strings_IndexAny, r20_strings_IndexAny, r21_strings_IndexAny, k22_strings_IndexAny, k21_strings_IndexAny, k20_strings_IndexAny, k19_strings_IndexAny, k18_strings_IndexAny, r22_strings_IndexAny, k23_strings_IndexAny, k17_strings_IndexAny, k7_strings_IndexAny, k2_strings_IndexAny, k0_strings_IndexAny, c_strings_IndexAny, Z0, Z1, Z2, Z3, Z4, Z5, Z6, Z7, Z8, Z9, Z10, resAll, Nat.reduceAdd, Nat.reduceEqDiff, Nat.reduceLeDiff, Nat.reduceMul, ↓reduceIte, reduceCtorEq, Nat.reduceBEq, aoper, Nat.reduceLT, Int.reduceEq, Int.reduceLT, Int.reduceLE]
theorem any_Ab (d : Nat) (σ : AHeap) : acall (ofProg Tryz.prog) 1000 (d + 4) 174 [.string ⟨#[65, 98]⟩, .string sBb] σ = some (i64 (1), σ) := by
  refine acall_flat e_strings_IndexAny (by simp) rfl ?_
  rw [grow_nil]
  have d0 : Utf8.decode ⟨#[65, 98]⟩ 0 = (65, 1) := by decide +kernel
  have d1 : Utf8.decode ⟨#[65, 98]⟩ 1 = (98, 1) := by decide +kernel
  have x65 := fun τ => IndexRune_ok d τ 65 (by decide) (by decide)
  have y65 : firstIdx sBb ((65 : Int).toNat.toUInt8) = -1 := by decide +kernel
  have x98 := fun τ => IndexRune_ok d τ 98 (by decide) (by decide)
  have y98 : firstIdx sBb ((98 : Int).toNat.toUInt8) = 1 := by decide +kernel
  have hz : (⟨#[65, 98]⟩ : ByteArray).size = 2 := rfl
  have hz2 : (((⟨#[65, 98]⟩ : ByteArray).size : Nat) : Int) = 2 := rfl
  have hs := fun τ => shouldUse_ok (d + 2) τ 2 (by decide)
  have e1 : (sBb.toList == (⟨#[]⟩ : ByteArray).toList) = false := by decide +kernel
  have e2 : (((sBb : ByteArray).size : Nat) : Int) = 2 := rfl
  simp (disch := omega) only [bin_eqlS, e1, e2, o_lenStr, lenStQ_s, hs, o_rng, rngQ_s, b0_strings_IndexAny, b1_strings_IndexAny, ends_loopU, ends_iter1000, ends_iter999, ends_iter998, iterQ_normal, iterQ_exit, iterQ_ret, o_next, nxt_itr fresh_le, Nat.zero_lt_succ, Nat.lt_irrefl, Int.cast_ofNat_Int, Nat.reduceAdd, itr_low, d0, d1, x65, y65, x98, y98, hz, hz2, r0_strings_IndexAny, r1_strings_IndexAny, r2_strings_IndexAny, k1_strings_IndexAny, r3_strings_IndexAny, r4_strings_IndexAny, r5_strings_IndexAny, r6_strings_IndexAny, k5_strings_IndexAny, r7_strings_IndexAny, k6_strings_IndexAny, k4_strings_IndexAny, k3_strings_IndexAny, r8_strings_IndexAny, r9_strings_IndexAny, r10_strings_IndexAny, r11_strings_IndexAny, r12_strings_IndexAny, k12_strings_IndexAny, r13_strings_IndexAny, r14_strings_IndexAny, k14_strings_IndexAny, r15_strings_IndexAny, k15_strings_IndexAny, k13_strings_IndexAny, k11_strings_IndexAny, r16_strings_IndexAny, k16_strings_IndexAny, k10_strings_IndexAny, k9_strings_IndexAny, k8_strings_IndexAny, r17_strings_IndexAny, r18_strings_IndexAny, r19_strings_IndexAny, r20_strings_IndexAny, r21_strings_IndexAny, k22_strings_IndexAny, k21_strings_IndexAny, k20_strings_IndexAny, k19_strings_IndexAny, k18_strings_IndexAny, r22_strings_IndexAny, k23_strings_IndexAny, k17_strings_IndexAny, k7_strings_IndexAny, k2_strings_IndexAny, k0_strings_IndexAny, c_strings_IndexAny, Z0, Z1, Z2, Z3, Z4, Z5, Z6, Z7, Z8, Z9, Z10, resAll, Nat.reduceAdd, Nat.reduceEqDiff, Nat.reduceLeDiff, Nat.reduceMul, ↓reduceIte, reduceCtorEq, Nat.reduceBEq, aoper, Nat.reduceLT, Int.reduceEq, Int.reduceLT, Int.reduceLE]
theorem any_AXW (d : Nat) (σ : AHeap) : acall (ofProg Tryz.prog) 1000 (d + 4) 174 [.string ⟨#[65, 88, 87]⟩, .string sBb] σ = some (i64 (-1), σ) := by
  refine acall_flat e_strings_IndexAny (by simp) rfl ?_
  rw [grow_nil]
  have d0 : Utf8.decode ⟨#[65, 88, 87]⟩ 0 = (65, 1) := by decide +kernel
  have d1 : Utf8.decode ⟨#[65, 88, 87]⟩ 1 = (88, 1) := by decide +kernel
  have d2 : Utf8.decode ⟨#[65, 88, 87]⟩ 2 = (87, 1) := by decide +kernel
  have x65 := fun τ => IndexRune_ok d τ 65 (by decide) (by decide)
  have y65 : firstIdx sBb ((65 : Int).toNat.toUInt8) = -1 := by decide +kernel
  have x87 := fun τ => IndexRune_ok d τ 87 (by decide) (by decide)
  have y87 : firstIdx sBb ((87 : Int).toNat.toUInt8) = -1 := by decide +kernel
  have x88 := fun τ => IndexRune_ok d τ 88 (by decide) (by decide)
  have y88 : firstIdx sBb ((88 : Int).toNat.toUInt8) = -1 := by decide +kernel
  have hz : (⟨#[65, 88, 87]⟩ : ByteArray).size = 3 := rfl
  have hz2 : (((⟨#[65, 88, 87]⟩ : ByteArray).size : Nat) : Int) = 3 := rfl
  have hs := fun τ => shouldUse_ok (d + 2) τ 3 (by decide)
  have e1 : (sBb.toList == (⟨#[]⟩ : ByteArray).toList) = false := by decide +kernel
  have e2 : (((sBb : ByteArray).size : Nat) : Int) = 2 := rfl
  simp (disch := omega) only [bin_eqlS, e1, e2, o_lenStr, lenStQ_s, hs, o_rng, rngQ_s, b0_strings_IndexAny, b1_strings_IndexAny, ends_loopU, ends_iter1000, ends_iter999, ends_iter998, ends_iter997, iterQ_normal, iterQ_exit, iterQ_ret, o_next, nxt_itr fresh_le, Nat.zero_lt_succ, Nat.lt_irrefl, Int.cast_ofNat_Int, Nat.reduceAdd, itr_low, d0, d1, d2, x65, y65, x87, y87, x88, y88, hz, hz2, r0_strings_IndexAny, r1_strings_IndexAny, r2_strings_IndexAny, k1_strings_IndexAny, r3_strings_IndexAny, r4_strings_IndexAny, r5_strings_IndexAny, r6_strings_IndexAny, k5_strings_IndexAny, r7_strings_IndexAny, k6_strings_IndexAny, k4_strings_IndexAny, k3_strings_IndexAny, r8_strings_IndexAny, r9_strings_IndexAny, r10_strings_IndexAny, r11_strings_IndexAny, r12_strings_IndexAny, k12_strings_IndexAny, r13_strings_IndexAny, r14_strings_IndexAny, k14_strings_IndexAny, r15_strings_IndexAny, k15_strings_IndexAny, k13_strings_IndexAny, k11_strings_IndexAny, r16_strings_IndexAny, k16_strings_IndexAny, k10_strings_IndexAny, k9_strings_IndexAny, k8_strings_IndexAny, r17_strings_IndexAny, r18_strings_IndexAny, r19_strings_IndexAny, r20_strings_IndexAny, r21_strings_IndexAny, k22_strings_IndexAny, k21_strings_IndexAny, k20_strings_IndexAny, k19_strings_IndexAny, k18_strings_IndexAny, r22_strings_IndexAny, k23_strings_IndexAny, k17_strings_IndexAny, k7_strings_IndexAny, k2_strings_IndexAny, k0_strings_IndexAny, c_strings_IndexAny, Z0, Z1, Z2, Z3, Z4, Z5, Z6, Z7, Z8, Z9, Z10, resAll, Nat.reduceAdd, Nat.reduceEqDiff, Nat.reduceLeDiff, Nat.reduceMul, ↓reduceIte, reduceCtorEq, Nat.reduceBEq, aoper, Nat.reduceLT, Int.reduceEq, Int.reduceLT, Int.reduceLE]
theorem any_AX (d : Nat) (σ : AHeap) : acall (ofProg Tryz.prog) 1000 (d + 4) 174 [.string ⟨#[65, 88]⟩, .string sBb] σ = some (i64 (-1), σ) := by
  refine acall_flat e_strings_IndexAny (by simp) rfl ?_
  rw [grow_nil]
  have d0 : Utf8.decode ⟨#[65, 88]⟩ 0 = (65, 1) := by decide +kernel
  have d1 : Utf8.decode ⟨#[65, 88]⟩ 1 = (88, 1) := by decide +kernel
  have x65 := fun τ => IndexRune_ok d τ 65 (by decide) (by decide)
  have y65 : firstIdx sBb ((65 : Int).toNat.toUInt8) = -1 := by decide +kernel
  have x88 := fun τ => IndexRune_ok d τ 88 (by decide) (by decide)
  have y88 : firstIdx sBb ((88 : Int).toNat.toUInt8) = -1 := by decide +kernel
  have hz : (⟨#[65, 88]⟩ : ByteArray).size = 2 := rfl
  have hz2 : (((⟨#[65, 88]⟩ : ByteArray).size : Nat) : Int) = 2 := rfl
  have hs := fun τ => shouldUse_ok (d + 2) τ 2 (by decide)
  have e1 : (sBb.toList == (⟨#[]⟩ : ByteArray).toList) = false := by decide +kernel
  have e2 : (((sBb : ByteArray).size : Nat) : Int) = 2 := rfl
  simp (disch := omega) only [bin_eqlS, e1, e2, o_lenStr, lenStQ_s, hs, o_rng, rngQ_s, b0_strings_IndexAny, b1_strings_IndexAny, ends_loopU, ends_iter1000, ends_iter999, ends_iter998, iterQ_normal, iterQ_exit, iterQ_ret, o_next, nxt_itr fresh_le, Nat.zero_lt_succ, Nat.lt_irrefl, Int.cast_ofNat_Int, Nat.reduceAdd, itr_low, d0, d1, x65, y65, x88, y88, hz, hz2, r0_strings_IndexAny, r1_strings_IndexAny, r2_strings_IndexAny, k1_strings_IndexAny, r3_strings_IndexAny, r4_strings_IndexAny, r5_strings_IndexAny, r6_strings_IndexAny, k5_strings_IndexAny, r7_strings_IndexAny, k6_strings_IndexAny, k4_strings_IndexAny, k3_strings_IndexAny, r8_strings_IndexAny, r9_strings_IndexAny, r10_strings_IndexAny, r11_strings_IndexAny, r12_strings_IndexAny, k12_strings_IndexAny, r13_strings_IndexAny, r14_strings_IndexAny, k14_strings_IndexAny, r15_strings_IndexAny, k15_strings_IndexAny, k13_strings_IndexAny, k11_strings_IndexAny, r16_strings_IndexAny, k16_strings_IndexAny, k10_strings_IndexAny, k9_strings_IndexAny, k8_strings_IndexAny, r17_strings_IndexAny, r18_strings_IndexAny, r19_strings_IndexAny, r20_strings_IndexAny, r21_strings_IndexAny, k22_strings_IndexAny, k21_strings_IndexAny, k20_strings_IndexAny, k19_strings_IndexAny, k18_strings_IndexAny, r22_strings_IndexAny, k23_strings_IndexAny, k17_strings_IndexAny, k7_strings_IndexAny, k2_strings_IndexAny, k0_strings_IndexAny, c_strings_IndexAny, Z0, Z1, Z2, Z3, Z4, Z5, Z6, Z7, Z8, Z9, Z10, resAll, Nat.reduceAdd, Nat.reduceEqDiff, Nat.reduceLeDiff, Nat.reduceMul, ↓reduceIte, reduceCtorEq, Nat.reduceBEq, aoper, Nat.reduceLT, Int.reduceEq, Int.reduceLT, Int.reduceLE]
theorem any_N (d : Nat) (σ : AHeap) : acall (ofProg Tryz.prog) 1000 (d + 4) 174 [.string ⟨#[]⟩, .string sBb] σ = some (i64 (-1), σ) := by
  refine acall_flat e_strings_IndexAny (by simp) rfl ?_
  rw [grow_nil]
  have hz : (⟨#[]⟩ : ByteArray).size = 0 := rfl
  have hz2 : (((⟨#[]⟩ : ByteArray).size : Nat) : Int) = 0 := rfl
  have hs := fun τ => shouldUse_ok (d + 2) τ 0 (by decide)
  have e1 : (sBb.toList == (⟨#[]⟩ : ByteArray).toList) = false := by decide +kernel
  have e2 : (((sBb : ByteArray).size : Nat) : Int) = 2 := rfl
  simp (disch := omega) only [bin_eqlS, e1, e2, o_lenStr, lenStQ_s, hs, o_rng, rngQ_s, b0_strings_IndexAny, b1_strings_IndexAny, ends_loopU, ends_iter1000, iterQ_normal, iterQ_exit, iterQ_ret, o_next, nxt_itr fresh_le, Nat.zero_lt_succ, Nat.lt_irrefl, Int.cast_ofNat_Int, Nat.reduceAdd, itr_low, hz, hz2, r0_strings_IndexAny, r1_strings_IndexAny, r2_strings_IndexAny, k1_strings_IndexAny, r3_strings_IndexAny, r4_strings_IndexAny, r5_strings_IndexAny, r6_strings_IndexAny, k5_strings_IndexAny, r7_strings_IndexAny, k6_strings_IndexAny, k4_strings_IndexAny, k3_strings_IndexAny, r8_strings_IndexAny, r9_strings_IndexAny, r10_strings_IndexAny, r11_strings_IndexAny, r12_strings_IndexAny, k12_strings_IndexAny, r13_strings_IndexAny, r14_strings_IndexAny, k14_strings_IndexAny, r15_strings_IndexAny, k15_strings_IndexAny, k13_strings_IndexAny, k11_strings_IndexAny, r16_strings_IndexAny, k16_strings_IndexAny, k10_strings_IndexAny, k9_strings_IndexAny, k8_strings_IndexAny, r17_strings_IndexAny, r18_strings_IndexAny, r19_strings_IndexAny, r20_strings_IndexAny, r21_strings_IndexAny, k22_strings_IndexAny, k21_strings_IndexAny, k20_strings_IndexAny, k19_strings_IndexAny, k18_strings_IndexAny, r22_strings_IndexAny, k23_strings_IndexAny, k17_strings_IndexAny, k7_strings_IndexAny, k2_strings_IndexAny, k0_strings_IndexAny, c_strings_IndexAny, Z0, Z1, Z2, Z3, Z4, Z5, Z6, Z7, Z8, Z9, Z10, resAll, Nat.reduceAdd, Nat.reduceEqDiff, Nat.reduceLeDiff, Nat.reduceMul, ↓reduceIte, reduceCtorEq, Nat.reduceBEq, aoper, Nat.reduceLT, Int.reduceEq, Int.reduceLT, Int.reduceLE]
end Go.Proofs.YtidmcpkbcphpiaaGreat
namespace Go.Proofs.YtidmcpkbcphpiaaGreat
open Go Go.Hai
set_option maxRecDepth 20000
set_option linter.unusedSimpArgs false
set_option maxHeartbeats 8000000
attribute [local irreducible] Hai.Ends EndsR EndsO EndsD EndsX AHeap.grow AHeap.itr
def r0_call_in : List AOper := [(.mk (some 6) none (.mv (.const (.bool false))))]
def r1_call_in : List AOper := [(.mk (some 7) none (.mv (.tmp 0))), (.mk (some 8) none (.mv (.tmp 1))), (.mk (some 9) none (.bin .geq (.tmp 7) (.tmp 8))), (.mk (some 10) none (.mv (.tmp 9))), (.mk (some 11) (some (10, true)) (.mv (.tmp 0))), (.mk (some 12) (some (10, true)) (.mv (.tmp 2))), (.mk (some 13) (some (10, true)) (.bin .leq (.tmp 11) (.tmp 12))), (.mk (some 14) none (.pick (.tmp 10) (.tmp 13) (.const (.bool false)))), (.mk (some 6) none (.mv (.tmp 14)))]
def k0_call_in : ACode := (.seq (.reg r1_call_in) .ret)
def c_call_in : ACode := (.seq (.reg r0_call_in) k0_call_in)
theorem e_call_in : ofProg Tryz.prog 175 = some ⟨15, [(.tmp 6)], c_call_in⟩ := by kernel_rfl
def anyB (op : Int) : Bool := decide (1 ≤ op ∧ op ≤ 4) || decide (op = 7 ∨ op = 8)
def hasBo (op : Int) : Bool := decide (1 ≤ op ∧ op ≤ 4)
def hasWo (op : Int) : Bool := decide (op = 7 ∨ op = 11)
theorem IndexAny_op (d : Nat) (σ : AHeap) (op : Int) : acall (ofProg Tryz.prog) 1000 (d + 4) 174 [.string (lOf op), .string sBb] σ = some (i64 (if anyB op = true then 1 else -1), σ) := by
  by_cases h : op < 1 ∨ 13 < op
  · rw [lOf_none h, if_neg (by unfold anyB; simp; omega)]; exact any_N d σ
  · rcases ops13 h with rfl | rfl | rfl | rfl | rfl | rfl | rfl | rfl | rfl | rfl | rfl | rfl | rfl
    · exact any_ABXY d σ
    · exact any_ABX d σ
    · exact any_ABXY d σ
    · exact any_AB d σ
    · exact any_A d σ
    · exact any_A d σ
    · exact any_AbW d σ
    · exact any_Ab d σ
    · exact any_A d σ
    · exact any_A d σ
    · exact any_AXW d σ
    · exact any_AX d σ
    · exact any_A d σ
theorem ContainsAny_op (d : Nat) (σ : AHeap) (op : Int) : acall (ofProg Tryz.prog) 1000 (d + 5) 109 [.string (lOf op), .string sBb] σ = some (.bool (anyB op), σ) := by
  refine acall_flat e_strings_ContainsAny (by simp) rfl ?_
  have h := fun τ => IndexAny_op d τ op
  cases hc : anyB op with
  | true => rw [hc] at h; simp (disch := omega) only [h, r0_strings_ContainsAny, r1_strings_ContainsAny, k0_strings_ContainsAny, c_strings_ContainsAny, Z0, Z1, Z2, Z3, Z4, Z5, Z6, Z7, Z8, Z9, Z10, resAll, Nat.reduceAdd, Nat.reduceEqDiff, Nat.reduceLeDiff, Nat.reduceMul, ↓reduceIte, reduceCtorEq, Nat.reduceBEq, aoper, Nat.reduceLT, Int.reduceEq, Int.reduceLT, Int.reduceLE]
  | false => rw [hc] at h; simp (disch := omega) only [h, r0_strings_ContainsAny, r1_strings_ContainsAny, k0_strings_ContainsAny, c_strings_ContainsAny, Z0, Z1, Z2, Z3, Z4, Z5, Z6, Z7, Z8, Z9, Z10, resAll, Nat.reduceAdd, Nat.reduceEqDiff, Nat.reduceLeDiff, Nat.reduceMul, ↓reduceIte, reduceCtorEq, Nat.reduceBEq, aoper, Nat.reduceLT, Int.reduceEq, Int.reduceLT, Int.reduceLE]
theorem hasB_op (op : Int) : decide (0 ≤ firstIdx (lOf op) 66) = hasBo op ∧ ((one8 66).toList == (lOf op).toList) = false ∧ decide (0 ≤ firstIdx (lOf op) 87) = hasWo op ∧ ((one8 87).toList == (lOf op).toList) = false ∧ ((lOf op).toList == (⟨#[]⟩ : ByteArray).toList) = !(decide (1 ≤ op ∧ op ≤ 13)) := by
  by_cases h : op < 1 ∨ 13 < op
  · rw [lOf_none h]
    have e1 : hasBo op = false := by unfold hasBo; simp; omega
    have e2 : hasWo op = false := by unfold hasWo; simp; omega
    have e3 : decide (1 ≤ op ∧ op ≤ 13) = false := by simp; omega
    rw [e1, e2, e3]
    decide +kernel
  · rcases ops13 h with rfl | rfl | rfl | rfl | rfl | rfl | rfl | rfl | rfl | rfl | rfl | rfl | rfl <;> decide +kernel
theorem call_in_ok (d : Nat) (σ : AHeap) (n lo hi : Int) : acall (ofProg Tryz.prog) 1000 (d + 1) 175 [.int .i64 n, .int .i64 lo, .int .i64 hi] σ = some (.bool (decide (lo ≤ n ∧ n ≤ hi)), σ) := by
  refine acall_flat e_call_in (by simp) rfl ?_
  by_cases h1 : lo ≤ n <;> by_cases h2 : n ≤ hi <;> simp (disch := omega) only [h1, h2, r0_call_in, r1_call_in, k0_call_in, c_call_in, Z0, Z1, Z2, Z3, Z4, Z5, Z6, Z7, Z8, Z9, Z10, resAll, Nat.reduceAdd, Nat.reduceEqDiff, Nat.reduceLeDiff, Nat.reduceMul, ↓reduceIte, reduceCtorEq, Nat.reduceBEq, aoper, Nat.reduceLT, Int.reduceEq, Int.reduceLT, Int.reduceLE]
def numsB (op X Y : Int) : Bool :=
  if op = 1 then decide (1 ≤ X ∧ X ≤ 5) && decide (0 ≤ Y ∧ Y ≤ 4096) else
  if op = 2 then decide (0 ≤ X ∧ X ≤ 7) && decide (Y = 0) else
  if op = 3 then decide (0 ≤ X ∧ X ≤ 7) && decide (1 ≤ Y ∧ Y ≤ 65535) else
  if op = 11 ∨ op = 12 then decide (0 ≤ X ∧ X ≤ 3) && decide (Y = 0) else decide (X = 0) && decide (Y = 0)
theorem numbersG_ok (d : Nat) (σ : AHeap) (op X Y W : Int) (aA : Option Addr) (nA fA : Nat) (aB : Option Addr) (nB fB : Nat) :
    acall (ofProg Tryz.prog) 1000 (d + 2) 110 [callV op aA nA fA aB nB fB X Y W] σ = some (.bool (numsB op X Y), σ) := by
  refine acall_flat e_call_numbers (by simp) rfl ?_
  unfold numsB
  by_cases n1 : op = 1
  · by_cases x : 1 ≤ X ∧ X ≤ 5
    · by_cases y : 0 ≤ Y ∧ Y ≤ 4096
      · simp (disch := omega) only [eq_true n1, call_in_ok, x, y, r0_call_numbers, r1_call_numbers, r2_call_numbers, r3_call_numbers, r4_call_numbers, r5_call_numbers, r6_call_numbers, r7_call_numbers, r8_call_numbers, r9_call_numbers, k5_call_numbers, r10_call_numbers, k6_call_numbers, k4_call_numbers, k3_call_numbers, k2_call_numbers, k1_call_numbers, r11_call_numbers, k7_call_numbers, k0_call_numbers, c_call_numbers, Z0, Z1, Z2, Z3, Z4, Z5, Z6, Z7, Z8, Z9, Z10, resAll, Nat.reduceAdd, Nat.reduceEqDiff, Nat.reduceLeDiff, Nat.reduceMul, ↓reduceIte, reduceCtorEq, Nat.reduceBEq, aoper, Nat.reduceLT, Int.reduceEq, Int.reduceLT, Int.reduceLE]
      · simp (disch := omega) only [eq_true n1, call_in_ok, x, y, r0_call_numbers, r1_call_numbers, r2_call_numbers, r3_call_numbers, r4_call_numbers, r5_call_numbers, r6_call_numbers, r7_call_numbers, r8_call_numbers, r9_call_numbers, k5_call_numbers, r10_call_numbers, k6_call_numbers, k4_call_numbers, k3_call_numbers, k2_call_numbers, k1_call_numbers, r11_call_numbers, k7_call_numbers, k0_call_numbers, c_call_numbers, Z0, Z1, Z2, Z3, Z4, Z5, Z6, Z7, Z8, Z9, Z10, resAll, Nat.reduceAdd, Nat.reduceEqDiff, Nat.reduceLeDiff, Nat.reduceMul, ↓reduceIte, reduceCtorEq, Nat.reduceBEq, aoper, Nat.reduceLT, Int.reduceEq, Int.reduceLT, Int.reduceLE]
    · simp (disch := omega) only [eq_true n1, call_in_ok, x, r0_call_numbers, r1_call_numbers, r2_call_numbers, r3_call_numbers, r4_call_numbers, r5_call_numbers, r6_call_numbers, r7_call_numbers, r8_call_numbers, r9_call_numbers, k5_call_numbers, r10_call_numbers, k6_call_numbers, k4_call_numbers, k3_call_numbers, k2_call_numbers, k1_call_numbers, r11_call_numbers, k7_call_numbers, k0_call_numbers, c_call_numbers, Z0, Z1, Z2, Z3, Z4, Z5, Z6, Z7, Z8, Z9, Z10, resAll, Nat.reduceAdd, Nat.reduceEqDiff, Nat.reduceLeDiff, Nat.reduceMul, ↓reduceIte, reduceCtorEq, Nat.reduceBEq, aoper, Nat.reduceLT, Int.reduceEq, Int.reduceLT, Int.reduceLE]
  by_cases n2 : op = 2
  · by_cases x : 0 ≤ X ∧ X ≤ 7
    · by_cases y : Y = 0
      · simp (disch := omega) only [n1, eq_true n2, right_Good_ok, x, eq_true y, r0_call_numbers, r1_call_numbers, r2_call_numbers, r3_call_numbers, r4_call_numbers, r5_call_numbers, r6_call_numbers, r7_call_numbers, r8_call_numbers, r9_call_numbers, k5_call_numbers, r10_call_numbers, k6_call_numbers, k4_call_numbers, k3_call_numbers, k2_call_numbers, k1_call_numbers, r11_call_numbers, k7_call_numbers, k0_call_numbers, c_call_numbers, Z0, Z1, Z2, Z3, Z4, Z5, Z6, Z7, Z8, Z9, Z10, resAll, Nat.reduceAdd, Nat.reduceEqDiff, Nat.reduceLeDiff, Nat.reduceMul, ↓reduceIte, reduceCtorEq, Nat.reduceBEq, aoper, Nat.reduceLT, Int.reduceEq, Int.reduceLT, Int.reduceLE]
      · simp (disch := omega) only [n1, eq_true n2, right_Good_ok, x, y, r0_call_numbers, r1_call_numbers, r2_call_numbers, r3_call_numbers, r4_call_numbers, r5_call_numbers, r6_call_numbers, r7_call_numbers, r8_call_numbers, r9_call_numbers, k5_call_numbers, r10_call_numbers, k6_call_numbers, k4_call_numbers, k3_call_numbers, k2_call_numbers, k1_call_numbers, r11_call_numbers, k7_call_numbers, k0_call_numbers, c_call_numbers, Z0, Z1, Z2, Z3, Z4, Z5, Z6, Z7, Z8, Z9, Z10, resAll, Nat.reduceAdd, Nat.reduceEqDiff, Nat.reduceLeDiff, Nat.reduceMul, ↓reduceIte, reduceCtorEq, Nat.reduceBEq, aoper, Nat.reduceLT, Int.reduceEq, Int.reduceLT, Int.reduceLE]
    · simp (disch := omega) only [n1, eq_true n2, right_Good_ok, x, r0_call_numbers, r1_call_numbers, r2_call_numbers, r3_call_numbers, r4_call_numbers, r5_call_numbers, r6_call_numbers, r7_call_numbers, r8_call_numbers, r9_call_numbers, k5_call_numbers, r10_call_numbers, k6_call_numbers, k4_call_numbers, k3_call_numbers, k2_call_numbers, k1_call_numbers, r11_call_numbers, k7_call_numbers, k0_call_numbers, c_call_numbers, Z0, Z1, Z2, Z3, Z4, Z5, Z6, Z7, Z8, Z9, Z10, resAll, Nat.reduceAdd, Nat.reduceEqDiff, Nat.reduceLeDiff, Nat.reduceMul, ↓reduceIte, reduceCtorEq, Nat.reduceBEq, aoper, Nat.reduceLT, Int.reduceEq, Int.reduceLT, Int.reduceLE]
  by_cases n3 : op = 3
  · by_cases x : 0 ≤ X ∧ X ≤ 7
    · by_cases y : 1 ≤ Y ∧ Y ≤ 65535
      · simp (disch := omega) only [n1, n2, eq_true n3, right_Good_ok, call_in_ok, x, y, r0_call_numbers, r1_call_numbers, r2_call_numbers, r3_call_numbers, r4_call_numbers, r5_call_numbers, r6_call_numbers, r7_call_numbers, r8_call_numbers, r9_call_numbers, k5_call_numbers, r10_call_numbers, k6_call_numbers, k4_call_numbers, k3_call_numbers, k2_call_numbers, k1_call_numbers, r11_call_numbers, k7_call_numbers, k0_call_numbers, c_call_numbers, Z0, Z1, Z2, Z3, Z4, Z5, Z6, Z7, Z8, Z9, Z10, resAll, Nat.reduceAdd, Nat.reduceEqDiff, Nat.reduceLeDiff, Nat.reduceMul, ↓reduceIte, reduceCtorEq, Nat.reduceBEq, aoper, Nat.reduceLT, Int.reduceEq, Int.reduceLT, Int.reduceLE]
      · simp (disch := omega) only [n1, n2, eq_true n3, right_Good_ok, call_in_ok, x, y, r0_call_numbers, r1_call_numbers, r2_call_numbers, r3_call_numbers, r4_call_numbers, r5_call_numbers, r6_call_numbers, r7_call_numbers, r8_call_numbers, r9_call_numbers, k5_call_numbers, r10_call_numbers, k6_call_numbers, k4_call_numbers, k3_call_numbers, k2_call_numbers, k1_call_numbers, r11_call_numbers, k7_call_numbers, k0_call_numbers, c_call_numbers, Z0, Z1, Z2, Z3, Z4, Z5, Z6, Z7, Z8, Z9, Z10, resAll, Nat.reduceAdd, Nat.reduceEqDiff, Nat.reduceLeDiff, Nat.reduceMul, ↓reduceIte, reduceCtorEq, Nat.reduceBEq, aoper, Nat.reduceLT, Int.reduceEq, Int.reduceLT, Int.reduceLE]
    · simp (disch := omega) only [n1, n2, eq_true n3, right_Good_ok, x, r0_call_numbers, r1_call_numbers, r2_call_numbers, r3_call_numbers, r4_call_numbers, r5_call_numbers, r6_call_numbers, r7_call_numbers, r8_call_numbers, r9_call_numbers, k5_call_numbers, r10_call_numbers, k6_call_numbers, k4_call_numbers, k3_call_numbers, k2_call_numbers, k1_call_numbers, r11_call_numbers, k7_call_numbers, k0_call_numbers, c_call_numbers, Z0, Z1, Z2, Z3, Z4, Z5, Z6, Z7, Z8, Z9, Z10, resAll, Nat.reduceAdd, Nat.reduceEqDiff, Nat.reduceLeDiff, Nat.reduceMul, ↓reduceIte, reduceCtorEq, Nat.reduceBEq, aoper, Nat.reduceLT, Int.reduceEq, Int.reduceLT, Int.reduceLE]
  by_cases n4 : op = 11
  · by_cases x : 0 ≤ X ∧ X ≤ 3
    · by_cases y : Y = 0
      · simp (disch := omega) only [n1, n2, n3, eq_true n4, call_in_ok, x, eq_true y, true_or, r0_call_numbers, r1_call_numbers, r2_call_numbers, r3_call_numbers, r4_call_numbers, r5_call_numbers, r6_call_numbers, r7_call_numbers, r8_call_numbers, r9_call_numbers, k5_call_numbers, r10_call_numbers, k6_call_numbers, k4_call_numbers, k3_call_numbers, k2_call_numbers, k1_call_numbers, r11_call_numbers, k7_call_numbers, k0_call_numbers, c_call_numbers, Z0, Z1, Z2, Z3, Z4, Z5, Z6, Z7, Z8, Z9, Z10, resAll, Nat.reduceAdd, Nat.reduceEqDiff, Nat.reduceLeDiff, Nat.reduceMul, ↓reduceIte, reduceCtorEq, Nat.reduceBEq, aoper, Nat.reduceLT, Int.reduceEq, Int.reduceLT, Int.reduceLE]
      · simp (disch := omega) only [n1, n2, n3, eq_true n4, call_in_ok, x, y, true_or, r0_call_numbers, r1_call_numbers, r2_call_numbers, r3_call_numbers, r4_call_numbers, r5_call_numbers, r6_call_numbers, r7_call_numbers, r8_call_numbers, r9_call_numbers, k5_call_numbers, r10_call_numbers, k6_call_numbers, k4_call_numbers, k3_call_numbers, k2_call_numbers, k1_call_numbers, r11_call_numbers, k7_call_numbers, k0_call_numbers, c_call_numbers, Z0, Z1, Z2, Z3, Z4, Z5, Z6, Z7, Z8, Z9, Z10, resAll, Nat.reduceAdd, Nat.reduceEqDiff, Nat.reduceLeDiff, Nat.reduceMul, ↓reduceIte, reduceCtorEq, Nat.reduceBEq, aoper, Nat.reduceLT, Int.reduceEq, Int.reduceLT, Int.reduceLE]
    · simp (disch := omega) only [n1, n2, n3, eq_true n4, call_in_ok, x, true_or, r0_call_numbers, r1_call_numbers, r2_call_numbers, r3_call_numbers, r4_call_numbers, r5_call_numbers, r6_call_numbers, r7_call_numbers, r8_call_numbers, r9_call_numbers, k5_call_numbers, r10_call_numbers, k6_call_numbers, k4_call_numbers, k3_call_numbers, k2_call_numbers, k1_call_numbers, r11_call_numbers, k7_call_numbers, k0_call_numbers, c_call_numbers, Z0, Z1, Z2, Z3, Z4, Z5, Z6, Z7, Z8, Z9, Z10, resAll, Nat.reduceAdd, Nat.reduceEqDiff, Nat.reduceLeDiff, Nat.reduceMul, ↓reduceIte, reduceCtorEq, Nat.reduceBEq, aoper, Nat.reduceLT, Int.reduceEq, Int.reduceLT, Int.reduceLE]
  by_cases n5 : op = 12
  · by_cases x : 0 ≤ X ∧ X ≤ 3
    · by_cases y : Y = 0
      · simp (disch := omega) only [n1, n2, n3, n4, eq_true n5, call_in_ok, x, eq_true y, or_true, r0_call_numbers, r1_call_numbers, r2_call_numbers, r3_call_numbers, r4_call_numbers, r5_call_numbers, r6_call_numbers, r7_call_numbers, r8_call_numbers, r9_call_numbers, k5_call_numbers, r10_call_numbers, k6_call_numbers, k4_call_numbers, k3_call_numbers, k2_call_numbers, k1_call_numbers, r11_call_numbers, k7_call_numbers, k0_call_numbers, c_call_numbers, Z0, Z1, Z2, Z3, Z4, Z5, Z6, Z7, Z8, Z9, Z10, resAll, Nat.reduceAdd, Nat.reduceEqDiff, Nat.reduceLeDiff, Nat.reduceMul, ↓reduceIte, reduceCtorEq, Nat.reduceBEq, aoper, Nat.reduceLT, Int.reduceEq, Int.reduceLT, Int.reduceLE]
      · simp (disch := omega) only [n1, n2, n3, n4, eq_true n5, call_in_ok, x, y, or_true, r0_call_numbers, r1_call_numbers, r2_call_numbers, r3_call_numbers, r4_call_numbers, r5_call_numbers, r6_call_numbers, r7_call_numbers, r8_call_numbers, r9_call_numbers, k5_call_numbers, r10_call_numbers, k6_call_numbers, k4_call_numbers, k3_call_numbers, k2_call_numbers, k1_call_numbers, r11_call_numbers, k7_call_numbers, k0_call_numbers, c_call_numbers, Z0, Z1, Z2, Z3, Z4, Z5, Z6, Z7, Z8, Z9, Z10, resAll, Nat.reduceAdd, Nat.reduceEqDiff, Nat.reduceLeDiff, Nat.reduceMul, ↓reduceIte, reduceCtorEq, Nat.reduceBEq, aoper, Nat.reduceLT, Int.reduceEq, Int.reduceLT, Int.reduceLE]
    · simp (disch := omega) only [n1, n2, n3, n4, eq_true n5, call_in_ok, x, or_true, r0_call_numbers, r1_call_numbers, r2_call_numbers, r3_call_numbers, r4_call_numbers, r5_call_numbers, r6_call_numbers, r7_call_numbers, r8_call_numbers, r9_call_numbers, k5_call_numbers, r10_call_numbers, k6_call_numbers, k4_call_numbers, k3_call_numbers, k2_call_numbers, k1_call_numbers, r11_call_numbers, k7_call_numbers, k0_call_numbers, c_call_numbers, Z0, Z1, Z2, Z3, Z4, Z5, Z6, Z7, Z8, Z9, Z10, resAll, Nat.reduceAdd, Nat.reduceEqDiff, Nat.reduceLeDiff, Nat.reduceMul, ↓reduceIte, reduceCtorEq, Nat.reduceBEq, aoper, Nat.reduceLT, Int.reduceEq, Int.reduceLT, Int.reduceLE]
  by_cases x : X = 0
  · by_cases y : Y = 0
    · simp (disch := omega) only [n1, n2, n3, n4, n5, eq_true x, eq_true y, or_self, r0_call_numbers, r1_call_numbers, r2_call_numbers, r3_call_numbers, r4_call_numbers, r5_call_numbers, r6_call_numbers, r7_call_numbers, r8_call_numbers, r9_call_numbers, k5_call_numbers, r10_call_numbers, k6_call_numbers, k4_call_numbers, k3_call_numbers, k2_call_numbers, k1_call_numbers, r11_call_numbers, k7_call_numbers, k0_call_numbers, c_call_numbers, Z0, Z1, Z2, Z3, Z4, Z5, Z6, Z7, Z8, Z9, Z10, resAll, Nat.reduceAdd, Nat.reduceEqDiff, Nat.reduceLeDiff, Nat.reduceMul, ↓reduceIte, reduceCtorEq, Nat.reduceBEq, aoper, Nat.reduceLT, Int.reduceEq, Int.reduceLT, Int.reduceLE]
    · simp (disch := omega) only [n1, n2, n3, n4, n5, eq_true x, y, or_self, r0_call_numbers, r1_call_numbers, r2_call_numbers, r3_call_numbers, r4_call_numbers, r5_call_numbers, r6_call_numbers, r7_call_numbers, r8_call_numbers, r9_call_numbers, k5_call_numbers, r10_call_numbers, k6_call_numbers, k4_call_numbers, k3_call_numbers, k2_call_numbers, k1_call_numbers, r11_call_numbers, k7_call_numbers, k0_call_numbers, c_call_numbers, Z0, Z1, Z2, Z3, Z4, Z5, Z6, Z7, Z8, Z9, Z10, resAll, Nat.reduceAdd, Nat.reduceEqDiff, Nat.reduceLeDiff, Nat.reduceMul, ↓reduceIte, reduceCtorEq, Nat.reduceBEq, aoper, Nat.reduceLT, Int.reduceEq, Int.reduceLT, Int.reduceLE]
  · simp (disch := omega) only [n1, n2, n3, n4, n5, x, or_self, r0_call_numbers, r1_call_numbers, r2_call_numbers, r3_call_numbers, r4_call_numbers, r5_call_numbers, r6_call_numbers, r7_call_numbers, r8_call_numbers, r9_call_numbers, k5_call_numbers, r10_call_numbers, k6_call_numbers, k4_call_numbers, k3_call_numbers, k2_call_numbers, k1_call_numbers, r11_call_numbers, k7_call_numbers, k0_call_numbers, c_call_numbers, Z0, Z1, Z2, Z3, Z4, Z5, Z6, Z7, Z8, Z9, Z10, resAll, Nat.reduceAdd, Nat.reduceEqDiff, Nat.reduceLeDiff, Nat.reduceMul, ↓reduceIte, reduceCtorEq, Nat.reduceBEq, aoper, Nat.reduceLT, Int.reduceEq, Int.reduceLT, Int.reduceLE]
def bOkB (op : Int) (lB : List Int) : Bool := (decide ((lB.length : Int) = 0) && !(hasBo op)) || (pathB lB && anyB op)
def callB (op : Int) (lA lB : List Int) (X Y W : Int) : Bool := decide (1 ≤ op ∧ op ≤ 13) && pathB lA && bOkB op lB && numsB op X Y && (decide (W = 0) || hasWo op)
theorem callGood_ok (d : Nat) (σ : AHeap) (op : Int) (lA lB : List Int) (X Y W : Int) (aA : Option Addr) (fA : Nat) (aB : Option Addr) (fB : Nat) (h1 : SlI σ aA lA) (h2 : SlI σ aB lB) :
    acall (ofProg Tryz.prog) 1000 (d + 6) 47 [callV op aA lA.length fA aB lB.length fB X Y W] σ = some (.bool (callB op lA lB X Y W), σ) := by
  refine acall_flat e_call_Good (by simp) rfl ?_
  obtain ⟨hB1, hB2, hW1, hW2, hN⟩ := hasB_op op
  have hpA := fun L => path_Good_ok (d + 1) (σ.fresh.grow L) lA aA fA (h1.fresh.grow L)
  have hpB := fun L => path_Good_ok (d + 1) (σ.fresh.grow L) lB aB fB (h2.fresh.grow L)
  have hB := fun L => Contains_ok (d + 1) (σ.fresh.grow L) (lOf op) 66 hB2
  have hW := fun L => Contains_ok (d + 1) (σ.fresh.grow L) (lOf op) 87 hW2
  simp only [hB1] at hB
  simp only [hW1] at hW
  have hA := fun L => ContainsAny_op d (σ.fresh.grow L) op
  have hf := fun L => call_fields_ok d (σ.fresh.grow L) op
  have hn := fun L => numbersG_ok (d + 3) (σ.fresh.grow L) op X Y W aA lA.length fA aB lB.length fB
  have hN' : abinA .neq (.string (lOf op)) (.string ⟨#[]⟩) = some (.bool (decide (1 ≤ op ∧ op ≤ 13))) := by rw [bin_neqS, hN, Bool.not_not]
  have fin : ∀ b, bOkB op lB = b → ∀ (t : Tmps), tget t 1 = here σ.fresh.n 0 → tget t 4 = .string (lOf op) → tget t 5 = .bool b → Hai.Ends (acode (acall (ofProg Tryz.prog) 1000 (d + 5)) 1000 k2_call_Good t (σ.fresh.grow [(callL op aA lA.length fA aB lB.length fB X Y W, 6)])) (finQ σ.n [.tmp 2] (.bool (callB op lA lB X Y W))) := by
    intro b hb t t1 t4 t5
    unfold callB
    rw [hb]
    by_cases c5 : 1 ≤ op ∧ op ≤ 13
    · cases c6 : pathB lA with
      | false => simp (disch := omega) only [t1, t4, t5, hN', c5, hpA, c6, r3_call_Good, k2_call_Good, Z0, Z1, Z2, Z3, Z4, Z5, Z6, Z7, Z8, Z9, Z10, resAll, Nat.reduceAdd, Nat.reduceEqDiff, Nat.reduceLeDiff, Nat.reduceMul, ↓reduceIte, reduceCtorEq, Nat.reduceBEq, aoper, Nat.reduceLT, Int.reduceEq, Int.reduceLT, Int.reduceLE]
      | true =>
        cases b with
        | false => simp (disch := omega) only [t1, t4, t5, hN', c5, hpA, c6, r3_call_Good, k2_call_Good, Z0, Z1, Z2, Z3, Z4, Z5, Z6, Z7, Z8, Z9, Z10, resAll, Nat.reduceAdd, Nat.reduceEqDiff, Nat.reduceLeDiff, Nat.reduceMul, ↓reduceIte, reduceCtorEq, Nat.reduceBEq, aoper, Nat.reduceLT, Int.reduceEq, Int.reduceLT, Int.reduceLE]
        | true =>
          cases c7 : numsB op X Y with
          | false => simp (disch := omega) only [t1, t4, t5, hN', c5, hpA, c6, hn, c7, r3_call_Good, k2_call_Good, Z0, Z1, Z2, Z3, Z4, Z5, Z6, Z7, Z8, Z9, Z10, resAll, Nat.reduceAdd, Nat.reduceEqDiff, Nat.reduceLeDiff, Nat.reduceMul, ↓reduceIte, reduceCtorEq, Nat.reduceBEq, aoper, Nat.reduceLT, Int.reduceEq, Int.reduceLT, Int.reduceLE]
          | true =>
            by_cases c8 : W = 0
            · simp (disch := omega) only [t1, t4, t5, hN', c5, hpA, c6, hn, c7, eq_true c8, r3_call_Good, k2_call_Good, Z0, Z1, Z2, Z3, Z4, Z5, Z6, Z7, Z8, Z9, Z10, resAll, Nat.reduceAdd, Nat.reduceEqDiff, Nat.reduceLeDiff, Nat.reduceMul, ↓reduceIte, reduceCtorEq, Nat.reduceBEq, aoper, Nat.reduceLT, Int.reduceEq, Int.reduceLT, Int.reduceLE]
            · cases c9 : hasWo op with
              | false => simp (disch := omega) only [t1, t4, t5, hN', c5, hpA, c6, hn, c7, c8, hW, c9, r3_call_Good, k2_call_Good, Z0, Z1, Z2, Z3, Z4, Z5, Z6, Z7, Z8, Z9, Z10, resAll, Nat.reduceAdd, Nat.reduceEqDiff, Nat.reduceLeDiff, Nat.reduceMul, ↓reduceIte, reduceCtorEq, Nat.reduceBEq, aoper, Nat.reduceLT, Int.reduceEq, Int.reduceLT, Int.reduceLE]
              | true => simp (disch := omega) only [t1, t4, t5, hN', c5, hpA, c6, hn, c7, c8, hW, c9, r3_call_Good, k2_call_Good, Z0, Z1, Z2, Z3, Z4, Z5, Z6, Z7, Z8, Z9, Z10, resAll, Nat.reduceAdd, Nat.reduceEqDiff, Nat.reduceLeDiff, Nat.reduceMul, ↓reduceIte, reduceCtorEq, Nat.reduceBEq, aoper, Nat.reduceLT, Int.reduceEq, Int.reduceLT, Int.reduceLE]
    · simp (disch := omega) only [t1, t4, t5, hN', c5, r3_call_Good, k2_call_Good, Z0, Z1, Z2, Z3, Z4, Z5, Z6, Z7, Z8, Z9, Z10, resAll, Nat.reduceAdd, Nat.reduceEqDiff, Nat.reduceLeDiff, Nat.reduceMul, ↓reduceIte, reduceCtorEq, Nat.reduceBEq, aoper, Nat.reduceLT, Int.reduceEq, Int.reduceLT, Int.reduceLE]
  by_cases c1 : (lB.length : Int) = 0
  · cases c2 : hasBo op with
    | false =>
      simp (disch := omega) only [hf, hB, eq_true c1, c2, c_call_Good, r0_call_Good, r1_call_Good, r2_call_Good, k0_call_Good, k1_call_Good, Z0, Z1, Z2, Z3, Z4, Z5, Z6, Z7, Z8, Z9, Z10, resAll, Nat.reduceAdd, Nat.reduceEqDiff, Nat.reduceLeDiff, Nat.reduceMul, ↓reduceIte, reduceCtorEq, Nat.reduceBEq, aoper, Nat.reduceLT, Int.reduceEq, Int.reduceLT, Int.reduceLE]
      refine fin true (by unfold bOkB; rw [c2]; simp [c1]) _ ?_ ?_ ?_ <;> simp (disch := omega) only [Z0, Z1, Z2, Z3, Z4, Z5, Z6, Z7, Z8, Z9, Z10, resAll, Nat.reduceAdd, Nat.reduceEqDiff, Nat.reduceLeDiff, Nat.reduceMul, ↓reduceIte, reduceCtorEq, Nat.reduceBEq, aoper, Nat.reduceLT, Int.reduceEq, Int.reduceLT, Int.reduceLE]
    | true =>
      cases c3 : pathB lB with
      | false =>
        simp (disch := omega) only [hf, hB, eq_true c1, c2, hpB, c3, c_call_Good, r0_call_Good, r1_call_Good, r2_call_Good, k0_call_Good, k1_call_Good, Z0, Z1, Z2, Z3, Z4, Z5, Z6, Z7, Z8, Z9, Z10, resAll, Nat.reduceAdd, Nat.reduceEqDiff, Nat.reduceLeDiff, Nat.reduceMul, ↓reduceIte, reduceCtorEq, Nat.reduceBEq, aoper, Nat.reduceLT, Int.reduceEq, Int.reduceLT, Int.reduceLE]
        refine fin false (by unfold bOkB; rw [c2, c3]; simp) _ ?_ ?_ ?_ <;> simp (disch := omega) only [Z0, Z1, Z2, Z3, Z4, Z5, Z6, Z7, Z8, Z9, Z10, resAll, Nat.reduceAdd, Nat.reduceEqDiff, Nat.reduceLeDiff, Nat.reduceMul, ↓reduceIte, reduceCtorEq, Nat.reduceBEq, aoper, Nat.reduceLT, Int.reduceEq, Int.reduceLT, Int.reduceLE]
      | true =>
        cases c4 : anyB op with
        | false =>
          simp (disch := omega) only [hf, hB, eq_true c1, c2, hpB, c3, hA, c4, c_call_Good, r0_call_Good, r1_call_Good, r2_call_Good, k0_call_Good, k1_call_Good, Z0, Z1, Z2, Z3, Z4, Z5, Z6, Z7, Z8, Z9, Z10, resAll, Nat.reduceAdd, Nat.reduceEqDiff, Nat.reduceLeDiff, Nat.reduceMul, ↓reduceIte, reduceCtorEq, Nat.reduceBEq, aoper, Nat.reduceLT, Int.reduceEq, Int.reduceLT, Int.reduceLE]
          refine fin false (by unfold bOkB; rw [c2, c3, c4]; simp) _ ?_ ?_ ?_ <;> simp (disch := omega) only [Z0, Z1, Z2, Z3, Z4, Z5, Z6, Z7, Z8, Z9, Z10, resAll, Nat.reduceAdd, Nat.reduceEqDiff, Nat.reduceLeDiff, Nat.reduceMul, ↓reduceIte, reduceCtorEq, Nat.reduceBEq, aoper, Nat.reduceLT, Int.reduceEq, Int.reduceLT, Int.reduceLE]
        | true =>
          simp (disch := omega) only [hf, hB, eq_true c1, c2, hpB, c3, hA, c4, c_call_Good, r0_call_Good, r1_call_Good, r2_call_Good, k0_call_Good, k1_call_Good, Z0, Z1, Z2, Z3, Z4, Z5, Z6, Z7, Z8, Z9, Z10, resAll, Nat.reduceAdd, Nat.reduceEqDiff, Nat.reduceLeDiff, Nat.reduceMul, ↓reduceIte, reduceCtorEq, Nat.reduceBEq, aoper, Nat.reduceLT, Int.reduceEq, Int.reduceLT, Int.reduceLE]
          refine fin true (by unfold bOkB; rw [c2, c3, c4]; simp) _ ?_ ?_ ?_ <;> simp (disch := omega) only [Z0, Z1, Z2, Z3, Z4, Z5, Z6, Z7, Z8, Z9, Z10, resAll, Nat.reduceAdd, Nat.reduceEqDiff, Nat.reduceLeDiff, Nat.reduceMul, ↓reduceIte, reduceCtorEq, Nat.reduceBEq, aoper, Nat.reduceLT, Int.reduceEq, Int.reduceLT, Int.reduceLE]
  · cases c3 : pathB lB with
    | false =>
      simp (disch := omega) only [hf, c1, hpB, c3, c_call_Good, r0_call_Good, r1_call_Good, r2_call_Good, k0_call_Good, k1_call_Good, Z0, Z1, Z2, Z3, Z4, Z5, Z6, Z7, Z8, Z9, Z10, resAll, Nat.reduceAdd, Nat.reduceEqDiff, Nat.reduceLeDiff, Nat.reduceMul, ↓reduceIte, reduceCtorEq, Nat.reduceBEq, aoper, Nat.reduceLT, Int.reduceEq, Int.reduceLT, Int.reduceLE]
      refine fin false (by unfold bOkB; rw [c3]; simp [c1]; intro h; simp [h] at c1) _ ?_ ?_ ?_ <;> simp (disch := omega) only [Z0, Z1, Z2, Z3, Z4, Z5, Z6, Z7, Z8, Z9, Z10, resAll, Nat.reduceAdd, Nat.reduceEqDiff, Nat.reduceLeDiff, Nat.reduceMul, ↓reduceIte, reduceCtorEq, Nat.reduceBEq, aoper, Nat.reduceLT, Int.reduceEq, Int.reduceLT, Int.reduceLE]
    | true =>
      cases c4 : anyB op with
      | false =>
        simp (disch := omega) only [hf, c1, hpB, c3, hA, c4, c_call_Good, r0_call_Good, r1_call_Good, r2_call_Good, k0_call_Good, k1_call_Good, Z0, Z1, Z2, Z3, Z4, Z5, Z6, Z7, Z8, Z9, Z10, resAll, Nat.reduceAdd, Nat.reduceEqDiff, Nat.reduceLeDiff, Nat.reduceMul, ↓reduceIte, reduceCtorEq, Nat.reduceBEq, aoper, Nat.reduceLT, Int.reduceEq, Int.reduceLT, Int.reduceLE]
        refine fin false (by unfold bOkB; rw [c3, c4]; simp [c1]; intro h; simp [h] at c1) _ ?_ ?_ ?_ <;> simp (disch := omega) only [Z0, Z1, Z2, Z3, Z4, Z5, Z6, Z7, Z8, Z9, Z10, resAll, Nat.reduceAdd, Nat.reduceEqDiff, Nat.reduceLeDiff, Nat.reduceMul, ↓reduceIte, reduceCtorEq, Nat.reduceBEq, aoper, Nat.reduceLT, Int.reduceEq, Int.reduceLT, Int.reduceLE]
      | true =>
        simp (disch := omega) only [hf, c1, hpB, c3, hA, c4, c_call_Good, r0_call_Good, r1_call_Good, r2_call_Good, k0_call_Good, k1_call_Good, Z0, Z1, Z2, Z3, Z4, Z5, Z6, Z7, Z8, Z9, Z10, resAll, Nat.reduceAdd, Nat.reduceEqDiff, Nat.reduceLeDiff, Nat.reduceMul, ↓reduceIte, reduceCtorEq, Nat.reduceBEq, aoper, Nat.reduceLT, Int.reduceEq, Int.reduceLT, Int.reduceLE]
        refine fin true (by unfold bOkB; rw [c3, c4]; simp) _ ?_ ?_ ?_ <;> simp (disch := omega) only [Z0, Z1, Z2, Z3, Z4, Z5, Z6, Z7, Z8, Z9, Z10, resAll, Nat.reduceAdd, Nat.reduceEqDiff, Nat.reduceLeDiff, Nat.reduceMul, ↓reduceIte, reduceCtorEq, Nat.reduceBEq, aoper, Nat.reduceLT, Int.reduceEq, Int.reduceLT, Int.reduceLE]
end Go.Proofs.YtidmcpkbcphpiaaGreat
namespace Go.Proofs.YtidmcpkbcphpiaaGreat
open Go Go.Hai
set_option maxRecDepth 20000
set_option linter.unusedSimpArgs false
set_option maxHeartbeats 8000000
attribute [local irreducible] Hai.Ends EndsR EndsO EndsD EndsX EndsE EndsK AHeap.grow AHeap.putR AHeap.putM okLow inN
def r0_take_Do : List AOper := [(.mk (some 3) none (.box 5 (.tmp 0))), (.mk (some 5) none (.box 6 (.tmp 2))), (.mk (some 6) none (.alloc [(.int .i64 0), (.int .i64 0), (.int .i64 0), (.slice none 0 0), (.slice none 0 0)] 5)), (.mk (some 7) none (.alloc [(.int .i64 0), (.int .u64 0), (.int .i64 0)] 3))]
def r1_take_Do : List AOper := [(.mk (some 13) none (.load true 6 (.tmp 5))), (.mk (some 14) none (.call 47 [(.tmp 13)])), (.mk (some 15) none (.un .not (.tmp 14))), (.mk (some 16) none (.mv (.tmp 15))), (.mk (some 17) (some (16, false)) (.fldA 0 (.tmp 5))), (.mk (some 18) (some (16, false)) (.load false 1 (.tmp 17))), (.mk (some 19) (some (16, false)) (.bin .neq (.tmp 18) (.const (.int .i64 5)))), (.mk (some 20) (some (16, false)) (.mv (.tmp 19))), (.mk (some 21) (some (20, true)) (.fldA 0 (.tmp 5))), (.mk (some 22) (some (20, true)) (.load false 1 (.tmp 21))), (.mk (some 23) (some (20, true)) (.bin .neq (.tmp 22) (.const (.int .i64 6)))), (.mk (some 24) (some (16, false)) (.pick (.tmp 20) (.tmp 23) (.const (.bool false)))), (.mk (some 25) none (.pick (.tmp 16) (.const (.bool true)) (.tmp 24)))]
def r2_take_Do : List AOper := [(.mk (some 26) none (.load true 5 (.tmp 3))), (.mk (some 27) none (.build [(.int .i64 0), (.int .u64 0), (.int .i64 0)] [(0, (1, (.const (.int .i64 1))))])), (.mk none none (.store 5 (.tmp 6) (.tmp 26))), (.mk none none (.store 3 (.tmp 7) (.tmp 27)))]
def k1_take_Do : ACode := (.cond (.tmp 25) (.seq (.reg r2_take_Do) .ret) .skip)
def r3_take_Do : List AOper := [(.mk (some 29) none (.load true 5 (.tmp 3))), (.mk (some 30) none (.mv (.tmp 1))), (.mk (some 31) none (.fldA 1 (.tmp 5))), (.mk (some 32) none (.load true 1 (.tmp 31))), (.mk (some 33) none (.call 28 [(.tmp 29), (.tmp 30), (.tmp 32)])), (.mk (some 28) none (.mv (.tmp 33))), (.mk (some 34) none (.ext (.tmp 28) 0)), (.mk (some 35) none (.ext (.tmp 28) 1)), (.mk (some 36) none (.ext (.tmp 28) 2)), (.mk (some 9) none (.alloc [(.int .i64 0), (.int .i64 0), (.int .i64 0), (.int .i64 0)] 4)), (.mk (some 8) none (.mv (.tmp 34))), (.mk none none (.store 4 (.tmp 9) (.tmp 35))), (.mk (some 10) none (.mv (.tmp 36)))]
def r4_take_Do : List AOper := [(.mk (some 37) none (.mv (.tmp 10))), (.mk (some 38) none (.bin .neq (.tmp 37) (.const (.int .i64 0))))]
def r5_take_Do : List AOper := [(.mk (some 39) none (.load true 5 (.tmp 3))), (.mk (some 40) none (.mv (.tmp 10))), (.mk (some 41) none (.build [(.int .i64 0), (.int .u64 0), (.int .i64 0)] [(0, (1, (.tmp 40)))])), (.mk none none (.store 5 (.tmp 6) (.tmp 39))), (.mk none none (.store 3 (.tmp 7) (.tmp 41)))]
def k4_take_Do : ACode := (.cond (.tmp 38) (.seq (.reg r5_take_Do) .ret) .skip)
def r6_take_Do : List AOper := [(.mk (some 42) none (.mv (.tmp 8))), (.mk (some 43) none (.buildSl [(.int .i64 0)] 1 1 [(0, (1, (.tmp 42)))])), (.mk (some 11) none (.mv (.tmp 43)))]
def r7_take_Do : List AOper := [(.mk (some 44) none (.fldA 0 (.tmp 5))), (.mk (some 45) none (.load false 1 (.tmp 44))), (.mk (some 46) none (.bin .eql (.tmp 45) (.const (.int .i64 6))))]
def r8_take_Do : List AOper := [(.mk (some 47) none (.load true 5 (.tmp 3))), (.mk (some 48) none (.call 62 [(.tmp 47)])), (.mk (some 49) none (.mv (.tmp 8))), (.mk (some 50) none (.call 101 [(.tmp 48), (.tmp 49)])), (.mk (some 11) none (.mv (.tmp 50)))]
def k7_take_Do : ACode := (.cond (.tmp 46) (.reg r8_take_Do) .skip)
def r9_take_Do : List AOper := [(.mk (some 52) none (.load true 5 (.tmp 3))), (.mk (some 53) none (.mv (.tmp 11))), (.mk (some 54) none (.call 39 [(.tmp 52), (.tmp 53)])), (.mk (some 51) none (.mv (.tmp 54))), (.mk (some 55) none (.ext (.tmp 51) 0)), (.mk (some 56) none (.ext (.tmp 51) 1)), (.mk none none (.store 5 (.tmp 3) (.tmp 55))), (.mk (some 12) none (.mv (.tmp 56)))]
def r10_take_Do : List AOper := [(.mk (some 57) none (.load true 5 (.tmp 3))), (.mk (some 58) none (.mv (.tmp 12))), (.mk (some 59) none (.build [(.int .i64 0), (.int .u64 0), (.int .i64 0)] [(2, (1, (.tmp 58)))])), (.mk none none (.store 5 (.tmp 6) (.tmp 57))), (.mk none none (.store 3 (.tmp 7) (.tmp 59)))]
def k9_take_Do : ACode := (.seq (.reg r10_take_Do) .ret)
def k8_take_Do : ACode := (.seq (.reg r9_take_Do) k9_take_Do)
def k6_take_Do : ACode := (.seq (.seq (.reg r7_take_Do) k7_take_Do) k8_take_Do)
def k5_take_Do : ACode := (.seq (.reg r6_take_Do) k6_take_Do)
def k3_take_Do : ACode := (.seq (.seq (.reg r4_take_Do) k4_take_Do) k5_take_Do)
def k2_take_Do : ACode := (.seq (.reg r3_take_Do) k3_take_Do)
def k0_take_Do : ACode := (.seq (.seq (.reg r1_take_Do) k1_take_Do) k2_take_Do)
def c_take_Do : ACode := (.seq (.reg r0_take_Do) k0_take_Do)
theorem e_take_Do : ofProg Tryz.prog 43 = some ⟨60, [(.cell 6 true 5), (.cell 7 true 3)], c_take_Do⟩ := by kernel_rfl
def NoF (σ : AHeap) (b : Nat) : Prop := ∀ cs len es top rw fam, σ.t.get b = some (.row cs len es top rw fam) → fam = none
theorem NoF.row {σ : AHeap} {b : Nat} {r : List Value × Nat} (h : σ.t.get b = some (rowOf r)) : NoF σ b := fun cs len es top rw fam e => by rw [h] at e; simp only [rowOf, Option.some.injEq, AObj.row.injEq] at e; exact e.2.2.2.2.2.symm
theorem NoF.same {σ τ : AHeap} {b : Nat} (h : NoF σ b) (e : τ.t.get b = σ.t.get b) : NoF τ b := fun cs len es top rw fam e' => h cs len es top rw fam (by rw [← e]; exact e')
theorem NoF.load {σ τ : AHeap} {b : Nat} (h : NoF σ b) (e : τ.t.get b = σ.t.get b) (o n : Nat) : τ.loadN b o n = σ.loadN b o n := by
  unfold AHeap.loadN AHeap.row?
  rw [e]
  cases hg : σ.t.get b with
  | none => rfl
  | some r =>
    cases r with
    | obj o => rfl
    | row cs len es top rw fam => rw [h _ _ _ _ _ _ hg]; rfl
theorem Keeps.kee {σ τ : AHeap} (k : Keeps σ τ) (hd : Liv σ.n σ) : Kee σ τ := ⟨k.n, k.low, hd.keeps k, k.row⟩
theorem Kee.trans {σ τ υ : AHeap} (h : Kee σ τ) (k : Kee τ υ) : Kee σ υ := ⟨Nat.le_trans h.n k.n, k.low.trans h.low, k.dead, fun b hb => (k.row b (Nat.lt_of_lt_of_le hb h.n)).trans (h.row b hb)⟩
theorem Kee.at {σ τ : AHeap} {α : Type} {cells : α → List Value} {es b : Nat} {l : List α} (h : Kee σ τ) (hf : NoF σ b) (hs : SlAt cells es σ b l) : SlAt cells es τ b l :=
  ⟨Nat.lt_of_lt_of_le hs.1 h.n, fun i x hx o n ho => by rw [hf.load (h.row b hs.1)]; exact hs.2 i x hx o n ho⟩
theorem Kee.rows {σ τ : AHeap} {L : List (List Value × Nat)} (h : Kee (σ.grow L) τ) (k : Nat) {r : List Value × Nat} (hk : Hai.rowAt L k = some r) : τ.t.get (σ.n + k) = some (rowOf r) := by
  have hk' : L[k]? = some r := by rw [← rowAt_eq]; exact hk
  have hlt : k < L.length := (List.getElem?_eq_some_iff.1 hk').1
  rw [h.row _ (by rw [grow_n]; omega)]
  exact grow_new σ L k hk'
theorem Kee.cut {σ τ : AHeap} {L : List (List Value × Nat)} (h : Kee (σ.grow L) τ) : Kee σ τ := ⟨by have := h.n; rw [grow_n] at this; omega, h.low.trans (grow_low _ _), h.dead, fun b hb => (h.row b (by rw [grow_n]; omega)).trans (grow_old _ _ hb)⟩
theorem Kee.putR {σ τ : AHeap} (h : Kee σ τ) {b : Nat} (hb : σ.n ≤ b) (l : List Value) (e : Nat) : Kee σ (τ.putR b l e) :=
  ⟨by rw [putR_n]; exact h.n, by rw [putR_low]; exact h.low, fun p hp => by rw [putR_n]; exact h.dead p (by rw [putR_dead] at hp; exact hp), fun c hc => by rw [putR_far (by omega)]; exact h.row c hc⟩
theorem Kee.back {σ τ : AHeap} (h : Kee σ.fresh τ) : Kee σ (τ.setLow σ.low) := ⟨h.n, rfl, h.dead, h.row⟩
def StK (σ : AHeap) (a b : Nat) (T : StD) (v : Value) (τ : AHeap) : Prop := ∃ b1 f1 b2 f2, v = stV T (some ⟨b1, 0, none⟩) f1 (some ⟨b2, 0, none⟩) f2 ∧ SlAt slotL 5 τ b1 T.sl ∧ SlAt thingL 13 τ b2 T.th ∧ Kee σ τ ∧ (b1 = a ∨ σ.n ≤ b1) ∧ (b2 = b ∨ σ.n ≤ b2)
def revF (S : StD) (thread : Int) (l : List Int) : StD × Int × Int :=
  if pathB l = true then
    (if (capF S thread l).2.2 = 0 then ((takeF S (sortI (belF (upL S) (capF S thread l).1))).1, 0, (takeF S (sortI (belF (upL S) (capF S thread l).1))).2) else (S, (capF S thread l).2.2, 0))
  else (S, 1, 0)
theorem call6B (l : List Int) : callB 6 l [] 0 0 0 = pathB l := by
  unfold callB bOkB numsB hasBo hasWo anyB
  simp
theorem good_forest {S : StD} (h : goodB S = true) : forestB (upL S) = true := by
  unfold goodB at h
  simp only [Bool.and_eq_true] at h
  exact h.1.2
theorem slot_up {S : StD} (hg : goodB S = true) {n : Nat} {x : SlotD} (hx : S.sl[n]? = some x) : (capNone x = true → x.up = -1) ∧ (capNone x = false → -1 ≤ x.up) := by
  have hs := all_get (goodF hg).caps hx
  unfold slotB at hs
  constructor
  · intro g
    rw [g] at hs
    simp at hs
    omega
  · intro g
    rw [g] at hs
    simp at hs
    omega
theorem up_at {S : StD} {n : Int} {x : SlotD} (h : atI S.sl n = some x) : atI (upL S) n = some (upOf x) := by
  obtain ⟨h1, h2⟩ := atI_to h
  have hl := (List.getElem?_eq_some_iff.1 h1).1
  obtain ⟨u, e1, e2⟩ := atI_some (l := upL S) (z := n) (by omega) (by rw [upL_length]; omega)
  rw [e1]
  simp only [upL, List.getElem?_map, h1, Option.map_some, Option.some.injEq] at e2
  rw [e2]
theorem up_there {S : StD} (hg : goodB S = true) {n : Int} {x : SlotD} (h : atI S.sl n = some x) (hc : capNone x = false) : upB (upL S) n = true := by
  unfold upB
  rw [up_at h]
  have := (slot_up hg (atI_to h).1).2 hc
  unfold upOf
  rw [hc]
  simp
  omega
theorem good_96 {S : StD} (hg : goodB S = true) : S.sl.length ≤ 96 := by
  have := good_forest hg
  unfold forestB at this
  simp only [Bool.and_eq_true, decide_eq_true_eq] at this
  have := this.1.1
  rw [upL_length] at this
  omega
theorem take_Do6_ok (d : Nat) (σ : AHeap) (S : StD) (b1 f1 b2 f2 : Nat) (thread : Int) (l : List Int) (aA : Option Addr) (fA : Nat) (hg : goodB S = true) (hd : Liv σ.n σ) (hlo : σ.low ≤ σ.n)
    (h1 : SlAt slotL 5 σ b1 S.sl) (h2 : SlAt thingL 13 σ b2 S.th) (h3 : SlI σ aA l) (nf1 : NoF σ b1) (nf2 : NoF σ b2) :
    ∃ v τ, acall (ofProg Tryz.prog) 1000 (d + S.th.length + S.sl.length + 11) 43 [stV S (some ⟨b1, 0, none⟩) f1 (some ⟨b2, 0, none⟩) f2, .int .i64 thread, callV 6 aA l.length fA none 0 0 0 0 0] σ = some (.tuple [v, repV (revF S thread l).2.1 0 (revF S thread l).2.2].toArray, τ) ∧ StK σ b1 b2 (revF S thread l).1 v τ := by
  suffices hs : Hai.Ends (acode (acall (ofProg Tryz.prog) 1000 (d + S.th.length + S.sl.length + 10)) 1000 c_take_Do (Tr.of [stV S (some ⟨b1, 0, none⟩) f1 (some ⟨b2, 0, none⟩) f2, .int .i64 thread, callV 6 aA l.length fA none 0 0 0 0 0]) (σ.fresh.grow []))
      (finA σ.n [.cell 6 true 5, .cell 7 true 3] fun v τ => ∃ u, v = .tuple [u, repV (revF S thread l).2.1 0 (revF S thread l).2.2].toArray ∧ StK σ.fresh b1 b2 (revF S thread l).1 u τ) by
    obtain ⟨v, τ', e, τ, ⟨u, rfl, a1', f1', a2', f2', rfl, g1, g2, g3, g4⟩, g⟩ := acall_addr e_take_Do (by simp) hlo hs
    rcases g with ⟨g, _⟩ | rfl
    · cases g
    · exact ⟨_, _, e, _, _, _, _, rfl, g1, g2, g3.back, g4⟩
  obtain ⟨n1, n2, n3, n4⟩ := good_len hg
  have z0 : ((0 : Nat) : Int) = 0 := rfl
  have g1 : SlS σ (some ⟨b1, 0, none⟩) S.sl := .inr ⟨b1, rfl, h1⟩
  have g2 : SlT σ (some ⟨b2, 0, none⟩) S.th := .inr ⟨b2, rfl, h2⟩
  have hG := fun L => callGood_ok (d + S.th.length + S.sl.length + 4) (σ.fresh.grow L) 6 l [] 0 0 0 aA fA none 0 (h3.fresh.grow L) (.inl rfl)
  simp only [call6B, List.length_nil] at hG
  have hcap := fun L => find_Cap_ok (d + S.sl.length) (σ.fresh.grow L) S (some ⟨b1, 0, none⟩) f1 (some ⟨b2, 0, none⟩) f2 thread l aA fA (Liv.gr (σ := σ.fresh) hd _) (g1.fresh.grow L) (g2.fresh.grow L) (h3.fresh.grow L)
  rw [show d + S.sl.length + S.th.length + 10 = d + S.th.length + S.sl.length + 10 by omega] at hcap
  have fin : ∀ L, StK σ.fresh b1 b2 S (stV S (some ⟨b1, 0, none⟩) f1 (some ⟨b2, 0, none⟩) f2) (σ.fresh.grow L) := fun L => ⟨_, _, _, _, rfl, SlAt.keeps (σ := σ.fresh) h1 (Keeps.self _ _), SlAt.keeps (σ := σ.fresh) h2 (Keeps.self _ _), Keeps.kee (Keeps.self _ _) hd, .inl rfl, .inl rfl⟩
  cases c1 : pathB l with
  | false =>
    have hs : revF S thread l = (S, 1, 0) := by unfold revF; rw [c1]; rfl
    simp (disch := omega) only [sl6_all, sl6_0, sl6_1, hG, c1, hs, r0_take_Do, r1_take_Do, r2_take_Do, k1_take_Do, r3_take_Do, r4_take_Do, r5_take_Do, k4_take_Do, r6_take_Do, r7_take_Do, r8_take_Do, k7_take_Do, r9_take_Do, r10_take_Do, k9_take_Do, k8_take_Do, k6_take_Do, k5_take_Do, k3_take_Do, k2_take_Do, k0_take_Do, c_take_Do, Z0, Z1, Z2, Z3, Z4, Z5, Z6, Z7, Z8, Z9, Z10, resAll, Nat.reduceAdd, Nat.reduceEqDiff, Nat.reduceLeDiff, Nat.reduceMul, ↓reduceIte, reduceCtorEq, Nat.reduceBEq, aoper, Nat.reduceLT, Int.reduceEq, Int.reduceLT, Int.reduceLE]
    exact ⟨_, rfl, fin _⟩
  | true =>
    by_cases c2 : (capF S thread l).2.2 = 0
    · obtain ⟨x, t, e1, e2, e3, e4, e5, e6⟩ := capF_in hg c2
      have hs : revF S thread l = ((takeF S (sortI (belF (upL S) (capF S thread l).1))).1, 0, (takeF S (sortI (belF (upL S) (capF S thread l).1))).2) := by unfold revF; rw [c1, if_pos rfl, if_pos c2]
      generalize hat : (capF S thread l).1 = at' at *
      have hul := upL_length S
      have hub : upB (upL S) at' = true := up_there hg e3 e2
      generalize hL : ([(stL S (some ⟨b1, 0, none⟩) f1 (some ⟨b2, 0, none⟩) f2, 5), (callL 6 aA l.length fA none 0 0 0 0 0, 6), ([.int .i64 0, .int .i64 0, .int .i64 0, .slice none 0 0, .slice none 0 0], 5), ([.int .i64 0, .int .u64 0, .int .i64 0], 3), (capL x, 4), ([i64 at'], 1)] : List (List Value × Nat)) = L
      have kL := Keeps.self σ.fresh L
      have dL : Liv (σ.fresh.grow L).n (σ.fresh.grow L) := Liv.gr (σ := σ.fresh) hd L
      have nL : (σ.fresh.grow L).n = σ.n + 6 := by rw [grow_n, ← hL]; rfl
      obtain ⟨a3, f3, τ1, ef, sf, k1⟩ := state_Forest_ok (d + S.th.length + S.sl.length + 8) (σ.fresh.grow L) S (some ⟨b1, 0, none⟩) f1 (some ⟨b2, 0, none⟩) f2 dL (low_grow fresh_le _) (g1.fresh.grow L) n1 n2
      have d1 : Liv τ1.n τ1 := dL.keeps k1
      have w1 : τ1.low = σ.n := by rw [k1.low, grow_low]; rfl
      have m1 : σ.n + 6 ≤ τ1.n := by have := k1.n; rw [nL] at this; exact this
      obtain ⟨v2, τ2, eb, k2, a4, f4, rfl, s4⟩ := Below_ok (d + S.th.length + 6) (τ1.grow []) (upL S) a3 f3 at' (by rw [grow_nil]; exact d1) (by rw [grow_nil]; omega) (sf.grow []) (by have := good_96 hg; omega) (good_forest hg) hub
      rw [hul, show d + S.th.length + 6 + S.sl.length + 4 = d + S.th.length + S.sl.length + 10 by omega] at eb
      rw [show d + S.th.length + S.sl.length + 8 + 2 = d + S.th.length + S.sl.length + 10 by omega] at ef
      rw [hul] at ef
      have kk : Kee σ.fresh τ2 := (Keeps.kee (kL.trans k1) hd).trans (by rw [grow_nil] at k2; exact k2)
      have kg : Kee (σ.fresh.grow L) τ2 := (Keeps.kee k1 dL).trans (by rw [grow_nil] at k2; exact k2)
      have w2 : τ2.low = σ.n := by rw [kk.low]; rfl
      have m2 : σ.n + 6 ≤ τ2.n := by have := kg.n; rw [nL] at this; exact this
      have r0 := kg.rows 0 (by rw [← hL]; rfl)
      rw [Nat.add_zero] at r0
      have hfn : σ.fresh.n = σ.n := rfl
      have lb : ∀ M o n, (τ2.grow M).loadN σ.fresh.n o n = sliceL (stL S (some ⟨b1, 0, none⟩) f1 (some ⟨b2, 0, none⟩) f2) o n := fun M o n => load_sl ((grow_old _ _ (by omega)).trans r0) o n
      have t0 := k1.rows 0 (by rw [← hL]; rfl)
      rw [Nat.add_zero] at t0
      have lb1 : ∀ M o n, (τ1.grow M).loadN σ.fresh.n o n = sliceL (stL S (some ⟨b1, 0, none⟩) f1 (some ⟨b2, 0, none⟩) f2) o n := fun M o n => load_sl ((grow_old _ _ (by omega)).trans t0) o n
      have hbl := belF_len (good_forest hg) (show 0 ≤ at' by have := (atI_to e3).2; omega)
      rw [hul] at hbl
      obtain ⟨v, τ3, ee, ko⟩ := take_Empty_ok (d + S.sl.length + 1) (τ2.grow []) S b1 f1 b2 f2 (sortI (belF (upL S) at')) a4 f4 hg (by rw [grow_nil]; exact k2.dead) (by rw [grow_nil]; omega)
        ((kk.at (NoF.same nf1 rfl) h1).keeps (Keeps.self _ [])) ((kk.at (NoF.same nf2 rfl) h2).keeps (Keeps.self _ [])) (s4.grow []) (by rw [sortI_length]; omega)
      rw [show d + S.sl.length + 1 + S.th.length + 9 = d + S.th.length + S.sl.length + 10 by omega] at ee
      obtain ⟨c1', g1', c2', g2', rfl, u1, u2, k3, x1, x2⟩ := ko
      rw [grow_n] at x1 x2
      simp only [List.length_nil, Nat.add_zero] at x1 x2
      have hb1 : b1 < σ.n := h1.1
      have hb2 : b2 < σ.n := h2.1
      rw [grow_nil] at k3
      have kf : Kee (σ.fresh.grow L) τ3 := kg.trans (Keeps.kee k3 k2.dead)
      have w3 : τ3.low = σ.n := by rw [kf.low, grow_low]; rfl
      have m3 : σ.n + 6 ≤ τ3.n := by have := kf.n; rw [nL] at this; exact this
      have q0 := kf.rows 0 (by rw [← hL]; rfl)
      have q2 := kf.rows 2 (by rw [← hL]; rfl)
      have q3 := kf.rows 3 (by rw [← hL]; rfl)
      rw [Nat.add_zero] at q0
      have l0 := load_sl q0
      have l2 := load_sl q2
      have l3 := load_sl q3
      rw [← grow_nil τ1] at ef
      rw [← grow_nil τ2] at eb
      subst hL
      have w3' : τ3.low = σ.fresh.n := w3
      generalize hT : takeF S (sortI (belF (upL S) at')) = T at *
      simp (disch := omega) only [sl6_all, sl6_0, sl6_1, hG, c1, hs, hcap, hat, e1, eq_true c2, ef, lb1, eb, lb, ee, st_gen, rowSt_row, putM_R, putR_low, putR_load, putR_loadF, putR_get, putR_far, w3', q0, q2, q3, l0, l2, l3, Nat.le_refl, Nat.le_add_right, repL, r0_take_Do, r1_take_Do, r2_take_Do, k1_take_Do, r3_take_Do, r4_take_Do, r5_take_Do, k4_take_Do, r6_take_Do, r7_take_Do, r8_take_Do, k7_take_Do, r9_take_Do, r10_take_Do, k9_take_Do, k8_take_Do, k6_take_Do, k5_take_Do, k3_take_Do, k2_take_Do, k0_take_Do, c_take_Do, Z0, Z1, Z2, Z3, Z4, Z5, Z6, Z7, Z8, Z9, Z10, resAll, Nat.reduceAdd, Nat.reduceEqDiff, Nat.reduceLeDiff, Nat.reduceMul, ↓reduceIte, reduceCtorEq, Nat.reduceBEq, aoper, Nat.reduceLT, Int.reduceEq, Int.reduceLT, Int.reduceLE]
      have kf' := kf.cut
      exact ⟨⟨_, rfl, _, _, _, _, rfl, ((u1.putR (by omega)).putR (by omega)).putR (by omega), ((u2.putR (by omega)).putR (by omega)).putR (by omega), ((kf'.putR (by omega) _ _).putR (by omega) _ _).putR (by omega) _ _, x1.imp id (by omega), x2.imp id (by omega)⟩, rfl⟩
    · have hs : revF S thread l = (S, (capF S thread l).2.2, 0) := by unfold revF; rw [c1, if_pos rfl, if_neg c2]
      simp (disch := omega) only [sl6_all, sl6_0, sl6_1, hG, c1, hs, hcap, c2, r0_take_Do, r1_take_Do, r2_take_Do, k1_take_Do, r3_take_Do, r4_take_Do, r5_take_Do, k4_take_Do, r6_take_Do, r7_take_Do, r8_take_Do, k7_take_Do, r9_take_Do, r10_take_Do, k9_take_Do, k8_take_Do, k6_take_Do, k5_take_Do, k3_take_Do, k2_take_Do, k0_take_Do, c_take_Do, Z0, Z1, Z2, Z3, Z4, Z5, Z6, Z7, Z8, Z9, Z10, resAll, Nat.reduceAdd, Nat.reduceEqDiff, Nat.reduceLeDiff, Nat.reduceMul, ↓reduceIte, reduceCtorEq, Nat.reduceBEq, aoper, Nat.reduceLT, Int.reduceEq, Int.reduceLT, Int.reduceLE]
      exact ⟨_, rfl, fin _⟩
end Go.Proofs.YtidmcpkbcphpiaaGreat
