/-
  The function MailRound of the package reevelaw18 returns true for every state, thread, way and word, whatever the world it is called in, and its arguments are as they were; it needs no condition.
-/
import Derived.Test.YtidmcpkbcphpiaaMR4
import Derived.Test.YtidmcpkbcphpiaaProg
import Derived.ProofKit
import Derived.Test.YtidmcpkbcphpiaaChecked
import Derived.Deep.Slices
import Derived.Carry
import Derived.WideKeyArgs
import Derived.Test.YtidmcpkbcphpiaaRows
namespace Go.Proofs.Ytidmcpkbcphpiaa
open Go Go.Hai
set_option maxRecDepth 20000
set_option linter.unusedSimpArgs false
set_option maxHeartbeats 8000000
attribute [local irreducible] Hai.Ends EndsR EndsO EndsD EndsX AHeap.grow
def r0_slices_Equal_state_Slot_state_Slot : List AOper := [(.mk (some 4) none (.mv (.const (.bool false))))]
def r1_slices_Equal_state_Slot_state_Slot : List AOper := [(.mk (some 6) none (.mv (.tmp 0))), (.mk (some 7) none (.lenS (.tmp 6))), (.mk (some 8) none (.mv (.tmp 1))), (.mk (some 9) none (.lenS (.tmp 8))), (.mk (some 10) none (.bin .neq (.tmp 7) (.tmp 9)))]
def r2_slices_Equal_state_Slot_state_Slot : List AOper := [(.mk (some 4) none (.mv (.const (.bool false))))]
def k1_slices_Equal_state_Slot_state_Slot : ACode := (.cond (.tmp 10) (.seq (.reg r2_slices_Equal_state_Slot_state_Slot) .ret) .skip)
def r3_slices_Equal_state_Slot_state_Slot : List AOper := [(.mk (some 11) none (.mv (.tmp 0))), (.mk (some 12) none (.lenS (.tmp 11))), (.mk (some 13) none (.mv (.const (.int .i64 0))))]
def r4_slices_Equal_state_Slot_state_Slot : List AOper := [(.mk (some 14) none (.bin .lss (.tmp 13) (.tmp 12)))]
def r5_slices_Equal_state_Slot_state_Slot : List AOper := [(.mk (some 15) none (.mv (.tmp 13))), (.mk (some 5) none (.mv (.tmp 15)))]
def r6_slices_Equal_state_Slot_state_Slot : List AOper := [(.mk (some 16) none (.mv (.tmp 0))), (.mk (some 17) none (.mv (.tmp 5))), (.mk (some 18) none (.idxA 5 (.tmp 16) (.tmp 17))), (.mk (some 19) none (.load true 5 (.tmp 18))), (.mk (some 20) none (.mv (.tmp 1))), (.mk (some 21) none (.mv (.tmp 5))), (.mk (some 22) none (.idxA 5 (.tmp 20) (.tmp 21))), (.mk (some 23) none (.load true 5 (.tmp 22))), (.mk (some 24) none (.eqS true [(0, 0), (1, 0), (2, 0), (3, 0), (4, 0)] (.tmp 19) (.tmp 23)))]
def r7_slices_Equal_state_Slot_state_Slot : List AOper := [(.mk (some 4) none (.mv (.const (.bool false))))]
def k7_slices_Equal_state_Slot_state_Slot : ACode := (.cond (.tmp 24) (.seq (.reg r7_slices_Equal_state_Slot_state_Slot) .ret) .skip)
def k6_slices_Equal_state_Slot_state_Slot : ACode := (.seq (.drw r6_slices_Equal_state_Slot_state_Slot [0, 0, 3, 7, 0, 0, 48, 112, 255]) k7_slices_Equal_state_Slot_state_Slot)
def r8_slices_Equal_state_Slot_state_Slot : List AOper := [(.mk (some 25) none (.bin .add (.tmp 13) (.const (.int .i64 1)))), (.mk (some 13) none (.mv (.tmp 25)))]
def k8_slices_Equal_state_Slot_state_Slot : ACode := (.reg r8_slices_Equal_state_Slot_state_Slot)
def k5_slices_Equal_state_Slot_state_Slot : ACode := (.seq (.block 1 (.seq (.reg r5_slices_Equal_state_Slot_state_Slot) k6_slices_Equal_state_Slot_state_Slot)) k8_slices_Equal_state_Slot_state_Slot)
def k4_slices_Equal_state_Slot_state_Slot : ACode := (.seq (.cond (.tmp 14) .skip (.exit 0)) k5_slices_Equal_state_Slot_state_Slot)
def b0_slices_Equal_state_Slot_state_Slot : ACode := (.seq (.reg r4_slices_Equal_state_Slot_state_Slot) k4_slices_Equal_state_Slot_state_Slot)
def k3_slices_Equal_state_Slot_state_Slot : ACode := (.block 0 (.loop b0_slices_Equal_state_Slot_state_Slot))
def r9_slices_Equal_state_Slot_state_Slot : List AOper := [(.mk (some 4) none (.mv (.const (.bool true))))]
def k9_slices_Equal_state_Slot_state_Slot : ACode := (.seq (.reg r9_slices_Equal_state_Slot_state_Slot) .ret)
def k2_slices_Equal_state_Slot_state_Slot : ACode := (.seq (.seq (.reg r3_slices_Equal_state_Slot_state_Slot) k3_slices_Equal_state_Slot_state_Slot) k9_slices_Equal_state_Slot_state_Slot)
def k0_slices_Equal_state_Slot_state_Slot : ACode := (.seq (.seq (.reg r1_slices_Equal_state_Slot_state_Slot) k1_slices_Equal_state_Slot_state_Slot) k2_slices_Equal_state_Slot_state_Slot)
def c_slices_Equal_state_Slot_state_Slot : ACode := (.seq (.reg r0_slices_Equal_state_Slot_state_Slot) k0_slices_Equal_state_Slot_state_Slot)
theorem e_slices_Equal_state_Slot_state_Slot : ofProg Try.prog 32 = some ⟨26, [(.tmp 4)], c_slices_Equal_state_Slot_state_Slot⟩ := by kernel_rfl
def r0_slices_Equal_thing_Thing_thing_Thing : List AOper := [(.mk (some 4) none (.mv (.const (.bool false))))]
def r1_slices_Equal_thing_Thing_thing_Thing : List AOper := [(.mk (some 6) none (.mv (.tmp 0))), (.mk (some 7) none (.lenS (.tmp 6))), (.mk (some 8) none (.mv (.tmp 1))), (.mk (some 9) none (.lenS (.tmp 8))), (.mk (some 10) none (.bin .neq (.tmp 7) (.tmp 9)))]
def r2_slices_Equal_thing_Thing_thing_Thing : List AOper := [(.mk (some 4) none (.mv (.const (.bool false))))]
def k1_slices_Equal_thing_Thing_thing_Thing : ACode := (.cond (.tmp 10) (.seq (.reg r2_slices_Equal_thing_Thing_thing_Thing) .ret) .skip)
def r3_slices_Equal_thing_Thing_thing_Thing : List AOper := [(.mk (some 11) none (.mv (.tmp 0))), (.mk (some 12) none (.lenS (.tmp 11))), (.mk (some 13) none (.mv (.const (.int .i64 0))))]
def r4_slices_Equal_thing_Thing_thing_Thing : List AOper := [(.mk (some 14) none (.bin .lss (.tmp 13) (.tmp 12)))]
def r5_slices_Equal_thing_Thing_thing_Thing : List AOper := [(.mk (some 15) none (.mv (.tmp 13))), (.mk (some 5) none (.mv (.tmp 15)))]
def r6_slices_Equal_thing_Thing_thing_Thing : List AOper := [(.mk (some 16) none (.mv (.tmp 0))), (.mk (some 17) none (.mv (.tmp 5))), (.mk (some 18) none (.idxA 13 (.tmp 16) (.tmp 17))), (.mk (some 19) none (.load true 13 (.tmp 18))), (.mk (some 20) none (.mv (.tmp 1))), (.mk (some 21) none (.mv (.tmp 5))), (.mk (some 22) none (.idxA 13 (.tmp 20) (.tmp 21))), (.mk (some 23) none (.load true 13 (.tmp 22))), (.mk (some 24) none (.eqS true [(0, 0), (1, 0), (2, 0), (3, 0), (4, 0), (5, 0), (6, 0), (7, 1), (8, 0), (9, 0), (10, 0), (11, 0), (12, 0)] (.tmp 19) (.tmp 23)))]
def r7_slices_Equal_thing_Thing_thing_Thing : List AOper := [(.mk (some 4) none (.mv (.const (.bool false))))]
def k7_slices_Equal_thing_Thing_thing_Thing : ACode := (.cond (.tmp 24) (.seq (.reg r7_slices_Equal_thing_Thing_thing_Thing) .ret) .skip)
def k6_slices_Equal_thing_Thing_thing_Thing : ACode := (.seq (.drw r6_slices_Equal_thing_Thing_thing_Thing [0, 0, 3, 7, 0, 0, 48, 112, 255]) k7_slices_Equal_thing_Thing_thing_Thing)
def r8_slices_Equal_thing_Thing_thing_Thing : List AOper := [(.mk (some 25) none (.bin .add (.tmp 13) (.const (.int .i64 1)))), (.mk (some 13) none (.mv (.tmp 25)))]
def k8_slices_Equal_thing_Thing_thing_Thing : ACode := (.reg r8_slices_Equal_thing_Thing_thing_Thing)
def k5_slices_Equal_thing_Thing_thing_Thing : ACode := (.seq (.block 1 (.seq (.reg r5_slices_Equal_thing_Thing_thing_Thing) k6_slices_Equal_thing_Thing_thing_Thing)) k8_slices_Equal_thing_Thing_thing_Thing)
def k4_slices_Equal_thing_Thing_thing_Thing : ACode := (.seq (.cond (.tmp 14) .skip (.exit 0)) k5_slices_Equal_thing_Thing_thing_Thing)
def b0_slices_Equal_thing_Thing_thing_Thing : ACode := (.seq (.reg r4_slices_Equal_thing_Thing_thing_Thing) k4_slices_Equal_thing_Thing_thing_Thing)
def k3_slices_Equal_thing_Thing_thing_Thing : ACode := (.block 0 (.loop b0_slices_Equal_thing_Thing_thing_Thing))
def r9_slices_Equal_thing_Thing_thing_Thing : List AOper := [(.mk (some 4) none (.mv (.const (.bool true))))]
def k9_slices_Equal_thing_Thing_thing_Thing : ACode := (.seq (.reg r9_slices_Equal_thing_Thing_thing_Thing) .ret)
def k2_slices_Equal_thing_Thing_thing_Thing : ACode := (.seq (.seq (.reg r3_slices_Equal_thing_Thing_thing_Thing) k3_slices_Equal_thing_Thing_thing_Thing) k9_slices_Equal_thing_Thing_thing_Thing)
def k0_slices_Equal_thing_Thing_thing_Thing : ACode := (.seq (.seq (.reg r1_slices_Equal_thing_Thing_thing_Thing) k1_slices_Equal_thing_Thing_thing_Thing) k2_slices_Equal_thing_Thing_thing_Thing)
def c_slices_Equal_thing_Thing_thing_Thing : ACode := (.seq (.reg r0_slices_Equal_thing_Thing_thing_Thing) k0_slices_Equal_thing_Thing_thing_Thing)
theorem e_slices_Equal_thing_Thing_thing_Thing : ofProg Try.prog 33 = some ⟨26, [(.tmp 4)], c_slices_Equal_thing_Thing_thing_Thing⟩ := by kernel_rfl
def r0_state_Same : List AOper := [(.mk (some 2) none (.box 5 (.tmp 0))), (.mk (some 3) none (.box 5 (.tmp 1))), (.mk (some 4) none (.mv (.const (.bool false))))]
def r1_state_Same : List AOper := [(.mk (some 5) none (.fldA 0 (.tmp 2))), (.mk (some 6) none (.load true 3 (.tmp 5))), (.mk (some 7) none (.fldA 0 (.tmp 3))), (.mk (some 8) none (.load true 3 (.tmp 7))), (.mk (some 9) none (.eqS false [(0, 0), (1, 0), (2, 0)] (.tmp 6) (.tmp 8))), (.mk (some 10) none (.mv (.tmp 9))), (.mk (some 11) (some (10, true)) (.fldA 3 (.tmp 2))), (.mk (some 12) (some (10, true)) (.load false 1 (.tmp 11))), (.mk (some 13) (some (10, true)) (.fldA 3 (.tmp 3))), (.mk (some 14) (some (10, true)) (.load false 1 (.tmp 13))), (.mk (some 15) (some (10, true)) (.call 32 [(.tmp 12), (.tmp 14)])), (.mk (some 16) none (.pick (.tmp 10) (.tmp 15) (.const (.bool false)))), (.mk (some 17) none (.mv (.tmp 16))), (.mk (some 18) (some (17, true)) (.fldA 4 (.tmp 2))), (.mk (some 19) (some (17, true)) (.load false 1 (.tmp 18))), (.mk (some 20) (some (17, true)) (.fldA 4 (.tmp 3))), (.mk (some 21) (some (17, true)) (.load false 1 (.tmp 20))), (.mk (some 22) (some (17, true)) (.call 33 [(.tmp 19), (.tmp 21)])), (.mk (some 23) none (.pick (.tmp 17) (.tmp 22) (.const (.bool false)))), (.mk (some 4) none (.mv (.tmp 23)))]
def k0_state_Same : ACode := (.seq (.reg r1_state_Same) .ret)
def c_state_Same : ACode := (.seq (.reg r0_state_Same) k0_state_Same)
theorem e_state_Same : ofProg Try.prog 11 = some ⟨24, [(.tmp 4)], c_state_Same⟩ := by kernel_rfl

def eqTo {α : Type} (p : α → α → Bool) (l k : List α) : Nat → Bool
  | 0 => true
  | i + 1 => eqTo p l k i && (match l[i]?, k[i]? with | some x, some y => p x y | _, _ => true)
theorem eqTo_next {α : Type} {p : α → α → Bool} {l k : List α} {i : Nat} {x y : α} (h : eqTo p l k i = true) (hx : l[i]? = some x) (hy : k[i]? = some y) (hp : p x y = true) : eqTo p l k (i + 1) = true := by
  simp [eqTo, h, hx, hy, hp]
theorem eqTo_false {α : Type} {p : α → α → Bool} {l k : List α} {i : Nat} {x y : α} (hx : l[i]? = some x) (hy : k[i]? = some y) (hp : p x y = false) : ∀ n, i < n → eqTo p l k n = false := by
  intro n
  induction n with
  | zero => intro h; omega
  | succ n ih =>
    intro h
    by_cases hi : i < n
    · simp [eqTo, ih hi]
    · have : i = n := by omega
      subst this
      simp [eqTo, hx, hy, hp]
def eqL {α : Type} (p : α → α → Bool) (l k : List α) : Bool := decide (l.length = k.length) && eqTo p l k l.length
def eq5 (a b c d e a' b' c' d' e' : Int) : Bool := a == a' && (b == b' && (c == c' && (d == d' && e == e')))
def slotEq (x y : SlotD) : Bool := eq5 x.type x.thing x.rights x.badge x.up y.type y.thing y.rights y.badge y.up
theorem eqSlot {a b c d e a' b' c' d' e' : Int} : eqLsA [i64 a, i64 b, i64 c, i64 d, i64 e] [i64 a', i64 b', i64 c', i64 d', i64 e'] [(0, 0), (1, 0), (2, 0), (3, 0), (4, 0)] = some (eq5 a b c d e a' b' c' d' e') := by
  simp [eqLsA, eqScalA, eqScal, eq5]
theorem Equal_slots_ok (d : Nat) (σ : AHeap) (l k : List SlotD) (a b : Option Addr) (f g : Nat) (hl : l.length < 1000) (h1 : SlS σ a l) (h2 : SlS σ b k) :
    acall (ofProg Try.prog) 1000 (d + 1) 32 [.slice a l.length f, .slice b k.length g] σ = some (.bool (eqL slotEq l k), σ) := by
  refine acall_flat e_slices_Equal_state_Slot_state_Slot (by simp) rfl ?_
  by_cases c1 : (l.length : Int) = k.length
  · have c1' : l.length = k.length := by omega
    have hE : eqL slotEq l k = eqTo slotEq l k l.length := by unfold eqL; simp [c1']
    simp (disch := omega) only [eq_true c1, r0_slices_Equal_state_Slot_state_Slot, r1_slices_Equal_state_Slot_state_Slot, r2_slices_Equal_state_Slot_state_Slot, k1_slices_Equal_state_Slot_state_Slot, r3_slices_Equal_state_Slot_state_Slot, r4_slices_Equal_state_Slot_state_Slot, r5_slices_Equal_state_Slot_state_Slot, r6_slices_Equal_state_Slot_state_Slot, r7_slices_Equal_state_Slot_state_Slot, k7_slices_Equal_state_Slot_state_Slot, k6_slices_Equal_state_Slot_state_Slot, r8_slices_Equal_state_Slot_state_Slot, k8_slices_Equal_state_Slot_state_Slot, k5_slices_Equal_state_Slot_state_Slot, k4_slices_Equal_state_Slot_state_Slot, k3_slices_Equal_state_Slot_state_Slot, r9_slices_Equal_state_Slot_state_Slot, k9_slices_Equal_state_Slot_state_Slot, k2_slices_Equal_state_Slot_state_Slot, k0_slices_Equal_state_Slot_state_Slot, c_slices_Equal_state_Slot_state_Slot, Z0, Z1, Z2, Z3, Z4, Z5, Z6, Z7, Z8, Z9, Z10, resAll, Nat.reduceAdd, Nat.reduceEqDiff, Nat.reduceLeDiff, Nat.reduceMul, ↓reduceIte, reduceCtorEq, Nat.reduceBEq, aoper, Nat.reduceLT, Int.reduceEq, Int.reduceLT, Int.reduceLE]
    refine ends_loop (fun i t τ => tget t 0 = .slice a l.length f ∧ tget t 1 = .slice b k.length g ∧ tget t 12 = i64 l.length ∧ tget t 13 = i64 i ∧ Keeps σ.fresh τ ∧ eqTo slotEq l k i = true) l.length hl ⟨?_, ?_, ?_, ?_, Keeps.self _ _, rfl⟩ ?_
    iterate 4 simp (disch := omega) only [Int.natCast_zero, Int.ofNat_zero, r0_slices_Equal_state_Slot_state_Slot, r1_slices_Equal_state_Slot_state_Slot, r2_slices_Equal_state_Slot_state_Slot, k1_slices_Equal_state_Slot_state_Slot, r3_slices_Equal_state_Slot_state_Slot, r4_slices_Equal_state_Slot_state_Slot, r5_slices_Equal_state_Slot_state_Slot, r6_slices_Equal_state_Slot_state_Slot, r7_slices_Equal_state_Slot_state_Slot, k7_slices_Equal_state_Slot_state_Slot, k6_slices_Equal_state_Slot_state_Slot, r8_slices_Equal_state_Slot_state_Slot, k8_slices_Equal_state_Slot_state_Slot, k5_slices_Equal_state_Slot_state_Slot, k4_slices_Equal_state_Slot_state_Slot, k3_slices_Equal_state_Slot_state_Slot, r9_slices_Equal_state_Slot_state_Slot, k9_slices_Equal_state_Slot_state_Slot, k2_slices_Equal_state_Slot_state_Slot, k0_slices_Equal_state_Slot_state_Slot, c_slices_Equal_state_Slot_state_Slot, Z0, Z1, Z2, Z3, Z4, Z5, Z6, Z7, Z8, Z9, Z10, resAll, Nat.reduceAdd, Nat.reduceEqDiff, Nat.reduceLeDiff, Nat.reduceMul, ↓reduceIte, reduceCtorEq, Nat.reduceBEq, aoper, Nat.reduceLT, Int.reduceEq, Int.reduceLT, Int.reduceLE]
    rintro i t τ hi ⟨t0, t1, t12, t13, hk, hall⟩
    rw [← grow_nil τ]
    have hlow : τ.low ≤ τ.n := by rw [hk.low]; exact Nat.le_trans fresh_le hk.n
    by_cases hlt : i < l.length
    · obtain ⟨b1, rfl, hb1⟩ := h1.fresh.at hlt
      obtain ⟨b2, rfl, hb2⟩ := h2.fresh.at (i := i) (by omega)
      have hx : l[i]? = some l[i] := List.getElem?_eq_getElem hlt
      have hy : k[i]? = some k[i] := List.getElem?_eq_getElem (by omega)
      generalize l[i] = x at hx
      generalize k[i] = y at hy
      have hl1 := fun L => hb1.ld0 hk hx L 5 (by omega)
      have hl2 := fun L => hb2.ld0 hk hy L 5 (by omega)
      simp only [List.take_succ_cons, List.take_zero] at hl1 hl2
      have hlt' : (i : Int) < (l.length : Int) := by omega
      have hlt2 : (i : Int) < (k.length : Int) := by omega
      have hcast : ((i + 1 : Nat) : Int) = (i : Int) + 1 := by omega
      simp (disch := omega) only [t0, t1, t12, t13, hlt', r0_slices_Equal_state_Slot_state_Slot, r1_slices_Equal_state_Slot_state_Slot, r2_slices_Equal_state_Slot_state_Slot, k1_slices_Equal_state_Slot_state_Slot, r3_slices_Equal_state_Slot_state_Slot, r4_slices_Equal_state_Slot_state_Slot, r5_slices_Equal_state_Slot_state_Slot, r6_slices_Equal_state_Slot_state_Slot, r7_slices_Equal_state_Slot_state_Slot, k7_slices_Equal_state_Slot_state_Slot, k6_slices_Equal_state_Slot_state_Slot, r8_slices_Equal_state_Slot_state_Slot, k8_slices_Equal_state_Slot_state_Slot, k5_slices_Equal_state_Slot_state_Slot, k4_slices_Equal_state_Slot_state_Slot, k3_slices_Equal_state_Slot_state_Slot, r9_slices_Equal_state_Slot_state_Slot, k9_slices_Equal_state_Slot_state_Slot, k2_slices_Equal_state_Slot_state_Slot, k0_slices_Equal_state_Slot_state_Slot, b0_slices_Equal_state_Slot_state_Slot, Z0, Z1, Z2, Z3, Z4, Z5, Z6, Z7, Z8, Z9, Z10, resAll, Nat.reduceAdd, Nat.reduceEqDiff, Nat.reduceLeDiff, Nat.reduceMul, ↓reduceIte, reduceCtorEq, Nat.reduceBEq, aoper, Nat.reduceLT, Int.reduceEq, Int.reduceLT, Int.reduceLE]
      refine ends_drw ?_
      have hs : slotEq x y = eq5 x.type x.thing x.rights x.badge x.up y.type y.thing y.rights y.badge y.up := rfl
      cases c2 : slotEq x y with
      | true =>
        rw [hs] at c2
        simp (disch := omega) only [t0, t1, t12, t13, hlt', hlt2, hlt, hcast, hl1, hl2, Int.toNat_natCast, kontD_grow hlow, eqSlot, c2, hk.grow, eqTo_next (p := slotEq) hall hx hy (hs.trans c2), r0_slices_Equal_state_Slot_state_Slot, r1_slices_Equal_state_Slot_state_Slot, r2_slices_Equal_state_Slot_state_Slot, k1_slices_Equal_state_Slot_state_Slot, r3_slices_Equal_state_Slot_state_Slot, r4_slices_Equal_state_Slot_state_Slot, r5_slices_Equal_state_Slot_state_Slot, r6_slices_Equal_state_Slot_state_Slot, r7_slices_Equal_state_Slot_state_Slot, k7_slices_Equal_state_Slot_state_Slot, k6_slices_Equal_state_Slot_state_Slot, r8_slices_Equal_state_Slot_state_Slot, k8_slices_Equal_state_Slot_state_Slot, k5_slices_Equal_state_Slot_state_Slot, k4_slices_Equal_state_Slot_state_Slot, k3_slices_Equal_state_Slot_state_Slot, r9_slices_Equal_state_Slot_state_Slot, k9_slices_Equal_state_Slot_state_Slot, k2_slices_Equal_state_Slot_state_Slot, k0_slices_Equal_state_Slot_state_Slot, b0_slices_Equal_state_Slot_state_Slot, Z0, Z1, Z2, Z3, Z4, Z5, Z6, Z7, Z8, Z9, Z10, resAll, Nat.reduceAdd, Nat.reduceEqDiff, Nat.reduceLeDiff, Nat.reduceMul, ↓reduceIte, reduceCtorEq, Nat.reduceBEq, aoper, Nat.reduceLT, Int.reduceEq, Int.reduceLT, Int.reduceLE]
      | false =>
        have hf : eqL slotEq l k = false := by rw [hE]; exact eqTo_false hx hy c2 _ hlt
        rw [hs] at c2
        simp (disch := omega) only [t0, t1, t12, t13, hlt', hlt2, hl1, hl2, Int.toNat_natCast, kontD_grow hlow, eqSlot, c2, hf, hk.low, r0_slices_Equal_state_Slot_state_Slot, r1_slices_Equal_state_Slot_state_Slot, r2_slices_Equal_state_Slot_state_Slot, k1_slices_Equal_state_Slot_state_Slot, r3_slices_Equal_state_Slot_state_Slot, r4_slices_Equal_state_Slot_state_Slot, r5_slices_Equal_state_Slot_state_Slot, r6_slices_Equal_state_Slot_state_Slot, r7_slices_Equal_state_Slot_state_Slot, k7_slices_Equal_state_Slot_state_Slot, k6_slices_Equal_state_Slot_state_Slot, r8_slices_Equal_state_Slot_state_Slot, k8_slices_Equal_state_Slot_state_Slot, k5_slices_Equal_state_Slot_state_Slot, k4_slices_Equal_state_Slot_state_Slot, k3_slices_Equal_state_Slot_state_Slot, r9_slices_Equal_state_Slot_state_Slot, k9_slices_Equal_state_Slot_state_Slot, k2_slices_Equal_state_Slot_state_Slot, k0_slices_Equal_state_Slot_state_Slot, b0_slices_Equal_state_Slot_state_Slot, Z0, Z1, Z2, Z3, Z4, Z5, Z6, Z7, Z8, Z9, Z10, resAll, Nat.reduceAdd, Nat.reduceEqDiff, Nat.reduceLeDiff, Nat.reduceMul, ↓reduceIte, reduceCtorEq, Nat.reduceBEq, aoper, Nat.reduceLT, Int.reduceEq, Int.reduceLT, Int.reduceLE]
    · have hlt' : ¬ (i : Int) < (l.length : Int) := by omega
      have hii : i = l.length := by omega
      have hf : eqL slotEq l k = true := by rw [hE, ← hii]; exact hall
      simp (disch := omega) only [t0, t1, t12, t13, hlt', hf, hk.low, r0_slices_Equal_state_Slot_state_Slot, r1_slices_Equal_state_Slot_state_Slot, r2_slices_Equal_state_Slot_state_Slot, k1_slices_Equal_state_Slot_state_Slot, r3_slices_Equal_state_Slot_state_Slot, r4_slices_Equal_state_Slot_state_Slot, r5_slices_Equal_state_Slot_state_Slot, r6_slices_Equal_state_Slot_state_Slot, r7_slices_Equal_state_Slot_state_Slot, k7_slices_Equal_state_Slot_state_Slot, k6_slices_Equal_state_Slot_state_Slot, r8_slices_Equal_state_Slot_state_Slot, k8_slices_Equal_state_Slot_state_Slot, k5_slices_Equal_state_Slot_state_Slot, k4_slices_Equal_state_Slot_state_Slot, k3_slices_Equal_state_Slot_state_Slot, r9_slices_Equal_state_Slot_state_Slot, k9_slices_Equal_state_Slot_state_Slot, k2_slices_Equal_state_Slot_state_Slot, k0_slices_Equal_state_Slot_state_Slot, b0_slices_Equal_state_Slot_state_Slot, Z0, Z1, Z2, Z3, Z4, Z5, Z6, Z7, Z8, Z9, Z10, resAll, Nat.reduceAdd, Nat.reduceEqDiff, Nat.reduceLeDiff, Nat.reduceMul, ↓reduceIte, reduceCtorEq, Nat.reduceBEq, aoper, Nat.reduceLT, Int.reduceEq, Int.reduceLT, Int.reduceLE]
  · have hf : eqL slotEq l k = false := by unfold eqL; simp; intro h; omega
    simp (disch := omega) only [c1, hf, r0_slices_Equal_state_Slot_state_Slot, r1_slices_Equal_state_Slot_state_Slot, r2_slices_Equal_state_Slot_state_Slot, k1_slices_Equal_state_Slot_state_Slot, r3_slices_Equal_state_Slot_state_Slot, r4_slices_Equal_state_Slot_state_Slot, r5_slices_Equal_state_Slot_state_Slot, r6_slices_Equal_state_Slot_state_Slot, r7_slices_Equal_state_Slot_state_Slot, k7_slices_Equal_state_Slot_state_Slot, k6_slices_Equal_state_Slot_state_Slot, r8_slices_Equal_state_Slot_state_Slot, k8_slices_Equal_state_Slot_state_Slot, k5_slices_Equal_state_Slot_state_Slot, k4_slices_Equal_state_Slot_state_Slot, k3_slices_Equal_state_Slot_state_Slot, r9_slices_Equal_state_Slot_state_Slot, k9_slices_Equal_state_Slot_state_Slot, k2_slices_Equal_state_Slot_state_Slot, k0_slices_Equal_state_Slot_state_Slot, c_slices_Equal_state_Slot_state_Slot, Z0, Z1, Z2, Z3, Z4, Z5, Z6, Z7, Z8, Z9, Z10, resAll, Nat.reduceAdd, Nat.reduceEqDiff, Nat.reduceLeDiff, Nat.reduceMul, ↓reduceIte, reduceCtorEq, Nat.reduceBEq, aoper, Nat.reduceLT, Int.reduceEq, Int.reduceLT, Int.reduceLE]
theorem Equal_things_ok (d : Nat) (σ : AHeap) (l k : List ThingD) (a b : Option Addr) (f g : Nat) (hl : l.length < 1000) (h1 : SlT σ a l) (h2 : SlT σ b k) :
    acall (ofProg Try.prog) 1000 (d + 1) 33 [.slice a l.length f, .slice b k.length g] σ = some (.bool (eqL thEq l k), σ) := by
  refine acall_flat e_slices_Equal_thing_Thing_thing_Thing (by simp) rfl ?_
  by_cases c1 : (l.length : Int) = k.length
  · have c1' : l.length = k.length := by omega
    have hE : eqL thEq l k = eqTo thEq l k l.length := by unfold eqL; simp [c1']
    simp (disch := omega) only [eq_true c1, r0_slices_Equal_thing_Thing_thing_Thing, r1_slices_Equal_thing_Thing_thing_Thing, r2_slices_Equal_thing_Thing_thing_Thing, k1_slices_Equal_thing_Thing_thing_Thing, r3_slices_Equal_thing_Thing_thing_Thing, r4_slices_Equal_thing_Thing_thing_Thing, r5_slices_Equal_thing_Thing_thing_Thing, r6_slices_Equal_thing_Thing_thing_Thing, r7_slices_Equal_thing_Thing_thing_Thing, k7_slices_Equal_thing_Thing_thing_Thing, k6_slices_Equal_thing_Thing_thing_Thing, r8_slices_Equal_thing_Thing_thing_Thing, k8_slices_Equal_thing_Thing_thing_Thing, k5_slices_Equal_thing_Thing_thing_Thing, k4_slices_Equal_thing_Thing_thing_Thing, k3_slices_Equal_thing_Thing_thing_Thing, r9_slices_Equal_thing_Thing_thing_Thing, k9_slices_Equal_thing_Thing_thing_Thing, k2_slices_Equal_thing_Thing_thing_Thing, k0_slices_Equal_thing_Thing_thing_Thing, c_slices_Equal_thing_Thing_thing_Thing, Z0, Z1, Z2, Z3, Z4, Z5, Z6, Z7, Z8, Z9, Z10, resAll, Nat.reduceAdd, Nat.reduceEqDiff, Nat.reduceLeDiff, Nat.reduceMul, ↓reduceIte, reduceCtorEq, Nat.reduceBEq, aoper, Nat.reduceLT, Int.reduceEq, Int.reduceLT, Int.reduceLE]
    refine ends_loop (fun i t τ => tget t 0 = .slice a l.length f ∧ tget t 1 = .slice b k.length g ∧ tget t 12 = i64 l.length ∧ tget t 13 = i64 i ∧ Keeps σ.fresh τ ∧ eqTo thEq l k i = true) l.length hl ⟨?_, ?_, ?_, ?_, Keeps.self _ _, rfl⟩ ?_
    iterate 4 simp (disch := omega) only [Int.natCast_zero, Int.ofNat_zero, r0_slices_Equal_thing_Thing_thing_Thing, r1_slices_Equal_thing_Thing_thing_Thing, r2_slices_Equal_thing_Thing_thing_Thing, k1_slices_Equal_thing_Thing_thing_Thing, r3_slices_Equal_thing_Thing_thing_Thing, r4_slices_Equal_thing_Thing_thing_Thing, r5_slices_Equal_thing_Thing_thing_Thing, r6_slices_Equal_thing_Thing_thing_Thing, r7_slices_Equal_thing_Thing_thing_Thing, k7_slices_Equal_thing_Thing_thing_Thing, k6_slices_Equal_thing_Thing_thing_Thing, r8_slices_Equal_thing_Thing_thing_Thing, k8_slices_Equal_thing_Thing_thing_Thing, k5_slices_Equal_thing_Thing_thing_Thing, k4_slices_Equal_thing_Thing_thing_Thing, k3_slices_Equal_thing_Thing_thing_Thing, r9_slices_Equal_thing_Thing_thing_Thing, k9_slices_Equal_thing_Thing_thing_Thing, k2_slices_Equal_thing_Thing_thing_Thing, k0_slices_Equal_thing_Thing_thing_Thing, c_slices_Equal_thing_Thing_thing_Thing, Z0, Z1, Z2, Z3, Z4, Z5, Z6, Z7, Z8, Z9, Z10, resAll, Nat.reduceAdd, Nat.reduceEqDiff, Nat.reduceLeDiff, Nat.reduceMul, ↓reduceIte, reduceCtorEq, Nat.reduceBEq, aoper, Nat.reduceLT, Int.reduceEq, Int.reduceLT, Int.reduceLE]
    rintro i t τ hi ⟨t0, t1, t12, t13, hk, hall⟩
    rw [← grow_nil τ]
    have hlow : τ.low ≤ τ.n := by rw [hk.low]; exact Nat.le_trans fresh_le hk.n
    by_cases hlt : i < l.length
    · obtain ⟨b1, rfl, hb1⟩ := h1.fresh.at hlt
      obtain ⟨b2, rfl, hb2⟩ := h2.fresh.at (i := i) (by omega)
      have hx : l[i]? = some l[i] := List.getElem?_eq_getElem hlt
      have hy : k[i]? = some k[i] := List.getElem?_eq_getElem (by omega)
      generalize l[i] = x at hx
      generalize k[i] = y at hy
      have hl1 := fun L => hb1.ld0 hk hx L 13 (by omega)
      have hl2 := fun L => hb2.ld0 hk hy L 13 (by omega)
      simp only [List.take_succ_cons, List.take_zero] at hl1 hl2
      have hlt' : (i : Int) < (l.length : Int) := by omega
      have hlt2 : (i : Int) < (k.length : Int) := by omega
      have hcast : ((i + 1 : Nat) : Int) = (i : Int) + 1 := by omega
      simp (disch := omega) only [t0, t1, t12, t13, hlt', r0_slices_Equal_thing_Thing_thing_Thing, r1_slices_Equal_thing_Thing_thing_Thing, r2_slices_Equal_thing_Thing_thing_Thing, k1_slices_Equal_thing_Thing_thing_Thing, r3_slices_Equal_thing_Thing_thing_Thing, r4_slices_Equal_thing_Thing_thing_Thing, r5_slices_Equal_thing_Thing_thing_Thing, r6_slices_Equal_thing_Thing_thing_Thing, r7_slices_Equal_thing_Thing_thing_Thing, k7_slices_Equal_thing_Thing_thing_Thing, k6_slices_Equal_thing_Thing_thing_Thing, r8_slices_Equal_thing_Thing_thing_Thing, k8_slices_Equal_thing_Thing_thing_Thing, k5_slices_Equal_thing_Thing_thing_Thing, k4_slices_Equal_thing_Thing_thing_Thing, k3_slices_Equal_thing_Thing_thing_Thing, r9_slices_Equal_thing_Thing_thing_Thing, k9_slices_Equal_thing_Thing_thing_Thing, k2_slices_Equal_thing_Thing_thing_Thing, k0_slices_Equal_thing_Thing_thing_Thing, b0_slices_Equal_thing_Thing_thing_Thing, Z0, Z1, Z2, Z3, Z4, Z5, Z6, Z7, Z8, Z9, Z10, resAll, Nat.reduceAdd, Nat.reduceEqDiff, Nat.reduceLeDiff, Nat.reduceMul, ↓reduceIte, reduceCtorEq, Nat.reduceBEq, aoper, Nat.reduceLT, Int.reduceEq, Int.reduceLT, Int.reduceLE]
      refine ends_drw ?_
      have hs : thEq x y = eq13 x.type x.bits x.base x.size x.used x.frm x.badge x.full x.word x.d0 x.d1 x.d2 x.d3 y.type y.bits y.base y.size y.used y.frm y.badge y.full y.word y.d0 y.d1 y.d2 y.d3 := rfl
      cases c2 : thEq x y with
      | true =>
        rw [hs] at c2
        simp (disch := omega) only [t0, t1, t12, t13, hlt', hlt2, hlt, hcast, hl1, hl2, Int.toNat_natCast, kontD_grow hlow, c2, hk.grow, eqTo_next (p := thEq) hall hx hy (hs.trans c2), r0_slices_Equal_thing_Thing_thing_Thing, r1_slices_Equal_thing_Thing_thing_Thing, r2_slices_Equal_thing_Thing_thing_Thing, k1_slices_Equal_thing_Thing_thing_Thing, r3_slices_Equal_thing_Thing_thing_Thing, r4_slices_Equal_thing_Thing_thing_Thing, r5_slices_Equal_thing_Thing_thing_Thing, r6_slices_Equal_thing_Thing_thing_Thing, r7_slices_Equal_thing_Thing_thing_Thing, k7_slices_Equal_thing_Thing_thing_Thing, k6_slices_Equal_thing_Thing_thing_Thing, r8_slices_Equal_thing_Thing_thing_Thing, k8_slices_Equal_thing_Thing_thing_Thing, k5_slices_Equal_thing_Thing_thing_Thing, k4_slices_Equal_thing_Thing_thing_Thing, k3_slices_Equal_thing_Thing_thing_Thing, r9_slices_Equal_thing_Thing_thing_Thing, k9_slices_Equal_thing_Thing_thing_Thing, k2_slices_Equal_thing_Thing_thing_Thing, k0_slices_Equal_thing_Thing_thing_Thing, b0_slices_Equal_thing_Thing_thing_Thing, Z0, Z1, Z2, Z3, Z4, Z5, Z6, Z7, Z8, Z9, Z10, resAll, Nat.reduceAdd, Nat.reduceEqDiff, Nat.reduceLeDiff, Nat.reduceMul, ↓reduceIte, reduceCtorEq, Nat.reduceBEq, aoper, Nat.reduceLT, Int.reduceEq, Int.reduceLT, Int.reduceLE]
      | false =>
        have hf : eqL thEq l k = false := by rw [hE]; exact eqTo_false hx hy c2 _ hlt
        rw [hs] at c2
        simp (disch := omega) only [t0, t1, t12, t13, hlt', hlt2, hl1, hl2, Int.toNat_natCast, kontD_grow hlow, c2, hf, hk.low, r0_slices_Equal_thing_Thing_thing_Thing, r1_slices_Equal_thing_Thing_thing_Thing, r2_slices_Equal_thing_Thing_thing_Thing, k1_slices_Equal_thing_Thing_thing_Thing, r3_slices_Equal_thing_Thing_thing_Thing, r4_slices_Equal_thing_Thing_thing_Thing, r5_slices_Equal_thing_Thing_thing_Thing, r6_slices_Equal_thing_Thing_thing_Thing, r7_slices_Equal_thing_Thing_thing_Thing, k7_slices_Equal_thing_Thing_thing_Thing, k6_slices_Equal_thing_Thing_thing_Thing, r8_slices_Equal_thing_Thing_thing_Thing, k8_slices_Equal_thing_Thing_thing_Thing, k5_slices_Equal_thing_Thing_thing_Thing, k4_slices_Equal_thing_Thing_thing_Thing, k3_slices_Equal_thing_Thing_thing_Thing, r9_slices_Equal_thing_Thing_thing_Thing, k9_slices_Equal_thing_Thing_thing_Thing, k2_slices_Equal_thing_Thing_thing_Thing, k0_slices_Equal_thing_Thing_thing_Thing, b0_slices_Equal_thing_Thing_thing_Thing, Z0, Z1, Z2, Z3, Z4, Z5, Z6, Z7, Z8, Z9, Z10, resAll, Nat.reduceAdd, Nat.reduceEqDiff, Nat.reduceLeDiff, Nat.reduceMul, ↓reduceIte, reduceCtorEq, Nat.reduceBEq, aoper, Nat.reduceLT, Int.reduceEq, Int.reduceLT, Int.reduceLE]
    · have hlt' : ¬ (i : Int) < (l.length : Int) := by omega
      have hii : i = l.length := by omega
      have hf : eqL thEq l k = true := by rw [hE, ← hii]; exact hall
      simp (disch := omega) only [t0, t1, t12, t13, hlt', hf, hk.low, r0_slices_Equal_thing_Thing_thing_Thing, r1_slices_Equal_thing_Thing_thing_Thing, r2_slices_Equal_thing_Thing_thing_Thing, k1_slices_Equal_thing_Thing_thing_Thing, r3_slices_Equal_thing_Thing_thing_Thing, r4_slices_Equal_thing_Thing_thing_Thing, r5_slices_Equal_thing_Thing_thing_Thing, r6_slices_Equal_thing_Thing_thing_Thing, r7_slices_Equal_thing_Thing_thing_Thing, k7_slices_Equal_thing_Thing_thing_Thing, k6_slices_Equal_thing_Thing_thing_Thing, r8_slices_Equal_thing_Thing_thing_Thing, k8_slices_Equal_thing_Thing_thing_Thing, k5_slices_Equal_thing_Thing_thing_Thing, k4_slices_Equal_thing_Thing_thing_Thing, k3_slices_Equal_thing_Thing_thing_Thing, r9_slices_Equal_thing_Thing_thing_Thing, k9_slices_Equal_thing_Thing_thing_Thing, k2_slices_Equal_thing_Thing_thing_Thing, k0_slices_Equal_thing_Thing_thing_Thing, b0_slices_Equal_thing_Thing_thing_Thing, Z0, Z1, Z2, Z3, Z4, Z5, Z6, Z7, Z8, Z9, Z10, resAll, Nat.reduceAdd, Nat.reduceEqDiff, Nat.reduceLeDiff, Nat.reduceMul, ↓reduceIte, reduceCtorEq, Nat.reduceBEq, aoper, Nat.reduceLT, Int.reduceEq, Int.reduceLT, Int.reduceLE]
  · have hf : eqL thEq l k = false := by unfold eqL; simp; intro h; omega
    simp (disch := omega) only [c1, hf, r0_slices_Equal_thing_Thing_thing_Thing, r1_slices_Equal_thing_Thing_thing_Thing, r2_slices_Equal_thing_Thing_thing_Thing, k1_slices_Equal_thing_Thing_thing_Thing, r3_slices_Equal_thing_Thing_thing_Thing, r4_slices_Equal_thing_Thing_thing_Thing, r5_slices_Equal_thing_Thing_thing_Thing, r6_slices_Equal_thing_Thing_thing_Thing, r7_slices_Equal_thing_Thing_thing_Thing, k7_slices_Equal_thing_Thing_thing_Thing, k6_slices_Equal_thing_Thing_thing_Thing, r8_slices_Equal_thing_Thing_thing_Thing, k8_slices_Equal_thing_Thing_thing_Thing, k5_slices_Equal_thing_Thing_thing_Thing, k4_slices_Equal_thing_Thing_thing_Thing, k3_slices_Equal_thing_Thing_thing_Thing, r9_slices_Equal_thing_Thing_thing_Thing, k9_slices_Equal_thing_Thing_thing_Thing, k2_slices_Equal_thing_Thing_thing_Thing, k0_slices_Equal_thing_Thing_thing_Thing, c_slices_Equal_thing_Thing_thing_Thing, Z0, Z1, Z2, Z3, Z4, Z5, Z6, Z7, Z8, Z9, Z10, resAll, Nat.reduceAdd, Nat.reduceEqDiff, Nat.reduceLeDiff, Nat.reduceMul, ↓reduceIte, reduceCtorEq, Nat.reduceBEq, aoper, Nat.reduceLT, Int.reduceEq, Int.reduceLT, Int.reduceLE]
def eq3 (a b c a' b' c' : Int) : Bool := a == a' && (b == b' && c == c')
theorem eqGeo {a b c a' b' c' : Int} : eqLsA [i64 a, i64 b, i64 c] [i64 a', i64 b', i64 c'] [(0, 0), (1, 0), (2, 0)] = some (eq3 a b c a' b' c') := by
  simp [eqLsA, eqScalA, eqScal, eq3]
def sameB (S T : StD) : Bool := eq3 S.threads S.slots S.things T.threads T.slots T.things && eqL slotEq S.sl T.sl && eqL thEq S.th T.th
theorem state_Same_ok (d : Nat) (σ : AHeap) (S T : StD) (a1 : Option Addr) (f1 : Nat) (a2 : Option Addr) (f2 : Nat) (b1 : Option Addr) (g1 : Nat) (b2 : Option Addr) (g2 : Nat) (hl : S.sl.length < 1000) (hm : S.th.length < 1000) (h1 : SlS σ a1 S.sl) (h2 : SlT σ a2 S.th) (h3 : SlS σ b1 T.sl) (h4 : SlT σ b2 T.th) :
    acall (ofProg Try.prog) 1000 (d + 2) 11 [stV S a1 f1 a2 f2, stV T b1 g1 b2 g2] σ = some (.bool (sameB S T), σ) := by
  refine acall_flat e_state_Same (by simp) rfl ?_
  have hs := fun L => Equal_slots_ok d (σ.fresh.grow L) S.sl T.sl a1 b1 f1 g1 hl (h1.fresh.grow L) (h3.fresh.grow L)
  have ht := fun L => Equal_things_ok d (σ.fresh.grow L) S.th T.th a2 b2 f2 g2 hm (h2.fresh.grow L) (h4.fresh.grow L)
  unfold sameB
  cases c1 : eq3 S.threads S.slots S.things T.threads T.slots T.things with
  | false => simp (disch := omega) only [eqGeo, c1, r0_state_Same, r1_state_Same, k0_state_Same, c_state_Same, Z0, Z1, Z2, Z3, Z4, Z5, Z6, Z7, Z8, Z9, Z10, resAll, Nat.reduceAdd, Nat.reduceEqDiff, Nat.reduceLeDiff, Nat.reduceMul, ↓reduceIte, reduceCtorEq, Nat.reduceBEq, aoper, Nat.reduceLT, Int.reduceEq, Int.reduceLT, Int.reduceLE]
  | true => cases c2 : eqL slotEq S.sl T.sl with
    | false => simp (disch := omega) only [eqGeo, c1, hs, c2, r0_state_Same, r1_state_Same, k0_state_Same, c_state_Same, Z0, Z1, Z2, Z3, Z4, Z5, Z6, Z7, Z8, Z9, Z10, resAll, Nat.reduceAdd, Nat.reduceEqDiff, Nat.reduceLeDiff, Nat.reduceMul, ↓reduceIte, reduceCtorEq, Nat.reduceBEq, aoper, Nat.reduceLT, Int.reduceEq, Int.reduceLT, Int.reduceLE]
    | true => cases c3 : eqL thEq S.th T.th with
      | false => simp (disch := omega) only [eqGeo, c1, hs, c2, ht, c3, r0_state_Same, r1_state_Same, k0_state_Same, c_state_Same, Z0, Z1, Z2, Z3, Z4, Z5, Z6, Z7, Z8, Z9, Z10, resAll, Nat.reduceAdd, Nat.reduceEqDiff, Nat.reduceLeDiff, Nat.reduceMul, ↓reduceIte, reduceCtorEq, Nat.reduceBEq, aoper, Nat.reduceLT, Int.reduceEq, Int.reduceLT, Int.reduceLE]
      | true => simp (disch := omega) only [eqGeo, c1, hs, c2, ht, c3, r0_state_Same, r1_state_Same, k0_state_Same, c_state_Same, Z0, Z1, Z2, Z3, Z4, Z5, Z6, Z7, Z8, Z9, Z10, resAll, Nat.reduceAdd, Nat.reduceEqDiff, Nat.reduceLeDiff, Nat.reduceMul, ↓reduceIte, reduceCtorEq, Nat.reduceBEq, aoper, Nat.reduceLT, Int.reduceEq, Int.reduceLT, Int.reduceLE]
end Go.Proofs.Ytidmcpkbcphpiaa
namespace Go.Proofs.Ytidmcpkbcphpiaa
open Go Go.Hai
set_option maxRecDepth 20000
set_option linter.unusedSimpArgs false
set_option maxHeartbeats 8000000
attribute [local irreducible] Hai.Ends EndsR EndsO EndsD EndsX EndsE AHeap.grow
def r0_slices_Clone_state_Slot_state_Slot : List AOper := [(.mk (some 2) none (.mv (.const (.slice none 0 0))))]
def r1_slices_Clone_state_Slot_state_Slot : List AOper := [(.mk (some 3) none (.mv (.tmp 0))), (.mk (some 4) none (.eqNil false (.tmp 3)))]
def r2_slices_Clone_state_Slot_state_Slot : List AOper := [(.mk (some 2) none (.mv (.const (.slice none 0 0))))]
def k1_slices_Clone_state_Slot_state_Slot : ACode := (.cond (.tmp 4) (.seq (.reg r2_slices_Clone_state_Slot_state_Slot) .ret) .skip)
def r3_slices_Clone_state_Slot_state_Slot : List AOper := [(.mk (some 5) none (.buildSl [] 5 0 [])), (.mk (some 6) none (.mv (.tmp 0))), (.mk (some 7) none (.app 5 40 (.tmp 5) (.tmp 6))), (.mk (some 2) none (.mv (.tmp 7)))]
def k2_slices_Clone_state_Slot_state_Slot : ACode := (.seq (.reg r3_slices_Clone_state_Slot_state_Slot) .ret)
def k0_slices_Clone_state_Slot_state_Slot : ACode := (.seq (.seq (.reg r1_slices_Clone_state_Slot_state_Slot) k1_slices_Clone_state_Slot_state_Slot) k2_slices_Clone_state_Slot_state_Slot)
def c_slices_Clone_state_Slot_state_Slot : ACode := (.seq (.reg r0_slices_Clone_state_Slot_state_Slot) k0_slices_Clone_state_Slot_state_Slot)
theorem e_slices_Clone_state_Slot_state_Slot : ofProg Try.prog 87 = some ⟨8, [(.tmp 2)], c_slices_Clone_state_Slot_state_Slot⟩ := by kernel_rfl
def r0_slices_Clone_thing_Thing_thing_Thing : List AOper := [(.mk (some 2) none (.mv (.const (.slice none 0 0))))]
def r1_slices_Clone_thing_Thing_thing_Thing : List AOper := [(.mk (some 3) none (.mv (.tmp 0))), (.mk (some 4) none (.eqNil false (.tmp 3)))]
def r2_slices_Clone_thing_Thing_thing_Thing : List AOper := [(.mk (some 2) none (.mv (.const (.slice none 0 0))))]
def k1_slices_Clone_thing_Thing_thing_Thing : ACode := (.cond (.tmp 4) (.seq (.reg r2_slices_Clone_thing_Thing_thing_Thing) .ret) .skip)
def r3_slices_Clone_thing_Thing_thing_Thing : List AOper := [(.mk (some 5) none (.buildSl [] 13 0 [])), (.mk (some 6) none (.mv (.tmp 0))), (.mk (some 7) none (.app 13 104 (.tmp 5) (.tmp 6))), (.mk (some 2) none (.mv (.tmp 7)))]
def k2_slices_Clone_thing_Thing_thing_Thing : ACode := (.seq (.reg r3_slices_Clone_thing_Thing_thing_Thing) .ret)
def k0_slices_Clone_thing_Thing_thing_Thing : ACode := (.seq (.seq (.reg r1_slices_Clone_thing_Thing_thing_Thing) k1_slices_Clone_thing_Thing_thing_Thing) k2_slices_Clone_thing_Thing_thing_Thing)
def c_slices_Clone_thing_Thing_thing_Thing : ACode := (.seq (.reg r0_slices_Clone_thing_Thing_thing_Thing) k0_slices_Clone_thing_Thing_thing_Thing)
theorem e_slices_Clone_thing_Thing_thing_Thing : ofProg Try.prog 88 = some ⟨8, [(.tmp 2)], c_slices_Clone_thing_Thing_thing_Thing⟩ := by kernel_rfl
def r0_state_Clone : List AOper := [(.mk (some 1) none (.box 5 (.tmp 0))), (.mk (some 2) none (.alloc [(.int .i64 0), (.int .i64 0), (.int .i64 0), (.slice none 0 0), (.slice none 0 0)] 5))]
def r1_state_Clone : List AOper := [(.mk (some 3) none (.fldA 0 (.tmp 1))), (.mk (some 4) none (.load true 3 (.tmp 3))), (.mk (some 5) none (.fldA 3 (.tmp 1))), (.mk (some 6) none (.load false 1 (.tmp 5))), (.mk (some 7) none (.call 87 [(.tmp 6)])), (.mk (some 8) none (.fldA 4 (.tmp 1))), (.mk (some 9) none (.load false 1 (.tmp 8))), (.mk (some 10) none (.call 88 [(.tmp 9)])), (.mk (some 11) none (.build [(.int .i64 0), (.int .i64 0), (.int .i64 0), (.slice none 0 0), (.slice none 0 0)] [(0, (3, (.tmp 4))), (3, (1, (.tmp 7))), (4, (1, (.tmp 10)))])), (.mk none none (.store 5 (.tmp 2) (.tmp 11)))]
def k0_state_Clone : ACode := (.seq (.drw r1_state_Clone [0, 1, 0, 4, 12, 0, 32, 124, 255, 511]) .ret)
def c_state_Clone : ACode := (.seq (.reg r0_state_Clone) k0_state_Clone)
theorem e_state_Clone : ofProg Try.prog 64 = some ⟨12, [(.cell 2 true 5)], c_state_Clone⟩ := by kernel_rfl

theorem Clone_slots_ok (d : Nat) (σ : AHeap) (l : List SlotD) (b f : Nat) (hlo : σ.low ≤ σ.n) (h : SlAt slotL 5 σ b l) (hl : 0 < l.length) (hm : l.length < 1000) :
    ∃ c τ, acall (ofProg Try.prog) 1000 (d + 1) 87 [.slice (some ⟨b, 0, none⟩) l.length f] σ = some (.slice (some ⟨c, 0, none⟩) l.length 1, τ) ∧ Keeps σ τ ∧ σ.n ≤ c ∧ c < τ.n ∧ τ.t.get c = some (rowOf (flatL slotL l, 5)) := by
  suffices hs : Hai.Ends (acode (acall (ofProg Try.prog) 1000 d) 1000 c_slices_Clone_state_Slot_state_Slot (Tr.of [.slice (some ⟨b, 0, none⟩) l.length f]) (σ.fresh.grow [])) (finA σ.n [.tmp 2] fun v τ => ∃ c, v = .slice (some ⟨c, 0, none⟩) l.length 1 ∧ Keeps σ.fresh τ ∧ σ.n ≤ c ∧ c < τ.n ∧ τ.t.get c = some (rowOf (flatL slotL l, 5))) by
    obtain ⟨v, τ', e, τ, ⟨c, rfl, g1, g2, g3, g4⟩, g⟩ := acall_addr e_slices_Clone_state_Slot_state_Slot (by simp) hlo hs
    rcases g with ⟨g, _⟩ | rfl
    · cases g
    · exact ⟨c, _, e, g1.back, g2, g3, g4⟩
  have hk := Keeps.self σ.fresh [(([] : List Value), 5)]
  have hfr : SlAt slotL 5 σ.fresh b l := h
  obtain ⟨τ, e, k1, k2, k3⟩ := app_copy (cells := slotL) (es := 5) (by_ := 40) (b' := σ.fresh.n) (f := f) (fun _ => rfl) (hfr.keeps hk) hl hm (by omega)
  have hn : (σ.fresh.grow [(([] : List Value), 5)]).n = σ.n + 1 := by rw [grow_n]; rfl
  rw [hn] at e k2 k3
  have h0 : (if Nat.beq 0 0 = true then 0 else 1) = 0 := rfl
  simp (disch := omega) only [o_eqNil, nilO_some, h0, Nat.beq_refl, e, r0_slices_Clone_state_Slot_state_Slot, r1_slices_Clone_state_Slot_state_Slot, r2_slices_Clone_state_Slot_state_Slot, k1_slices_Clone_state_Slot_state_Slot, r3_slices_Clone_state_Slot_state_Slot, k2_slices_Clone_state_Slot_state_Slot, k0_slices_Clone_state_Slot_state_Slot, c_slices_Clone_state_Slot_state_Slot, Z0, Z1, Z2, Z3, Z4, Z5, Z6, Z7, Z8, Z9, Z10, resAll, Nat.reduceAdd, Nat.reduceEqDiff, Nat.reduceLeDiff, Nat.reduceMul, ↓reduceIte, reduceCtorEq, Nat.reduceBEq, aoper, Nat.reduceLT, Int.reduceEq, Int.reduceLT, Int.reduceLE]
  refine ⟨⟨σ.n + 1, rfl, hk.trans k1, by omega, by omega, k3⟩, ?_⟩
  rw [k1.low, grow_low]; rfl
theorem Clone_things_ok (d : Nat) (σ : AHeap) (l : List ThingD) (b f : Nat) (hlo : σ.low ≤ σ.n) (h : SlAt thingL 13 σ b l) (hl : 0 < l.length) (hm : l.length < 1000) :
    ∃ c τ, acall (ofProg Try.prog) 1000 (d + 1) 88 [.slice (some ⟨b, 0, none⟩) l.length f] σ = some (.slice (some ⟨c, 0, none⟩) l.length 1, τ) ∧ Keeps σ τ ∧ σ.n ≤ c ∧ c < τ.n ∧ τ.t.get c = some (rowOf (flatL thingL l, 13)) := by
  suffices hs : Hai.Ends (acode (acall (ofProg Try.prog) 1000 d) 1000 c_slices_Clone_thing_Thing_thing_Thing (Tr.of [.slice (some ⟨b, 0, none⟩) l.length f]) (σ.fresh.grow [])) (finA σ.n [.tmp 2] fun v τ => ∃ c, v = .slice (some ⟨c, 0, none⟩) l.length 1 ∧ Keeps σ.fresh τ ∧ σ.n ≤ c ∧ c < τ.n ∧ τ.t.get c = some (rowOf (flatL thingL l, 13))) by
    obtain ⟨v, τ', e, τ, ⟨c, rfl, g1, g2, g3, g4⟩, g⟩ := acall_addr e_slices_Clone_thing_Thing_thing_Thing (by simp) hlo hs
    rcases g with ⟨g, _⟩ | rfl
    · cases g
    · exact ⟨c, _, e, g1.back, g2, g3, g4⟩
  have hk := Keeps.self σ.fresh [(([] : List Value), 13)]
  have hfr : SlAt thingL 13 σ.fresh b l := h
  obtain ⟨τ, e, k1, k2, k3⟩ := app_copy (cells := thingL) (es := 13) (by_ := 104) (b' := σ.fresh.n) (f := f) (fun _ => rfl) (hfr.keeps hk) hl hm (by omega)
  have hn : (σ.fresh.grow [(([] : List Value), 13)]).n = σ.n + 1 := by rw [grow_n]; rfl
  rw [hn] at e k2 k3
  have h0 : (if Nat.beq 0 0 = true then 0 else 1) = 0 := rfl
  simp (disch := omega) only [o_eqNil, nilO_some, h0, Nat.beq_refl, e, r0_slices_Clone_thing_Thing_thing_Thing, r1_slices_Clone_thing_Thing_thing_Thing, r2_slices_Clone_thing_Thing_thing_Thing, k1_slices_Clone_thing_Thing_thing_Thing, r3_slices_Clone_thing_Thing_thing_Thing, k2_slices_Clone_thing_Thing_thing_Thing, k0_slices_Clone_thing_Thing_thing_Thing, c_slices_Clone_thing_Thing_thing_Thing, Z0, Z1, Z2, Z3, Z4, Z5, Z6, Z7, Z8, Z9, Z10, resAll, Nat.reduceAdd, Nat.reduceEqDiff, Nat.reduceLeDiff, Nat.reduceMul, ↓reduceIte, reduceCtorEq, Nat.reduceBEq, aoper, Nat.reduceLT, Int.reduceEq, Int.reduceLT, Int.reduceLE]
  refine ⟨⟨σ.n + 1, rfl, hk.trans k1, by omega, by omega, k3⟩, ?_⟩
  rw [k1.low, grow_low]; rfl
theorem state_Clone_ok (d : Nat) (σ : AHeap) (S : StD) (b1 f1 b2 f2 : Nat) (hlo : σ.low ≤ σ.n) (h1 : SlAt slotL 5 σ b1 S.sl) (h2 : SlAt thingL 13 σ b2 S.th) (hl : 0 < S.sl.length) (hm : S.sl.length < 1000) (hl2 : 0 < S.th.length) (hm2 : S.th.length < 1000) :
    ∃ c1 c2 τ, acall (ofProg Try.prog) 1000 (d + 2) 64 [stV S (some ⟨b1, 0, none⟩) f1 (some ⟨b2, 0, none⟩) f2] σ = some (stV S (some ⟨c1, 0, none⟩) 1 (some ⟨c2, 0, none⟩) 1, τ) ∧ Keeps σ τ ∧ σ.n ≤ c1 ∧ c1 < c2 ∧ c2 < τ.n ∧
      τ.t.get c1 = some (rowOf (flatL slotL S.sl, 5)) ∧ τ.t.get c2 = some (rowOf (flatL thingL S.th, 13)) := by
  suffices hs : Hai.Ends (acode (acall (ofProg Try.prog) 1000 (d + 1)) 1000 c_state_Clone (Tr.of [stV S (some ⟨b1, 0, none⟩) f1 (some ⟨b2, 0, none⟩) f2]) (σ.fresh.grow [])) (finA σ.n [.cell 2 true 5] fun v τ => ∃ c1 c2, v = stV S (some ⟨c1, 0, none⟩) 1 (some ⟨c2, 0, none⟩) 1 ∧ Keeps σ.fresh τ ∧ σ.n ≤ c1 ∧ c1 < c2 ∧ c2 < τ.n ∧
      τ.t.get c1 = some (rowOf (flatL slotL S.sl, 5)) ∧ τ.t.get c2 = some (rowOf (flatL thingL S.th, 13))) by
    obtain ⟨v, τ', e, τ, ⟨c1, c2, rfl, g1, g2, g3, g4, g5, g6⟩, g⟩ := acall_addr e_state_Clone (by simp) hlo hs
    rcases g with ⟨g, _⟩ | rfl
    · cases g
    · exact ⟨c1, c2, _, e, g1.back, g2, g3, g4, g5, g6⟩
  have hk0 := Keeps.self σ.fresh [(stL S (some ⟨b1, 0, none⟩) f1 (some ⟨b2, 0, none⟩) f2, 5), ([.int .i64 0, .int .i64 0, .int .i64 0, .slice none 0 0, .slice none 0 0], 5)]
  simp (disch := omega) only [r0_state_Clone, r1_state_Clone, k0_state_Clone, c_state_Clone, Z0, Z1, Z2, Z3, Z4, Z5, Z6, Z7, Z8, Z9, Z10, resAll, Nat.reduceAdd, Nat.reduceEqDiff, Nat.reduceLeDiff, Nat.reduceMul, ↓reduceIte, reduceCtorEq, Nat.reduceBEq, aoper, Nat.reduceLT, Int.reduceEq, Int.reduceLT, Int.reduceLE]
  refine ends_drwE 9 (by kernel_rfl) ?_
  generalize hL : ([(stL S (some ⟨b1, 0, none⟩) f1 (some ⟨b2, 0, none⟩) f2, 5), ([Value.int .i64 0, .int .i64 0, .int .i64 0, .slice none 0 0, .slice none 0 0], 5)] : List (List Value × Nat)) = L at hk0
  have hlo0 : (σ.fresh.grow L).low ≤ (σ.fresh.grow L).n := low_grow fresh_le L
  have g1 : SlAt slotL 5 (σ.fresh.grow L) b1 S.sl := SlAt.keeps (σ := σ.fresh) h1 hk0
  have g2 : SlAt thingL 13 (σ.fresh.grow L) b2 S.th := SlAt.keeps (σ := σ.fresh) h2 hk0
  obtain ⟨c1, τ1, e1, k1, p1, q1, r1⟩ := Clone_slots_ok d ((σ.fresh.grow L).setLow (σ.fresh.grow L).n) S.sl b1 f1 (Nat.le_refl _) g1 hl hm
  have hS : (σ.fresh.grow L).low = σ.n := by rw [grow_low]; rfl
  have hkE := fun {os : List AOper} {t : Tmps} {Q : Tmps → AHeap → Prop} {d' : Option Nat} {op : AOp} {v : Value} => kontE_new (call := acall (ofProg Try.prog) 1000 (d + 1)) (n := 4) (os := os) (t := t) (Q := Q) (d := d') (op := op) (v := v) hlo0 (τ := τ1) k1.low
  rw [hS] at hkE
  have kL : Keeps (σ.fresh.grow L) (τ1.setLow σ.n) := ⟨k1.n, hS.symm, k1.dead, k1.row⟩
  have q1' : c1 < (τ1.setLow σ.n).n := q1
  have r1' : (τ1.setLow σ.n).t.get c1 = some (rowOf (flatL slotL S.sl, 5)) := r1
  have hnn : (σ.fresh.grow L).n = σ.n + L.length := grow_n σ.fresh L
  have p1' : σ.n + 2 ≤ c1 := by
    have : (σ.fresh.grow L).n ≤ c1 := p1
    rw [hnn, ← hL] at this; simpa using this
  generalize hX : τ1.setLow σ.n = X at *
  have kk := hk0.trans kL
  have hb0 : ∀ o n, X.loadN σ.fresh.n o n = sliceL (stL S (some ⟨b1, 0, none⟩) f1 (some ⟨b2, 0, none⟩) f2) o n := fun o n => by
    have := kL.own0 (e := 5) (r := stL S (some ⟨b1, 0, none⟩) f1 (some ⟨b2, 0, none⟩) f2) (by rw [← hL]; rfl) [] o n
    rwa [grow_nil] at this
  have hb1 : X.t.get (σ.fresh.n + 1) = some (rowOf ([.int .i64 0, .int .i64 0, .int .i64 0, .slice none 0 0, .slice none 0 0], 5)) := by
    have : σ.n + 1 < (σ.fresh.grow L).n := by rw [hnn, ← hL]; simp
    refine (kL.row _ this).trans (grow_new σ.fresh L 1 ?_)
    rw [← hL]; rfl
  have g2' := g2.keeps kL
  have hlx : X.low = σ.n := kk.low
  have hnx : σ.n + 2 ≤ X.n := by omega
  have hlX : X.low ≤ X.n := by omega
  obtain ⟨c2, τ2, e2, k2, p2, q2, r2⟩ := Clone_things_ok d (X.setLow X.n) S.th b2 f2 (Nat.le_refl _) g2' hl2 hm2
  have hkF := fun {os : List AOper} {t : Tmps} {Q : Tmps → AHeap → Prop} {d' : Option Nat} {op : AOp} {v : Value} => kontE_new (call := acall (ofProg Try.prog) 1000 (d + 1)) (n := 1) (os := os) (t := t) (Q := Q) (d := d') (op := op) (v := v) hlX (τ := τ2) k2.low
  have kY : Keeps X (τ2.setLow X.low) := ⟨k2.n, rfl, k2.dead, k2.row⟩
  have q2' : c2 < (τ2.setLow X.low).n := q2
  have r2' : (τ2.setLow X.low).t.get c2 = some (rowOf (flatL thingL S.th, 13)) := r2
  have p2' : X.n ≤ c2 := p2
  generalize hY : τ2.setLow X.low = Y at *
  have hlY : Y.low ≤ Y.n := by have := kY.low; have := kY.n; omega
  have hyb1 := (kY.row _ (by show σ.n + 1 < X.n; omega)).trans hb1
  have hyb0 : ∀ o n, Y.loadN σ.fresh.n o n = sliceL (stL S (some ⟨b1, 0, none⟩) f1 (some ⟨b2, 0, none⟩) f2) o n := fun o n => (kY.load o n (by show σ.n < X.n; omega)).trans (hb0 o n)
  obtain ⟨Z, hz1, hz2, hz3, hz4, hz5, hz6⟩ := stX_row (vs := stL S (some ⟨c1, 0, none⟩) 1 (some ⟨c2, 0, none⟩) 1) (o := 0) hyb1 (by have := kY.low; show Y.low ≤ σ.n + 1; omega) (by have := kY.n; show σ.n + 1 < Y.n; omega) (Nat.le_refl _) rfl
  have hzl : Z.loadN (σ.fresh.n + 1) 0 5 = some (stL S (some ⟨c1, 0, none⟩) 1 (some ⟨c2, 0, none⟩) 1) := load_row hz2 (Nat.le_refl _)
  have kZ : Keeps σ.fresh Z := ⟨by have := kk.n; have := kY.n; omega, by rw [hz5, kY.low, kk.low], by rw [hz6, kY.dead, kk.dead], fun b hb => by
    rw [hz3 b (by show b ≠ σ.n + 1; have : b < σ.n := hb; omega), kY.row b (by have : b < σ.n := hb; omega), kk.row b hb]⟩
  have hc1 : Z.t.get c1 = some (rowOf (flatL slotL S.sl, 5)) := by rw [hz3 c1 (by show c1 ≠ σ.n + 1; omega), kY.row c1 q1', r1']
  have hc2 : Z.t.get c2 = some (rowOf (flatL thingL S.th, 13)) := by rw [hz3 c2 (by show c2 ≠ σ.n + 1; omega), r2']
  subst hL
  simp (disch := omega) only [e_1, kontE_grow fresh_le, e1, hkE, r0_state_Clone, r1_state_Clone, k0_state_Clone, c_state_Clone, Z0, Z1, Z2, Z3, Z4, Z5, Z6, Z7, Z8, Z9, Z10, resAll, Nat.reduceAdd, Nat.reduceEqDiff, Nat.reduceLeDiff, Nat.reduceMul, ↓reduceIte, reduceCtorEq, Nat.reduceBEq, aoper, Nat.reduceLT, Int.reduceEq, Int.reduceLT, Int.reduceLE]
  simp (disch := omega) only [e_1, kontE_ok hlX, hb0, e2, hkF, r0_state_Clone, r1_state_Clone, k0_state_Clone, c_state_Clone, Z0, Z1, Z2, Z3, Z4, Z5, Z6, Z7, Z8, Z9, Z10, resAll, Nat.reduceAdd, Nat.reduceEqDiff, Nat.reduceLeDiff, Nat.reduceMul, ↓reduceIte, reduceCtorEq, Nat.reduceBEq, aoper, Nat.reduceLT, Int.reduceEq, Int.reduceLT, Int.reduceLE]
  simp (disch := omega) only [e_1, e_0, x_1, x_nil, kontE_ok hlY, kontX_ok hlY, hyb0, fillL_3, fill3_5, hz1, hzl, r0_state_Clone, r1_state_Clone, k0_state_Clone, c_state_Clone, Z0, Z1, Z2, Z3, Z4, Z5, Z6, Z7, Z8, Z9, Z10, resAll, Nat.reduceAdd, Nat.reduceEqDiff, Nat.reduceLeDiff, Nat.reduceMul, ↓reduceIte, reduceCtorEq, Nat.reduceBEq, aoper, Nat.reduceLT, Int.reduceEq, Int.reduceLT, Int.reduceLE]
  exact ⟨⟨c1, c2, rfl, kZ, by omega, by omega, by omega, hc1, hc2⟩, by have := kY.low; omega⟩
end Go.Proofs.Ytidmcpkbcphpiaa
namespace Go.Proofs.Ytidmcpkbcphpiaa
open Go Go.Hai
set_option maxRecDepth 20000
set_option linter.unusedSimpArgs false
set_option maxHeartbeats 8000000
attribute [local irreducible] Hai.Ends EndsR EndsO EndsD EndsX EndsE EndsK AHeap.grow AHeap.putR
def r0_mail_send : List AOper := [(.mk (some 4) none (.box 5 (.tmp 0))), (.mk (some 6) none (.box 6 (.tmp 2))), (.mk (some 7) none (.box 4 (.tmp 3))), (.mk (some 8) none (.alloc [(.int .i64 0), (.int .i64 0), (.int .i64 0), (.slice none 0 0), (.slice none 0 0)] 5)), (.mk (some 9) none (.alloc [(.int .i64 0), (.int .u64 0), (.int .i64 0)] 3))]
def r1_mail_send : List AOper := [(.mk (some 10) none (.mv (.const (.int .i64 0))))]
def r2_mail_send : List AOper := [(.mk (some 14) none (.fldA 2 (.tmp 6))), (.mk (some 15) none (.fldA 0 (.tmp 14))), (.mk (some 16) none (.load false 1 (.tmp 15))), (.mk (some 17) none (.lenS (.tmp 16))), (.mk (some 18) none (.bin .gtr (.tmp 17) (.const (.int .i64 0))))]
def r3_mail_send : List AOper := [(.mk (some 19) none (.fldA 2 (.tmp 7))), (.mk (some 20) none (.load false 1 (.tmp 19))), (.mk (some 21) none (.call 29 [(.const (.int .i64 4)), (.tmp 20)])), (.mk (some 22) none (.un .not (.tmp 21)))]
def r4_mail_send : List AOper := [(.mk (some 23) none (.load true 5 (.tmp 4))), (.mk (some 24) none (.build [(.int .i64 0), (.int .u64 0), (.int .i64 0)] [(0, (1, (.const (.int .i64 6))))])), (.mk none none (.store 5 (.tmp 8) (.tmp 23))), (.mk none none (.store 3 (.tmp 9) (.tmp 24)))]
def k3_mail_send : ACode := (.cond (.tmp 22) (.seq (.reg r4_mail_send) .ret) .skip)
def r5_mail_send : List AOper := [(.mk (some 26) none (.load true 5 (.tmp 4))), (.mk (some 27) none (.mv (.tmp 1))), (.mk (some 28) none (.fldA 2 (.tmp 6))), (.mk (some 29) none (.load true 1 (.tmp 28))), (.mk (some 30) none (.call 28 [(.tmp 26), (.tmp 27), (.tmp 29)])), (.mk (some 25) none (.mv (.tmp 30))), (.mk (some 31) none (.ext (.tmp 25) 0)), (.mk (some 32) none (.ext (.tmp 25) 1)), (.mk (some 33) none (.ext (.tmp 25) 2)), (.mk (some 12) none (.alloc [(.int .i64 0), (.int .i64 0), (.int .i64 0), (.int .i64 0)] 4)), (.mk (some 11) none (.mv (.tmp 31))), (.mk none none (.store 4 (.tmp 12) (.tmp 32))), (.mk (some 13) none (.mv (.tmp 33)))]
def r6_mail_send : List AOper := [(.mk (some 35) none (.mv (.tmp 13))), (.mk (some 36) none (.bin .neq (.tmp 35) (.const (.int .i64 0)))), (.mk (some 34) none (.mv (.tmp 36)))]
def r7_mail_send : List AOper := [(.mk (some 37) none (.load true 5 (.tmp 4))), (.mk (some 38) none (.mv (.tmp 13))), (.mk (some 39) none (.build [(.int .i64 0), (.int .u64 0), (.int .i64 0)] [(0, (1, (.tmp 38)))])), (.mk none none (.store 5 (.tmp 8) (.tmp 37))), (.mk none none (.store 3 (.tmp 9) (.tmp 39)))]
def r8_mail_send : List AOper := [(.mk (some 41) none (.fldA 0 (.tmp 12))), (.mk (some 42) none (.load false 1 (.tmp 41))), (.mk (some 43) none (.bin .eql (.tmp 42) (.const (.int .i64 1)))), (.mk (some 40) none (.mv (.tmp 43)))]
def r9_mail_send : List AOper := [(.mk (some 44) none (.load true 5 (.tmp 4))), (.mk (some 45) none (.build [(.int .i64 0), (.int .u64 0), (.int .i64 0)] [(0, (1, (.const (.int .i64 7))))])), (.mk none none (.store 5 (.tmp 8) (.tmp 44))), (.mk none none (.store 3 (.tmp 9) (.tmp 45)))]
def k7_mail_send : ACode := (.cond (.tmp 40) (.seq (.reg r9_mail_send) .ret) .skip)
def k6_mail_send : ACode := (.cond (.tmp 34) (.seq (.reg r7_mail_send) .ret) (.seq (.reg r8_mail_send) k7_mail_send))
def r10_mail_send : List AOper := [(.mk (some 46) none (.mv (.tmp 11))), (.mk (some 47) none (.bin .add (.tmp 46) (.const (.int .i64 1)))), (.mk (some 10) none (.mv (.tmp 47)))]
def k8_mail_send : ACode := (.reg r10_mail_send)
def k5_mail_send : ACode := (.seq (.block 0 (.seq (.reg r6_mail_send) k6_mail_send)) k8_mail_send)
def k4_mail_send : ACode := (.seq (.reg r5_mail_send) k5_mail_send)
def k2_mail_send : ACode := (.cond (.tmp 18) (.seq (.seq (.reg r3_mail_send) k3_mail_send) k4_mail_send) .skip)
def r11_mail_send : List AOper := [(.mk (some 48) none (.fldA 4 (.tmp 4))), (.mk (some 49) none (.load false 1 (.tmp 48))), (.mk (some 50) none (.fldA 1 (.tmp 7))), (.mk (some 51) none (.load false 1 (.tmp 50))), (.mk (some 52) none (.idxA 13 (.tmp 49) (.tmp 51))), (.mk (some 53) none (.fldA 7 (.tmp 52))), (.mk (some 54) none (.load false 1 (.tmp 53)))]
def r12_mail_send : List AOper := [(.mk (some 55) none (.load true 5 (.tmp 4))), (.mk (some 56) none (.build [(.int .i64 0), (.int .u64 0), (.int .i64 0)] [(0, (1, (.const (.int .i64 13))))])), (.mk none none (.store 5 (.tmp 8) (.tmp 55))), (.mk none none (.store 3 (.tmp 9) (.tmp 56)))]
def k10_mail_send : ACode := (.cond (.tmp 54) (.seq (.reg r12_mail_send) .ret) .skip)
def r13_mail_send : List AOper := [(.mk (some 57) none (.load true 5 (.tmp 4))), (.mk (some 58) none (.call 64 [(.tmp 57)])), (.mk none none (.store 5 (.tmp 4) (.tmp 58)))]
def r14_mail_send : List AOper := [(.mk (some 59) none (.fldA 4 (.tmp 4))), (.mk (some 60) none (.load false 1 (.tmp 59))), (.mk (some 61) none (.fldA 1 (.tmp 7))), (.mk (some 62) none (.load false 1 (.tmp 61))), (.mk (some 63) none (.fldA 5 (.tmp 6))), (.mk (some 64) none (.load false 1 (.tmp 63))), (.mk (some 65) none (.fldA 3 (.tmp 7))), (.mk (some 66) none (.load false 1 (.tmp 65))), (.mk (some 67) none (.mv (.tmp 10))), (.mk (some 68) none (.build [(.int .i64 0), (.int .i64 0), (.int .i64 0), (.int .i64 0), (.int .i64 0), (.int .i64 0), (.int .i64 0), (.bool false), (.int .u64 0), (.int .u64 0), (.int .u64 0), (.int .u64 0), (.int .u64 0)] [(0, (1, (.const (.int .i64 3)))), (7, (1, (.const (.bool true)))), (8, (1, (.tmp 64))), (6, (1, (.tmp 66))), (5, (1, (.tmp 67)))])), (.mk (some 69) none (.idxA 13 (.tmp 60) (.tmp 62))), (.mk none none (.store 13 (.tmp 69) (.tmp 68)))]
def r15_mail_send : List AOper := [(.mk (some 70) none (.load true 5 (.tmp 4))), (.mk (some 71) none (.build [(.int .i64 0), (.int .u64 0), (.int .i64 0)] [])), (.mk none none (.store 5 (.tmp 8) (.tmp 70))), (.mk none none (.store 3 (.tmp 9) (.tmp 71)))]
def k13_mail_send : ACode := (.seq (.reg r15_mail_send) .ret)
def k12_mail_send : ACode := (.seq (.reg r14_mail_send) k13_mail_send)
def k11_mail_send : ACode := (.seq (.reg r13_mail_send) k12_mail_send)
def k9_mail_send : ACode := (.seq (.seq (.reg r11_mail_send) k10_mail_send) k11_mail_send)
def k1_mail_send : ACode := (.seq (.seq (.reg r2_mail_send) k2_mail_send) k9_mail_send)
def k0_mail_send : ACode := (.seq (.reg r1_mail_send) k1_mail_send)
def c_mail_send : ACode := (.seq (.reg r0_mail_send) k0_mail_send)
theorem e_mail_send : ofProg Try.prog 30 = some ⟨72, [(.cell 8 true 5), (.cell 9 true 3)], c_mail_send⟩ := by kernel_rfl

def repL (e w n : Int) : List Value := [i64 e, u64 w, i64 n]
abbrev repV (e w n : Int) : Value := .agg (repL e w n).toArray
def mailT (w b f : Int) : ThingD := ⟨3, 0, 0, 0, 0, f, b, true, w, 0, 0, 0, 0⟩
def setT (S : StD) (i : Nat) (t : ThingD) : StD := { S with th := S.th.set i t }
def sendF (S : StD) (box : SlotD) (w : Int) : StD × Int := match atI S.th box.thing with
  | some t => if t.full then (S, 13) else (setT S box.thing.toNat (mailT w box.badge 0), 0)
  | none => (S, 0)
/- a state, somewhere -/
def StOut (σ : AHeap) (a b : Nat) (T : StD) (v : Value) (τ : AHeap) : Prop := ∃ b1 f1 b2 f2, v = stV T (some ⟨b1, 0, none⟩) f1 (some ⟨b2, 0, none⟩) f2 ∧ SlAt slotL 5 τ b1 T.sl ∧ SlAt thingL 13 τ b2 T.th ∧ Keeps σ τ ∧ (b1 = a ∨ σ.n ≤ b1) ∧ (b2 = b ∨ σ.n ≤ b2)
theorem mail_send_ok (d : Nat) (σ : AHeap) (S : StD) (b1 f1 b2 f2 : Nat) (thread X Y W : Int) (aA : Option Addr) (nA fA : Nat) (aB : Option Addr) (fB : Nat) (box : SlotD) (x : ThingD) (hlo : σ.low ≤ σ.n)
    (h1 : SlAt slotL 5 σ b1 S.sl) (h2 : SlAt thingL 13 σ b2 S.th) (hl : 0 < S.sl.length) (hm : S.sl.length < 1000) (hm2 : S.th.length < 1000) (hx0 : atI S.th box.thing = some x) :
    ∃ v τ, acall (ofProg Try.prog) 1000 (d + 3) 30 [stV S (some ⟨b1, 0, none⟩) f1 (some ⟨b2, 0, none⟩) f2, .int .i64 thread, callV 7 aA nA fA aB 0 fB X Y W, capV box] σ = some (.tuple [v, repV (sendF S box W).2 0 0].toArray, τ) ∧ StOut σ b1 b2 (sendF S box W).1 v τ := by
  suffices hs : Hai.Ends (acode (acall (ofProg Try.prog) 1000 (d + 2)) 1000 c_mail_send (Tr.of [stV S (some ⟨b1, 0, none⟩) f1 (some ⟨b2, 0, none⟩) f2, .int .i64 thread, callV 7 aA nA fA aB 0 fB X Y W, capV box]) (σ.fresh.grow []))
      (finA σ.n [.cell 8 true 5, .cell 9 true 3] fun v τ => ∃ u, v = .tuple [u, repV (sendF S box W).2 0 0].toArray ∧ StOut σ.fresh b1 b2 (sendF S box W).1 u τ) by
    obtain ⟨v, τ', e, τ, ⟨u, rfl, a1', f1', a2', f2', rfl, g1, g2, g3, g4⟩, g⟩ := acall_addr e_mail_send (by simp) hlo hs
    rcases g with ⟨g, _⟩ | rfl
    · cases g
    · exact ⟨_, _, e, _, _, _, _, rfl, g1, g2, g3.back, g4⟩
  have hp : 0 ≤ box.thing ∧ box.thing < S.th.length ∧ S.th[box.thing.toNat]? = some x := by
    unfold atI at hx0
    split at hx0
    · have := (List.getElem?_eq_some_iff.1 hx0).1; exact ⟨by assumption, by omega, hx0⟩
    · cases hx0
  obtain ⟨hp1, hp2, hx⟩ := hp
  have z0 : ((0 : Nat) : Int) = 0 := rfl
  have hld : ∀ L, (σ.fresh.grow L).loadN b2 (box.thing.toNat * 13 + 7) 1 = some [.bool x.full] := fun L => by
    have hb : SlAt thingL 13 σ.fresh b2 S.th := h2
    rw [load_old _ _ _ _ hb.1]; exact hb.2 _ _ hx 7 1 (by omega)
  cases c1 : x.full with
  | true =>
    have hs : sendF S box W = (S, 13) := by unfold sendF; rw [hx0]; simp only [c1, if_true]
    simp (disch := omega) only [sl6_1, sl6_2, z0, hp1, hp2, hld, c1, hs, r0_mail_send, r1_mail_send, r2_mail_send, r3_mail_send, r4_mail_send, k3_mail_send, r5_mail_send, r6_mail_send, r7_mail_send, r8_mail_send, r9_mail_send, k7_mail_send, k6_mail_send, r10_mail_send, k8_mail_send, k5_mail_send, k4_mail_send, k2_mail_send, r11_mail_send, r12_mail_send, k10_mail_send, r13_mail_send, r14_mail_send, r15_mail_send, k13_mail_send, k12_mail_send, k11_mail_send, k9_mail_send, k1_mail_send, k0_mail_send, c_mail_send, Z0, Z1, Z2, Z3, Z4, Z5, Z6, Z7, Z8, Z9, Z10, resAll, Nat.reduceAdd, Nat.reduceEqDiff, Nat.reduceLeDiff, Nat.reduceMul, ↓reduceIte, reduceCtorEq, Nat.reduceBEq, aoper, Nat.reduceLT, Int.reduceEq, Int.reduceLT, Int.reduceLE]
    exact ⟨_, rfl, _, _, _, _, rfl, SlAt.keeps (σ := σ.fresh) h1 (Keeps.self _ _), SlAt.keeps (σ := σ.fresh) h2 (Keeps.self _ _), Keeps.self _ _, .inl rfl, .inl rfl⟩
  | false =>
    have hs : sendF S box W = (setT S box.thing.toNat (mailT W box.badge 0), 0) := by unfold sendF; rw [hx0]; simp only [c1]; rfl
    have hk0 := Keeps.self σ.fresh [(stL S (some ⟨b1, 0, none⟩) f1 (some ⟨b2, 0, none⟩) f2, 5), (callL 7 aA nA fA aB 0 fB X Y W, 6), (capL box, 4), ([.int .i64 0, .int .i64 0, .int .i64 0, .slice none 0 0, .slice none 0 0], 5), ([.int .i64 0, .int .u64 0, .int .i64 0], 3)]
    obtain ⟨d1, d2, τ, e, k, p1, p2, p3, r1, r2⟩ := state_Clone_ok d _ S b1 f1 b2 f2 (low_grow fresh_le _) (SlAt.keeps (σ := σ.fresh) h1 hk0) (SlAt.keeps (σ := σ.fresh) h2 hk0) hl hm (by omega) hm2
    simp (disch := omega) only [sl6_1, sl6_2, z0, hp1, hp2, hld, c1, hs, e, r0_mail_send, r1_mail_send, r2_mail_send, r3_mail_send, r4_mail_send, k3_mail_send, r5_mail_send, r6_mail_send, r7_mail_send, r8_mail_send, r9_mail_send, k7_mail_send, k6_mail_send, r10_mail_send, k8_mail_send, k5_mail_send, k4_mail_send, k2_mail_send, r11_mail_send, r12_mail_send, k10_mail_send, r13_mail_send, r14_mail_send, r15_mail_send, k13_mail_send, k12_mail_send, k11_mail_send, k9_mail_send, k1_mail_send, k0_mail_send, c_mail_send, Z0, Z1, Z2, Z3, Z4, Z5, Z6, Z7, Z8, Z9, Z10, resAll, Nat.reduceAdd, Nat.reduceEqDiff, Nat.reduceLeDiff, Nat.reduceMul, ↓reduceIte, reduceCtorEq, Nat.reduceBEq, aoper, Nat.reduceLT, Int.reduceEq, Int.reduceLT, Int.reduceLE]
    have q0 := k.rows 0 rfl
    have q1 := k.rows 1 rfl
    have q2 := k.rows 2 rfl
    have q3 := k.rows 3 rfl
    have q4 := k.rows 4 rfl
    have hlow : τ.low = σ.fresh.n := by rw [k.low, grow_low]; rfl
    rw [grow_n] at p1
    simp only [List.length_cons, List.length_nil, Nat.reduceAdd] at p1
    rw [Nat.add_zero] at q0
    have l0 := load_sl q0
    have l1 := load_sl q1
    have l2 := load_sl q2
    have l3 := load_sl q3
    have l4 := load_sl q4
    have w1 : σ.fresh.n ≤ d2 := by omega
    have w2 : box.thing.toNat * 13 + 13 ≤ (flatL thingL S.th).length := by
      rw [flatL_length (es := 13) (fun _ => rfl)]; omega
    have hkk := hk0.trans k
    simp (disch := omega) only [st_gen, rowSt_row, putM_R, putR_low, putR_load, putR_loadF, putR_get, putR_far, hlow, q0, q1, q2, q3, q4, r2, l0, l1, l2, l3, l4, Nat.le_refl, Nat.le_add_right, eq_true w1, w2, hp1, hp2, sl6_0, sl6_1, sl6_5, Int.toNat_natCast, r0_mail_send, r1_mail_send, r2_mail_send, r3_mail_send, r4_mail_send, k3_mail_send, r5_mail_send, r6_mail_send, r7_mail_send, r8_mail_send, r9_mail_send, k7_mail_send, k6_mail_send, r10_mail_send, k8_mail_send, k5_mail_send, k4_mail_send, k2_mail_send, r11_mail_send, r12_mail_send, k10_mail_send, r13_mail_send, r14_mail_send, r15_mail_send, k13_mail_send, k12_mail_send, k11_mail_send, k9_mail_send, k1_mail_send, k0_mail_send, c_mail_send, Z0, Z1, Z2, Z3, Z4, Z5, Z6, Z7, Z8, Z9, Z10, resAll, Nat.reduceAdd, Nat.reduceEqDiff, Nat.reduceLeDiff, Nat.reduceMul, ↓reduceIte, reduceCtorEq, Nat.reduceBEq, aoper, Nat.reduceLT, Int.reduceEq, Int.reduceLT, Int.reduceLE]
    have hset := flatL_set (cells := thingL) (es := 13) (fun _ => rfl) (mailT W box.badge 0) S.th box.thing.toNat (by omega)
    refine ⟨⟨_, rfl, d1, 1, d2, 1, ?_, ?_, ?_, ?_, .inr (by omega), .inr (by omega)⟩, rfl⟩
    · simp only [stV, stL, setT, List.length_set]
    · refine SlAt_row (cells := slotL) (es := 5) (fun _ => rfl) ?_ ?_
      · first | (rw [putR_n, putR_n, putR_n, putR_n]; omega) | trace_state
      rw [putR_far (by omega), putR_far (by omega), putR_far (by omega), putR_far (by omega), r1]; rfl
    · refine SlAt_row (cells := thingL) (es := 13) (fun _ => rfl) ?_ ?_
      · first | (rw [putR_n, putR_n, putR_n, putR_n]; omega) | trace_state
      rw [putR_far (by omega), putR_far (by omega), putR_get]
      exact congrArg (fun l => some (rowOf (l, 13))) hset
    · exact (((hkk.putR (Nat.le_refl _) _ _).putR (by omega) _ _).putR (by omega) _ _).putR (by omega) _ _
end Go.Proofs.Ytidmcpkbcphpiaa
namespace Go.Proofs.Ytidmcpkbcphpiaa
open Go Go.Hai
set_option maxRecDepth 20000
set_option linter.unusedSimpArgs false
set_option maxHeartbeats 8000000
attribute [local irreducible] Hai.Ends EndsR EndsO EndsD EndsX EndsE EndsK AHeap.grow AHeap.putR okLow inN
def r0_mail_recv : List AOper := [(.mk (some 4) none (.box 5 (.tmp 0))), (.mk (some 6) none (.box 6 (.tmp 2))), (.mk (some 7) none (.box 4 (.tmp 3))), (.mk (some 8) none (.alloc [(.int .i64 0), (.int .i64 0), (.int .i64 0), (.slice none 0 0), (.slice none 0 0)] 5)), (.mk (some 9) none (.alloc [(.int .i64 0), (.int .u64 0), (.int .i64 0)] 3))]
def r1_mail_recv : List AOper := [(.mk (some 14) none (.fldA 4 (.tmp 4))), (.mk (some 15) none (.load false 1 (.tmp 14))), (.mk (some 16) none (.fldA 1 (.tmp 7))), (.mk (some 17) none (.load false 1 (.tmp 16))), (.mk (some 18) none (.idxA 13 (.tmp 15) (.tmp 17))), (.mk (some 19) none (.load true 13 (.tmp 18))), (.mk (some 10) none (.alloc [(.int .i64 0), (.int .i64 0), (.int .i64 0), (.int .i64 0), (.int .i64 0), (.int .i64 0), (.int .i64 0), (.bool false), (.int .u64 0), (.int .u64 0), (.int .u64 0), (.int .u64 0), (.int .u64 0)] 13)), (.mk none none (.store 13 (.tmp 10) (.tmp 19)))]
def r2_mail_recv : List AOper := [(.mk (some 20) none (.fldA 7 (.tmp 10))), (.mk (some 21) none (.load false 1 (.tmp 20))), (.mk (some 22) none (.un .not (.tmp 21)))]
def r3_mail_recv : List AOper := [(.mk (some 23) none (.load true 5 (.tmp 4))), (.mk (some 24) none (.build [(.int .i64 0), (.int .u64 0), (.int .i64 0)] [(0, (1, (.const (.int .i64 14))))])), (.mk none none (.store 5 (.tmp 8) (.tmp 23))), (.mk none none (.store 3 (.tmp 9) (.tmp 24)))]
def k2_mail_recv : ACode := (.cond (.tmp 22) (.seq (.reg r3_mail_recv) .ret) .skip)
def r4_mail_recv : List AOper := [(.mk (some 25) none (.load true 5 (.tmp 4))), (.mk (some 26) none (.call 64 [(.tmp 25)])), (.mk (some 11) none (.alloc [(.int .i64 0), (.int .i64 0), (.int .i64 0), (.slice none 0 0), (.slice none 0 0)] 5)), (.mk none none (.store 5 (.tmp 11) (.tmp 26)))]
def r5_mail_recv : List AOper := [(.mk (some 27) none (.fldA 2 (.tmp 6))), (.mk (some 28) none (.fldA 0 (.tmp 27))), (.mk (some 29) none (.load false 1 (.tmp 28))), (.mk (some 30) none (.lenS (.tmp 29))), (.mk (some 31) none (.bin .gtr (.tmp 30) (.const (.int .i64 0)))), (.mk (some 32) none (.mv (.tmp 31))), (.mk (some 33) (some (32, true)) (.fldA 5 (.tmp 10))), (.mk (some 34) (some (32, true)) (.load false 1 (.tmp 33))), (.mk (some 35) (some (32, true)) (.bin .gtr (.tmp 34) (.const (.int .i64 0)))), (.mk (some 36) none (.pick (.tmp 32) (.tmp 35) (.const (.bool false))))]
def r6_mail_recv : List AOper := [(.mk (some 38) none (.load true 5 (.tmp 4))), (.mk (some 39) none (.mv (.tmp 1))), (.mk (some 40) none (.fldA 2 (.tmp 6))), (.mk (some 41) none (.load true 1 (.tmp 40))), (.mk (some 42) none (.call 65 [(.tmp 38), (.tmp 39), (.tmp 41)])), (.mk (some 37) none (.mv (.tmp 42))), (.mk (some 43) none (.ext (.tmp 37) 0)), (.mk (some 44) none (.ext (.tmp 37) 1)), (.mk (some 12) none (.mv (.tmp 43))), (.mk (some 13) none (.mv (.tmp 44)))]
def r7_mail_recv : List AOper := [(.mk (some 45) none (.mv (.tmp 13))), (.mk (some 46) none (.bin .neq (.tmp 45) (.const (.int .i64 0))))]
def r8_mail_recv : List AOper := [(.mk (some 47) none (.load true 5 (.tmp 4))), (.mk (some 48) none (.mv (.tmp 13))), (.mk (some 49) none (.build [(.int .i64 0), (.int .u64 0), (.int .i64 0)] [(0, (1, (.tmp 48)))])), (.mk none none (.store 5 (.tmp 8) (.tmp 47))), (.mk none none (.store 3 (.tmp 9) (.tmp 49)))]
def k7_mail_recv : ACode := (.cond (.tmp 46) (.seq (.reg r8_mail_recv) .ret) .skip)
def r9_mail_recv : List AOper := [(.mk (some 51) none (.load true 5 (.tmp 4))), (.mk (some 52) none (.fldA 5 (.tmp 10))), (.mk (some 53) none (.load false 1 (.tmp 52))), (.mk (some 54) none (.bin .sub (.tmp 53) (.const (.int .i64 1)))), (.mk (some 55) none (.mv (.tmp 12))), (.mk (some 56) none (.fldA 3 (.tmp 4))), (.mk (some 57) none (.load false 1 (.tmp 56))), (.mk (some 58) none (.fldA 5 (.tmp 10))), (.mk (some 59) none (.load false 1 (.tmp 58))), (.mk (some 60) none (.bin .sub (.tmp 59) (.const (.int .i64 1)))), (.mk (some 61) none (.idxA 5 (.tmp 57) (.tmp 60))), (.mk (some 62) none (.fldA 0 (.tmp 61))), (.mk (some 63) none (.load true 4 (.tmp 62))), (.mk (some 64) none (.call 66 [(.tmp 51), (.tmp 54), (.tmp 55), (.tmp 63)])), (.mk (some 50) none (.mv (.tmp 64))), (.mk (some 65) none (.ext (.tmp 50) 0)), (.mk (some 66) none (.ext (.tmp 50) 1)), (.mk none none (.store 5 (.tmp 11) (.tmp 65))), (.mk (some 13) none (.mv (.tmp 66)))]
def r10_mail_recv : List AOper := [(.mk (some 67) none (.mv (.tmp 13))), (.mk (some 68) none (.bin .neq (.tmp 67) (.const (.int .i64 0))))]
def r11_mail_recv : List AOper := [(.mk (some 69) none (.load true 5 (.tmp 4))), (.mk (some 70) none (.mv (.tmp 13))), (.mk (some 71) none (.build [(.int .i64 0), (.int .u64 0), (.int .i64 0)] [(0, (1, (.tmp 70)))])), (.mk none none (.store 5 (.tmp 8) (.tmp 69))), (.mk none none (.store 3 (.tmp 9) (.tmp 71)))]
def k10_mail_recv : ACode := (.cond (.tmp 68) (.seq (.reg r11_mail_recv) .ret) .skip)
def k9_mail_recv : ACode := (.seq (.reg r10_mail_recv) k10_mail_recv)
def k8_mail_recv : ACode := (.seq (.drw r9_mail_recv [0, 0, 2, 6, 0, 0, 32, 0, 128, 384, 992, 2016, 4064, 8191, 16383, 32767, 32767, 65535, 262143]) k9_mail_recv)
def k6_mail_recv : ACode := (.seq (.seq (.reg r7_mail_recv) k7_mail_recv) k8_mail_recv)
def k5_mail_recv : ACode := (.cond (.tmp 36) (.seq (.reg r6_mail_recv) k6_mail_recv) .skip)
def r12_mail_recv : List AOper := [(.mk (some 72) none (.fldA 4 (.tmp 11))), (.mk (some 73) none (.load false 1 (.tmp 72))), (.mk (some 74) none (.fldA 1 (.tmp 7))), (.mk (some 75) none (.load false 1 (.tmp 74))), (.mk (some 76) none (.build [(.int .i64 0), (.int .i64 0), (.int .i64 0), (.int .i64 0), (.int .i64 0), (.int .i64 0), (.int .i64 0), (.bool false), (.int .u64 0), (.int .u64 0), (.int .u64 0), (.int .u64 0), (.int .u64 0)] [(0, (1, (.const (.int .i64 3))))])), (.mk (some 77) none (.idxA 13 (.tmp 73) (.tmp 75))), (.mk none none (.store 13 (.tmp 77) (.tmp 76)))]
def r13_mail_recv : List AOper := [(.mk (some 78) none (.load true 5 (.tmp 11))), (.mk (some 79) none (.fldA 8 (.tmp 10))), (.mk (some 80) none (.load false 1 (.tmp 79))), (.mk (some 81) none (.fldA 6 (.tmp 10))), (.mk (some 82) none (.load false 1 (.tmp 81))), (.mk (some 83) none (.build [(.int .i64 0), (.int .u64 0), (.int .i64 0)] [(1, (1, (.tmp 80))), (2, (1, (.tmp 82)))])), (.mk none none (.store 5 (.tmp 8) (.tmp 78))), (.mk none none (.store 3 (.tmp 9) (.tmp 83)))]
def k12_mail_recv : ACode := (.seq (.drw r13_mail_recv [0, 0, 2, 0, 8, 30, 1, 127]) .ret)
def k11_mail_recv : ACode := (.seq (.reg r12_mail_recv) k12_mail_recv)
def k4_mail_recv : ACode := (.seq (.seq (.reg r5_mail_recv) k5_mail_recv) k11_mail_recv)
def k3_mail_recv : ACode := (.seq (.reg r4_mail_recv) k4_mail_recv)
def k1_mail_recv : ACode := (.seq (.seq (.reg r2_mail_recv) k2_mail_recv) k3_mail_recv)
def k0_mail_recv : ACode := (.seq (.reg r1_mail_recv) k1_mail_recv)
def c_mail_recv : ACode := (.seq (.reg r0_mail_recv) k0_mail_recv)
theorem e_mail_recv : ofProg Try.prog 31 = some ⟨84, [(.cell 8 true 5), (.cell 9 true 3)], c_mail_recv⟩ := by kernel_rfl

def mailE : ThingD := ⟨3, 0, 0, 0, 0, 0, 0, false, 0, 0, 0, 0, 0⟩
def recvF (S : StD) (box : SlotD) : StD × Int × Int × Int := match atI S.th box.thing with
  | some t => if t.full then (setT S box.thing.toNat mailE, 0, t.word, t.badge) else (S, 14, 0, 0)
  | none => (S, 0, 0, 0)
theorem mail_recv_ok (d : Nat) (σ : AHeap) (S : StD) (b1 f1 b2 f2 : Nat) (thread X Y W : Int) (aA : Option Addr) (nA fA : Nat) (aB : Option Addr) (fB : Nat) (box : SlotD) (x : ThingD) (hlo : σ.low ≤ σ.n)
    (h1 : SlAt slotL 5 σ b1 S.sl) (h2 : SlAt thingL 13 σ b2 S.th) (hl : 0 < S.sl.length) (hm : S.sl.length < 1000) (hm2 : S.th.length < 1000) (hx0 : atI S.th box.thing = some x) :
    ∃ v τ, acall (ofProg Try.prog) 1000 (d + 3) 31 [stV S (some ⟨b1, 0, none⟩) f1 (some ⟨b2, 0, none⟩) f2, .int .i64 thread, callV 8 aA nA fA aB 0 fB X Y W, capV box] σ = some (.tuple [v, repV (recvF S box).2.1 (recvF S box).2.2.1 (recvF S box).2.2.2].toArray, τ) ∧ StOut σ b1 b2 (recvF S box).1 v τ := by
  suffices hs : Hai.Ends (acode (acall (ofProg Try.prog) 1000 (d + 2)) 1000 c_mail_recv (Tr.of [stV S (some ⟨b1, 0, none⟩) f1 (some ⟨b2, 0, none⟩) f2, .int .i64 thread, callV 8 aA nA fA aB 0 fB X Y W, capV box]) (σ.fresh.grow []))
      (finA σ.n [.cell 8 true 5, .cell 9 true 3] fun v τ => ∃ u, v = .tuple [u, repV (recvF S box).2.1 (recvF S box).2.2.1 (recvF S box).2.2.2].toArray ∧ StOut σ.fresh b1 b2 (recvF S box).1 u τ) by
    obtain ⟨v, τ', e, τ, ⟨u, rfl, a1', f1', a2', f2', rfl, g1, g2, g3, g4⟩, g⟩ := acall_addr e_mail_recv (by simp) hlo hs
    rcases g with ⟨g, _⟩ | rfl
    · cases g
    · exact ⟨_, _, e, _, _, _, _, rfl, g1, g2, g3.back, g4⟩
  have hp : 0 ≤ box.thing ∧ box.thing < S.th.length ∧ S.th[box.thing.toNat]? = some x := by
    unfold atI at hx0
    split at hx0
    · have := (List.getElem?_eq_some_iff.1 hx0).1; exact ⟨by assumption, by omega, hx0⟩
    · cases hx0
  obtain ⟨hp1, hp2, hx⟩ := hp
  have z0 : ((0 : Nat) : Int) = 0 := rfl
  have hld : ∀ L, (σ.fresh.grow L).loadN b2 (box.thing.toNat * 13) 13 = some (thingL x) := fun L => by
    have hb : SlAt thingL 13 σ.fresh b2 S.th := h2
    rw [load_old _ _ _ _ hb.1]; exact hb.2 _ _ hx 0 13 (by omega)
  cases c1 : x.full with
  | false =>
    have hs : recvF S box = (S, 14, 0, 0) := by unfold recvF; rw [hx0]; simp only [c1]; rfl
    simp (disch := omega) only [sl6_1, sl6_2, z0, hp1, hp2, hld, c1, hs, r0_mail_recv, r1_mail_recv, r2_mail_recv, r3_mail_recv, k2_mail_recv, r4_mail_recv, r5_mail_recv, r6_mail_recv, r7_mail_recv, r8_mail_recv, k7_mail_recv, r9_mail_recv, r10_mail_recv, r11_mail_recv, k10_mail_recv, k9_mail_recv, k8_mail_recv, k6_mail_recv, k5_mail_recv, r12_mail_recv, r13_mail_recv, k12_mail_recv, k11_mail_recv, k4_mail_recv, k3_mail_recv, k1_mail_recv, k0_mail_recv, c_mail_recv, Z0, Z1, Z2, Z3, Z4, Z5, Z6, Z7, Z8, Z9, Z10, resAll, Nat.reduceAdd, Nat.reduceEqDiff, Nat.reduceLeDiff, Nat.reduceMul, ↓reduceIte, reduceCtorEq, Nat.reduceBEq, aoper, Nat.reduceLT, Int.reduceEq, Int.reduceLT, Int.reduceLE]
    exact ⟨_, rfl, _, _, _, _, rfl, SlAt.keeps (σ := σ.fresh) h1 (Keeps.self _ _), SlAt.keeps (σ := σ.fresh) h2 (Keeps.self _ _), Keeps.self _ _, .inl rfl, .inl rfl⟩
  | true =>
    have hs : recvF S box = (setT S box.thing.toNat mailE, 0, x.word, x.badge) := by unfold recvF; rw [hx0]; simp only [c1, if_true]
    have hk0 := Keeps.self σ.fresh [(stL S (some ⟨b1, 0, none⟩) f1 (some ⟨b2, 0, none⟩) f2, 5), (callL 8 aA nA fA aB 0 fB X Y W, 6), (capL box, 4), ([.int .i64 0, .int .i64 0, .int .i64 0, .slice none 0 0, .slice none 0 0], 5), ([.int .i64 0, .int .u64 0, .int .i64 0], 3), ([i64 x.type, i64 x.bits, i64 x.base, i64 x.size, i64 x.used, i64 x.frm, i64 x.badge, .bool true, u64 x.word, u64 x.d0, u64 x.d1, u64 x.d2, u64 x.d3], 13)]
    obtain ⟨d1, d2, τ, e, k, p1, p2, p3, r1, r2⟩ := state_Clone_ok d _ S b1 f1 b2 f2 (low_grow fresh_le _) (SlAt.keeps (σ := σ.fresh) h1 hk0) (SlAt.keeps (σ := σ.fresh) h2 hk0) hl hm (by omega) hm2
    rw [← grow_nil τ] at e
    have hlow : τ.low = σ.fresh.n := by rw [k.low, grow_low]; rfl
    rw [grow_n] at p1
    simp only [List.length_cons, List.length_nil, Nat.reduceAdd] at p1
    have hlt : τ.low ≤ τ.n := by omega
    have q0 := fun M => (k.grow M).rows 0 rfl
    have q1 := fun M => (k.grow M).rows 1 rfl
    have q2 := fun M => (k.grow M).rows 2 rfl
    have q3 := fun M => (k.grow M).rows 3 rfl
    have q4 := fun M => (k.grow M).rows 4 rfl
    have q5 := fun M => (k.grow M).rows 5 rfl
    have q6 : ∀ M, (τ.grow M).t.get d2 = some (rowOf (flatL thingL S.th, 13)) := fun M => (grow_old _ _ p3).trans r2
    simp only [Nat.add_zero] at q0
    have l0 := fun M => load_sl (q0 M)
    have l1 := fun M => load_sl (q1 M)
    have l2 := fun M => load_sl (q2 M)
    have l3 := fun M => load_sl (q3 M)
    have l4 := fun M => load_sl (q4 M)
    have l5 := fun M => load_sl (q5 M)
    have w1 : σ.fresh.n ≤ d2 := by omega
    have w2 : box.thing.toNat * 13 + 13 ≤ (flatL thingL S.th).length := by
      rw [flatL_length (es := 13) (fun _ => rfl)]; omega
    have hkk := hk0.trans k
    simp (disch := omega) only [sl6_1, sl6_2, z0, hp1, hp2, hld, c1, hs, e, sto_0 hlt, l0, l1, l2, l3, l4, l5, st_gen, rowSt_row, putM_R, putR_low, putR_load, putR_loadF, putR_get, putR_far, hlow, q6, Nat.le_refl, Nat.le_add_right, eq_true w1, w2, sl6_0, sl6_5, Int.toNat_natCast, r0_mail_recv, r1_mail_recv, r2_mail_recv, r3_mail_recv, k2_mail_recv, r4_mail_recv, r5_mail_recv, r6_mail_recv, r7_mail_recv, r8_mail_recv, k7_mail_recv, r9_mail_recv, r10_mail_recv, r11_mail_recv, k10_mail_recv, k9_mail_recv, k8_mail_recv, k6_mail_recv, k5_mail_recv, r12_mail_recv, r13_mail_recv, k12_mail_recv, k11_mail_recv, k4_mail_recv, k3_mail_recv, k1_mail_recv, k0_mail_recv, c_mail_recv, Z0, Z1, Z2, Z3, Z4, Z5, Z6, Z7, Z8, Z9, Z10, resAll, Nat.reduceAdd, Nat.reduceEqDiff, Nat.reduceLeDiff, Nat.reduceMul, ↓reduceIte, reduceCtorEq, Nat.reduceBEq, aoper, Nat.reduceLT, Int.reduceEq, Int.reduceLT, Int.reduceLE]
    refine ends_drwK [(1, 6), (2, 6), (3, 6), (4, 6), (5, 6)] (by kernel_rfl) ?_
    have w4 : ∀ M, okLow (τ.grow M) = true := fun M => okLow_of (low_grow hlt M)
    have w5 : ∀ M, inN (σ.fresh.n + 5) (τ.grow M) = true := fun M => inN_of (by rw [grow_n]; omega)
    have w6 : ∀ M, inN (σ.fresh.n + 3) (τ.grow M) = true := fun M => inN_of (by rw [grow_n]; omega)
    have w7 : ∀ M, inN (σ.fresh.n + 4) (τ.grow M) = true := fun M => inN_of (by rw [grow_n]; omega)
    have w8 : ∀ r M, inN τ.n (τ.grow (r :: M)) = true := fun r M => inN_of (by rw [grow_n]; simp)
    have g0 : ∀ r M, (τ.grow (r :: M)).t.get τ.n = some (rowOf r) := fun r M => grow_new τ _ 0 rfl
    simp (disch := omega) only [k_1, k_nil, kontK_if, kontK_sti, okLow_put, inN_put, w4, w5, w6, w7, w8, g0, kd_load, kd_fldA, kd_build, ldKind_if, famK_row, stKind_here, rowKind_row, setLow_load, setLow_get, consK_app, drwQ_app, drawOk_cons, drawOk_nil, pair_pe, pair_le, List.getElem?_cons_succ, List.getElem?_cons_zero, q3, q4, q5, l0, l1, l2, l3, l4, l5, st_gen, rowSt_row, putR_low, putR_load, putR_loadF, putR_get, putR_far, hlow, q6, Nat.le_refl, Nat.le_add_right, eq_true w1, r0_mail_recv, r1_mail_recv, r2_mail_recv, r3_mail_recv, k2_mail_recv, r4_mail_recv, r5_mail_recv, r6_mail_recv, r7_mail_recv, r8_mail_recv, k7_mail_recv, r9_mail_recv, r10_mail_recv, r11_mail_recv, k10_mail_recv, k9_mail_recv, k8_mail_recv, k6_mail_recv, k5_mail_recv, r12_mail_recv, r13_mail_recv, k12_mail_recv, k11_mail_recv, k4_mail_recv, k3_mail_recv, k1_mail_recv, k0_mail_recv, c_mail_recv, Z0, Z1, Z2, Z3, Z4, Z5, Z6, Z7, Z8, Z9, Z10, resAll, Nat.reduceAdd, Nat.reduceEqDiff, Nat.reduceLeDiff, Nat.reduceMul, ↓reduceIte, reduceCtorEq, Nat.reduceBEq, aoper, Nat.reduceLT, Int.reduceEq, Int.reduceLT, Int.reduceLE]
    have hset := flatL_set (cells := thingL) (es := 13) (fun _ => rfl) mailE S.th box.thing.toNat (by omega)
    refine ⟨⟨_, rfl, d1, 1, d2, 1, ?_, ?_, ?_, ?_, .inr (by omega), .inr (by omega)⟩, rfl⟩
    · simp only [stV, stL, setT, List.length_set]
    · refine SlAt_row (cells := slotL) (es := 5) (fun _ => rfl) ?_ ?_
      · rw [putR_n, putR_n, putR_n, grow_n]; omega
      rw [putR_far (by omega), putR_far (by omega), putR_far (by omega), grow_old _ _ (by omega), r1]; rfl
    · refine SlAt_row (cells := thingL) (es := 13) (fun _ => rfl) ?_ ?_
      · rw [putR_n, putR_n, putR_n, grow_n]; omega
      rw [putR_far (by omega), putR_far (by omega), putR_get]
      exact congrArg (fun l => some (rowOf (l, 13))) hset
    · exact (((hkk.grow _).putR w1 _ _).putR (by omega) _ _).putR (by omega) _ _
end Go.Proofs.Ytidmcpkbcphpiaa
namespace Go.Proofs.Ytidmcpkbcphpiaa
open Go Go.Hai
set_option maxRecDepth 20000
set_option linter.unusedSimpArgs false
set_option maxHeartbeats 8000000
attribute [local irreducible] Hai.Ends EndsR EndsO EndsD EndsX EndsE EndsK AHeap.grow AHeap.putR okLow inN
def r0_mail_Do : List AOper := [(.mk (some 3) none (.box 5 (.tmp 0))), (.mk (some 5) none (.box 6 (.tmp 2))), (.mk (some 6) none (.alloc [(.int .i64 0), (.int .i64 0), (.int .i64 0), (.slice none 0 0), (.slice none 0 0)] 5)), (.mk (some 7) none (.alloc [(.int .i64 0), (.int .u64 0), (.int .i64 0)] 3))]
def r1_mail_Do : List AOper := [(.mk (some 12) none (.load true 6 (.tmp 5))), (.mk (some 13) none (.call 27 [(.tmp 12)])), (.mk (some 14) none (.un .not (.tmp 13))), (.mk (some 15) none (.mv (.tmp 14))), (.mk (some 16) (some (15, false)) (.fldA 0 (.tmp 5))), (.mk (some 17) (some (15, false)) (.load false 1 (.tmp 16))), (.mk (some 18) (some (15, false)) (.bin .neq (.tmp 17) (.const (.int .i64 7)))), (.mk (some 19) (some (15, false)) (.mv (.tmp 18))), (.mk (some 20) (some (19, true)) (.fldA 0 (.tmp 5))), (.mk (some 21) (some (19, true)) (.load false 1 (.tmp 20))), (.mk (some 22) (some (19, true)) (.bin .neq (.tmp 21) (.const (.int .i64 8)))), (.mk (some 23) (some (15, false)) (.pick (.tmp 19) (.tmp 22) (.const (.bool false)))), (.mk (some 24) none (.pick (.tmp 15) (.const (.bool true)) (.tmp 23)))]
def r2_mail_Do : List AOper := [(.mk (some 25) none (.load true 5 (.tmp 3))), (.mk (some 26) none (.build [(.int .i64 0), (.int .u64 0), (.int .i64 0)] [(0, (1, (.const (.int .i64 1))))])), (.mk none none (.store 5 (.tmp 6) (.tmp 25))), (.mk none none (.store 3 (.tmp 7) (.tmp 26)))]
def k1_mail_Do : ACode := (.cond (.tmp 24) (.seq (.reg r2_mail_Do) .ret) .skip)
def r3_mail_Do : List AOper := [(.mk (some 28) none (.load true 5 (.tmp 3))), (.mk (some 29) none (.mv (.tmp 1))), (.mk (some 30) none (.fldA 1 (.tmp 5))), (.mk (some 31) none (.load true 1 (.tmp 30))), (.mk (some 32) none (.call 28 [(.tmp 28), (.tmp 29), (.tmp 31)])), (.mk (some 27) none (.mv (.tmp 32))), (.mk (some 33) none (.ext (.tmp 27) 0)), (.mk (some 34) none (.ext (.tmp 27) 1)), (.mk (some 35) none (.ext (.tmp 27) 2)), (.mk (some 9) none (.alloc [(.int .i64 0), (.int .i64 0), (.int .i64 0), (.int .i64 0)] 4)), (.mk (some 8) none (.mv (.tmp 33))), (.mk none none (.store 4 (.tmp 9) (.tmp 34))), (.mk (some 10) none (.mv (.tmp 35)))]
def r4_mail_Do : List AOper := [(.mk (some 11) none (.mv (.const (.int .i64 2))))]
def r5_mail_Do : List AOper := [(.mk (some 36) none (.fldA 0 (.tmp 5))), (.mk (some 37) none (.load false 1 (.tmp 36))), (.mk (some 38) none (.bin .eql (.tmp 37) (.const (.int .i64 8))))]
def r6_mail_Do : List AOper := [(.mk (some 11) none (.mv (.const (.int .i64 1))))]
def k5_mail_Do : ACode := (.cond (.tmp 38) (.reg r6_mail_Do) .skip)
def r7_mail_Do : List AOper := [(.mk (some 40) none (.mv (.tmp 10))), (.mk (some 41) none (.bin .neq (.tmp 40) (.const (.int .i64 0)))), (.mk (some 39) none (.mv (.tmp 41)))]
def r8_mail_Do : List AOper := [(.mk (some 42) none (.load true 5 (.tmp 3))), (.mk (some 43) none (.mv (.tmp 10))), (.mk (some 44) none (.build [(.int .i64 0), (.int .u64 0), (.int .i64 0)] [(0, (1, (.tmp 43)))])), (.mk none none (.store 5 (.tmp 6) (.tmp 42))), (.mk none none (.store 3 (.tmp 7) (.tmp 44)))]
def r9_mail_Do : List AOper := [(.mk (some 46) none (.fldA 0 (.tmp 9))), (.mk (some 47) none (.load false 1 (.tmp 46))), (.mk (some 48) none (.bin .neq (.tmp 47) (.const (.int .i64 3)))), (.mk (some 45) none (.mv (.tmp 48)))]
def r10_mail_Do : List AOper := [(.mk (some 49) none (.load true 5 (.tmp 3))), (.mk (some 50) none (.build [(.int .i64 0), (.int .u64 0), (.int .i64 0)] [(0, (1, (.const (.int .i64 7))))])), (.mk none none (.store 5 (.tmp 6) (.tmp 49))), (.mk none none (.store 3 (.tmp 7) (.tmp 50)))]
def r11_mail_Do : List AOper := [(.mk (some 52) none (.mv (.tmp 11))), (.mk (some 53) none (.fldA 2 (.tmp 9))), (.mk (some 54) none (.load false 1 (.tmp 53))), (.mk (some 55) none (.call 29 [(.tmp 52), (.tmp 54)])), (.mk (some 56) none (.un .not (.tmp 55))), (.mk (some 51) none (.mv (.tmp 56)))]
def r12_mail_Do : List AOper := [(.mk (some 57) none (.load true 5 (.tmp 3))), (.mk (some 58) none (.build [(.int .i64 0), (.int .u64 0), (.int .i64 0)] [(0, (1, (.const (.int .i64 6))))])), (.mk none none (.store 5 (.tmp 6) (.tmp 57))), (.mk none none (.store 3 (.tmp 7) (.tmp 58)))]
def k9_mail_Do : ACode := (.cond (.tmp 51) (.seq (.reg r12_mail_Do) .ret) .skip)
def k8_mail_Do : ACode := (.cond (.tmp 45) (.seq (.reg r10_mail_Do) .ret) (.seq (.reg r11_mail_Do) k9_mail_Do))
def k7_mail_Do : ACode := (.cond (.tmp 39) (.seq (.reg r8_mail_Do) .ret) (.seq (.reg r9_mail_Do) k8_mail_Do))
def r13_mail_Do : List AOper := [(.mk (some 59) none (.fldA 0 (.tmp 5))), (.mk (some 60) none (.load false 1 (.tmp 59))), (.mk (some 61) none (.bin .eql (.tmp 60) (.const (.int .i64 7))))]
def r14_mail_Do : List AOper := [(.mk (some 62) none (.load true 5 (.tmp 3))), (.mk (some 63) none (.mv (.tmp 1))), (.mk (some 64) none (.load true 6 (.tmp 5))), (.mk (some 65) none (.load true 4 (.tmp 9))), (.mk (some 66) none (.call 30 [(.tmp 62), (.tmp 63), (.tmp 64), (.tmp 65)])), (.mk (some 67) none (.ext (.tmp 66) 0)), (.mk (some 68) none (.ext (.tmp 66) 1)), (.mk none none (.store 5 (.tmp 6) (.tmp 67))), (.mk none none (.store 3 (.tmp 7) (.tmp 68)))]
def k11_mail_Do : ACode := (.cond (.tmp 61) (.seq (.reg r14_mail_Do) .ret) .skip)
def r15_mail_Do : List AOper := [(.mk (some 69) none (.load true 5 (.tmp 3))), (.mk (some 70) none (.mv (.tmp 1))), (.mk (some 71) none (.load true 6 (.tmp 5))), (.mk (some 72) none (.load true 4 (.tmp 9))), (.mk (some 73) none (.call 31 [(.tmp 69), (.tmp 70), (.tmp 71), (.tmp 72)])), (.mk (some 74) none (.ext (.tmp 73) 0)), (.mk (some 75) none (.ext (.tmp 73) 1)), (.mk none none (.store 5 (.tmp 6) (.tmp 74))), (.mk none none (.store 3 (.tmp 7) (.tmp 75)))]
def k12_mail_Do : ACode := (.seq (.reg r15_mail_Do) .ret)
def k10_mail_Do : ACode := (.seq (.seq (.reg r13_mail_Do) k11_mail_Do) k12_mail_Do)
def k6_mail_Do : ACode := (.seq (.block 0 (.seq (.reg r7_mail_Do) k7_mail_Do)) k10_mail_Do)
def k4_mail_Do : ACode := (.seq (.seq (.reg r5_mail_Do) k5_mail_Do) k6_mail_Do)
def k3_mail_Do : ACode := (.seq (.reg r4_mail_Do) k4_mail_Do)
def k2_mail_Do : ACode := (.seq (.reg r3_mail_Do) k3_mail_Do)
def k0_mail_Do : ACode := (.seq (.seq (.reg r1_mail_Do) k1_mail_Do) k2_mail_Do)
def c_mail_Do : ACode := (.seq (.reg r0_mail_Do) k0_mail_Do)
theorem e_mail_Do : ofProg Try.prog 10 = some ⟨76, [(.cell 6 true 5), (.cell 7 true 3)], c_mail_Do⟩ := by kernel_rfl

theorem capF_in {S : StD} (hg : goodB S = true) {thread : Int} {l : List Int} (h : (capF S thread l).2.2 = 0) : ∃ x t, (capF S thread l).2.1 = x ∧ capNone x = false ∧ atI S.sl (capF S thread l).1 = some x ∧ atI S.th x.thing = some t ∧ t.type = x.type ∧ t.type ≠ 0 := by
  unfold capF at h ⊢
  split at h
  · next c1 =>
    rw [if_pos c1]
    obtain ⟨q1, q2⟩ := slotF_in c1
    obtain ⟨x, x1, x2⟩ := atI_some q1 q2
    have hsa : slotAt S (slotF S thread l).1 = x := by unfold slotAt; rw [x1]
    rw [hsa] at h ⊢
    cases c2 : capNone x with
    | true => rw [c2] at h; simp at h
    | false =>
      have hc : capsB S = true := by unfold goodB at hg; simp only [Bool.and_eq_true] at hg; exact hg.1.1.1.1.1.2
      have hx := all_get hc x2
      unfold slotB at hx
      rw [c2] at hx
      simp only [Bool.and_eq_true, Bool.false_or, Bool.not_false, Bool.true_and] at hx
      have hx' := hx.2
      split at hx'
      · next t ht =>
        simp only [Bool.and_eq_true, Bool.not_eq_true', decide_eq_false_iff_not, decide_eq_true_eq] at hx'
        exact ⟨x, t, by simp, by rw [c2], by simpa using x1, ht, hx'.2, hx'.1⟩
      · cases hx'
  · next c1 => simp at h; exact absurd h c1
theorem good_len {S : StD} (hg : goodB S = true) : 0 < S.sl.length ∧ S.sl.length < 1000 ∧ 0 < S.th.length ∧ S.th.length < 1000 := by
  unfold goodB at hg
  simp only [Bool.and_eq_true, decide_eq_true_eq] at hg
  obtain ⟨⟨⟨⟨⟨⟨⟨⟨hgeo, hs⟩, ht⟩, _⟩, _⟩, _⟩, _⟩, _⟩, _⟩ := hg
  unfold goodGeo at hgeo
  omega
def do7F (S : StD) (thread : Int) (l : List Int) (W : Int) : StD × Int :=
  if pathB l = true then
    (if (capF S thread l).2.2 = 0 then (if (capF S thread l).2.1.type = 3 then (if withinB 2 (capF S thread l).2.1.rights = true then sendF S (capF S thread l).2.1 W else (S, 6)) else (S, 7)) else (S, (capF S thread l).2.2))
  else (S, 1)
def do8F (S : StD) (thread : Int) (l : List Int) : StD × Int × Int × Int :=
  if pathB l = true then
    (if (capF S thread l).2.2 = 0 then (if (capF S thread l).2.1.type = 3 then (if withinB 1 (capF S thread l).2.1.rights = true then recvF S (capF S thread l).2.1 else (S, 6, 0, 0)) else (S, 7, 0, 0)) else (S, (capF S thread l).2.2, 0, 0))
  else (S, 1, 0, 0)
theorem mail_Do7_ok (d : Nat) (σ : AHeap) (S : StD) (b1 f1 b2 f2 : Nat) (thread W : Int) (l : List Int) (aA : Option Addr) (fA : Nat) (aB : Option Addr) (fB : Nat) (hg : goodB S = true) (hd : σ.dead = []) (hlo : σ.low ≤ σ.n)
    (h1 : SlAt slotL 5 σ b1 S.sl) (h2 : SlAt thingL 13 σ b2 S.th) (h3 : SlI σ aA l) :
    ∃ v τ, acall (ofProg Try.prog) 1000 (d + S.th.length + 11) 10 [stV S (some ⟨b1, 0, none⟩) f1 (some ⟨b2, 0, none⟩) f2, .int .i64 thread, callV 7 aA l.length fA aB 0 fB 0 0 W] σ = some (.tuple [v, repV (do7F S thread l W).2 0 0].toArray, τ) ∧ StOut σ b1 b2 (do7F S thread l W).1 v τ := by
  suffices hs : Hai.Ends (acode (acall (ofProg Try.prog) 1000 (d + S.th.length + 10)) 1000 c_mail_Do (Tr.of [stV S (some ⟨b1, 0, none⟩) f1 (some ⟨b2, 0, none⟩) f2, .int .i64 thread, callV 7 aA l.length fA aB 0 fB 0 0 W]) (σ.fresh.grow []))
      (finA σ.n [.cell 6 true 5, .cell 7 true 3] fun v τ => ∃ u, v = .tuple [u, repV (do7F S thread l W).2 0 0].toArray ∧ StOut σ.fresh b1 b2 (do7F S thread l W).1 u τ) by
    obtain ⟨v, τ', e, τ, ⟨u, rfl, a1', f1', a2', f2', rfl, g1, g2, g3, g4⟩, g⟩ := acall_addr e_mail_Do (by simp) hlo hs
    rcases g with ⟨g, _⟩ | rfl
    · cases g
    · exact ⟨_, _, e, _, _, _, _, rfl, g1, g2, g3.back, g4⟩
  obtain ⟨n1, n2, n3, n4⟩ := good_len hg
  have z0 : ((0 : Nat) : Int) = 0 := rfl
  have g1 : SlS σ (some ⟨b1, 0, none⟩) S.sl := .inr ⟨b1, rfl, h1⟩
  have g2 : SlT σ (some ⟨b2, 0, none⟩) S.th := .inr ⟨b2, rfl, h2⟩
  have hG := fun L => callGood7_ok (d + S.th.length + 4) (σ.fresh.grow L) l 0 0 W aA fA aB fB (h3.fresh.grow L)
  have hcap := fun L => find_Cap_ok d (σ.fresh.grow L) S (some ⟨b1, 0, none⟩) f1 (some ⟨b2, 0, none⟩) f2 thread l aA fA (by rw [grow_dead]; exact hd) (g1.fresh.grow L) (g2.fresh.grow L) (h3.fresh.grow L)
  have hwit := right_Within_ok (d + S.th.length + 6)
  have fin : ∀ L, StOut σ.fresh b1 b2 S (stV S (some ⟨b1, 0, none⟩) f1 (some ⟨b2, 0, none⟩) f2) (σ.fresh.grow L) := fun L => ⟨_, _, _, _, rfl, SlAt.keeps (σ := σ.fresh) h1 (Keeps.self _ _), SlAt.keeps (σ := σ.fresh) h2 (Keeps.self _ _), Keeps.self _ _, .inl rfl, .inl rfl⟩
  simp only [decide_true, Bool.and_true] at hG
  cases c1 : pathB l with
  | false =>
    have hs : do7F S thread l W = (S, 1) := by unfold do7F; rw [c1]; rfl
    simp (disch := omega) only [sl6_all, sl6_0, sl6_1, hG, c1, hs, r0_mail_Do, r1_mail_Do, r2_mail_Do, k1_mail_Do, r3_mail_Do, r4_mail_Do, r5_mail_Do, r6_mail_Do, k5_mail_Do, r7_mail_Do, r8_mail_Do, r9_mail_Do, r10_mail_Do, r11_mail_Do, r12_mail_Do, k9_mail_Do, k8_mail_Do, k7_mail_Do, r13_mail_Do, r14_mail_Do, k11_mail_Do, r15_mail_Do, k12_mail_Do, k10_mail_Do, k6_mail_Do, k4_mail_Do, k3_mail_Do, k2_mail_Do, k0_mail_Do, c_mail_Do, Z0, Z1, Z2, Z3, Z4, Z5, Z6, Z7, Z8, Z9, Z10, resAll, Nat.reduceAdd, Nat.reduceEqDiff, Nat.reduceLeDiff, Nat.reduceMul, ↓reduceIte, reduceCtorEq, Nat.reduceBEq, aoper, Nat.reduceLT, Int.reduceEq, Int.reduceLT, Int.reduceLE]
    exact ⟨_, rfl, fin _⟩
  | true =>
    by_cases c2 : (capF S thread l).2.2 = 0
    · obtain ⟨x, t, e1, e2, e3, e4, e5, e6⟩ := capF_in hg c2
      by_cases c3 : x.type = 3
      · cases c4 : withinB 2 x.rights with
        | false =>
          have hs : do7F S thread l W = (S, 6) := by unfold do7F; rw [c1, if_pos rfl, if_pos c2, e1, if_pos c3, c4]; rfl
          simp (disch := omega) only [sl6_all, sl6_0, sl6_1, hG, c1, hs, hcap, e1, eq_true c2, c3, hwit, c4, r0_mail_Do, r1_mail_Do, r2_mail_Do, k1_mail_Do, r3_mail_Do, r4_mail_Do, r5_mail_Do, r6_mail_Do, k5_mail_Do, r7_mail_Do, r8_mail_Do, r9_mail_Do, r10_mail_Do, r11_mail_Do, r12_mail_Do, k9_mail_Do, k8_mail_Do, k7_mail_Do, r13_mail_Do, r14_mail_Do, k11_mail_Do, r15_mail_Do, k12_mail_Do, k10_mail_Do, k6_mail_Do, k4_mail_Do, k3_mail_Do, k2_mail_Do, k0_mail_Do, c_mail_Do, Z0, Z1, Z2, Z3, Z4, Z5, Z6, Z7, Z8, Z9, Z10, resAll, Nat.reduceAdd, Nat.reduceEqDiff, Nat.reduceLeDiff, Nat.reduceMul, ↓reduceIte, reduceCtorEq, Nat.reduceBEq, aoper, Nat.reduceLT, Int.reduceEq, Int.reduceLT, Int.reduceLE]
          exact ⟨_, rfl, fin _⟩
        | true =>
          have hs : do7F S thread l W = sendF S x W := by unfold do7F; rw [c1, if_pos rfl, if_pos c2, e1, if_pos c3, c4]; rfl
          obtain ⟨xt, xg, xr, xb, xu⟩ := x
          simp only at c3
          subst c3
          have hk0 := Keeps.self σ.fresh [(stL S (some ⟨b1, 0, none⟩) f1 (some ⟨b2, 0, none⟩) f2, 5), (callL 7 aA l.length fA aB 0 fB 0 0 W, 6), ([.int .i64 0, .int .i64 0, .int .i64 0, .slice none 0 0, .slice none 0 0], 5), ([.int .i64 0, .int .u64 0, .int .i64 0], 3), ([i64 3, i64 xg, i64 xr, i64 xb], 4)]
          obtain ⟨v, τ, e, k⟩ := mail_send_ok (d + S.th.length + 7) _ S b1 f1 b2 f2 thread 0 0 W aA l.length fA aB fB ⟨3, xg, xr, xb, xu⟩ t (low_grow fresh_le _) (SlAt.keeps (σ := σ.fresh) h1 hk0) (SlAt.keeps (σ := σ.fresh) h2 hk0) n1 n2 n4 e4
          obtain ⟨d1, g1', d2, g2', rfl, k1, k2, k, k3, k4⟩ := k
          rw [grow_n] at k3 k4
          simp only [List.length_cons, List.length_nil, Nat.reduceAdd] at k3 k4
          have q0 := k.rows 0 rfl
          have q1 := k.rows 1 rfl
          have q2 := k.rows 2 rfl
          have q3 := k.rows 3 rfl
          have q4 := k.rows 4 rfl
          have hlow : τ.low = σ.fresh.n := by rw [k.low, grow_low]; rfl
          have l2 := load_sl q2
          have l3 := load_sl q3
          have hkk := hk0.trans k
          simp (disch := omega) only [sl6_all, sl6_0, sl6_1, hG, c1, hs, hcap, e1, eq_true c2, hwit, c4, e, repL, st_gen, rowSt_row, putM_R, putR_low, putR_load, putR_loadF, putR_get, putR_far, hlow, q0, q1, q2, q3, q4, l2, l3, Nat.le_refl, Nat.le_add_right, r0_mail_Do, r1_mail_Do, r2_mail_Do, k1_mail_Do, r3_mail_Do, r4_mail_Do, r5_mail_Do, r6_mail_Do, k5_mail_Do, r7_mail_Do, r8_mail_Do, r9_mail_Do, r10_mail_Do, r11_mail_Do, r12_mail_Do, k9_mail_Do, k8_mail_Do, k7_mail_Do, r13_mail_Do, r14_mail_Do, k11_mail_Do, r15_mail_Do, k12_mail_Do, k10_mail_Do, k6_mail_Do, k4_mail_Do, k3_mail_Do, k2_mail_Do, k0_mail_Do, c_mail_Do, Z0, Z1, Z2, Z3, Z4, Z5, Z6, Z7, Z8, Z9, Z10, resAll, Nat.reduceAdd, Nat.reduceEqDiff, Nat.reduceLeDiff, Nat.reduceMul, ↓reduceIte, reduceCtorEq, Nat.reduceBEq, aoper, Nat.reduceLT, Int.reduceEq, Int.reduceLT, Int.reduceLE]
          have hb1 : b1 < σ.fresh.n := h1.1
          have hb2 : b2 < σ.fresh.n := h2.1
          exact ⟨⟨_, rfl, _, _, _, _, rfl, (k1.putR (by omega)).putR (by omega), (k2.putR (by omega)).putR (by omega), (hkk.putR (by omega) _ _).putR (by omega) _ _, k3.imp id (by omega), k4.imp id (by omega)⟩, rfl⟩
      · have hs : do7F S thread l W = (S, 7) := by unfold do7F; rw [c1, if_pos rfl, if_pos c2, e1, if_neg c3]
        simp (disch := omega) only [sl6_all, sl6_0, sl6_1, hG, c1, hs, hcap, e1, eq_true c2, c3, r0_mail_Do, r1_mail_Do, r2_mail_Do, k1_mail_Do, r3_mail_Do, r4_mail_Do, r5_mail_Do, r6_mail_Do, k5_mail_Do, r7_mail_Do, r8_mail_Do, r9_mail_Do, r10_mail_Do, r11_mail_Do, r12_mail_Do, k9_mail_Do, k8_mail_Do, k7_mail_Do, r13_mail_Do, r14_mail_Do, k11_mail_Do, r15_mail_Do, k12_mail_Do, k10_mail_Do, k6_mail_Do, k4_mail_Do, k3_mail_Do, k2_mail_Do, k0_mail_Do, c_mail_Do, Z0, Z1, Z2, Z3, Z4, Z5, Z6, Z7, Z8, Z9, Z10, resAll, Nat.reduceAdd, Nat.reduceEqDiff, Nat.reduceLeDiff, Nat.reduceMul, ↓reduceIte, reduceCtorEq, Nat.reduceBEq, aoper, Nat.reduceLT, Int.reduceEq, Int.reduceLT, Int.reduceLE]
        exact ⟨_, rfl, fin _⟩
    · have hs : do7F S thread l W = (S, (capF S thread l).2.2) := by unfold do7F; rw [c1, if_pos rfl, if_neg c2]
      simp (disch := omega) only [sl6_all, sl6_0, sl6_1, hG, c1, hs, hcap, c2, r0_mail_Do, r1_mail_Do, r2_mail_Do, k1_mail_Do, r3_mail_Do, r4_mail_Do, r5_mail_Do, r6_mail_Do, k5_mail_Do, r7_mail_Do, r8_mail_Do, r9_mail_Do, r10_mail_Do, r11_mail_Do, r12_mail_Do, k9_mail_Do, k8_mail_Do, k7_mail_Do, r13_mail_Do, r14_mail_Do, k11_mail_Do, r15_mail_Do, k12_mail_Do, k10_mail_Do, k6_mail_Do, k4_mail_Do, k3_mail_Do, k2_mail_Do, k0_mail_Do, c_mail_Do, Z0, Z1, Z2, Z3, Z4, Z5, Z6, Z7, Z8, Z9, Z10, resAll, Nat.reduceAdd, Nat.reduceEqDiff, Nat.reduceLeDiff, Nat.reduceMul, ↓reduceIte, reduceCtorEq, Nat.reduceBEq, aoper, Nat.reduceLT, Int.reduceEq, Int.reduceLT, Int.reduceLE]
      exact ⟨_, rfl, fin _⟩
theorem mail_Do8_ok (d : Nat) (σ : AHeap) (S : StD) (b1 f1 b2 f2 : Nat) (thread : Int) (l : List Int) (aA : Option Addr) (fA : Nat) (aB : Option Addr) (fB : Nat) (hg : goodB S = true) (hd : σ.dead = []) (hlo : σ.low ≤ σ.n)
    (h1 : SlAt slotL 5 σ b1 S.sl) (h2 : SlAt thingL 13 σ b2 S.th) (h3 : SlI σ aA l) :
    ∃ v τ, acall (ofProg Try.prog) 1000 (d + S.th.length + 11) 10 [stV S (some ⟨b1, 0, none⟩) f1 (some ⟨b2, 0, none⟩) f2, .int .i64 thread, callV 8 aA l.length fA aB 0 fB 0 0 0] σ = some (.tuple [v, repV (do8F S thread l).2.1 (do8F S thread l).2.2.1 (do8F S thread l).2.2.2].toArray, τ) ∧ StOut σ b1 b2 (do8F S thread l).1 v τ := by
  suffices hs : Hai.Ends (acode (acall (ofProg Try.prog) 1000 (d + S.th.length + 10)) 1000 c_mail_Do (Tr.of [stV S (some ⟨b1, 0, none⟩) f1 (some ⟨b2, 0, none⟩) f2, .int .i64 thread, callV 8 aA l.length fA aB 0 fB 0 0 0]) (σ.fresh.grow []))
      (finA σ.n [.cell 6 true 5, .cell 7 true 3] fun v τ => ∃ u, v = .tuple [u, repV (do8F S thread l).2.1 (do8F S thread l).2.2.1 (do8F S thread l).2.2.2].toArray ∧ StOut σ.fresh b1 b2 (do8F S thread l).1 u τ) by
    obtain ⟨v, τ', e, τ, ⟨u, rfl, a1', f1', a2', f2', rfl, g1, g2, g3, g4⟩, g⟩ := acall_addr e_mail_Do (by simp) hlo hs
    rcases g with ⟨g, _⟩ | rfl
    · cases g
    · exact ⟨_, _, e, _, _, _, _, rfl, g1, g2, g3.back, g4⟩
  obtain ⟨n1, n2, n3, n4⟩ := good_len hg
  have z0 : ((0 : Nat) : Int) = 0 := rfl
  have g1 : SlS σ (some ⟨b1, 0, none⟩) S.sl := .inr ⟨b1, rfl, h1⟩
  have g2 : SlT σ (some ⟨b2, 0, none⟩) S.th := .inr ⟨b2, rfl, h2⟩
  have hG := fun L => callGood8_ok (d + S.th.length + 4) (σ.fresh.grow L) l aA fA aB fB (h3.fresh.grow L)
  have hcap := fun L => find_Cap_ok d (σ.fresh.grow L) S (some ⟨b1, 0, none⟩) f1 (some ⟨b2, 0, none⟩) f2 thread l aA fA (by rw [grow_dead]; exact hd) (g1.fresh.grow L) (g2.fresh.grow L) (h3.fresh.grow L)
  have hwit := right_Within_ok (d + S.th.length + 6)
  have fin : ∀ L, StOut σ.fresh b1 b2 S (stV S (some ⟨b1, 0, none⟩) f1 (some ⟨b2, 0, none⟩) f2) (σ.fresh.grow L) := fun L => ⟨_, _, _, _, rfl, SlAt.keeps (σ := σ.fresh) h1 (Keeps.self _ _), SlAt.keeps (σ := σ.fresh) h2 (Keeps.self _ _), Keeps.self _ _, .inl rfl, .inl rfl⟩
  cases c1 : pathB l with
  | false =>
    have hs : do8F S thread l = (S, 1, 0, 0) := by unfold do8F; rw [c1]; rfl
    simp (disch := omega) only [sl6_all, sl6_0, sl6_1, hG, c1, hs, r0_mail_Do, r1_mail_Do, r2_mail_Do, k1_mail_Do, r3_mail_Do, r4_mail_Do, r5_mail_Do, r6_mail_Do, k5_mail_Do, r7_mail_Do, r8_mail_Do, r9_mail_Do, r10_mail_Do, r11_mail_Do, r12_mail_Do, k9_mail_Do, k8_mail_Do, k7_mail_Do, r13_mail_Do, r14_mail_Do, k11_mail_Do, r15_mail_Do, k12_mail_Do, k10_mail_Do, k6_mail_Do, k4_mail_Do, k3_mail_Do, k2_mail_Do, k0_mail_Do, c_mail_Do, Z0, Z1, Z2, Z3, Z4, Z5, Z6, Z7, Z8, Z9, Z10, resAll, Nat.reduceAdd, Nat.reduceEqDiff, Nat.reduceLeDiff, Nat.reduceMul, ↓reduceIte, reduceCtorEq, Nat.reduceBEq, aoper, Nat.reduceLT, Int.reduceEq, Int.reduceLT, Int.reduceLE]
    exact ⟨_, rfl, fin _⟩
  | true =>
    by_cases c2 : (capF S thread l).2.2 = 0
    · obtain ⟨x, t, e1, e2, e3, e4, e5, e6⟩ := capF_in hg c2
      by_cases c3 : x.type = 3
      · cases c4 : withinB 1 x.rights with
        | false =>
          have hs : do8F S thread l = (S, 6, 0, 0) := by unfold do8F; rw [c1, if_pos rfl, if_pos c2, e1, if_pos c3, c4]; rfl
          simp (disch := omega) only [sl6_all, sl6_0, sl6_1, hG, c1, hs, hcap, e1, eq_true c2, c3, hwit, c4, r0_mail_Do, r1_mail_Do, r2_mail_Do, k1_mail_Do, r3_mail_Do, r4_mail_Do, r5_mail_Do, r6_mail_Do, k5_mail_Do, r7_mail_Do, r8_mail_Do, r9_mail_Do, r10_mail_Do, r11_mail_Do, r12_mail_Do, k9_mail_Do, k8_mail_Do, k7_mail_Do, r13_mail_Do, r14_mail_Do, k11_mail_Do, r15_mail_Do, k12_mail_Do, k10_mail_Do, k6_mail_Do, k4_mail_Do, k3_mail_Do, k2_mail_Do, k0_mail_Do, c_mail_Do, Z0, Z1, Z2, Z3, Z4, Z5, Z6, Z7, Z8, Z9, Z10, resAll, Nat.reduceAdd, Nat.reduceEqDiff, Nat.reduceLeDiff, Nat.reduceMul, ↓reduceIte, reduceCtorEq, Nat.reduceBEq, aoper, Nat.reduceLT, Int.reduceEq, Int.reduceLT, Int.reduceLE]
          exact ⟨_, rfl, fin _⟩
        | true =>
          have hs : do8F S thread l = recvF S x := by unfold do8F; rw [c1, if_pos rfl, if_pos c2, e1, if_pos c3, c4]; rfl
          obtain ⟨xt, xg, xr, xb, xu⟩ := x
          simp only at c3
          subst c3
          have hk0 := Keeps.self σ.fresh [(stL S (some ⟨b1, 0, none⟩) f1 (some ⟨b2, 0, none⟩) f2, 5), (callL 8 aA l.length fA aB 0 fB 0 0 0, 6), ([.int .i64 0, .int .i64 0, .int .i64 0, .slice none 0 0, .slice none 0 0], 5), ([.int .i64 0, .int .u64 0, .int .i64 0], 3), ([i64 3, i64 xg, i64 xr, i64 xb], 4)]
          obtain ⟨v, τ, e, k⟩ := mail_recv_ok (d + S.th.length + 7) _ S b1 f1 b2 f2 thread 0 0 0 aA l.length fA aB fB ⟨3, xg, xr, xb, xu⟩ t (low_grow fresh_le _) (SlAt.keeps (σ := σ.fresh) h1 hk0) (SlAt.keeps (σ := σ.fresh) h2 hk0) n1 n2 n4 e4
          obtain ⟨d1, g1', d2, g2', rfl, k1, k2, k, k3, k4⟩ := k
          rw [grow_n] at k3 k4
          simp only [List.length_cons, List.length_nil, Nat.reduceAdd] at k3 k4
          have q0 := k.rows 0 rfl
          have q1 := k.rows 1 rfl
          have q2 := k.rows 2 rfl
          have q3 := k.rows 3 rfl
          have q4 := k.rows 4 rfl
          have hlow : τ.low = σ.fresh.n := by rw [k.low, grow_low]; rfl
          have l2 := load_sl q2
          have l3 := load_sl q3
          have hkk := hk0.trans k
          simp (disch := omega) only [sl6_all, sl6_0, sl6_1, hG, c1, hs, hcap, e1, eq_true c2, hwit, c4, e, repL, st_gen, rowSt_row, putM_R, putR_low, putR_load, putR_loadF, putR_get, putR_far, hlow, q0, q1, q2, q3, q4, l2, l3, Nat.le_refl, Nat.le_add_right, r0_mail_Do, r1_mail_Do, r2_mail_Do, k1_mail_Do, r3_mail_Do, r4_mail_Do, r5_mail_Do, r6_mail_Do, k5_mail_Do, r7_mail_Do, r8_mail_Do, r9_mail_Do, r10_mail_Do, r11_mail_Do, r12_mail_Do, k9_mail_Do, k8_mail_Do, k7_mail_Do, r13_mail_Do, r14_mail_Do, k11_mail_Do, r15_mail_Do, k12_mail_Do, k10_mail_Do, k6_mail_Do, k4_mail_Do, k3_mail_Do, k2_mail_Do, k0_mail_Do, c_mail_Do, Z0, Z1, Z2, Z3, Z4, Z5, Z6, Z7, Z8, Z9, Z10, resAll, Nat.reduceAdd, Nat.reduceEqDiff, Nat.reduceLeDiff, Nat.reduceMul, ↓reduceIte, reduceCtorEq, Nat.reduceBEq, aoper, Nat.reduceLT, Int.reduceEq, Int.reduceLT, Int.reduceLE]
          have hb1 : b1 < σ.fresh.n := h1.1
          have hb2 : b2 < σ.fresh.n := h2.1
          exact ⟨⟨_, rfl, _, _, _, _, rfl, (k1.putR (by omega)).putR (by omega), (k2.putR (by omega)).putR (by omega), (hkk.putR (by omega) _ _).putR (by omega) _ _, k3.imp id (by omega), k4.imp id (by omega)⟩, rfl⟩
      · have hs : do8F S thread l = (S, 7, 0, 0) := by unfold do8F; rw [c1, if_pos rfl, if_pos c2, e1, if_neg c3]
        simp (disch := omega) only [sl6_all, sl6_0, sl6_1, hG, c1, hs, hcap, e1, eq_true c2, c3, r0_mail_Do, r1_mail_Do, r2_mail_Do, k1_mail_Do, r3_mail_Do, r4_mail_Do, r5_mail_Do, r6_mail_Do, k5_mail_Do, r7_mail_Do, r8_mail_Do, r9_mail_Do, r10_mail_Do, r11_mail_Do, r12_mail_Do, k9_mail_Do, k8_mail_Do, k7_mail_Do, r13_mail_Do, r14_mail_Do, k11_mail_Do, r15_mail_Do, k12_mail_Do, k10_mail_Do, k6_mail_Do, k4_mail_Do, k3_mail_Do, k2_mail_Do, k0_mail_Do, c_mail_Do, Z0, Z1, Z2, Z3, Z4, Z5, Z6, Z7, Z8, Z9, Z10, resAll, Nat.reduceAdd, Nat.reduceEqDiff, Nat.reduceLeDiff, Nat.reduceMul, ↓reduceIte, reduceCtorEq, Nat.reduceBEq, aoper, Nat.reduceLT, Int.reduceEq, Int.reduceLT, Int.reduceLE]
        exact ⟨_, rfl, fin _⟩
    · have hs : do8F S thread l = (S, (capF S thread l).2.2, 0, 0) := by unfold do8F; rw [c1, if_pos rfl, if_neg c2]
      simp (disch := omega) only [sl6_all, sl6_0, sl6_1, hG, c1, hs, hcap, c2, r0_mail_Do, r1_mail_Do, r2_mail_Do, k1_mail_Do, r3_mail_Do, r4_mail_Do, r5_mail_Do, r6_mail_Do, k5_mail_Do, r7_mail_Do, r8_mail_Do, r9_mail_Do, r10_mail_Do, r11_mail_Do, r12_mail_Do, k9_mail_Do, k8_mail_Do, k7_mail_Do, r13_mail_Do, r14_mail_Do, k11_mail_Do, r15_mail_Do, k12_mail_Do, k10_mail_Do, k6_mail_Do, k4_mail_Do, k3_mail_Do, k2_mail_Do, k0_mail_Do, c_mail_Do, Z0, Z1, Z2, Z3, Z4, Z5, Z6, Z7, Z8, Z9, Z10, resAll, Nat.reduceAdd, Nat.reduceEqDiff, Nat.reduceLeDiff, Nat.reduceMul, ↓reduceIte, reduceCtorEq, Nat.reduceBEq, aoper, Nat.reduceLT, Int.reduceEq, Int.reduceLT, Int.reduceLE]
      exact ⟨_, rfl, fin _⟩
end Go.Proofs.Ytidmcpkbcphpiaa
namespace Go.Proofs.Ytidmcpkbcphpiaa
open Go Go.Hai

structure TA (S T : StD) : Prop where
  threads : T.threads = S.threads
  slots : T.slots = S.slots
  things : T.things = S.things
  sl : T.sl = S.sl
  len : T.th.length = S.th.length
  th : ∀ i : Nat, T.th[i]? = S.th[i]? ∨ ∃ x y, S.th[i]? = some x ∧ T.th[i]? = some y ∧ x.type = 3 ∧ y.type = 3
section
variable {S T : StD}
theorem TA.map (h : TA S T) {β : Type} (g : ThingD → β) (hg : ∀ x y : ThingD, x.type = 3 → y.type = 3 → g x = g y) (i : Nat) : (T.th[i]?).map g = (S.th[i]?).map g := by
  rcases h.th i with e | ⟨x, y, e1, e2, e3, e4⟩
  · rw [e]
  · rw [e1, e2]; simp [hg x y e3 e4]
theorem TA.mapI (h : TA S T) {β : Type} (g : ThingD → β) (hg : ∀ x y : ThingD, x.type = 3 → y.type = 3 → g x = g y) (n : Int) : (atI T.th n).map g = (atI S.th n).map g := by
  unfold atI
  split
  · exact h.map g hg _
  · rfl
theorem thereB_map (S : StD) (n : Int) : thereB S n = ((atI S.th n).map fun t => !(decide (t.type = 0))).getD false := by
  unfold thereB; cases atI S.th n <;> rfl
theorem TA.thereB (h : TA S T) (n : Int) : Proofs.Ytidmcpkbcphpiaa.thereB T n = Proofs.Ytidmcpkbcphpiaa.thereB S n := by
  rw [thereB_map, thereB_map, h.mapI _ (fun x y e1 e2 => by rw [e1, e2])]
theorem slotB_map (S : StD) (x : SlotD) : slotB S x = (capGood x && !(capNone x && !(decide (x.up = -1))) && !(!(capNone x) && decide (x.up < -1)) && (capNone x || ((atI S.th x.thing).map fun t => !(decide (t.type = 0)) && decide (t.type = x.type)).getD false)) := by
  unfold slotB; cases atI S.th x.thing <;> rfl
theorem TA.slotB (h : TA S T) : Proofs.Ytidmcpkbcphpiaa.slotB T = Proofs.Ytidmcpkbcphpiaa.slotB S := by
  funext x
  rw [slotB_map, slotB_map, h.mapI _ (fun x y e1 e2 => by rw [e1, e2])]
theorem TA.capsB (h : TA S T) : Proofs.Ytidmcpkbcphpiaa.capsB T = Proofs.Ytidmcpkbcphpiaa.capsB S := by
  unfold Proofs.Ytidmcpkbcphpiaa.capsB; rw [h.sl, h.slotB]
theorem goesB_map (S : StD) (node : Int) (j : Nat) (x : SlotD) : goesB S node j x = (decide (x.type = 2) && ((atI S.th node).map fun t => hasB t j).getD false && thereB S x.thing) := by
  unfold goesB; cases atI S.th node <;> rfl
theorem hasB_3 {x y : ThingD} (hx : x.type = 3) (hy : y.type = 3) (j : Int) : hasB x j = hasB y j := by
  have e : ¬ ((3 : Int) = 2) := by decide
  unfold hasB; rw [hx, hy]; simp [e]
theorem TA.goesB (h : TA S T) : Proofs.Ytidmcpkbcphpiaa.goesB T = Proofs.Ytidmcpkbcphpiaa.goesB S := by
  funext n j x
  rw [goesB_map, goesB_map, h.mapI _ (fun x y e1 e2 => hasB_3 e1 e2 _), h.thereB]
theorem TA.wTo (h : TA S T) (r : Int → List Int → List Int) (node : Int) (V : List Int) : ∀ j, Proofs.Ytidmcpkbcphpiaa.wTo T r node V j = Proofs.Ytidmcpkbcphpiaa.wTo S r node V j := by
  intro j
  induction j with
  | zero => rfl
  | succ j ih =>
    unfold Proofs.Ytidmcpkbcphpiaa.wTo
    rw [h.sl, h.goesB, ih]
theorem TA.wIn (h : TA S T) : ∀ k, Proofs.Ytidmcpkbcphpiaa.wIn T k = Proofs.Ytidmcpkbcphpiaa.wIn S k := by
  intro k
  induction k with
  | zero => rfl
  | succ k ih =>
    funext node V
    unfold Proofs.Ytidmcpkbcphpiaa.wIn
    rw [ih, h.sl, h.wTo]
theorem firstI_map {α : Type} (p : α → Bool) : ∀ (l : List α) (k : Nat), firstI p l k = firstI id (l.map p) k := by
  intro l
  induction l with
  | nil => intro k; rfl
  | cons a l ih => intro k; simp only [firstI, List.map_cons, ih, id]
theorem TA.ownI (h : TA S T) (z : Int) : Proofs.Ytidmcpkbcphpiaa.ownI T z = Proofs.Ytidmcpkbcphpiaa.ownI S z := by
  unfold Proofs.Ytidmcpkbcphpiaa.ownI
  have e : T.th.map (fun t => hasB t z) = S.th.map (fun t => hasB t z) := List.ext_getElem? fun i => by
    rw [List.getElem?_map, List.getElem?_map]
    exact h.map _ (fun x y e1 e2 => hasB_3 e1 e2 _) i
  rw [firstI_map, firstI_map (l := S.th), e]
theorem insideB_map (S : StD) (node slot : Int) : insideB S node slot = ((atI S.th node).map fun t => decide (t.type = 2) && (wIn S (S.th.length + 1) node []).contains (ownI S slot)).getD false := by
  unfold insideB; cases atI S.th node <;> rfl
theorem TA.insideB (h : TA S T) (node slot : Int) : Proofs.Ytidmcpkbcphpiaa.insideB T node slot = Proofs.Ytidmcpkbcphpiaa.insideB S node slot := by
  rw [insideB_map, insideB_map, h.wIn, h.ownI, h.len, h.mapI _ (fun x y e1 e2 => by rw [e1, e2])]
theorem TA.ringB (h : TA S T) : Proofs.Ytidmcpkbcphpiaa.ringB T = Proofs.Ytidmcpkbcphpiaa.ringB S := by
  unfold Proofs.Ytidmcpkbcphpiaa.ringB
  rw [h.sl]
  congr 2
  funext i x
  rw [h.insideB]
theorem TA.nodesTo (h : TA S T) : ∀ k, Proofs.Ytidmcpkbcphpiaa.nodesTo T k = Proofs.Ytidmcpkbcphpiaa.nodesTo S k := by
  intro k
  induction k with
  | zero => unfold Proofs.Ytidmcpkbcphpiaa.nodesTo; rw [h.sl]
  | succ k ih =>
    unfold Proofs.Ytidmcpkbcphpiaa.nodesTo
    rw [ih]
    rcases h.th k with e | ⟨x, y, e1, e2, e3, e4⟩
    · rw [e]
    · rw [e1, e2]
      have e : ¬ ((3 : Int) = 2) := by decide
      simp only [e3, e4, e, if_false]
theorem TA.nodesB (h : TA S T) : Proofs.Ytidmcpkbcphpiaa.nodesB T = Proofs.Ytidmcpkbcphpiaa.nodesB S := by
  unfold Proofs.Ytidmcpkbcphpiaa.nodesB
  rw [h.len, h.nodesTo, h.sl]
theorem TA.holdTo (h : TA S T) (n : Int) : ∀ k, Proofs.Ytidmcpkbcphpiaa.holdTo T n k = Proofs.Ytidmcpkbcphpiaa.holdTo S n k := by
  intro k
  induction k with
  | zero => rfl
  | succ k ih => unfold Proofs.Ytidmcpkbcphpiaa.holdTo; rw [ih, h.sl]
theorem TA.allowedB (h : TA S T) : Proofs.Ytidmcpkbcphpiaa.allowedB T = Proofs.Ytidmcpkbcphpiaa.allowedB S := by
  have e : ∀ x k z, aF T x k z = aF S x k z := by
    intro x k
    induction k with
    | zero => intro z; rfl
    | succ k ih => intro z; unfold aF; rw [h.sl]; split <;> simp only [ih]
  unfold Proofs.Ytidmcpkbcphpiaa.allowedB
  rw [h.sl]
  congr 1
  funext i x
  unfold allowB
  rw [e, h.sl]
theorem allTo_all {α : Type} {p : Nat → α → Bool} {l : List α} : ∀ n, (∀ i x, i < n → l[i]? = some x → p i x = true) → allTo p l n = true := by
  intro n
  induction n with
  | zero => intro _; rfl
  | succ n ih =>
    intro h
    unfold allTo
    rw [ih fun i x hi hx => h i x (by omega) hx]
    cases hx : l[n]? with
    | none => rfl
    | some x => simp [h n x (by omega) hx]
theorem TA.thingB (h : TA S T) (i : Nat) (t : ThingD) : Proofs.Ytidmcpkbcphpiaa.thingB T i t = Proofs.Ytidmcpkbcphpiaa.thingB S i t := by
  unfold Proofs.Ytidmcpkbcphpiaa.thingB frmBad isRootB rootEq
  rw [h.holdTo, h.sl, h.threads, h.slots, h.things]
theorem TA.thingsB (h : TA S T) (hg : Proofs.Ytidmcpkbcphpiaa.thingsB S = true) (hy : ∀ (i : Nat) (y : ThingD), T.th[i]? = some y → S.th[i]? = some y ∨ (thGood y = true ∧ frmBad S y = false)) : Proofs.Ytidmcpkbcphpiaa.thingsB T = true := by
  unfold Proofs.Ytidmcpkbcphpiaa.thingsB at hg ⊢
  refine allTo_all _ fun i y hi hT => ?_
  rw [h.thingB]
  rcases hy i y hT with e | ⟨e1, e2⟩
  · exact allTo_true e _ (by rw [← h.len]; exact hi) hg
  · rcases h.th i with e | ⟨x, y', e3, e4, e5, e6⟩
    · exact allTo_true (e ▸ hT) _ (by rw [← h.len]; exact hi) hg
    · rw [hT] at e4
      cases e4
      have hx := allTo_true e3 _ (by rw [← h.len]; exact hi) hg
      unfold Proofs.Ytidmcpkbcphpiaa.thingB at hx ⊢
      rw [e1, e2]
      have n0 : decide ((3 : Int) = 0) = false := by decide
      have hr : rootEq S i x = false := by
        have e : ((3 : Int) == 2) = false := by decide
        unfold rootEq eq13; rw [e5, e]; rfl
      rw [hr, e5] at hx
      rw [e6]
      cases hb : isRootB S i with
      | true => rw [hb] at hx; simp at hx
      | false =>
        rw [hb] at hx
        rw [n0] at hx ⊢
        simp only [Bool.and_eq_true] at hx ⊢
        exact ⟨⟨⟨trivial, by simp⟩, by simp⟩, hx.2⟩
theorem TA.good (h : TA S T) (hg : goodB S = true) (hy : ∀ (i : Nat) (y : ThingD), T.th[i]? = some y → S.th[i]? = some y ∨ (thGood y = true ∧ frmBad S y = false)) : goodB T = true := by
  unfold goodB at hg ⊢
  have hu : upL T = upL S := by unfold upL; rw [h.sl]
  simp only [Bool.and_eq_true] at hg
  obtain ⟨⟨⟨⟨⟨⟨⟨⟨g1, g2⟩, g3⟩, g4⟩, g5⟩, g6⟩, g7⟩, g8⟩, g9⟩ := hg
  rw [h.threads, h.slots, h.things, h.sl, h.len, h.capsB, h.nodesB, h.ringB, hu, h.allowedB, g1, g2, g3, g4, g6, g7, g8, g9, h.thingsB g5 hy]
  rfl
/- ways -/
theorem TA.thrT (h : TA S T) (G : GoodF S) {z : Int} : thrTz T z = thrTz S z := by
  unfold thrTz
  rw [h.sl]
  cases hz : atI S.sl z with
  | none => rfl
  | some x =>
    simp only
    unfold Proofs.Ytidmcpkbcphpiaa.thrT
    split
    · next hc =>
      have hx : ∃ i : Nat, S.sl[i]? = some x := by
        unfold atI at hz
        split at hz
        · exact ⟨_, hz⟩
        · cases hz
      obtain ⟨i, hx⟩ := hx
      obtain ⟨t, e1, e2, e3, e4, e5⟩ := G.link hx hc.1
      have : atI T.th x.thing = atI S.th x.thing := by
        unfold atI
        rw [if_pos e3, if_pos e3]
        rcases h.th x.thing.toNat with e | ⟨a, b, f1, f2, f3, f4⟩
        · exact e
        · rw [e2] at f1
          cases f1
          have := e5.1
          omega
      rw [this]
    · rfl
theorem TA.rootT (h : TA S T) (G : GoodF S) {n : Int} (h0 : 0 ≤ n) (h1 : n ≤ S.threads - 1) : Proofs.Ytidmcpkbcphpiaa.rootT T n = Proofs.Ytidmcpkbcphpiaa.rootT S n := by
  unfold Proofs.Ytidmcpkbcphpiaa.rootT
  obtain ⟨t, r1, r2, r3⟩ := G.root h0 h1
  rcases h.th (2 + n).toNat with e | ⟨a, b, f1, f2, f3, f4⟩
  · rw [e]
  · rw [r1] at f1
    cases f1
    have := r3.1
    omega
theorem TA.stepTo (h : TA S T) (G : GoodF S) (t0 : ThingD) (l : List Int) : ∀ i, Proofs.Ytidmcpkbcphpiaa.stepTo T t0 l i = Proofs.Ytidmcpkbcphpiaa.stepTo S t0 l i := by
  intro i
  induction i with
  | zero => rfl
  | succ i ih =>
    have hb : ∀ z, thrBz T z = thrBz S z := fun z => by unfold thrBz; rw [h.sl]
    unfold Proofs.Ytidmcpkbcphpiaa.stepTo
    rw [ih]
    simp only [h.thrT G, hb]
theorem TA.slotF (h : TA S T) (hg : goodB S = true) (hgT : goodB T = true) (n : Int) (l : List Int) : Proofs.Ytidmcpkbcphpiaa.slotF T n l = Proofs.Ytidmcpkbcphpiaa.slotF S n l := by
  unfold Proofs.Ytidmcpkbcphpiaa.slotF
  have G := goodF hg
  rw [hg, hgT, h.threads]
  split
  · next hc => rw [h.rootT G hc.2.1.1 hc.2.1.2, h.stepTo G]
  · rfl
theorem TA.capF (h : TA S T) (hg : goodB S = true) (hgT : goodB T = true) (n : Int) (l : List Int) : Proofs.Ytidmcpkbcphpiaa.capF T n l = Proofs.Ytidmcpkbcphpiaa.capF S n l := by
  unfold Proofs.Ytidmcpkbcphpiaa.capF slotAt
  rw [h.slotF hg hgT, h.sl]
end
theorem setT_th (S : StD) (k : Nat) (t : ThingD) (i : Nat) : (setT S k t).th[i]? = if k = i then (if i < S.th.length then some t else none) else S.th[i]? := by
  unfold setT
  simp only
  by_cases h : k = i
  · subst h
    rw [if_pos rfl, List.getElem?_set_self']
    by_cases hl : k < S.th.length
    · simp [hl]
    · simp [hl]
  · rw [if_neg h, List.getElem?_set_ne h]
theorem TA_setT {S : StD} {k : Nat} {x t : ThingD} (hk : S.th[k]? = some x) (hx : x.type = 3) (ht : t.type = 3) : TA S (setT S k t) := by
  refine ⟨rfl, rfl, rfl, rfl, by simp [setT], fun i => ?_⟩
  rw [setT_th]
  by_cases h : k = i
  · subst h
    rw [if_pos rfl, if_pos (List.getElem?_eq_some_iff.1 hk).1]
    exact .inr ⟨x, t, hk, rfl, hx, ht⟩
  · rw [if_neg h]; exact .inl rfl
end Go.Proofs.Ytidmcpkbcphpiaa
namespace Go.Proofs.Ytidmcpkbcphpiaa
open Go Go.Hai

theorem slotEq_refl (x : SlotD) : slotEq x x = true := by simp [slotEq, eq5]
theorem thEq_refl (x : ThingD) : thEq x x = true := by simp [thEq, eq13]
theorem thEq_eq {a b : ThingD} (h : thEq a b = true) : a = b := by
  obtain ⟨a1, a2, a3, a4, a5, a6, a7, a8, a9, a10, a11, a12, a13⟩ := a
  obtain ⟨b1, b2, b3, b4, b5, b6, b7, b8, b9, b10, b11, b12, b13⟩ := b
  simp only [thEq, eq13, Bool.and_eq_true, beq_iff_eq] at h
  obtain ⟨rfl, rfl, rfl, rfl, rfl, rfl, rfl, rfl, rfl, rfl, rfl, rfl, rfl⟩ := h
  rfl
theorem eqTo_refl {α : Type} {p : α → α → Bool} (hp : ∀ x, p x x = true) (l : List α) : ∀ n, eqTo p l l n = true := by
  intro n
  induction n with
  | zero => rfl
  | succ n ih =>
    unfold eqTo
    rw [ih]
    cases l[n]? <;> simp [hp]
theorem eqL_refl {α : Type} {p : α → α → Bool} (hp : ∀ x, p x x = true) (l : List α) : eqL p l l = true := by
  unfold eqL; rw [eqTo_refl hp]; simp
theorem sameB_refl (S : StD) : sameB S S = true := by
  unfold sameB eq3
  rw [eqL_refl slotEq_refl, eqL_refl thEq_refl]
  simp
theorem do7_err {S : StD} {n : Int} {l : List Int} {W : Int} (h : (do7F S n l W).2 ≠ 0) : (do7F S n l W).1 = S := by
  unfold do7F at h ⊢
  split
  · next h1 =>
    rw [if_pos h1] at h
    split
    · next h2 =>
      rw [if_pos h2] at h
      split
      · next h3 =>
        rw [if_pos h3] at h
        split
        · next h4 =>
          rw [if_pos h4] at h
          unfold sendF at h ⊢
          split
          · next t ht =>
            rw [ht] at h
            simp only at h
            split
            · rfl
            · next h5 => rw [if_neg h5] at h; exact absurd rfl h
          · rfl
        · rfl
      · rfl
    · rfl
  · rfl
theorem capGood_badge {x : SlotD} (h : capGood x = true) (hn : capNone x = false) : 0 ≤ x.badge ∧ x.badge ≤ 65535 := by
  unfold capGood at h
  rw [hn] at h
  simp only [Bool.false_or, Bool.and_eq_true, decide_eq_true_eq] at h
  exact h.1.2
theorem thGood_mailT {w b : Int} (h : 0 ≤ b ∧ b ≤ 65535) : thGood (mailT w b 0) = true := by
  obtain ⟨h1, h2⟩ := h
  simp [thGood, thOwn, mailT, zeroT, thEq, eq13, h1, h2]
theorem thGood_mailE : thGood mailE = true := by decide
theorem frmBad_0 (S : StD) {t : ThingD} (h : t.frm = 0) : frmBad S t = false := by unfold frmBad; rw [h]; simp
theorem setT_good {S : StD} (hg : goodB S = true) {k : Nat} {x t : ThingD} (hk : S.th[k]? = some x) (hx : x.type = 3) (ht : t.type = 3) (h1 : thGood t = true) (h2 : frmBad S t = false) : TA S (setT S k t) ∧ goodB (setT S k t) = true := by
  have hT := TA_setT hk hx ht
  refine ⟨hT, hT.good hg fun i y hy => ?_⟩
  rw [setT_th] at hy
  by_cases h : k = i
  · subst h
    rw [if_pos rfl, if_pos (List.getElem?_eq_some_iff.1 hk).1] at hy
    cases hy
    exact .inr ⟨h1, h2⟩
  · rw [if_neg h] at hy; exact .inl hy
theorem atI_to {α : Type} {l : List α} {z : Int} {x : α} (h : atI l z = some x) : l[z.toNat]? = some x ∧ 0 ≤ z := by
  unfold atI at h
  split at h
  · exact ⟨h, by assumption⟩
  · cases h
theorem setT_at {S : StD} {z : Int} {x t : ThingD} (h : atI S.th z = some x) : atI (setT S z.toNat t).th z = some t := by
  obtain ⟨h1, h2⟩ := atI_to h
  unfold atI
  rw [if_pos h2, setT_th, if_pos rfl, if_pos (List.getElem?_eq_some_iff.1 h1).1]
/- a send that answers none of the errors -/
theorem do7_ok {S : StD} (hg : goodB S = true) {n : Int} {l : List Int} {W : Int} (h : (do7F S n l W).2 = 0) :
    ∃ x t, pathB l = true ∧ (capF S n l).2.2 = 0 ∧ (capF S n l).2.1 = x ∧ x.type = 3 ∧ withinB 2 x.rights = true ∧ (0 ≤ x.badge ∧ x.badge ≤ 65535) ∧ atI S.th x.thing = some t ∧ t.type = 3 ∧ t = mailE ∧ (do7F S n l W).1 = setT S x.thing.toNat (mailT W x.badge 0) := by
  unfold do7F at h ⊢
  split at h
  · next h1 =>
    rw [if_pos h1]
    split at h
    · next h2 =>
      obtain ⟨x, t, e1, e2, e3, e4, e5, e6⟩ := capF_in hg h2
      rw [if_pos h2]
      rw [e1] at h ⊢
      split at h
      · next h3 =>
        rw [if_pos h3]
        split at h
        · next h4 =>
          rw [if_pos h4]
          have hs : slotB S x = true := by
            have hc : capsB S = true := by unfold goodB at hg; simp only [Bool.and_eq_true] at hg; exact hg.1.1.1.1.1.2
            exact all_get hc (atI_to e3).1
          have hcg : capGood x = true := by unfold slotB at hs; simp only [Bool.and_eq_true] at hs; exact hs.1.1.1
          have ht3 : t.type = 3 := by omega
          unfold sendF at h ⊢
          rw [e4] at h ⊢
          simp only at h ⊢
          split at h
          · cases h
          · next h5 =>
            rw [if_neg h5]
            have hth : thGood t = true := by
              have : thingsB S = true := by unfold goodB at hg; simp only [Bool.and_eq_true] at hg; exact hg.1.1.1.1.2
              exact thGood_of this _ t (atI_to e4).1
            have hE : t = mailE := by
              unfold thGood at hth
              simp only [Bool.and_eq_true] at hth
              have := thEq_eq hth.1
              rw [← this]
              unfold thOwn
              have n1 : ¬ t.type = 1 := by omega
              have n2 : ¬ t.type = 2 := by omega
              rw [if_neg n1, if_neg n2, if_pos ht3, if_neg h5, ht3]
              rfl
            exact ⟨x, t, h1, h2, rfl, h3, h4, capGood_badge hcg e2, e4, ht3, hE, rfl⟩
        · cases h
      · cases h
    · next h2 => exact absurd h h2
  · cases h
theorem do8_at {S : StD} {n : Int} {l : List Int} {x : SlotD} (h1 : pathB l = true) (h2 : (capF S n l).2.2 = 0) (h3 : (capF S n l).2.1 = x) (h4 : x.type = 3) : do8F S n l = if withinB 1 x.rights = true then recvF S x else (S, 6, 0, 0) := by
  unfold do8F; rw [if_pos h1, if_pos h2, h3, if_pos h4]
theorem round_law {S : StD} (hg : goodB S = true) {n : Int} {l : List Int} {W : Int} (h : (do7F S n l W).2 = 0) :
    goodB (do7F S n l W).1 = true ∧ (do7F S n l W).1.th.length = S.th.length ∧ (do7F (do7F S n l W).1 n l W).2 = 13 ∧
    (do8F (do7F S n l W).1 n l = ((do7F S n l W).1, 6, 0, 0) ∨
      ∃ b, do8F (do7F S n l W).1 n l = (S, 0, W, b) ∧ (do8F S n l).2.1 = 14) := by
  obtain ⟨x, t, p1, p2, p3, p4, p5, p6, p7, p8, p9, p10⟩ := do7_ok hg h
  rw [p10]
  obtain ⟨q1, q2⟩ := setT_good (t := mailT W x.badge 0) hg (atI_to p7).1 p8 rfl (thGood_mailT p6) (frmBad_0 S rfl)
  have hc := q1.capF hg q2 n l
  have hlen := q1.len
  have hat := setT_at (t := mailT W x.badge 0) p7
  have hback : setT (setT S x.thing.toNat (mailT W x.badge 0)) x.thing.toNat mailE = S := by
    have e : (S.th.set x.thing.toNat (mailT W x.badge 0)).set x.thing.toNat mailE = S.th := by
      rw [List.set_set]
      refine List.ext_getElem? fun i => ?_
      by_cases hi : x.thing.toNat = i
      · subst hi
        rw [(atI_to p7).1, List.getElem?_set_self (List.getElem?_eq_some_iff.1 (atI_to p7).1).1, p9]
      · rw [List.getElem?_set_ne hi]
    unfold setT
    simp only [e]
  generalize hS1 : setT S x.thing.toNat (mailT W x.badge 0) = S1 at *
  have c2 : (capF S1 n l).2.2 = 0 := by rw [hc]; exact p2
  have c3 : (capF S1 n l).2.1 = x := by rw [hc]; exact p3
  refine ⟨q2, hlen, ?_, ?_⟩
  · unfold do7F
    rw [if_pos p1, if_pos c2, c3, if_pos p4, if_pos p5]
    unfold sendF
    rw [hat]
    rfl
  · rw [do8_at p1 c2 c3 p4]
    by_cases w : withinB 1 x.rights = true
    · rw [if_pos w]
      right
      refine ⟨x.badge, ?_, ?_⟩
      · unfold recvF
        rw [hat]
        show (if true = true then (setT S1 x.thing.toNat mailE, (0 : Int), W, x.badge) else _) = _
        rw [if_pos rfl, hback]
      · rw [do8_at p1 p2 p3 p4, if_pos w]
        unfold recvF
        rw [p7, p9]
        rfl
    · rw [if_neg w]; exact .inl rfl
end Go.Proofs.Ytidmcpkbcphpiaa
namespace Go.Hai
open Go

theorem kontK_al {call : CallF} {os : List AOper} {t : Tmps} {σ : AHeap} {Q : Kk} {d : Option Nat} {op : AOp} {v : Value} {L L' : List (List Value × Nat)} : kontK call op os t (σ.grow L) Q d v ((σ.grow L').setLow (σ.grow L).n) = if okLow σ = true then EndsK call os (setD t d v) (σ.grow L') (consK (kindOf op t (σ.grow L) true) Q) else kontKe call op os t (σ.grow L) Q d v ((σ.grow L').setLow (σ.grow L).n) := by
  split
  · next h =>
    rw [kontK_new (low_grow (Nat.le_of_ble_eq_true h) L) rfl]
    rfl
  · rfl
theorem o_allocS {σ : AHeap} {t : Tmps} {K : Kt} {z : List Value} {es m : Nat} {L : List (List Value × Nat)} : EndsO (aop ((σ.grow L).setLow m) t (.alloc z es)) K = K (here (σ.n + L.length) 0) ((σ.grow (L ++ [(z, es)])).setLow m) := o_alloc (σ := σ.setLow m)
theorem setLow_grown {σ : AHeap} {m : Nat} {L : List (List Value × Nat)} {b o n : Nat} : ((σ.grow L).setLow m).loadN b o n = (σ.grow L).loadN b o n := rfl
/- stores into rows that were just made -/
theorem stK_at {call : CallF} {os : List AOper} {t : Tmps} {σ : AHeap} {Q : Kk} {d : Option Nat} {n y o k : Nat} {z : Operand} {L : List (List Value × Nat)} {vs r : List Value} {e : Nat} (hlow : σ.low ≤ σ.n) (h : rowAt L k = some (r, e)) (hy : tget t y = here (σ.n + k) o) (hl : o + vs.length ≤ r.length) (hc : vs.all isCell = true) :
    heapQ (((σ.grow L).setLow (σ.grow L).n).storeN (σ.n + k) o vs) (kontK call (.store n (.tmp y) z) os t (σ.grow L) Q d) = EndsK call os (setD t d undef) (σ.grow (setRow L k (setAll r o vs, e))) (consK (.eff (some (σ.n + k))) Q) := by
  have h' : L[k]? = some (r, e) := by rw [← rowAt_eq]; exact h
  have hk : k < L.length := (List.getElem?_eq_some_iff.1 h').1
  have hg : (σ.grow L).t.get (σ.n + k) = some (rowOf (r, e)) := grow_new σ L k h'
  have hg' : ((σ.grow L).setLow (σ.grow L).n).t.get (σ.n + k) = some (rowOf (r, e)) := hg
  rw [st_gen, hg', rowSt_row, if_pos ⟨hl, hc⟩, kontK_sti, if_pos ⟨by rw [grow_low]; omega, inN_of (by rw [grow_n]; omega)⟩, hy, stKind_here, hg, rowKind_row]
  have e1 : (σ.grow L).putR (σ.n + k) (setAll r o vs) e = σ.grow (setRow L k (setAll r o vs, e)) := by
    rw [setRow_eq]
    unfold AHeap.putR AHeap.grow
    have := Tr.put_ins (rowOf (setAll r o vs, e)) (L.map rowOf) σ.t σ.n k (by simpa using hk)
    simp only [this, List.map_set, List.length_set]
  rw [e1]
def atP (v : Value) (b o : Nat) : Bool := match v with | .pointer (some ⟨c, p, none⟩) => Nat.beq b c && Nat.beq o p | _ => false
theorem atP_here {b o : Nat} : atP (here b o) b o = true := by simp [atP, here]
theorem atP_eq {v : Value} {b o : Nat} (h : atP v b o = true) : v = here b o := by
  unfold atP at h
  split at h
  · simp only [Bool.and_eq_true] at h
    rw [Nat.eq_of_beq_eq_true h.1, Nat.eq_of_beq_eq_true h.2]; rfl
  · cases h
theorem stK_0 {call : CallF} {os : List AOper} {t : Tmps} {σ : AHeap} {Q : Kk} {d : Option Nat} {n y o : Nat} {z : Operand} {L : List (List Value × Nat)} {vs r : List Value} {e : Nat} : heapQ (((σ.grow ((r, e) :: L)).setLow (σ.grow ((r, e) :: L)).n).storeN σ.n o vs) (kontK call (.store n (.tmp y) z) os t (σ.grow ((r, e) :: L)) Q d) =
    if okLow σ = true ∧ atP (tget t y) σ.n o = true ∧ o + vs.length ≤ r.length ∧ vs.all isCell = true then EndsK call os (setD t d undef) (σ.grow ((setAll r o vs, e) :: L)) (consK (.eff (some σ.n)) Q) else heapQ (((σ.grow ((r, e) :: L)).setLow (σ.grow ((r, e) :: L)).n).storeN σ.n o vs) (kontK call (.store n (.tmp y) z) os t (σ.grow ((r, e) :: L)) Q d) := by
  split
  · next h => exact stK_at (k := 0) (Nat.le_of_ble_eq_true h.1) rfl (atP_eq h.2.1) h.2.2.1 h.2.2.2
  · rfl
theorem stK_1 {call : CallF} {os : List AOper} {t : Tmps} {σ : AHeap} {Q : Kk} {d : Option Nat} {n y o : Nat} {z : Operand} {q : List Value × Nat} {L : List (List Value × Nat)} {vs r : List Value} {e : Nat} : heapQ (((σ.grow (q :: (r, e) :: L)).setLow (σ.grow (q :: (r, e) :: L)).n).storeN (σ.n + 1) o vs) (kontK call (.store n (.tmp y) z) os t (σ.grow (q :: (r, e) :: L)) Q d) =
    if okLow σ = true ∧ atP (tget t y) (σ.n + 1) o = true ∧ o + vs.length ≤ r.length ∧ vs.all isCell = true then EndsK call os (setD t d undef) (σ.grow (q :: (setAll r o vs, e) :: L)) (consK (.eff (some (σ.n + 1))) Q) else heapQ (((σ.grow (q :: (r, e) :: L)).setLow (σ.grow (q :: (r, e) :: L)).n).storeN (σ.n + 1) o vs) (kontK call (.store n (.tmp y) z) os t (σ.grow (q :: (r, e) :: L)) Q d) := by
  split
  · next h => exact stK_at (k := 1) (Nat.le_of_ble_eq_true h.1) rfl (atP_eq h.2.1) h.2.2.1 h.2.2.2
  · rfl
end Go.Hai
namespace Go.Proofs.Ytidmcpkbcphpiaa
open Go Go.Hai
set_option maxRecDepth 20000
set_option linter.unusedSimpArgs false
set_option maxHeartbeats 8000000
attribute [local irreducible] Hai.Ends EndsR EndsO EndsD EndsX EndsE EndsK AHeap.grow AHeap.putR okLow inN
def r0_reevelaw18_way : List AOper := [(.mk (some 2) none (.alloc [(.slice none 0 0)] 1))]
def r1_reevelaw18_way : List AOper := [(.mk (some 3) none (.mv (.tmp 0))), (.mk (some 4) none (.build [(.slice none 0 0)] [(0, (1, (.tmp 3)))])), (.mk none none (.store 1 (.tmp 2) (.tmp 4)))]
def k0_reevelaw18_way : ACode := (.seq (.reg r1_reevelaw18_way) .ret)
def c_reevelaw18_way : ACode := (.seq (.reg r0_reevelaw18_way) k0_reevelaw18_way)
theorem e_reevelaw18_way : ofProg Try.prog 7 = some ⟨5, [(.cell 2 true 1)], c_reevelaw18_way⟩ := by kernel_rfl
def r0_reevelaw18_heavy : List AOper := [(.mk (some 2) none (.box 5 (.tmp 0))), (.mk (some 3) none (.box 6 (.tmp 1))), (.mk (some 4) none (.mv (.const (.bool false))))]
def r1_reevelaw18_heavy : List AOper := [(.mk (some 5) none (.fldA 3 (.tmp 2))), (.mk (some 6) none (.load false 1 (.tmp 5))), (.mk (some 7) none (.lenS (.tmp 6))), (.mk (some 8) none (.bin .gtr (.tmp 7) (.const (.int .i64 100)))), (.mk (some 9) none (.mv (.tmp 8))), (.mk (some 10) (some (9, false)) (.fldA 4 (.tmp 2))), (.mk (some 11) (some (9, false)) (.load false 1 (.tmp 10))), (.mk (some 12) (some (9, false)) (.lenS (.tmp 11))), (.mk (some 13) (some (9, false)) (.bin .gtr (.tmp 12) (.const (.int .i64 50)))), (.mk (some 14) none (.pick (.tmp 9) (.const (.bool true)) (.tmp 13))), (.mk (some 15) none (.mv (.tmp 14))), (.mk (some 16) (some (15, false)) (.fldA 1 (.tmp 3))), (.mk (some 17) (some (15, false)) (.fldA 0 (.tmp 16))), (.mk (some 18) (some (15, false)) (.load false 1 (.tmp 17))), (.mk (some 19) (some (15, false)) (.lenS (.tmp 18))), (.mk (some 20) (some (15, false)) (.bin .gtr (.tmp 19) (.const (.int .i64 10)))), (.mk (some 21) none (.pick (.tmp 15) (.const (.bool true)) (.tmp 20))), (.mk (some 22) none (.mv (.tmp 21))), (.mk (some 23) (some (22, false)) (.fldA 2 (.tmp 3))), (.mk (some 24) (some (22, false)) (.fldA 0 (.tmp 23))), (.mk (some 25) (some (22, false)) (.load false 1 (.tmp 24))), (.mk (some 26) (some (22, false)) (.lenS (.tmp 25))), (.mk (some 27) (some (22, false)) (.bin .gtr (.tmp 26) (.const (.int .i64 10)))), (.mk (some 28) none (.pick (.tmp 22) (.const (.bool true)) (.tmp 27))), (.mk (some 4) none (.mv (.tmp 28)))]
def k0_reevelaw18_heavy : ACode := (.seq (.reg r1_reevelaw18_heavy) .ret)
def c_reevelaw18_heavy : ACode := (.seq (.reg r0_reevelaw18_heavy) k0_reevelaw18_heavy)
theorem e_reevelaw18_heavy : ofProg Try.prog 8 = some ⟨29, [(.tmp 4)], c_reevelaw18_heavy⟩ := by kernel_rfl

theorem way_ok (d : Nat) (σ : AHeap) (a : Option Addr) (n f : Nat) (hlo : σ.low ≤ σ.n) : ∃ τ, acall (ofProg Try.prog) 1000 (d + 1) 7 [.slice a n f] σ = some (.agg [.slice a n f].toArray, τ) ∧ Keeps σ τ := by
  suffices hs : Hai.Ends (acode (acall (ofProg Try.prog) 1000 d) 1000 c_reevelaw18_way (Tr.of [.slice a n f]) (σ.fresh.grow [])) (finA σ.n [.cell 2 true 1] fun v τ => v = .agg [.slice a n f].toArray ∧ Keeps σ.fresh τ) by
    obtain ⟨v, τ, ⟨rfl, k⟩, e⟩ := acall_ad e_reevelaw18_way (by simp) hlo hs
    refine ⟨_, e, ?_⟩
    split
    · exact Keeps.refl _
    · exact k.back
  simp (disch := omega) only [r0_reevelaw18_way, r1_reevelaw18_way, k0_reevelaw18_way, c_reevelaw18_way, Z0, Z1, Z2, Z3, Z4, Z5, Z6, Z7, Z8, Z9, Z10, resAll, Nat.reduceAdd, Nat.reduceEqDiff, Nat.reduceLeDiff, Nat.reduceMul, ↓reduceIte, reduceCtorEq, Nat.reduceBEq, aoper, Nat.reduceLT, Int.reduceEq, Int.reduceLT, Int.reduceLE]
  exact Keeps.self _ _
theorem heavy_ok (d : Nat) (σ : AHeap) (S : StD) (a1 : Option Addr) (f1 : Nat) (a2 : Option Addr) (f2 : Nat) (op X Y W : Int) (aA : Option Addr) (nA fA : Nat) (aB : Option Addr) (nB fB : Nat) :
    acall (ofProg Try.prog) 1000 (d + 1) 8 [stV S a1 f1 a2 f2, callV op aA nA fA aB nB fB X Y W] σ = some (.bool (decide ((100 : Int) < S.sl.length) || (decide ((50 : Int) < S.th.length) || (decide ((10 : Int) < nA) || decide ((10 : Int) < nB)))), σ) := by
  refine acall_flat e_reevelaw18_heavy (by simp) rfl ?_
  by_cases c1 : (100 : Int) < S.sl.length
  · simp (disch := omega) only [c1, r0_reevelaw18_heavy, r1_reevelaw18_heavy, k0_reevelaw18_heavy, c_reevelaw18_heavy, Z0, Z1, Z2, Z3, Z4, Z5, Z6, Z7, Z8, Z9, Z10, resAll, Nat.reduceAdd, Nat.reduceEqDiff, Nat.reduceLeDiff, Nat.reduceMul, ↓reduceIte, reduceCtorEq, Nat.reduceBEq, aoper, Nat.reduceLT, Int.reduceEq, Int.reduceLT, Int.reduceLE]
  · by_cases c2 : (50 : Int) < S.th.length
    · simp (disch := omega) only [c1, c2, r0_reevelaw18_heavy, r1_reevelaw18_heavy, k0_reevelaw18_heavy, c_reevelaw18_heavy, Z0, Z1, Z2, Z3, Z4, Z5, Z6, Z7, Z8, Z9, Z10, resAll, Nat.reduceAdd, Nat.reduceEqDiff, Nat.reduceLeDiff, Nat.reduceMul, ↓reduceIte, reduceCtorEq, Nat.reduceBEq, aoper, Nat.reduceLT, Int.reduceEq, Int.reduceLT, Int.reduceLE]
    · by_cases c3 : (10 : Int) < nA
      · simp (disch := omega) only [c1, c2, c3, sl6_1, sl6_2, r0_reevelaw18_heavy, r1_reevelaw18_heavy, k0_reevelaw18_heavy, c_reevelaw18_heavy, Z0, Z1, Z2, Z3, Z4, Z5, Z6, Z7, Z8, Z9, Z10, resAll, Nat.reduceAdd, Nat.reduceEqDiff, Nat.reduceLeDiff, Nat.reduceMul, ↓reduceIte, reduceCtorEq, Nat.reduceBEq, aoper, Nat.reduceLT, Int.reduceEq, Int.reduceLT, Int.reduceLE]
      · by_cases c4 : (10 : Int) < nB
        · simp (disch := omega) only [c1, c2, c3, c4, sl6_1, sl6_2, r0_reevelaw18_heavy, r1_reevelaw18_heavy, k0_reevelaw18_heavy, c_reevelaw18_heavy, Z0, Z1, Z2, Z3, Z4, Z5, Z6, Z7, Z8, Z9, Z10, resAll, Nat.reduceAdd, Nat.reduceEqDiff, Nat.reduceLeDiff, Nat.reduceMul, ↓reduceIte, reduceCtorEq, Nat.reduceBEq, aoper, Nat.reduceLT, Int.reduceEq, Int.reduceLT, Int.reduceLE]
        · simp (disch := omega) only [c1, c2, c3, c4, sl6_1, sl6_2, r0_reevelaw18_heavy, r1_reevelaw18_heavy, k0_reevelaw18_heavy, c_reevelaw18_heavy, Z0, Z1, Z2, Z3, Z4, Z5, Z6, Z7, Z8, Z9, Z10, resAll, Nat.reduceAdd, Nat.reduceEqDiff, Nat.reduceLeDiff, Nat.reduceMul, ↓reduceIte, reduceCtorEq, Nat.reduceBEq, aoper, Nat.reduceLT, Int.reduceEq, Int.reduceLT, Int.reduceLE]
end Go.Proofs.Ytidmcpkbcphpiaa
namespace Go.Proofs.Ytidmcpkbcphpiaa
open Go Go.Hai
set_option maxRecDepth 20000
set_option linter.unusedSimpArgs false
set_option maxHeartbeats 8000000
attribute [local irreducible] Hai.Ends EndsR EndsO EndsD EndsX EndsE EndsK AHeap.grow AHeap.putR okLow inN
def r0_reevelaw18_MailRound : List AOper := [(.mk (some 4) none (.box 5 (.tmp 0))), (.mk (some 8) none (.mv (.const (.bool false))))]
def r1_reevelaw18_MailRound : List AOper := [(.mk (some 18) none (.call 6 [])), (.mk (some 19) none (.un .not (.tmp 18)))]
def r2_reevelaw18_MailRound : List AOper := [(.mk (some 8) none (.mv (.const (.bool false))))]
def k1_reevelaw18_MailRound : ACode := (.cond (.tmp 19) (.seq (.reg r2_reevelaw18_MailRound) .ret) .skip)
def r3_reevelaw18_MailRound : List AOper := [(.mk (some 20) none (.mv (.tmp 2))), (.mk (some 21) none (.call 7 [(.tmp 20)])), (.mk (some 22) none (.mv (.tmp 3))), (.mk (some 23) none (.build [(.int .i64 0), (.slice none 0 0), (.slice none 0 0), (.int .i64 0), (.int .i64 0), (.int .u64 0)] [(0, (1, (.const (.int .i64 7)))), (1, (1, (.tmp 21))), (5, (1, (.tmp 22)))])), (.mk (some 9) none (.alloc [(.int .i64 0), (.slice none 0 0), (.slice none 0 0), (.int .i64 0), (.int .i64 0), (.int .u64 0)] 6)), (.mk none none (.store 6 (.tmp 9) (.tmp 23)))]
def r4_reevelaw18_MailRound : List AOper := [(.mk (some 24) none (.load true 5 (.tmp 4))), (.mk (some 25) none (.load true 6 (.tmp 9))), (.mk (some 26) none (.call 8 [(.tmp 24), (.tmp 25)])), (.mk (some 27) none (.mv (.tmp 26))), (.mk (some 28) (some (27, false)) (.load true 5 (.tmp 4))), (.mk (some 29) (some (27, false)) (.call 9 [(.tmp 28)])), (.mk (some 30) (some (27, false)) (.un .not (.tmp 29))), (.mk (some 31) none (.pick (.tmp 27) (.const (.bool true)) (.tmp 30)))]
def r5_reevelaw18_MailRound : List AOper := [(.mk (some 8) none (.mv (.const (.bool true))))]
def k4_reevelaw18_MailRound : ACode := (.cond (.tmp 31) (.seq (.reg r5_reevelaw18_MailRound) .ret) .skip)
def r6_reevelaw18_MailRound : List AOper := [(.mk (some 33) none (.load true 5 (.tmp 4))), (.mk (some 34) none (.mv (.tmp 1))), (.mk (some 35) none (.load true 6 (.tmp 9))), (.mk (some 36) none (.call 10 [(.tmp 33), (.tmp 34), (.tmp 35)])), (.mk (some 32) none (.mv (.tmp 36))), (.mk (some 37) none (.ext (.tmp 32) 0)), (.mk (some 38) none (.ext (.tmp 32) 1)), (.mk (some 10) none (.alloc [(.int .i64 0), (.int .i64 0), (.int .i64 0), (.slice none 0 0), (.slice none 0 0)] 5)), (.mk (some 11) none (.alloc [(.int .i64 0), (.int .u64 0), (.int .i64 0)] 3)), (.mk none none (.store 5 (.tmp 10) (.tmp 37))), (.mk none none (.store 3 (.tmp 11) (.tmp 38)))]
def r7_reevelaw18_MailRound : List AOper := [(.mk (some 39) none (.fldA 0 (.tmp 11))), (.mk (some 40) none (.load false 1 (.tmp 39))), (.mk (some 41) none (.bin .neq (.tmp 40) (.const (.int .i64 0))))]
def r8_reevelaw18_MailRound : List AOper := [(.mk (some 42) none (.load true 5 (.tmp 10))), (.mk (some 43) none (.load true 5 (.tmp 4))), (.mk (some 44) none (.call 11 [(.tmp 42), (.tmp 43)])), (.mk (some 8) none (.mv (.tmp 44)))]
def k7_reevelaw18_MailRound : ACode := (.cond (.tmp 41) (.seq (.reg r8_reevelaw18_MailRound) .ret) .skip)
def r9_reevelaw18_MailRound : List AOper := [(.mk (some 46) none (.load true 5 (.tmp 10))), (.mk (some 47) none (.mv (.tmp 1))), (.mk (some 48) none (.load true 6 (.tmp 9))), (.mk (some 49) none (.call 10 [(.tmp 46), (.tmp 47), (.tmp 48)])), (.mk (some 45) none (.mv (.tmp 49))), (.mk (some 50) none (.ext (.tmp 45) 0)), (.mk (some 51) none (.ext (.tmp 45) 1)), (.mk (some 12) none (.alloc [(.int .i64 0), (.int .i64 0), (.int .i64 0), (.slice none 0 0), (.slice none 0 0)] 5)), (.mk (some 13) none (.alloc [(.int .i64 0), (.int .u64 0), (.int .i64 0)] 3)), (.mk none none (.store 5 (.tmp 12) (.tmp 50))), (.mk none none (.store 3 (.tmp 13) (.tmp 51)))]
def r10_reevelaw18_MailRound : List AOper := [(.mk (some 53) none (.load true 5 (.tmp 10))), (.mk (some 54) none (.mv (.tmp 1))), (.mk (some 55) none (.mv (.tmp 2))), (.mk (some 56) none (.call 7 [(.tmp 55)])), (.mk (some 57) none (.build [(.int .i64 0), (.slice none 0 0), (.slice none 0 0), (.int .i64 0), (.int .i64 0), (.int .u64 0)] [(0, (1, (.const (.int .i64 8)))), (1, (1, (.tmp 56)))])), (.mk (some 58) none (.call 10 [(.tmp 53), (.tmp 54), (.tmp 57)])), (.mk (some 52) none (.mv (.tmp 58))), (.mk (some 59) none (.ext (.tmp 52) 0)), (.mk (some 60) none (.ext (.tmp 52) 1)), (.mk (some 14) none (.alloc [(.int .i64 0), (.int .i64 0), (.int .i64 0), (.slice none 0 0), (.slice none 0 0)] 5)), (.mk (some 15) none (.alloc [(.int .i64 0), (.int .u64 0), (.int .i64 0)] 3)), (.mk none none (.store 5 (.tmp 14) (.tmp 59))), (.mk none none (.store 3 (.tmp 15) (.tmp 60)))]
def r11_reevelaw18_MailRound : List AOper := [(.mk (some 61) none (.fldA 0 (.tmp 13))), (.mk (some 62) none (.load false 1 (.tmp 61))), (.mk (some 63) none (.bin .neq (.tmp 62) (.const (.int .i64 13))))]
def r12_reevelaw18_MailRound : List AOper := [(.mk (some 8) none (.mv (.const (.bool false))))]
def k11_reevelaw18_MailRound : ACode := (.cond (.tmp 63) (.seq (.reg r12_reevelaw18_MailRound) .ret) .skip)
def r13_reevelaw18_MailRound : List AOper := [(.mk (some 64) none (.fldA 0 (.tmp 15))), (.mk (some 65) none (.load false 1 (.tmp 64))), (.mk (some 66) none (.bin .neq (.tmp 65) (.const (.int .i64 0))))]
def r14_reevelaw18_MailRound : List AOper := [(.mk (some 67) none (.fldA 0 (.tmp 15))), (.mk (some 68) none (.load false 1 (.tmp 67))), (.mk (some 69) none (.bin .eql (.tmp 68) (.const (.int .i64 6)))), (.mk (some 70) none (.mv (.tmp 69))), (.mk (some 71) (some (70, true)) (.load true 5 (.tmp 14))), (.mk (some 72) (some (70, true)) (.load true 5 (.tmp 10))), (.mk (some 73) (some (70, true)) (.call 11 [(.tmp 71), (.tmp 72)])), (.mk (some 74) none (.pick (.tmp 70) (.tmp 73) (.const (.bool false)))), (.mk (some 8) none (.mv (.tmp 74)))]
def k13_reevelaw18_MailRound : ACode := (.cond (.tmp 66) (.seq (.reg r14_reevelaw18_MailRound) .ret) .skip)
def r15_reevelaw18_MailRound : List AOper := [(.mk (some 76) none (.load true 5 (.tmp 14))), (.mk (some 77) none (.mv (.tmp 1))), (.mk (some 78) none (.mv (.tmp 2))), (.mk (some 79) none (.call 7 [(.tmp 78)])), (.mk (some 80) none (.build [(.int .i64 0), (.slice none 0 0), (.slice none 0 0), (.int .i64 0), (.int .i64 0), (.int .u64 0)] [(0, (1, (.const (.int .i64 8)))), (1, (1, (.tmp 79)))])), (.mk (some 81) none (.call 10 [(.tmp 76), (.tmp 77), (.tmp 80)])), (.mk (some 75) none (.mv (.tmp 81))), (.mk (some 82) none (.ext (.tmp 75) 0)), (.mk (some 83) none (.ext (.tmp 75) 1)), (.mk (some 16) none (.alloc [(.int .i64 0), (.int .i64 0), (.int .i64 0), (.slice none 0 0), (.slice none 0 0)] 5)), (.mk (some 17) none (.alloc [(.int .i64 0), (.int .u64 0), (.int .i64 0)] 3)), (.mk none none (.store 5 (.tmp 16) (.tmp 82))), (.mk none none (.store 3 (.tmp 17) (.tmp 83)))]
def r16_reevelaw18_MailRound : List AOper := [(.mk (some 84) none (.fldA 1 (.tmp 15))), (.mk (some 85) none (.load false 1 (.tmp 84))), (.mk (some 86) none (.mv (.tmp 3))), (.mk (some 87) none (.bin .eql (.tmp 85) (.tmp 86))), (.mk (some 88) none (.mv (.tmp 87))), (.mk (some 89) (some (88, true)) (.fldA 0 (.tmp 17))), (.mk (some 90) (some (88, true)) (.load false 1 (.tmp 89))), (.mk (some 91) (some (88, true)) (.bin .eql (.tmp 90) (.const (.int .i64 14)))), (.mk (some 92) none (.pick (.tmp 88) (.tmp 91) (.const (.bool false)))), (.mk (some 93) none (.mv (.tmp 92))), (.mk (some 94) (some (93, true)) (.load true 5 (.tmp 14))), (.mk (some 95) (some (93, true)) (.load true 5 (.tmp 4))), (.mk (some 96) (some (93, true)) (.call 11 [(.tmp 94), (.tmp 95)])), (.mk (some 97) none (.pick (.tmp 93) (.tmp 96) (.const (.bool false)))), (.mk (some 8) none (.mv (.tmp 97)))]
def k15_reevelaw18_MailRound : ACode := (.seq (.reg r16_reevelaw18_MailRound) .ret)
def k14_reevelaw18_MailRound : ACode := (.seq (.drw r15_reevelaw18_MailRound [0, 0, 0, 4, 12, 31, 63, 127, 127, 0, 0, 1791, 4095]) k15_reevelaw18_MailRound)
def k12_reevelaw18_MailRound : ACode := (.seq (.seq (.reg r13_reevelaw18_MailRound) k13_reevelaw18_MailRound) k14_reevelaw18_MailRound)
def k10_reevelaw18_MailRound : ACode := (.seq (.seq (.reg r11_reevelaw18_MailRound) k11_reevelaw18_MailRound) k12_reevelaw18_MailRound)
def k9_reevelaw18_MailRound : ACode := (.seq (.drw r10_reevelaw18_MailRound [0, 0, 0, 4, 12, 31, 63, 127, 127, 0, 0, 1791, 4095]) k10_reevelaw18_MailRound)
def k8_reevelaw18_MailRound : ACode := (.seq (.reg r9_reevelaw18_MailRound) k9_reevelaw18_MailRound)
def k6_reevelaw18_MailRound : ACode := (.seq (.seq (.reg r7_reevelaw18_MailRound) k7_reevelaw18_MailRound) k8_reevelaw18_MailRound)
def k5_reevelaw18_MailRound : ACode := (.seq (.reg r6_reevelaw18_MailRound) k6_reevelaw18_MailRound)
def k3_reevelaw18_MailRound : ACode := (.seq (.seq (.reg r4_reevelaw18_MailRound) k4_reevelaw18_MailRound) k5_reevelaw18_MailRound)
def k2_reevelaw18_MailRound : ACode := (.seq (.reg r3_reevelaw18_MailRound) k3_reevelaw18_MailRound)
def k0_reevelaw18_MailRound : ACode := (.seq (.seq (.reg r1_reevelaw18_MailRound) k1_reevelaw18_MailRound) k2_reevelaw18_MailRound)
def c_reevelaw18_MailRound : ACode := (.seq (.reg r0_reevelaw18_MailRound) k0_reevelaw18_MailRound)
theorem e_reevelaw18_MailRound : ofProg Try.prog 3 = some ⟨98, [(.tmp 8)], c_reevelaw18_MailRound⟩ := by kernel_rfl

theorem MailRound_ok (d : Nat) (σ : AHeap) (S : StD) (a1 : Option Addr) (f1 : Nat) (a2 : Option Addr) (f2 : Nat) (thread : Int) (l : List Int) (a : Option Addr) (f : Nat) (W : Int) (hd : σ.dead = []) (h1 : SlS σ a1 S.sl) (h2 : SlT σ a2 S.th) (h3 : SlI σ a l)
    (hA : acall (ofProg Try.prog) 1000 (d + S.th.length + 11) 6 [] (σ.fresh.grow [(stL S a1 f1 a2 f2, 5)]) = some (.bool true, σ.fresh.grow [(stL S a1 f1 a2 f2, 5)])) :
    acall (ofProg Try.prog) 1000 (d + S.th.length + 12) 3 [stV S a1 f1 a2 f2, .int .i64 thread, .slice a l.length f, u64 W] σ = some (.bool true, σ) := by
  refine acall_flat e_reevelaw18_MailRound (by simp) rfl ?_
  have hgood := fun L => state_Good_ok (d + 3) (σ.fresh.grow L) S a1 f1 a2 f2 (by rw [grow_dead]; exact hd) (h1.fresh.grow L) (h2.fresh.grow L)
  rw [show d + 3 + S.th.length + 8 = d + S.th.length + 11 by omega] at hgood
  have hheavy := heavy_ok (d + S.th.length + 10)
  obtain ⟨τ1, ew1, k1⟩ := way_ok (d + S.th.length + 10) (σ.fresh.grow [(stL S a1 f1 a2 f2, 5)]) a l.length f (low_grow fresh_le _)
  rw [← grow_nil τ1] at ew1
  have w1 : τ1.low = σ.n := by rw [k1.low, grow_low]; rfl
  have n1 : σ.n + 1 ≤ τ1.n := by have := k1.n; rw [grow_n] at this; exact this
  have lo1 : τ1.low ≤ τ1.n := by omega
  have b1_0 := fun M o n => k1.own0 (σ := σ.fresh) (r := stL S a1 f1 a2 f2) (e := 5) rfl M o n
  have g1 := fun M => state_Good_ok (d + 3) (τ1.grow M) S a1 f1 a2 f2 (by rw [grow_dead, k1.dead, grow_dead]; exact hd) ((h1.fresh.keeps k1.cut).grow M) ((h2.fresh.keeps k1.cut).grow M)
  rw [show d + 3 + S.th.length + 8 = d + S.th.length + 11 by omega] at g1
  cases c0 : (decide ((100 : Int) < S.sl.length) || (decide ((50 : Int) < S.th.length) || (decide ((10 : Int) < l.length) || decide ((10 : Int) < (0 : Nat))))) with
  | true =>
    simp (disch := omega) only [hA, ew1, sto_0 lo1, hheavy, sl6_all, b1_0, c0, w1, r0_reevelaw18_MailRound, r1_reevelaw18_MailRound, r2_reevelaw18_MailRound, k1_reevelaw18_MailRound, r3_reevelaw18_MailRound, r4_reevelaw18_MailRound, r5_reevelaw18_MailRound, k4_reevelaw18_MailRound, r6_reevelaw18_MailRound, r7_reevelaw18_MailRound, r8_reevelaw18_MailRound, k7_reevelaw18_MailRound, r9_reevelaw18_MailRound, r10_reevelaw18_MailRound, r11_reevelaw18_MailRound, r12_reevelaw18_MailRound, k11_reevelaw18_MailRound, r13_reevelaw18_MailRound, r14_reevelaw18_MailRound, k13_reevelaw18_MailRound, r15_reevelaw18_MailRound, r16_reevelaw18_MailRound, k15_reevelaw18_MailRound, k14_reevelaw18_MailRound, k12_reevelaw18_MailRound, k10_reevelaw18_MailRound, k9_reevelaw18_MailRound, k8_reevelaw18_MailRound, k6_reevelaw18_MailRound, k5_reevelaw18_MailRound, k3_reevelaw18_MailRound, k2_reevelaw18_MailRound, k0_reevelaw18_MailRound, c_reevelaw18_MailRound, Z0, Z1, Z2, Z3, Z4, Z5, Z6, Z7, Z8, Z9, Z10, resAll, Nat.reduceAdd, Nat.reduceEqDiff, Nat.reduceLeDiff, Nat.reduceMul, ↓reduceIte, reduceCtorEq, Nat.reduceBEq, aoper, Nat.reduceLT, Int.reduceEq, Int.reduceLT, Int.reduceLE]
  | false => 
  cases c1 : goodB S with
  | false =>
    simp (disch := omega) only [hA, ew1, sto_0 lo1, hheavy, sl6_all, b1_0, c0, w1, g1, c1, r0_reevelaw18_MailRound, r1_reevelaw18_MailRound, r2_reevelaw18_MailRound, k1_reevelaw18_MailRound, r3_reevelaw18_MailRound, r4_reevelaw18_MailRound, r5_reevelaw18_MailRound, k4_reevelaw18_MailRound, r6_reevelaw18_MailRound, r7_reevelaw18_MailRound, r8_reevelaw18_MailRound, k7_reevelaw18_MailRound, r9_reevelaw18_MailRound, r10_reevelaw18_MailRound, r11_reevelaw18_MailRound, r12_reevelaw18_MailRound, k11_reevelaw18_MailRound, r13_reevelaw18_MailRound, r14_reevelaw18_MailRound, k13_reevelaw18_MailRound, r15_reevelaw18_MailRound, r16_reevelaw18_MailRound, k15_reevelaw18_MailRound, k14_reevelaw18_MailRound, k12_reevelaw18_MailRound, k10_reevelaw18_MailRound, k9_reevelaw18_MailRound, k8_reevelaw18_MailRound, k6_reevelaw18_MailRound, k5_reevelaw18_MailRound, k3_reevelaw18_MailRound, k2_reevelaw18_MailRound, k0_reevelaw18_MailRound, c_reevelaw18_MailRound, Z0, Z1, Z2, Z3, Z4, Z5, Z6, Z7, Z8, Z9, Z10, resAll, Nat.reduceAdd, Nat.reduceEqDiff, Nat.reduceLeDiff, Nat.reduceMul, ↓reduceIte, reduceCtorEq, Nat.reduceBEq, aoper, Nat.reduceLT, Int.reduceEq, Int.reduceLT, Int.reduceLE]
  | true =>
    obtain ⟨m1, m2, m3, m4⟩ := good_len c1
    obtain ⟨b1, rfl, hb1⟩ := h1.fresh.at (i := 0) m1
    obtain ⟨b2, rfl, hb2⟩ := h2.fresh.at (i := 0) m3
    have l3 : SlI τ1 a l := h3.fresh.keeps k1.cut
    have kc1 := Keeps.self τ1 [(callL 7 a l.length f none 0 0 0 0 W, 6)]
    obtain ⟨v, τ2, e2, b1', f1', b2', f2', rfl, s1, s2, k2, _, _⟩ := mail_Do7_ok d (τ1.grow [(callL 7 a l.length f none 0 0 0 0 W, 6)]) S b1 f1 b2 f2 thread W l a f none 0 c1 (by rw [grow_dead, k1.dead, grow_dead]; exact hd) (low_grow lo1 _)
      ((hb1.keeps k1.cut).keeps kc1) ((hb2.keeps k1.cut).keeps kc1) (l3.keeps kc1)
    rw [← grow_nil τ2] at e2
    have w2 : τ2.low = σ.n := by rw [k2.low, grow_low]; exact w1
    have n2 : τ1.n + 1 ≤ τ2.n := by have := k2.n; rw [grow_n] at this; exact this
    have lo2 : τ2.low ≤ τ2.n := by omega
    have k12 := k1.trans k2.cut
    have b2_0 := fun M o n => k12.own0 (σ := σ.fresh) (r := stL S (some ⟨b1, 0, none⟩) f1 (some ⟨b2, 0, none⟩) f2) (e := 5) rfl M o n
    have b2_1 := fun M o n => k2.own0 (r := callL 7 a l.length f none 0 0 0 0 W) (e := 6) rfl M o n
    by_cases c2 : (do7F S thread l W).2 = 0
    · obtain ⟨r1, r0, r2, r3⟩ := round_law c1 c2
      have l4 : SlI τ2 a l := l3.keeps k2.cut
      generalize hS1 : (do7F S thread l W).1 = S1 at *
      have kc2 := Keeps.self τ2 [(stL S1 (some ⟨b1', 0, none⟩) f1' (some ⟨b2', 0, none⟩) f2', 5), (repL 0 0 0, 3)]
      have d2 : τ2.dead = [] := by rw [k2.dead, grow_dead, k1.dead, grow_dead]; exact hd
      obtain ⟨q1, q2, q3, q4⟩ := good_len r1
      obtain ⟨v, τ3, e3, c1', g1', c2', g2', rfl, _, _, k3, _, _⟩ := mail_Do7_ok d (τ2.grow [(stL S1 (some ⟨b1', 0, none⟩) f1' (some ⟨b2', 0, none⟩) f2', 5), (repL 0 0 0, 3)]) S1 b1' f1' b2' f2' thread W l a f none 0 r1 (by rw [grow_dead]; exact d2) (low_grow lo2 _) (s1.keeps kc2) (s2.keeps kc2) (l4.keeps kc2)
      rw [← grow_nil τ3, r2, r0] at e3
      simp only [repL] at e3
      have w3 : τ3.low = σ.n := by rw [k3.low, grow_low]; exact w2
      have n3 : τ2.n + 2 ≤ τ3.n := by have := k3.n; rw [grow_n] at this; exact this
      have lo3 : τ3.low ≤ τ3.n := by omega
      have d3 : τ3.dead = [] := by rw [k3.dead, grow_dead]; exact d2
      generalize (do7F S1 thread l W).1 = S1' at e3
      simp (disch := omega) only [hA, ew1, sto_0 lo1, hheavy, sl6_all, b1_0, c0, w1, g1, c1, e2, repL, sto_0 lo2, sto_1 lo2, c2, b2_0, b2_1, e3, sto_0 lo3, sto_1 lo3, r0_reevelaw18_MailRound, r1_reevelaw18_MailRound, r2_reevelaw18_MailRound, k1_reevelaw18_MailRound, r3_reevelaw18_MailRound, r4_reevelaw18_MailRound, r5_reevelaw18_MailRound, k4_reevelaw18_MailRound, r6_reevelaw18_MailRound, r7_reevelaw18_MailRound, r8_reevelaw18_MailRound, k7_reevelaw18_MailRound, r9_reevelaw18_MailRound, r10_reevelaw18_MailRound, r11_reevelaw18_MailRound, r12_reevelaw18_MailRound, k11_reevelaw18_MailRound, r13_reevelaw18_MailRound, r14_reevelaw18_MailRound, k13_reevelaw18_MailRound, r15_reevelaw18_MailRound, r16_reevelaw18_MailRound, k15_reevelaw18_MailRound, k14_reevelaw18_MailRound, k12_reevelaw18_MailRound, k10_reevelaw18_MailRound, k9_reevelaw18_MailRound, k8_reevelaw18_MailRound, k6_reevelaw18_MailRound, k5_reevelaw18_MailRound, k3_reevelaw18_MailRound, k2_reevelaw18_MailRound, k0_reevelaw18_MailRound, c_reevelaw18_MailRound, Z0, Z1, Z2, Z3, Z4, Z5, Z6, Z7, Z8, Z9, Z10, resAll, Nat.reduceAdd, Nat.reduceEqDiff, Nat.reduceLeDiff, Nat.reduceMul, ↓reduceIte, reduceCtorEq, Nat.reduceBEq, aoper, Nat.reduceLT, Int.reduceEq, Int.reduceLT, Int.reduceLE]
      refine ends_drwK [(0, 3), (1, 3), (3, 9), (3, 10), (5, 9), (5, 10), (8, 11)] (by kernel_rfl) ?_
      generalize hM3 : ([(stL S1' (some ⟨c1', 0, none⟩) g1' (some ⟨c2', 0, none⟩) g2', 5), ([i64 13, u64 0, i64 0], 3)] : List (List Value × Nat)) = M3
      have kc3 := Keeps.self τ3 M3
      obtain ⟨τ4', ew4, k4'⟩ := way_ok (d + S.th.length + 10) ((τ3.grow M3).setLow (τ3.grow M3).n) a l.length f low_set
      have hk4 := fun {call : CallF} {os : List AOper} {t : Tmps} {Q : Kk} {d : Option Nat} {op : AOp} {v : Value} => kontK_call (call := call) (os := os) (t := t) (Q := Q) (d := d) (op := op) (v := v) (low_grow lo3 M3) k4'
      have k4 := k4'.unset
      rw [grow_low, w3] at k4 hk4
      generalize hτ4 : τ4'.setLow σ.n = τ4 at k4 hk4
      have w4 : τ4.low = σ.n := by rw [k4.low, grow_low]; exact w3
      have n4 : τ3.n + 2 ≤ τ4.n := by have := k4.n; rw [grow_n, ← hM3] at this; exact this
      have lo4 : τ4.low ≤ τ4.n := by omega
      have k24 := (k3.trans kc3).trans k4
      have s1' := (s1.keeps kc2).keeps k24
      have s2' := (s2.keeps kc2).keeps k24
      have l5 : SlI τ4 a l := (l4.keeps kc2).keeps k24
      have d4 : τ4.dead = [] := by rw [k4.dead, grow_dead]; exact d3
      obtain ⟨v, τ5', e5, d1', h1', d2', h2', rfl, u1, u2, k5', _, _⟩ := mail_Do8_ok d (τ4.setLow τ4.n) S1 b1' f1' b2' f2' thread l a f none 0 r1 d4 low_set s1' s2' (l5.setLow _)
      rw [r0] at e5
      have hk5 := fun {call : CallF} {os : List AOper} {t : Tmps} {Q : Kk} {d : Option Nat} {op : AOp} {v : Value} => kontK_call (call := call) (os := os) (t := t) (Q := Q) (d := d) (op := op) (v := v) lo4 k5'
      have k5 := k5'.unset
      rw [w4] at k5 hk5
      have u1' : SlAt slotL 5 (τ5'.setLow σ.n) d1' (do8F S1 thread l).1.sl := u1
      have u2' : SlAt thingL 13 (τ5'.setLow σ.n) d2' (do8F S1 thread l).1.th := u2
      generalize hτ5 : τ5'.setLow σ.n = τ5 at k5 hk5 u1' u2'
      rw [← grow_nil τ5] at hk5
      have w5 : τ5.low = σ.n := by rw [k5.low]; exact w4
      have n5 : τ4.n ≤ τ5.n := k5.n
      have lo5 : τ5.low ≤ τ5.n := by omega
      have x1 := fun M o n => k3.own0 (r := stL S1 (some ⟨b1', 0, none⟩) f1' (some ⟨b2', 0, none⟩) f2') (e := 5) rfl M o n
      have x2 := (k3.trans kc3).rows 0 rfl
      rw [Nat.add_zero] at x2
      have x3 : inN τ2.n (τ3.grow M3) = true := inN_of (by rw [grow_n]; omega)
      have y3 : okLow (τ3.grow M3) = true := okLow_of (low_grow lo3 _)
      have y4 : okLow τ4 = true := okLow_of lo4
      have y5 : okLow τ5 = true := okLow_of lo5
      have y5' : ∀ M, okLow (τ5.grow M) = true := fun M => okLow_of (low_grow lo5 M)
      simp (disch := omega) only [k_1, k_nil, kontK_if, kontK_al, o_allocS, stK_0, stK_1, atP_here, kd_load, kd_build, kd_mv, kd_ext, kd_call, kd_alloc, ldKind_if, famK_row, setLow_load, setLow_grown, consK_app, drwQ_app, drawOk_cons, drawOk_nil, pair_pe, pair_le, pair_lq, pair_pq, pair_qq, List.getElem?_cons_succ, List.getElem?_cons_zero, x1, x2, x3, y3, y4, y5, y5', ew4, hk4, e5, hk5, repL, r0_reevelaw18_MailRound, r1_reevelaw18_MailRound, r2_reevelaw18_MailRound, k1_reevelaw18_MailRound, r3_reevelaw18_MailRound, r4_reevelaw18_MailRound, r5_reevelaw18_MailRound, k4_reevelaw18_MailRound, r6_reevelaw18_MailRound, r7_reevelaw18_MailRound, r8_reevelaw18_MailRound, k7_reevelaw18_MailRound, r9_reevelaw18_MailRound, r10_reevelaw18_MailRound, r11_reevelaw18_MailRound, r12_reevelaw18_MailRound, k11_reevelaw18_MailRound, r13_reevelaw18_MailRound, r14_reevelaw18_MailRound, k13_reevelaw18_MailRound, r15_reevelaw18_MailRound, r16_reevelaw18_MailRound, k15_reevelaw18_MailRound, k14_reevelaw18_MailRound, k12_reevelaw18_MailRound, k10_reevelaw18_MailRound, k9_reevelaw18_MailRound, k8_reevelaw18_MailRound, k6_reevelaw18_MailRound, k5_reevelaw18_MailRound, k3_reevelaw18_MailRound, k2_reevelaw18_MailRound, k0_reevelaw18_MailRound, c_reevelaw18_MailRound, Z0, Z1, Z2, Z3, Z4, Z5, Z6, Z7, Z8, Z9, Z10, resAll, Nat.reduceAdd, Nat.reduceEqDiff, Nat.reduceLeDiff, Nat.reduceMul, ↓reduceIte, reduceCtorEq, Nat.reduceBEq, aoper, Nat.reduceLT, Int.reduceEq, Int.reduceLT, Int.reduceLE]
      have k35 := k4.trans k5
      have x4 : ∀ M o n, (τ5.grow M).loadN (τ3.n + 1) o n = sliceL [i64 13, u64 0, i64 0] o n := fun M o n => k35.own 1 (by rw [← hM3]; rfl) M o n
      have k25 := k24.trans k5
      have x5 := fun M o n => k25.own0 (r := stL S1 (some ⟨b1', 0, none⟩) f1' (some ⟨b2', 0, none⟩) f2') (e := 5) rfl M o n
      rcases r3 with r3 | ⟨bd, r3, r4⟩
      · rw [r3] at u1' u2'
        simp only [r3]
        have hsame := fun M => state_Same_ok (d + S.th.length + 9) (τ5.grow M) S1 S1 (some ⟨d1', 0, none⟩) h1' (some ⟨d2', 0, none⟩) h2' (some ⟨b1', 0, none⟩) f1' (some ⟨b2', 0, none⟩) f2' q2 q4 (.inr ⟨_, rfl, u1'.keeps (Keeps.self _ M)⟩) (.inr ⟨_, rfl, u2'.keeps (Keeps.self _ M)⟩) (.inr ⟨_, rfl, (s1'.keeps k5).keeps (Keeps.self _ M)⟩) (.inr ⟨_, rfl, (s2'.keeps k5).keeps (Keeps.self _ M)⟩)
        simp (disch := omega) only [x4, x5, sto_0 lo5, sto_1 lo5, hsame, sameB_refl, w5, r0_reevelaw18_MailRound, r1_reevelaw18_MailRound, r2_reevelaw18_MailRound, k1_reevelaw18_MailRound, r3_reevelaw18_MailRound, r4_reevelaw18_MailRound, r5_reevelaw18_MailRound, k4_reevelaw18_MailRound, r6_reevelaw18_MailRound, r7_reevelaw18_MailRound, r8_reevelaw18_MailRound, k7_reevelaw18_MailRound, r9_reevelaw18_MailRound, r10_reevelaw18_MailRound, r11_reevelaw18_MailRound, r12_reevelaw18_MailRound, k11_reevelaw18_MailRound, r13_reevelaw18_MailRound, r14_reevelaw18_MailRound, k13_reevelaw18_MailRound, r15_reevelaw18_MailRound, r16_reevelaw18_MailRound, k15_reevelaw18_MailRound, k14_reevelaw18_MailRound, k12_reevelaw18_MailRound, k10_reevelaw18_MailRound, k9_reevelaw18_MailRound, k8_reevelaw18_MailRound, k6_reevelaw18_MailRound, k5_reevelaw18_MailRound, k3_reevelaw18_MailRound, k2_reevelaw18_MailRound, k0_reevelaw18_MailRound, c_reevelaw18_MailRound, Z0, Z1, Z2, Z3, Z4, Z5, Z6, Z7, Z8, Z9, Z10, resAll, Nat.reduceAdd, Nat.reduceEqDiff, Nat.reduceLeDiff, Nat.reduceMul, ↓reduceIte, reduceCtorEq, Nat.reduceBEq, aoper, Nat.reduceLT, Int.reduceEq, Int.reduceLT, Int.reduceLE]
      · rw [r3] at u1' u2'
        simp only [r3]
        simp (disch := omega) only [x4, x5, sto_0 lo5, sto_1 lo5, r0_reevelaw18_MailRound, r1_reevelaw18_MailRound, r2_reevelaw18_MailRound, k1_reevelaw18_MailRound, r3_reevelaw18_MailRound, r4_reevelaw18_MailRound, r5_reevelaw18_MailRound, k4_reevelaw18_MailRound, r6_reevelaw18_MailRound, r7_reevelaw18_MailRound, r8_reevelaw18_MailRound, k7_reevelaw18_MailRound, r9_reevelaw18_MailRound, r10_reevelaw18_MailRound, r11_reevelaw18_MailRound, r12_reevelaw18_MailRound, k11_reevelaw18_MailRound, r13_reevelaw18_MailRound, r14_reevelaw18_MailRound, k13_reevelaw18_MailRound, r15_reevelaw18_MailRound, r16_reevelaw18_MailRound, k15_reevelaw18_MailRound, k14_reevelaw18_MailRound, k12_reevelaw18_MailRound, k10_reevelaw18_MailRound, k9_reevelaw18_MailRound, k8_reevelaw18_MailRound, k6_reevelaw18_MailRound, k5_reevelaw18_MailRound, k3_reevelaw18_MailRound, k2_reevelaw18_MailRound, k0_reevelaw18_MailRound, c_reevelaw18_MailRound, Z0, Z1, Z2, Z3, Z4, Z5, Z6, Z7, Z8, Z9, Z10, resAll, Nat.reduceAdd, Nat.reduceEqDiff, Nat.reduceLeDiff, Nat.reduceMul, ↓reduceIte, reduceCtorEq, Nat.reduceBEq, aoper, Nat.reduceLT, Int.reduceEq, Int.reduceLT, Int.reduceLE]
        refine ends_drwK [(0, 3), (1, 3), (3, 9), (3, 10), (5, 9), (5, 10), (8, 11)] (by kernel_rfl) ?_
        generalize hM5 : ([([i64 S.threads, i64 S.slots, i64 S.things, Value.slice (some ⟨d1', 0, none⟩) S.sl.length h1', Value.slice (some ⟨d2', 0, none⟩) S.th.length h2'], 5), ([i64 0, u64 W, i64 bd], 3)] : List (List Value × Nat)) = M5
        have kc5 := Keeps.self τ5 M5
        have l6 : SlI τ5 a l := l5.keeps k5
        have d5 : τ5.dead = [] := by rw [k5.dead]; exact d4
        obtain ⟨τ6', ew6, k6'⟩ := way_ok (d + S.th.length + 10) ((τ5.grow M5).setLow (τ5.grow M5).n) a l.length f low_set
        have hk6 := fun {call : CallF} {os : List AOper} {t : Tmps} {Q : Kk} {d : Option Nat} {op : AOp} {v : Value} => kontK_call (call := call) (os := os) (t := t) (Q := Q) (d := d) (op := op) (v := v) (low_grow lo5 M5) k6'
        have k6 := k6'.unset
        rw [grow_low, w5] at k6 hk6
        generalize hτ6 : τ6'.setLow σ.n = τ6 at k6 hk6
        have w6 : τ6.low = σ.n := by rw [k6.low, grow_low]; exact w5
        have n6 : τ5.n + 2 ≤ τ6.n := by have := k6.n; rw [grow_n, ← hM5] at this; exact this
        have lo6 : τ6.low ≤ τ6.n := by omega
        have d6 : τ6.dead = [] := by rw [k6.dead, grow_dead]; exact d5
        have v1 := (u1'.keeps kc5).keeps k6
        have v2 := (u2'.keeps kc5).keeps k6
        obtain ⟨v, τ7', e7, _, _, _, _, rfl, _, _, k7', _, _⟩ := mail_Do8_ok d (τ6.setLow τ6.n) S d1' h1' d2' h2' thread l a f none 0 c1 d6 low_set v1 v2 (((l6.keeps kc5).keeps k6).setLow _)
        rw [r4] at e7
        have hk7 := fun {call : CallF} {os : List AOper} {t : Tmps} {Q : Kk} {d : Option Nat} {op : AOp} {v : Value} => kontK_call (call := call) (os := os) (t := t) (Q := Q) (d := d) (op := op) (v := v) lo6 k7'
        have k7 := k7'.unset
        rw [w6] at k7 hk7
        generalize hτ7 : τ7'.setLow σ.n = τ7 at k7 hk7
        rw [← grow_nil τ7] at hk7
        have w7 : τ7.low = σ.n := by rw [k7.low]; exact w6
        have n7 : τ6.n ≤ τ7.n := k7.n
        have lo7 : τ7.low ≤ τ7.n := by omega
        have X1 : ∀ o n, (τ5.grow M5).loadN τ5.n o n = sliceL (stL S (some ⟨d1', 0, none⟩) h1' (some ⟨d2', 0, none⟩) h2') o n := fun o n => by rw [← hM5, ld_0]
        have X2 : (τ5.grow M5).t.get τ5.n = some (rowOf (stL S (some ⟨d1', 0, none⟩) h1' (some ⟨d2', 0, none⟩) h2', 5)) := by rw [← hM5]; exact grow_new τ5 _ 0 rfl
        have X3 : inN τ5.n (τ5.grow M5) = true := inN_of (by rw [grow_n, ← hM5]; simp)
        have Y3 : okLow (τ5.grow M5) = true := okLow_of (low_grow lo5 _)
        have Y4 : okLow τ6 = true := okLow_of lo6
        have Y5 : okLow τ7 = true := okLow_of lo7
        have Y5' : ∀ M, okLow (τ7.grow M) = true := fun M => okLow_of (low_grow lo7 M)
        have k57 := k6.trans k7
        have X4 : ∀ M o n, (τ7.grow M).loadN τ5.n o n = sliceL (stL S (some ⟨d1', 0, none⟩) h1' (some ⟨d2', 0, none⟩) h2') o n := fun M o n => k57.own0 (by rw [← hM5]; rfl) M o n
        have X5 : ∀ M o n, (τ7.grow M).loadN (τ5.n + 1) o n = sliceL [i64 0, u64 W, i64 bd] o n := fun M o n => k57.own 1 (by rw [← hM5]; rfl) M o n
        have k07 := ((k12.trans (kc2.trans k25)).trans kc5).trans k57
        have X6 := fun M o n => k07.own0 (σ := σ.fresh) (r := stL S (some ⟨b1, 0, none⟩) f1 (some ⟨b2, 0, none⟩) f2) (e := 5) rfl M o n
        have hsame := fun M => state_Same_ok (d + S.th.length + 9) (τ7.grow M) S S (some ⟨d1', 0, none⟩) h1' (some ⟨d2', 0, none⟩) h2' (some ⟨b1, 0, none⟩) f1 (some ⟨b2, 0, none⟩) f2 m2 m4 (.inr ⟨_, rfl, ((u1'.keeps kc5).keeps k57).keeps (Keeps.self _ M)⟩) (.inr ⟨_, rfl, ((u2'.keeps kc5).keeps k57).keeps (Keeps.self _ M)⟩)
          (.inr ⟨_, rfl, (hb1.keeps k07.cut).keeps (Keeps.self _ M)⟩) (.inr ⟨_, rfl, (hb2.keeps k07.cut).keeps (Keeps.self _ M)⟩)
        simp (disch := omega) only [k_1, k_nil, kontK_if, kontK_al, o_allocS, stK_0, stK_1, atP_here, kd_load, kd_build, kd_mv, kd_ext, kd_call, kd_alloc, ldKind_if, famK_row, setLow_load, setLow_grown, consK_app, drwQ_app, drawOk_cons, drawOk_nil, pair_pe, pair_le, pair_lq, pair_pq, pair_qq, List.getElem?_cons_succ, List.getElem?_cons_zero, X1, X2, X3, Y3, Y4, Y5, Y5', ew6, hk6, e7, hk7, repL, X4, X5, X6, sto_0 lo7, sto_1 lo7, hsame, sameB_refl, w7, r0_reevelaw18_MailRound, r1_reevelaw18_MailRound, r2_reevelaw18_MailRound, k1_reevelaw18_MailRound, r3_reevelaw18_MailRound, r4_reevelaw18_MailRound, r5_reevelaw18_MailRound, k4_reevelaw18_MailRound, r6_reevelaw18_MailRound, r7_reevelaw18_MailRound, r8_reevelaw18_MailRound, k7_reevelaw18_MailRound, r9_reevelaw18_MailRound, r10_reevelaw18_MailRound, r11_reevelaw18_MailRound, r12_reevelaw18_MailRound, k11_reevelaw18_MailRound, r13_reevelaw18_MailRound, r14_reevelaw18_MailRound, k13_reevelaw18_MailRound, r15_reevelaw18_MailRound, r16_reevelaw18_MailRound, k15_reevelaw18_MailRound, k14_reevelaw18_MailRound, k12_reevelaw18_MailRound, k10_reevelaw18_MailRound, k9_reevelaw18_MailRound, k8_reevelaw18_MailRound, k6_reevelaw18_MailRound, k5_reevelaw18_MailRound, k3_reevelaw18_MailRound, k2_reevelaw18_MailRound, k0_reevelaw18_MailRound, c_reevelaw18_MailRound, Z0, Z1, Z2, Z3, Z4, Z5, Z6, Z7, Z8, Z9, Z10, resAll, Nat.reduceAdd, Nat.reduceEqDiff, Nat.reduceLeDiff, Nat.reduceMul, ↓reduceIte, reduceCtorEq, Nat.reduceBEq, aoper, Nat.reduceLT, Int.reduceEq, Int.reduceLT, Int.reduceLE]
    · have hS := do7_err c2
      rw [hS] at s1 s2 e2
      have hsame := fun M => state_Same_ok (d + S.th.length + 9) (τ2.grow M) S S (some ⟨b1', 0, none⟩) f1' (some ⟨b2', 0, none⟩) f2' (some ⟨b1, 0, none⟩) f1 (some ⟨b2, 0, none⟩) f2 m2 m4 (.inr ⟨_, rfl, s1.keeps (Keeps.self _ M)⟩) (.inr ⟨_, rfl, s2.keeps (Keeps.self _ M)⟩) (.inr ⟨_, rfl, (hb1.keeps k12.cut).keeps (Keeps.self _ M)⟩) (.inr ⟨_, rfl, (hb2.keeps k12.cut).keeps (Keeps.self _ M)⟩)
      simp (disch := omega) only [hA, ew1, sto_0 lo1, hheavy, sl6_all, b1_0, c0, w1, g1, c1, e2, repL, sto_0 lo2, sto_1 lo2, c2, b2_0, hsame, sameB_refl, w2, r0_reevelaw18_MailRound, r1_reevelaw18_MailRound, r2_reevelaw18_MailRound, k1_reevelaw18_MailRound, r3_reevelaw18_MailRound, r4_reevelaw18_MailRound, r5_reevelaw18_MailRound, k4_reevelaw18_MailRound, r6_reevelaw18_MailRound, r7_reevelaw18_MailRound, r8_reevelaw18_MailRound, k7_reevelaw18_MailRound, r9_reevelaw18_MailRound, r10_reevelaw18_MailRound, r11_reevelaw18_MailRound, r12_reevelaw18_MailRound, k11_reevelaw18_MailRound, r13_reevelaw18_MailRound, r14_reevelaw18_MailRound, k13_reevelaw18_MailRound, r15_reevelaw18_MailRound, r16_reevelaw18_MailRound, k15_reevelaw18_MailRound, k14_reevelaw18_MailRound, k12_reevelaw18_MailRound, k10_reevelaw18_MailRound, k9_reevelaw18_MailRound, k8_reevelaw18_MailRound, k6_reevelaw18_MailRound, k5_reevelaw18_MailRound, k3_reevelaw18_MailRound, k2_reevelaw18_MailRound, k0_reevelaw18_MailRound, c_reevelaw18_MailRound, Z0, Z1, Z2, Z3, Z4, Z5, Z6, Z7, Z8, Z9, Z10, resAll, Nat.reduceAdd, Nat.reduceEqDiff, Nat.reduceLeDiff, Nat.reduceMul, ↓reduceIte, reduceCtorEq, Nat.reduceBEq, aoper, Nat.reduceLT, Int.reduceEq, Int.reduceLT, Int.reduceLE]
theorem MailRound_far (d : Nat) (σ : AHeap) (S : StD) (a1 : Option Addr) (f1 : Nat) (a2 : Option Addr) (f2 : Nat) (thread : Int) (l : List Int) (a : Option Addr) (f : Nat) (W : Int) (hm : (50 : Int) < S.th.length)
    (hA : acall (ofProg Try.prog) 1000 (d + 1) 6 [] (σ.fresh.grow [(stL S a1 f1 a2 f2, 5)]) = some (.bool true, σ.fresh.grow [(stL S a1 f1 a2 f2, 5)])) :
    acall (ofProg Try.prog) 1000 (d + 2) 3 [stV S a1 f1 a2 f2, .int .i64 thread, .slice a l.length f, u64 W] σ = some (.bool true, σ) := by
  refine acall_flat e_reevelaw18_MailRound (by simp) rfl ?_
  have hheavy := heavy_ok d
  obtain ⟨τ1, ew1, k1⟩ := way_ok d (σ.fresh.grow [(stL S a1 f1 a2 f2, 5)]) a l.length f (low_grow fresh_le _)
  rw [← grow_nil τ1] at ew1
  have w1 : τ1.low = σ.n := by rw [k1.low, grow_low]; rfl
  have n1 : σ.n + 1 ≤ τ1.n := by have := k1.n; rw [grow_n] at this; exact this
  have lo1 : τ1.low ≤ τ1.n := by omega
  have b1_0 := fun M o n => k1.own0 (σ := σ.fresh) (r := stL S a1 f1 a2 f2) (e := 5) rfl M o n
  have c0 : (decide ((100 : Int) < S.sl.length) || (decide ((50 : Int) < S.th.length) || (decide ((10 : Int) < l.length) || decide ((10 : Int) < (0 : Nat))))) = true := by simp [hm]
  simp (disch := omega) only [hA, ew1, sto_0 lo1, hheavy, sl6_all, b1_0, c0, w1, r0_reevelaw18_MailRound, r1_reevelaw18_MailRound, r2_reevelaw18_MailRound, k1_reevelaw18_MailRound, r3_reevelaw18_MailRound, r4_reevelaw18_MailRound, r5_reevelaw18_MailRound, k4_reevelaw18_MailRound, r6_reevelaw18_MailRound, r7_reevelaw18_MailRound, r8_reevelaw18_MailRound, k7_reevelaw18_MailRound, r9_reevelaw18_MailRound, r10_reevelaw18_MailRound, r11_reevelaw18_MailRound, r12_reevelaw18_MailRound, k11_reevelaw18_MailRound, r13_reevelaw18_MailRound, r14_reevelaw18_MailRound, k13_reevelaw18_MailRound, r15_reevelaw18_MailRound, r16_reevelaw18_MailRound, k15_reevelaw18_MailRound, k14_reevelaw18_MailRound, k12_reevelaw18_MailRound, k10_reevelaw18_MailRound, k9_reevelaw18_MailRound, k8_reevelaw18_MailRound, k6_reevelaw18_MailRound, k5_reevelaw18_MailRound, k3_reevelaw18_MailRound, k2_reevelaw18_MailRound, k0_reevelaw18_MailRound, c_reevelaw18_MailRound, Z0, Z1, Z2, Z3, Z4, Z5, Z6, Z7, Z8, Z9, Z10, resAll, Nat.reduceAdd, Nat.reduceEqDiff, Nat.reduceLeDiff, Nat.reduceMul, ↓reduceIte, reduceCtorEq, Nat.reduceBEq, aoper, Nat.reduceLT, Int.reduceEq, Int.reduceLT, Int.reduceLE]
end Go.Proofs.Ytidmcpkbcphpiaa
namespace Go.Proofs.Ytidmcpkbcphpiaa
open Go Go.Hai
def r0_reevelaw13_awake : List AOper := [(.mk (some 0) none (.mv (.const (.bool false))))]
def r1_reevelaw13_awake : List AOper := [(.mk (some 7) none (.call 34 [])), (.mk (some 8) none (.buildSl [(.int .i64 0)] 1 1 [(0, (1, (.const (.int .i64 1))))])), (.mk (some 9) none (.call 35 [(.tmp 8)])), (.mk (some 10) none (.call 14 [(.tmp 7), (.const (.int .i64 1)), (.tmp 9)])), (.mk (some 6) none (.mv (.tmp 10))), (.mk (some 11) none (.ext (.tmp 6) 0)), (.mk (some 12) none (.ext (.tmp 6) 1)), (.mk (some 1) none (.mv (.tmp 11))), (.mk (some 2) none (.mv (.tmp 12)))]
def r2_reevelaw13_awake : List AOper := [(.mk (some 14) none (.call 34 [])), (.mk (some 15) none (.buildSl [(.int .i64 0)] 1 1 [(0, (1, (.const (.int .i64 0))))])), (.mk (some 16) none (.call 35 [(.tmp 15)])), (.mk (some 17) none (.call 28 [(.tmp 14), (.const (.int .i64 0)), (.tmp 16)])), (.mk (some 13) none (.mv (.tmp 17))), (.mk (some 18) none (.ext (.tmp 13) 0)), (.mk (some 19) none (.ext (.tmp 13) 1)), (.mk (some 20) none (.ext (.tmp 13) 2)), (.mk (some 4) none (.alloc [(.int .i64 0), (.int .i64 0), (.int .i64 0), (.int .i64 0)] 4)), (.mk (some 3) none (.mv (.tmp 18))), (.mk none none (.store 4 (.tmp 4) (.tmp 19))), (.mk (some 5) none (.mv (.tmp 20)))]
def r3_reevelaw13_awake : List AOper := [(.mk (some 21) none (.mv (.tmp 2))), (.mk (some 22) none (.bin .eql (.tmp 21) (.const (.int .i64 0)))), (.mk (some 23) none (.mv (.tmp 22))), (.mk (some 24) (some (23, true)) (.mv (.tmp 1))), (.mk (some 25) (some (23, true)) (.bin .eql (.tmp 24) (.const (.int .i64 9)))), (.mk (some 26) none (.pick (.tmp 23) (.tmp 25) (.const (.bool false)))), (.mk (some 27) none (.mv (.tmp 26))), (.mk (some 28) (some (27, true)) (.mv (.tmp 5))), (.mk (some 29) (some (27, true)) (.bin .eql (.tmp 28) (.const (.int .i64 0)))), (.mk (some 30) none (.pick (.tmp 27) (.tmp 29) (.const (.bool false)))), (.mk (some 31) none (.mv (.tmp 30))), (.mk (some 32) (some (31, true)) (.mv (.tmp 3))), (.mk (some 33) (some (31, true)) (.bin .eql (.tmp 32) (.const (.int .i64 0)))), (.mk (some 34) none (.pick (.tmp 31) (.tmp 33) (.const (.bool false)))), (.mk (some 35) none (.mv (.tmp 34))), (.mk (some 36) (some (35, true)) (.fldA 0 (.tmp 4))), (.mk (some 37) (some (35, true)) (.load false 1 (.tmp 36))), (.mk (some 38) (some (35, true)) (.bin .eql (.tmp 37) (.const (.int .i64 1)))), (.mk (some 39) none (.pick (.tmp 35) (.tmp 38) (.const (.bool false)))), (.mk (some 40) none (.mv (.tmp 39))), (.mk (some 41) (some (40, true)) (.call 34 [])), (.mk (some 42) (some (40, true)) (.fld false 3 1 (.tmp 41))), (.mk (some 43) (some (40, true)) (.lenS (.tmp 42))), (.mk (some 44) (some (40, true)) (.bin .eql (.tmp 43) (.const (.int .i64 32)))), (.mk (some 45) none (.pick (.tmp 40) (.tmp 44) (.const (.bool false)))), (.mk (some 0) none (.mv (.tmp 45)))]
def k2_reevelaw13_awake : ACode := (.seq (.reg r3_reevelaw13_awake) .ret)
def k1_reevelaw13_awake : ACode := (.seq (.reg r2_reevelaw13_awake) k2_reevelaw13_awake)
def k0_reevelaw13_awake : ACode := (.seq (.reg r1_reevelaw13_awake) k1_reevelaw13_awake)
def c_reevelaw13_awake : ACode := (.seq (.reg r0_reevelaw13_awake) k0_reevelaw13_awake)
theorem e_reevelaw13_awake : ofProg Try.prog 12 = some ⟨46, [(.tmp 0)], c_reevelaw13_awake⟩ := by kernel_rfl

def heapL (rs : List AObj) (low : Nat) : AHeap := { t := Tr.of rs, n := rs.length, nf := 0, dead := [], low := low }
noncomputable def testN (n : Nat) (t : Tmps) (τ : AHeap) : A := AHeap.rec (fun _ _ _ _ low => Bool.rec none (tgetK t 0 fun v => boolK v none (some false) (some true)) (Nat.beq low n)) τ
set_option maxHeartbeats 20000000 in
theorem awake13_runs : (fun r0 r1 r2 r3 : AObj => acodeK c_reevelaw13_awake (acallK (ofProg Try.prog) 1000 110) 1000 (Tr.of []) (heapL [r0, r1, r2, r3] 4) (testN 4) (fun _ _ _ => none) (testN 4)) = fun _ _ _ _ => some true := by kernel_rfl
end Go.Proofs.Ytidmcpkbcphpiaa
namespace Go.Hai
open Go Go.ChangeShapes Go.WideShapes Go.ChangeAt Go.RowKit

theorem kept_of {w w' : World} {may : MemPlace → Prop} (h1 : w'.os = w.os) (h2 : w'.output = w.output) (h3 : ∀ B, B < w.heap.size → w'.heap[B]? = w.heap[B]?) : w.keptBut w' may := by
  refine ⟨h1, h2, fun i hi => ?_⟩
  rw [h3 i hi]
  cases w.heap[i]? with
  | none => rfl
  | some o => cases o with
    | cells c t fr => exact ⟨rfl, rfl, rfl, fun _ _ => rfl⟩
    | map es c => exact .inr ⟨rfl, rfl⟩
    | _ => rfl
end Go.Hai
namespace Go.Proofs.Ytidmcpkbcphpiaa
open Go Go.Hai Go.ChangeShapes Go.WideShapes
set_option maxRecDepth 100000
section
variable {H : Type} {enc : TypeId × Value → H} {P : Program} {w : World} {base : Nat} {spare : Nat → Bool} {held : Bool}
theorem trod_fields {t : TypeId} {fs : Array Field} {fuel : Nat} {cs : List Value} {x : DataW H × List MemPlace} (ht : P.underlying t = some (.struct fs)) (h : DataW.trod enc P w base spare held fuel t cs = some x) :
    cs.length = P.cellsOf t ∧ ∃ n, ∀ f ∈ fs.toList, ∃ y, DataW.trod enc P w base spare held n f.type ((cs.drop f.offset).take (P.cellsOf f.type)) = some y := by
  obtain ⟨xs, n, _, _, hl, hx, hf⟩ := DataW.trod_struct ht h
  refine ⟨hl, n, fun f hfm => ?_⟩
  obtain ⟨i, hi⟩ := List.mem_iff_getElem?.1 hfm
  have hi' : fs[i]? = some f := by simpa using hi
  have hlt : i < fs.size := (Array.getElem?_eq_some_iff.1 hi').1
  exact ⟨xs[i], by rw [hf i f hi', List.getElem?_eq_getElem (by omega)]⟩
theorem trod_items {t e : TypeId} {m fuel : Nat} {cs : List Value} {x : DataW H × List MemPlace} (ht : P.underlying t = some (.array m e)) (h : DataW.trod enc P w base spare held fuel t cs = some x) :
    cs.length = P.cellsOf t ∧ ∃ n, ∀ i, i < m → ∃ y, DataW.trod enc P w base spare held n e ((cs.drop (i * P.cellsOf e)).take (P.cellsOf e)) = some y := by
  cases fuel with
  | zero => simp [DataW.trod] at h
  | succ n =>
    unfold DataW.trod at h
    rw [ht] at h
    split at h <;> simp_all
    obtain ⟨hl, xs, hp, hd⟩ := h
    refine ⟨n, fun i hi => ?_⟩
    have h1 := mapM_some_get hp i i (by simp [hi])
    have h2 := mapM_some_length hp
    simp at h2
    rw [List.getElem?_eq_getElem (by omega)] at h1
    exact ⟨_, _, h1⟩
theorem cells_int {t : TypeId} {k : IntKind} {fuel : Nat} {cs : List Value} {x : DataW H × List MemPlace} (ht : P.underlying t = some (.int k)) (h : DataW.trod enc P w base spare held fuel t cs = some x) : ∃ z, cs = [.int k z] := by
  obtain ⟨z, rfl, _⟩ := DataW.trod_int ht h
  exact ⟨z, rfl⟩
theorem cells_bool {t : TypeId} {fuel : Nat} {cs : List Value} {x : DataW H × List MemPlace} (ht : P.underlying t = some .bool) (h : DataW.trod enc P w base spare held fuel t cs = some x) : ∃ z, cs = [.bool z] := by
  obtain ⟨z, rfl, _⟩ := DataW.trod_bool ht h
  exact ⟨z, rfl⟩
end
section
variable {H : Type} {enc : TypeId × Value → H} {w : World} {base : Nat} {spare : Nat → Bool} {held : Bool} {fuel : Nat} {cs : List Value} {x : DataW H × List MemPlace}
theorem co3 : Try.prog.cellsOf 3 = 1 := by kernel_rfl
theorem co4 : Try.prog.cellsOf 4 = 1 := by kernel_rfl
theorem co29 : Try.prog.cellsOf 29 = 1 := by kernel_rfl
theorem co71 : Try.prog.cellsOf 71 = 4 := by kernel_rfl
theorem co46 : Try.prog.cellsOf 46 = 4 := by kernel_rfl
theorem co23 : Try.prog.cellsOf 23 = 3 := by kernel_rfl
theorem co48 : Try.prog.cellsOf 48 = 5 := by kernel_rfl
theorem co73 : Try.prog.cellsOf 73 = 13 := by kernel_rfl
theorem co27 : Try.prog.cellsOf 27 = 5 := by kernel_rfl
theorem co24 : Try.prog.cellsOf 24 = 1 := by kernel_rfl
theorem co25 : Try.prog.cellsOf 25 = 1 := by kernel_rfl
theorem cap_cells (h : DataW.trod enc Try.prog w base spare held fuel 46 cs = some x) : ∃ a b c d : Int, cs = [i64 a, i64 b, i64 c, i64 d] := by
  obtain ⟨hl, n, hf⟩ := trod_fields Try.underlying46 h
  rw [co46] at hl
  match cs, hl with
  | [c0, c1, c2, c3], _ =>
    simp only [List.mem_cons, List.not_mem_nil, or_false, forall_eq_or_imp, forall_eq] at hf
    obtain ⟨⟨_, h0⟩, ⟨_, h1⟩, ⟨_, h2⟩, ⟨_, h3⟩⟩ := hf
    simp only [co3] at h0 h1 h2 h3
    obtain ⟨z0, e0⟩ := cells_int Try.underlying3 h0
    obtain ⟨z1, e1⟩ := cells_int Try.underlying3 h1
    obtain ⟨z2, e2⟩ := cells_int Try.underlying3 h2
    obtain ⟨z3, e3⟩ := cells_int Try.underlying3 h3
    simp at e0 e1 e2 e3
    exact ⟨z0, z1, z2, z3, by rw [e0, e1, e2, e3]⟩
theorem slot_cells (h : DataW.trod enc Try.prog w base spare held fuel 48 cs = some x) : ∃ s : SlotD, cs = slotL s := by
  obtain ⟨hl, n, hf⟩ := trod_fields Try.underlying48 h
  rw [co48] at hl
  match cs, hl with
  | [c0, c1, c2, c3, c4], _ =>
    simp only [List.mem_cons, List.not_mem_nil, or_false, forall_eq_or_imp, forall_eq] at hf
    obtain ⟨⟨_, h0⟩, ⟨_, h1⟩⟩ := hf
    simp only [co3, co46] at h0 h1
    obtain ⟨a, b, c, d, e0⟩ := cap_cells h0
    obtain ⟨z1, e1⟩ := cells_int Try.underlying3 h1
    simp at e0 e1
    exact ⟨⟨a, b, c, d, z1⟩, by rw [e0.1, e0.2.1, e0.2.2.1, e0.2.2.2, e1]⟩
theorem data_cells (h : DataW.trod enc Try.prog w base spare held fuel 71 cs = some x) : ∃ a b c d : Int, cs = [u64 a, u64 b, u64 c, u64 d] := by
  obtain ⟨hl, n, hf⟩ := trod_items Try.underlying71 h
  rw [co71] at hl
  match cs, hl with
  | [c0, c1, c2, c3], _ =>
    obtain ⟨_, h0⟩ := hf 0 (by omega)
    obtain ⟨_, h1⟩ := hf 1 (by omega)
    obtain ⟨_, h2⟩ := hf 2 (by omega)
    obtain ⟨_, h3⟩ := hf 3 (by omega)
    simp only [co29] at h0 h1 h2 h3
    obtain ⟨z0, e0⟩ := cells_int Try.underlying29 h0
    obtain ⟨z1, e1⟩ := cells_int Try.underlying29 h1
    obtain ⟨z2, e2⟩ := cells_int Try.underlying29 h2
    obtain ⟨z3, e3⟩ := cells_int Try.underlying29 h3
    simp at e0 e1 e2 e3
    exact ⟨z0, z1, z2, z3, by rw [e0, e1, e2, e3]⟩
theorem thing_cells (h : DataW.trod enc Try.prog w base spare held fuel 73 cs = some x) : ∃ t : ThingD, cs = thingL t := by
  obtain ⟨hl, n, hf⟩ := trod_fields Try.underlying73 h
  rw [co73] at hl
  match cs, hl with
  | [c0, c1, c2, c3, c4, c5, c6, c7, c8, c9, c10, c11, c12], _ =>
    simp only [List.mem_cons, List.not_mem_nil, or_false, forall_eq_or_imp, forall_eq] at hf
    obtain ⟨⟨_, h0⟩, ⟨_, h1⟩, ⟨_, h2⟩, ⟨_, h3⟩, ⟨_, h4⟩, ⟨_, h5⟩, ⟨_, h6⟩, ⟨_, h7⟩, ⟨_, h8⟩, ⟨_, h9⟩⟩ := hf
    simp only [co3, co4, co29, co71] at h0 h1 h2 h3 h4 h5 h6 h7 h8 h9
    obtain ⟨z0, e0⟩ := cells_int Try.underlying3 h0
    obtain ⟨z1, e1⟩ := cells_int Try.underlying3 h1
    obtain ⟨z2, e2⟩ := cells_int Try.underlying3 h2
    obtain ⟨z3, e3⟩ := cells_int Try.underlying3 h3
    obtain ⟨z4, e4⟩ := cells_int Try.underlying3 h4
    obtain ⟨z5, e5⟩ := cells_int Try.underlying3 h5
    obtain ⟨z6, e6⟩ := cells_int Try.underlying3 h6
    obtain ⟨z7, e7⟩ := cells_bool Try.underlying4 h7
    obtain ⟨z8, e8⟩ := cells_int Try.underlying29 h8
    obtain ⟨y0, y1, y2, y3, e9⟩ := data_cells h9
    simp at e0 e1 e2 e3 e4 e5 e6 e7 e8 e9
    exact ⟨⟨z0, z1, z2, z3, z4, z5, z6, z7, z8, y0, y1, y2, y3⟩, by rw [e0, e1, e2, e3, e4, e5, e6, e7, e8, e9.1, e9.2.1, e9.2.2.1, e9.2.2.2]⟩
theorem int_cells (h : DataW.trod enc Try.prog w base spare held fuel 3 cs = some x) : ∃ z : Int, cs = intL z := cells_int Try.underlying3 h
end

def roRow (l : List Value) (es : Nat) : AObj := .row (Tr.of l) l.length es false false none
theorem load_ro {τ : AHeap} {b es o n : Nat} {l : List Value} (h : τ.t.get b = some (roRow l es)) (hl : o + n ≤ l.length) : τ.loadN b o n = some ((l.drop o).take n) := by
  unfold AHeap.loadN AHeap.row?
  rw [h]
  simp only [roRow, AHeap.alive, if_true]
  rw [if_pos (Nat.ble_eq_true_of_le hl), cellsFrom_of _ _ _ hl]
section
variable {α : Type} {cells : α → List Value} {es : Nat}
theorem SlAt_ro (hes : ∀ x, (cells x).length = es) {σ : AHeap} {b : Nat} {l : List α} (hb : b < σ.n) (h : σ.t.get b = some (roRow (flatL cells l) es)) : SlAt cells es σ b l := by
  refine ⟨hb, fun i x hx o n ho => ?_⟩
  have hi := (List.getElem?_eq_some_iff.1 hx).1
  have hm : (i + 1) * es ≤ l.length * es := Nat.mul_le_mul_right _ hi
  rw [Nat.succ_mul] at hm
  rw [load_ro h (by rw [flatL_length hes]; omega)]
  obtain ⟨r, hr⟩ := flatL_drop hes l i x hx
  rw [← List.drop_drop, hr]
  have hl := hes x
  rw [List.drop_append_of_le_length (by omega), List.take_append_of_le_length (by rw [List.length_drop]; omega)]
theorem choose_list {p : Nat → α → Prop} : ∀ n, (∀ i, i < n → ∃ x, p i x) → ∃ l : List α, l.length = n ∧ ∀ (i : Nat) (x : α), l[i]? = some x → p i x := by
  intro n
  induction n with
  | zero => intro _; exact ⟨[], rfl, fun i x h => by simp at h⟩
  | succ n ih =>
    intro h
    obtain ⟨l, h1, h2⟩ := ih fun i hi => h i (by omega)
    obtain ⟨x, hx⟩ := h n (by omega)
    refine ⟨l ++ [x], by simp [h1], fun i y hy => ?_⟩
    by_cases hi : i < l.length
    · rw [List.getElem?_append_left hi] at hy; exact h2 i y hy
    · have hi' : i = n := by have := (List.getElem?_eq_some_iff.1 hy).1; simp at this; omega
      subst hi'
      rw [← h1] at hy
      simp at hy
      subst hy; exact hx
theorem isCell_scal {v : Value} (h : scal v = true) : isCell v = true := by
  cases v <;> first | rfl | simp [scal] at h
theorem slice_view [Rho] {H : Type} {enc : TypeId × Value → H} {P : Program} {w : World} (hes : ∀ x, (cells x).length = es) (hes0 : 0 < es) (hsc : ∀ x, ∀ v ∈ cells x, scal v = true) {t e : TypeId} (ht : P.underlying t = some (.slice e)) (hc : P.cellsOf e = es)
    (hcell : ∀ n cs y, DataW.trod enc P w 0 (fun _ => true) true n e cs = some y → ∃ x, cs = cells x) {v : Value} {fuel : Nat} {x : DataW H × List MemPlace} (h : DataW.trod enc P w 0 (fun _ => true) true fuel t [v] = some x) (b : Nat) :
    ∃ (l : List α) (a1 : Option Addr) (f1 : Nat) (loc : Option Hai.Loc), (∀ ρ : Ren, ρ b = loc → VR ρ (.slice a1 l.length f1) v) ∧ (∀ σ : AHeap, b < σ.n → σ.t.get b = some (roRow (flatL cells l) es) → SlP cells es σ a1 l) ∧
      (∀ L, loc = some L → L.es = es ∧ L.blk < w.heap.size ∧ ∀ ρ, RowAt ρ w (Tr.of (flatL cells l)) (flatL cells l).length false L) := by
  rcases Deep.open_slice ht h with ⟨h1, _⟩ | ⟨a, len, cap, m, n, D, Pl, h1, _, hlc, _, hm, _, hel⟩
  · simp only [List.cons.injEq, and_true] at h1
    subst h1
    exact ⟨[], none, 0, none, fun ρ _ => .flat rfl, fun _ _ _ => .inl rfl, fun L h => by cases h⟩
  · simp only [List.cons.injEq, and_true] at h1
    subst h1
    simp only [if_true] at hm
    subst hm
    rw [hc] at hel
    by_cases h0 : m = 0
    · subst h0
      have : len = 0 := by omega
      subst this
      exact ⟨[], some a, 0, none, fun ρ _ => .sl0, fun _ _ _ => .inl rfl, fun L h => by cases h⟩
    · have hel' : ∀ i, i < m → ∃ y, w.cells? 0 (a.add (i * es)) es = some (cells y) := fun i hi => by
        obtain ⟨cs', g1, g2⟩ := hel i hi
        obtain ⟨y, rfl⟩ := hcell _ _ _ g2
        exact ⟨y, g1⟩
      obtain ⟨l, l1, l2⟩ := choose_list (p := fun i y => w.cells? 0 (a.add (i * es)) es = some (cells y)) len fun i hi => hel' i (by omega)
      obtain ⟨y0, hy0⟩ := hel' 0 (by omega)
      obtain ⟨_, _, hy0'⟩ := World.cells?_some hy0
      have hc0 := hy0' 0 hes0
      have hlen0 := hes y0
      rw [Nat.zero_mul, List.getElem?_eq_getElem (by omega)] at hc0
      simp only [Addr.add, if_true] at hc0
      obtain ⟨blk, off, sp⟩ := a
      have hheap : ∃ C T fr, w.heap[blk]? = some (.cells C T fr) ∧ sp = none ∧ off < C.size := by
        unfold World.cell? at hc0
        split at hc0
        · next C T fr hh =>
          split at hc0
          · cases hc0
          · next hsp =>
            refine ⟨C, T, fr, hh, by cases sp <;> simp_all, ?_⟩
            exact (Array.getElem?_eq_some_iff.1 hc0).1
        · cases hc0
      obtain ⟨C, T, fr, hh, rfl, hoff⟩ := hheap
      have hblk : blk < w.heap.size := (Array.getElem?_eq_some_iff.1 hh).1
      have hfl := flatL_length hes l
      have hcells : ∀ j, j < l.length * es → C[off + j]? = (flatL cells l)[j]? := by
        intro j hj
        have hq : j / es < l.length := (Nat.div_lt_iff_lt_mul hes0).2 hj
        have hr : j % es < es := Nat.mod_lt _ hes0
        have hj' : j = j / es * es + j % es := by rw [Nat.mul_comm]; exact (Nat.div_add_mod _ _).symm
        have hx := List.getElem?_eq_getElem hq
        generalize l[j / es] = y at hx
        obtain ⟨_, _, g⟩ := World.cells?_some (l2 _ _ hx)
        have g := g (j % es) hr
        rw [add_none, add_none] at g
        unfold World.cell? at g
        rw [hh] at g
        simp only [Option.isSome_none, Bool.false_eq_true, if_false] at g
        rw [hj', flatL_get hes hx hr, ← g]
        congr 1
        omega
      refine ⟨l, some ⟨b, 0, none⟩, 2, some ⟨blk, off, l.length * es, es⟩, fun ρ hρ => ?_, fun σ hb hg => .inr ⟨b, rfl, SlAt_ro hes hb hg⟩, fun L hL => ?_⟩
      · rw [l1]
        exact VR.sl (L := ⟨blk, off, len * es, es⟩) (by rw [hρ, l1]) hlc (by decide) (fun h => by cases h) (.inl rfl)
      · cases hL
        refine ⟨rfl, hblk, fun ρ => ⟨⟨C, T, fr, hh, ?_, Nat.le_of_eq hfl, (fun h => by cases h), fun i v hi hv => ?_⟩⟩⟩
        · by_cases hz : l.length * es = 0
          · rw [hz]; simp; omega
          · have := hcells (l.length * es - 1) (by omega)
            rw [List.getElem?_eq_getElem (by omega)] at this
            have := (Array.getElem?_eq_some_iff.1 this).1
            simp only
            omega
        · rw [Tr.get_of] at hv
          have hmem : scal v = true := by
            have := List.mem_of_getElem? hv
            unfold flatL at this
            rw [List.mem_flatten] at this
            obtain ⟨c, hc1, hc2⟩ := this
            obtain ⟨y, _, rfl⟩ := List.mem_map.1 hc1
            exact hsc y v hc2
          exact ⟨isCell_scal hmem, v, by rw [hcells i (by omega)]; exact hv, .flat (flat_of_scal hmem)⟩
end
end Go.Proofs.Ytidmcpkbcphpiaa
namespace Go.Proofs.Ytidmcpkbcphpiaa
open Go Go.Hai Go.ChangeShapes Go.WideShapes
set_option maxRecDepth 100000

def heapR (R : List (List Value × Nat)) : AHeap := heapL (R.map fun p => roRow p.1 p.2) R.length
theorem heapR_get {R : List (List Value × Nat)} {k : Nat} {p : List Value × Nat} (h : R[k]? = some p) : (heapR R).t.get k = some (roRow p.1 p.2) := by
  show (Tr.of _).get k = _
  rw [Tr.get_of, List.getElem?_map, h]; rfl
theorem heapR_n (R : List (List Value × Nat)) : (heapR R).n = R.length := by simp [heapR, heapL]
def locsL (ls : List (Option Hai.Loc)) : Ren := fun b => (ls[b]?).getD none
theorem locsL_at {ls : List (Option Hai.Loc)} {b : Nat} {o : Option Hai.Loc} (h : ls[b]? = some o) : locsL ls b = o := by unfold locsL; rw [h]; rfl
def LocOk [Rho] (w : World) (l : List Value) (es : Nat) (loc : Option Hai.Loc) : Prop := ∀ L, loc = some L → L.es = es ∧ L.blk < w.heap.size ∧ ∀ ρ, RowAt ρ w (Tr.of l) l.length false L
def LocsOk [Rho] (w : World) : List (List Value × Nat) → List (Option Hai.Loc) → Prop
  | [], [] => True
  | p :: R, o :: ls => LocOk w p.1 p.2 o ∧ LocsOk w R ls
  | _, _ => False
theorem LocsOk.get [Rho] {w : World} : ∀ {R : List (List Value × Nat)} {ls : List (Option Hai.Loc)}, LocsOk w R ls → ∀ {b : Nat} {L : Hai.Loc}, locsL ls b = some L → ∃ p, R[b]? = some p ∧ LocOk w p.1 p.2 (some L) := by
  intro R
  induction R with
  | nil =>
    intro ls h b L hb
    cases ls with
    | nil => simp [locsL] at hb
    | cons _ _ => exact h.elim
  | cons p R ih =>
    intro ls h b L hb
    cases ls with
    | nil => exact h.elim
    | cons o ls =>
      cases b with
      | zero =>
        have : o = some L := by simpa [locsL] using hb
        subst this
        exact ⟨p, rfl, h.1⟩
      | succ b => exact ih h.2 (b := b) (by simpa [locsL] using hb)
theorem simL [Rho] {w : World} {R : List (List Value × Nat)} {ls : List (Option Hai.Loc)} (h : LocsOk w R ls) : Sim (locsL ls) (heapR R) w := by
  have key : ∀ b L, locsL ls b = some L → b < R.length ∧ ∃ c e, (heapR R).t.get b = some (roRow c e) ∧ L.es = e ∧ L.blk < w.heap.size ∧ ∀ ρ, RowAt ρ w (Tr.of c) c.length false L := by
    intro b L hb
    obtain ⟨p, hp, hl⟩ := h.get hb
    exact ⟨(List.getElem?_eq_some_iff.1 hp).1, p.1, p.2, heapR_get hp, hl L rfl⟩
  refine ⟨fun b L h => by rw [heapR_n]; exact (key b L h).1, ?_, ?_, ?_, ?_, ?_, ?_⟩
  · intro b L h; obtain ⟨_, c, e, _, _, g, _⟩ := key b L h; exact g
  · intro b L h; obtain ⟨_, c, e, g, _⟩ := key b L h; rw [g]; simp
  · intro b L cs len es top rw' fam h hg
    obtain ⟨_, c, e, g, g1, g2, g3⟩ := key b L h
    rw [g] at hg
    simp only [roRow, Option.some.injEq, AObj.row.injEq] at hg
    obtain ⟨rfl, rfl, rfl, rfl, rfl, rfl⟩ := hg
    exact ⟨g1, (fun p hp => by cases hp), fun _ => g3 _⟩
  · intro b L o h hg
    obtain ⟨_, c, e, g, _⟩ := key b L h
    rw [g] at hg
    cases hg
  · intro b b' L L' _ h h' _
    obtain ⟨_, c, e, g, _⟩ := key b L h
    obtain ⟨_, c', e', g', _⟩ := key b' L' h'
    rw [g, g']
    exact .inl ⟨rfl, rfl⟩
  · intro b b' L L' cs len es fam cs' len' es' top' rw' fam' _ h _ _ hg
    obtain ⟨_, c, e, g, _⟩ := key b L h
    rw [g] at hg
    simp only [roRow, Option.some.injEq, AObj.row.injEq] at hg
    simp at hg
theorem awake_of {f : FuncId} {N : Nat} {c : ACode} (he : ofProg Try.prog f = some ⟨N, [.tmp 0], c⟩) (rs : List AObj)
    (h : acodeK c (acallK (ofProg Try.prog) 1000 110) 1000 (Tr.of []) (heapL rs rs.length) (testN rs.length) (fun _ _ _ => none) (testN rs.length) = some true) (low : Nat) :
    acall (ofProg Try.prog) 1000 111 f [] (heapL rs low) = some (.bool true, heapL rs low) := by
  letI : Rho := ⟨fun _ => 0⟩
  rw [acodeK_eq (acallK_eq (ofProg Try.prog) 1000 110)] at h
  refine acall_flat he (by simp) rfl ?_
  rw [grow_nil]
  have e : (heapL rs low).fresh = heapL rs rs.length := rfl
  rw [e]
  have fin : ∀ (t : Tmps) (τ : AHeap), testN rs.length t τ = some true → (match resAll t τ [.tmp 0] with | some vs => one vs = .bool true | none => False) ∧ τ.low = rs.length := by
    intro t τ ht
    obtain ⟨a, b, c, d, low⟩ := τ
    replace ht : (Bool.rec none (tgetK t 0 fun v => boolK v none (some false) (some true)) (Nat.beq low rs.length) : A) = some true := ht
    cases hl : Nat.beq low rs.length with
    | false => rw [hl] at ht; cases ht
    | true =>
      rw [hl] at ht
      replace ht : tgetK t 0 (fun v => boolK v none (some false) (some true)) = some true := ht
      rw [tgetK_eq] at ht
      refine ⟨?_, Nat.eq_of_beq_eq_true hl⟩
      simp only [resAll, resOne, one]
      cases hv : tget t 0 with
      | bool r => cases r with
        | true => rfl
        | false => rw [hv] at ht; cases ht
      | _ => rw [hv] at ht; cases ht
  show Hai.Ends _ (finQ rs.length _ _)
  cases hx : acode (acall (ofProg Try.prog) 1000 110) 1000 c (Tr.of []) (heapL rs rs.length) with
  | none => rw [hx] at h; cases h
  | some p =>
    obtain ⟨ex, t, τ⟩ := p
    rw [hx] at h
    cases ex with
    | exit i => cases h
    | normal => exact fin t τ h
    | ret => exact fin t τ h

theorem scal_slot (x : SlotD) (v : Value) (h : v ∈ slotL x) : scal v = true := by
  simp at h
  rcases h with h | h | h | h | h <;> subst h <;> rfl
theorem scal_thing (x : ThingD) (v : Value) (h : v ∈ thingL x) : scal v = true := by
  simp at h
  rcases h with h | h | h | h | h | h | h | h | h | h | h | h | h <;> subst h <;> rfl
theorem scal_int (x : Int) (v : Value) (h : v ∈ intL x) : scal v = true := by
  simp at h
  subst h; rfl


theorem Try.own : ownKnob Try.prog.godebug = none := by kernel_rfl
theorem Try.laidOut : laidOutB Try.prog = true := by kernel_rfl
section
variable {H : Type} {enc : TypeId × Value → H} {W : World}
theorem state_view [Rho] {cs : Array Value} {d0 : DataW H} {p0 : List MemPlace} (g0 : DataW.Trod enc Try.prog W 0 (fun _ => true) true 27 (.agg cs) d0 p0) (b0 b1 : Nat) :
    ∃ (S : StD) (a1 : Option Addr) (f1 : Nat) (a2 : Option Addr) (f2 : Nat) (loc0 loc1 : Option Hai.Loc), (∀ ρ : Ren, ρ b0 = loc0 → ρ b1 = loc1 → VR ρ (stV S a1 f1 a2 f2) (.agg cs)) ∧
      (∀ σ : AHeap, b0 < σ.n → σ.t.get b0 = some (roRow (flatL slotL S.sl) 5) → SlS σ a1 S.sl) ∧ (∀ σ : AHeap, b1 < σ.n → σ.t.get b1 = some (roRow (flatL thingL S.th) 13) → SlT σ a2 S.th) ∧
      LocOk W (flatL slotL S.sl) 5 loc0 ∧ LocOk W (flatL thingL S.th) 13 loc1 := by
  obtain ⟨fuel, hf⟩ := g0
  have hcs : (Value.agg cs).cells.toList = cs.toList := rfl
  rw [hcs] at hf
  obtain ⟨hl, m, hfs⟩ := trod_fields Try.underlying27 hf
  rw [co27] at hl
  simp only [List.mem_cons, List.not_mem_nil, or_false, forall_eq_or_imp, forall_eq] at hfs
  obtain ⟨⟨_, k0⟩, ⟨_, k1⟩, ⟨_, k2⟩⟩ := hfs
  obtain ⟨ds, hds⟩ : ∃ ds, cs.toList = ds := ⟨_, rfl⟩
  rw [hds] at hl k0 k1 k2
  match ds, hl with
  | [c0, c1, c2, c3, c4], _ =>
    simp only [co23, co24, co25, List.drop_zero, List.take_succ_cons, List.take_zero, List.drop_succ_cons] at k0 k1 k2
    obtain ⟨hl0, m0, hf0⟩ := trod_fields Try.underlying23 k0
    simp only [List.mem_cons, List.not_mem_nil, or_false, forall_eq_or_imp, forall_eq] at hf0
    obtain ⟨⟨_, j0⟩, ⟨_, j1⟩, ⟨_, j2⟩⟩ := hf0
    simp only [co3, List.drop_zero, List.take_succ_cons, List.take_zero, List.drop_succ_cons] at j0 j1 j2
    obtain ⟨z0, e0⟩ := int_cells j0
    obtain ⟨z1, e1⟩ := int_cells j1
    obtain ⟨z2, e2⟩ := int_cells j2
    simp only [List.cons.injEq, and_true] at e0 e1 e2
    subst e0; subst e1; subst e2
    obtain ⟨sl, a1, f1, loc0, q1, q2, q3⟩ := slice_view (cells := slotL) (es := 5) (fun _ => rfl) (by omega) scal_slot Try.underlying24 co48 (fun _ _ _ h => slot_cells h) k1 b0
    obtain ⟨th, a2, f2, loc1, r1, r2, r3⟩ := slice_view (cells := thingL) (es := 13) (fun _ => rfl) (by omega) scal_thing Try.underlying25 co73 (fun _ _ _ h => thing_cells h) k2 b1
    refine ⟨⟨z0, z1, z2, sl, th⟩, a1, f1, a2, f2, loc0, loc1, fun ρ h0 h1 => ?_, q2, r2, q3, r3⟩
    have ecs : cs = [i64 z0, i64 z1, i64 z2, c3, c4].toArray := by rw [← hds]
    rw [ecs]
    exact VR.of_agg (.cons (.flat rfl) (.cons (.flat rfl) (.cons (.flat rfl) (.cons (q1 _ h0) (.cons (r1 _ h1) .nil)))))
theorem ints_view [Rho] {v : Value} {d0 : DataW H} {p0 : List MemPlace} (g0 : DataW.Trod enc Try.prog W 0 (fun _ => true) true 28 v d0 p0) (hv : v.cells.toList = [v]) (b : Nat) :
    ∃ (l : List Int) (a : Option Addr) (f : Nat) (loc : Option Hai.Loc), (∀ ρ : Ren, ρ b = loc → VR ρ (.slice a l.length f) v) ∧
      (∀ σ : AHeap, b < σ.n → σ.t.get b = some (roRow (flatL intL l) 1) → SlI σ a l) ∧ LocOk W (flatL intL l) 1 loc := by
  obtain ⟨fuel, hf⟩ := g0
  rw [hv] at hf
  exact slice_view (cells := intL) (es := 1) (fun _ => rfl) (by omega) scal_int Try.underlying28 co3 (fun _ _ _ h => int_cells h) hf b
/- a law's call -/
theorem law_calls [Rho] {f : FuncId} {d : Nat} {R : List (List Value × Nat)} {ls : List (Option Hai.Loc)} {args : List Value} {vs : Array Value} (hrun : acall (ofProg Try.prog) 1000 d f args (heapR R) = some (.bool true, heapR R))
    (hl : LocsOk W R ls) (ha : VRs (locsL ls) args vs.toList) : Calls Try.prog f vs W fun e W' => e = .returned (.bool true) ∧ W'.os = W.os ∧ W'.output = W.output ∧ ∀ B, B < W.heap.size → W'.heap[B]? = W.heap[B]? := by
  obtain ⟨_, _, hC⟩ := acall_ok (ofProg_ok (P := Try.prog)) d _ _ _ _ _ hrun
  have hsim := simL hl
  have hC' := hC _ W _ hsim ha
  refine hC'.mono ?_
  rintro e w' ⟨u, ρ', rfl, hvu, hp⟩
  rw [bool_eq hvu]
  refine ⟨rfl, hp.io.1, hp.io.2, fun B hB => hp.frame B hB ?_⟩
  rintro ⟨b, L, u1, _, _, u2⟩
  obtain ⟨p, hp, _⟩ := hl.get u1
  rw [heapR_get hp] at u2
  cases u2
theorem trodAll_stays {P : Program} (hl : laidOutB P = true) {W' : World} {sp' : Nat → Bool} : ∀ {ts : List TypeId} {vs : List Value} {ds : List (DataW H)} {ps : List MemPlace}, (∀ t ∈ ts, P.readableRec t = true ∧ t < P.types.size) →
    DataW.TrodAll enc P W 0 (fun _ => true) true ts vs ds ps → (∀ p ∈ ps, W.sameAt W' p) → (∀ p ∈ ps, sp' p.block = true) → DataW.TrodAll enc P W' 0 sp' true ts vs ds ps := by
  intro ts
  induction ts with
  | nil =>
    intro vs ds ps _ h _ _
    obtain ⟨rfl, rfl, rfl⟩ := trodAll_nil h
    exact trodAll_mk0
  | cons t ts ih =>
    intro vs ds ps ht h hs hp
    obtain ⟨v, vs', d, ds', p, q, rfl, rfl, rfl, h1, h2⟩ := trodAll_cons h
    obtain ⟨r1, r2⟩ := ht t (by simp)
    exact ⟨p, q, WideElems.Trod_stays hl r1 r2 h1 (fun x hx => hs x (by simp [hx])) (fun x hx => hp x (by simp [hx])), ih (fun t ht' => ht t (by simp [ht'])) h2 (fun x hx => hs x (by simp [hx])) (fun x hx => hp x (by simp [hx])), rfl⟩
end
end Go.Proofs.Ytidmcpkbcphpiaa
namespace Go.Proofs.Ytidmcpkbcphpiaa
open Go Go.Hai
def r0_reevelaw18_awake : List AOper := [(.mk (some 0) none (.mv (.const (.bool false))))]
def r1_reevelaw18_awake : List AOper := [(.mk (some 6) none (.call 18 [])), (.mk (some 7) none (.buildSl [(.int .i64 0)] 1 1 [(0, (1, (.const (.int .i64 1))))])), (.mk (some 8) none (.call 7 [(.tmp 7)])), (.mk (some 9) none (.build [(.int .i64 0), (.slice none 0 0), (.slice none 0 0), (.int .i64 0), (.int .i64 0), (.int .u64 0)] [(0, (1, (.const (.int .i64 7)))), (1, (1, (.tmp 8))), (5, (1, (.const (.int .u64 42))))])), (.mk (some 10) none (.call 10 [(.tmp 6), (.const (.int .i64 0)), (.tmp 9)])), (.mk (some 5) none (.mv (.tmp 10))), (.mk (some 11) none (.ext (.tmp 5) 0)), (.mk (some 12) none (.ext (.tmp 5) 1)), (.mk (some 1) none (.alloc [(.int .i64 0), (.int .i64 0), (.int .i64 0), (.slice none 0 0), (.slice none 0 0)] 5)), (.mk (some 2) none (.alloc [(.int .i64 0), (.int .u64 0), (.int .i64 0)] 3)), (.mk none none (.store 5 (.tmp 1) (.tmp 11))), (.mk none none (.store 3 (.tmp 2) (.tmp 12)))]
def r2_reevelaw18_awake : List AOper := [(.mk (some 14) none (.load true 5 (.tmp 1))), (.mk (some 15) none (.buildSl [(.int .i64 0)] 1 1 [(0, (1, (.const (.int .i64 1))))])), (.mk (some 16) none (.call 7 [(.tmp 15)])), (.mk (some 17) none (.build [(.int .i64 0), (.slice none 0 0), (.slice none 0 0), (.int .i64 0), (.int .i64 0), (.int .u64 0)] [(0, (1, (.const (.int .i64 8)))), (1, (1, (.tmp 16)))])), (.mk (some 18) none (.call 10 [(.tmp 14), (.const (.int .i64 1)), (.tmp 17)])), (.mk (some 13) none (.mv (.tmp 18))), (.mk (some 19) none (.ext (.tmp 13) 0)), (.mk (some 20) none (.ext (.tmp 13) 1)), (.mk (some 3) none (.alloc [(.int .i64 0), (.int .i64 0), (.int .i64 0), (.slice none 0 0), (.slice none 0 0)] 5)), (.mk (some 4) none (.alloc [(.int .i64 0), (.int .u64 0), (.int .i64 0)] 3)), (.mk none none (.store 5 (.tmp 3) (.tmp 19))), (.mk none none (.store 3 (.tmp 4) (.tmp 20)))]
def r3_reevelaw18_awake : List AOper := [(.mk (some 21) none (.load true 3 (.tmp 2))), (.mk (some 22) none (.build [(.int .i64 0), (.int .u64 0), (.int .i64 0)] [])), (.mk (some 23) none (.eqS false [(0, 0), (1, 0), (2, 0)] (.tmp 21) (.tmp 22))), (.mk (some 24) none (.mv (.tmp 23))), (.mk (some 25) (some (24, true)) (.load true 3 (.tmp 4))), (.mk (some 26) (some (24, true)) (.build [(.int .i64 0), (.int .u64 0), (.int .i64 0)] [(1, (1, (.const (.int .u64 42))))])), (.mk (some 27) (some (24, true)) (.eqS false [(0, 0), (1, 0), (2, 0)] (.tmp 25) (.tmp 26))), (.mk (some 28) none (.pick (.tmp 24) (.tmp 27) (.const (.bool false)))), (.mk (some 29) none (.mv (.tmp 28))), (.mk (some 30) (some (29, true)) (.load true 5 (.tmp 3))), (.mk (some 31) (some (29, true)) (.call 18 [])), (.mk (some 32) (some (29, true)) (.call 11 [(.tmp 30), (.tmp 31)])), (.mk (some 33) none (.pick (.tmp 29) (.tmp 32) (.const (.bool false)))), (.mk (some 0) none (.mv (.tmp 33)))]
def k2_reevelaw18_awake : ACode := (.seq (.drw r3_reevelaw18_awake [0, 0, 3, 7, 15, 15, 63, 127, 255, 511, 511, 2047, 4095, 8191]) .ret)
def k1_reevelaw18_awake : ACode := (.seq (.drw r2_reevelaw18_awake [0, 0, 2, 6, 15, 31, 63, 63, 0, 0, 895, 2047]) k2_reevelaw18_awake)
def k0_reevelaw18_awake : ACode := (.seq (.reg r1_reevelaw18_awake) k1_reevelaw18_awake)
def c_reevelaw18_awake : ACode := (.seq (.reg r0_reevelaw18_awake) k0_reevelaw18_awake)
theorem e_reevelaw18_awake : ofProg Try.prog 6 = some ⟨34, [(.tmp 0)], c_reevelaw18_awake⟩ := by kernel_rfl

set_option maxHeartbeats 20000000 in
theorem awake18_runs : (fun r0 r1 r2 r3 : AObj => acodeK c_reevelaw18_awake (acallK (ofProg Try.prog) 1000 110) 1000 (Tr.of []) (heapL [r0, r1, r2, r3] 4) (testN 4) (fun _ _ _ => none) (testN 4)) = fun _ _ _ _ => some true := by kernel_rfl
end Go.Proofs.Ytidmcpkbcphpiaa
namespace Go.Proofs.Ytidmcpkbcphpiaa
open Go Go.Hai Go.ChangeShapes Go.WideShapes Go.ChangeAt Go.RowKit
set_option maxRecDepth 100000
set_option maxHeartbeats 8000000

instance : Hai.Rho := ⟨fun _ => 0⟩

theorem MailRound_112 (S : StD) (a1 : Option Addr) (f1 : Nat) (a2 : Option Addr) (f2 : Nat) (thread W : Int) (l : List Int) (a : Option Addr) (f : Nat) (c0 c1 c2 : List Value × Nat) (h1 : SlS (heapR [c0, c1, c2]) a1 S.sl) (h2 : SlT (heapR [c0, c1, c2]) a2 S.th) (h3 : SlI (heapR [c0, c1, c2]) a l) :
    acall (ofProg Try.prog) 1000 112 3 [stV S a1 f1 a2 f2, .int .i64 thread, .slice a l.length f, u64 W] (heapR [c0, c1, c2]) = some (.bool true, heapR [c0, c1, c2]) := by
  have hA : acall (ofProg Try.prog) 1000 111 6 [] ((heapR [c0, c1, c2]).fresh.grow [(stL S a1 f1 a2 f2, 5)]) = some (.bool true, (heapR [c0, c1, c2]).fresh.grow [(stL S a1 f1 a2 f2, 5)]) :=
    awake_of e_reevelaw18_awake [roRow c0.1 c0.2, roRow c1.1 c1.2, roRow c2.1 c2.2, rowOf (stL S a1 f1 a2 f2, 5)] (congrFun (congrFun (congrFun (congrFun awake18_runs _) _) _) _) 3
  by_cases hm : S.th.length ≤ 100
  · have h := MailRound_ok (100 - S.th.length) (heapR [c0, c1, c2]) S a1 f1 a2 f2 thread l a f W rfl h1 h2 h3
    rw [show 100 - S.th.length + S.th.length + 11 = 111 by omega, show 100 - S.th.length + S.th.length + 12 = 112 by omega] at h
    exact h hA
  · exact MailRound_far 110 (heapR [c0, c1, c2]) S a1 f1 a2 f2 thread l a f W (by omega) hA

theorem mailRound_lifted (os : Os) (started : os.Started) (H : Type) (enc : TypeId × Value → H) :
    ReturnsInHanded {} Try.checked os 3 .any (Rows.mailRoundSpec.pre6 enc Try.prog Try.f3 Rows.mailRoundRow.domain false) (Rows.mailRoundSpec.post enc Try.prog Try.f3 false true false false) := by
  refine returnsInHanded_of_change (C := Try.checked) Try.own started (by kernel_rfl) Try.func3
    (ChangeSpec.witness6 (enc := enc) (C := Try.checked) false ⟨#[], #[.agg #[.int .i64 0, .int .i64 0, .int .i64 0, .slice none 0 0, .slice none 0 0], .int .i64 0, .slice none 0 0, .int .u64 0], []⟩ 8 (by kernel_rfl) (by kernel_rfl) (by kernel_rfl) (by kernel_rfl)) ?_
  intro W base args ds gs before hval0 hW hcnd _
  have hval : ∀ (j : Nat) t v, Try.f3.params[j]? = some t → args[j]? = some v → Value.okWide Try.prog W .any base t v := hval0
  have hW' := hW
  obtain ⟨p, q, hA0, hV, rfl, hfz, hnd⟩ := hW
  have hA : DataW.TrodAll enc Try.prog W 0 (fun _ => true) true Try.f3.params.toList args.toList ds p := hA0
  have hAll := hA
  rw [Try.params3] at hA hval
  obtain ⟨v0, v1, v2, v3, d0, d1, d2, d3, p0, p1, p2, p3, rfl, rfl, rfl, g0, g1, g2, g3⟩ := trodAll_four hA
  obtain ⟨rfl, rfl⟩ := trodVars_none hV
  obtain ⟨cs, rfl, hsz⟩ := okWide_struct Try.underlying27 (hval 0 27 v0 rfl rfl)
  obtain ⟨a0, len, cap, rfl⟩ := okWide_slice Try.underlying28 (hval 2 28 v2 rfl rfl)
  obtain ⟨n, rfl, rfl, rfl, wn⟩ := open_int Try.underlying3 (hval 1 3 v1 rfl rfl) g1
  obtain ⟨u, rfl, rfl, rfl, wu⟩ := open_int Try.underlying29 (hval 3 29 v3 rfl rfl) g3
  clear hA0 hval0
  obtain ⟨S, a1, f1, a2, f2, loc0, loc1, q1, q2, q3, q4, q5⟩ := state_view g0 0 1
  obtain ⟨l, a, f, loc2, s1, s2, s3⟩ := ints_view g2 rfl 2
  have hrun := MailRound_112 S a1 f1 a2 f2 n u l a f (flatL slotL S.sl, 5) (flatL thingL S.th, 13) (flatL intL l, 1) (q2 _ (Nat.le_of_ble_eq_true rfl) (heapR_get (k := 0) (p := (flatL slotL S.sl, 5)) rfl)) (q3 _ (Nat.le_of_ble_eq_true rfl) (heapR_get (k := 1) (p := (flatL thingL S.th, 13)) rfl)) (s2 _ (Nat.le_of_ble_eq_true rfl) (heapR_get (k := 2) (p := (flatL intL l, 1)) rfl))
  have hcalls := law_calls (W := W) (ls := [loc0, loc1, loc2]) (vs := #[.agg cs, .int .i64 n, .slice a0 len cap, .int .u64 u]) hrun ⟨q4, q5, s3, trivial⟩ (.cons (q1 _ rfl rfl) (.cons (.flat rfl) (.cons (s1 _ rfl) (.cons (.flat rfl) .nil))))
  refine hcalls.mono fun e W' ⟨he, h1, h2, h3⟩ => ?_
  subst he
  have hlt : ∀ x ∈ p0 ++ [] ++ p2 ++ [], x.block < W.heap.size := fun x hx => hW'.lt x (by simpa using hx)
  have same : ∀ x : MemPlace, x.block < W.heap.size → W.sameAt W' x := fun x hx => by
    cases x with
    | cell b o => exact World.cell?_of_block (w := W) (h3 b hx)
    | map b => exact h3 b hx
  have tA := trodAll_stays (W' := W') (sp' := fun b => decide (b < W.heap.size)) Try.laidOut (of_decide_eq_true (by kernel_rfl)) hAll (fun x hx => same x (hlt x hx)) (fun x hx => by simpa using hlt x hx)
  exact ⟨_, rfl, [d0, .lit (.int .i64 n), d2, .lit (.int .u64 u)], [], _, [], _, [], hW', trodAll_mk1 (shut_bool Try.underlying4 true), tA, by trivial, Hai.kept_of h1 h2 h3, fun h => by cases h⟩

theorem mailRound_holds : Rows.MailRoundSaid :=
  OpenClaim.holds_of_wide 3 Try.f3 rfl rfl rfl rfl rfl rfl rfl ⟨rfl, rfl, rfl, rfl, rfl⟩ rfl rfl rfl rfl rfl (by kernel_rfl) Try.func3 (by kernel_rfl)
    (of_decide_eq_true (by kernel_rfl)) (by unfold Func.isWrapper; first | (rw [if_pos (by decide +kernel)]; kernel_rfl) | (rw [if_neg (by decide +kernel)]; exact ⟨rfl, rfl⟩))
    (fun os started H enc _ => mailRound_lifted os started H enc)
#print axioms mailRound_holds
end Go.Proofs.Ytidmcpkbcphpiaa
