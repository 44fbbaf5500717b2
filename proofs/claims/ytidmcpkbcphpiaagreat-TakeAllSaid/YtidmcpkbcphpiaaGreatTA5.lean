/-
  What slices.Equal (of slots, of things) and state.Same answer. No condition but what they say.
-/
import Derived.Test.YtidmcpkbcphpiaaGreatTA4
namespace Go.Proofs.YtidmcpkbcphpiaaGreat
open Go Go.Hai
set_option maxRecDepth 20000
set_option linter.unusedSimpArgs false
set_option maxHeartbeats 8000000
attribute [local irreducible] Hai.Ends EndsR EndsO EndsD EndsX AHeap.grow
def r0_slices_Equal_state_Slot_state_Slot : List AOper := [(.mk (some 4) none (.mv (.const (.bool false))))]
def r1_slices_Equal_state_Slot_state_Slot : List AOper := [(.mk (some 6) none (.mv (.tmp 0))), (.mk (some 7) none (.lenS (.tmp 6))), (.mk (some 8) none (.mv (.tmp 1))), (.mk (some 9) none (.lenS (.tmp 8))), (.mk (some 10) none (.bin .neq (.tmp 7) (.tmp 9)))]
def r2_slices_Equal_state_Slot_state_Slot : List AOper := [(.mk (some 4) none (.mv (.const (.bool false))))]
def k1_slices_Equal_state_Slot_state_Slot : ACode := (.cond (.tmp 10) (.seq (.reg r2_slices_Equal_state_Slot_state_Slot) .ret) .skip)
def r3_slices_Equal_state_Slot_state_Slot : List AOper := [(.mk (some 11) none (.mv (.tmp 0))), (.mk (some 12) none (.lenS (.tmp 11))), (.mk (some 13) none (.mv (.const (.int .i64 0))))]
def r4_slices_Equal_state_Slot_state_Slot : List AOper := [(.mk (some 14) none (.bin .lss (.tmp 13) (.tmp 12)))]
def r5_slices_Equal_state_Slot_state_Slot : List AOper := [(.mk (some 15) none (.mv (.tmp 13))), (.mk (some 5) none (.mv (.tmp 15)))]
def r6_slices_Equal_state_Slot_state_Slot : List AOper := [(.mk (some 16) none (.mv (.tmp 0))), (.mk (some 17) none (.mv (.tmp 5))), (.mk (some 18) none (.idxA 5 (.tmp 16) (.tmp 17))), (.mk (some 19) none (.load true 5 (.tmp 18))), (.mk (some 20) none (.mv (.tmp 1))), (.mk (some 21) none (.mv (.tmp 5))), (.mk (some 22) none (.idxA 5 (.tmp 20) (.tmp 21))), (.mk (some 23) none (.load true 5 (.tmp 22))), (.mk (some 24) none (.eqS true [(0, 0), (1, 0), (2, 0), (3, 0), (4, 0)] (.tmp 19) (.tmp 23)))]
def r7_slices_Equal_state_Slot_state_Slot : List AOper := [(.mk (some 4) none (.mv (.const (.bool false))))]
def k7_slices_Equal_state_Slot_state_Slot : ACode := (.cond (.tmp 24) (.seq (.reg r7_slices_Equal_state_Slot_state_Slot) .ret) .skip)
def k6_slices_Equal_state_Slot_state_Slot : ACode := (.seq (.drw r6_slices_Equal_state_Slot_state_Slot [0, 0, 3, 7, 0, 0, 48, 112, 255]) k7_slices_Equal_state_Slot_state_Slot)
def r8_slices_Equal_state_Slot_state_Slot : List AOper := [(.mk (some 25) none (.bin .add (.tmp 13) (.const (.int .i64 1)))), (.mk (some 13) none (.mv (.tmp 25)))]
def k8_slices_Equal_state_Slot_state_Slot : ACode := (.reg r8_slices_Equal_state_Slot_state_Slot)
def k5_slices_Equal_state_Slot_state_Slot : ACode := (.seq (.block 1 (.seq (.reg r5_slices_Equal_state_Slot_state_Slot) k6_slices_Equal_state_Slot_state_Slot)) k8_slices_Equal_state_Slot_state_Slot)
def k4_slices_Equal_state_Slot_state_Slot : ACode := (.seq (.cond (.tmp 14) .skip (.exit 0)) k5_slices_Equal_state_Slot_state_Slot)
def b0_slices_Equal_state_Slot_state_Slot : ACode := (.seq (.reg r4_slices_Equal_state_Slot_state_Slot) k4_slices_Equal_state_Slot_state_Slot)
def k3_slices_Equal_state_Slot_state_Slot : ACode := (.block 0 (.loop b0_slices_Equal_state_Slot_state_Slot))
def r9_slices_Equal_state_Slot_state_Slot : List AOper := [(.mk (some 4) none (.mv (.const (.bool true))))]
def k9_slices_Equal_state_Slot_state_Slot : ACode := (.seq (.reg r9_slices_Equal_state_Slot_state_Slot) .ret)
def k2_slices_Equal_state_Slot_state_Slot : ACode := (.seq (.seq (.reg r3_slices_Equal_state_Slot_state_Slot) k3_slices_Equal_state_Slot_state_Slot) k9_slices_Equal_state_Slot_state_Slot)
def k0_slices_Equal_state_Slot_state_Slot : ACode := (.seq (.seq (.reg r1_slices_Equal_state_Slot_state_Slot) k1_slices_Equal_state_Slot_state_Slot) k2_slices_Equal_state_Slot_state_Slot)
def c_slices_Equal_state_Slot_state_Slot : ACode := (.seq (.reg r0_slices_Equal_state_Slot_state_Slot) k0_slices_Equal_state_Slot_state_Slot)
theorem e_slices_Equal_state_Slot_state_Slot : ofProg Tryz.prog 82 = some ⟨26, [(.tmp 4)], c_slices_Equal_state_Slot_state_Slot⟩ := by kernel_rfl
def r0_slices_Equal_thing_Thing_thing_Thing : List AOper := [(.mk (some 4) none (.mv (.const (.bool false))))]
def r1_slices_Equal_thing_Thing_thing_Thing : List AOper := [(.mk (some 6) none (.mv (.tmp 0))), (.mk (some 7) none (.lenS (.tmp 6))), (.mk (some 8) none (.mv (.tmp 1))), (.mk (some 9) none (.lenS (.tmp 8))), (.mk (some 10) none (.bin .neq (.tmp 7) (.tmp 9)))]
def r2_slices_Equal_thing_Thing_thing_Thing : List AOper := [(.mk (some 4) none (.mv (.const (.bool false))))]
def k1_slices_Equal_thing_Thing_thing_Thing : ACode := (.cond (.tmp 10) (.seq (.reg r2_slices_Equal_thing_Thing_thing_Thing) .ret) .skip)
def r3_slices_Equal_thing_Thing_thing_Thing : List AOper := [(.mk (some 11) none (.mv (.tmp 0))), (.mk (some 12) none (.lenS (.tmp 11))), (.mk (some 13) none (.mv (.const (.int .i64 0))))]
def r4_slices_Equal_thing_Thing_thing_Thing : List AOper := [(.mk (some 14) none (.bin .lss (.tmp 13) (.tmp 12)))]
def r5_slices_Equal_thing_Thing_thing_Thing : List AOper := [(.mk (some 15) none (.mv (.tmp 13))), (.mk (some 5) none (.mv (.tmp 15)))]
def r6_slices_Equal_thing_Thing_thing_Thing : List AOper := [(.mk (some 16) none (.mv (.tmp 0))), (.mk (some 17) none (.mv (.tmp 5))), (.mk (some 18) none (.idxA 13 (.tmp 16) (.tmp 17))), (.mk (some 19) none (.load true 13 (.tmp 18))), (.mk (some 20) none (.mv (.tmp 1))), (.mk (some 21) none (.mv (.tmp 5))), (.mk (some 22) none (.idxA 13 (.tmp 20) (.tmp 21))), (.mk (some 23) none (.load true 13 (.tmp 22))), (.mk (some 24) none (.eqS true [(0, 0), (1, 0), (2, 0), (3, 0), (4, 0), (5, 0), (6, 0), (7, 1), (8, 0), (9, 0), (10, 0), (11, 0), (12, 0)] (.tmp 19) (.tmp 23)))]
def r7_slices_Equal_thing_Thing_thing_Thing : List AOper := [(.mk (some 4) none (.mv (.const (.bool false))))]
def k7_slices_Equal_thing_Thing_thing_Thing : ACode := (.cond (.tmp 24) (.seq (.reg r7_slices_Equal_thing_Thing_thing_Thing) .ret) .skip)
def k6_slices_Equal_thing_Thing_thing_Thing : ACode := (.seq (.drw r6_slices_Equal_thing_Thing_thing_Thing [0, 0, 3, 7, 0, 0, 48, 112, 255]) k7_slices_Equal_thing_Thing_thing_Thing)
def r8_slices_Equal_thing_Thing_thing_Thing : List AOper := [(.mk (some 25) none (.bin .add (.tmp 13) (.const (.int .i64 1)))), (.mk (some 13) none (.mv (.tmp 25)))]
def k8_slices_Equal_thing_Thing_thing_Thing : ACode := (.reg r8_slices_Equal_thing_Thing_thing_Thing)
def k5_slices_Equal_thing_Thing_thing_Thing : ACode := (.seq (.block 1 (.seq (.reg r5_slices_Equal_thing_Thing_thing_Thing) k6_slices_Equal_thing_Thing_thing_Thing)) k8_slices_Equal_thing_Thing_thing_Thing)
def k4_slices_Equal_thing_Thing_thing_Thing : ACode := (.seq (.cond (.tmp 14) .skip (.exit 0)) k5_slices_Equal_thing_Thing_thing_Thing)
def b0_slices_Equal_thing_Thing_thing_Thing : ACode := (.seq (.reg r4_slices_Equal_thing_Thing_thing_Thing) k4_slices_Equal_thing_Thing_thing_Thing)
def k3_slices_Equal_thing_Thing_thing_Thing : ACode := (.block 0 (.loop b0_slices_Equal_thing_Thing_thing_Thing))
def r9_slices_Equal_thing_Thing_thing_Thing : List AOper := [(.mk (some 4) none (.mv (.const (.bool true))))]
def k9_slices_Equal_thing_Thing_thing_Thing : ACode := (.seq (.reg r9_slices_Equal_thing_Thing_thing_Thing) .ret)
def k2_slices_Equal_thing_Thing_thing_Thing : ACode := (.seq (.seq (.reg r3_slices_Equal_thing_Thing_thing_Thing) k3_slices_Equal_thing_Thing_thing_Thing) k9_slices_Equal_thing_Thing_thing_Thing)
def k0_slices_Equal_thing_Thing_thing_Thing : ACode := (.seq (.seq (.reg r1_slices_Equal_thing_Thing_thing_Thing) k1_slices_Equal_thing_Thing_thing_Thing) k2_slices_Equal_thing_Thing_thing_Thing)
def c_slices_Equal_thing_Thing_thing_Thing : ACode := (.seq (.reg r0_slices_Equal_thing_Thing_thing_Thing) k0_slices_Equal_thing_Thing_thing_Thing)
theorem e_slices_Equal_thing_Thing_thing_Thing : ofProg Tryz.prog 83 = some ⟨26, [(.tmp 4)], c_slices_Equal_thing_Thing_thing_Thing⟩ := by kernel_rfl
def r0_state_Same : List AOper := [(.mk (some 2) none (.box 5 (.tmp 0))), (.mk (some 3) none (.box 5 (.tmp 1))), (.mk (some 4) none (.mv (.const (.bool false))))]
def r1_state_Same : List AOper := [(.mk (some 5) none (.fldA 0 (.tmp 2))), (.mk (some 6) none (.load true 3 (.tmp 5))), (.mk (some 7) none (.fldA 0 (.tmp 3))), (.mk (some 8) none (.load true 3 (.tmp 7))), (.mk (some 9) none (.eqS false [(0, 0), (1, 0), (2, 0)] (.tmp 6) (.tmp 8))), (.mk (some 10) none (.mv (.tmp 9))), (.mk (some 11) (some (10, true)) (.fldA 3 (.tmp 2))), (.mk (some 12) (some (10, true)) (.load false 1 (.tmp 11))), (.mk (some 13) (some (10, true)) (.fldA 3 (.tmp 3))), (.mk (some 14) (some (10, true)) (.load false 1 (.tmp 13))), (.mk (some 15) (some (10, true)) (.call 82 [(.tmp 12), (.tmp 14)])), (.mk (some 16) none (.pick (.tmp 10) (.tmp 15) (.const (.bool false)))), (.mk (some 17) none (.mv (.tmp 16))), (.mk (some 18) (some (17, true)) (.fldA 4 (.tmp 2))), (.mk (some 19) (some (17, true)) (.load false 1 (.tmp 18))), (.mk (some 20) (some (17, true)) (.fldA 4 (.tmp 3))), (.mk (some 21) (some (17, true)) (.load false 1 (.tmp 20))), (.mk (some 22) (some (17, true)) (.call 83 [(.tmp 19), (.tmp 21)])), (.mk (some 23) none (.pick (.tmp 17) (.tmp 22) (.const (.bool false)))), (.mk (some 4) none (.mv (.tmp 23)))]
def k0_state_Same : ACode := (.seq (.reg r1_state_Same) .ret)
def c_state_Same : ACode := (.seq (.reg r0_state_Same) k0_state_Same)
theorem e_state_Same : ofProg Tryz.prog 22 = some ⟨24, [(.tmp 4)], c_state_Same⟩ := by kernel_rfl

def eqTo {α : Type} (p : α → α → Bool) (l k : List α) : Nat → Bool
  | 0 => true
  | i + 1 => eqTo p l k i && (match l[i]?, k[i]? with | some x, some y => p x y | _, _ => true)
theorem eqTo_next {α : Type} {p : α → α → Bool} {l k : List α} {i : Nat} {x y : α} (h : eqTo p l k i = true) (hx : l[i]? = some x) (hy : k[i]? = some y) (hp : p x y = true) : eqTo p l k (i + 1) = true := by
  simp [eqTo, h, hx, hy, hp]
theorem eqTo_false {α : Type} {p : α → α → Bool} {l k : List α} {i : Nat} {x y : α} (hx : l[i]? = some x) (hy : k[i]? = some y) (hp : p x y = false) : ∀ n, i < n → eqTo p l k n = false := by
  intro n
  induction n with
  | zero => intro h; omega
  | succ n ih =>
    intro h
    by_cases hi : i < n
    · simp [eqTo, ih hi]
    · have : i = n := by omega
      subst this
      simp [eqTo, hx, hy, hp]
def eqL {α : Type} (p : α → α → Bool) (l k : List α) : Bool := decide (l.length = k.length) && eqTo p l k l.length
def eq5 (a b c d e a' b' c' d' e' : Int) : Bool := a == a' && (b == b' && (c == c' && (d == d' && e == e')))
def slotEq (x y : SlotD) : Bool := eq5 x.type x.thing x.rights x.badge x.up y.type y.thing y.rights y.badge y.up
theorem eqSlot {a b c d e a' b' c' d' e' : Int} : eqLsA [i64 a, i64 b, i64 c, i64 d, i64 e] [i64 a', i64 b', i64 c', i64 d', i64 e'] [(0, 0), (1, 0), (2, 0), (3, 0), (4, 0)] = some (eq5 a b c d e a' b' c' d' e') := by
  simp [eqLsA, eqScalA, eqScal, eq5]
theorem Equal_slots_ok (d : Nat) (σ : AHeap) (l k : List SlotD) (a b : Option Addr) (f g : Nat) (hl : l.length < 1000) (h1 : SlS σ a l) (h2 : SlS σ b k) :
    acall (ofProg Tryz.prog) 1000 (d + 1) 82 [.slice a l.length f, .slice b k.length g] σ = some (.bool (eqL slotEq l k), σ) := by
  refine acall_flat e_slices_Equal_state_Slot_state_Slot (by simp) rfl ?_
  by_cases c1 : (l.length : Int) = k.length
  · have c1' : l.length = k.length := by omega
    have hE : eqL slotEq l k = eqTo slotEq l k l.length := by unfold eqL; simp [c1']
    simp (disch := omega) only [eq_true c1, r0_slices_Equal_state_Slot_state_Slot, r1_slices_Equal_state_Slot_state_Slot, r2_slices_Equal_state_Slot_state_Slot, k1_slices_Equal_state_Slot_state_Slot, r3_slices_Equal_state_Slot_state_Slot, r4_slices_Equal_state_Slot_state_Slot, r5_slices_Equal_state_Slot_state_Slot, r6_slices_Equal_state_Slot_state_Slot, r7_slices_Equal_state_Slot_state_Slot, k7_slices_Equal_state_Slot_state_Slot, k6_slices_Equal_state_Slot_state_Slot, r8_slices_Equal_state_Slot_state_Slot, k8_slices_Equal_state_Slot_state_Slot, k5_slices_Equal_state_Slot_state_Slot, k4_slices_Equal_state_Slot_state_Slot, k3_slices_Equal_state_Slot_state_Slot, r9_slices_Equal_state_Slot_state_Slot, k9_slices_Equal_state_Slot_state_Slot, k2_slices_Equal_state_Slot_state_Slot, k0_slices_Equal_state_Slot_state_Slot, c_slices_Equal_state_Slot_state_Slot, Z0, Z1, Z2, Z3, Z4, Z5, Z6, Z7, Z8, Z9, Z10, resAll, Nat.reduceAdd, Nat.reduceEqDiff, Nat.reduceLeDiff, Nat.reduceMul, ↓reduceIte, reduceCtorEq, Nat.reduceBEq, aoper, Nat.reduceLT, Int.reduceEq, Int.reduceLT, Int.reduceLE]
    refine ends_loop (fun i t τ => tget t 0 = .slice a l.length f ∧ tget t 1 = .slice b k.length g ∧ tget t 12 = i64 l.length ∧ tget t 13 = i64 i ∧ Keeps σ.fresh τ ∧ eqTo slotEq l k i = true) l.length hl ⟨?_, ?_, ?_, ?_, Keeps.self _ _, rfl⟩ ?_
    iterate 4 simp (disch := omega) only [Int.natCast_zero, Int.ofNat_zero, r0_slices_Equal_state_Slot_state_Slot, r1_slices_Equal_state_Slot_state_Slot, r2_slices_Equal_state_Slot_state_Slot, k1_slices_Equal_state_Slot_state_Slot, r3_slices_Equal_state_Slot_state_Slot, r4_slices_Equal_state_Slot_state_Slot, r5_slices_Equal_state_Slot_state_Slot, r6_slices_Equal_state_Slot_state_Slot, r7_slices_Equal_state_Slot_state_Slot, k7_slices_Equal_state_Slot_state_Slot, k6_slices_Equal_state_Slot_state_Slot, r8_slices_Equal_state_Slot_state_Slot, k8_slices_Equal_state_Slot_state_Slot, k5_slices_Equal_state_Slot_state_Slot, k4_slices_Equal_state_Slot_state_Slot, k3_slices_Equal_state_Slot_state_Slot, r9_slices_Equal_state_Slot_state_Slot, k9_slices_Equal_state_Slot_state_Slot, k2_slices_Equal_state_Slot_state_Slot, k0_slices_Equal_state_Slot_state_Slot, c_slices_Equal_state_Slot_state_Slot, Z0, Z1, Z2, Z3, Z4, Z5, Z6, Z7, Z8, Z9, Z10, resAll, Nat.reduceAdd, Nat.reduceEqDiff, Nat.reduceLeDiff, Nat.reduceMul, ↓reduceIte, reduceCtorEq, Nat.reduceBEq, aoper, Nat.reduceLT, Int.reduceEq, Int.reduceLT, Int.reduceLE]
    rintro i t τ hi ⟨t0, t1, t12, t13, hk, hall⟩
    rw [← grow_nil τ]
    have hlow : τ.low ≤ τ.n := by rw [hk.low]; exact Nat.le_trans fresh_le hk.n
    by_cases hlt : i < l.length
    · obtain ⟨b1, rfl, hb1⟩ := h1.fresh.at hlt
      obtain ⟨b2, rfl, hb2⟩ := h2.fresh.at (i := i) (by omega)
      have hx : l[i]? = some l[i] := List.getElem?_eq_getElem hlt
      have hy : k[i]? = some k[i] := List.getElem?_eq_getElem (by omega)
      generalize l[i] = x at hx
      generalize k[i] = y at hy
      have hl1 := fun L => hb1.ld0 hk hx L 5 (by omega)
      have hl2 := fun L => hb2.ld0 hk hy L 5 (by omega)
      simp only [List.take_succ_cons, List.take_zero] at hl1 hl2
      have hlt' : (i : Int) < (l.length : Int) := by omega
      have hlt2 : (i : Int) < (k.length : Int) := by omega
      have hcast : ((i + 1 : Nat) : Int) = (i : Int) + 1 := by omega
      simp (disch := omega) only [t0, t1, t12, t13, hlt', r0_slices_Equal_state_Slot_state_Slot, r1_slices_Equal_state_Slot_state_Slot, r2_slices_Equal_state_Slot_state_Slot, k1_slices_Equal_state_Slot_state_Slot, r3_slices_Equal_state_Slot_state_Slot, r4_slices_Equal_state_Slot_state_Slot, r5_slices_Equal_state_Slot_state_Slot, r6_slices_Equal_state_Slot_state_Slot, r7_slices_Equal_state_Slot_state_Slot, k7_slices_Equal_state_Slot_state_Slot, k6_slices_Equal_state_Slot_state_Slot, r8_slices_Equal_state_Slot_state_Slot, k8_slices_Equal_state_Slot_state_Slot, k5_slices_Equal_state_Slot_state_Slot, k4_slices_Equal_state_Slot_state_Slot, k3_slices_Equal_state_Slot_state_Slot, r9_slices_Equal_state_Slot_state_Slot, k9_slices_Equal_state_Slot_state_Slot, k2_slices_Equal_state_Slot_state_Slot, k0_slices_Equal_state_Slot_state_Slot, b0_slices_Equal_state_Slot_state_Slot, Z0, Z1, Z2, Z3, Z4, Z5, Z6, Z7, Z8, Z9, Z10, resAll, Nat.reduceAdd, Nat.reduceEqDiff, Nat.reduceLeDiff, Nat.reduceMul, ↓reduceIte, reduceCtorEq, Nat.reduceBEq, aoper, Nat.reduceLT, Int.reduceEq, Int.reduceLT, Int.reduceLE]
      refine ends_drw ?_
      have hs : slotEq x y = eq5 x.type x.thing x.rights x.badge x.up y.type y.thing y.rights y.badge y.up := rfl
      cases c2 : slotEq x y with
      | true =>
        rw [hs] at c2
        simp (disch := omega) only [t0, t1, t12, t13, hlt', hlt2, hlt, hcast, hl1, hl2, Int.toNat_natCast, kontD_grow hlow, eqSlot, c2, hk.grow, eqTo_next (p := slotEq) hall hx hy (hs.trans c2), r0_slices_Equal_state_Slot_state_Slot, r1_slices_Equal_state_Slot_state_Slot, r2_slices_Equal_state_Slot_state_Slot, k1_slices_Equal_state_Slot_state_Slot, r3_slices_Equal_state_Slot_state_Slot, r4_slices_Equal_state_Slot_state_Slot, r5_slices_Equal_state_Slot_state_Slot, r6_slices_Equal_state_Slot_state_Slot, r7_slices_Equal_state_Slot_state_Slot, k7_slices_Equal_state_Slot_state_Slot, k6_slices_Equal_state_Slot_state_Slot, r8_slices_Equal_state_Slot_state_Slot, k8_slices_Equal_state_Slot_state_Slot, k5_slices_Equal_state_Slot_state_Slot, k4_slices_Equal_state_Slot_state_Slot, k3_slices_Equal_state_Slot_state_Slot, r9_slices_Equal_state_Slot_state_Slot, k9_slices_Equal_state_Slot_state_Slot, k2_slices_Equal_state_Slot_state_Slot, k0_slices_Equal_state_Slot_state_Slot, b0_slices_Equal_state_Slot_state_Slot, Z0, Z1, Z2, Z3, Z4, Z5, Z6, Z7, Z8, Z9, Z10, resAll, Nat.reduceAdd, Nat.reduceEqDiff, Nat.reduceLeDiff, Nat.reduceMul, ↓reduceIte, reduceCtorEq, Nat.reduceBEq, aoper, Nat.reduceLT, Int.reduceEq, Int.reduceLT, Int.reduceLE]
      | false =>
        have hf : eqL slotEq l k = false := by rw [hE]; exact eqTo_false hx hy c2 _ hlt
        rw [hs] at c2
        simp (disch := omega) only [t0, t1, t12, t13, hlt', hlt2, hl1, hl2, Int.toNat_natCast, kontD_grow hlow, eqSlot, c2, hf, hk.low, r0_slices_Equal_state_Slot_state_Slot, r1_slices_Equal_state_Slot_state_Slot, r2_slices_Equal_state_Slot_state_Slot, k1_slices_Equal_state_Slot_state_Slot, r3_slices_Equal_state_Slot_state_Slot, r4_slices_Equal_state_Slot_state_Slot, r5_slices_Equal_state_Slot_state_Slot, r6_slices_Equal_state_Slot_state_Slot, r7_slices_Equal_state_Slot_state_Slot, k7_slices_Equal_state_Slot_state_Slot, k6_slices_Equal_state_Slot_state_Slot, r8_slices_Equal_state_Slot_state_Slot, k8_slices_Equal_state_Slot_state_Slot, k5_slices_Equal_state_Slot_state_Slot, k4_slices_Equal_state_Slot_state_Slot, k3_slices_Equal_state_Slot_state_Slot, r9_slices_Equal_state_Slot_state_Slot, k9_slices_Equal_state_Slot_state_Slot, k2_slices_Equal_state_Slot_state_Slot, k0_slices_Equal_state_Slot_state_Slot, b0_slices_Equal_state_Slot_state_Slot, Z0, Z1, Z2, Z3, Z4, Z5, Z6, Z7, Z8, Z9, Z10, resAll, Nat.reduceAdd, Nat.reduceEqDiff, Nat.reduceLeDiff, Nat.reduceMul, ↓reduceIte, reduceCtorEq, Nat.reduceBEq, aoper, Nat.reduceLT, Int.reduceEq, Int.reduceLT, Int.reduceLE]
    · have hlt' : ¬ (i : Int) < (l.length : Int) := by omega
      have hii : i = l.length := by omega
      have hf : eqL slotEq l k = true := by rw [hE, ← hii]; exact hall
      simp (disch := omega) only [t0, t1, t12, t13, hlt', hf, hk.low, r0_slices_Equal_state_Slot_state_Slot, r1_slices_Equal_state_Slot_state_Slot, r2_slices_Equal_state_Slot_state_Slot, k1_slices_Equal_state_Slot_state_Slot, r3_slices_Equal_state_Slot_state_Slot, r4_slices_Equal_state_Slot_state_Slot, r5_slices_Equal_state_Slot_state_Slot, r6_slices_Equal_state_Slot_state_Slot, r7_slices_Equal_state_Slot_state_Slot, k7_slices_Equal_state_Slot_state_Slot, k6_slices_Equal_state_Slot_state_Slot, r8_slices_Equal_state_Slot_state_Slot, k8_slices_Equal_state_Slot_state_Slot, k5_slices_Equal_state_Slot_state_Slot, k4_slices_Equal_state_Slot_state_Slot, k3_slices_Equal_state_Slot_state_Slot, r9_slices_Equal_state_Slot_state_Slot, k9_slices_Equal_state_Slot_state_Slot, k2_slices_Equal_state_Slot_state_Slot, k0_slices_Equal_state_Slot_state_Slot, b0_slices_Equal_state_Slot_state_Slot, Z0, Z1, Z2, Z3, Z4, Z5, Z6, Z7, Z8, Z9, Z10, resAll, Nat.reduceAdd, Nat.reduceEqDiff, Nat.reduceLeDiff, Nat.reduceMul, ↓reduceIte, reduceCtorEq, Nat.reduceBEq, aoper, Nat.reduceLT, Int.reduceEq, Int.reduceLT, Int.reduceLE]
  · have hf : eqL slotEq l k = false := by unfold eqL; simp; intro h; omega
    simp (disch := omega) only [c1, hf, r0_slices_Equal_state_Slot_state_Slot, r1_slices_Equal_state_Slot_state_Slot, r2_slices_Equal_state_Slot_state_Slot, k1_slices_Equal_state_Slot_state_Slot, r3_slices_Equal_state_Slot_state_Slot, r4_slices_Equal_state_Slot_state_Slot, r5_slices_Equal_state_Slot_state_Slot, r6_slices_Equal_state_Slot_state_Slot, r7_slices_Equal_state_Slot_state_Slot, k7_slices_Equal_state_Slot_state_Slot, k6_slices_Equal_state_Slot_state_Slot, r8_slices_Equal_state_Slot_state_Slot, k8_slices_Equal_state_Slot_state_Slot, k5_slices_Equal_state_Slot_state_Slot, k4_slices_Equal_state_Slot_state_Slot, k3_slices_Equal_state_Slot_state_Slot, r9_slices_Equal_state_Slot_state_Slot, k9_slices_Equal_state_Slot_state_Slot, k2_slices_Equal_state_Slot_state_Slot, k0_slices_Equal_state_Slot_state_Slot, c_slices_Equal_state_Slot_state_Slot, Z0, Z1, Z2, Z3, Z4, Z5, Z6, Z7, Z8, Z9, Z10, resAll, Nat.reduceAdd, Nat.reduceEqDiff, Nat.reduceLeDiff, Nat.reduceMul, ↓reduceIte, reduceCtorEq, Nat.reduceBEq, aoper, Nat.reduceLT, Int.reduceEq, Int.reduceLT, Int.reduceLE]
theorem Equal_things_ok (d : Nat) (σ : AHeap) (l k : List ThingD) (a b : Option Addr) (f g : Nat) (hl : l.length < 1000) (h1 : SlT σ a l) (h2 : SlT σ b k) :
    acall (ofProg Tryz.prog) 1000 (d + 1) 83 [.slice a l.length f, .slice b k.length g] σ = some (.bool (eqL thEq l k), σ) := by
  refine acall_flat e_slices_Equal_thing_Thing_thing_Thing (by simp) rfl ?_
  by_cases c1 : (l.length : Int) = k.length
  · have c1' : l.length = k.length := by omega
    have hE : eqL thEq l k = eqTo thEq l k l.length := by unfold eqL; simp [c1']
    simp (disch := omega) only [eq_true c1, r0_slices_Equal_thing_Thing_thing_Thing, r1_slices_Equal_thing_Thing_thing_Thing, r2_slices_Equal_thing_Thing_thing_Thing, k1_slices_Equal_thing_Thing_thing_Thing, r3_slices_Equal_thing_Thing_thing_Thing, r4_slices_Equal_thing_Thing_thing_Thing, r5_slices_Equal_thing_Thing_thing_Thing, r6_slices_Equal_thing_Thing_thing_Thing, r7_slices_Equal_thing_Thing_thing_Thing, k7_slices_Equal_thing_Thing_thing_Thing, k6_slices_Equal_thing_Thing_thing_Thing, r8_slices_Equal_thing_Thing_thing_Thing, k8_slices_Equal_thing_Thing_thing_Thing, k5_slices_Equal_thing_Thing_thing_Thing, k4_slices_Equal_thing_Thing_thing_Thing, k3_slices_Equal_thing_Thing_thing_Thing, r9_slices_Equal_thing_Thing_thing_Thing, k9_slices_Equal_thing_Thing_thing_Thing, k2_slices_Equal_thing_Thing_thing_Thing, k0_slices_Equal_thing_Thing_thing_Thing, c_slices_Equal_thing_Thing_thing_Thing, Z0, Z1, Z2, Z3, Z4, Z5, Z6, Z7, Z8, Z9, Z10, resAll, Nat.reduceAdd, Nat.reduceEqDiff, Nat.reduceLeDiff, Nat.reduceMul, ↓reduceIte, reduceCtorEq, Nat.reduceBEq, aoper, Nat.reduceLT, Int.reduceEq, Int.reduceLT, Int.reduceLE]
    refine ends_loop (fun i t τ => tget t 0 = .slice a l.length f ∧ tget t 1 = .slice b k.length g ∧ tget t 12 = i64 l.length ∧ tget t 13 = i64 i ∧ Keeps σ.fresh τ ∧ eqTo thEq l k i = true) l.length hl ⟨?_, ?_, ?_, ?_, Keeps.self _ _, rfl⟩ ?_
    iterate 4 simp (disch := omega) only [Int.natCast_zero, Int.ofNat_zero, r0_slices_Equal_thing_Thing_thing_Thing, r1_slices_Equal_thing_Thing_thing_Thing, r2_slices_Equal_thing_Thing_thing_Thing, k1_slices_Equal_thing_Thing_thing_Thing, r3_slices_Equal_thing_Thing_thing_Thing, r4_slices_Equal_thing_Thing_thing_Thing, r5_slices_Equal_thing_Thing_thing_Thing, r6_slices_Equal_thing_Thing_thing_Thing, r7_slices_Equal_thing_Thing_thing_Thing, k7_slices_Equal_thing_Thing_thing_Thing, k6_slices_Equal_thing_Thing_thing_Thing, r8_slices_Equal_thing_Thing_thing_Thing, k8_slices_Equal_thing_Thing_thing_Thing, k5_slices_Equal_thing_Thing_thing_Thing, k4_slices_Equal_thing_Thing_thing_Thing, k3_slices_Equal_thing_Thing_thing_Thing, r9_slices_Equal_thing_Thing_thing_Thing, k9_slices_Equal_thing_Thing_thing_Thing, k2_slices_Equal_thing_Thing_thing_Thing, k0_slices_Equal_thing_Thing_thing_Thing, c_slices_Equal_thing_Thing_thing_Thing, Z0, Z1, Z2, Z3, Z4, Z5, Z6, Z7, Z8, Z9, Z10, resAll, Nat.reduceAdd, Nat.reduceEqDiff, Nat.reduceLeDiff, Nat.reduceMul, ↓reduceIte, reduceCtorEq, Nat.reduceBEq, aoper, Nat.reduceLT, Int.reduceEq, Int.reduceLT, Int.reduceLE]
    rintro i t τ hi ⟨t0, t1, t12, t13, hk, hall⟩
    rw [← grow_nil τ]
    have hlow : τ.low ≤ τ.n := by rw [hk.low]; exact Nat.le_trans fresh_le hk.n
    by_cases hlt : i < l.length
    · obtain ⟨b1, rfl, hb1⟩ := h1.fresh.at hlt
      obtain ⟨b2, rfl, hb2⟩ := h2.fresh.at (i := i) (by omega)
      have hx : l[i]? = some l[i] := List.getElem?_eq_getElem hlt
      have hy : k[i]? = some k[i] := List.getElem?_eq_getElem (by omega)
      generalize l[i] = x at hx
      generalize k[i] = y at hy
      have hl1 := fun L => hb1.ld0 hk hx L 13 (by omega)
      have hl2 := fun L => hb2.ld0 hk hy L 13 (by omega)
      simp only [List.take_succ_cons, List.take_zero] at hl1 hl2
      have hlt' : (i : Int) < (l.length : Int) := by omega
      have hlt2 : (i : Int) < (k.length : Int) := by omega
      have hcast : ((i + 1 : Nat) : Int) = (i : Int) + 1 := by omega
      simp (disch := omega) only [t0, t1, t12, t13, hlt', r0_slices_Equal_thing_Thing_thing_Thing, r1_slices_Equal_thing_Thing_thing_Thing, r2_slices_Equal_thing_Thing_thing_Thing, k1_slices_Equal_thing_Thing_thing_Thing, r3_slices_Equal_thing_Thing_thing_Thing, r4_slices_Equal_thing_Thing_thing_Thing, r5_slices_Equal_thing_Thing_thing_Thing, r6_slices_Equal_thing_Thing_thing_Thing, r7_slices_Equal_thing_Thing_thing_Thing, k7_slices_Equal_thing_Thing_thing_Thing, k6_slices_Equal_thing_Thing_thing_Thing, r8_slices_Equal_thing_Thing_thing_Thing, k8_slices_Equal_thing_Thing_thing_Thing, k5_slices_Equal_thing_Thing_thing_Thing, k4_slices_Equal_thing_Thing_thing_Thing, k3_slices_Equal_thing_Thing_thing_Thing, r9_slices_Equal_thing_Thing_thing_Thing, k9_slices_Equal_thing_Thing_thing_Thing, k2_slices_Equal_thing_Thing_thing_Thing, k0_slices_Equal_thing_Thing_thing_Thing, b0_slices_Equal_thing_Thing_thing_Thing, Z0, Z1, Z2, Z3, Z4, Z5, Z6, Z7, Z8, Z9, Z10, resAll, Nat.reduceAdd, Nat.reduceEqDiff, Nat.reduceLeDiff, Nat.reduceMul, ↓reduceIte, reduceCtorEq, Nat.reduceBEq, aoper, Nat.reduceLT, Int.reduceEq, Int.reduceLT, Int.reduceLE]
      refine ends_drw ?_
      have hs : thEq x y = eq13 x.type x.bits x.base x.size x.used x.frm x.badge x.full x.word x.d0 x.d1 x.d2 x.d3 y.type y.bits y.base y.size y.used y.frm y.badge y.full y.word y.d0 y.d1 y.d2 y.d3 := rfl
      cases c2 : thEq x y with
      | true =>
        rw [hs] at c2
        simp (disch := omega) only [t0, t1, t12, t13, hlt', hlt2, hlt, hcast, hl1, hl2, Int.toNat_natCast, kontD_grow hlow, c2, hk.grow, eqTo_next (p := thEq) hall hx hy (hs.trans c2), r0_slices_Equal_thing_Thing_thing_Thing, r1_slices_Equal_thing_Thing_thing_Thing, r2_slices_Equal_thing_Thing_thing_Thing, k1_slices_Equal_thing_Thing_thing_Thing, r3_slices_Equal_thing_Thing_thing_Thing, r4_slices_Equal_thing_Thing_thing_Thing, r5_slices_Equal_thing_Thing_thing_Thing, r6_slices_Equal_thing_Thing_thing_Thing, r7_slices_Equal_thing_Thing_thing_Thing, k7_slices_Equal_thing_Thing_thing_Thing, k6_slices_Equal_thing_Thing_thing_Thing, r8_slices_Equal_thing_Thing_thing_Thing, k8_slices_Equal_thing_Thing_thing_Thing, k5_slices_Equal_thing_Thing_thing_Thing, k4_slices_Equal_thing_Thing_thing_Thing, k3_slices_Equal_thing_Thing_thing_Thing, r9_slices_Equal_thing_Thing_thing_Thing, k9_slices_Equal_thing_Thing_thing_Thing, k2_slices_Equal_thing_Thing_thing_Thing, k0_slices_Equal_thing_Thing_thing_Thing, b0_slices_Equal_thing_Thing_thing_Thing, Z0, Z1, Z2, Z3, Z4, Z5, Z6, Z7, Z8, Z9, Z10, resAll, Nat.reduceAdd, Nat.reduceEqDiff, Nat.reduceLeDiff, Nat.reduceMul, ↓reduceIte, reduceCtorEq, Nat.reduceBEq, aoper, Nat.reduceLT, Int.reduceEq, Int.reduceLT, Int.reduceLE]
      | false =>
        have hf : eqL thEq l k = false := by rw [hE]; exact eqTo_false hx hy c2 _ hlt
        rw [hs] at c2
        simp (disch := omega) only [t0, t1, t12, t13, hlt', hlt2, hl1, hl2, Int.toNat_natCast, kontD_grow hlow, c2, hf, hk.low, r0_slices_Equal_thing_Thing_thing_Thing, r1_slices_Equal_thing_Thing_thing_Thing, r2_slices_Equal_thing_Thing_thing_Thing, k1_slices_Equal_thing_Thing_thing_Thing, r3_slices_Equal_thing_Thing_thing_Thing, r4_slices_Equal_thing_Thing_thing_Thing, r5_slices_Equal_thing_Thing_thing_Thing, r6_slices_Equal_thing_Thing_thing_Thing, r7_slices_Equal_thing_Thing_thing_Thing, k7_slices_Equal_thing_Thing_thing_Thing, k6_slices_Equal_thing_Thing_thing_Thing, r8_slices_Equal_thing_Thing_thing_Thing, k8_slices_Equal_thing_Thing_thing_Thing, k5_slices_Equal_thing_Thing_thing_Thing, k4_slices_Equal_thing_Thing_thing_Thing, k3_slices_Equal_thing_Thing_thing_Thing, r9_slices_Equal_thing_Thing_thing_Thing, k9_slices_Equal_thing_Thing_thing_Thing, k2_slices_Equal_thing_Thing_thing_Thing, k0_slices_Equal_thing_Thing_thing_Thing, b0_slices_Equal_thing_Thing_thing_Thing, Z0, Z1, Z2, Z3, Z4, Z5, Z6, Z7, Z8, Z9, Z10, resAll, Nat.reduceAdd, Nat.reduceEqDiff, Nat.reduceLeDiff, Nat.reduceMul, ↓reduceIte, reduceCtorEq, Nat.reduceBEq, aoper, Nat.reduceLT, Int.reduceEq, Int.reduceLT, Int.reduceLE]
    · have hlt' : ¬ (i : Int) < (l.length : Int) := by omega
      have hii : i = l.length := by omega
      have hf : eqL thEq l k = true := by rw [hE, ← hii]; exact hall
      simp (disch := omega) only [t0, t1, t12, t13, hlt', hf, hk.low, r0_slices_Equal_thing_Thing_thing_Thing, r1_slices_Equal_thing_Thing_thing_Thing, r2_slices_Equal_thing_Thing_thing_Thing, k1_slices_Equal_thing_Thing_thing_Thing, r3_slices_Equal_thing_Thing_thing_Thing, r4_slices_Equal_thing_Thing_thing_Thing, r5_slices_Equal_thing_Thing_thing_Thing, r6_slices_Equal_thing_Thing_thing_Thing, r7_slices_Equal_thing_Thing_thing_Thing, k7_slices_Equal_thing_Thing_thing_Thing, k6_slices_Equal_thing_Thing_thing_Thing, r8_slices_Equal_thing_Thing_thing_Thing, k8_slices_Equal_thing_Thing_thing_Thing, k5_slices_Equal_thing_Thing_thing_Thing, k4_slices_Equal_thing_Thing_thing_Thing, k3_slices_Equal_thing_Thing_thing_Thing, r9_slices_Equal_thing_Thing_thing_Thing, k9_slices_Equal_thing_Thing_thing_Thing, k2_slices_Equal_thing_Thing_thing_Thing, k0_slices_Equal_thing_Thing_thing_Thing, b0_slices_Equal_thing_Thing_thing_Thing, Z0, Z1, Z2, Z3, Z4, Z5, Z6, Z7, Z8, Z9, Z10, resAll, Nat.reduceAdd, Nat.reduceEqDiff, Nat.reduceLeDiff, Nat.reduceMul, ↓reduceIte, reduceCtorEq, Nat.reduceBEq, aoper, Nat.reduceLT, Int.reduceEq, Int.reduceLT, Int.reduceLE]
  · have hf : eqL thEq l k = false := by unfold eqL; simp; intro h; omega
    simp (disch := omega) only [c1, hf, r0_slices_Equal_thing_Thing_thing_Thing, r1_slices_Equal_thing_Thing_thing_Thing, r2_slices_Equal_thing_Thing_thing_Thing, k1_slices_Equal_thing_Thing_thing_Thing, r3_slices_Equal_thing_Thing_thing_Thing, r4_slices_Equal_thing_Thing_thing_Thing, r5_slices_Equal_thing_Thing_thing_Thing, r6_slices_Equal_thing_Thing_thing_Thing, r7_slices_Equal_thing_Thing_thing_Thing, k7_slices_Equal_thing_Thing_thing_Thing, k6_slices_Equal_thing_Thing_thing_Thing, r8_slices_Equal_thing_Thing_thing_Thing, k8_slices_Equal_thing_Thing_thing_Thing, k5_slices_Equal_thing_Thing_thing_Thing, k4_slices_Equal_thing_Thing_thing_Thing, k3_slices_Equal_thing_Thing_thing_Thing, r9_slices_Equal_thing_Thing_thing_Thing, k9_slices_Equal_thing_Thing_thing_Thing, k2_slices_Equal_thing_Thing_thing_Thing, k0_slices_Equal_thing_Thing_thing_Thing, c_slices_Equal_thing_Thing_thing_Thing, Z0, Z1, Z2, Z3, Z4, Z5, Z6, Z7, Z8, Z9, Z10, resAll, Nat.reduceAdd, Nat.reduceEqDiff, Nat.reduceLeDiff, Nat.reduceMul, ↓reduceIte, reduceCtorEq, Nat.reduceBEq, aoper, Nat.reduceLT, Int.reduceEq, Int.reduceLT, Int.reduceLE]
def eq3 (a b c a' b' c' : Int) : Bool := a == a' && (b == b' && c == c')
theorem eqGeo {a b c a' b' c' : Int} : eqLsA [i64 a, i64 b, i64 c] [i64 a', i64 b', i64 c'] [(0, 0), (1, 0), (2, 0)] = some (eq3 a b c a' b' c') := by
  simp [eqLsA, eqScalA, eqScal, eq3]
def sameB (S T : StD) : Bool := eq3 S.threads S.slots S.things T.threads T.slots T.things && eqL slotEq S.sl T.sl && eqL thEq S.th T.th
theorem state_Same_ok (d : Nat) (σ : AHeap) (S T : StD) (a1 : Option Addr) (f1 : Nat) (a2 : Option Addr) (f2 : Nat) (b1 : Option Addr) (g1 : Nat) (b2 : Option Addr) (g2 : Nat) (hl : S.sl.length < 1000) (hm : S.th.length < 1000) (h1 : SlS σ a1 S.sl) (h2 : SlT σ a2 S.th) (h3 : SlS σ b1 T.sl) (h4 : SlT σ b2 T.th) :
    acall (ofProg Tryz.prog) 1000 (d + 2) 22 [stV S a1 f1 a2 f2, stV T b1 g1 b2 g2] σ = some (.bool (sameB S T), σ) := by
  refine acall_flat e_state_Same (by simp) rfl ?_
  have hs := fun L => Equal_slots_ok d (σ.fresh.grow L) S.sl T.sl a1 b1 f1 g1 hl (h1.fresh.grow L) (h3.fresh.grow L)
  have ht := fun L => Equal_things_ok d (σ.fresh.grow L) S.th T.th a2 b2 f2 g2 hm (h2.fresh.grow L) (h4.fresh.grow L)
  unfold sameB
  cases c1 : eq3 S.threads S.slots S.things T.threads T.slots T.things with
  | false => simp (disch := omega) only [eqGeo, c1, r0_state_Same, r1_state_Same, k0_state_Same, c_state_Same, Z0, Z1, Z2, Z3, Z4, Z5, Z6, Z7, Z8, Z9, Z10, resAll, Nat.reduceAdd, Nat.reduceEqDiff, Nat.reduceLeDiff, Nat.reduceMul, ↓reduceIte, reduceCtorEq, Nat.reduceBEq, aoper, Nat.reduceLT, Int.reduceEq, Int.reduceLT, Int.reduceLE]
  | true => cases c2 : eqL slotEq S.sl T.sl with
    | false => simp (disch := omega) only [eqGeo, c1, hs, c2, r0_state_Same, r1_state_Same, k0_state_Same, c_state_Same, Z0, Z1, Z2, Z3, Z4, Z5, Z6, Z7, Z8, Z9, Z10, resAll, Nat.reduceAdd, Nat.reduceEqDiff, Nat.reduceLeDiff, Nat.reduceMul, ↓reduceIte, reduceCtorEq, Nat.reduceBEq, aoper, Nat.reduceLT, Int.reduceEq, Int.reduceLT, Int.reduceLE]
    | true => cases c3 : eqL thEq S.th T.th with
      | false => simp (disch := omega) only [eqGeo, c1, hs, c2, ht, c3, r0_state_Same, r1_state_Same, k0_state_Same, c_state_Same, Z0, Z1, Z2, Z3, Z4, Z5, Z6, Z7, Z8, Z9, Z10, resAll, Nat.reduceAdd, Nat.reduceEqDiff, Nat.reduceLeDiff, Nat.reduceMul, ↓reduceIte, reduceCtorEq, Nat.reduceBEq, aoper, Nat.reduceLT, Int.reduceEq, Int.reduceLT, Int.reduceLE]
      | true => simp (disch := omega) only [eqGeo, c1, hs, c2, ht, c3, r0_state_Same, r1_state_Same, k0_state_Same, c_state_Same, Z0, Z1, Z2, Z3, Z4, Z5, Z6, Z7, Z8, Z9, Z10, resAll, Nat.reduceAdd, Nat.reduceEqDiff, Nat.reduceLeDiff, Nat.reduceMul, ↓reduceIte, reduceCtorEq, Nat.reduceBEq, aoper, Nat.reduceLT, Int.reduceEq, Int.reduceLT, Int.reduceLE]
end Go.Proofs.YtidmcpkbcphpiaaGreat
namespace Go.Proofs.YtidmcpkbcphpiaaGreat
open Go Go.Hai
set_option maxRecDepth 20000
set_option linter.unusedSimpArgs false
set_option maxHeartbeats 8000000
attribute [local irreducible] Hai.Ends EndsR EndsO EndsD EndsX EndsE AHeap.grow
def r0_slices_Clone_state_Slot_state_Slot : List AOper := [(.mk (some 2) none (.mv (.const (.slice none 0 0))))]
def r1_slices_Clone_state_Slot_state_Slot : List AOper := [(.mk (some 3) none (.mv (.tmp 0))), (.mk (some 4) none (.eqNil false (.tmp 3)))]
def r2_slices_Clone_state_Slot_state_Slot : List AOper := [(.mk (some 2) none (.mv (.const (.slice none 0 0))))]
def k1_slices_Clone_state_Slot_state_Slot : ACode := (.cond (.tmp 4) (.seq (.reg r2_slices_Clone_state_Slot_state_Slot) .ret) .skip)
def r3_slices_Clone_state_Slot_state_Slot : List AOper := [(.mk (some 5) none (.buildSl [] 5 0 [])), (.mk (some 6) none (.mv (.tmp 0))), (.mk (some 7) none (.app 5 40 (.tmp 5) (.tmp 6))), (.mk (some 2) none (.mv (.tmp 7)))]
def k2_slices_Clone_state_Slot_state_Slot : ACode := (.seq (.reg r3_slices_Clone_state_Slot_state_Slot) .ret)
def k0_slices_Clone_state_Slot_state_Slot : ACode := (.seq (.seq (.reg r1_slices_Clone_state_Slot_state_Slot) k1_slices_Clone_state_Slot_state_Slot) k2_slices_Clone_state_Slot_state_Slot)
def c_slices_Clone_state_Slot_state_Slot : ACode := (.seq (.reg r0_slices_Clone_state_Slot_state_Slot) k0_slices_Clone_state_Slot_state_Slot)
theorem e_slices_Clone_state_Slot_state_Slot : ofProg Tryz.prog 64 = some ⟨8, [(.tmp 2)], c_slices_Clone_state_Slot_state_Slot⟩ := by kernel_rfl
def r0_slices_Clone_thing_Thing_thing_Thing : List AOper := [(.mk (some 2) none (.mv (.const (.slice none 0 0))))]
def r1_slices_Clone_thing_Thing_thing_Thing : List AOper := [(.mk (some 3) none (.mv (.tmp 0))), (.mk (some 4) none (.eqNil false (.tmp 3)))]
def r2_slices_Clone_thing_Thing_thing_Thing : List AOper := [(.mk (some 2) none (.mv (.const (.slice none 0 0))))]
def k1_slices_Clone_thing_Thing_thing_Thing : ACode := (.cond (.tmp 4) (.seq (.reg r2_slices_Clone_thing_Thing_thing_Thing) .ret) .skip)
def r3_slices_Clone_thing_Thing_thing_Thing : List AOper := [(.mk (some 5) none (.buildSl [] 13 0 [])), (.mk (some 6) none (.mv (.tmp 0))), (.mk (some 7) none (.app 13 104 (.tmp 5) (.tmp 6))), (.mk (some 2) none (.mv (.tmp 7)))]
def k2_slices_Clone_thing_Thing_thing_Thing : ACode := (.seq (.reg r3_slices_Clone_thing_Thing_thing_Thing) .ret)
def k0_slices_Clone_thing_Thing_thing_Thing : ACode := (.seq (.seq (.reg r1_slices_Clone_thing_Thing_thing_Thing) k1_slices_Clone_thing_Thing_thing_Thing) k2_slices_Clone_thing_Thing_thing_Thing)
def c_slices_Clone_thing_Thing_thing_Thing : ACode := (.seq (.reg r0_slices_Clone_thing_Thing_thing_Thing) k0_slices_Clone_thing_Thing_thing_Thing)
theorem e_slices_Clone_thing_Thing_thing_Thing : ofProg Tryz.prog 65 = some ⟨8, [(.tmp 2)], c_slices_Clone_thing_Thing_thing_Thing⟩ := by kernel_rfl
def r0_state_Clone : List AOper := [(.mk (some 1) none (.box 5 (.tmp 0))), (.mk (some 2) none (.alloc [(.int .i64 0), (.int .i64 0), (.int .i64 0), (.slice none 0 0), (.slice none 0 0)] 5))]
def r1_state_Clone : List AOper := [(.mk (some 3) none (.fldA 0 (.tmp 1))), (.mk (some 4) none (.load true 3 (.tmp 3))), (.mk (some 5) none (.fldA 3 (.tmp 1))), (.mk (some 6) none (.load false 1 (.tmp 5))), (.mk (some 7) none (.call 64 [(.tmp 6)])), (.mk (some 8) none (.fldA 4 (.tmp 1))), (.mk (some 9) none (.load false 1 (.tmp 8))), (.mk (some 10) none (.call 65 [(.tmp 9)])), (.mk (some 11) none (.build [(.int .i64 0), (.int .i64 0), (.int .i64 0), (.slice none 0 0), (.slice none 0 0)] [(0, (3, (.tmp 4))), (3, (1, (.tmp 7))), (4, (1, (.tmp 10)))])), (.mk none none (.store 5 (.tmp 2) (.tmp 11)))]
def k0_state_Clone : ACode := (.seq (.drw r1_state_Clone [0, 1, 0, 4, 12, 0, 32, 124, 255, 511]) .ret)
def c_state_Clone : ACode := (.seq (.reg r0_state_Clone) k0_state_Clone)
theorem e_state_Clone : ofProg Tryz.prog 15 = some ⟨12, [(.cell 2 true 5)], c_state_Clone⟩ := by kernel_rfl

theorem Clone_slots_ok (d : Nat) (σ : AHeap) (l : List SlotD) (b f : Nat) (hlo : σ.low ≤ σ.n) (h : SlAt slotL 5 σ b l) (hl : 0 < l.length) (hm : l.length < 1000) :
    ∃ c τ, acall (ofProg Tryz.prog) 1000 (d + 1) 64 [.slice (some ⟨b, 0, none⟩) l.length f] σ = some (.slice (some ⟨c, 0, none⟩) l.length 1, τ) ∧ Keeps σ τ ∧ σ.n ≤ c ∧ c < τ.n ∧ τ.t.get c = some (rowOf (flatL slotL l, 5)) := by
  suffices hs : Hai.Ends (acode (acall (ofProg Tryz.prog) 1000 d) 1000 c_slices_Clone_state_Slot_state_Slot (Tr.of [.slice (some ⟨b, 0, none⟩) l.length f]) (σ.fresh.grow [])) (finA σ.n [.tmp 2] fun v τ => ∃ c, v = .slice (some ⟨c, 0, none⟩) l.length 1 ∧ Keeps σ.fresh τ ∧ σ.n ≤ c ∧ c < τ.n ∧ τ.t.get c = some (rowOf (flatL slotL l, 5))) by
    obtain ⟨v, τ', e, τ, ⟨c, rfl, g1, g2, g3, g4⟩, g⟩ := acall_addr e_slices_Clone_state_Slot_state_Slot (by simp) hlo hs
    rcases g with ⟨g, _⟩ | rfl
    · cases g
    · exact ⟨c, _, e, g1.back, g2, g3, g4⟩
  have hk := Keeps.self σ.fresh [(([] : List Value), 5)]
  have hfr : SlAt slotL 5 σ.fresh b l := h
  obtain ⟨τ, e, k1, k2, k3⟩ := app_copy (cells := slotL) (es := 5) (by_ := 40) (b' := σ.fresh.n) (f := f) (fun _ => rfl) (hfr.keeps hk) hl hm (by omega)
  have hn : (σ.fresh.grow [(([] : List Value), 5)]).n = σ.n + 1 := by rw [grow_n]; rfl
  rw [hn] at e k2 k3
  have h0 : (if Nat.beq 0 0 = true then 0 else 1) = 0 := rfl
  simp (disch := omega) only [o_eqNil, nilO_some, h0, Nat.beq_refl, e, r0_slices_Clone_state_Slot_state_Slot, r1_slices_Clone_state_Slot_state_Slot, r2_slices_Clone_state_Slot_state_Slot, k1_slices_Clone_state_Slot_state_Slot, r3_slices_Clone_state_Slot_state_Slot, k2_slices_Clone_state_Slot_state_Slot, k0_slices_Clone_state_Slot_state_Slot, c_slices_Clone_state_Slot_state_Slot, Z0, Z1, Z2, Z3, Z4, Z5, Z6, Z7, Z8, Z9, Z10, resAll, Nat.reduceAdd, Nat.reduceEqDiff, Nat.reduceLeDiff, Nat.reduceMul, ↓reduceIte, reduceCtorEq, Nat.reduceBEq, aoper, Nat.reduceLT, Int.reduceEq, Int.reduceLT, Int.reduceLE]
  refine ⟨⟨σ.n + 1, rfl, hk.trans k1, by omega, by omega, k3⟩, ?_⟩
  rw [k1.low, grow_low]; rfl
theorem Clone_things_ok (d : Nat) (σ : AHeap) (l : List ThingD) (b f : Nat) (hlo : σ.low ≤ σ.n) (h : SlAt thingL 13 σ b l) (hl : 0 < l.length) (hm : l.length < 1000) :
    ∃ c τ, acall (ofProg Tryz.prog) 1000 (d + 1) 65 [.slice (some ⟨b, 0, none⟩) l.length f] σ = some (.slice (some ⟨c, 0, none⟩) l.length 1, τ) ∧ Keeps σ τ ∧ σ.n ≤ c ∧ c < τ.n ∧ τ.t.get c = some (rowOf (flatL thingL l, 13)) := by
  suffices hs : Hai.Ends (acode (acall (ofProg Tryz.prog) 1000 d) 1000 c_slices_Clone_thing_Thing_thing_Thing (Tr.of [.slice (some ⟨b, 0, none⟩) l.length f]) (σ.fresh.grow [])) (finA σ.n [.tmp 2] fun v τ => ∃ c, v = .slice (some ⟨c, 0, none⟩) l.length 1 ∧ Keeps σ.fresh τ ∧ σ.n ≤ c ∧ c < τ.n ∧ τ.t.get c = some (rowOf (flatL thingL l, 13))) by
    obtain ⟨v, τ', e, τ, ⟨c, rfl, g1, g2, g3, g4⟩, g⟩ := acall_addr e_slices_Clone_thing_Thing_thing_Thing (by simp) hlo hs
    rcases g with ⟨g, _⟩ | rfl
    · cases g
    · exact ⟨c, _, e, g1.back, g2, g3, g4⟩
  have hk := Keeps.self σ.fresh [(([] : List Value), 13)]
  have hfr : SlAt thingL 13 σ.fresh b l := h
  obtain ⟨τ, e, k1, k2, k3⟩ := app_copy (cells := thingL) (es := 13) (by_ := 104) (b' := σ.fresh.n) (f := f) (fun _ => rfl) (hfr.keeps hk) hl hm (by omega)
  have hn : (σ.fresh.grow [(([] : List Value), 13)]).n = σ.n + 1 := by rw [grow_n]; rfl
  rw [hn] at e k2 k3
  have h0 : (if Nat.beq 0 0 = true then 0 else 1) = 0 := rfl
  simp (disch := omega) only [o_eqNil, nilO_some, h0, Nat.beq_refl, e, r0_slices_Clone_thing_Thing_thing_Thing, r1_slices_Clone_thing_Thing_thing_Thing, r2_slices_Clone_thing_Thing_thing_Thing, k1_slices_Clone_thing_Thing_thing_Thing, r3_slices_Clone_thing_Thing_thing_Thing, k2_slices_Clone_thing_Thing_thing_Thing, k0_slices_Clone_thing_Thing_thing_Thing, c_slices_Clone_thing_Thing_thing_Thing, Z0, Z1, Z2, Z3, Z4, Z5, Z6, Z7, Z8, Z9, Z10, resAll, Nat.reduceAdd, Nat.reduceEqDiff, Nat.reduceLeDiff, Nat.reduceMul, ↓reduceIte, reduceCtorEq, Nat.reduceBEq, aoper, Nat.reduceLT, Int.reduceEq, Int.reduceLT, Int.reduceLE]
  refine ⟨⟨σ.n + 1, rfl, hk.trans k1, by omega, by omega, k3⟩, ?_⟩
  rw [k1.low, grow_low]; rfl
theorem state_Clone_ok (d : Nat) (σ : AHeap) (S : StD) (b1 f1 b2 f2 : Nat) (hlo : σ.low ≤ σ.n) (h1 : SlAt slotL 5 σ b1 S.sl) (h2 : SlAt thingL 13 σ b2 S.th) (hl : 0 < S.sl.length) (hm : S.sl.length < 1000) (hl2 : 0 < S.th.length) (hm2 : S.th.length < 1000) :
    ∃ c1 c2 τ, acall (ofProg Tryz.prog) 1000 (d + 2) 15 [stV S (some ⟨b1, 0, none⟩) f1 (some ⟨b2, 0, none⟩) f2] σ = some (stV S (some ⟨c1, 0, none⟩) 1 (some ⟨c2, 0, none⟩) 1, τ) ∧ Keeps σ τ ∧ σ.n ≤ c1 ∧ c1 < c2 ∧ c2 < τ.n ∧
      τ.t.get c1 = some (rowOf (flatL slotL S.sl, 5)) ∧ τ.t.get c2 = some (rowOf (flatL thingL S.th, 13)) := by
  suffices hs : Hai.Ends (acode (acall (ofProg Tryz.prog) 1000 (d + 1)) 1000 c_state_Clone (Tr.of [stV S (some ⟨b1, 0, none⟩) f1 (some ⟨b2, 0, none⟩) f2]) (σ.fresh.grow [])) (finA σ.n [.cell 2 true 5] fun v τ => ∃ c1 c2, v = stV S (some ⟨c1, 0, none⟩) 1 (some ⟨c2, 0, none⟩) 1 ∧ Keeps σ.fresh τ ∧ σ.n ≤ c1 ∧ c1 < c2 ∧ c2 < τ.n ∧
      τ.t.get c1 = some (rowOf (flatL slotL S.sl, 5)) ∧ τ.t.get c2 = some (rowOf (flatL thingL S.th, 13))) by
    obtain ⟨v, τ', e, τ, ⟨c1, c2, rfl, g1, g2, g3, g4, g5, g6⟩, g⟩ := acall_addr e_state_Clone (by simp) hlo hs
    rcases g with ⟨g, _⟩ | rfl
    · cases g
    · exact ⟨c1, c2, _, e, g1.back, g2, g3, g4, g5, g6⟩
  have hk0 := Keeps.self σ.fresh [(stL S (some ⟨b1, 0, none⟩) f1 (some ⟨b2, 0, none⟩) f2, 5), ([.int .i64 0, .int .i64 0, .int .i64 0, .slice none 0 0, .slice none 0 0], 5)]
  simp (disch := omega) only [r0_state_Clone, r1_state_Clone, k0_state_Clone, c_state_Clone, Z0, Z1, Z2, Z3, Z4, Z5, Z6, Z7, Z8, Z9, Z10, resAll, Nat.reduceAdd, Nat.reduceEqDiff, Nat.reduceLeDiff, Nat.reduceMul, ↓reduceIte, reduceCtorEq, Nat.reduceBEq, aoper, Nat.reduceLT, Int.reduceEq, Int.reduceLT, Int.reduceLE]
  refine ends_drwE 9 (by kernel_rfl) ?_
  generalize hL : ([(stL S (some ⟨b1, 0, none⟩) f1 (some ⟨b2, 0, none⟩) f2, 5), ([Value.int .i64 0, .int .i64 0, .int .i64 0, .slice none 0 0, .slice none 0 0], 5)] : List (List Value × Nat)) = L at hk0
  have hlo0 : (σ.fresh.grow L).low ≤ (σ.fresh.grow L).n := low_grow fresh_le L
  have g1 : SlAt slotL 5 (σ.fresh.grow L) b1 S.sl := SlAt.keeps (σ := σ.fresh) h1 hk0
  have g2 : SlAt thingL 13 (σ.fresh.grow L) b2 S.th := SlAt.keeps (σ := σ.fresh) h2 hk0
  obtain ⟨c1, τ1, e1, k1, p1, q1, r1⟩ := Clone_slots_ok d ((σ.fresh.grow L).setLow (σ.fresh.grow L).n) S.sl b1 f1 (Nat.le_refl _) g1 hl hm
  have hS : (σ.fresh.grow L).low = σ.n := by rw [grow_low]; rfl
  have hkE := fun {os : List AOper} {t : Tmps} {Q : Tmps → AHeap → Prop} {d' : Option Nat} {op : AOp} {v : Value} => kontE_new (call := acall (ofProg Tryz.prog) 1000 (d + 1)) (n := 4) (os := os) (t := t) (Q := Q) (d := d') (op := op) (v := v) hlo0 (τ := τ1) k1.low
  rw [hS] at hkE
  have kL : Keeps (σ.fresh.grow L) (τ1.setLow σ.n) := ⟨k1.n, hS.symm, k1.dead, k1.row⟩
  have q1' : c1 < (τ1.setLow σ.n).n := q1
  have r1' : (τ1.setLow σ.n).t.get c1 = some (rowOf (flatL slotL S.sl, 5)) := r1
  have hnn : (σ.fresh.grow L).n = σ.n + L.length := grow_n σ.fresh L
  have p1' : σ.n + 2 ≤ c1 := by
    have : (σ.fresh.grow L).n ≤ c1 := p1
    rw [hnn, ← hL] at this; simpa using this
  generalize hX : τ1.setLow σ.n = X at *
  have kk := hk0.trans kL
  have hb0 : ∀ o n, X.loadN σ.fresh.n o n = sliceL (stL S (some ⟨b1, 0, none⟩) f1 (some ⟨b2, 0, none⟩) f2) o n := fun o n => by
    have := kL.own0 (e := 5) (r := stL S (some ⟨b1, 0, none⟩) f1 (some ⟨b2, 0, none⟩) f2) (by rw [← hL]; rfl) [] o n
    rwa [grow_nil] at this
  have hb1 : X.t.get (σ.fresh.n + 1) = some (rowOf ([.int .i64 0, .int .i64 0, .int .i64 0, .slice none 0 0, .slice none 0 0], 5)) := by
    have : σ.n + 1 < (σ.fresh.grow L).n := by rw [hnn, ← hL]; simp
    refine (kL.row _ this).trans (grow_new σ.fresh L 1 ?_)
    rw [← hL]; rfl
  have g2' := g2.keeps kL
  have hlx : X.low = σ.n := kk.low
  have hnx : σ.n + 2 ≤ X.n := by omega
  have hlX : X.low ≤ X.n := by omega
  obtain ⟨c2, τ2, e2, k2, p2, q2, r2⟩ := Clone_things_ok d (X.setLow X.n) S.th b2 f2 (Nat.le_refl _) g2' hl2 hm2
  have hkF := fun {os : List AOper} {t : Tmps} {Q : Tmps → AHeap → Prop} {d' : Option Nat} {op : AOp} {v : Value} => kontE_new (call := acall (ofProg Tryz.prog) 1000 (d + 1)) (n := 1) (os := os) (t := t) (Q := Q) (d := d') (op := op) (v := v) hlX (τ := τ2) k2.low
  have kY : Keeps X (τ2.setLow X.low) := ⟨k2.n, rfl, k2.dead, k2.row⟩
  have q2' : c2 < (τ2.setLow X.low).n := q2
  have r2' : (τ2.setLow X.low).t.get c2 = some (rowOf (flatL thingL S.th, 13)) := r2
  have p2' : X.n ≤ c2 := p2
  generalize hY : τ2.setLow X.low = Y at *
  have hlY : Y.low ≤ Y.n := by have := kY.low; have := kY.n; omega
  have hyb1 := (kY.row _ (by show σ.n + 1 < X.n; omega)).trans hb1
  have hyb0 : ∀ o n, Y.loadN σ.fresh.n o n = sliceL (stL S (some ⟨b1, 0, none⟩) f1 (some ⟨b2, 0, none⟩) f2) o n := fun o n => (kY.load o n (by show σ.n < X.n; omega)).trans (hb0 o n)
  obtain ⟨Z, hz1, hz2, hz3, hz4, hz5, hz6⟩ := stX_row (vs := stL S (some ⟨c1, 0, none⟩) 1 (some ⟨c2, 0, none⟩) 1) (o := 0) hyb1 (by have := kY.low; show Y.low ≤ σ.n + 1; omega) (by have := kY.n; show σ.n + 1 < Y.n; omega) (Nat.le_refl _) rfl
  have hzl : Z.loadN (σ.fresh.n + 1) 0 5 = some (stL S (some ⟨c1, 0, none⟩) 1 (some ⟨c2, 0, none⟩) 1) := load_row hz2 (Nat.le_refl _)
  have kZ : Keeps σ.fresh Z := ⟨by have := kk.n; have := kY.n; omega, by rw [hz5, kY.low, kk.low], by rw [hz6, kY.dead, kk.dead], fun b hb => by
    rw [hz3 b (by show b ≠ σ.n + 1; have : b < σ.n := hb; omega), kY.row b (by have : b < σ.n := hb; omega), kk.row b hb]⟩
  have hc1 : Z.t.get c1 = some (rowOf (flatL slotL S.sl, 5)) := by rw [hz3 c1 (by show c1 ≠ σ.n + 1; omega), kY.row c1 q1', r1']
  have hc2 : Z.t.get c2 = some (rowOf (flatL thingL S.th, 13)) := by rw [hz3 c2 (by show c2 ≠ σ.n + 1; omega), r2']
  subst hL
  simp (disch := omega) only [e_1, kontE_grow fresh_le, e1, hkE, r0_state_Clone, r1_state_Clone, k0_state_Clone, c_state_Clone, Z0, Z1, Z2, Z3, Z4, Z5, Z6, Z7, Z8, Z9, Z10, resAll, Nat.reduceAdd, Nat.reduceEqDiff, Nat.reduceLeDiff, Nat.reduceMul, ↓reduceIte, reduceCtorEq, Nat.reduceBEq, aoper, Nat.reduceLT, Int.reduceEq, Int.reduceLT, Int.reduceLE]
  simp (disch := omega) only [e_1, kontE_ok hlX, hb0, e2, hkF, r0_state_Clone, r1_state_Clone, k0_state_Clone, c_state_Clone, Z0, Z1, Z2, Z3, Z4, Z5, Z6, Z7, Z8, Z9, Z10, resAll, Nat.reduceAdd, Nat.reduceEqDiff, Nat.reduceLeDiff, Nat.reduceMul, ↓reduceIte, reduceCtorEq, Nat.reduceBEq, aoper, Nat.reduceLT, Int.reduceEq, Int.reduceLT, Int.reduceLE]
  simp (disch := omega) only [e_1, e_0, x_1, x_nil, kontE_ok hlY, kontX_ok hlY, hyb0, fillL_3, fill3_5, hz1, hzl, r0_state_Clone, r1_state_Clone, k0_state_Clone, c_state_Clone, Z0, Z1, Z2, Z3, Z4, Z5, Z6, Z7, Z8, Z9, Z10, resAll, Nat.reduceAdd, Nat.reduceEqDiff, Nat.reduceLeDiff, Nat.reduceMul, ↓reduceIte, reduceCtorEq, Nat.reduceBEq, aoper, Nat.reduceLT, Int.reduceEq, Int.reduceLT, Int.reduceLE]
  exact ⟨⟨c1, c2, rfl, kZ, by omega, by omega, by omega, hc1, hc2⟩, by have := kY.low; omega⟩
end Go.Proofs.YtidmcpkbcphpiaaGreat
namespace Go.Proofs.YtidmcpkbcphpiaaGreat
open Go Go.Hai
set_option maxRecDepth 20000
set_option linter.unusedSimpArgs false
set_option maxHeartbeats 8000000
attribute [local irreducible] Hai.Ends EndsR EndsO EndsD EndsX EndsE EndsK AHeap.grow AHeap.putR
def r0_mail_send : List AOper := [(.mk (some 4) none (.box 5 (.tmp 0))), (.mk (some 6) none (.box 6 (.tmp 2))), (.mk (some 7) none (.box 4 (.tmp 3))), (.mk (some 8) none (.alloc [(.int .i64 0), (.int .i64 0), (.int .i64 0), (.slice none 0 0), (.slice none 0 0)] 5)), (.mk (some 9) none (.alloc [(.int .i64 0), (.int .u64 0), (.int .i64 0)] 3))]
def r1_mail_send : List AOper := [(.mk (some 10) none (.mv (.const (.int .i64 0))))]
def r2_mail_send : List AOper := [(.mk (some 14) none (.fldA 2 (.tmp 6))), (.mk (some 15) none (.fldA 0 (.tmp 14))), (.mk (some 16) none (.load false 1 (.tmp 15))), (.mk (some 17) none (.lenS (.tmp 16))), (.mk (some 18) none (.bin .gtr (.tmp 17) (.const (.int .i64 0))))]
def r3_mail_send : List AOper := [(.mk (some 19) none (.fldA 2 (.tmp 7))), (.mk (some 20) none (.load false 1 (.tmp 19))), (.mk (some 21) none (.call 66 [(.const (.int .i64 4)), (.tmp 20)])), (.mk (some 22) none (.un .not (.tmp 21)))]
def r4_mail_send : List AOper := [(.mk (some 23) none (.load true 5 (.tmp 4))), (.mk (some 24) none (.build [(.int .i64 0), (.int .u64 0), (.int .i64 0)] [(0, (1, (.const (.int .i64 6))))])), (.mk none none (.store 5 (.tmp 8) (.tmp 23))), (.mk none none (.store 3 (.tmp 9) (.tmp 24)))]
def k3_mail_send : ACode := (.cond (.tmp 22) (.seq (.reg r4_mail_send) .ret) .skip)
def r5_mail_send : List AOper := [(.mk (some 26) none (.load true 5 (.tmp 4))), (.mk (some 27) none (.mv (.tmp 1))), (.mk (some 28) none (.fldA 2 (.tmp 6))), (.mk (some 29) none (.load true 1 (.tmp 28))), (.mk (some 30) none (.call 28 [(.tmp 26), (.tmp 27), (.tmp 29)])), (.mk (some 25) none (.mv (.tmp 30))), (.mk (some 31) none (.ext (.tmp 25) 0)), (.mk (some 32) none (.ext (.tmp 25) 1)), (.mk (some 33) none (.ext (.tmp 25) 2)), (.mk (some 12) none (.alloc [(.int .i64 0), (.int .i64 0), (.int .i64 0), (.int .i64 0)] 4)), (.mk (some 11) none (.mv (.tmp 31))), (.mk none none (.store 4 (.tmp 12) (.tmp 32))), (.mk (some 13) none (.mv (.tmp 33)))]
def r6_mail_send : List AOper := [(.mk (some 35) none (.mv (.tmp 13))), (.mk (some 36) none (.bin .neq (.tmp 35) (.const (.int .i64 0)))), (.mk (some 34) none (.mv (.tmp 36)))]
def r7_mail_send : List AOper := [(.mk (some 37) none (.load true 5 (.tmp 4))), (.mk (some 38) none (.mv (.tmp 13))), (.mk (some 39) none (.build [(.int .i64 0), (.int .u64 0), (.int .i64 0)] [(0, (1, (.tmp 38)))])), (.mk none none (.store 5 (.tmp 8) (.tmp 37))), (.mk none none (.store 3 (.tmp 9) (.tmp 39)))]
def r8_mail_send : List AOper := [(.mk (some 41) none (.fldA 0 (.tmp 12))), (.mk (some 42) none (.load false 1 (.tmp 41))), (.mk (some 43) none (.bin .eql (.tmp 42) (.const (.int .i64 1)))), (.mk (some 40) none (.mv (.tmp 43)))]
def r9_mail_send : List AOper := [(.mk (some 44) none (.load true 5 (.tmp 4))), (.mk (some 45) none (.build [(.int .i64 0), (.int .u64 0), (.int .i64 0)] [(0, (1, (.const (.int .i64 7))))])), (.mk none none (.store 5 (.tmp 8) (.tmp 44))), (.mk none none (.store 3 (.tmp 9) (.tmp 45)))]
def k7_mail_send : ACode := (.cond (.tmp 40) (.seq (.reg r9_mail_send) .ret) .skip)
def k6_mail_send : ACode := (.cond (.tmp 34) (.seq (.reg r7_mail_send) .ret) (.seq (.reg r8_mail_send) k7_mail_send))
def r10_mail_send : List AOper := [(.mk (some 46) none (.mv (.tmp 11))), (.mk (some 47) none (.bin .add (.tmp 46) (.const (.int .i64 1)))), (.mk (some 10) none (.mv (.tmp 47)))]
def k8_mail_send : ACode := (.reg r10_mail_send)
def k5_mail_send : ACode := (.seq (.block 0 (.seq (.reg r6_mail_send) k6_mail_send)) k8_mail_send)
def k4_mail_send : ACode := (.seq (.reg r5_mail_send) k5_mail_send)
def k2_mail_send : ACode := (.cond (.tmp 18) (.seq (.seq (.reg r3_mail_send) k3_mail_send) k4_mail_send) .skip)
def r11_mail_send : List AOper := [(.mk (some 48) none (.fldA 4 (.tmp 4))), (.mk (some 49) none (.load false 1 (.tmp 48))), (.mk (some 50) none (.fldA 1 (.tmp 7))), (.mk (some 51) none (.load false 1 (.tmp 50))), (.mk (some 52) none (.idxA 13 (.tmp 49) (.tmp 51))), (.mk (some 53) none (.fldA 7 (.tmp 52))), (.mk (some 54) none (.load false 1 (.tmp 53)))]
def r12_mail_send : List AOper := [(.mk (some 55) none (.load true 5 (.tmp 4))), (.mk (some 56) none (.build [(.int .i64 0), (.int .u64 0), (.int .i64 0)] [(0, (1, (.const (.int .i64 13))))])), (.mk none none (.store 5 (.tmp 8) (.tmp 55))), (.mk none none (.store 3 (.tmp 9) (.tmp 56)))]
def k10_mail_send : ACode := (.cond (.tmp 54) (.seq (.reg r12_mail_send) .ret) .skip)
def r13_mail_send : List AOper := [(.mk (some 57) none (.load true 5 (.tmp 4))), (.mk (some 58) none (.call 15 [(.tmp 57)])), (.mk none none (.store 5 (.tmp 4) (.tmp 58)))]
def r14_mail_send : List AOper := [(.mk (some 59) none (.fldA 4 (.tmp 4))), (.mk (some 60) none (.load false 1 (.tmp 59))), (.mk (some 61) none (.fldA 1 (.tmp 7))), (.mk (some 62) none (.load false 1 (.tmp 61))), (.mk (some 63) none (.fldA 5 (.tmp 6))), (.mk (some 64) none (.load false 1 (.tmp 63))), (.mk (some 65) none (.fldA 3 (.tmp 7))), (.mk (some 66) none (.load false 1 (.tmp 65))), (.mk (some 67) none (.mv (.tmp 10))), (.mk (some 68) none (.build [(.int .i64 0), (.int .i64 0), (.int .i64 0), (.int .i64 0), (.int .i64 0), (.int .i64 0), (.int .i64 0), (.bool false), (.int .u64 0), (.int .u64 0), (.int .u64 0), (.int .u64 0), (.int .u64 0)] [(0, (1, (.const (.int .i64 3)))), (7, (1, (.const (.bool true)))), (8, (1, (.tmp 64))), (6, (1, (.tmp 66))), (5, (1, (.tmp 67)))])), (.mk (some 69) none (.idxA 13 (.tmp 60) (.tmp 62))), (.mk none none (.store 13 (.tmp 69) (.tmp 68)))]
def r15_mail_send : List AOper := [(.mk (some 70) none (.load true 5 (.tmp 4))), (.mk (some 71) none (.build [(.int .i64 0), (.int .u64 0), (.int .i64 0)] [])), (.mk none none (.store 5 (.tmp 8) (.tmp 70))), (.mk none none (.store 3 (.tmp 9) (.tmp 71)))]
def k13_mail_send : ACode := (.seq (.reg r15_mail_send) .ret)
def k12_mail_send : ACode := (.seq (.reg r14_mail_send) k13_mail_send)
def k11_mail_send : ACode := (.seq (.reg r13_mail_send) k12_mail_send)
def k9_mail_send : ACode := (.seq (.seq (.reg r11_mail_send) k10_mail_send) k11_mail_send)
def k1_mail_send : ACode := (.seq (.seq (.reg r2_mail_send) k2_mail_send) k9_mail_send)
def k0_mail_send : ACode := (.seq (.reg r1_mail_send) k1_mail_send)
def c_mail_send : ACode := (.seq (.reg r0_mail_send) k0_mail_send)
theorem e_mail_send : ofProg Tryz.prog 67 = some ⟨72, [(.cell 8 true 5), (.cell 9 true 3)], c_mail_send⟩ := by kernel_rfl

def repL (e w n : Int) : List Value := [i64 e, u64 w, i64 n]
abbrev repV (e w n : Int) : Value := .agg (repL e w n).toArray
def mailT (w b f : Int) : ThingD := ⟨3, 0, 0, 0, 0, f, b, true, w, 0, 0, 0, 0⟩
def setT (S : StD) (i : Nat) (t : ThingD) : StD := { S with th := S.th.set i t }
def sendF (S : StD) (box : SlotD) (w : Int) : StD × Int := match atI S.th box.thing with
  | some t => if t.full then (S, 13) else (setT S box.thing.toNat (mailT w box.badge 0), 0)
  | none => (S, 0)
/- a state, somewhere -/
def StOut (σ : AHeap) (a b : Nat) (T : StD) (v : Value) (τ : AHeap) : Prop := ∃ b1 f1 b2 f2, v = stV T (some ⟨b1, 0, none⟩) f1 (some ⟨b2, 0, none⟩) f2 ∧ SlAt slotL 5 τ b1 T.sl ∧ SlAt thingL 13 τ b2 T.th ∧ Keeps σ τ ∧ (b1 = a ∨ σ.n ≤ b1) ∧ (b2 = b ∨ σ.n ≤ b2)
theorem mail_send_ok (d : Nat) (σ : AHeap) (S : StD) (b1 f1 b2 f2 : Nat) (thread X Y W : Int) (aA : Option Addr) (nA fA : Nat) (aB : Option Addr) (fB : Nat) (box : SlotD) (x : ThingD) (hlo : σ.low ≤ σ.n)
    (h1 : SlAt slotL 5 σ b1 S.sl) (h2 : SlAt thingL 13 σ b2 S.th) (hl : 0 < S.sl.length) (hm : S.sl.length < 1000) (hm2 : S.th.length < 1000) (hx0 : atI S.th box.thing = some x) :
    ∃ v τ, acall (ofProg Tryz.prog) 1000 (d + 3) 67 [stV S (some ⟨b1, 0, none⟩) f1 (some ⟨b2, 0, none⟩) f2, .int .i64 thread, callV 7 aA nA fA aB 0 fB X Y W, capV box] σ = some (.tuple [v, repV (sendF S box W).2 0 0].toArray, τ) ∧ StOut σ b1 b2 (sendF S box W).1 v τ := by
  suffices hs : Hai.Ends (acode (acall (ofProg Tryz.prog) 1000 (d + 2)) 1000 c_mail_send (Tr.of [stV S (some ⟨b1, 0, none⟩) f1 (some ⟨b2, 0, none⟩) f2, .int .i64 thread, callV 7 aA nA fA aB 0 fB X Y W, capV box]) (σ.fresh.grow []))
      (finA σ.n [.cell 8 true 5, .cell 9 true 3] fun v τ => ∃ u, v = .tuple [u, repV (sendF S box W).2 0 0].toArray ∧ StOut σ.fresh b1 b2 (sendF S box W).1 u τ) by
    obtain ⟨v, τ', e, τ, ⟨u, rfl, a1', f1', a2', f2', rfl, g1, g2, g3, g4⟩, g⟩ := acall_addr e_mail_send (by simp) hlo hs
    rcases g with ⟨g, _⟩ | rfl
    · cases g
    · exact ⟨_, _, e, _, _, _, _, rfl, g1, g2, g3.back, g4⟩
  have hp : 0 ≤ box.thing ∧ box.thing < S.th.length ∧ S.th[box.thing.toNat]? = some x := by
    unfold atI at hx0
    split at hx0
    · have := (List.getElem?_eq_some_iff.1 hx0).1; exact ⟨by assumption, by omega, hx0⟩
    · cases hx0
  obtain ⟨hp1, hp2, hx⟩ := hp
  have z0 : ((0 : Nat) : Int) = 0 := rfl
  have hld : ∀ L, (σ.fresh.grow L).loadN b2 (box.thing.toNat * 13 + 7) 1 = some [.bool x.full] := fun L => by
    have hb : SlAt thingL 13 σ.fresh b2 S.th := h2
    rw [load_old _ _ _ _ hb.1]; exact hb.2 _ _ hx 7 1 (by omega)
  cases c1 : x.full with
  | true =>
    have hs : sendF S box W = (S, 13) := by unfold sendF; rw [hx0]; simp only [c1, if_true]
    simp (disch := omega) only [sl6_1, sl6_2, z0, hp1, hp2, hld, c1, hs, r0_mail_send, r1_mail_send, r2_mail_send, r3_mail_send, r4_mail_send, k3_mail_send, r5_mail_send, r6_mail_send, r7_mail_send, r8_mail_send, r9_mail_send, k7_mail_send, k6_mail_send, r10_mail_send, k8_mail_send, k5_mail_send, k4_mail_send, k2_mail_send, r11_mail_send, r12_mail_send, k10_mail_send, r13_mail_send, r14_mail_send, r15_mail_send, k13_mail_send, k12_mail_send, k11_mail_send, k9_mail_send, k1_mail_send, k0_mail_send, c_mail_send, Z0, Z1, Z2, Z3, Z4, Z5, Z6, Z7, Z8, Z9, Z10, resAll, Nat.reduceAdd, Nat.reduceEqDiff, Nat.reduceLeDiff, Nat.reduceMul, ↓reduceIte, reduceCtorEq, Nat.reduceBEq, aoper, Nat.reduceLT, Int.reduceEq, Int.reduceLT, Int.reduceLE]
    exact ⟨_, rfl, _, _, _, _, rfl, SlAt.keeps (σ := σ.fresh) h1 (Keeps.self _ _), SlAt.keeps (σ := σ.fresh) h2 (Keeps.self _ _), Keeps.self _ _, .inl rfl, .inl rfl⟩
  | false =>
    have hs : sendF S box W = (setT S box.thing.toNat (mailT W box.badge 0), 0) := by unfold sendF; rw [hx0]; simp only [c1]; rfl
    have hk0 := Keeps.self σ.fresh [(stL S (some ⟨b1, 0, none⟩) f1 (some ⟨b2, 0, none⟩) f2, 5), (callL 7 aA nA fA aB 0 fB X Y W, 6), (capL box, 4), ([.int .i64 0, .int .i64 0, .int .i64 0, .slice none 0 0, .slice none 0 0], 5), ([.int .i64 0, .int .u64 0, .int .i64 0], 3)]
    obtain ⟨d1, d2, τ, e, k, p1, p2, p3, r1, r2⟩ := state_Clone_ok d _ S b1 f1 b2 f2 (low_grow fresh_le _) (SlAt.keeps (σ := σ.fresh) h1 hk0) (SlAt.keeps (σ := σ.fresh) h2 hk0) hl hm (by omega) hm2
    simp (disch := omega) only [sl6_1, sl6_2, z0, hp1, hp2, hld, c1, hs, e, r0_mail_send, r1_mail_send, r2_mail_send, r3_mail_send, r4_mail_send, k3_mail_send, r5_mail_send, r6_mail_send, r7_mail_send, r8_mail_send, r9_mail_send, k7_mail_send, k6_mail_send, r10_mail_send, k8_mail_send, k5_mail_send, k4_mail_send, k2_mail_send, r11_mail_send, r12_mail_send, k10_mail_send, r13_mail_send, r14_mail_send, r15_mail_send, k13_mail_send, k12_mail_send, k11_mail_send, k9_mail_send, k1_mail_send, k0_mail_send, c_mail_send, Z0, Z1, Z2, Z3, Z4, Z5, Z6, Z7, Z8, Z9, Z10, resAll, Nat.reduceAdd, Nat.reduceEqDiff, Nat.reduceLeDiff, Nat.reduceMul, ↓reduceIte, reduceCtorEq, Nat.reduceBEq, aoper, Nat.reduceLT, Int.reduceEq, Int.reduceLT, Int.reduceLE]
    have q0 := k.rows 0 rfl
    have q1 := k.rows 1 rfl
    have q2 := k.rows 2 rfl
    have q3 := k.rows 3 rfl
    have q4 := k.rows 4 rfl
    have hlow : τ.low = σ.fresh.n := by rw [k.low, grow_low]; rfl
    rw [grow_n] at p1
    simp only [List.length_cons, List.length_nil, Nat.reduceAdd] at p1
    rw [Nat.add_zero] at q0
    have l0 := load_sl q0
    have l1 := load_sl q1
    have l2 := load_sl q2
    have l3 := load_sl q3
    have l4 := load_sl q4
    have w1 : σ.fresh.n ≤ d2 := by omega
    have w2 : box.thing.toNat * 13 + 13 ≤ (flatL thingL S.th).length := by
      rw [flatL_length (es := 13) (fun _ => rfl)]; omega
    have hkk := hk0.trans k
    simp (disch := omega) only [st_gen, rowSt_row, putM_R, putR_low, putR_load, putR_loadF, putR_get, putR_far, hlow, q0, q1, q2, q3, q4, r2, l0, l1, l2, l3, l4, Nat.le_refl, Nat.le_add_right, eq_true w1, w2, hp1, hp2, sl6_0, sl6_1, sl6_5, Int.toNat_natCast, r0_mail_send, r1_mail_send, r2_mail_send, r3_mail_send, r4_mail_send, k3_mail_send, r5_mail_send, r6_mail_send, r7_mail_send, r8_mail_send, r9_mail_send, k7_mail_send, k6_mail_send, r10_mail_send, k8_mail_send, k5_mail_send, k4_mail_send, k2_mail_send, r11_mail_send, r12_mail_send, k10_mail_send, r13_mail_send, r14_mail_send, r15_mail_send, k13_mail_send, k12_mail_send, k11_mail_send, k9_mail_send, k1_mail_send, k0_mail_send, c_mail_send, Z0, Z1, Z2, Z3, Z4, Z5, Z6, Z7, Z8, Z9, Z10, resAll, Nat.reduceAdd, Nat.reduceEqDiff, Nat.reduceLeDiff, Nat.reduceMul, ↓reduceIte, reduceCtorEq, Nat.reduceBEq, aoper, Nat.reduceLT, Int.reduceEq, Int.reduceLT, Int.reduceLE]
    have hset := flatL_set (cells := thingL) (es := 13) (fun _ => rfl) (mailT W box.badge 0) S.th box.thing.toNat (by omega)
    refine ⟨⟨_, rfl, d1, 1, d2, 1, ?_, ?_, ?_, ?_, .inr (by omega), .inr (by omega)⟩, rfl⟩
    · simp only [stV, stL, setT, List.length_set]
    · refine SlAt_row (cells := slotL) (es := 5) (fun _ => rfl) ?_ ?_
      · first | (rw [putR_n, putR_n, putR_n, putR_n]; omega) | trace_state
      rw [putR_far (by omega), putR_far (by omega), putR_far (by omega), putR_far (by omega), r1]; rfl
    · refine SlAt_row (cells := thingL) (es := 13) (fun _ => rfl) ?_ ?_
      · first | (rw [putR_n, putR_n, putR_n, putR_n]; omega) | trace_state
      rw [putR_far (by omega), putR_far (by omega), putR_get]
      exact congrArg (fun l => some (rowOf (l, 13))) hset
    · exact (((hkk.putR (Nat.le_refl _) _ _).putR (by omega) _ _).putR (by omega) _ _).putR (by omega) _ _
end Go.Proofs.YtidmcpkbcphpiaaGreat
namespace Go.Proofs.YtidmcpkbcphpiaaGreat
open Go Go.Hai
set_option maxRecDepth 20000
set_option linter.unusedSimpArgs false
set_option maxHeartbeats 8000000
attribute [local irreducible] Hai.Ends EndsR EndsO EndsD EndsX EndsE EndsK AHeap.grow AHeap.putR okLow inN
def r0_mail_recv : List AOper := [(.mk (some 4) none (.box 5 (.tmp 0))), (.mk (some 6) none (.box 6 (.tmp 2))), (.mk (some 7) none (.box 4 (.tmp 3))), (.mk (some 8) none (.alloc [(.int .i64 0), (.int .i64 0), (.int .i64 0), (.slice none 0 0), (.slice none 0 0)] 5)), (.mk (some 9) none (.alloc [(.int .i64 0), (.int .u64 0), (.int .i64 0)] 3))]
def r1_mail_recv : List AOper := [(.mk (some 14) none (.fldA 4 (.tmp 4))), (.mk (some 15) none (.load false 1 (.tmp 14))), (.mk (some 16) none (.fldA 1 (.tmp 7))), (.mk (some 17) none (.load false 1 (.tmp 16))), (.mk (some 18) none (.idxA 13 (.tmp 15) (.tmp 17))), (.mk (some 19) none (.load true 13 (.tmp 18))), (.mk (some 10) none (.alloc [(.int .i64 0), (.int .i64 0), (.int .i64 0), (.int .i64 0), (.int .i64 0), (.int .i64 0), (.int .i64 0), (.bool false), (.int .u64 0), (.int .u64 0), (.int .u64 0), (.int .u64 0), (.int .u64 0)] 13)), (.mk none none (.store 13 (.tmp 10) (.tmp 19)))]
def r2_mail_recv : List AOper := [(.mk (some 20) none (.fldA 7 (.tmp 10))), (.mk (some 21) none (.load false 1 (.tmp 20))), (.mk (some 22) none (.un .not (.tmp 21)))]
def r3_mail_recv : List AOper := [(.mk (some 23) none (.load true 5 (.tmp 4))), (.mk (some 24) none (.build [(.int .i64 0), (.int .u64 0), (.int .i64 0)] [(0, (1, (.const (.int .i64 14))))])), (.mk none none (.store 5 (.tmp 8) (.tmp 23))), (.mk none none (.store 3 (.tmp 9) (.tmp 24)))]
def k2_mail_recv : ACode := (.cond (.tmp 22) (.seq (.reg r3_mail_recv) .ret) .skip)
def r4_mail_recv : List AOper := [(.mk (some 25) none (.load true 5 (.tmp 4))), (.mk (some 26) none (.call 15 [(.tmp 25)])), (.mk (some 11) none (.alloc [(.int .i64 0), (.int .i64 0), (.int .i64 0), (.slice none 0 0), (.slice none 0 0)] 5)), (.mk none none (.store 5 (.tmp 11) (.tmp 26)))]
def r5_mail_recv : List AOper := [(.mk (some 27) none (.fldA 2 (.tmp 6))), (.mk (some 28) none (.fldA 0 (.tmp 27))), (.mk (some 29) none (.load false 1 (.tmp 28))), (.mk (some 30) none (.lenS (.tmp 29))), (.mk (some 31) none (.bin .gtr (.tmp 30) (.const (.int .i64 0)))), (.mk (some 32) none (.mv (.tmp 31))), (.mk (some 33) (some (32, true)) (.fldA 5 (.tmp 10))), (.mk (some 34) (some (32, true)) (.load false 1 (.tmp 33))), (.mk (some 35) (some (32, true)) (.bin .gtr (.tmp 34) (.const (.int .i64 0)))), (.mk (some 36) none (.pick (.tmp 32) (.tmp 35) (.const (.bool false))))]
def r6_mail_recv : List AOper := [(.mk (some 38) none (.load true 5 (.tmp 4))), (.mk (some 39) none (.mv (.tmp 1))), (.mk (some 40) none (.fldA 2 (.tmp 6))), (.mk (some 41) none (.load true 1 (.tmp 40))), (.mk (some 42) none (.call 30 [(.tmp 38), (.tmp 39), (.tmp 41)])), (.mk (some 37) none (.mv (.tmp 42))), (.mk (some 43) none (.ext (.tmp 37) 0)), (.mk (some 44) none (.ext (.tmp 37) 1)), (.mk (some 12) none (.mv (.tmp 43))), (.mk (some 13) none (.mv (.tmp 44)))]
def r7_mail_recv : List AOper := [(.mk (some 45) none (.mv (.tmp 13))), (.mk (some 46) none (.bin .neq (.tmp 45) (.const (.int .i64 0))))]
def r8_mail_recv : List AOper := [(.mk (some 47) none (.load true 5 (.tmp 4))), (.mk (some 48) none (.mv (.tmp 13))), (.mk (some 49) none (.build [(.int .i64 0), (.int .u64 0), (.int .i64 0)] [(0, (1, (.tmp 48)))])), (.mk none none (.store 5 (.tmp 8) (.tmp 47))), (.mk none none (.store 3 (.tmp 9) (.tmp 49)))]
def k7_mail_recv : ACode := (.cond (.tmp 46) (.seq (.reg r8_mail_recv) .ret) .skip)
def r9_mail_recv : List AOper := [(.mk (some 51) none (.load true 5 (.tmp 4))), (.mk (some 52) none (.fldA 5 (.tmp 10))), (.mk (some 53) none (.load false 1 (.tmp 52))), (.mk (some 54) none (.bin .sub (.tmp 53) (.const (.int .i64 1)))), (.mk (some 55) none (.mv (.tmp 12))), (.mk (some 56) none (.fldA 3 (.tmp 4))), (.mk (some 57) none (.load false 1 (.tmp 56))), (.mk (some 58) none (.fldA 5 (.tmp 10))), (.mk (some 59) none (.load false 1 (.tmp 58))), (.mk (some 60) none (.bin .sub (.tmp 59) (.const (.int .i64 1)))), (.mk (some 61) none (.idxA 5 (.tmp 57) (.tmp 60))), (.mk (some 62) none (.fldA 0 (.tmp 61))), (.mk (some 63) none (.load true 4 (.tmp 62))), (.mk (some 64) none (.call 128 [(.tmp 51), (.tmp 54), (.tmp 55), (.tmp 63)])), (.mk (some 50) none (.mv (.tmp 64))), (.mk (some 65) none (.ext (.tmp 50) 0)), (.mk (some 66) none (.ext (.tmp 50) 1)), (.mk none none (.store 5 (.tmp 11) (.tmp 65))), (.mk (some 13) none (.mv (.tmp 66)))]
def r10_mail_recv : List AOper := [(.mk (some 67) none (.mv (.tmp 13))), (.mk (some 68) none (.bin .neq (.tmp 67) (.const (.int .i64 0))))]
def r11_mail_recv : List AOper := [(.mk (some 69) none (.load true 5 (.tmp 4))), (.mk (some 70) none (.mv (.tmp 13))), (.mk (some 71) none (.build [(.int .i64 0), (.int .u64 0), (.int .i64 0)] [(0, (1, (.tmp 70)))])), (.mk none none (.store 5 (.tmp 8) (.tmp 69))), (.mk none none (.store 3 (.tmp 9) (.tmp 71)))]
def k10_mail_recv : ACode := (.cond (.tmp 68) (.seq (.reg r11_mail_recv) .ret) .skip)
def k9_mail_recv : ACode := (.seq (.reg r10_mail_recv) k10_mail_recv)
def k8_mail_recv : ACode := (.seq (.drw r9_mail_recv [0, 0, 2, 6, 0, 0, 32, 0, 128, 384, 992, 2016, 4064, 8191, 16383, 32767, 32767, 65535, 262143]) k9_mail_recv)
def k6_mail_recv : ACode := (.seq (.seq (.reg r7_mail_recv) k7_mail_recv) k8_mail_recv)
def k5_mail_recv : ACode := (.cond (.tmp 36) (.seq (.reg r6_mail_recv) k6_mail_recv) .skip)
def r12_mail_recv : List AOper := [(.mk (some 72) none (.fldA 4 (.tmp 11))), (.mk (some 73) none (.load false 1 (.tmp 72))), (.mk (some 74) none (.fldA 1 (.tmp 7))), (.mk (some 75) none (.load false 1 (.tmp 74))), (.mk (some 76) none (.build [(.int .i64 0), (.int .i64 0), (.int .i64 0), (.int .i64 0), (.int .i64 0), (.int .i64 0), (.int .i64 0), (.bool false), (.int .u64 0), (.int .u64 0), (.int .u64 0), (.int .u64 0), (.int .u64 0)] [(0, (1, (.const (.int .i64 3))))])), (.mk (some 77) none (.idxA 13 (.tmp 73) (.tmp 75))), (.mk none none (.store 13 (.tmp 77) (.tmp 76)))]
def r13_mail_recv : List AOper := [(.mk (some 78) none (.load true 5 (.tmp 11))), (.mk (some 79) none (.fldA 8 (.tmp 10))), (.mk (some 80) none (.load false 1 (.tmp 79))), (.mk (some 81) none (.fldA 6 (.tmp 10))), (.mk (some 82) none (.load false 1 (.tmp 81))), (.mk (some 83) none (.build [(.int .i64 0), (.int .u64 0), (.int .i64 0)] [(1, (1, (.tmp 80))), (2, (1, (.tmp 82)))])), (.mk none none (.store 5 (.tmp 8) (.tmp 78))), (.mk none none (.store 3 (.tmp 9) (.tmp 83)))]
def k12_mail_recv : ACode := (.seq (.drw r13_mail_recv [0, 0, 2, 0, 8, 30, 1, 127]) .ret)
def k11_mail_recv : ACode := (.seq (.reg r12_mail_recv) k12_mail_recv)
def k4_mail_recv : ACode := (.seq (.seq (.reg r5_mail_recv) k5_mail_recv) k11_mail_recv)
def k3_mail_recv : ACode := (.seq (.reg r4_mail_recv) k4_mail_recv)
def k1_mail_recv : ACode := (.seq (.seq (.reg r2_mail_recv) k2_mail_recv) k3_mail_recv)
def k0_mail_recv : ACode := (.seq (.reg r1_mail_recv) k1_mail_recv)
def c_mail_recv : ACode := (.seq (.reg r0_mail_recv) k0_mail_recv)
theorem e_mail_recv : ofProg Tryz.prog 68 = some ⟨84, [(.cell 8 true 5), (.cell 9 true 3)], c_mail_recv⟩ := by kernel_rfl

def mailE : ThingD := ⟨3, 0, 0, 0, 0, 0, 0, false, 0, 0, 0, 0, 0⟩
def recvF (S : StD) (box : SlotD) : StD × Int × Int × Int := match atI S.th box.thing with
  | some t => if t.full then (setT S box.thing.toNat mailE, 0, t.word, t.badge) else (S, 14, 0, 0)
  | none => (S, 0, 0, 0)
theorem mail_recv_ok (d : Nat) (σ : AHeap) (S : StD) (b1 f1 b2 f2 : Nat) (thread X Y W : Int) (aA : Option Addr) (nA fA : Nat) (aB : Option Addr) (fB : Nat) (box : SlotD) (x : ThingD) (hlo : σ.low ≤ σ.n)
    (h1 : SlAt slotL 5 σ b1 S.sl) (h2 : SlAt thingL 13 σ b2 S.th) (hl : 0 < S.sl.length) (hm : S.sl.length < 1000) (hm2 : S.th.length < 1000) (hx0 : atI S.th box.thing = some x) :
    ∃ v τ, acall (ofProg Tryz.prog) 1000 (d + 3) 68 [stV S (some ⟨b1, 0, none⟩) f1 (some ⟨b2, 0, none⟩) f2, .int .i64 thread, callV 8 aA nA fA aB 0 fB X Y W, capV box] σ = some (.tuple [v, repV (recvF S box).2.1 (recvF S box).2.2.1 (recvF S box).2.2.2].toArray, τ) ∧ StOut σ b1 b2 (recvF S box).1 v τ := by
  suffices hs : Hai.Ends (acode (acall (ofProg Tryz.prog) 1000 (d + 2)) 1000 c_mail_recv (Tr.of [stV S (some ⟨b1, 0, none⟩) f1 (some ⟨b2, 0, none⟩) f2, .int .i64 thread, callV 8 aA nA fA aB 0 fB X Y W, capV box]) (σ.fresh.grow []))
      (finA σ.n [.cell 8 true 5, .cell 9 true 3] fun v τ => ∃ u, v = .tuple [u, repV (recvF S box).2.1 (recvF S box).2.2.1 (recvF S box).2.2.2].toArray ∧ StOut σ.fresh b1 b2 (recvF S box).1 u τ) by
    obtain ⟨v, τ', e, τ, ⟨u, rfl, a1', f1', a2', f2', rfl, g1, g2, g3, g4⟩, g⟩ := acall_addr e_mail_recv (by simp) hlo hs
    rcases g with ⟨g, _⟩ | rfl
    · cases g
    · exact ⟨_, _, e, _, _, _, _, rfl, g1, g2, g3.back, g4⟩
  have hp : 0 ≤ box.thing ∧ box.thing < S.th.length ∧ S.th[box.thing.toNat]? = some x := by
    unfold atI at hx0
    split at hx0
    · have := (List.getElem?_eq_some_iff.1 hx0).1; exact ⟨by assumption, by omega, hx0⟩
    · cases hx0
  obtain ⟨hp1, hp2, hx⟩ := hp
  have z0 : ((0 : Nat) : Int) = 0 := rfl
  have hld : ∀ L, (σ.fresh.grow L).loadN b2 (box.thing.toNat * 13) 13 = some (thingL x) := fun L => by
    have hb : SlAt thingL 13 σ.fresh b2 S.th := h2
    rw [load_old _ _ _ _ hb.1]; exact hb.2 _ _ hx 0 13 (by omega)
  cases c1 : x.full with
  | false =>
    have hs : recvF S box = (S, 14, 0, 0) := by unfold recvF; rw [hx0]; simp only [c1]; rfl
    simp (disch := omega) only [sl6_1, sl6_2, z0, hp1, hp2, hld, c1, hs, r0_mail_recv, r1_mail_recv, r2_mail_recv, r3_mail_recv, k2_mail_recv, r4_mail_recv, r5_mail_recv, r6_mail_recv, r7_mail_recv, r8_mail_recv, k7_mail_recv, r9_mail_recv, r10_mail_recv, r11_mail_recv, k10_mail_recv, k9_mail_recv, k8_mail_recv, k6_mail_recv, k5_mail_recv, r12_mail_recv, r13_mail_recv, k12_mail_recv, k11_mail_recv, k4_mail_recv, k3_mail_recv, k1_mail_recv, k0_mail_recv, c_mail_recv, Z0, Z1, Z2, Z3, Z4, Z5, Z6, Z7, Z8, Z9, Z10, resAll, Nat.reduceAdd, Nat.reduceEqDiff, Nat.reduceLeDiff, Nat.reduceMul, ↓reduceIte, reduceCtorEq, Nat.reduceBEq, aoper, Nat.reduceLT, Int.reduceEq, Int.reduceLT, Int.reduceLE]
    exact ⟨_, rfl, _, _, _, _, rfl, SlAt.keeps (σ := σ.fresh) h1 (Keeps.self _ _), SlAt.keeps (σ := σ.fresh) h2 (Keeps.self _ _), Keeps.self _ _, .inl rfl, .inl rfl⟩
  | true =>
    have hs : recvF S box = (setT S box.thing.toNat mailE, 0, x.word, x.badge) := by unfold recvF; rw [hx0]; simp only [c1, if_true]
    have hk0 := Keeps.self σ.fresh [(stL S (some ⟨b1, 0, none⟩) f1 (some ⟨b2, 0, none⟩) f2, 5), (callL 8 aA nA fA aB 0 fB X Y W, 6), (capL box, 4), ([.int .i64 0, .int .i64 0, .int .i64 0, .slice none 0 0, .slice none 0 0], 5), ([.int .i64 0, .int .u64 0, .int .i64 0], 3), ([i64 x.type, i64 x.bits, i64 x.base, i64 x.size, i64 x.used, i64 x.frm, i64 x.badge, .bool true, u64 x.word, u64 x.d0, u64 x.d1, u64 x.d2, u64 x.d3], 13)]
    obtain ⟨d1, d2, τ, e, k, p1, p2, p3, r1, r2⟩ := state_Clone_ok d _ S b1 f1 b2 f2 (low_grow fresh_le _) (SlAt.keeps (σ := σ.fresh) h1 hk0) (SlAt.keeps (σ := σ.fresh) h2 hk0) hl hm (by omega) hm2
    rw [← grow_nil τ] at e
    have hlow : τ.low = σ.fresh.n := by rw [k.low, grow_low]; rfl
    rw [grow_n] at p1
    simp only [List.length_cons, List.length_nil, Nat.reduceAdd] at p1
    have hlt : τ.low ≤ τ.n := by omega
    have q0 := fun M => (k.grow M).rows 0 rfl
    have q1 := fun M => (k.grow M).rows 1 rfl
    have q2 := fun M => (k.grow M).rows 2 rfl
    have q3 := fun M => (k.grow M).rows 3 rfl
    have q4 := fun M => (k.grow M).rows 4 rfl
    have q5 := fun M => (k.grow M).rows 5 rfl
    have q6 : ∀ M, (τ.grow M).t.get d2 = some (rowOf (flatL thingL S.th, 13)) := fun M => (grow_old _ _ p3).trans r2
    simp only [Nat.add_zero] at q0
    have l0 := fun M => load_sl (q0 M)
    have l1 := fun M => load_sl (q1 M)
    have l2 := fun M => load_sl (q2 M)
    have l3 := fun M => load_sl (q3 M)
    have l4 := fun M => load_sl (q4 M)
    have l5 := fun M => load_sl (q5 M)
    have w1 : σ.fresh.n ≤ d2 := by omega
    have w2 : box.thing.toNat * 13 + 13 ≤ (flatL thingL S.th).length := by
      rw [flatL_length (es := 13) (fun _ => rfl)]; omega
    have hkk := hk0.trans k
    simp (disch := omega) only [sl6_1, sl6_2, z0, hp1, hp2, hld, c1, hs, e, sto_0 hlt, l0, l1, l2, l3, l4, l5, st_gen, rowSt_row, putM_R, putR_low, putR_load, putR_loadF, putR_get, putR_far, hlow, q6, Nat.le_refl, Nat.le_add_right, eq_true w1, w2, sl6_0, sl6_5, Int.toNat_natCast, r0_mail_recv, r1_mail_recv, r2_mail_recv, r3_mail_recv, k2_mail_recv, r4_mail_recv, r5_mail_recv, r6_mail_recv, r7_mail_recv, r8_mail_recv, k7_mail_recv, r9_mail_recv, r10_mail_recv, r11_mail_recv, k10_mail_recv, k9_mail_recv, k8_mail_recv, k6_mail_recv, k5_mail_recv, r12_mail_recv, r13_mail_recv, k12_mail_recv, k11_mail_recv, k4_mail_recv, k3_mail_recv, k1_mail_recv, k0_mail_recv, c_mail_recv, Z0, Z1, Z2, Z3, Z4, Z5, Z6, Z7, Z8, Z9, Z10, resAll, Nat.reduceAdd, Nat.reduceEqDiff, Nat.reduceLeDiff, Nat.reduceMul, ↓reduceIte, reduceCtorEq, Nat.reduceBEq, aoper, Nat.reduceLT, Int.reduceEq, Int.reduceLT, Int.reduceLE]
    refine ends_drwK [(1, 6), (2, 6), (3, 6), (4, 6), (5, 6)] (by kernel_rfl) ?_
    have w4 : ∀ M, okLow (τ.grow M) = true := fun M => okLow_of (low_grow hlt M)
    have w5 : ∀ M, inN (σ.fresh.n + 5) (τ.grow M) = true := fun M => inN_of (by rw [grow_n]; omega)
    have w6 : ∀ M, inN (σ.fresh.n + 3) (τ.grow M) = true := fun M => inN_of (by rw [grow_n]; omega)
    have w7 : ∀ M, inN (σ.fresh.n + 4) (τ.grow M) = true := fun M => inN_of (by rw [grow_n]; omega)
    have w8 : ∀ r M, inN τ.n (τ.grow (r :: M)) = true := fun r M => inN_of (by rw [grow_n]; simp)
    have g0 : ∀ r M, (τ.grow (r :: M)).t.get τ.n = some (rowOf r) := fun r M => grow_new τ _ 0 rfl
    simp (disch := omega) only [k_1, k_nil, kontK_if, kontK_sti, okLow_put, inN_put, w4, w5, w6, w7, w8, g0, kd_load, kd_fldA, kd_build, ldKind_if, famK_row, stKind_here, rowKind_row, setLow_load, setLow_get, consK_app, drwQ_app, drawOk_cons, drawOk_nil, pair_pe, pair_le, List.getElem?_cons_succ, List.getElem?_cons_zero, q3, q4, q5, l0, l1, l2, l3, l4, l5, st_gen, rowSt_row, putR_low, putR_load, putR_loadF, putR_get, putR_far, hlow, q6, Nat.le_refl, Nat.le_add_right, eq_true w1, r0_mail_recv, r1_mail_recv, r2_mail_recv, r3_mail_recv, k2_mail_recv, r4_mail_recv, r5_mail_recv, r6_mail_recv, r7_mail_recv, r8_mail_recv, k7_mail_recv, r9_mail_recv, r10_mail_recv, r11_mail_recv, k10_mail_recv, k9_mail_recv, k8_mail_recv, k6_mail_recv, k5_mail_recv, r12_mail_recv, r13_mail_recv, k12_mail_recv, k11_mail_recv, k4_mail_recv, k3_mail_recv, k1_mail_recv, k0_mail_recv, c_mail_recv, Z0, Z1, Z2, Z3, Z4, Z5, Z6, Z7, Z8, Z9, Z10, resAll, Nat.reduceAdd, Nat.reduceEqDiff, Nat.reduceLeDiff, Nat.reduceMul, ↓reduceIte, reduceCtorEq, Nat.reduceBEq, aoper, Nat.reduceLT, Int.reduceEq, Int.reduceLT, Int.reduceLE]
    have hset := flatL_set (cells := thingL) (es := 13) (fun _ => rfl) mailE S.th box.thing.toNat (by omega)
    refine ⟨⟨_, rfl, d1, 1, d2, 1, ?_, ?_, ?_, ?_, .inr (by omega), .inr (by omega)⟩, rfl⟩
    · simp only [stV, stL, setT, List.length_set]
    · refine SlAt_row (cells := slotL) (es := 5) (fun _ => rfl) ?_ ?_
      · rw [putR_n, putR_n, putR_n, grow_n]; omega
      rw [putR_far (by omega), putR_far (by omega), putR_far (by omega), grow_old _ _ (by omega), r1]; rfl
    · refine SlAt_row (cells := thingL) (es := 13) (fun _ => rfl) ?_ ?_
      · rw [putR_n, putR_n, putR_n, grow_n]; omega
      rw [putR_far (by omega), putR_far (by omega), putR_get]
      exact congrArg (fun l => some (rowOf (l, 13))) hset
    · exact (((hkk.grow _).putR w1 _ _).putR (by omega) _ _).putR (by omega) _ _
end Go.Proofs.YtidmcpkbcphpiaaGreat
namespace Go.Proofs.YtidmcpkbcphpiaaGreat
open Go Go.Hai
set_option maxRecDepth 20000
set_option linter.unusedSimpArgs false
set_option maxHeartbeats 8000000
attribute [local irreducible] Hai.Ends EndsR EndsO EndsD EndsX EndsE EndsK AHeap.grow AHeap.putR okLow inN
def r0_mail_Do : List AOper := [(.mk (some 3) none (.box 5 (.tmp 0))), (.mk (some 5) none (.box 6 (.tmp 2))), (.mk (some 6) none (.alloc [(.int .i64 0), (.int .i64 0), (.int .i64 0), (.slice none 0 0), (.slice none 0 0)] 5)), (.mk (some 7) none (.alloc [(.int .i64 0), (.int .u64 0), (.int .i64 0)] 3))]
def r1_mail_Do : List AOper := [(.mk (some 12) none (.load true 6 (.tmp 5))), (.mk (some 13) none (.call 47 [(.tmp 12)])), (.mk (some 14) none (.un .not (.tmp 13))), (.mk (some 15) none (.mv (.tmp 14))), (.mk (some 16) (some (15, false)) (.fldA 0 (.tmp 5))), (.mk (some 17) (some (15, false)) (.load false 1 (.tmp 16))), (.mk (some 18) (some (15, false)) (.bin .neq (.tmp 17) (.const (.int .i64 7)))), (.mk (some 19) (some (15, false)) (.mv (.tmp 18))), (.mk (some 20) (some (19, true)) (.fldA 0 (.tmp 5))), (.mk (some 21) (some (19, true)) (.load false 1 (.tmp 20))), (.mk (some 22) (some (19, true)) (.bin .neq (.tmp 21) (.const (.int .i64 8)))), (.mk (some 23) (some (15, false)) (.pick (.tmp 19) (.tmp 22) (.const (.bool false)))), (.mk (some 24) none (.pick (.tmp 15) (.const (.bool true)) (.tmp 23)))]
def r2_mail_Do : List AOper := [(.mk (some 25) none (.load true 5 (.tmp 3))), (.mk (some 26) none (.build [(.int .i64 0), (.int .u64 0), (.int .i64 0)] [(0, (1, (.const (.int .i64 1))))])), (.mk none none (.store 5 (.tmp 6) (.tmp 25))), (.mk none none (.store 3 (.tmp 7) (.tmp 26)))]
def k1_mail_Do : ACode := (.cond (.tmp 24) (.seq (.reg r2_mail_Do) .ret) .skip)
def r3_mail_Do : List AOper := [(.mk (some 28) none (.load true 5 (.tmp 3))), (.mk (some 29) none (.mv (.tmp 1))), (.mk (some 30) none (.fldA 1 (.tmp 5))), (.mk (some 31) none (.load true 1 (.tmp 30))), (.mk (some 32) none (.call 28 [(.tmp 28), (.tmp 29), (.tmp 31)])), (.mk (some 27) none (.mv (.tmp 32))), (.mk (some 33) none (.ext (.tmp 27) 0)), (.mk (some 34) none (.ext (.tmp 27) 1)), (.mk (some 35) none (.ext (.tmp 27) 2)), (.mk (some 9) none (.alloc [(.int .i64 0), (.int .i64 0), (.int .i64 0), (.int .i64 0)] 4)), (.mk (some 8) none (.mv (.tmp 33))), (.mk none none (.store 4 (.tmp 9) (.tmp 34))), (.mk (some 10) none (.mv (.tmp 35)))]
def r4_mail_Do : List AOper := [(.mk (some 11) none (.mv (.const (.int .i64 2))))]
def r5_mail_Do : List AOper := [(.mk (some 36) none (.fldA 0 (.tmp 5))), (.mk (some 37) none (.load false 1 (.tmp 36))), (.mk (some 38) none (.bin .eql (.tmp 37) (.const (.int .i64 8))))]
def r6_mail_Do : List AOper := [(.mk (some 11) none (.mv (.const (.int .i64 1))))]
def k5_mail_Do : ACode := (.cond (.tmp 38) (.reg r6_mail_Do) .skip)
def r7_mail_Do : List AOper := [(.mk (some 40) none (.mv (.tmp 10))), (.mk (some 41) none (.bin .neq (.tmp 40) (.const (.int .i64 0)))), (.mk (some 39) none (.mv (.tmp 41)))]
def r8_mail_Do : List AOper := [(.mk (some 42) none (.load true 5 (.tmp 3))), (.mk (some 43) none (.mv (.tmp 10))), (.mk (some 44) none (.build [(.int .i64 0), (.int .u64 0), (.int .i64 0)] [(0, (1, (.tmp 43)))])), (.mk none none (.store 5 (.tmp 6) (.tmp 42))), (.mk none none (.store 3 (.tmp 7) (.tmp 44)))]
def r9_mail_Do : List AOper := [(.mk (some 46) none (.fldA 0 (.tmp 9))), (.mk (some 47) none (.load false 1 (.tmp 46))), (.mk (some 48) none (.bin .neq (.tmp 47) (.const (.int .i64 3)))), (.mk (some 45) none (.mv (.tmp 48)))]
def r10_mail_Do : List AOper := [(.mk (some 49) none (.load true 5 (.tmp 3))), (.mk (some 50) none (.build [(.int .i64 0), (.int .u64 0), (.int .i64 0)] [(0, (1, (.const (.int .i64 7))))])), (.mk none none (.store 5 (.tmp 6) (.tmp 49))), (.mk none none (.store 3 (.tmp 7) (.tmp 50)))]
def r11_mail_Do : List AOper := [(.mk (some 52) none (.mv (.tmp 11))), (.mk (some 53) none (.fldA 2 (.tmp 9))), (.mk (some 54) none (.load false 1 (.tmp 53))), (.mk (some 55) none (.call 66 [(.tmp 52), (.tmp 54)])), (.mk (some 56) none (.un .not (.tmp 55))), (.mk (some 51) none (.mv (.tmp 56)))]
def r12_mail_Do : List AOper := [(.mk (some 57) none (.load true 5 (.tmp 3))), (.mk (some 58) none (.build [(.int .i64 0), (.int .u64 0), (.int .i64 0)] [(0, (1, (.const (.int .i64 6))))])), (.mk none none (.store 5 (.tmp 6) (.tmp 57))), (.mk none none (.store 3 (.tmp 7) (.tmp 58)))]
def k9_mail_Do : ACode := (.cond (.tmp 51) (.seq (.reg r12_mail_Do) .ret) .skip)
def k8_mail_Do : ACode := (.cond (.tmp 45) (.seq (.reg r10_mail_Do) .ret) (.seq (.reg r11_mail_Do) k9_mail_Do))
def k7_mail_Do : ACode := (.cond (.tmp 39) (.seq (.reg r8_mail_Do) .ret) (.seq (.reg r9_mail_Do) k8_mail_Do))
def r13_mail_Do : List AOper := [(.mk (some 59) none (.fldA 0 (.tmp 5))), (.mk (some 60) none (.load false 1 (.tmp 59))), (.mk (some 61) none (.bin .eql (.tmp 60) (.const (.int .i64 7))))]
def r14_mail_Do : List AOper := [(.mk (some 62) none (.load true 5 (.tmp 3))), (.mk (some 63) none (.mv (.tmp 1))), (.mk (some 64) none (.load true 6 (.tmp 5))), (.mk (some 65) none (.load true 4 (.tmp 9))), (.mk (some 66) none (.call 67 [(.tmp 62), (.tmp 63), (.tmp 64), (.tmp 65)])), (.mk (some 67) none (.ext (.tmp 66) 0)), (.mk (some 68) none (.ext (.tmp 66) 1)), (.mk none none (.store 5 (.tmp 6) (.tmp 67))), (.mk none none (.store 3 (.tmp 7) (.tmp 68)))]
def k11_mail_Do : ACode := (.cond (.tmp 61) (.seq (.reg r14_mail_Do) .ret) .skip)
def r15_mail_Do : List AOper := [(.mk (some 69) none (.load true 5 (.tmp 3))), (.mk (some 70) none (.mv (.tmp 1))), (.mk (some 71) none (.load true 6 (.tmp 5))), (.mk (some 72) none (.load true 4 (.tmp 9))), (.mk (some 73) none (.call 68 [(.tmp 69), (.tmp 70), (.tmp 71), (.tmp 72)])), (.mk (some 74) none (.ext (.tmp 73) 0)), (.mk (some 75) none (.ext (.tmp 73) 1)), (.mk none none (.store 5 (.tmp 6) (.tmp 74))), (.mk none none (.store 3 (.tmp 7) (.tmp 75)))]
def k12_mail_Do : ACode := (.seq (.reg r15_mail_Do) .ret)
def k10_mail_Do : ACode := (.seq (.seq (.reg r13_mail_Do) k11_mail_Do) k12_mail_Do)
def k6_mail_Do : ACode := (.seq (.block 0 (.seq (.reg r7_mail_Do) k7_mail_Do)) k10_mail_Do)
def k4_mail_Do : ACode := (.seq (.seq (.reg r5_mail_Do) k5_mail_Do) k6_mail_Do)
def k3_mail_Do : ACode := (.seq (.reg r4_mail_Do) k4_mail_Do)
def k2_mail_Do : ACode := (.seq (.reg r3_mail_Do) k3_mail_Do)
def k0_mail_Do : ACode := (.seq (.seq (.reg r1_mail_Do) k1_mail_Do) k2_mail_Do)
def c_mail_Do : ACode := (.seq (.reg r0_mail_Do) k0_mail_Do)
theorem e_mail_Do : ofProg Tryz.prog 16 = some ⟨76, [(.cell 6 true 5), (.cell 7 true 3)], c_mail_Do⟩ := by kernel_rfl

theorem capF_in {S : StD} (hg : goodB S = true) {thread : Int} {l : List Int} (h : (capF S thread l).2.2 = 0) : ∃ x t, (capF S thread l).2.1 = x ∧ capNone x = false ∧ atI S.sl (capF S thread l).1 = some x ∧ atI S.th x.thing = some t ∧ t.type = x.type ∧ t.type ≠ 0 := by
  unfold capF at h ⊢
  split at h
  · next c1 =>
    rw [if_pos c1]
    obtain ⟨q1, q2⟩ := slotF_in c1
    obtain ⟨x, x1, x2⟩ := atI_some q1 q2
    have hsa : slotAt S (slotF S thread l).1 = x := by unfold slotAt; rw [x1]
    rw [hsa] at h ⊢
    cases c2 : capNone x with
    | true => rw [c2] at h; simp at h
    | false =>
      have hc : capsB S = true := by unfold goodB at hg; simp only [Bool.and_eq_true] at hg; exact hg.1.1.1.1.1.2
      have hx := all_get hc x2
      unfold slotB at hx
      rw [c2] at hx
      simp only [Bool.and_eq_true, Bool.false_or, Bool.not_false, Bool.true_and] at hx
      have hx' := hx.2
      split at hx'
      · next t ht =>
        simp only [Bool.and_eq_true, Bool.not_eq_true', decide_eq_false_iff_not, decide_eq_true_eq] at hx'
        exact ⟨x, t, by simp, by rw [c2], by simpa using x1, ht, hx'.2, hx'.1⟩
      · cases hx'
  · next c1 => simp at h; exact absurd h c1
theorem good_len {S : StD} (hg : goodB S = true) : 0 < S.sl.length ∧ S.sl.length < 1000 ∧ 0 < S.th.length ∧ S.th.length < 1000 := by
  unfold goodB at hg
  simp only [Bool.and_eq_true, decide_eq_true_eq] at hg
  obtain ⟨⟨⟨⟨⟨⟨⟨⟨hgeo, hs⟩, ht⟩, _⟩, _⟩, _⟩, _⟩, _⟩, _⟩ := hg
  unfold goodGeo at hgeo
  omega
def do7F (S : StD) (thread : Int) (l : List Int) (W : Int) : StD × Int :=
  if pathB l = true then
    (if (capF S thread l).2.2 = 0 then (if (capF S thread l).2.1.type = 3 then (if withinB 2 (capF S thread l).2.1.rights = true then sendF S (capF S thread l).2.1 W else (S, 6)) else (S, 7)) else (S, (capF S thread l).2.2))
  else (S, 1)
def do8F (S : StD) (thread : Int) (l : List Int) : StD × Int × Int × Int :=
  if pathB l = true then
    (if (capF S thread l).2.2 = 0 then (if (capF S thread l).2.1.type = 3 then (if withinB 1 (capF S thread l).2.1.rights = true then recvF S (capF S thread l).2.1 else (S, 6, 0, 0)) else (S, 7, 0, 0)) else (S, (capF S thread l).2.2, 0, 0))
  else (S, 1, 0, 0)
theorem mail_Do7_ok (d : Nat) (σ : AHeap) (S : StD) (b1 f1 b2 f2 : Nat) (thread W : Int) (l : List Int) (aA : Option Addr) (fA : Nat) (aB : Option Addr) (fB : Nat) (hg : goodB S = true) (hd : σ.dead = []) (hlo : σ.low ≤ σ.n)
    (h1 : SlAt slotL 5 σ b1 S.sl) (h2 : SlAt thingL 13 σ b2 S.th) (h3 : SlI σ aA l) :
    ∃ v τ, acall (ofProg Tryz.prog) 1000 (d + S.th.length + 11) 16 [stV S (some ⟨b1, 0, none⟩) f1 (some ⟨b2, 0, none⟩) f2, .int .i64 thread, callV 7 aA l.length fA aB 0 fB 0 0 W] σ = some (.tuple [v, repV (do7F S thread l W).2 0 0].toArray, τ) ∧ StOut σ b1 b2 (do7F S thread l W).1 v τ := by
  suffices hs : Hai.Ends (acode (acall (ofProg Tryz.prog) 1000 (d + S.th.length + 10)) 1000 c_mail_Do (Tr.of [stV S (some ⟨b1, 0, none⟩) f1 (some ⟨b2, 0, none⟩) f2, .int .i64 thread, callV 7 aA l.length fA aB 0 fB 0 0 W]) (σ.fresh.grow []))
      (finA σ.n [.cell 6 true 5, .cell 7 true 3] fun v τ => ∃ u, v = .tuple [u, repV (do7F S thread l W).2 0 0].toArray ∧ StOut σ.fresh b1 b2 (do7F S thread l W).1 u τ) by
    obtain ⟨v, τ', e, τ, ⟨u, rfl, a1', f1', a2', f2', rfl, g1, g2, g3, g4⟩, g⟩ := acall_addr e_mail_Do (by simp) hlo hs
    rcases g with ⟨g, _⟩ | rfl
    · cases g
    · exact ⟨_, _, e, _, _, _, _, rfl, g1, g2, g3.back, g4⟩
  obtain ⟨n1, n2, n3, n4⟩ := good_len hg
  have z0 : ((0 : Nat) : Int) = 0 := rfl
  have g1 : SlS σ (some ⟨b1, 0, none⟩) S.sl := .inr ⟨b1, rfl, h1⟩
  have g2 : SlT σ (some ⟨b2, 0, none⟩) S.th := .inr ⟨b2, rfl, h2⟩
  have hG := fun L => callGood7_ok (d + S.th.length + 4) (σ.fresh.grow L) l 0 0 W aA fA aB fB (h3.fresh.grow L)
  have hcap := fun L => find_Cap_ok d (σ.fresh.grow L) S (some ⟨b1, 0, none⟩) f1 (some ⟨b2, 0, none⟩) f2 thread l aA fA (by rw [grow_dead]; exact hd) (g1.fresh.grow L) (g2.fresh.grow L) (h3.fresh.grow L)
  have hwit := right_Within_ok (d + S.th.length + 6)
  have fin : ∀ L, StOut σ.fresh b1 b2 S (stV S (some ⟨b1, 0, none⟩) f1 (some ⟨b2, 0, none⟩) f2) (σ.fresh.grow L) := fun L => ⟨_, _, _, _, rfl, SlAt.keeps (σ := σ.fresh) h1 (Keeps.self _ _), SlAt.keeps (σ := σ.fresh) h2 (Keeps.self _ _), Keeps.self _ _, .inl rfl, .inl rfl⟩
  simp only [decide_true, Bool.and_true] at hG
  cases c1 : pathB l with
  | false =>
    have hs : do7F S thread l W = (S, 1) := by unfold do7F; rw [c1]; rfl
    simp (disch := omega) only [sl6_all, sl6_0, sl6_1, hG, c1, hs, r0_mail_Do, r1_mail_Do, r2_mail_Do, k1_mail_Do, r3_mail_Do, r4_mail_Do, r5_mail_Do, r6_mail_Do, k5_mail_Do, r7_mail_Do, r8_mail_Do, r9_mail_Do, r10_mail_Do, r11_mail_Do, r12_mail_Do, k9_mail_Do, k8_mail_Do, k7_mail_Do, r13_mail_Do, r14_mail_Do, k11_mail_Do, r15_mail_Do, k12_mail_Do, k10_mail_Do, k6_mail_Do, k4_mail_Do, k3_mail_Do, k2_mail_Do, k0_mail_Do, c_mail_Do, Z0, Z1, Z2, Z3, Z4, Z5, Z6, Z7, Z8, Z9, Z10, resAll, Nat.reduceAdd, Nat.reduceEqDiff, Nat.reduceLeDiff, Nat.reduceMul, ↓reduceIte, reduceCtorEq, Nat.reduceBEq, aoper, Nat.reduceLT, Int.reduceEq, Int.reduceLT, Int.reduceLE]
    exact ⟨_, rfl, fin _⟩
  | true =>
    by_cases c2 : (capF S thread l).2.2 = 0
    · obtain ⟨x, t, e1, e2, e3, e4, e5, e6⟩ := capF_in hg c2
      by_cases c3 : x.type = 3
      · cases c4 : withinB 2 x.rights with
        | false =>
          have hs : do7F S thread l W = (S, 6) := by unfold do7F; rw [c1, if_pos rfl, if_pos c2, e1, if_pos c3, c4]; rfl
          simp (disch := omega) only [sl6_all, sl6_0, sl6_1, hG, c1, hs, hcap, e1, eq_true c2, c3, hwit, c4, r0_mail_Do, r1_mail_Do, r2_mail_Do, k1_mail_Do, r3_mail_Do, r4_mail_Do, r5_mail_Do, r6_mail_Do, k5_mail_Do, r7_mail_Do, r8_mail_Do, r9_mail_Do, r10_mail_Do, r11_mail_Do, r12_mail_Do, k9_mail_Do, k8_mail_Do, k7_mail_Do, r13_mail_Do, r14_mail_Do, k11_mail_Do, r15_mail_Do, k12_mail_Do, k10_mail_Do, k6_mail_Do, k4_mail_Do, k3_mail_Do, k2_mail_Do, k0_mail_Do, c_mail_Do, Z0, Z1, Z2, Z3, Z4, Z5, Z6, Z7, Z8, Z9, Z10, resAll, Nat.reduceAdd, Nat.reduceEqDiff, Nat.reduceLeDiff, Nat.reduceMul, ↓reduceIte, reduceCtorEq, Nat.reduceBEq, aoper, Nat.reduceLT, Int.reduceEq, Int.reduceLT, Int.reduceLE]
          exact ⟨_, rfl, fin _⟩
        | true =>
          have hs : do7F S thread l W = sendF S x W := by unfold do7F; rw [c1, if_pos rfl, if_pos c2, e1, if_pos c3, c4]; rfl
          obtain ⟨xt, xg, xr, xb, xu⟩ := x
          simp only at c3
          subst c3
          have hk0 := Keeps.self σ.fresh [(stL S (some ⟨b1, 0, none⟩) f1 (some ⟨b2, 0, none⟩) f2, 5), (callL 7 aA l.length fA aB 0 fB 0 0 W, 6), ([.int .i64 0, .int .i64 0, .int .i64 0, .slice none 0 0, .slice none 0 0], 5), ([.int .i64 0, .int .u64 0, .int .i64 0], 3), ([i64 3, i64 xg, i64 xr, i64 xb], 4)]
          obtain ⟨v, τ, e, k⟩ := mail_send_ok (d + S.th.length + 7) _ S b1 f1 b2 f2 thread 0 0 W aA l.length fA aB fB ⟨3, xg, xr, xb, xu⟩ t (low_grow fresh_le _) (SlAt.keeps (σ := σ.fresh) h1 hk0) (SlAt.keeps (σ := σ.fresh) h2 hk0) n1 n2 n4 e4
          obtain ⟨d1, g1', d2, g2', rfl, k1, k2, k, k3, k4⟩ := k
          rw [grow_n] at k3 k4
          simp only [List.length_cons, List.length_nil, Nat.reduceAdd] at k3 k4
          have q0 := k.rows 0 rfl
          have q1 := k.rows 1 rfl
          have q2 := k.rows 2 rfl
          have q3 := k.rows 3 rfl
          have q4 := k.rows 4 rfl
          have hlow : τ.low = σ.fresh.n := by rw [k.low, grow_low]; rfl
          have l2 := load_sl q2
          have l3 := load_sl q3
          have hkk := hk0.trans k
          simp (disch := omega) only [sl6_all, sl6_0, sl6_1, hG, c1, hs, hcap, e1, eq_true c2, hwit, c4, e, repL, st_gen, rowSt_row, putM_R, putR_low, putR_load, putR_loadF, putR_get, putR_far, hlow, q0, q1, q2, q3, q4, l2, l3, Nat.le_refl, Nat.le_add_right, r0_mail_Do, r1_mail_Do, r2_mail_Do, k1_mail_Do, r3_mail_Do, r4_mail_Do, r5_mail_Do, r6_mail_Do, k5_mail_Do, r7_mail_Do, r8_mail_Do, r9_mail_Do, r10_mail_Do, r11_mail_Do, r12_mail_Do, k9_mail_Do, k8_mail_Do, k7_mail_Do, r13_mail_Do, r14_mail_Do, k11_mail_Do, r15_mail_Do, k12_mail_Do, k10_mail_Do, k6_mail_Do, k4_mail_Do, k3_mail_Do, k2_mail_Do, k0_mail_Do, c_mail_Do, Z0, Z1, Z2, Z3, Z4, Z5, Z6, Z7, Z8, Z9, Z10, resAll, Nat.reduceAdd, Nat.reduceEqDiff, Nat.reduceLeDiff, Nat.reduceMul, ↓reduceIte, reduceCtorEq, Nat.reduceBEq, aoper, Nat.reduceLT, Int.reduceEq, Int.reduceLT, Int.reduceLE]
          have hb1 : b1 < σ.fresh.n := h1.1
          have hb2 : b2 < σ.fresh.n := h2.1
          exact ⟨⟨_, rfl, _, _, _, _, rfl, (k1.putR (by omega)).putR (by omega), (k2.putR (by omega)).putR (by omega), (hkk.putR (by omega) _ _).putR (by omega) _ _, k3.imp id (by omega), k4.imp id (by omega)⟩, rfl⟩
      · have hs : do7F S thread l W = (S, 7) := by unfold do7F; rw [c1, if_pos rfl, if_pos c2, e1, if_neg c3]
        simp (disch := omega) only [sl6_all, sl6_0, sl6_1, hG, c1, hs, hcap, e1, eq_true c2, c3, r0_mail_Do, r1_mail_Do, r2_mail_Do, k1_mail_Do, r3_mail_Do, r4_mail_Do, r5_mail_Do, r6_mail_Do, k5_mail_Do, r7_mail_Do, r8_mail_Do, r9_mail_Do, r10_mail_Do, r11_mail_Do, r12_mail_Do, k9_mail_Do, k8_mail_Do, k7_mail_Do, r13_mail_Do, r14_mail_Do, k11_mail_Do, r15_mail_Do, k12_mail_Do, k10_mail_Do, k6_mail_Do, k4_mail_Do, k3_mail_Do, k2_mail_Do, k0_mail_Do, c_mail_Do, Z0, Z1, Z2, Z3, Z4, Z5, Z6, Z7, Z8, Z9, Z10, resAll, Nat.reduceAdd, Nat.reduceEqDiff, Nat.reduceLeDiff, Nat.reduceMul, ↓reduceIte, reduceCtorEq, Nat.reduceBEq, aoper, Nat.reduceLT, Int.reduceEq, Int.reduceLT, Int.reduceLE]
        exact ⟨_, rfl, fin _⟩
    · have hs : do7F S thread l W = (S, (capF S thread l).2.2) := by unfold do7F; rw [c1, if_pos rfl, if_neg c2]
      simp (disch := omega) only [sl6_all, sl6_0, sl6_1, hG, c1, hs, hcap, c2, r0_mail_Do, r1_mail_Do, r2_mail_Do, k1_mail_Do, r3_mail_Do, r4_mail_Do, r5_mail_Do, r6_mail_Do, k5_mail_Do, r7_mail_Do, r8_mail_Do, r9_mail_Do, r10_mail_Do, r11_mail_Do, r12_mail_Do, k9_mail_Do, k8_mail_Do, k7_mail_Do, r13_mail_Do, r14_mail_Do, k11_mail_Do, r15_mail_Do, k12_mail_Do, k10_mail_Do, k6_mail_Do, k4_mail_Do, k3_mail_Do, k2_mail_Do, k0_mail_Do, c_mail_Do, Z0, Z1, Z2, Z3, Z4, Z5, Z6, Z7, Z8, Z9, Z10, resAll, Nat.reduceAdd, Nat.reduceEqDiff, Nat.reduceLeDiff, Nat.reduceMul, ↓reduceIte, reduceCtorEq, Nat.reduceBEq, aoper, Nat.reduceLT, Int.reduceEq, Int.reduceLT, Int.reduceLE]
      exact ⟨_, rfl, fin _⟩
theorem mail_Do8_ok (d : Nat) (σ : AHeap) (S : StD) (b1 f1 b2 f2 : Nat) (thread : Int) (l : List Int) (aA : Option Addr) (fA : Nat) (aB : Option Addr) (fB : Nat) (hg : goodB S = true) (hd : σ.dead = []) (hlo : σ.low ≤ σ.n)
    (h1 : SlAt slotL 5 σ b1 S.sl) (h2 : SlAt thingL 13 σ b2 S.th) (h3 : SlI σ aA l) :
    ∃ v τ, acall (ofProg Tryz.prog) 1000 (d + S.th.length + 11) 16 [stV S (some ⟨b1, 0, none⟩) f1 (some ⟨b2, 0, none⟩) f2, .int .i64 thread, callV 8 aA l.length fA aB 0 fB 0 0 0] σ = some (.tuple [v, repV (do8F S thread l).2.1 (do8F S thread l).2.2.1 (do8F S thread l).2.2.2].toArray, τ) ∧ StOut σ b1 b2 (do8F S thread l).1 v τ := by
  suffices hs : Hai.Ends (acode (acall (ofProg Tryz.prog) 1000 (d + S.th.length + 10)) 1000 c_mail_Do (Tr.of [stV S (some ⟨b1, 0, none⟩) f1 (some ⟨b2, 0, none⟩) f2, .int .i64 thread, callV 8 aA l.length fA aB 0 fB 0 0 0]) (σ.fresh.grow []))
      (finA σ.n [.cell 6 true 5, .cell 7 true 3] fun v τ => ∃ u, v = .tuple [u, repV (do8F S thread l).2.1 (do8F S thread l).2.2.1 (do8F S thread l).2.2.2].toArray ∧ StOut σ.fresh b1 b2 (do8F S thread l).1 u τ) by
    obtain ⟨v, τ', e, τ, ⟨u, rfl, a1', f1', a2', f2', rfl, g1, g2, g3, g4⟩, g⟩ := acall_addr e_mail_Do (by simp) hlo hs
    rcases g with ⟨g, _⟩ | rfl
    · cases g
    · exact ⟨_, _, e, _, _, _, _, rfl, g1, g2, g3.back, g4⟩
  obtain ⟨n1, n2, n3, n4⟩ := good_len hg
  have z0 : ((0 : Nat) : Int) = 0 := rfl
  have g1 : SlS σ (some ⟨b1, 0, none⟩) S.sl := .inr ⟨b1, rfl, h1⟩
  have g2 : SlT σ (some ⟨b2, 0, none⟩) S.th := .inr ⟨b2, rfl, h2⟩
  have hG := fun L => callGood8_ok (d + S.th.length + 4) (σ.fresh.grow L) l aA fA aB fB (h3.fresh.grow L)
  have hcap := fun L => find_Cap_ok d (σ.fresh.grow L) S (some ⟨b1, 0, none⟩) f1 (some ⟨b2, 0, none⟩) f2 thread l aA fA (by rw [grow_dead]; exact hd) (g1.fresh.grow L) (g2.fresh.grow L) (h3.fresh.grow L)
  have hwit := right_Within_ok (d + S.th.length + 6)
  have fin : ∀ L, StOut σ.fresh b1 b2 S (stV S (some ⟨b1, 0, none⟩) f1 (some ⟨b2, 0, none⟩) f2) (σ.fresh.grow L) := fun L => ⟨_, _, _, _, rfl, SlAt.keeps (σ := σ.fresh) h1 (Keeps.self _ _), SlAt.keeps (σ := σ.fresh) h2 (Keeps.self _ _), Keeps.self _ _, .inl rfl, .inl rfl⟩
  cases c1 : pathB l with
  | false =>
    have hs : do8F S thread l = (S, 1, 0, 0) := by unfold do8F; rw [c1]; rfl
    simp (disch := omega) only [sl6_all, sl6_0, sl6_1, hG, c1, hs, r0_mail_Do, r1_mail_Do, r2_mail_Do, k1_mail_Do, r3_mail_Do, r4_mail_Do, r5_mail_Do, r6_mail_Do, k5_mail_Do, r7_mail_Do, r8_mail_Do, r9_mail_Do, r10_mail_Do, r11_mail_Do, r12_mail_Do, k9_mail_Do, k8_mail_Do, k7_mail_Do, r13_mail_Do, r14_mail_Do, k11_mail_Do, r15_mail_Do, k12_mail_Do, k10_mail_Do, k6_mail_Do, k4_mail_Do, k3_mail_Do, k2_mail_Do, k0_mail_Do, c_mail_Do, Z0, Z1, Z2, Z3, Z4, Z5, Z6, Z7, Z8, Z9, Z10, resAll, Nat.reduceAdd, Nat.reduceEqDiff, Nat.reduceLeDiff, Nat.reduceMul, ↓reduceIte, reduceCtorEq, Nat.reduceBEq, aoper, Nat.reduceLT, Int.reduceEq, Int.reduceLT, Int.reduceLE]
    exact ⟨_, rfl, fin _⟩
  | true =>
    by_cases c2 : (capF S thread l).2.2 = 0
    · obtain ⟨x, t, e1, e2, e3, e4, e5, e6⟩ := capF_in hg c2
      by_cases c3 : x.type = 3
      · cases c4 : withinB 1 x.rights with
        | false =>
          have hs : do8F S thread l = (S, 6, 0, 0) := by unfold do8F; rw [c1, if_pos rfl, if_pos c2, e1, if_pos c3, c4]; rfl
          simp (disch := omega) only [sl6_all, sl6_0, sl6_1, hG, c1, hs, hcap, e1, eq_true c2, c3, hwit, c4, r0_mail_Do, r1_mail_Do, r2_mail_Do, k1_mail_Do, r3_mail_Do, r4_mail_Do, r5_mail_Do, r6_mail_Do, k5_mail_Do, r7_mail_Do, r8_mail_Do, r9_mail_Do, r10_mail_Do, r11_mail_Do, r12_mail_Do, k9_mail_Do, k8_mail_Do, k7_mail_Do, r13_mail_Do, r14_mail_Do, k11_mail_Do, r15_mail_Do, k12_mail_Do, k10_mail_Do, k6_mail_Do, k4_mail_Do, k3_mail_Do, k2_mail_Do, k0_mail_Do, c_mail_Do, Z0, Z1, Z2, Z3, Z4, Z5, Z6, Z7, Z8, Z9, Z10, resAll, Nat.reduceAdd, Nat.reduceEqDiff, Nat.reduceLeDiff, Nat.reduceMul, ↓reduceIte, reduceCtorEq, Nat.reduceBEq, aoper, Nat.reduceLT, Int.reduceEq, Int.reduceLT, Int.reduceLE]
          exact ⟨_, rfl, fin _⟩
        | true =>
          have hs : do8F S thread l = recvF S x := by unfold do8F; rw [c1, if_pos rfl, if_pos c2, e1, if_pos c3, c4]; rfl
          obtain ⟨xt, xg, xr, xb, xu⟩ := x
          simp only at c3
          subst c3
          have hk0 := Keeps.self σ.fresh [(stL S (some ⟨b1, 0, none⟩) f1 (some ⟨b2, 0, none⟩) f2, 5), (callL 8 aA l.length fA aB 0 fB 0 0 0, 6), ([.int .i64 0, .int .i64 0, .int .i64 0, .slice none 0 0, .slice none 0 0], 5), ([.int .i64 0, .int .u64 0, .int .i64 0], 3), ([i64 3, i64 xg, i64 xr, i64 xb], 4)]
          obtain ⟨v, τ, e, k⟩ := mail_recv_ok (d + S.th.length + 7) _ S b1 f1 b2 f2 thread 0 0 0 aA l.length fA aB fB ⟨3, xg, xr, xb, xu⟩ t (low_grow fresh_le _) (SlAt.keeps (σ := σ.fresh) h1 hk0) (SlAt.keeps (σ := σ.fresh) h2 hk0) n1 n2 n4 e4
          obtain ⟨d1, g1', d2, g2', rfl, k1, k2, k, k3, k4⟩ := k
          rw [grow_n] at k3 k4
          simp only [List.length_cons, List.length_nil, Nat.reduceAdd] at k3 k4
          have q0 := k.rows 0 rfl
          have q1 := k.rows 1 rfl
          have q2 := k.rows 2 rfl
          have q3 := k.rows 3 rfl
          have q4 := k.rows 4 rfl
          have hlow : τ.low = σ.fresh.n := by rw [k.low, grow_low]; rfl
          have l2 := load_sl q2
          have l3 := load_sl q3
          have hkk := hk0.trans k
          simp (disch := omega) only [sl6_all, sl6_0, sl6_1, hG, c1, hs, hcap, e1, eq_true c2, hwit, c4, e, repL, st_gen, rowSt_row, putM_R, putR_low, putR_load, putR_loadF, putR_get, putR_far, hlow, q0, q1, q2, q3, q4, l2, l3, Nat.le_refl, Nat.le_add_right, r0_mail_Do, r1_mail_Do, r2_mail_Do, k1_mail_Do, r3_mail_Do, r4_mail_Do, r5_mail_Do, r6_mail_Do, k5_mail_Do, r7_mail_Do, r8_mail_Do, r9_mail_Do, r10_mail_Do, r11_mail_Do, r12_mail_Do, k9_mail_Do, k8_mail_Do, k7_mail_Do, r13_mail_Do, r14_mail_Do, k11_mail_Do, r15_mail_Do, k12_mail_Do, k10_mail_Do, k6_mail_Do, k4_mail_Do, k3_mail_Do, k2_mail_Do, k0_mail_Do, c_mail_Do, Z0, Z1, Z2, Z3, Z4, Z5, Z6, Z7, Z8, Z9, Z10, resAll, Nat.reduceAdd, Nat.reduceEqDiff, Nat.reduceLeDiff, Nat.reduceMul, ↓reduceIte, reduceCtorEq, Nat.reduceBEq, aoper, Nat.reduceLT, Int.reduceEq, Int.reduceLT, Int.reduceLE]
          have hb1 : b1 < σ.fresh.n := h1.1
          have hb2 : b2 < σ.fresh.n := h2.1
          exact ⟨⟨_, rfl, _, _, _, _, rfl, (k1.putR (by omega)).putR (by omega), (k2.putR (by omega)).putR (by omega), (hkk.putR (by omega) _ _).putR (by omega) _ _, k3.imp id (by omega), k4.imp id (by omega)⟩, rfl⟩
      · have hs : do8F S thread l = (S, 7, 0, 0) := by unfold do8F; rw [c1, if_pos rfl, if_pos c2, e1, if_neg c3]
        simp (disch := omega) only [sl6_all, sl6_0, sl6_1, hG, c1, hs, hcap, e1, eq_true c2, c3, r0_mail_Do, r1_mail_Do, r2_mail_Do, k1_mail_Do, r3_mail_Do, r4_mail_Do, r5_mail_Do, r6_mail_Do, k5_mail_Do, r7_mail_Do, r8_mail_Do, r9_mail_Do, r10_mail_Do, r11_mail_Do, r12_mail_Do, k9_mail_Do, k8_mail_Do, k7_mail_Do, r13_mail_Do, r14_mail_Do, k11_mail_Do, r15_mail_Do, k12_mail_Do, k10_mail_Do, k6_mail_Do, k4_mail_Do, k3_mail_Do, k2_mail_Do, k0_mail_Do, c_mail_Do, Z0, Z1, Z2, Z3, Z4, Z5, Z6, Z7, Z8, Z9, Z10, resAll, Nat.reduceAdd, Nat.reduceEqDiff, Nat.reduceLeDiff, Nat.reduceMul, ↓reduceIte, reduceCtorEq, Nat.reduceBEq, aoper, Nat.reduceLT, Int.reduceEq, Int.reduceLT, Int.reduceLE]
        exact ⟨_, rfl, fin _⟩
    · have hs : do8F S thread l = (S, (capF S thread l).2.2, 0, 0) := by unfold do8F; rw [c1, if_pos rfl, if_neg c2]
      simp (disch := omega) only [sl6_all, sl6_0, sl6_1, hG, c1, hs, hcap, c2, r0_mail_Do, r1_mail_Do, r2_mail_Do, k1_mail_Do, r3_mail_Do, r4_mail_Do, r5_mail_Do, r6_mail_Do, k5_mail_Do, r7_mail_Do, r8_mail_Do, r9_mail_Do, r10_mail_Do, r11_mail_Do, r12_mail_Do, k9_mail_Do, k8_mail_Do, k7_mail_Do, r13_mail_Do, r14_mail_Do, k11_mail_Do, r15_mail_Do, k12_mail_Do, k10_mail_Do, k6_mail_Do, k4_mail_Do, k3_mail_Do, k2_mail_Do, k0_mail_Do, c_mail_Do, Z0, Z1, Z2, Z3, Z4, Z5, Z6, Z7, Z8, Z9, Z10, resAll, Nat.reduceAdd, Nat.reduceEqDiff, Nat.reduceLeDiff, Nat.reduceMul, ↓reduceIte, reduceCtorEq, Nat.reduceBEq, aoper, Nat.reduceLT, Int.reduceEq, Int.reduceLT, Int.reduceLE]
      exact ⟨_, rfl, fin _⟩
end Go.Proofs.YtidmcpkbcphpiaaGreat
namespace Go.Proofs.YtidmcpkbcphpiaaGreat
open Go Go.Hai

structure TA (S T : StD) : Prop where
  threads : T.threads = S.threads
  slots : T.slots = S.slots
  things : T.things = S.things
  sl : T.sl = S.sl
  len : T.th.length = S.th.length
  th : ∀ i : Nat, T.th[i]? = S.th[i]? ∨ ∃ x y, S.th[i]? = some x ∧ T.th[i]? = some y ∧ x.type = 3 ∧ y.type = 3
section
variable {S T : StD}
theorem TA.map (h : TA S T) {β : Type} (g : ThingD → β) (hg : ∀ x y : ThingD, x.type = 3 → y.type = 3 → g x = g y) (i : Nat) : (T.th[i]?).map g = (S.th[i]?).map g := by
  rcases h.th i with e | ⟨x, y, e1, e2, e3, e4⟩
  · rw [e]
  · rw [e1, e2]; simp [hg x y e3 e4]
theorem TA.mapI (h : TA S T) {β : Type} (g : ThingD → β) (hg : ∀ x y : ThingD, x.type = 3 → y.type = 3 → g x = g y) (n : Int) : (atI T.th n).map g = (atI S.th n).map g := by
  unfold atI
  split
  · exact h.map g hg _
  · rfl
theorem thereB_map (S : StD) (n : Int) : thereB S n = ((atI S.th n).map fun t => !(decide (t.type = 0))).getD false := by
  unfold thereB; cases atI S.th n <;> rfl
theorem TA.thereB (h : TA S T) (n : Int) : Proofs.YtidmcpkbcphpiaaGreat.thereB T n = Proofs.YtidmcpkbcphpiaaGreat.thereB S n := by
  rw [thereB_map, thereB_map, h.mapI _ (fun x y e1 e2 => by rw [e1, e2])]
theorem slotB_map (S : StD) (x : SlotD) : slotB S x = (capGood x && !(capNone x && !(decide (x.up = -1))) && !(!(capNone x) && decide (x.up < -1)) && (capNone x || ((atI S.th x.thing).map fun t => !(decide (t.type = 0)) && decide (t.type = x.type)).getD false)) := by
  unfold slotB; cases atI S.th x.thing <;> rfl
theorem TA.slotB (h : TA S T) : Proofs.YtidmcpkbcphpiaaGreat.slotB T = Proofs.YtidmcpkbcphpiaaGreat.slotB S := by
  funext x
  rw [slotB_map, slotB_map, h.mapI _ (fun x y e1 e2 => by rw [e1, e2])]
theorem TA.capsB (h : TA S T) : Proofs.YtidmcpkbcphpiaaGreat.capsB T = Proofs.YtidmcpkbcphpiaaGreat.capsB S := by
  unfold Proofs.YtidmcpkbcphpiaaGreat.capsB; rw [h.sl, h.slotB]
theorem goesB_map (S : StD) (node : Int) (j : Nat) (x : SlotD) : goesB S node j x = (decide (x.type = 2) && ((atI S.th node).map fun t => hasB t j).getD false && thereB S x.thing) := by
  unfold goesB; cases atI S.th node <;> rfl
theorem hasB_3 {x y : ThingD} (hx : x.type = 3) (hy : y.type = 3) (j : Int) : hasB x j = hasB y j := by
  have e : ¬ ((3 : Int) = 2) := by decide
  unfold hasB; rw [hx, hy]; simp [e]
theorem TA.goesB (h : TA S T) : Proofs.YtidmcpkbcphpiaaGreat.goesB T = Proofs.YtidmcpkbcphpiaaGreat.goesB S := by
  funext n j x
  rw [goesB_map, goesB_map, h.mapI _ (fun x y e1 e2 => hasB_3 e1 e2 _), h.thereB]
theorem TA.wTo (h : TA S T) (r : Int → List Int → List Int) (node : Int) (V : List Int) : ∀ j, Proofs.YtidmcpkbcphpiaaGreat.wTo T r node V j = Proofs.YtidmcpkbcphpiaaGreat.wTo S r node V j := by
  intro j
  induction j with
  | zero => rfl
  | succ j ih =>
    unfold Proofs.YtidmcpkbcphpiaaGreat.wTo
    rw [h.sl, h.goesB, ih]
theorem TA.wIn (h : TA S T) : ∀ k, Proofs.YtidmcpkbcphpiaaGreat.wIn T k = Proofs.YtidmcpkbcphpiaaGreat.wIn S k := by
  intro k
  induction k with
  | zero => rfl
  | succ k ih =>
    funext node V
    unfold Proofs.YtidmcpkbcphpiaaGreat.wIn
    rw [ih, h.sl, h.wTo]
theorem firstI_map {α : Type} (p : α → Bool) : ∀ (l : List α) (k : Nat), firstI p l k = firstI id (l.map p) k := by
  intro l
  induction l with
  | nil => intro k; rfl
  | cons a l ih => intro k; simp only [firstI, List.map_cons, ih, id]
theorem TA.ownI (h : TA S T) (z : Int) : Proofs.YtidmcpkbcphpiaaGreat.ownI T z = Proofs.YtidmcpkbcphpiaaGreat.ownI S z := by
  unfold Proofs.YtidmcpkbcphpiaaGreat.ownI
  have e : T.th.map (fun t => hasB t z) = S.th.map (fun t => hasB t z) := List.ext_getElem? fun i => by
    rw [List.getElem?_map, List.getElem?_map]
    exact h.map _ (fun x y e1 e2 => hasB_3 e1 e2 _) i
  rw [firstI_map, firstI_map (l := S.th), e]
theorem insideB_map (S : StD) (node slot : Int) : insideB S node slot = ((atI S.th node).map fun t => decide (t.type = 2) && (wIn S (S.th.length + 1) node []).contains (ownI S slot)).getD false := by
  unfold insideB; cases atI S.th node <;> rfl
theorem TA.insideB (h : TA S T) (node slot : Int) : Proofs.YtidmcpkbcphpiaaGreat.insideB T node slot = Proofs.YtidmcpkbcphpiaaGreat.insideB S node slot := by
  rw [insideB_map, insideB_map, h.wIn, h.ownI, h.len, h.mapI _ (fun x y e1 e2 => by rw [e1, e2])]
theorem TA.ringB (h : TA S T) : Proofs.YtidmcpkbcphpiaaGreat.ringB T = Proofs.YtidmcpkbcphpiaaGreat.ringB S := by
  unfold Proofs.YtidmcpkbcphpiaaGreat.ringB
  rw [h.sl]
  congr 2
  funext i x
  rw [h.insideB]
theorem TA.nodesTo (h : TA S T) : ∀ k, Proofs.YtidmcpkbcphpiaaGreat.nodesTo T k = Proofs.YtidmcpkbcphpiaaGreat.nodesTo S k := by
  intro k
  induction k with
  | zero => unfold Proofs.YtidmcpkbcphpiaaGreat.nodesTo; rw [h.sl]
  | succ k ih =>
    unfold Proofs.YtidmcpkbcphpiaaGreat.nodesTo
    rw [ih]
    rcases h.th k with e | ⟨x, y, e1, e2, e3, e4⟩
    · rw [e]
    · rw [e1, e2]
      have e : ¬ ((3 : Int) = 2) := by decide
      simp only [e3, e4, e, if_false]
theorem TA.nodesB (h : TA S T) : Proofs.YtidmcpkbcphpiaaGreat.nodesB T = Proofs.YtidmcpkbcphpiaaGreat.nodesB S := by
  unfold Proofs.YtidmcpkbcphpiaaGreat.nodesB
  rw [h.len, h.nodesTo, h.sl]
theorem TA.holdTo (h : TA S T) (n : Int) : ∀ k, Proofs.YtidmcpkbcphpiaaGreat.holdTo T n k = Proofs.YtidmcpkbcphpiaaGreat.holdTo S n k := by
  intro k
  induction k with
  | zero => rfl
  | succ k ih => unfold Proofs.YtidmcpkbcphpiaaGreat.holdTo; rw [ih, h.sl]
theorem TA.allowedB (h : TA S T) : Proofs.YtidmcpkbcphpiaaGreat.allowedB T = Proofs.YtidmcpkbcphpiaaGreat.allowedB S := by
  have e : ∀ x k z, aF T x k z = aF S x k z := by
    intro x k
    induction k with
    | zero => intro z; rfl
    | succ k ih => intro z; unfold aF; rw [h.sl]; split <;> simp only [ih]
  unfold Proofs.YtidmcpkbcphpiaaGreat.allowedB
  rw [h.sl]
  congr 1
  funext i x
  unfold allowB
  rw [e, h.sl]
theorem allTo_all {α : Type} {p : Nat → α → Bool} {l : List α} : ∀ n, (∀ i x, i < n → l[i]? = some x → p i x = true) → allTo p l n = true := by
  intro n
  induction n with
  | zero => intro _; rfl
  | succ n ih =>
    intro h
    unfold allTo
    rw [ih fun i x hi hx => h i x (by omega) hx]
    cases hx : l[n]? with
    | none => rfl
    | some x => simp [h n x (by omega) hx]
theorem TA.thingB (h : TA S T) (i : Nat) (t : ThingD) : Proofs.YtidmcpkbcphpiaaGreat.thingB T i t = Proofs.YtidmcpkbcphpiaaGreat.thingB S i t := by
  unfold Proofs.YtidmcpkbcphpiaaGreat.thingB frmBad isRootB rootEq
  rw [h.holdTo, h.sl, h.threads, h.slots, h.things]
theorem TA.thingsB (h : TA S T) (hg : Proofs.YtidmcpkbcphpiaaGreat.thingsB S = true) (hy : ∀ (i : Nat) (y : ThingD), T.th[i]? = some y → S.th[i]? = some y ∨ (thGood y = true ∧ frmBad S y = false)) : Proofs.YtidmcpkbcphpiaaGreat.thingsB T = true := by
  unfold Proofs.YtidmcpkbcphpiaaGreat.thingsB at hg ⊢
  refine allTo_all _ fun i y hi hT => ?_
  rw [h.thingB]
  rcases hy i y hT with e | ⟨e1, e2⟩
  · exact allTo_true e _ (by rw [← h.len]; exact hi) hg
  · rcases h.th i with e | ⟨x, y', e3, e4, e5, e6⟩
    · exact allTo_true (e ▸ hT) _ (by rw [← h.len]; exact hi) hg
    · rw [hT] at e4
      cases e4
      have hx := allTo_true e3 _ (by rw [← h.len]; exact hi) hg
      unfold Proofs.YtidmcpkbcphpiaaGreat.thingB at hx ⊢
      rw [e1, e2]
      have n0 : decide ((3 : Int) = 0) = false := by decide
      have hr : rootEq S i x = false := by
        have e : ((3 : Int) == 2) = false := by decide
        unfold rootEq eq13; rw [e5, e]; rfl
      rw [hr, e5] at hx
      rw [e6]
      cases hb : isRootB S i with
      | true => rw [hb] at hx; simp at hx
      | false =>
        rw [hb] at hx
        rw [n0] at hx ⊢
        simp only [Bool.and_eq_true] at hx ⊢
        exact ⟨⟨⟨trivial, by simp⟩, by simp⟩, hx.2⟩
theorem TA.good (h : TA S T) (hg : goodB S = true) (hy : ∀ (i : Nat) (y : ThingD), T.th[i]? = some y → S.th[i]? = some y ∨ (thGood y = true ∧ frmBad S y = false)) : goodB T = true := by
  unfold goodB at hg ⊢
  have hu : upL T = upL S := by unfold upL; rw [h.sl]
  simp only [Bool.and_eq_true] at hg
  obtain ⟨⟨⟨⟨⟨⟨⟨⟨g1, g2⟩, g3⟩, g4⟩, g5⟩, g6⟩, g7⟩, g8⟩, g9⟩ := hg
  rw [h.threads, h.slots, h.things, h.sl, h.len, h.capsB, h.nodesB, h.ringB, hu, h.allowedB, g1, g2, g3, g4, g6, g7, g8, g9, h.thingsB g5 hy]
  rfl
/- ways -/
theorem TA.thrT (h : TA S T) (G : GoodF S) {z : Int} : thrTz T z = thrTz S z := by
  unfold thrTz
  rw [h.sl]
  cases hz : atI S.sl z with
  | none => rfl
  | some x =>
    simp only
    unfold Proofs.YtidmcpkbcphpiaaGreat.thrT
    split
    · next hc =>
      have hx : ∃ i : Nat, S.sl[i]? = some x := by
        unfold atI at hz
        split at hz
        · exact ⟨_, hz⟩
        · cases hz
      obtain ⟨i, hx⟩ := hx
      obtain ⟨t, e1, e2, e3, e4, e5⟩ := G.link hx hc.1
      have : atI T.th x.thing = atI S.th x.thing := by
        unfold atI
        rw [if_pos e3, if_pos e3]
        rcases h.th x.thing.toNat with e | ⟨a, b, f1, f2, f3, f4⟩
        · exact e
        · rw [e2] at f1
          cases f1
          have := e5.1
          omega
      rw [this]
    · rfl
theorem TA.rootT (h : TA S T) (G : GoodF S) {n : Int} (h0 : 0 ≤ n) (h1 : n ≤ S.threads - 1) : Proofs.YtidmcpkbcphpiaaGreat.rootT T n = Proofs.YtidmcpkbcphpiaaGreat.rootT S n := by
  unfold Proofs.YtidmcpkbcphpiaaGreat.rootT
  obtain ⟨t, r1, r2, r3⟩ := G.root h0 h1
  rcases h.th (2 + n).toNat with e | ⟨a, b, f1, f2, f3, f4⟩
  · rw [e]
  · rw [r1] at f1
    cases f1
    have := r3.1
    omega
theorem TA.stepTo (h : TA S T) (G : GoodF S) (t0 : ThingD) (l : List Int) : ∀ i, Proofs.YtidmcpkbcphpiaaGreat.stepTo T t0 l i = Proofs.YtidmcpkbcphpiaaGreat.stepTo S t0 l i := by
  intro i
  induction i with
  | zero => rfl
  | succ i ih =>
    have hb : ∀ z, thrBz T z = thrBz S z := fun z => by unfold thrBz; rw [h.sl]
    unfold Proofs.YtidmcpkbcphpiaaGreat.stepTo
    rw [ih]
    simp only [h.thrT G, hb]
theorem TA.slotF (h : TA S T) (hg : goodB S = true) (hgT : goodB T = true) (n : Int) (l : List Int) : Proofs.YtidmcpkbcphpiaaGreat.slotF T n l = Proofs.YtidmcpkbcphpiaaGreat.slotF S n l := by
  unfold Proofs.YtidmcpkbcphpiaaGreat.slotF
  have G := goodF hg
  rw [hg, hgT, h.threads]
  split
  · next hc => rw [h.rootT G hc.2.1.1 hc.2.1.2, h.stepTo G]
  · rfl
theorem TA.capF (h : TA S T) (hg : goodB S = true) (hgT : goodB T = true) (n : Int) (l : List Int) : Proofs.YtidmcpkbcphpiaaGreat.capF T n l = Proofs.YtidmcpkbcphpiaaGreat.capF S n l := by
  unfold Proofs.YtidmcpkbcphpiaaGreat.capF slotAt
  rw [h.slotF hg hgT, h.sl]
end
theorem setT_th (S : StD) (k : Nat) (t : ThingD) (i : Nat) : (setT S k t).th[i]? = if k = i then (if i < S.th.length then some t else none) else S.th[i]? := by
  unfold setT
  simp only
  by_cases h : k = i
  · subst h
    rw [if_pos rfl, List.getElem?_set_self']
    by_cases hl : k < S.th.length
    · simp [hl]
    · simp [hl]
  · rw [if_neg h, List.getElem?_set_ne h]
theorem TA_setT {S : StD} {k : Nat} {x t : ThingD} (hk : S.th[k]? = some x) (hx : x.type = 3) (ht : t.type = 3) : TA S (setT S k t) := by
  refine ⟨rfl, rfl, rfl, rfl, by simp [setT], fun i => ?_⟩
  rw [setT_th]
  by_cases h : k = i
  · subst h
    rw [if_pos rfl, if_pos (List.getElem?_eq_some_iff.1 hk).1]
    exact .inr ⟨x, t, hk, rfl, hx, ht⟩
  · rw [if_neg h]; exact .inl rfl
end Go.Proofs.YtidmcpkbcphpiaaGreat
namespace Go.Proofs.YtidmcpkbcphpiaaGreat
open Go Go.Hai

theorem slotEq_refl (x : SlotD) : slotEq x x = true := by simp [slotEq, eq5]
theorem thEq_refl (x : ThingD) : thEq x x = true := by simp [thEq, eq13]
theorem thEq_eq {a b : ThingD} (h : thEq a b = true) : a = b := by
  obtain ⟨a1, a2, a3, a4, a5, a6, a7, a8, a9, a10, a11, a12, a13⟩ := a
  obtain ⟨b1, b2, b3, b4, b5, b6, b7, b8, b9, b10, b11, b12, b13⟩ := b
  simp only [thEq, eq13, Bool.and_eq_true, beq_iff_eq] at h
  obtain ⟨rfl, rfl, rfl, rfl, rfl, rfl, rfl, rfl, rfl, rfl, rfl, rfl, rfl⟩ := h
  rfl
theorem eqTo_refl {α : Type} {p : α → α → Bool} (hp : ∀ x, p x x = true) (l : List α) : ∀ n, eqTo p l l n = true := by
  intro n
  induction n with
  | zero => rfl
  | succ n ih =>
    unfold eqTo
    rw [ih]
    cases l[n]? <;> simp [hp]
theorem eqL_refl {α : Type} {p : α → α → Bool} (hp : ∀ x, p x x = true) (l : List α) : eqL p l l = true := by
  unfold eqL; rw [eqTo_refl hp]; simp
theorem sameB_refl (S : StD) : sameB S S = true := by
  unfold sameB eq3
  rw [eqL_refl slotEq_refl, eqL_refl thEq_refl]
  simp
theorem do7_err {S : StD} {n : Int} {l : List Int} {W : Int} (h : (do7F S n l W).2 ≠ 0) : (do7F S n l W).1 = S := by
  unfold do7F at h ⊢
  split
  · next h1 =>
    rw [if_pos h1] at h
    split
    · next h2 =>
      rw [if_pos h2] at h
      split
      · next h3 =>
        rw [if_pos h3] at h
        split
        · next h4 =>
          rw [if_pos h4] at h
          unfold sendF at h ⊢
          split
          · next t ht =>
            rw [ht] at h
            simp only at h
            split
            · rfl
            · next h5 => rw [if_neg h5] at h; exact absurd rfl h
          · rfl
        · rfl
      · rfl
    · rfl
  · rfl
theorem capGood_badge {x : SlotD} (h : capGood x = true) (hn : capNone x = false) : 0 ≤ x.badge ∧ x.badge ≤ 65535 := by
  unfold capGood at h
  rw [hn] at h
  simp only [Bool.false_or, Bool.and_eq_true, decide_eq_true_eq] at h
  exact h.1.2
theorem thGood_mailT {w b : Int} (h : 0 ≤ b ∧ b ≤ 65535) : thGood (mailT w b 0) = true := by
  obtain ⟨h1, h2⟩ := h
  simp [thGood, thOwn, mailT, zeroT, thEq, eq13, h1, h2]
theorem thGood_mailE : thGood mailE = true := by decide
theorem frmBad_0 (S : StD) {t : ThingD} (h : t.frm = 0) : frmBad S t = false := by unfold frmBad; rw [h]; simp
theorem setT_good {S : StD} (hg : goodB S = true) {k : Nat} {x t : ThingD} (hk : S.th[k]? = some x) (hx : x.type = 3) (ht : t.type = 3) (h1 : thGood t = true) (h2 : frmBad S t = false) : TA S (setT S k t) ∧ goodB (setT S k t) = true := by
  have hT := TA_setT hk hx ht
  refine ⟨hT, hT.good hg fun i y hy => ?_⟩
  rw [setT_th] at hy
  by_cases h : k = i
  · subst h
    rw [if_pos rfl, if_pos (List.getElem?_eq_some_iff.1 hk).1] at hy
    cases hy
    exact .inr ⟨h1, h2⟩
  · rw [if_neg h] at hy; exact .inl hy
theorem atI_to {α : Type} {l : List α} {z : Int} {x : α} (h : atI l z = some x) : l[z.toNat]? = some x ∧ 0 ≤ z := by
  unfold atI at h
  split at h
  · exact ⟨h, by assumption⟩
  · cases h
theorem setT_at {S : StD} {z : Int} {x t : ThingD} (h : atI S.th z = some x) : atI (setT S z.toNat t).th z = some t := by
  obtain ⟨h1, h2⟩ := atI_to h
  unfold atI
  rw [if_pos h2, setT_th, if_pos rfl, if_pos (List.getElem?_eq_some_iff.1 h1).1]
/- a send that answers none of the errors -/
theorem do7_ok {S : StD} (hg : goodB S = true) {n : Int} {l : List Int} {W : Int} (h : (do7F S n l W).2 = 0) :
    ∃ x t, pathB l = true ∧ (capF S n l).2.2 = 0 ∧ (capF S n l).2.1 = x ∧ x.type = 3 ∧ withinB 2 x.rights = true ∧ (0 ≤ x.badge ∧ x.badge ≤ 65535) ∧ atI S.th x.thing = some t ∧ t.type = 3 ∧ t = mailE ∧ (do7F S n l W).1 = setT S x.thing.toNat (mailT W x.badge 0) := by
  unfold do7F at h ⊢
  split at h
  · next h1 =>
    rw [if_pos h1]
    split at h
    · next h2 =>
      obtain ⟨x, t, e1, e2, e3, e4, e5, e6⟩ := capF_in hg h2
      rw [if_pos h2]
      rw [e1] at h ⊢
      split at h
      · next h3 =>
        rw [if_pos h3]
        split at h
        · next h4 =>
          rw [if_pos h4]
          have hs : slotB S x = true := by
            have hc : capsB S = true := by unfold goodB at hg; simp only [Bool.and_eq_true] at hg; exact hg.1.1.1.1.1.2
            exact all_get hc (atI_to e3).1
          have hcg : capGood x = true := by unfold slotB at hs; simp only [Bool.and_eq_true] at hs; exact hs.1.1.1
          have ht3 : t.type = 3 := by omega
          unfold sendF at h ⊢
          rw [e4] at h ⊢
          simp only at h ⊢
          split at h
          · cases h
          · next h5 =>
            rw [if_neg h5]
            have hth : thGood t = true := by
              have : thingsB S = true := by unfold goodB at hg; simp only [Bool.and_eq_true] at hg; exact hg.1.1.1.1.2
              exact thGood_of this _ t (atI_to e4).1
            have hE : t = mailE := by
              unfold thGood at hth
              simp only [Bool.and_eq_true] at hth
              have := thEq_eq hth.1
              rw [← this]
              unfold thOwn
              have n1 : ¬ t.type = 1 := by omega
              have n2 : ¬ t.type = 2 := by omega
              rw [if_neg n1, if_neg n2, if_pos ht3, if_neg h5, ht3]
              rfl
            exact ⟨x, t, h1, h2, rfl, h3, h4, capGood_badge hcg e2, e4, ht3, hE, rfl⟩
        · cases h
      · cases h
    · next h2 => exact absurd h h2
  · cases h
theorem do8_at {S : StD} {n : Int} {l : List Int} {x : SlotD} (h1 : pathB l = true) (h2 : (capF S n l).2.2 = 0) (h3 : (capF S n l).2.1 = x) (h4 : x.type = 3) : do8F S n l = if withinB 1 x.rights = true then recvF S x else (S, 6, 0, 0) := by
  unfold do8F; rw [if_pos h1, if_pos h2, h3, if_pos h4]
theorem round_law {S : StD} (hg : goodB S = true) {n : Int} {l : List Int} {W : Int} (h : (do7F S n l W).2 = 0) :
    goodB (do7F S n l W).1 = true ∧ (do7F S n l W).1.th.length = S.th.length ∧ (do7F (do7F S n l W).1 n l W).2 = 13 ∧
    (do8F (do7F S n l W).1 n l = ((do7F S n l W).1, 6, 0, 0) ∨
      ∃ b, do8F (do7F S n l W).1 n l = (S, 0, W, b) ∧ (do8F S n l).2.1 = 14) := by
  obtain ⟨x, t, p1, p2, p3, p4, p5, p6, p7, p8, p9, p10⟩ := do7_ok hg h
  rw [p10]
  obtain ⟨q1, q2⟩ := setT_good (t := mailT W x.badge 0) hg (atI_to p7).1 p8 rfl (thGood_mailT p6) (frmBad_0 S rfl)
  have hc := q1.capF hg q2 n l
  have hlen := q1.len
  have hat := setT_at (t := mailT W x.badge 0) p7
  have hback : setT (setT S x.thing.toNat (mailT W x.badge 0)) x.thing.toNat mailE = S := by
    have e : (S.th.set x.thing.toNat (mailT W x.badge 0)).set x.thing.toNat mailE = S.th := by
      rw [List.set_set]
      refine List.ext_getElem? fun i => ?_
      by_cases hi : x.thing.toNat = i
      · subst hi
        rw [(atI_to p7).1, List.getElem?_set_self (List.getElem?_eq_some_iff.1 (atI_to p7).1).1, p9]
      · rw [List.getElem?_set_ne hi]
    unfold setT
    simp only [e]
  generalize hS1 : setT S x.thing.toNat (mailT W x.badge 0) = S1 at *
  have c2 : (capF S1 n l).2.2 = 0 := by rw [hc]; exact p2
  have c3 : (capF S1 n l).2.1 = x := by rw [hc]; exact p3
  refine ⟨q2, hlen, ?_, ?_⟩
  · unfold do7F
    rw [if_pos p1, if_pos c2, c3, if_pos p4, if_pos p5]
    unfold sendF
    rw [hat]
    rfl
  · rw [do8_at p1 c2 c3 p4]
    by_cases w : withinB 1 x.rights = true
    · rw [if_pos w]
      right
      refine ⟨x.badge, ?_, ?_⟩
      · unfold recvF
        rw [hat]
        show (if true = true then (setT S1 x.thing.toNat mailE, (0 : Int), W, x.badge) else _) = _
        rw [if_pos rfl, hback]
      · rw [do8_at p1 p2 p3 p4, if_pos w]
        unfold recvF
        rw [p7, p9]
        rfl
    · rw [if_neg w]; exact .inl rfl
end Go.Proofs.YtidmcpkbcphpiaaGreat
namespace Go.Proofs.YtidmcpkbcphpiaaGreat
open Go Go.Hai

def noneS : SlotD := ⟨0, 0, 0, 0, -1⟩
def eUp (i up : Int) (x : SlotD) : SlotD := if x.up = i then { x with up := up } else x
def eFrm (i : Int) (t : ThingD) : ThingD := if t.frm = i + 1 then { t with frm := 0 } else t
def empS (S : StD) (i up : Int) : StD := { S with sl := (S.sl.map (eUp i up)).set i.toNat noneS, th := S.th.map (eFrm i) }
def emp1 (S : StD) (i : Int) : StD × Bool := match atI S.sl i with
  | some x => if capNone x then (S, false) else (empS S i x.up, true)
  | none => (S, false)
def bInt (b : Bool) : Int := if b then 1 else 0
/- some slots, by their numbers -/
def empL : StD → List Int → StD × Int
  | S, [] => (S, 0)
  | S, i :: l => ((empL (emp1 S i).1 l).1, bInt (emp1 S i).2 + (empL (emp1 S i).1 l).2)
/- the slots of a node, the first ones -/
def empR (S : StD) (base : Int) : Nat → StD × Int
  | 0 => (S, 0)
  | k + 1 => ((emp1 (empR S base k).1 (base + k)).1, (empR S base k).2 + bInt (emp1 (empR S base k).1 (base + k)).2)
def heldF (S : StD) (t : Int) : Bool := decide (0 ≤ firstI (fun x => !(capNone x) && decide (x.thing = t)) S.sl 0)
def stays (S : StD) (t : Nat) (x : ThingD) : Bool := decide (x.type = 0) || isRootB S t || heldF S t
def lostF (S : StD) (t : Nat) : StD × Int × Bool := match S.th[t]? with
  | none => (S, 0, false)
  | some x => if stays S t x = true then (S, 0, false) else
    if x.type = 2 then (setT (empR S x.base (pw x.bits).toNat).1 t zeroT, (empR S x.base (pw x.bits).toNat).2, true) else (setT S t zeroT, 0, true)
/- all things, one round -/
def sweep (S : StD) : Nat → StD × Int × Bool
  | 0 => (S, 0, false)
  | k + 1 => ((lostF (sweep S k).1 k).1, (sweep S k).2.1 + (lostF (sweep S k).1 k).2.1, (lostF (sweep S k).1 k).2.2 || (sweep S k).2.2)
def sweeps : Nat → StD → StD × Int
  | 0, S => (S, 0)
  | f + 1, S => if (sweep S S.th.length).2.2 = true then ((sweeps f (sweep S S.th.length).1).1, (sweep S S.th.length).2.1 + (sweeps f (sweep S S.th.length).1).2) else ((sweep S S.th.length).1, (sweep S S.th.length).2.1)
def live (S : StD) : Nat := S.th.countP fun t => !(decide (t.type = 0))
def takeF (S : StD) (l : List Int) : StD × Int := if goodB S = true then ((sweeps (live (empL S l).1 + 1) (empL S l).1).1, (empL S l).2 + (sweeps (live (empL S l).1 + 1) (empL S l).1).2) else (S, 0)

/- what an invariant needs -/
theorem empL_inv {P : StD → Prop} (h1 : ∀ S i, P S → P (emp1 S i).1) : ∀ (l : List Int) (S : StD), P S → P (empL S l).1 := by
  intro l
  induction l with
  | nil => intro S h; exact h
  | cons i l ih => intro S h; exact ih _ (h1 S i h)
theorem empR_inv {P : StD → Prop} (h1 : ∀ S i, P S → P (emp1 S i).1) (S : StD) (base : Int) (h : P S) : ∀ k, P (empR S base k).1 := by
  intro k
  induction k with
  | zero => exact h
  | succ k ih => exact h1 _ _ ih
theorem lostF_inv {P : StD → Prop} (h1 : ∀ S i, P S → P (emp1 S i).1) (h2 : ∀ S t, P S → P (setT S t zeroT)) (S : StD) (t : Nat) (h : P S) : P (lostF S t).1 := by
  unfold lostF
  split
  · exact h
  · split
    · exact h
    · split
      · exact h2 _ _ (empR_inv h1 S _ h _)
      · exact h2 _ _ h
theorem sweep_inv {P : StD → Prop} (h1 : ∀ S i, P S → P (emp1 S i).1) (h2 : ∀ S t, P S → P (setT S t zeroT)) (S : StD) (h : P S) : ∀ k, P (sweep S k).1 := by
  intro k
  induction k with
  | zero => exact h
  | succ k ih => exact lostF_inv h1 h2 _ _ ih
theorem sweeps_inv {P : StD → Prop} (h1 : ∀ S i, P S → P (emp1 S i).1) (h2 : ∀ S t, P S → P (setT S t zeroT)) : ∀ (f : Nat) (S : StD), P S → P (sweeps f S).1 := by
  intro f
  induction f with
  | zero => intro S h; exact h
  | succ f ih =>
    intro S h
    unfold sweeps
    split
    · exact ih _ (sweep_inv h1 h2 S h _)
    · exact sweep_inv h1 h2 S h _
/- counted invariants: a number that goes up by one at each slot that is emptied -/
theorem empL_cnt {P : StD → Int → Prop} (h1 : ∀ S i n, P S n → P (emp1 S i).1 (n + bInt (emp1 S i).2)) : ∀ (l : List Int) (S : StD) (n : Int), P S n → P (empL S l).1 (n + (empL S l).2) := by
  intro l
  induction l with
  | nil => intro S n h; simpa [empL] using h
  | cons i l ih =>
    intro S n h
    have := ih _ _ (h1 S i n h)
    simp only [empL]
    rw [← Int.add_assoc]
    exact this
theorem empR_cnt {P : StD → Int → Prop} (h1 : ∀ S i n, P S n → P (emp1 S i).1 (n + bInt (emp1 S i).2)) (S : StD) (base : Int) (n : Int) (h : P S n) : ∀ k, P (empR S base k).1 (n + (empR S base k).2) := by
  intro k
  induction k with
  | zero => simpa [empR] using h
  | succ k ih =>
    simp only [empR]
    rw [← Int.add_assoc]
    exact h1 _ _ _ ih
theorem lostF_cnt {P : StD → Int → Prop} (h1 : ∀ S i n, P S n → P (emp1 S i).1 (n + bInt (emp1 S i).2)) (h2 : ∀ S t n, P S n → P (setT S t zeroT) n) (S : StD) (t : Nat) (n : Int) (h : P S n) : P (lostF S t).1 (n + (lostF S t).2.1) := by
  unfold lostF
  split
  · simpa using h
  · split
    · simpa using h
    · split
      · exact h2 _ _ _ (empR_cnt h1 S _ n h _)
      · simpa using h2 _ _ _ h
theorem sweep_cnt {P : StD → Int → Prop} (h1 : ∀ S i n, P S n → P (emp1 S i).1 (n + bInt (emp1 S i).2)) (h2 : ∀ S t n, P S n → P (setT S t zeroT) n) (S : StD) (n : Int) (h : P S n) : ∀ k, P (sweep S k).1 (n + (sweep S k).2.1) := by
  intro k
  induction k with
  | zero => simpa [sweep] using h
  | succ k ih =>
    simp only [sweep]
    rw [← Int.add_assoc]
    exact lostF_cnt h1 h2 _ _ _ ih
theorem sweeps_cnt {P : StD → Int → Prop} (h1 : ∀ S i n, P S n → P (emp1 S i).1 (n + bInt (emp1 S i).2)) (h2 : ∀ S t n, P S n → P (setT S t zeroT) n) : ∀ (f : Nat) (S : StD) (n : Int), P S n → P (sweeps f S).1 (n + (sweeps f S).2) := by
  intro f
  induction f with
  | zero => intro S n h; simpa [sweeps] using h
  | succ f ih =>
    intro S n h
    unfold sweeps
    split
    · simp only
      rw [← Int.add_assoc]
      exact ih _ _ (sweep_cnt h1 h2 S n h _)
    · exact sweep_cnt h1 h2 S n h _
theorem takeF_cnt {P : StD → Int → Prop} (h1 : ∀ S i n, P S n → P (emp1 S i).1 (n + bInt (emp1 S i).2)) (h2 : ∀ S t n, P S n → P (setT S t zeroT) n) (S : StD) (l : List Int) (h : P S 0) : P (takeF S l).1 (takeF S l).2 := by
  unfold takeF
  split
  · have a := empL_cnt h1 l S 0 h
    have b := sweeps_cnt h1 h2 (live (empL S l).1 + 1) _ _ a
    rw [Int.zero_add] at b
    exact b
  · exact h
/- one slot -/
theorem emp1_cases (S : StD) (i : Int) : emp1 S i = (S, false) ∨ ∃ x, atI S.sl i = some x ∧ capNone x = false ∧ emp1 S i = (empS S i x.up, true) := by
  unfold emp1
  split
  · next x hx =>
    cases g : capNone x with
    | true => exact .inl (by simp)
    | false => exact .inr ⟨x, hx, g, by simp⟩
  · exact .inl rfl
theorem empS_get {S : StD} {i up : Int} {x : SlotD} (hx : atI S.sl i = some x) (k : Nat) : (empS S i up).sl[k]? = if i.toNat = k then some noneS else (S.sl[k]?).map (eUp i up) := by
  have h1 := (atI_to hx).1
  have hl := (List.getElem?_eq_some_iff.1 h1).1
  unfold empS
  simp only
  by_cases h : i.toNat = k
  · subst h
    rw [if_pos rfl, List.getElem?_set_self (by rw [List.length_map]; exact hl)]
  · rw [if_neg h, List.getElem?_set_ne h, List.getElem?_map]
theorem eUp_cap (i up : Int) (x : SlotD) : capNone (eUp i up x) = capNone x := by unfold eUp; split <;> rfl
end Go.Proofs.YtidmcpkbcphpiaaGreat
namespace Go.Hai
open Go

theorem kontK_al {call : CallF} {os : List AOper} {t : Tmps} {σ : AHeap} {Q : Kk} {d : Option Nat} {op : AOp} {v : Value} {L L' : List (List Value × Nat)} : kontK call op os t (σ.grow L) Q d v ((σ.grow L').setLow (σ.grow L).n) = if okLow σ = true then EndsK call os (setD t d v) (σ.grow L') (consK (kindOf op t (σ.grow L) true) Q) else kontKe call op os t (σ.grow L) Q d v ((σ.grow L').setLow (σ.grow L).n) := by
  split
  · next h =>
    rw [kontK_new (low_grow (Nat.le_of_ble_eq_true h) L) rfl]
    rfl
  · rfl
theorem o_allocS {σ : AHeap} {t : Tmps} {K : Kt} {z : List Value} {es m : Nat} {L : List (List Value × Nat)} : EndsO (aop ((σ.grow L).setLow m) t (.alloc z es)) K = K (here (σ.n + L.length) 0) ((σ.grow (L ++ [(z, es)])).setLow m) := o_alloc (σ := σ.setLow m)
theorem setLow_grown {σ : AHeap} {m : Nat} {L : List (List Value × Nat)} {b o n : Nat} : ((σ.grow L).setLow m).loadN b o n = (σ.grow L).loadN b o n := rfl
/- stores into rows that were just made -/
theorem stK_at {call : CallF} {os : List AOper} {t : Tmps} {σ : AHeap} {Q : Kk} {d : Option Nat} {n y o k : Nat} {z : Operand} {L : List (List Value × Nat)} {vs r : List Value} {e : Nat} (hlow : σ.low ≤ σ.n) (h : rowAt L k = some (r, e)) (hy : tget t y = here (σ.n + k) o) (hl : o + vs.length ≤ r.length) (hc : vs.all isCell = true) :
    heapQ (((σ.grow L).setLow (σ.grow L).n).storeN (σ.n + k) o vs) (kontK call (.store n (.tmp y) z) os t (σ.grow L) Q d) = EndsK call os (setD t d undef) (σ.grow (setRow L k (setAll r o vs, e))) (consK (.eff (some (σ.n + k))) Q) := by
  have h' : L[k]? = some (r, e) := by rw [← rowAt_eq]; exact h
  have hk : k < L.length := (List.getElem?_eq_some_iff.1 h').1
  have hg : (σ.grow L).t.get (σ.n + k) = some (rowOf (r, e)) := grow_new σ L k h'
  have hg' : ((σ.grow L).setLow (σ.grow L).n).t.get (σ.n + k) = some (rowOf (r, e)) := hg
  rw [st_gen, hg', rowSt_row, if_pos ⟨hl, hc⟩, kontK_sti, if_pos ⟨by rw [grow_low]; omega, inN_of (by rw [grow_n]; omega)⟩, hy, stKind_here, hg, rowKind_row]
  have e1 : (σ.grow L).putR (σ.n + k) (setAll r o vs) e = σ.grow (setRow L k (setAll r o vs, e)) := by
    rw [setRow_eq]
    unfold AHeap.putR AHeap.grow
    have := Tr.put_ins (rowOf (setAll r o vs, e)) (L.map rowOf) σ.t σ.n k (by simpa using hk)
    simp only [this, List.map_set, List.length_set]
  rw [e1]
def atP (v : Value) (b o : Nat) : Bool := match v with | .pointer (some ⟨c, p, none⟩) => Nat.beq b c && Nat.beq o p | _ => false
theorem atP_here {b o : Nat} : atP (here b o) b o = true := by simp [atP, here]
theorem atP_eq {v : Value} {b o : Nat} (h : atP v b o = true) : v = here b o := by
  unfold atP at h
  split at h
  · simp only [Bool.and_eq_true] at h
    rw [Nat.eq_of_beq_eq_true h.1, Nat.eq_of_beq_eq_true h.2]; rfl
  · cases h
theorem stK_0 {call : CallF} {os : List AOper} {t : Tmps} {σ : AHeap} {Q : Kk} {d : Option Nat} {n y o : Nat} {z : Operand} {L : List (List Value × Nat)} {vs r : List Value} {e : Nat} : heapQ (((σ.grow ((r, e) :: L)).setLow (σ.grow ((r, e) :: L)).n).storeN σ.n o vs) (kontK call (.store n (.tmp y) z) os t (σ.grow ((r, e) :: L)) Q d) =
    if okLow σ = true ∧ atP (tget t y) σ.n o = true ∧ o + vs.length ≤ r.length ∧ vs.all isCell = true then EndsK call os (setD t d undef) (σ.grow ((setAll r o vs, e) :: L)) (consK (.eff (some σ.n)) Q) else heapQ (((σ.grow ((r, e) :: L)).setLow (σ.grow ((r, e) :: L)).n).storeN σ.n o vs) (kontK call (.store n (.tmp y) z) os t (σ.grow ((r, e) :: L)) Q d) := by
  split
  · next h => exact stK_at (k := 0) (Nat.le_of_ble_eq_true h.1) rfl (atP_eq h.2.1) h.2.2.1 h.2.2.2
  · rfl
theorem stK_1 {call : CallF} {os : List AOper} {t : Tmps} {σ : AHeap} {Q : Kk} {d : Option Nat} {n y o : Nat} {z : Operand} {q : List Value × Nat} {L : List (List Value × Nat)} {vs r : List Value} {e : Nat} : heapQ (((σ.grow (q :: (r, e) :: L)).setLow (σ.grow (q :: (r, e) :: L)).n).storeN (σ.n + 1) o vs) (kontK call (.store n (.tmp y) z) os t (σ.grow (q :: (r, e) :: L)) Q d) =
    if okLow σ = true ∧ atP (tget t y) (σ.n + 1) o = true ∧ o + vs.length ≤ r.length ∧ vs.all isCell = true then EndsK call os (setD t d undef) (σ.grow (q :: (setAll r o vs, e) :: L)) (consK (.eff (some (σ.n + 1))) Q) else heapQ (((σ.grow (q :: (r, e) :: L)).setLow (σ.grow (q :: (r, e) :: L)).n).storeN (σ.n + 1) o vs) (kontK call (.store n (.tmp y) z) os t (σ.grow (q :: (r, e) :: L)) Q d) := by
  split
  · next h => exact stK_at (k := 1) (Nat.le_of_ble_eq_true h.1) rfl (atP_eq h.2.1) h.2.2.1 h.2.2.2
  · rfl
end Go.Hai
namespace Go.Hai
open Go

def kontX' := kontX
theorem kontX_putM {call : CallF} {os : List AOper} {t : Tmps} {τ : AHeap} {Q : Tmps → AHeap → Prop} {d : Option Nat} {v : Value} {b : Nat} {l : List Value} {e : Nat} : kontX call os t τ Q d v ((τ.setLow τ.n).putM b l e) =
    if inN b τ = true then EndsX call os (setD t d v) (τ.putM b l e) Q else kontX' call os t τ Q d v ((τ.setLow τ.n).putM b l e) := by
  split
  · next h =>
    have hb : b < τ.n := by simpa [inN, Nat.blt_eq] using h
    unfold kontX
    have e1 : ({ (τ.setLow τ.n).putM b l e with low := minN τ.low ((τ.setLow τ.n).putM b l e).low } : AHeap) = τ.putM b l e := by
      show AHeap.mk _ _ _ _ (minN τ.low (minN τ.n b)) = AHeap.mk _ _ _ _ (minN τ.low b)
      have : minN τ.low (minN τ.n b) = minN τ.low b := by simp only [minN_min]; omega
      rw [this]; rfl
    rw [e1]
  · rfl
theorem kontX_if {call : CallF} {os : List AOper} {t : Tmps} {σ : AHeap} {Q : Tmps → AHeap → Prop} {d : Option Nat} {v : Value} : kontX call os t σ Q d v (σ.setLow σ.n) = if okLow σ = true then EndsX call os (setD t d v) σ Q else kontX' call os t σ Q d v (σ.setLow σ.n) := by
  split
  · next h => exact kontX_ok (Nat.le_of_ble_eq_true h)
  · rfl
def updTo {α : Type} (g : α → α) (l : List α) (k : Nat) : List α := (l.take k).map g ++ l.drop k
section
variable {α : Type} {g : α → α} {l : List α} {k i : Nat} {y : α}
theorem updTo_length : (updTo g l k).length = l.length := by unfold updTo; rw [List.length_append, List.length_map, List.length_take, List.length_drop]; omega
theorem updTo_0 : updTo g l 0 = l := by simp [updTo]
theorem updTo_all (h : l.length ≤ k) : updTo g l k = l.map g := by unfold updTo; rw [List.take_of_length_le h, List.drop_eq_nil_of_le h]; simp
theorem updTo_get : (updTo g l k)[i]? = if i < k then (l[i]?).map g else l[i]? := by
  unfold updTo
  by_cases hi : i < k
  · rw [if_pos hi]
    by_cases hl : i < l.length
    · rw [List.getElem?_append_left (by rw [List.length_map, List.length_take]; omega), List.getElem?_map, List.getElem?_take_of_lt hi]
    · rw [List.getElem?_eq_none (by rw [List.length_append, List.length_map, List.length_take, List.length_drop]; omega), List.getElem?_eq_none (by omega)]; rfl
  · rw [if_neg hi]
    by_cases hl : k ≤ l.length
    · rw [List.getElem?_append_right (by rw [List.length_map, List.length_take]; omega), List.length_map, List.length_take, List.getElem?_drop]
      congr 1; omega
    · rw [List.getElem?_eq_none (by rw [List.length_append, List.length_map, List.length_take, List.length_drop]; omega), List.getElem?_eq_none (by omega)]
theorem updTo_set (hy : l[k]? = some y) : updTo g l (k + 1) = (updTo g l k).set k (g y) := by
  have hk := (List.getElem?_eq_some_iff.1 hy).1
  refine List.ext_getElem? fun i => ?_
  by_cases h : k = i
  · subst h
    rw [List.getElem?_set_self (by rw [updTo_length]; exact hk), updTo_get, if_pos (Nat.lt_succ_self _), hy]; rfl
  · rw [List.getElem?_set_ne h, updTo_get, updTo_get]
    by_cases hi : i < k
    · rw [if_pos hi, if_pos (by omega)]
    · rw [if_neg hi, if_neg (by omega)]
theorem updTo_same (hy : l[k]? = some y) (hg : g y = y) : updTo g l (k + 1) = updTo g l k := by
  rw [updTo_set hy, hg]
  refine List.ext_getElem? fun i => ?_
  by_cases h : k = i
  · subst h
    rw [List.getElem?_set_self (by rw [updTo_length]; exact (List.getElem?_eq_some_iff.1 hy).1), updTo_get, if_neg (Nat.lt_irrefl _), hy]
  · rw [List.getElem?_set_ne h]
end
theorem Wr.ret {W : Nat → Prop} {σ τ : AHeap} (h : Wr W σ.fresh τ) : Wr W σ (τ.setLow (minN σ.low τ.low)) := by
  refine ⟨h.n, h.dead, (minN_le _ _).1, h.row, fun b hb hl => ?_, fun m h1 h2 h3 => ?_⟩
  · have : b < minN σ.low τ.low := hl
    have := (minN_le σ.low τ.low).2
    exact h.far b hb (by omega)
  · have := h.bnd m h2 h2 h3
    show m ≤ minN σ.low τ.low
    rw [minN_min]; omega
/- a state's shape -/
structure Shp (S T : StD) : Prop where
  threads : T.threads = S.threads
  slots : T.slots = S.slots
  things : T.things = S.things
  sl : T.sl.length = S.sl.length
  th : T.th.length = S.th.length
theorem Shp.refl (S : StD) : Shp S S := ⟨rfl, rfl, rfl, rfl, rfl⟩
theorem Shp.trans {S T U : StD} (h : Shp S T) (h' : Shp T U) : Shp S U := ⟨h'.threads.trans h.threads, h'.slots.trans h.slots, h'.things.trans h.things, h'.sl.trans h.sl, h'.th.trans h.th⟩
theorem Shp.stV {S T : StD} (h : Shp S T) (a1 : Option Addr) (f1 : Nat) (a2 : Option Addr) (f2 : Nat) : Hai.stV T a1 f1 a2 f2 = Hai.stV S a1 f1 a2 f2 := by
  unfold Hai.stV stL; rw [h.threads, h.slots, h.things, h.sl, h.th]
/- two rows that hold a slice of slots and one of things -/
structure RowsAt (τ : AHeap) (c1 c2 : Nat) (S : StD) : Prop where
  sl : τ.t.get c1 = some (rowOf (flatL slotL S.sl, 5))
  th : τ.t.get c2 = some (rowOf (flatL thingL S.th, 13))
def two (c1 c2 b : Nat) : Prop := b = c1 ∨ b = c2
theorem RowsAt.s {τ : AHeap} {c1 c2 : Nat} {S : StD} (h : RowsAt τ c1 c2 S) (hc : c1 < τ.n) : SlAt slotL 5 τ c1 S.sl := SlAt_row (cells := slotL) (es := 5) (fun _ => rfl) hc h.sl
theorem RowsAt.t {τ : AHeap} {c1 c2 : Nat} {S : StD} (h : RowsAt τ c1 c2 S) (hc : c2 < τ.n) : SlAt thingL 13 τ c2 S.th := SlAt_row (cells := thingL) (es := 13) (fun _ => rfl) hc h.th
theorem RowsAt.keeps {σ τ : AHeap} {c1 c2 : Nat} {S : StD} (h : RowsAt σ c1 c2 S) (k : Keeps σ τ) (h1 : c1 < σ.n) (h2 : c2 < σ.n) : RowsAt τ c1 c2 S := ⟨(k.row _ h1).trans h.sl, (k.row _ h2).trans h.th⟩
end Go.Hai
namespace Go.Proofs.YtidmcpkbcphpiaaGreat
open Go Go.Hai
set_option maxRecDepth 20000
set_option linter.unusedSimpArgs false
set_option maxHeartbeats 8000000
attribute [local irreducible] Hai.Ends EndsR EndsO EndsD EndsX EndsE EndsK AHeap.grow AHeap.putR AHeap.putM okLow inN
def r0_take_empty : List AOper := [(.mk (some 2) none (.box 5 (.tmp 0))), (.mk (some 4) none (.mv (.const (.bool false))))]
def r1_take_empty : List AOper := [(.mk (some 7) none (.mv (.tmp 1))), (.mk (some 8) none (.bin .lss (.tmp 7) (.const (.int .i64 0)))), (.mk (some 9) none (.mv (.tmp 8))), (.mk (some 10) (some (9, false)) (.mv (.tmp 1))), (.mk (some 11) (some (9, false)) (.fldA 3 (.tmp 2))), (.mk (some 12) (some (9, false)) (.load false 1 (.tmp 11))), (.mk (some 13) (some (9, false)) (.lenS (.tmp 12))), (.mk (some 14) (some (9, false)) (.bin .geq (.tmp 10) (.tmp 13))), (.mk (some 15) none (.pick (.tmp 9) (.const (.bool true)) (.tmp 14))), (.mk (some 16) none (.mv (.tmp 15))), (.mk (some 17) (some (16, false)) (.fldA 3 (.tmp 2))), (.mk (some 18) (some (16, false)) (.load false 1 (.tmp 17))), (.mk (some 19) (some (16, false)) (.mv (.tmp 1))), (.mk (some 20) (some (16, false)) (.idxA 5 (.tmp 18) (.tmp 19))), (.mk (some 21) (some (16, false)) (.fldA 0 (.tmp 20))), (.mk (some 22) (some (16, false)) (.load true 4 (.tmp 21))), (.mk (some 23) (some (16, false)) (.call 38 [(.tmp 22)])), (.mk (some 24) none (.pick (.tmp 16) (.const (.bool true)) (.tmp 23)))]
def r2_take_empty : List AOper := [(.mk (some 4) none (.mv (.const (.bool false))))]
def k1_take_empty : ACode := (.cond (.tmp 24) (.seq (.reg r2_take_empty) .ret) .skip)
def r3_take_empty : List AOper := [(.mk (some 25) none (.fldA 3 (.tmp 2))), (.mk (some 26) none (.load false 1 (.tmp 25))), (.mk (some 27) none (.lenS (.tmp 26))), (.mk (some 28) none (.mv (.const (.int .i64 0))))]
def r4_take_empty : List AOper := [(.mk (some 29) none (.bin .lss (.tmp 28) (.tmp 27)))]
def r5_take_empty : List AOper := [(.mk (some 30) none (.mv (.tmp 28))), (.mk (some 5) none (.mv (.tmp 30)))]
def r6_take_empty : List AOper := [(.mk (some 31) none (.fldA 3 (.tmp 2))), (.mk (some 32) none (.load false 1 (.tmp 31))), (.mk (some 33) none (.mv (.tmp 5))), (.mk (some 34) none (.idxA 5 (.tmp 32) (.tmp 33))), (.mk (some 35) none (.fldA 4 (.tmp 34))), (.mk (some 36) none (.load false 1 (.tmp 35))), (.mk (some 37) none (.mv (.tmp 1))), (.mk (some 38) none (.bin .eql (.tmp 36) (.tmp 37)))]
def r7_take_empty : List AOper := [(.mk (some 39) none (.fldA 3 (.tmp 2))), (.mk (some 40) none (.load false 1 (.tmp 39))), (.mk (some 41) none (.mv (.tmp 5))), (.mk (some 42) none (.fldA 3 (.tmp 2))), (.mk (some 43) none (.load false 1 (.tmp 42))), (.mk (some 44) none (.mv (.tmp 1))), (.mk (some 45) none (.idxA 5 (.tmp 43) (.tmp 44))), (.mk (some 46) none (.fldA 4 (.tmp 45))), (.mk (some 47) none (.load false 1 (.tmp 46))), (.mk (some 48) none (.idxA 5 (.tmp 40) (.tmp 41))), (.mk (some 49) none (.fldA 4 (.tmp 48))), (.mk none none (.store 1 (.tmp 49) (.tmp 47)))]
def k7_take_empty : ACode := (.cond (.tmp 38) (.drw r7_take_empty [0, 1, 0, 0, 8, 0, 56, 120, 248, 511, 1023, 2047]) .skip)
def k6_take_empty : ACode := (.seq (.reg r6_take_empty) k7_take_empty)
def r8_take_empty : List AOper := [(.mk (some 50) none (.bin .add (.tmp 28) (.const (.int .i64 1)))), (.mk (some 28) none (.mv (.tmp 50)))]
def k8_take_empty : ACode := (.reg r8_take_empty)
def k5_take_empty : ACode := (.seq (.block 1 (.seq (.reg r5_take_empty) k6_take_empty)) k8_take_empty)
def k4_take_empty : ACode := (.seq (.cond (.tmp 29) .skip (.exit 0)) k5_take_empty)
def b0_take_empty : ACode := (.seq (.reg r4_take_empty) k4_take_empty)
def k3_take_empty : ACode := (.block 0 (.loop b0_take_empty))
def r9_take_empty : List AOper := [(.mk (some 51) none (.fldA 3 (.tmp 2))), (.mk (some 52) none (.load false 1 (.tmp 51))), (.mk (some 53) none (.mv (.tmp 1))), (.mk (some 54) none (.build [(.int .i64 0), (.int .i64 0), (.int .i64 0), (.int .i64 0), (.int .i64 0)] [(4, (1, (.const (.int .i64 (-1)))))])), (.mk (some 55) none (.idxA 5 (.tmp 52) (.tmp 53))), (.mk none none (.store 5 (.tmp 55) (.tmp 54)))]
def r10_take_empty : List AOper := [(.mk (some 56) none (.fldA 4 (.tmp 2))), (.mk (some 57) none (.load false 1 (.tmp 56))), (.mk (some 58) none (.lenS (.tmp 57))), (.mk (some 59) none (.mv (.const (.int .i64 0))))]
def r11_take_empty : List AOper := [(.mk (some 60) none (.bin .lss (.tmp 59) (.tmp 58)))]
def r12_take_empty : List AOper := [(.mk (some 61) none (.mv (.tmp 59))), (.mk (some 6) none (.mv (.tmp 61)))]
def r13_take_empty : List AOper := [(.mk (some 62) none (.fldA 4 (.tmp 2))), (.mk (some 63) none (.load false 1 (.tmp 62))), (.mk (some 64) none (.mv (.tmp 6))), (.mk (some 65) none (.idxA 13 (.tmp 63) (.tmp 64))), (.mk (some 66) none (.fldA 5 (.tmp 65))), (.mk (some 67) none (.load false 1 (.tmp 66))), (.mk (some 68) none (.mv (.tmp 1))), (.mk (some 69) none (.bin .add (.tmp 68) (.const (.int .i64 1)))), (.mk (some 70) none (.bin .eql (.tmp 67) (.tmp 69)))]
def r14_take_empty : List AOper := [(.mk (some 71) none (.fldA 4 (.tmp 2))), (.mk (some 72) none (.load false 1 (.tmp 71))), (.mk (some 73) none (.mv (.tmp 6))), (.mk (some 74) none (.idxA 13 (.tmp 72) (.tmp 73))), (.mk (some 75) none (.fldA 5 (.tmp 74))), (.mk none none (.store 1 (.tmp 75) (.const (.int .i64 0))))]
def k15_take_empty : ACode := (.cond (.tmp 70) (.reg r14_take_empty) .skip)
def k14_take_empty : ACode := (.seq (.reg r13_take_empty) k15_take_empty)
def r15_take_empty : List AOper := [(.mk (some 76) none (.bin .add (.tmp 59) (.const (.int .i64 1)))), (.mk (some 59) none (.mv (.tmp 76)))]
def k16_take_empty : ACode := (.reg r15_take_empty)
def k13_take_empty : ACode := (.seq (.block 3 (.seq (.reg r12_take_empty) k14_take_empty)) k16_take_empty)
def k12_take_empty : ACode := (.seq (.cond (.tmp 60) .skip (.exit 2)) k13_take_empty)
def b1_take_empty : ACode := (.seq (.reg r11_take_empty) k12_take_empty)
def k11_take_empty : ACode := (.block 2 (.loop b1_take_empty))
def r16_take_empty : List AOper := [(.mk (some 4) none (.mv (.const (.bool true))))]
def k17_take_empty : ACode := (.seq (.reg r16_take_empty) .ret)
def k10_take_empty : ACode := (.seq (.seq (.reg r10_take_empty) k11_take_empty) k17_take_empty)
def k9_take_empty : ACode := (.seq (.reg r9_take_empty) k10_take_empty)
def k2_take_empty : ACode := (.seq (.seq (.reg r3_take_empty) k3_take_empty) k9_take_empty)
def k0_take_empty : ACode := (.seq (.seq (.reg r1_take_empty) k1_take_empty) k2_take_empty)
def c_take_empty : ACode := (.seq (.reg r0_take_empty) k0_take_empty)
theorem e_take_empty : ofProg Tryz.prog 98 = some ⟨77, [(.tmp 4)], c_take_empty⟩ := by kernel_rfl

theorem eUp_self (i : Int) (x : SlotD) : eUp i x.up x = x := by unfold eUp; split <;> rfl
theorem take_empty_ok (d : Nat) (σ : AHeap) (S : StD) (c1 f1 c2 f2 : Nat) (i : Int) (hlo : σ.low ≤ σ.n) (h1 : c1 < σ.n) (h2 : c2 < σ.n) (hne : c1 ≠ c2) (hr : RowsAt σ c1 c2 S) (hn : S.sl.length < 1000) (hm : S.th.length < 1000) :
    ∃ τ, acall (ofProg Tryz.prog) 1000 (d + 2) 98 [stV S (some ⟨c1, 0, none⟩) f1 (some ⟨c2, 0, none⟩) f2, .int .i64 i] σ = some (.bool (emp1 S i).2, τ) ∧ RowsAt τ c1 c2 (emp1 S i).1 ∧ Wr (two c1 c2) σ τ := by
  have g1 : SlAt slotL 5 σ.fresh c1 S.sl := hr.s h1
  rcases emp1_cases S i with hE | ⟨x, hx, hcx, hE⟩
  · rw [hE]
    refine ⟨σ, ?_, hr, Wr.refl _ _⟩
    refine acall_flat e_take_empty (by simp) rfl ?_
    by_cases c1' : i < 0
    · simp (disch := omega) only [c1', r0_take_empty, r1_take_empty, r2_take_empty, k1_take_empty, r3_take_empty, r4_take_empty, r5_take_empty, r6_take_empty, r7_take_empty, k7_take_empty, k6_take_empty, r8_take_empty, k8_take_empty, k5_take_empty, k4_take_empty, k3_take_empty, r9_take_empty, r10_take_empty, r11_take_empty, r12_take_empty, r13_take_empty, r14_take_empty, k15_take_empty, k14_take_empty, r15_take_empty, k16_take_empty, k13_take_empty, k12_take_empty, k11_take_empty, r16_take_empty, k17_take_empty, k10_take_empty, k9_take_empty, k2_take_empty, k0_take_empty, c_take_empty, Z0, Z1, Z2, Z3, Z4, Z5, Z6, Z7, Z8, Z9, Z10, resAll, Nat.reduceAdd, Nat.reduceEqDiff, Nat.reduceLeDiff, Nat.reduceMul, ↓reduceIte, reduceCtorEq, Nat.reduceBEq, aoper, Nat.reduceLT, Int.reduceEq, Int.reduceLT, Int.reduceLE]
    · by_cases c2' : (S.sl.length : Int) ≤ i
      · simp (disch := omega) only [c1', c2', r0_take_empty, r1_take_empty, r2_take_empty, k1_take_empty, r3_take_empty, r4_take_empty, r5_take_empty, r6_take_empty, r7_take_empty, k7_take_empty, k6_take_empty, r8_take_empty, k8_take_empty, k5_take_empty, k4_take_empty, k3_take_empty, r9_take_empty, r10_take_empty, r11_take_empty, r12_take_empty, r13_take_empty, r14_take_empty, k15_take_empty, k14_take_empty, r15_take_empty, k16_take_empty, k13_take_empty, k12_take_empty, k11_take_empty, r16_take_empty, k17_take_empty, k10_take_empty, k9_take_empty, k2_take_empty, k0_take_empty, c_take_empty, Z0, Z1, Z2, Z3, Z4, Z5, Z6, Z7, Z8, Z9, Z10, resAll, Nat.reduceAdd, Nat.reduceEqDiff, Nat.reduceLeDiff, Nat.reduceMul, ↓reduceIte, reduceCtorEq, Nat.reduceBEq, aoper, Nat.reduceLT, Int.reduceEq, Int.reduceLT, Int.reduceLE]
      · obtain ⟨x, e1, e2⟩ := atI_some (l := S.sl) (z := i) (by omega) (by omega)
        have hc : capNone x = true := by
          cases h : capNone x with
          | true => rfl
          | false => simp [emp1, e1, h] at hE
        have hl : ∀ L, (σ.fresh.grow L).loadN c1 (i.toNat * 5) 4 = some (capL x) := fun L => by
          rw [load_old _ _ _ _ g1.1]; exact g1.2 _ _ e2 0 4 (by omega)
        have q1 : 0 ≤ i := by omega
        have q2 : i < (S.sl.length : Int) := by omega
        simp (disch := omega) only [c1', c2', q1, q2, hl, cap_None_ok, hc, r0_take_empty, r1_take_empty, r2_take_empty, k1_take_empty, r3_take_empty, r4_take_empty, r5_take_empty, r6_take_empty, r7_take_empty, k7_take_empty, k6_take_empty, r8_take_empty, k8_take_empty, k5_take_empty, k4_take_empty, k3_take_empty, r9_take_empty, r10_take_empty, r11_take_empty, r12_take_empty, r13_take_empty, r14_take_empty, k15_take_empty, k14_take_empty, r15_take_empty, k16_take_empty, k13_take_empty, k12_take_empty, k11_take_empty, r16_take_empty, k17_take_empty, k10_take_empty, k9_take_empty, k2_take_empty, k0_take_empty, c_take_empty, Z0, Z1, Z2, Z3, Z4, Z5, Z6, Z7, Z8, Z9, Z10, resAll, Nat.reduceAdd, Nat.reduceEqDiff, Nat.reduceLeDiff, Nat.reduceMul, ↓reduceIte, reduceCtorEq, Nat.reduceBEq, aoper, Nat.reduceLT, Int.reduceEq, Int.reduceLT, Int.reduceLE]
  · rw [hE]
    obtain ⟨hx1, hx0⟩ := atI_to hx
    have hi := (List.getElem?_eq_some_iff.1 hx1).1
    suffices hs : Hai.Ends (acode (acall (ofProg Tryz.prog) 1000 (d + 1)) 1000 c_take_empty (Tr.of [stV S (some ⟨c1, 0, none⟩) f1 (some ⟨c2, 0, none⟩) f2, .int .i64 i]) (σ.fresh.grow []))
        (finE [.tmp 4] fun v τ => v = .bool true ∧ RowsAt τ c1 c2 (empS S i x.up) ∧ Wr (two c1 c2) σ.fresh τ) by
      obtain ⟨v, τ', e, τ, ⟨rfl, q1, q2⟩, q⟩ := acall_eff e_take_empty (by simp) hs
      rcases q with ⟨ql, _, rfl⟩ | rfl
      · exact ⟨_, e, ⟨(q2.same ql h1).symm.trans q1.sl, (q2.same ql h2).symm.trans q1.th⟩, Wr.refl _ _⟩
      · exact ⟨_, e, ⟨q1.sl, q1.th⟩, q2.ret⟩
    have hl : ∀ L, (σ.fresh.grow L).loadN c1 (i.toNat * 5) 4 = some (capL x) := fun L => by
      rw [load_old _ _ _ _ g1.1]; exact g1.2 _ _ hx1 0 4 (by omega)
    have q1 : ¬ i < 0 := by omega
    have q2 : ¬ (S.sl.length : Int) ≤ i := by omega
    have q3 : i < (S.sl.length : Int) := by omega
    have hk0 := Keeps.self σ.fresh [(stL S (some ⟨c1, 0, none⟩) f1 (some ⟨c2, 0, none⟩) f2, 5)]
    simp (disch := omega) only [q1, q2, q3, hx0, hl, cap_None_ok, hcx, r0_take_empty, r1_take_empty, r2_take_empty, k1_take_empty, r3_take_empty, r4_take_empty, r5_take_empty, r6_take_empty, r7_take_empty, k7_take_empty, k6_take_empty, r8_take_empty, k8_take_empty, k5_take_empty, k4_take_empty, k3_take_empty, r9_take_empty, r10_take_empty, r11_take_empty, r12_take_empty, r13_take_empty, r14_take_empty, k15_take_empty, k14_take_empty, r15_take_empty, k16_take_empty, k13_take_empty, k12_take_empty, k11_take_empty, r16_take_empty, k17_take_empty, k10_take_empty, k9_take_empty, k2_take_empty, k0_take_empty, c_take_empty, Z0, Z1, Z2, Z3, Z4, Z5, Z6, Z7, Z8, Z9, Z10, resAll, Nat.reduceAdd, Nat.reduceEqDiff, Nat.reduceLeDiff, Nat.reduceMul, ↓reduceIte, reduceCtorEq, Nat.reduceBEq, aoper, Nat.reduceLT, Int.reduceEq, Int.reduceLT, Int.reduceLE]
    refine ends_loop (fun k t τ => tget t 27 = i64 S.sl.length ∧ tget t 28 = i64 k ∧ tget t 2 = here σ.fresh.n 0 ∧ tget t 1 = i64 i ∧ Wr (two c1 c2) (σ.fresh.grow [(stL S (some ⟨c1, 0, none⟩) f1 (some ⟨c2, 0, none⟩) f2, 5)]) τ ∧
        τ.t.get c1 = some (rowOf (flatL slotL (updTo (eUp i x.up) S.sl k), 5)) ∧ τ.t.get c2 = some (rowOf (flatL thingL S.th, 13))) S.sl.length hn ⟨?_, ?_, ?_, ?_, Wr.refl _ _, ?_, ?_⟩ ?_
    iterate 4 simp (disch := omega) only [Int.natCast_zero, Int.ofNat_zero, r0_take_empty, r1_take_empty, r2_take_empty, k1_take_empty, r3_take_empty, r4_take_empty, r5_take_empty, r6_take_empty, r7_take_empty, k7_take_empty, k6_take_empty, r8_take_empty, k8_take_empty, k5_take_empty, k4_take_empty, k3_take_empty, r9_take_empty, r10_take_empty, r11_take_empty, r12_take_empty, r13_take_empty, r14_take_empty, k15_take_empty, k14_take_empty, r15_take_empty, k16_take_empty, k13_take_empty, k12_take_empty, k11_take_empty, r16_take_empty, k17_take_empty, k10_take_empty, k9_take_empty, k2_take_empty, k0_take_empty, c_take_empty, Z0, Z1, Z2, Z3, Z4, Z5, Z6, Z7, Z8, Z9, Z10, resAll, Nat.reduceAdd, Nat.reduceEqDiff, Nat.reduceLeDiff, Nat.reduceMul, ↓reduceIte, reduceCtorEq, Nat.reduceBEq, aoper, Nat.reduceLT, Int.reduceEq, Int.reduceLT, Int.reduceLE]
    · rw [updTo_0]; exact (hk0.row c1 h1).trans hr.sl
    · exact (hk0.row c2 h2).trans hr.th
    rintro k t τ hk ⟨t27, t28, t2, t1, hw, w1, w2⟩
    rw [← grow_nil τ]
    have hlow : τ.low ≤ τ.n := by have := hw.low; have := hw.n; rw [grow_n] at this; rw [grow_low] at *; exact Nat.le_trans ‹τ.low ≤ _› (by show σ.n ≤ τ.n; have : σ.fresh.n = σ.n := rfl; omega)
    have hnn : σ.n + 1 ≤ τ.n := by have := hw.n; rw [grow_n] at this; exact this
    have hbox : ∀ M o n, (τ.grow M).loadN σ.fresh.n o n = sliceL (stL S (some ⟨c1, 0, none⟩) f1 (some ⟨c2, 0, none⟩) f2) o n := fun M o n => by
      rw [(hw.grow M).load o n (by rw [grow_n]; simp) (by rintro (e | e) <;> (have : σ.fresh.n = σ.n := rfl; omega)), ld_0]
    by_cases hlt : k < S.sl.length
    · have hy : S.sl[k]? = some S.sl[k] := List.getElem?_eq_getElem hlt
      generalize S.sl[k] = y at hy
      have hlt' : (k : Int) < (S.sl.length : Int) := by omega
      have hcast : ((k + 1 : Nat) : Int) = (k : Int) + 1 := by omega
      have hyk : (updTo (eUp i x.up) S.sl k)[k]? = some y := by rw [updTo_get, if_neg (Nat.lt_irrefl _), hy]
      have hxk : (updTo (eUp i x.up) S.sl k)[i.toNat]? = some x := by
        rw [updTo_get, hx1]
        split
        · show some (eUp i x.up x) = _; rw [eUp_self]
        · rfl
      have w1' : ∀ M, (τ.grow M).t.get c1 = some (rowOf (flatL slotL (updTo (eUp i x.up) S.sl k), 5)) := fun M => (grow_old _ _ (by omega)).trans w1
      have hk4 : ∀ M, (τ.grow M).loadN c1 (k * 5 + 4) 1 = some [i64 y.up] := fun M => by rw [load_sl (w1' M)]; exact flatL_cut (cells := slotL) (es := 5) (fun _ => rfl) hyk (by omega)
      have hi4 : ∀ M, (τ.grow M).loadN c1 (i.toNat * 5 + 4) 1 = some [i64 x.up] := fun M => by rw [load_sl (w1' M)]; exact flatL_cut (cells := slotL) (es := 5) (fun _ => rfl) hxk (by omega)
      by_cases hyi : y.up = i
      · have hset : setAll (flatL slotL (updTo (eUp i x.up) S.sl k)) (k * 5 + 4) [i64 x.up] = flatL slotL (updTo (eUp i x.up) S.sl (k + 1)) := by
          rw [updTo_set hy]
          refine flatL_put (es := 5) (fun _ => rfl) hyk (by simp) ?_
          unfold eUp; rw [if_pos hyi]; rfl
        have hlen : k * 5 + 4 + 1 ≤ (flatL slotL (updTo (eUp i x.up) S.sl k)).length := by rw [flatL_length (es := 5) (fun _ => rfl), updTo_length]; omega
        simp (disch := omega) only [t27, t28, t2, t1, hlt', hbox, Int.toNat_natCast, hk4, eq_true hyi, r0_take_empty, r1_take_empty, r2_take_empty, k1_take_empty, r3_take_empty, r4_take_empty, r5_take_empty, r6_take_empty, r7_take_empty, k7_take_empty, k6_take_empty, r8_take_empty, k8_take_empty, k5_take_empty, k4_take_empty, k3_take_empty, r9_take_empty, r10_take_empty, r11_take_empty, r12_take_empty, r13_take_empty, r14_take_empty, k15_take_empty, k14_take_empty, r15_take_empty, k16_take_empty, k13_take_empty, k12_take_empty, k11_take_empty, r16_take_empty, k17_take_empty, k10_take_empty, k9_take_empty, k2_take_empty, k0_take_empty, b0_take_empty, Z0, Z1, Z2, Z3, Z4, Z5, Z6, Z7, Z8, Z9, Z10, resAll, Nat.reduceAdd, Nat.reduceEqDiff, Nat.reduceLeDiff, Nat.reduceMul, ↓reduceIte, reduceCtorEq, Nat.reduceBEq, aoper, Nat.reduceLT, Int.reduceEq, Int.reduceLT, Int.reduceLE]
        rw [ends_drw0 (by kernel_rfl)]
        have o1 : okLow (τ.grow []) = true := okLow_of (low_grow hlow _)
        have o2 : inN c1 (τ.grow []) = true := inN_of (by rw [grow_n]; omega)
        simp (disch := omega) only [t27, t28, t2, t1, hlt', hbox, Int.toNat_natCast, hk4, hi4, x_1, x_nil, kontX_if, kontX_putM, o1, o2, setLow_load, setLow_get, st_gen, rowSt_row, w1', hlen, hset, hx0, q3, r0_take_empty, r1_take_empty, r2_take_empty, k1_take_empty, r3_take_empty, r4_take_empty, r5_take_empty, r6_take_empty, r7_take_empty, k7_take_empty, k6_take_empty, r8_take_empty, k8_take_empty, k5_take_empty, k4_take_empty, k3_take_empty, r9_take_empty, r10_take_empty, r11_take_empty, r12_take_empty, r13_take_empty, r14_take_empty, k15_take_empty, k14_take_empty, r15_take_empty, k16_take_empty, k13_take_empty, k12_take_empty, k11_take_empty, r16_take_empty, k17_take_empty, k10_take_empty, k9_take_empty, k2_take_empty, k0_take_empty, b0_take_empty, Z0, Z1, Z2, Z3, Z4, Z5, Z6, Z7, Z8, Z9, Z10, resAll, Nat.reduceAdd, Nat.reduceEqDiff, Nat.reduceLeDiff, Nat.reduceMul, ↓reduceIte, reduceCtorEq, Nat.reduceBEq, aoper, Nat.reduceLT, Int.reduceEq, Int.reduceLT, Int.reduceLE]
        exact ⟨hlt, by rw [hcast], (hw.grow _).trans (putM_wr (.inl rfl)), putM_get, (putM_far (fun e => hne e.symm)).trans ((grow_old _ _ (by omega)).trans w2)⟩
      · have hsame := updTo_same (g := eUp i x.up) hy (by unfold eUp; rw [if_neg hyi])
        simp (disch := omega) only [t27, t28, t2, t1, hlt', hbox, Int.toNat_natCast, hk4, hyi, hlt, hcast, hsame, w1', w2, r0_take_empty, r1_take_empty, r2_take_empty, k1_take_empty, r3_take_empty, r4_take_empty, r5_take_empty, r6_take_empty, r7_take_empty, k7_take_empty, k6_take_empty, r8_take_empty, k8_take_empty, k5_take_empty, k4_take_empty, k3_take_empty, r9_take_empty, r10_take_empty, r11_take_empty, r12_take_empty, r13_take_empty, r14_take_empty, k15_take_empty, k14_take_empty, r15_take_empty, k16_take_empty, k13_take_empty, k12_take_empty, k11_take_empty, r16_take_empty, k17_take_empty, k10_take_empty, k9_take_empty, k2_take_empty, k0_take_empty, b0_take_empty, Z0, Z1, Z2, Z3, Z4, Z5, Z6, Z7, Z8, Z9, Z10, resAll, Nat.reduceAdd, Nat.reduceEqDiff, Nat.reduceLeDiff, Nat.reduceMul, ↓reduceIte, reduceCtorEq, Nat.reduceBEq, aoper, Nat.reduceLT, Int.reduceEq, Int.reduceLT, Int.reduceLE]
        exact ⟨hw.grow _, (grow_old _ _ (by omega)).trans w2⟩
    · have hlt' : ¬ (k : Int) < (S.sl.length : Int) := by omega
      rw [updTo_all (by omega)] at w1
      have w1' : ∀ M, (τ.grow M).t.get c1 = some (rowOf (flatL slotL (S.sl.map (eUp i x.up)), 5)) := fun M => (grow_old _ _ (by omega)).trans w1
      have hset : setAll (flatL slotL (S.sl.map (eUp i x.up))) (i.toNat * 5) [.int .i64 0, .int .i64 0, .int .i64 0, .int .i64 0, .int .i64 (-1)] = flatL slotL ((S.sl.map (eUp i x.up)).set i.toNat noneS) := flatL_set (cells := slotL) (es := 5) (fun _ => rfl) noneS _ _ (by rw [List.length_map]; exact hi)
      have hlen : i.toNat * 5 + 5 ≤ (flatL slotL (S.sl.map (eUp i x.up))).length := by rw [flatL_length (es := 5) (fun _ => rfl), List.length_map]; omega
      simp (disch := omega) only [t27, t28, t2, t1, hlt', hbox, Int.toNat_natCast, hx0, q3, st_gen, rowSt_row, w1', hlen, hset, r0_take_empty, r1_take_empty, r2_take_empty, k1_take_empty, r3_take_empty, r4_take_empty, r5_take_empty, r6_take_empty, r7_take_empty, k7_take_empty, k6_take_empty, r8_take_empty, k8_take_empty, k5_take_empty, k4_take_empty, k3_take_empty, r9_take_empty, r10_take_empty, r11_take_empty, r12_take_empty, r13_take_empty, r14_take_empty, k15_take_empty, k14_take_empty, r15_take_empty, k16_take_empty, k13_take_empty, k12_take_empty, k11_take_empty, r16_take_empty, k17_take_empty, k10_take_empty, k9_take_empty, k2_take_empty, k0_take_empty, b0_take_empty, Z0, Z1, Z2, Z3, Z4, Z5, Z6, Z7, Z8, Z9, Z10, resAll, Nat.reduceAdd, Nat.reduceEqDiff, Nat.reduceLeDiff, Nat.reduceMul, ↓reduceIte, reduceCtorEq, Nat.reduceBEq, aoper, Nat.reduceLT, Int.reduceEq, Int.reduceLT, Int.reduceLE]
      generalize hS2 : (S.sl.map (eUp i x.up)).set i.toNat noneS = sl2 at hset
      have v1 : ((τ.grow []).putM c1 (flatL slotL sl2) 5).t.get c1 = some (rowOf (flatL slotL sl2, 5)) := putM_get
      have v2 : ((τ.grow []).putM c1 (flatL slotL sl2) 5).t.get c2 = some (rowOf (flatL thingL S.th, 13)) := (putM_far (fun e => hne e.symm)).trans ((grow_old _ _ (by omega)).trans w2)
      have hw2 := (hw.grow []).trans (putM_wr (W := two c1 c2) (τ := τ.grow []) (b := c1) (l := flatL slotL sl2) (e := 5) (.inl rfl))
      have hn2 : τ.n ≤ ((τ.grow []).putM c1 (flatL slotL sl2) 5).n := by rw [putM_n, grow_n]; omega
      generalize hτ2 : (τ.grow []).putM c1 (flatL slotL sl2) 5 = τ2 at *
      have hlow2 : τ2.low ≤ τ2.n := by have := hw2.low; rw [grow_low] at this; exact Nat.le_trans this (by have : σ.fresh.low = σ.n := rfl; omega)
      have hbox2 : ∀ M o n, (τ2.grow M).loadN σ.fresh.n o n = sliceL (stL S (some ⟨c1, 0, none⟩) f1 (some ⟨c2, 0, none⟩) f2) o n := fun M o n => by
        rw [(hw2.grow M).load o n (by rw [grow_n]; simp) (by rintro (e | e) <;> (have : σ.fresh.n = σ.n := rfl; omega)), ld_0]
      rw [← grow_nil τ2]
      simp (disch := omega) only [hbox2, t2, r0_take_empty, r1_take_empty, r2_take_empty, k1_take_empty, r3_take_empty, r4_take_empty, r5_take_empty, r6_take_empty, r7_take_empty, k7_take_empty, k6_take_empty, r8_take_empty, k8_take_empty, k5_take_empty, k4_take_empty, k3_take_empty, r9_take_empty, r10_take_empty, r11_take_empty, r12_take_empty, r13_take_empty, r14_take_empty, k15_take_empty, k14_take_empty, r15_take_empty, k16_take_empty, k13_take_empty, k12_take_empty, k11_take_empty, r16_take_empty, k17_take_empty, k10_take_empty, k9_take_empty, k2_take_empty, k0_take_empty, Z0, Z1, Z2, Z3, Z4, Z5, Z6, Z7, Z8, Z9, Z10, resAll, Nat.reduceAdd, Nat.reduceEqDiff, Nat.reduceLeDiff, Nat.reduceMul, ↓reduceIte, reduceCtorEq, Nat.reduceBEq, aoper, Nat.reduceLT, Int.reduceEq, Int.reduceLT, Int.reduceLE]
      have hi1 : i < 1000 := by omega
      have hcx1 : -9223372036854775808 ≤ i + 1 := by omega
      have hcx2 : i + 1 ≤ 9223372036854775807 := by omega
      refine ends_loop (fun k t τ => tget t 58 = i64 S.th.length ∧ tget t 59 = i64 k ∧ tget t 2 = here σ.fresh.n 0 ∧ tget t 1 = i64 i ∧ Wr (two c1 c2) (σ.fresh.grow [(stL S (some ⟨c1, 0, none⟩) f1 (some ⟨c2, 0, none⟩) f2, 5)]) τ ∧
        τ.t.get c1 = some (rowOf (flatL slotL sl2, 5)) ∧ τ.t.get c2 = some (rowOf (flatL thingL (updTo (eFrm i) S.th k), 13))) S.th.length hm ⟨?_, ?_, ?_, ?_, hw2.grow _, ?_, ?_⟩ ?_
      iterate 4 simp (disch := omega) only [t1, t2, Int.natCast_zero, Int.ofNat_zero, r0_take_empty, r1_take_empty, r2_take_empty, k1_take_empty, r3_take_empty, r4_take_empty, r5_take_empty, r6_take_empty, r7_take_empty, k7_take_empty, k6_take_empty, r8_take_empty, k8_take_empty, k5_take_empty, k4_take_empty, k3_take_empty, r9_take_empty, r10_take_empty, r11_take_empty, r12_take_empty, r13_take_empty, r14_take_empty, k15_take_empty, k14_take_empty, r15_take_empty, k16_take_empty, k13_take_empty, k12_take_empty, k11_take_empty, r16_take_empty, k17_take_empty, k10_take_empty, k9_take_empty, k2_take_empty, k0_take_empty, Z0, Z1, Z2, Z3, Z4, Z5, Z6, Z7, Z8, Z9, Z10, resAll, Nat.reduceAdd, Nat.reduceEqDiff, Nat.reduceLeDiff, Nat.reduceMul, ↓reduceIte, reduceCtorEq, Nat.reduceBEq, aoper, Nat.reduceLT, Int.reduceEq, Int.reduceLT, Int.reduceLE]
      · exact (grow_old _ _ (by omega)).trans v1
      · rw [updTo_0]; exact (grow_old _ _ (by omega)).trans v2
      clear hτ2 hlow2 hbox2 hw2 v1 v2 hn2 w1' w1 w2 hset hlen hlow hnn hbox hw t27 t28 t2 t1 hlt hlt' hk τ2 τ t k
      rintro k t τ hk ⟨t58, t59, t2, t1, hw, w1, w2⟩
      rw [← grow_nil τ]
      have hnn : σ.n + 1 ≤ τ.n := by have := hw.n; rw [grow_n] at this; exact this
      have hlow : τ.low ≤ τ.n := by have := hw.low; rw [grow_low] at this; exact Nat.le_trans this (by have : σ.fresh.low = σ.n := rfl; omega)
      have hbox : ∀ M o n, (τ.grow M).loadN σ.fresh.n o n = sliceL (stL S (some ⟨c1, 0, none⟩) f1 (some ⟨c2, 0, none⟩) f2) o n := fun M o n => by
        rw [(hw.grow M).load o n (by rw [grow_n]; simp) (by rintro (e | e) <;> (have : σ.fresh.n = σ.n := rfl; omega)), ld_0]
      by_cases hlt : k < S.th.length
      · have hy : S.th[k]? = some S.th[k] := List.getElem?_eq_getElem hlt
        generalize S.th[k] = y at hy
        have hlt' : (k : Int) < (S.th.length : Int) := by omega
        have hcast : ((k + 1 : Nat) : Int) = (k : Int) + 1 := by omega
        have hyk : (updTo (eFrm i) S.th k)[k]? = some y := by rw [updTo_get, if_neg (Nat.lt_irrefl _), hy]
        have w2' : ∀ M, (τ.grow M).t.get c2 = some (rowOf (flatL thingL (updTo (eFrm i) S.th k), 13)) := fun M => (grow_old _ _ (by omega)).trans w2
        have hk4 : ∀ M, (τ.grow M).loadN c2 (k * 13 + 5) 1 = some [i64 y.frm] := fun M => by rw [load_sl (w2' M)]; exact flatL_cut (cells := thingL) (es := 13) (fun _ => rfl) hyk (by omega)
        by_cases hyi : y.frm = i + 1
        · have hset : setAll (flatL thingL (updTo (eFrm i) S.th k)) (k * 13 + 5) [.int .i64 0] = flatL thingL (updTo (eFrm i) S.th (k + 1)) := by
            rw [updTo_set hy]
            refine flatL_put (es := 13) (fun _ => rfl) hyk (by simp) ?_
            unfold eFrm; rw [if_pos hyi]; rfl
          have hlen : k * 13 + 5 + 1 ≤ (flatL thingL (updTo (eFrm i) S.th k)).length := by rw [flatL_length (es := 13) (fun _ => rfl), updTo_length]; omega
          simp (disch := omega) only [t58, t59, t2, t1, hlt', hbox, Int.toNat_natCast, hk4, eq_true hyi, st_gen, rowSt_row, w2', hlen, hset, hlt, putM_get, r0_take_empty, r1_take_empty, r2_take_empty, k1_take_empty, r3_take_empty, r4_take_empty, r5_take_empty, r6_take_empty, r7_take_empty, k7_take_empty, k6_take_empty, r8_take_empty, k8_take_empty, k5_take_empty, k4_take_empty, k3_take_empty, r9_take_empty, r10_take_empty, r11_take_empty, r12_take_empty, r13_take_empty, r14_take_empty, k15_take_empty, k14_take_empty, r15_take_empty, k16_take_empty, k13_take_empty, k12_take_empty, k11_take_empty, r16_take_empty, k17_take_empty, k10_take_empty, k9_take_empty, k2_take_empty, k0_take_empty, b1_take_empty, Z0, Z1, Z2, Z3, Z4, Z5, Z6, Z7, Z8, Z9, Z10, resAll, Nat.reduceAdd, Nat.reduceEqDiff, Nat.reduceLeDiff, Nat.reduceMul, ↓reduceIte, reduceCtorEq, Nat.reduceBEq, aoper, Nat.reduceLT, Int.reduceEq, Int.reduceLT, Int.reduceLE]
          exact ⟨by rw [hcast], (hw.grow _).trans (putM_wr (.inr rfl)), (putM_far hne).trans ((grow_old _ _ (by omega)).trans w1)⟩
        · have hsame := updTo_same (g := eFrm i) hy (by unfold eFrm; rw [if_neg hyi])
          simp (disch := omega) only [t58, t59, t2, t1, hlt', hbox, Int.toNat_natCast, hk4, hyi, hlt, hcast, hsame, w2', r0_take_empty, r1_take_empty, r2_take_empty, k1_take_empty, r3_take_empty, r4_take_empty, r5_take_empty, r6_take_empty, r7_take_empty, k7_take_empty, k6_take_empty, r8_take_empty, k8_take_empty, k5_take_empty, k4_take_empty, k3_take_empty, r9_take_empty, r10_take_empty, r11_take_empty, r12_take_empty, r13_take_empty, r14_take_empty, k15_take_empty, k14_take_empty, r15_take_empty, k16_take_empty, k13_take_empty, k12_take_empty, k11_take_empty, r16_take_empty, k17_take_empty, k10_take_empty, k9_take_empty, k2_take_empty, k0_take_empty, b1_take_empty, Z0, Z1, Z2, Z3, Z4, Z5, Z6, Z7, Z8, Z9, Z10, resAll, Nat.reduceAdd, Nat.reduceEqDiff, Nat.reduceLeDiff, Nat.reduceMul, ↓reduceIte, reduceCtorEq, Nat.reduceBEq, aoper, Nat.reduceLT, Int.reduceEq, Int.reduceLT, Int.reduceLE]
          exact ⟨hw.grow _, (grow_old _ _ (by omega)).trans w1⟩
      · have hlt' : ¬ (k : Int) < (S.th.length : Int) := by omega
        rw [updTo_all (by omega)] at w2
        simp (disch := omega) only [t58, t59, t2, t1, hlt', hbox, r0_take_empty, r1_take_empty, r2_take_empty, k1_take_empty, r3_take_empty, r4_take_empty, r5_take_empty, r6_take_empty, r7_take_empty, k7_take_empty, k6_take_empty, r8_take_empty, k8_take_empty, k5_take_empty, k4_take_empty, k3_take_empty, r9_take_empty, r10_take_empty, r11_take_empty, r12_take_empty, r13_take_empty, r14_take_empty, k15_take_empty, k14_take_empty, r15_take_empty, k16_take_empty, k13_take_empty, k12_take_empty, k11_take_empty, r16_take_empty, k17_take_empty, k10_take_empty, k9_take_empty, k2_take_empty, k0_take_empty, b1_take_empty, Z0, Z1, Z2, Z3, Z4, Z5, Z6, Z7, Z8, Z9, Z10, resAll, Nat.reduceAdd, Nat.reduceEqDiff, Nat.reduceLeDiff, Nat.reduceMul, ↓reduceIte, reduceCtorEq, Nat.reduceBEq, aoper, Nat.reduceLT, Int.reduceEq, Int.reduceLT, Int.reduceLE]
        refine ⟨⟨?_, ?_⟩, (hk0.wr.trans hw).grow _⟩
        · rw [grow_old _ _ (by omega)]; unfold empS; simp only; rw [hS2]; exact w1
        · rw [grow_old _ _ (by omega)]; exact w2
end Go.Proofs.YtidmcpkbcphpiaaGreat
namespace Go.Proofs.YtidmcpkbcphpiaaGreat
open Go Go.Hai
set_option maxRecDepth 20000
set_option linter.unusedSimpArgs false
set_option maxHeartbeats 8000000
attribute [local irreducible] Hai.Ends EndsR EndsO EndsD EndsX EndsE EndsK AHeap.grow AHeap.putR AHeap.putM okLow inN
def r0_take_held_1 : List AOper := [(.mk (some 2) none (.box 5 (.tmp 0))), (.mk (some 3) none (.mv (.const (.bool false))))]
def r1_take_held_1 : List AOper := [(.mk (some 4) none (.fldA 0 (.tmp 2))), (.mk (some 5) none (.load true 4 (.tmp 4))), (.mk (some 6) none (.call 38 [(.tmp 5)])), (.mk (some 7) none (.un .not (.tmp 6))), (.mk (some 8) none (.mv (.tmp 7))), (.mk (some 9) (some (8, true)) (.fldA 0 (.tmp 2))), (.mk (some 10) (some (8, true)) (.fldA 1 (.tmp 9))), (.mk (some 11) (some (8, true)) (.load false 1 (.tmp 10))), (.mk (some 12) (some (8, true)) (.load false 1 (.tmp 1))), (.mk (some 13) (some (8, true)) (.bin .eql (.tmp 11) (.tmp 12))), (.mk (some 14) none (.pick (.tmp 8) (.tmp 13) (.const (.bool false)))), (.mk (some 3) none (.mv (.tmp 14)))]
def k0_take_held_1 : ACode := (.seq (.reg r1_take_held_1) .ret)
def c_take_held_1 : ACode := (.seq (.reg r0_take_held_1) k0_take_held_1)
theorem e_take_held_1 : ofProg Tryz.prog 207 = some ⟨15, [(.tmp 3)], c_take_held_1⟩ := by kernel_rfl
def r0_slices_IndexFunc_state_Slot_state_Slot : List AOper := [(.mk (some 4) none (.mv (.const (.int .i64 0))))]
def r1_slices_IndexFunc_state_Slot_state_Slot : List AOper := [(.mk (some 6) none (.mv (.tmp 0))), (.mk (some 7) none (.lenS (.tmp 6))), (.mk (some 8) none (.mv (.const (.int .i64 0))))]
def r2_slices_IndexFunc_state_Slot_state_Slot : List AOper := [(.mk (some 9) none (.bin .lss (.tmp 8) (.tmp 7)))]
def r3_slices_IndexFunc_state_Slot_state_Slot : List AOper := [(.mk (some 10) none (.mv (.tmp 8))), (.mk (some 5) none (.mv (.tmp 10)))]
def r4_slices_IndexFunc_state_Slot_state_Slot : List AOper := [(.mk (some 11) none (.mv (.tmp 1))), (.mk (some 12) none (.mv (.tmp 0))), (.mk (some 13) none (.mv (.tmp 5))), (.mk (some 14) none (.idxA 5 (.tmp 12) (.tmp 13))), (.mk (some 15) none (.load true 5 (.tmp 14))), (.mk (some 16) none (.callV (.tmp 11) [(.tmp 15)]))]
def r5_slices_IndexFunc_state_Slot_state_Slot : List AOper := [(.mk (some 17) none (.mv (.tmp 5))), (.mk (some 4) none (.mv (.tmp 17)))]
def k5_slices_IndexFunc_state_Slot_state_Slot : ACode := (.cond (.tmp 16) (.seq (.reg r5_slices_IndexFunc_state_Slot_state_Slot) .ret) .skip)
def k4_slices_IndexFunc_state_Slot_state_Slot : ACode := (.seq (.reg r4_slices_IndexFunc_state_Slot_state_Slot) k5_slices_IndexFunc_state_Slot_state_Slot)
def r6_slices_IndexFunc_state_Slot_state_Slot : List AOper := [(.mk (some 18) none (.bin .add (.tmp 8) (.const (.int .i64 1)))), (.mk (some 8) none (.mv (.tmp 18)))]
def k6_slices_IndexFunc_state_Slot_state_Slot : ACode := (.reg r6_slices_IndexFunc_state_Slot_state_Slot)
def k3_slices_IndexFunc_state_Slot_state_Slot : ACode := (.seq (.block 1 (.seq (.reg r3_slices_IndexFunc_state_Slot_state_Slot) k4_slices_IndexFunc_state_Slot_state_Slot)) k6_slices_IndexFunc_state_Slot_state_Slot)
def k2_slices_IndexFunc_state_Slot_state_Slot : ACode := (.seq (.cond (.tmp 9) .skip (.exit 0)) k3_slices_IndexFunc_state_Slot_state_Slot)
def b0_slices_IndexFunc_state_Slot_state_Slot : ACode := (.seq (.reg r2_slices_IndexFunc_state_Slot_state_Slot) k2_slices_IndexFunc_state_Slot_state_Slot)
def k1_slices_IndexFunc_state_Slot_state_Slot : ACode := (.block 0 (.loop b0_slices_IndexFunc_state_Slot_state_Slot))
def r7_slices_IndexFunc_state_Slot_state_Slot : List AOper := [(.mk (some 4) none (.mv (.const (.int .i64 (-1)))))]
def k7_slices_IndexFunc_state_Slot_state_Slot : ACode := (.seq (.reg r7_slices_IndexFunc_state_Slot_state_Slot) .ret)
def k0_slices_IndexFunc_state_Slot_state_Slot : ACode := (.seq (.seq (.reg r1_slices_IndexFunc_state_Slot_state_Slot) k1_slices_IndexFunc_state_Slot_state_Slot) k7_slices_IndexFunc_state_Slot_state_Slot)
def c_slices_IndexFunc_state_Slot_state_Slot : ACode := (.seq (.reg r0_slices_IndexFunc_state_Slot_state_Slot) k0_slices_IndexFunc_state_Slot_state_Slot)
theorem e_slices_IndexFunc_state_Slot_state_Slot : ofProg Tryz.prog 234 = some ⟨19, [(.tmp 4)], c_slices_IndexFunc_state_Slot_state_Slot⟩ := by kernel_rfl
def r0_slices_ContainsFunc_state_Slot_state_Slot : List AOper := [(.mk (some 4) none (.mv (.const (.bool false))))]
def r1_slices_ContainsFunc_state_Slot_state_Slot : List AOper := [(.mk (some 5) none (.mv (.tmp 0))), (.mk (some 6) none (.mv (.tmp 1))), (.mk (some 7) none (.call 234 [(.tmp 5), (.tmp 6)])), (.mk (some 8) none (.bin .geq (.tmp 7) (.const (.int .i64 0)))), (.mk (some 4) none (.mv (.tmp 8)))]
def k0_slices_ContainsFunc_state_Slot_state_Slot : ACode := (.seq (.reg r1_slices_ContainsFunc_state_Slot_state_Slot) .ret)
def c_slices_ContainsFunc_state_Slot_state_Slot : ACode := (.seq (.reg r0_slices_ContainsFunc_state_Slot_state_Slot) k0_slices_ContainsFunc_state_Slot_state_Slot)
theorem e_slices_ContainsFunc_state_Slot_state_Slot : ofProg Tryz.prog 206 = some ⟨9, [(.tmp 4)], c_slices_ContainsFunc_state_Slot_state_Slot⟩ := by kernel_rfl
def r0_take_held : List AOper := [(.mk (some 2) none (.box 5 (.tmp 0))), (.mk (some 3) none (.box 1 (.tmp 1))), (.mk (some 4) none (.mv (.const (.bool false))))]
def r1_take_held : List AOper := [(.mk (some 5) none (.fldA 3 (.tmp 2))), (.mk (some 6) none (.load false 1 (.tmp 5))), (.mk (some 7) none (.mkFn 207 [] [(.tmp 3)])), (.mk (some 8) none (.call 206 [(.tmp 6), (.tmp 7)])), (.mk (some 4) none (.mv (.tmp 8)))]
def k0_take_held : ACode := (.seq (.reg r1_take_held) .ret)
def c_take_held : ACode := (.seq (.reg r0_take_held) k0_take_held)
theorem e_take_held : ofProg Tryz.prog 161 = some ⟨9, [(.tmp 4)], c_take_held⟩ := by kernel_rfl
def r0_take_lost : List AOper := [(.mk (some 2) none (.box 5 (.tmp 0))), (.mk (some 4) none (.mv (.const (.int .i64 0)))), (.mk (some 5) none (.mv (.const (.bool false))))]
def r1_take_lost : List AOper := [(.mk (some 10) none (.fldA 4 (.tmp 2))), (.mk (some 11) none (.load false 1 (.tmp 10))), (.mk (some 12) none (.mv (.tmp 1))), (.mk (some 13) none (.idxA 13 (.tmp 11) (.tmp 12))), (.mk (some 14) none (.load true 13 (.tmp 13))), (.mk (some 6) none (.alloc [(.int .i64 0), (.int .i64 0), (.int .i64 0), (.int .i64 0), (.int .i64 0), (.int .i64 0), (.int .i64 0), (.bool false), (.int .u64 0), (.int .u64 0), (.int .u64 0), (.int .u64 0), (.int .u64 0)] 13)), (.mk none none (.store 13 (.tmp 6) (.tmp 14)))]
def r2_take_lost : List AOper := [(.mk (some 15) none (.mv (.tmp 1))), (.mk (some 16) none (.bin .geq (.tmp 15) (.const (.int .i64 2)))), (.mk (some 17) none (.mv (.tmp 16))), (.mk (some 18) (some (17, true)) (.mv (.tmp 1))), (.mk (some 19) (some (17, true)) (.fldA 0 (.tmp 2))), (.mk (some 20) (some (17, true)) (.fldA 0 (.tmp 19))), (.mk (some 21) (some (17, true)) (.load false 1 (.tmp 20))), (.mk (some 22) (some (17, true)) (.bin .add (.const (.int .i64 2)) (.tmp 21))), (.mk (some 23) (some (17, true)) (.bin .lss (.tmp 18) (.tmp 22))), (.mk (some 24) none (.pick (.tmp 17) (.tmp 23) (.const (.bool false)))), (.mk (some 7) none (.mv (.tmp 24)))]
def r3_take_lost : List AOper := [(.mk (some 25) none (.fldA 0 (.tmp 6))), (.mk (some 26) none (.load false 1 (.tmp 25))), (.mk (some 27) none (.bin .eql (.tmp 26) (.const (.int .i64 0)))), (.mk (some 28) none (.mv (.tmp 27))), (.mk (some 29) (some (28, false)) (.mv (.tmp 7))), (.mk (some 30) none (.pick (.tmp 28) (.const (.bool true)) (.tmp 29))), (.mk (some 31) none (.mv (.tmp 30))), (.mk (some 32) (some (31, false)) (.load true 5 (.tmp 2))), (.mk (some 33) (some (31, false)) (.mv (.tmp 1))), (.mk (some 34) (some (31, false)) (.call 161 [(.tmp 32), (.tmp 33)])), (.mk (some 35) none (.pick (.tmp 31) (.const (.bool true)) (.tmp 34)))]
def r4_take_lost : List AOper := [(.mk (some 4) none (.mv (.const (.int .i64 0)))), (.mk (some 5) none (.mv (.const (.bool false))))]
def k3_take_lost : ACode := (.cond (.tmp 35) (.seq (.reg r4_take_lost) .ret) .skip)
def r5_take_lost : List AOper := [(.mk (some 8) none (.mv (.const (.int .i64 0))))]
def r6_take_lost : List AOper := [(.mk (some 36) none (.fldA 1 (.tmp 6))), (.mk (some 37) none (.load false 1 (.tmp 36))), (.mk (some 38) none (.bin .shl (.const (.int .i64 1)) (.tmp 37))), (.mk (some 39) none (.mv (.const (.int .i64 0))))]
def r7_take_lost : List AOper := [(.mk (some 40) none (.bin .lss (.tmp 39) (.tmp 38)))]
def r8_take_lost : List AOper := [(.mk (some 41) none (.mv (.tmp 39))), (.mk (some 9) none (.mv (.tmp 41)))]
def r9_take_lost : List AOper := [(.mk (some 42) none (.fldA 0 (.tmp 6))), (.mk (some 43) none (.load false 1 (.tmp 42))), (.mk (some 44) none (.bin .eql (.tmp 43) (.const (.int .i64 2)))), (.mk (some 45) none (.mv (.tmp 44))), (.mk (some 46) (some (45, true)) (.load true 5 (.tmp 2))), (.mk (some 47) (some (45, true)) (.fldA 2 (.tmp 6))), (.mk (some 48) (some (45, true)) (.load false 1 (.tmp 47))), (.mk (some 49) (some (45, true)) (.mv (.tmp 9))), (.mk (some 50) (some (45, true)) (.bin .add (.tmp 48) (.tmp 49))), (.mk (some 51) (some (45, true)) (.call 98 [(.tmp 46), (.tmp 50)])), (.mk (some 52) none (.pick (.tmp 45) (.tmp 51) (.const (.bool false))))]
def r10_take_lost : List AOper := [(.mk (some 53) none (.mv (.tmp 8))), (.mk (some 54) none (.bin .add (.tmp 53) (.const (.int .i64 1)))), (.mk (some 8) none (.mv (.tmp 54)))]
def k10_take_lost : ACode := (.cond (.tmp 52) (.reg r10_take_lost) .skip)
def k9_take_lost : ACode := (.seq (.reg r9_take_lost) k10_take_lost)
def r11_take_lost : List AOper := [(.mk (some 55) none (.bin .add (.tmp 39) (.const (.int .i64 1)))), (.mk (some 39) none (.mv (.tmp 55)))]
def k11_take_lost : ACode := (.reg r11_take_lost)
def k8_take_lost : ACode := (.seq (.block 1 (.seq (.reg r8_take_lost) k9_take_lost)) k11_take_lost)
def k7_take_lost : ACode := (.seq (.cond (.tmp 40) .skip (.exit 0)) k8_take_lost)
def b0_take_lost : ACode := (.seq (.reg r7_take_lost) k7_take_lost)
def k6_take_lost : ACode := (.block 0 (.loop b0_take_lost))
def r12_take_lost : List AOper := [(.mk (some 56) none (.fldA 4 (.tmp 2))), (.mk (some 57) none (.load false 1 (.tmp 56))), (.mk (some 58) none (.mv (.tmp 1))), (.mk (some 59) none (.build [(.int .i64 0), (.int .i64 0), (.int .i64 0), (.int .i64 0), (.int .i64 0), (.int .i64 0), (.int .i64 0), (.bool false), (.int .u64 0), (.int .u64 0), (.int .u64 0), (.int .u64 0), (.int .u64 0)] [])), (.mk (some 60) none (.idxA 13 (.tmp 57) (.tmp 58))), (.mk none none (.store 13 (.tmp 60) (.tmp 59)))]
def r13_take_lost : List AOper := [(.mk (some 61) none (.mv (.tmp 8))), (.mk (some 4) none (.mv (.tmp 61))), (.mk (some 5) none (.mv (.const (.bool true))))]
def k13_take_lost : ACode := (.seq (.reg r13_take_lost) .ret)
def k12_take_lost : ACode := (.seq (.reg r12_take_lost) k13_take_lost)
def k5_take_lost : ACode := (.seq (.seq (.reg r6_take_lost) k6_take_lost) k12_take_lost)
def k4_take_lost : ACode := (.seq (.reg r5_take_lost) k5_take_lost)
def k2_take_lost : ACode := (.seq (.seq (.reg r3_take_lost) k3_take_lost) k4_take_lost)
def k1_take_lost : ACode := (.seq (.reg r2_take_lost) k2_take_lost)
def k0_take_lost : ACode := (.seq (.reg r1_take_lost) k1_take_lost)
def c_take_lost : ACode := (.seq (.reg r0_take_lost) k0_take_lost)
theorem e_take_lost : ofProg Tryz.prog 99 = some ⟨62, [(.tmp 4), (.tmp 5)], c_take_lost⟩ := by kernel_rfl

def holdsB (t : Int) (x : SlotD) : Bool := !(capNone x) && decide (x.thing = t)
theorem held_1_ok (d : Nat) (σ : AHeap) (x : SlotD) (b : Nat) (n : Int) (hb : b < σ.n) (hl : σ.loadN b 0 1 = some [i64 n]) :
    acall (ofProg Tryz.prog) 1000 (d + 2) 207 [.agg (slotL x).toArray, here b 0] σ = some (.bool (holdsB n x), σ) := by
  refine acall_flat e_take_held_1 (by simp) rfl ?_
  have hl' : ∀ L, (σ.fresh.grow L).loadN b 0 1 = some [i64 n] := fun L => (load_old σ.fresh L 0 1 hb).trans hl
  unfold holdsB
  cases g : capNone x with
  | true => simp (disch := omega) only [hl', cap_None_ok, g, r0_take_held_1, r1_take_held_1, k0_take_held_1, c_take_held_1, Z0, Z1, Z2, Z3, Z4, Z5, Z6, Z7, Z8, Z9, Z10, resAll, Nat.reduceAdd, Nat.reduceEqDiff, Nat.reduceLeDiff, Nat.reduceMul, ↓reduceIte, reduceCtorEq, Nat.reduceBEq, aoper, Nat.reduceLT, Int.reduceEq, Int.reduceLT, Int.reduceLE]
  | false =>
    by_cases g2 : x.thing = n
    · simp (disch := omega) only [hl', cap_None_ok, g, eq_true g2, r0_take_held_1, r1_take_held_1, k0_take_held_1, c_take_held_1, Z0, Z1, Z2, Z3, Z4, Z5, Z6, Z7, Z8, Z9, Z10, resAll, Nat.reduceAdd, Nat.reduceEqDiff, Nat.reduceLeDiff, Nat.reduceMul, ↓reduceIte, reduceCtorEq, Nat.reduceBEq, aoper, Nat.reduceLT, Int.reduceEq, Int.reduceLT, Int.reduceLE]
    · simp (disch := omega) only [hl', cap_None_ok, g, g2, r0_take_held_1, r1_take_held_1, k0_take_held_1, c_take_held_1, Z0, Z1, Z2, Z3, Z4, Z5, Z6, Z7, Z8, Z9, Z10, resAll, Nat.reduceAdd, Nat.reduceEqDiff, Nat.reduceLeDiff, Nat.reduceMul, ↓reduceIte, reduceCtorEq, Nat.reduceBEq, aoper, Nat.reduceLT, Int.reduceEq, Int.reduceLT, Int.reduceLE]
theorem IndexFunc_held_ok (d : Nat) (σ : AHeap) (l : List SlotD) (a : Option Addr) (f : Nat) (b : Nat) (n : Int) (hm : l.length < 1000) (h2 : SlS σ a l) (hb : b < σ.n) (hl : σ.loadN b 0 1 = some [i64 n]) :
    acall (ofProg Tryz.prog) 1000 (d + 3) 234 [.slice a l.length f, .func (.func 207) [].toArray [here b 0].toArray] σ = some (i64 (firstI (holdsB n) l 0), σ) := by
  refine acall_flat e_slices_IndexFunc_state_Slot_state_Slot (by simp) rfl ?_
  simp (disch := omega) only [r0_slices_IndexFunc_state_Slot_state_Slot, r1_slices_IndexFunc_state_Slot_state_Slot, r2_slices_IndexFunc_state_Slot_state_Slot, r3_slices_IndexFunc_state_Slot_state_Slot, r4_slices_IndexFunc_state_Slot_state_Slot, r5_slices_IndexFunc_state_Slot_state_Slot, k5_slices_IndexFunc_state_Slot_state_Slot, k4_slices_IndexFunc_state_Slot_state_Slot, r6_slices_IndexFunc_state_Slot_state_Slot, k6_slices_IndexFunc_state_Slot_state_Slot, k3_slices_IndexFunc_state_Slot_state_Slot, k2_slices_IndexFunc_state_Slot_state_Slot, k1_slices_IndexFunc_state_Slot_state_Slot, r7_slices_IndexFunc_state_Slot_state_Slot, k7_slices_IndexFunc_state_Slot_state_Slot, k0_slices_IndexFunc_state_Slot_state_Slot, c_slices_IndexFunc_state_Slot_state_Slot, Z0, Z1, Z2, Z3, Z4, Z5, Z6, Z7, Z8, Z9, Z10, resAll, Nat.reduceAdd, Nat.reduceEqDiff, Nat.reduceLeDiff, Nat.reduceMul, ↓reduceIte, reduceCtorEq, Nat.reduceBEq, aoper, Nat.reduceLT, Int.reduceEq, Int.reduceLT, Int.reduceLE]
  refine ends_loop (fun i t τ => tget t 6 = .slice a l.length f ∧ tget t 0 = .slice a l.length f ∧ tget t 1 = .func (.func 207) [].toArray [here b 0].toArray ∧ tget t 7 = i64 l.length ∧ tget t 8 = i64 i ∧ Keeps σ.fresh τ ∧ ∀ (j : Nat) (y : SlotD), j < i → l[j]? = some y → holdsB n y = false)
    l.length hm ⟨?_, ?_, ?_, ?_, ?_, Keeps.self _ _, fun j y h => by omega⟩ ?_
  iterate 5 simp (disch := omega) only [Int.natCast_zero, Int.ofNat_zero, r0_slices_IndexFunc_state_Slot_state_Slot, r1_slices_IndexFunc_state_Slot_state_Slot, r2_slices_IndexFunc_state_Slot_state_Slot, r3_slices_IndexFunc_state_Slot_state_Slot, r4_slices_IndexFunc_state_Slot_state_Slot, r5_slices_IndexFunc_state_Slot_state_Slot, k5_slices_IndexFunc_state_Slot_state_Slot, k4_slices_IndexFunc_state_Slot_state_Slot, r6_slices_IndexFunc_state_Slot_state_Slot, k6_slices_IndexFunc_state_Slot_state_Slot, k3_slices_IndexFunc_state_Slot_state_Slot, k2_slices_IndexFunc_state_Slot_state_Slot, k1_slices_IndexFunc_state_Slot_state_Slot, r7_slices_IndexFunc_state_Slot_state_Slot, k7_slices_IndexFunc_state_Slot_state_Slot, k0_slices_IndexFunc_state_Slot_state_Slot, c_slices_IndexFunc_state_Slot_state_Slot, Z0, Z1, Z2, Z3, Z4, Z5, Z6, Z7, Z8, Z9, Z10, resAll, Nat.reduceAdd, Nat.reduceEqDiff, Nat.reduceLeDiff, Nat.reduceMul, ↓reduceIte, reduceCtorEq, Nat.reduceBEq, aoper, Nat.reduceLT, Int.reduceEq, Int.reduceLT, Int.reduceLE]
  rintro i t τ hi ⟨t6, t0, t1, t7, t8, hk, hall⟩
  rw [← grow_nil τ]
  by_cases hlt : i < l.length
  · obtain ⟨b2, rfl, hb2⟩ := h2.fresh.at hlt
    have hx : l[i]? = some l[i] := List.getElem?_eq_getElem hlt
    generalize l[i] = x at hx
    have hl5 := fun L => hb2.ld0 hk hx L 5 (by omega)
    simp only [List.take_succ_cons, List.take_zero] at hl5
    have hlt' : (i : Int) < (l.length : Int) := by omega
    have hcast : ((i + 1 : Nat) : Int) = (i : Int) + 1 := by omega
    have hown := fun L => held_1_ok d (τ.grow L) x b n (Nat.lt_of_lt_of_le hb (hk.grow L).n) (by rw [(hk.grow L).load _ _ hb]; exact hl)
    cases g : holdsB n x with
    | true =>
      have hr : firstI (holdsB n) l 0 = i := by rw [firstI_at (p := holdsB n) hall hx g]; simp
      simp (disch := omega) only [t6, t0, t1, t7, t8, hl5, hlt', Int.toNat_natCast, hown, g, hr, hk.low, r0_slices_IndexFunc_state_Slot_state_Slot, r1_slices_IndexFunc_state_Slot_state_Slot, r2_slices_IndexFunc_state_Slot_state_Slot, r3_slices_IndexFunc_state_Slot_state_Slot, r4_slices_IndexFunc_state_Slot_state_Slot, r5_slices_IndexFunc_state_Slot_state_Slot, k5_slices_IndexFunc_state_Slot_state_Slot, k4_slices_IndexFunc_state_Slot_state_Slot, r6_slices_IndexFunc_state_Slot_state_Slot, k6_slices_IndexFunc_state_Slot_state_Slot, k3_slices_IndexFunc_state_Slot_state_Slot, k2_slices_IndexFunc_state_Slot_state_Slot, k1_slices_IndexFunc_state_Slot_state_Slot, r7_slices_IndexFunc_state_Slot_state_Slot, k7_slices_IndexFunc_state_Slot_state_Slot, k0_slices_IndexFunc_state_Slot_state_Slot, b0_slices_IndexFunc_state_Slot_state_Slot, Z0, Z1, Z2, Z3, Z4, Z5, Z6, Z7, Z8, Z9, Z10, resAll, Nat.reduceAdd, Nat.reduceEqDiff, Nat.reduceLeDiff, Nat.reduceMul, ↓reduceIte, reduceCtorEq, Nat.reduceBEq, aoper, Nat.reduceLT, Int.reduceEq, Int.reduceLT, Int.reduceLE]
    | false =>
      simp (disch := omega) only [t6, t0, t1, t7, t8, hl5, hlt', hlt, hcast, Int.toNat_natCast, hown, g, hk.grow, r0_slices_IndexFunc_state_Slot_state_Slot, r1_slices_IndexFunc_state_Slot_state_Slot, r2_slices_IndexFunc_state_Slot_state_Slot, r3_slices_IndexFunc_state_Slot_state_Slot, r4_slices_IndexFunc_state_Slot_state_Slot, r5_slices_IndexFunc_state_Slot_state_Slot, k5_slices_IndexFunc_state_Slot_state_Slot, k4_slices_IndexFunc_state_Slot_state_Slot, r6_slices_IndexFunc_state_Slot_state_Slot, k6_slices_IndexFunc_state_Slot_state_Slot, k3_slices_IndexFunc_state_Slot_state_Slot, k2_slices_IndexFunc_state_Slot_state_Slot, k1_slices_IndexFunc_state_Slot_state_Slot, r7_slices_IndexFunc_state_Slot_state_Slot, k7_slices_IndexFunc_state_Slot_state_Slot, k0_slices_IndexFunc_state_Slot_state_Slot, b0_slices_IndexFunc_state_Slot_state_Slot, Z0, Z1, Z2, Z3, Z4, Z5, Z6, Z7, Z8, Z9, Z10, resAll, Nat.reduceAdd, Nat.reduceEqDiff, Nat.reduceLeDiff, Nat.reduceMul, ↓reduceIte, reduceCtorEq, Nat.reduceBEq, aoper, Nat.reduceLT, Int.reduceEq, Int.reduceLT, Int.reduceLE]
      intro j y hj hy
      by_cases hji : j < i
      · exact hall j y hji hy
      · have : j = i := by omega
        subst this
        rw [hx] at hy; cases hy; exact g
  · have hlt' : ¬ (i : Int) < (l.length : Int) := by omega
    have hr : firstI (holdsB n) l 0 = -1 := firstI_none fun j y hy => hall j y (by have := (List.getElem?_eq_some_iff.1 hy).1; omega) hy
    simp (disch := omega) only [t6, t0, t1, t7, t8, hlt', hr, hk.low, r0_slices_IndexFunc_state_Slot_state_Slot, r1_slices_IndexFunc_state_Slot_state_Slot, r2_slices_IndexFunc_state_Slot_state_Slot, r3_slices_IndexFunc_state_Slot_state_Slot, r4_slices_IndexFunc_state_Slot_state_Slot, r5_slices_IndexFunc_state_Slot_state_Slot, k5_slices_IndexFunc_state_Slot_state_Slot, k4_slices_IndexFunc_state_Slot_state_Slot, r6_slices_IndexFunc_state_Slot_state_Slot, k6_slices_IndexFunc_state_Slot_state_Slot, k3_slices_IndexFunc_state_Slot_state_Slot, k2_slices_IndexFunc_state_Slot_state_Slot, k1_slices_IndexFunc_state_Slot_state_Slot, r7_slices_IndexFunc_state_Slot_state_Slot, k7_slices_IndexFunc_state_Slot_state_Slot, k0_slices_IndexFunc_state_Slot_state_Slot, b0_slices_IndexFunc_state_Slot_state_Slot, Z0, Z1, Z2, Z3, Z4, Z5, Z6, Z7, Z8, Z9, Z10, resAll, Nat.reduceAdd, Nat.reduceEqDiff, Nat.reduceLeDiff, Nat.reduceMul, ↓reduceIte, reduceCtorEq, Nat.reduceBEq, aoper, Nat.reduceLT, Int.reduceEq, Int.reduceLT, Int.reduceLE]
theorem heldF_eq (S : StD) (n : Int) : heldF S n = decide (0 ≤ firstI (holdsB n) S.sl 0) := rfl
theorem take_held_ok (d : Nat) (σ : AHeap) (S : StD) (a1 : Option Addr) (f1 : Nat) (a2 : Option Addr) (f2 : Nat) (n : Int) (hm : S.sl.length < 1000) (h1 : SlS σ a1 S.sl) :
    acall (ofProg Tryz.prog) 1000 (d + 5) 161 [stV S a1 f1 a2 f2, .int .i64 n] σ = some (.bool (heldF S n), σ) := by
  have hc : ∀ τ : AHeap, SlS τ a1 S.sl → ∀ b, b < τ.n → τ.loadN b 0 1 = some [i64 n] → acall (ofProg Tryz.prog) 1000 (d + 4) 206 [.slice a1 S.sl.length f1, .func (.func 207) [].toArray [here b 0].toArray] τ = some (.bool (heldF S n), τ) := by
    intro τ h b hb hl
    refine acall_flat e_slices_ContainsFunc_state_Slot_state_Slot (by simp) rfl ?_
    have hi := IndexFunc_held_ok d (τ.fresh.grow []) S.sl a1 f1 b n hm (h.fresh.grow _) (by rw [grow_n]; exact hb) ((load_old τ.fresh [] 0 1 hb).trans hl)
    simp (disch := omega) only [hi, heldF_eq, r0_slices_ContainsFunc_state_Slot_state_Slot, r1_slices_ContainsFunc_state_Slot_state_Slot, k0_slices_ContainsFunc_state_Slot_state_Slot, c_slices_ContainsFunc_state_Slot_state_Slot, Z0, Z1, Z2, Z3, Z4, Z5, Z6, Z7, Z8, Z9, Z10, resAll, Nat.reduceAdd, Nat.reduceEqDiff, Nat.reduceLeDiff, Nat.reduceMul, ↓reduceIte, reduceCtorEq, Nat.reduceBEq, aoper, Nat.reduceLT, Int.reduceEq, Int.reduceLT, Int.reduceLE]
  refine acall_flat e_take_held (by simp) rfl ?_
  have hi := hc (σ.fresh.grow [(stL S a1 f1 a2 f2, 5), ([i64 n], 1)]) (h1.fresh.grow _) (σ.fresh.n + 1) (by rw [grow_n]; simp) (by rw [ld_1]; rfl)
  simp (disch := omega) only [hi, r0_take_held, r1_take_held, k0_take_held, c_take_held, Z0, Z1, Z2, Z3, Z4, Z5, Z6, Z7, Z8, Z9, Z10, resAll, Nat.reduceAdd, Nat.reduceEqDiff, Nat.reduceLeDiff, Nat.reduceMul, ↓reduceIte, reduceCtorEq, Nat.reduceBEq, aoper, Nat.reduceLT, Int.reduceEq, Int.reduceLT, Int.reduceLE]
def bitsOk (x : ThingD) : Prop := (0 ≤ x.bits ∧ x.bits ≤ 4) ∧ (x.type = 2 → 0 ≤ x.base ∧ x.base ≤ 96)
theorem emp1_alike (S : StD) (i : Int) : Shp S (emp1 S i).1 := by
  rcases emp1_cases S i with h | ⟨x, _, _, h⟩
  · rw [h]; exact Shp.refl S
  · rw [h]; exact ⟨rfl, rfl, rfl, by simp [empS], by simp [empS]⟩
theorem empR_alike (S : StD) (base : Int) : ∀ k, Shp S (empR S base k).1 := by
  intro k
  induction k with
  | zero => exact Shp.refl S
  | succ k ih => exact ih.trans (emp1_alike _ _)
theorem bInt_le (b : Bool) : 0 ≤ bInt b ∧ bInt b ≤ 1 := by cases b <;> decide
theorem empR_le (S : StD) (base : Int) : ∀ k : Nat, 0 ≤ (empR S base k).2 ∧ (empR S base k).2 ≤ k := by
  intro k
  induction k with
  | zero => simp [empR]
  | succ k ih => simp only [empR]; have := bInt_le (emp1 (empR S base k).1 (base + k)).2; omega
theorem pw_nat {b : Int} : ((pw b).toNat : Int) = pw b := by unfold pw; rw [Int.toNat_natCast]
theorem take_lost_ok (d : Nat) (σ : AHeap) (S : StD) (c1 f1 c2 f2 : Nat) (n : Nat) (x : ThingD) (hlo : σ.low ≤ σ.n) (h1 : c1 < σ.n) (h2 : c2 < σ.n) (hne : c1 ≠ c2) (hr : RowsAt σ c1 c2 S) (hn : S.sl.length < 1000) (hm : S.th.length < 1000)
    (hth : 0 ≤ S.threads ∧ S.threads ≤ 4) (hx : S.th[n]? = some x) (hb : bitsOk x) :
    ∃ τ, acall (ofProg Tryz.prog) 1000 (d + 6) 99 [stV S (some ⟨c1, 0, none⟩) f1 (some ⟨c2, 0, none⟩) f2, .int .i64 n] σ = some (.tuple [i64 (lostF S n).2.1, .bool (lostF S n).2.2].toArray, τ) ∧ RowsAt τ c1 c2 (lostF S n).1 ∧ Wr (two c1 c2) σ τ := by
  have hnl := (List.getElem?_eq_some_iff.1 hx).1
  have g1 : SlAt slotL 5 σ.fresh c1 S.sl := hr.s h1
  have g2 : SlAt thingL 13 σ.fresh c2 S.th := hr.t h2
  have hl : ∀ L, (σ.fresh.grow L).loadN c2 (n * 13) 13 = some (thingL x) := fun L => by
    rw [load_old _ _ _ _ g2.1]; exact g2.2 _ _ hx 0 13 (by omega)
  have q1 : (n : Int) < (S.th.length : Int) := by omega
  have hroot : (decide (2 ≤ (n : Int)) && decide ((n : Int) < 2 + S.threads)) = isRootB S n := rfl
  have hheld := fun L => take_held_ok d (σ.fresh.grow L) S (some ⟨c1, 0, none⟩) f1 (some ⟨c2, 0, none⟩) f2 n hn (.inr ⟨_, rfl, g1.keeps (Keeps.self _ L)⟩)
  have hst : stays S n x = (decide (x.type = 0) || isRootB S n || heldF S n) := rfl
  have hL : lostF S n = if stays S n x = true then (S, 0, false) else if x.type = 2 then (setT (empR S x.base (pw x.bits).toNat).1 n zeroT, (empR S x.base (pw x.bits).toNat).2, true) else (setT S n zeroT, 0, true) := by unfold lostF; rw [hx]
  cases hs : stays S n x with
  | true =>
    rw [hs, if_pos rfl] at hL
    rw [hL]
    refine ⟨σ, ?_, hr, Wr.refl _ _⟩
    refine acall_flat e_take_lost (by simp) rfl ?_
    by_cases k1 : (2 : Int) ≤ n
    · by_cases k2 : (n : Int) < 2 + S.threads
      · by_cases k3 : x.type = 0
        · simp (disch := omega) only [q1, hl, k1, k2, Int.toNat_natCast, eq_true k3, r0_take_lost, r1_take_lost, r2_take_lost, r3_take_lost, r4_take_lost, k3_take_lost, r5_take_lost, r6_take_lost, r7_take_lost, r8_take_lost, r9_take_lost, r10_take_lost, k10_take_lost, k9_take_lost, r11_take_lost, k11_take_lost, k8_take_lost, k7_take_lost, k6_take_lost, r12_take_lost, r13_take_lost, k13_take_lost, k12_take_lost, k5_take_lost, k4_take_lost, k2_take_lost, k1_take_lost, k0_take_lost, c_take_lost, Z0, Z1, Z2, Z3, Z4, Z5, Z6, Z7, Z8, Z9, Z10, resAll, Nat.reduceAdd, Nat.reduceEqDiff, Nat.reduceLeDiff, Nat.reduceMul, ↓reduceIte, reduceCtorEq, Nat.reduceBEq, aoper, Nat.reduceLT, Int.reduceEq, Int.reduceLT, Int.reduceLE]
        · simp (disch := omega) only [q1, hl, k1, k2, Int.toNat_natCast, k3, r0_take_lost, r1_take_lost, r2_take_lost, r3_take_lost, r4_take_lost, k3_take_lost, r5_take_lost, r6_take_lost, r7_take_lost, r8_take_lost, r9_take_lost, r10_take_lost, k10_take_lost, k9_take_lost, r11_take_lost, k11_take_lost, k8_take_lost, k7_take_lost, k6_take_lost, r12_take_lost, r13_take_lost, k13_take_lost, k12_take_lost, k5_take_lost, k4_take_lost, k2_take_lost, k1_take_lost, k0_take_lost, c_take_lost, Z0, Z1, Z2, Z3, Z4, Z5, Z6, Z7, Z8, Z9, Z10, resAll, Nat.reduceAdd, Nat.reduceEqDiff, Nat.reduceLeDiff, Nat.reduceMul, ↓reduceIte, reduceCtorEq, Nat.reduceBEq, aoper, Nat.reduceLT, Int.reduceEq, Int.reduceLT, Int.reduceLE]
      · by_cases k3 : x.type = 0
        · simp (disch := omega) only [q1, hl, k1, k2, Int.toNat_natCast, eq_true k3, r0_take_lost, r1_take_lost, r2_take_lost, r3_take_lost, r4_take_lost, k3_take_lost, r5_take_lost, r6_take_lost, r7_take_lost, r8_take_lost, r9_take_lost, r10_take_lost, k10_take_lost, k9_take_lost, r11_take_lost, k11_take_lost, k8_take_lost, k7_take_lost, k6_take_lost, r12_take_lost, r13_take_lost, k13_take_lost, k12_take_lost, k5_take_lost, k4_take_lost, k2_take_lost, k1_take_lost, k0_take_lost, c_take_lost, Z0, Z1, Z2, Z3, Z4, Z5, Z6, Z7, Z8, Z9, Z10, resAll, Nat.reduceAdd, Nat.reduceEqDiff, Nat.reduceLeDiff, Nat.reduceMul, ↓reduceIte, reduceCtorEq, Nat.reduceBEq, aoper, Nat.reduceLT, Int.reduceEq, Int.reduceLT, Int.reduceLE]
        · have k4 : heldF S n = true := by rw [hst] at hs; unfold isRootB at hs; simpa [k1, k2, k3] using hs
          simp (disch := omega) only [q1, hl, k1, k2, Int.toNat_natCast, k3, hheld, k4, r0_take_lost, r1_take_lost, r2_take_lost, r3_take_lost, r4_take_lost, k3_take_lost, r5_take_lost, r6_take_lost, r7_take_lost, r8_take_lost, r9_take_lost, r10_take_lost, k10_take_lost, k9_take_lost, r11_take_lost, k11_take_lost, k8_take_lost, k7_take_lost, k6_take_lost, r12_take_lost, r13_take_lost, k13_take_lost, k12_take_lost, k5_take_lost, k4_take_lost, k2_take_lost, k1_take_lost, k0_take_lost, c_take_lost, Z0, Z1, Z2, Z3, Z4, Z5, Z6, Z7, Z8, Z9, Z10, resAll, Nat.reduceAdd, Nat.reduceEqDiff, Nat.reduceLeDiff, Nat.reduceMul, ↓reduceIte, reduceCtorEq, Nat.reduceBEq, aoper, Nat.reduceLT, Int.reduceEq, Int.reduceLT, Int.reduceLE]
    · by_cases k3 : x.type = 0
      · simp (disch := omega) only [q1, hl, k1, Int.toNat_natCast, eq_true k3, r0_take_lost, r1_take_lost, r2_take_lost, r3_take_lost, r4_take_lost, k3_take_lost, r5_take_lost, r6_take_lost, r7_take_lost, r8_take_lost, r9_take_lost, r10_take_lost, k10_take_lost, k9_take_lost, r11_take_lost, k11_take_lost, k8_take_lost, k7_take_lost, k6_take_lost, r12_take_lost, r13_take_lost, k13_take_lost, k12_take_lost, k5_take_lost, k4_take_lost, k2_take_lost, k1_take_lost, k0_take_lost, c_take_lost, Z0, Z1, Z2, Z3, Z4, Z5, Z6, Z7, Z8, Z9, Z10, resAll, Nat.reduceAdd, Nat.reduceEqDiff, Nat.reduceLeDiff, Nat.reduceMul, ↓reduceIte, reduceCtorEq, Nat.reduceBEq, aoper, Nat.reduceLT, Int.reduceEq, Int.reduceLT, Int.reduceLE]
      · have k4 : heldF S n = true := by rw [hst] at hs; unfold isRootB at hs; simpa [k1, k3] using hs
        simp (disch := omega) only [q1, hl, k1, Int.toNat_natCast, k3, hheld, k4, r0_take_lost, r1_take_lost, r2_take_lost, r3_take_lost, r4_take_lost, k3_take_lost, r5_take_lost, r6_take_lost, r7_take_lost, r8_take_lost, r9_take_lost, r10_take_lost, k10_take_lost, k9_take_lost, r11_take_lost, k11_take_lost, k8_take_lost, k7_take_lost, k6_take_lost, r12_take_lost, r13_take_lost, k13_take_lost, k12_take_lost, k5_take_lost, k4_take_lost, k2_take_lost, k1_take_lost, k0_take_lost, c_take_lost, Z0, Z1, Z2, Z3, Z4, Z5, Z6, Z7, Z8, Z9, Z10, resAll, Nat.reduceAdd, Nat.reduceEqDiff, Nat.reduceLeDiff, Nat.reduceMul, ↓reduceIte, reduceCtorEq, Nat.reduceBEq, aoper, Nat.reduceLT, Int.reduceEq, Int.reduceLT, Int.reduceLE]
  | false =>
    have hst0 := hs
    rw [hst] at hs
    simp only [Bool.or_eq_false_iff, decide_eq_false_iff_not] at hs
    obtain ⟨⟨k3, k4⟩, k5⟩ := hs
    unfold isRootB at k4
    simp only [Bool.and_eq_false_iff, decide_eq_false_iff_not] at k4
    suffices hsu : Hai.Ends (acode (acall (ofProg Tryz.prog) 1000 (d + 5)) 1000 c_take_lost (Tr.of [stV S (some ⟨c1, 0, none⟩) f1 (some ⟨c2, 0, none⟩) f2, .int .i64 n]) (σ.fresh.grow []))
        (finE [.tmp 4, .tmp 5] fun v τ => v = .tuple [i64 (lostF S n).2.1, .bool (lostF S n).2.2].toArray ∧ RowsAt τ c1 c2 (lostF S n).1 ∧ Wr (two c1 c2) σ.fresh τ) by
      obtain ⟨v, τ', e, τ, ⟨rfl, q1, q2⟩, q⟩ := acall_eff e_take_lost (by simp) hsu
      rcases q with ⟨ql, _, rfl⟩ | rfl
      · exact ⟨_, e, ⟨(q2.same ql h1).symm.trans q1.sl, (q2.same ql h2).symm.trans q1.th⟩, Wr.refl _ _⟩
      · exact ⟨_, e, ⟨q1.sl, q1.th⟩, q2.ret⟩
    have hk0 := Keeps.self σ.fresh [(stL S (some ⟨c1, 0, none⟩) f1 (some ⟨c2, 0, none⟩) f2, 5), (thingL x, 13)]
    obtain ⟨b1, b2⟩ := hb
    have hp := pw_le b1.1 b1.2
    have hfn : σ.fresh.n = σ.n := rfl
    obtain ⟨A, hA⟩ : ∃ A : Nat → StD × Int, A = fun k => if x.type = 2 then empR S x.base k else (S, 0) := ⟨_, rfl⟩
    have hA0 : A 0 = (S, 0) := by rw [hA]; simp only [empR]; split <;> rfl
    have hAl : ∀ k, Shp S (A k).1 := fun k => by rw [hA]; simp only; split; exact empR_alike _ _ _; exact Shp.refl _
    have hAn : ∀ k, 0 ≤ (A k).2 ∧ (A k).2 ≤ k := fun k => by rw [hA]; simp only; split; exact empR_le _ _ _; simp
    have main : ∀ (t : Tmps) (Q : AEx → Tmps → AHeap → Prop), tget t 38 = i64 (pw x.bits) → tget t 39 = i64 0 → tget t 2 = here σ.fresh.n 0 → tget t 6 = here (σ.fresh.n + 1) 0 → tget t 8 = i64 0 → tget t 1 = i64 n →
        (∀ t' τ, tget t' 2 = here σ.fresh.n 0 → tget t' 8 = i64 (A (pw x.bits).toNat).2 → tget t' 1 = i64 n → Wr (two c1 c2) (σ.fresh.grow [(stL S (some ⟨c1, 0, none⟩) f1 (some ⟨c2, 0, none⟩) f2, 5), (thingL x, 13)]) τ → RowsAt τ c1 c2 (A (pw x.bits).toNat).1 → Q (.exit 0) t' τ) →
        Hai.Ends (acode (acall (ofProg Tryz.prog) 1000 (d + 5)) 1000 (.loop b0_take_lost) t (σ.fresh.grow [(stL S (some ⟨c1, 0, none⟩) f1 (some ⟨c2, 0, none⟩) f2, 5), (thingL x, 13)])) Q := by
      intro t Q t38 t39 t2 t6 t8 t1 hQ
      have hpn : ((pw x.bits).toNat : Int) = pw x.bits := pw_nat
      refine ends_loop (fun k t τ => tget t 38 = i64 (pw x.bits) ∧ tget t 39 = i64 k ∧ tget t 2 = here σ.fresh.n 0 ∧ tget t 6 = here (σ.fresh.n + 1) 0 ∧ tget t 8 = i64 (A k).2 ∧ tget t 1 = i64 n ∧ Wr (two c1 c2) (σ.fresh.grow [(stL S (some ⟨c1, 0, none⟩) f1 (some ⟨c2, 0, none⟩) f2, 5), (thingL x, 13)]) τ ∧ RowsAt τ c1 c2 (A k).1)
        (pw x.bits).toNat (by omega) ⟨t38, t39, t2, t6, ?_, t1, Wr.refl _ _, ?_⟩ ?_
      · rw [hA0]; exact t8
      · rw [hA0]; exact (show RowsAt σ.fresh c1 c2 S from ⟨hr.sl, hr.th⟩).keeps hk0 h1 h2
      clear t38 t39 t2 t6 t8 t1 t
      rintro k t τ hk ⟨t38, t39, t2, t6, t8, t1, hw, hrk⟩
      rw [← grow_nil τ]
      have hnn : σ.n + 2 ≤ τ.n := by have := hw.n; rw [grow_n] at this; exact this
      have hlow : τ.low ≤ τ.n := by have := hw.low; rw [grow_low] at this; exact Nat.le_trans this (by have : σ.fresh.low = σ.n := rfl; omega)
      have hbox : ∀ M o n, (τ.grow M).loadN σ.fresh.n o n = sliceL (stL S (some ⟨c1, 0, none⟩) f1 (some ⟨c2, 0, none⟩) f2) o n := fun M o n => by
        rw [(hw.grow M).load o n (by rw [grow_n]; simp) (by rintro (e | e) <;> omega), ld_0]
      have hbox2 : ∀ M o n, (τ.grow M).loadN (σ.fresh.n + 1) o n = sliceL (thingL x) o n := fun M o n => by
        rw [(hw.grow M).load o n (by rw [grow_n]; simp) (by rintro (e | e) <;> omega), ld_1]
      by_cases hlt : k < (pw x.bits).toNat
      · have hlt' : (k : Int) < pw x.bits := by omega
        have hcast : ((k + 1 : Nat) : Int) = (k : Int) + 1 := by omega
        by_cases g2' : x.type = 2
        · have hb2 := b2 g2'
          have hAs : A (k + 1) = ((emp1 (A k).1 (x.base + k)).1, (A k).2 + bInt (emp1 (A k).1 (x.base + k)).2) := by rw [hA]; simp only [if_pos g2', empR]
          obtain ⟨υ, e, u1, u2⟩ := take_empty_ok (d + 3) (τ.grow []) (A k).1 c1 f1 c2 f2 (x.base + k) (low_grow hlow _) (by rw [grow_n]; omega) (by rw [grow_n]; omega) hne (hrk.keeps (Keeps.self _ _) (by omega) (by omega)) (by rw [(hAl k).sl]; exact hn) (by rw [(hAl k).th]; exact hm)
          rw [(hAl k).stV] at e
          have hAk := hAn k
          have hAs1 : (A (k + 1)).1 = (emp1 (A k).1 (x.base + k)).1 := by rw [hAs]
          have hwk := (hw.grow []).trans u2
          cases ge : (emp1 (A k).1 (x.base + k)).2 with
          | true =>
            have hAs2 : (A (k + 1)).2 = (A k).2 + 1 := by rw [hAs, ge]; rfl
            simp (disch := omega) only [t38, t39, t2, t6, t8, t1, hlt', hlt, hcast, hbox, hbox2, eq_true g2', e, ge, hAs2, r0_take_lost, r1_take_lost, r2_take_lost, r3_take_lost, r4_take_lost, k3_take_lost, r5_take_lost, r6_take_lost, r7_take_lost, r8_take_lost, r9_take_lost, r10_take_lost, k10_take_lost, k9_take_lost, r11_take_lost, k11_take_lost, k8_take_lost, k7_take_lost, k6_take_lost, r12_take_lost, r13_take_lost, k13_take_lost, k12_take_lost, k5_take_lost, k4_take_lost, k2_take_lost, k1_take_lost, k0_take_lost, b0_take_lost, Z0, Z1, Z2, Z3, Z4, Z5, Z6, Z7, Z8, Z9, Z10, resAll, Nat.reduceAdd, Nat.reduceEqDiff, Nat.reduceLeDiff, Nat.reduceMul, ↓reduceIte, reduceCtorEq, Nat.reduceBEq, aoper, Nat.reduceLT, Int.reduceEq, Int.reduceLT, Int.reduceLE]
            rw [hAs1]
            exact ⟨hwk, u1⟩
          | false =>
            have hAs2 : (A (k + 1)).2 = (A k).2 := by rw [hAs, ge]; simp [bInt]
            simp (disch := omega) only [t38, t39, t2, t6, t8, t1, hlt', hlt, hcast, hbox, hbox2, eq_true g2', e, ge, hAs2, r0_take_lost, r1_take_lost, r2_take_lost, r3_take_lost, r4_take_lost, k3_take_lost, r5_take_lost, r6_take_lost, r7_take_lost, r8_take_lost, r9_take_lost, r10_take_lost, k10_take_lost, k9_take_lost, r11_take_lost, k11_take_lost, k8_take_lost, k7_take_lost, k6_take_lost, r12_take_lost, r13_take_lost, k13_take_lost, k12_take_lost, k5_take_lost, k4_take_lost, k2_take_lost, k1_take_lost, k0_take_lost, b0_take_lost, Z0, Z1, Z2, Z3, Z4, Z5, Z6, Z7, Z8, Z9, Z10, resAll, Nat.reduceAdd, Nat.reduceEqDiff, Nat.reduceLeDiff, Nat.reduceMul, ↓reduceIte, reduceCtorEq, Nat.reduceBEq, aoper, Nat.reduceLT, Int.reduceEq, Int.reduceLT, Int.reduceLE]
            rw [hAs1]
            exact ⟨hwk, u1⟩
        · have hAs : A (k + 1) = A k := by rw [hA]; simp only [if_neg g2']
          simp (disch := omega) only [t38, t39, t2, t6, t8, t1, hlt', hlt, hcast, hbox, hbox2, g2', hAs, r0_take_lost, r1_take_lost, r2_take_lost, r3_take_lost, r4_take_lost, k3_take_lost, r5_take_lost, r6_take_lost, r7_take_lost, r8_take_lost, r9_take_lost, r10_take_lost, k10_take_lost, k9_take_lost, r11_take_lost, k11_take_lost, k8_take_lost, k7_take_lost, k6_take_lost, r12_take_lost, r13_take_lost, k13_take_lost, k12_take_lost, k5_take_lost, k4_take_lost, k2_take_lost, k1_take_lost, k0_take_lost, b0_take_lost, Z0, Z1, Z2, Z3, Z4, Z5, Z6, Z7, Z8, Z9, Z10, resAll, Nat.reduceAdd, Nat.reduceEqDiff, Nat.reduceLeDiff, Nat.reduceMul, ↓reduceIte, reduceCtorEq, Nat.reduceBEq, aoper, Nat.reduceLT, Int.reduceEq, Int.reduceLT, Int.reduceLE]
          exact ⟨hw.grow _, hrk.keeps (Keeps.self _ _) (by omega) (by omega)⟩
      · have hlt' : ¬ (k : Int) < pw x.bits := by omega
        have hke : k = (pw x.bits).toNat := by omega
        simp (disch := omega) only [t38, t39, hlt', r0_take_lost, r1_take_lost, r2_take_lost, r3_take_lost, r4_take_lost, k3_take_lost, r5_take_lost, r6_take_lost, r7_take_lost, r8_take_lost, r9_take_lost, r10_take_lost, k10_take_lost, k9_take_lost, r11_take_lost, k11_take_lost, k8_take_lost, k7_take_lost, k6_take_lost, r12_take_lost, r13_take_lost, k13_take_lost, k12_take_lost, k5_take_lost, k4_take_lost, k2_take_lost, k1_take_lost, k0_take_lost, b0_take_lost, Z0, Z1, Z2, Z3, Z4, Z5, Z6, Z7, Z8, Z9, Z10, resAll, Nat.reduceAdd, Nat.reduceEqDiff, Nat.reduceLeDiff, Nat.reduceMul, ↓reduceIte, reduceCtorEq, Nat.reduceBEq, aoper, Nat.reduceLT, Int.reduceEq, Int.reduceLT, Int.reduceLE]
        rw [← hke] at hQ
        refine hQ _ _ ?_ ?_ ?_ (hw.grow _) (hrk.keeps (Keeps.self _ _) (by omega) (by omega))
        all_goals simp (disch := omega) only [t2, t8, t1, r0_take_lost, r1_take_lost, r2_take_lost, r3_take_lost, r4_take_lost, k3_take_lost, r5_take_lost, r6_take_lost, r7_take_lost, r8_take_lost, r9_take_lost, r10_take_lost, k10_take_lost, k9_take_lost, r11_take_lost, k11_take_lost, k8_take_lost, k7_take_lost, k6_take_lost, r12_take_lost, r13_take_lost, k13_take_lost, k12_take_lost, k5_take_lost, k4_take_lost, k2_take_lost, k1_take_lost, k0_take_lost, Z0, Z1, Z2, Z3, Z4, Z5, Z6, Z7, Z8, Z9, Z10, resAll, Nat.reduceAdd, Nat.reduceEqDiff, Nat.reduceLeDiff, Nat.reduceMul, ↓reduceIte, reduceCtorEq, Nat.reduceBEq, aoper, Nat.reduceLT, Int.reduceEq, Int.reduceLT, Int.reduceLE]
    have hend : lostF S n = (setT (A (pw x.bits).toNat).1 n zeroT, (A (pw x.bits).toNat).2, true) := by
      rw [hL, hst0, if_neg (by simp), hA]; simp only
      split <;> rfl
    by_cases j1 : (2 : Int) ≤ n
    · have j2 := k4.resolve_left (fun h => h j1)
      simp (disch := omega) only [q1, hl, j1, j2, Int.toNat_natCast, k3, hheld, k5, r0_take_lost, r1_take_lost, r2_take_lost, r3_take_lost, r4_take_lost, k3_take_lost, r5_take_lost, r6_take_lost, r7_take_lost, r8_take_lost, r9_take_lost, r10_take_lost, k10_take_lost, k9_take_lost, r11_take_lost, k11_take_lost, k8_take_lost, k7_take_lost, k6_take_lost, r12_take_lost, r13_take_lost, k13_take_lost, k12_take_lost, k5_take_lost, k4_take_lost, k2_take_lost, k1_take_lost, k0_take_lost, c_take_lost, Z0, Z1, Z2, Z3, Z4, Z5, Z6, Z7, Z8, Z9, Z10, resAll, Nat.reduceAdd, Nat.reduceEqDiff, Nat.reduceLeDiff, Nat.reduceMul, ↓reduceIte, reduceCtorEq, Nat.reduceBEq, aoper, Nat.reduceLT, Int.reduceEq, Int.reduceLT, Int.reduceLE]
      refine main _ _ ?_ ?_ ?_ ?_ ?_ ?_ ?_
      iterate 6 simp (disch := omega) only [Int.natCast_zero, Int.ofNat_zero, r0_take_lost, r1_take_lost, r2_take_lost, r3_take_lost, r4_take_lost, k3_take_lost, r5_take_lost, r6_take_lost, r7_take_lost, r8_take_lost, r9_take_lost, r10_take_lost, k10_take_lost, k9_take_lost, r11_take_lost, k11_take_lost, k8_take_lost, k7_take_lost, k6_take_lost, r12_take_lost, r13_take_lost, k13_take_lost, k12_take_lost, k5_take_lost, k4_take_lost, k2_take_lost, k1_take_lost, k0_take_lost, c_take_lost, Z0, Z1, Z2, Z3, Z4, Z5, Z6, Z7, Z8, Z9, Z10, resAll, Nat.reduceAdd, Nat.reduceEqDiff, Nat.reduceLeDiff, Nat.reduceMul, ↓reduceIte, reduceCtorEq, Nat.reduceBEq, aoper, Nat.reduceLT, Int.reduceEq, Int.reduceLT, Int.reduceLE]
      intro t' τ t2 t8 t1 hw hrk
      have hnn : σ.n + 2 ≤ τ.n := by have := hw.n; rw [grow_n] at this; exact this
      have hbox : ∀ M o n, (τ.grow M).loadN σ.fresh.n o n = sliceL (stL S (some ⟨c1, 0, none⟩) f1 (some ⟨c2, 0, none⟩) f2) o n := fun M o n => by
        rw [(hw.grow M).load o n (by rw [grow_n]; simp) (by rintro (e | e) <;> omega), ld_0]
      have hA2 := hAl (pw x.bits).toNat
      have w2 : ∀ M, (τ.grow M).t.get c2 = some (rowOf (flatL thingL (A (pw x.bits).toNat).1.th, 13)) := fun M => (grow_old _ _ (by omega)).trans hrk.th
      have hset := flatL_set (cells := thingL) (es := 13) (fun _ => rfl) zeroT (A (pw x.bits).toNat).1.th n (by rw [hA2.th]; exact hnl)
      simp only [zeroT, thingL] at hset
      have hlen : n * 13 + 13 ≤ (flatL thingL (A (pw x.bits).toNat).1.th).length := by rw [flatL_length (es := 13) (fun _ => rfl), hA2.th]; omega
      rw [← grow_nil τ]
      simp (disch := omega) only [t2, t8, t1, hbox, q1, Int.toNat_natCast, st_gen, rowSt_row, w2, hlen, hset, hend, r0_take_lost, r1_take_lost, r2_take_lost, r3_take_lost, r4_take_lost, k3_take_lost, r5_take_lost, r6_take_lost, r7_take_lost, r8_take_lost, r9_take_lost, r10_take_lost, k10_take_lost, k9_take_lost, r11_take_lost, k11_take_lost, k8_take_lost, k7_take_lost, k6_take_lost, r12_take_lost, r13_take_lost, k13_take_lost, k12_take_lost, k5_take_lost, k4_take_lost, k2_take_lost, k1_take_lost, k0_take_lost, c_take_lost, Z0, Z1, Z2, Z3, Z4, Z5, Z6, Z7, Z8, Z9, Z10, resAll, Nat.reduceAdd, Nat.reduceEqDiff, Nat.reduceLeDiff, Nat.reduceMul, ↓reduceIte, reduceCtorEq, Nat.reduceBEq, aoper, Nat.reduceLT, Int.reduceEq, Int.reduceLT, Int.reduceLE]
      refine ⟨⟨(putM_far hne).trans ((grow_old _ _ (by omega)).trans hrk.sl), putM_get⟩, (hk0.wr.trans (hw.grow _)).trans (putM_wr (.inr rfl))⟩
    · simp (disch := omega) only [q1, hl, j1, Int.toNat_natCast, k3, hheld, k5, r0_take_lost, r1_take_lost, r2_take_lost, r3_take_lost, r4_take_lost, k3_take_lost, r5_take_lost, r6_take_lost, r7_take_lost, r8_take_lost, r9_take_lost, r10_take_lost, k10_take_lost, k9_take_lost, r11_take_lost, k11_take_lost, k8_take_lost, k7_take_lost, k6_take_lost, r12_take_lost, r13_take_lost, k13_take_lost, k12_take_lost, k5_take_lost, k4_take_lost, k2_take_lost, k1_take_lost, k0_take_lost, c_take_lost, Z0, Z1, Z2, Z3, Z4, Z5, Z6, Z7, Z8, Z9, Z10, resAll, Nat.reduceAdd, Nat.reduceEqDiff, Nat.reduceLeDiff, Nat.reduceMul, ↓reduceIte, reduceCtorEq, Nat.reduceBEq, aoper, Nat.reduceLT, Int.reduceEq, Int.reduceLT, Int.reduceLE]
      refine main _ _ ?_ ?_ ?_ ?_ ?_ ?_ ?_
      iterate 6 simp (disch := omega) only [Int.natCast_zero, Int.ofNat_zero, r0_take_lost, r1_take_lost, r2_take_lost, r3_take_lost, r4_take_lost, k3_take_lost, r5_take_lost, r6_take_lost, r7_take_lost, r8_take_lost, r9_take_lost, r10_take_lost, k10_take_lost, k9_take_lost, r11_take_lost, k11_take_lost, k8_take_lost, k7_take_lost, k6_take_lost, r12_take_lost, r13_take_lost, k13_take_lost, k12_take_lost, k5_take_lost, k4_take_lost, k2_take_lost, k1_take_lost, k0_take_lost, c_take_lost, Z0, Z1, Z2, Z3, Z4, Z5, Z6, Z7, Z8, Z9, Z10, resAll, Nat.reduceAdd, Nat.reduceEqDiff, Nat.reduceLeDiff, Nat.reduceMul, ↓reduceIte, reduceCtorEq, Nat.reduceBEq, aoper, Nat.reduceLT, Int.reduceEq, Int.reduceLT, Int.reduceLE]
      intro t' τ t2 t8 t1 hw hrk
      have hnn : σ.n + 2 ≤ τ.n := by have := hw.n; rw [grow_n] at this; exact this
      have hbox : ∀ M o n, (τ.grow M).loadN σ.fresh.n o n = sliceL (stL S (some ⟨c1, 0, none⟩) f1 (some ⟨c2, 0, none⟩) f2) o n := fun M o n => by
        rw [(hw.grow M).load o n (by rw [grow_n]; simp) (by rintro (e | e) <;> omega), ld_0]
      have hA2 := hAl (pw x.bits).toNat
      have w2 : ∀ M, (τ.grow M).t.get c2 = some (rowOf (flatL thingL (A (pw x.bits).toNat).1.th, 13)) := fun M => (grow_old _ _ (by omega)).trans hrk.th
      have hset := flatL_set (cells := thingL) (es := 13) (fun _ => rfl) zeroT (A (pw x.bits).toNat).1.th n (by rw [hA2.th]; exact hnl)
      simp only [zeroT, thingL] at hset
      have hlen : n * 13 + 13 ≤ (flatL thingL (A (pw x.bits).toNat).1.th).length := by rw [flatL_length (es := 13) (fun _ => rfl), hA2.th]; omega
      rw [← grow_nil τ]
      simp (disch := omega) only [t2, t8, t1, hbox, q1, Int.toNat_natCast, st_gen, rowSt_row, w2, hlen, hset, hend, r0_take_lost, r1_take_lost, r2_take_lost, r3_take_lost, r4_take_lost, k3_take_lost, r5_take_lost, r6_take_lost, r7_take_lost, r8_take_lost, r9_take_lost, r10_take_lost, k10_take_lost, k9_take_lost, r11_take_lost, k11_take_lost, k8_take_lost, k7_take_lost, k6_take_lost, r12_take_lost, r13_take_lost, k13_take_lost, k12_take_lost, k5_take_lost, k4_take_lost, k2_take_lost, k1_take_lost, k0_take_lost, c_take_lost, Z0, Z1, Z2, Z3, Z4, Z5, Z6, Z7, Z8, Z9, Z10, resAll, Nat.reduceAdd, Nat.reduceEqDiff, Nat.reduceLeDiff, Nat.reduceMul, ↓reduceIte, reduceCtorEq, Nat.reduceBEq, aoper, Nat.reduceLT, Int.reduceEq, Int.reduceLT, Int.reduceLE]
      refine ⟨⟨(putM_far hne).trans ((grow_old _ _ (by omega)).trans hrk.sl), putM_get⟩, (hk0.wr.trans (hw.grow _)).trans (putM_wr (.inr rfl))⟩
end Go.Proofs.YtidmcpkbcphpiaaGreat
namespace Go.Proofs.YtidmcpkbcphpiaaGreat
open Go Go.Hai

def ne (S : StD) : Int := ((S.sl.countP fun x => !(capNone x) : Nat) : Int)
theorem ne_le (S : StD) : 0 ≤ ne S ∧ ne S ≤ S.sl.length := by unfold ne; have := List.countP_le_length (p := fun x => !(capNone x)) (l := S.sl); omega
theorem emp1_ne (S : StD) (i : Int) : bInt (emp1 S i).2 + ne (emp1 S i).1 = ne S := by
  rcases emp1_cases S i with h | ⟨x, hx, hc, h⟩
  · rw [h]; simp [bInt]
  · rw [h]
    obtain ⟨h1, _⟩ := atI_to hx
    have hl := (List.getElem?_eq_some_iff.1 h1).1
    have hg := (List.getElem?_eq_some_iff.1 h1).2
    unfold ne empS
    simp only
    rw [List.countP_set (by rw [List.length_map]; exact hl), List.countP_map]
    have e : ((fun x => !(capNone x)) ∘ eUp i x.up) = fun x => !(capNone x) := by funext y; simp [Function.comp, eUp_cap]
    have e2 : (!(capNone ((S.sl.map (eUp i x.up))[i.toNat]'(by rw [List.length_map]; exact hl)))) = true := by rw [List.getElem_map, eUp_cap, hg, hc]; rfl
    have e3 : capNone noneS = true := by decide
    rw [e, e2, e3]
    have hp : 0 < S.sl.countP fun x => !(capNone x) := List.countP_pos_iff.2 ⟨x, List.mem_of_getElem? h1, by rw [hc]; rfl⟩
    simp [bInt]
    omega
theorem empL_snoc (S : StD) : ∀ (l : List Int) (z : Int), empL S (l ++ [z]) = ((emp1 (empL S l).1 z).1, (empL S l).2 + bInt (emp1 (empL S l).1 z).2) := by
  intro l
  induction l generalizing S with
  | nil => intro z; simp [empL]
  | cons i l ih =>
    intro z
    simp only [List.cons_append, empL, ih, Int.add_assoc]
theorem empL_le (S : StD) : ∀ l : List Int, 0 ≤ (empL S l).2 ∧ (empL S l).2 ≤ l.length := by
  intro l
  induction l generalizing S with
  | nil => simp [empL]
  | cons i l ih => simp only [empL, List.length_cons]; have := ih (emp1 S i).1; have := bInt_le (emp1 S i).2; omega
theorem setT_alike (S : StD) (t : Nat) (x : ThingD) : Shp S (setT S t x) := ⟨rfl, rfl, rfl, rfl, by simp [setT]⟩
theorem shp_inv {S0 : StD} : (∀ S i, Shp S0 S → Shp S0 (emp1 S i).1) ∧ (∀ S t, Shp S0 S → Shp S0 (setT S t zeroT)) := ⟨fun S i h => h.trans (emp1_alike S i), fun S t h => h.trans (setT_alike S t zeroT)⟩
theorem empL_alike (S : StD) (l : List Int) : Shp S (empL S l).1 := empL_inv shp_inv.1 l S (Shp.refl S)
theorem sweep_alike (S : StD) (k : Nat) : Shp S (sweep S k).1 := sweep_inv shp_inv.1 shp_inv.2 S (Shp.refl S) k
theorem sweeps_alike (f : Nat) (S : StD) : Shp S (sweeps f S).1 := sweeps_inv shp_inv.1 shp_inv.2 f S (Shp.refl S)
theorem takeF_alike (S : StD) (l : List Int) : Shp S (takeF S l).1 := by
  unfold takeF
  split
  · exact (empL_alike S l).trans (sweeps_alike _ _)
  · exact Shp.refl S
theorem lostF_pos (S : StD) (t : Nat) : 0 ≤ (lostF S t).2.1 := by
  unfold lostF
  split
  · simp
  · split
    · simp
    · split
      · exact (empR_le _ _ _).1
      · simp
theorem sweep_pos (S : StD) : ∀ k, 0 ≤ (sweep S k).2.1 := by
  intro k
  induction k with
  | zero => simp [sweep]
  | succ k ih => simp only [sweep]; have := lostF_pos (sweep S k).1 k; omega
theorem sweep_ne (S : StD) (k : Nat) : (sweep S k).2.1 + ne (sweep S k).1 = ne S := by
  have := sweep_cnt (P := fun T n => n + ne T = ne S) (fun T i n h => by have := emp1_ne T i; omega) (fun T t n h => h) S 0 (by simp) k
  simpa using this
theorem empL_ne (S : StD) (l : List Int) : (empL S l).2 + ne (empL S l).1 = ne S := by
  have := empL_cnt (P := fun T n => n + ne T = ne S) (fun T i n h => by have := emp1_ne T i; omega) l S 0 (by simp)
  simpa using this
/- things that are there -/
def isThere (t : ThingD) : Bool := !(decide (t.type = 0))
theorem live_eq (S : StD) : live S = S.th.countP isThere := rfl
theorem eFrm_type (i : Int) (t : ThingD) : (eFrm i t).type = t.type := by unfold eFrm; split <;> rfl
theorem emp1_live (S : StD) (i : Int) : live (emp1 S i).1 = live S := by
  rcases emp1_cases S i with h | ⟨x, hx, hc, h⟩
  · rw [h]
  · rw [h, live_eq, live_eq]
    unfold empS
    simp only
    rw [List.countP_map]
    congr 1
    funext t
    simp [Function.comp, isThere, eFrm_type]
theorem emp1_type (S : StD) (i : Int) (k : Nat) : ((emp1 S i).1.th[k]?).map (·.type) = (S.th[k]?).map (·.type) := by
  rcases emp1_cases S i with h | ⟨x, hx, hc, h⟩
  · rw [h]
  · rw [h]; unfold empS; simp only [List.getElem?_map, Option.map_map]; congr 1; funext t; simp [Function.comp, eFrm_type]
theorem empR_live (S : StD) (base : Int) : ∀ k, live (empR S base k).1 = live S := by
  intro k
  induction k with
  | zero => rfl
  | succ k ih => simp only [empR]; rw [emp1_live, ih]
theorem empR_type (S : StD) (base : Int) (j : Nat) : ∀ k, ((empR S base k).1.th[j]?).map (·.type) = (S.th[j]?).map (·.type) := by
  intro k
  induction k with
  | zero => rfl
  | succ k ih => simp only [empR]; rw [emp1_type, ih]
theorem setT_live {S : StD} {t : Nat} (h : ∃ n, (S.th[t]?).map (·.type) = some n ∧ n ≠ 0) : live (setT S t zeroT) + 1 = live S := by
  obtain ⟨n, hn, h0⟩ := h
  cases hx : S.th[t]? with
  | none => rw [hx] at hn; cases hn
  | some x =>
    rw [hx] at hn
    simp at hn
    have hl := (List.getElem?_eq_some_iff.1 hx).1
    have hg := (List.getElem?_eq_some_iff.1 hx).2
    have hs : isThere x = true := by unfold isThere; rw [hn]; simp [h0]
    rw [live_eq, live_eq]
    unfold setT
    simp only
    rw [List.countP_set hl, hg, hs]
    have hp : 0 < S.th.countP isThere := List.countP_pos_iff.2 ⟨x, List.mem_of_getElem? hx, hs⟩
    have hz : isThere zeroT = false := by decide
    rw [hz]
    simp
    omega
theorem lostF_live (S : StD) (t : Nat) : live (lostF S t).1 ≤ live S ∧ ((lostF S t).2.2 = true → live (lostF S t).1 < live S) := by
  unfold lostF
  split
  · exact ⟨Nat.le_refl _, fun h => by cases h⟩
  · next x hx =>
    split
    · exact ⟨Nat.le_refl _, fun h => by cases h⟩
    · next hs =>
      have h0 : x.type ≠ 0 := fun e => hs (by unfold stays; simp [e])
      split
      · have h1 := setT_live (S := (empR S x.base (pw x.bits).toNat).1) (t := t) ⟨x.type, by rw [empR_type, hx]; rfl, h0⟩
        rw [empR_live] at h1
        simp only
        omega
      · have h1 := setT_live (S := S) (t := t) ⟨x.type, by rw [hx]; rfl, h0⟩
        simp only
        omega
theorem sweep_live (S : StD) : ∀ k, live (sweep S k).1 ≤ live S ∧ ((sweep S k).2.2 = true → live (sweep S k).1 < live S) := by
  intro k
  induction k with
  | zero => exact ⟨Nat.le_refl _, fun h => by cases h⟩
  | succ k ih =>
    have h1 := lostF_live (sweep S k).1 k
    simp only [sweep, Bool.or_eq_true]
    refine ⟨by omega, fun h => ?_⟩
    rcases h with h | h
    · have := h1.2 h; omega
    · have := ih.2 h; omega
/- bits -/
def bitsAll (S : StD) : Prop := ∀ (i : Nat) (x : ThingD), S.th[i]? = some x → bitsOk x
theorem bits_inv : (∀ S i, bitsAll S → bitsAll (emp1 S i).1) ∧ (∀ S t, bitsAll S → bitsAll (setT S t zeroT)) := by
  refine ⟨fun S i h => ?_, fun S t h => ?_⟩
  · rcases emp1_cases S i with e | ⟨x, hx, hc, e⟩
    · rw [e]; exact h
    · rw [e]
      intro j y hy
      unfold empS at hy
      simp only [List.getElem?_map] at hy
      cases hz : S.th[j]? with
      | none => rw [hz] at hy; cases hy
      | some z =>
        rw [hz] at hy
        simp at hy
        have := h j z hz
        rw [← hy]
        unfold eFrm
        split
        · exact this
        · exact this
  · intro j y hy
    rw [setT_th] at hy
    split at hy
    · split at hy
      · simp at hy; rw [← hy]; unfold bitsOk; decide
      · cases hy
    · exact h j y hy
theorem bits_of {S : StD} (h : thingsB S = true) : bitsAll S := fun i x hx => by
  have hg := thGood_of h i x hx
  by_cases h2 : x.type = 2
  · have := thGood_node hg h2
    have hp := pw_le (b := x.bits) (by omega) (by omega)
    exact ⟨by omega, fun _ => by omega⟩
  · have hb : x.bits = 0 := by
      unfold thGood at hg
      simp only [Bool.and_eq_true] at hg
      have := thEq_eq hg.1
      rw [← this]
      unfold thOwn
      split
      · rfl
      · first | rfl | (split <;> first | rfl | (split <;> first | rfl | (split <;> first | rfl | (split <;> first | rfl | (split <;> rfl)))))
    exact ⟨by omega, fun h => absurd h h2⟩
theorem sweeps_step {S : StD} {f : Nat} : sweeps (f + 1) S = if (sweep S S.th.length).2.2 = true then ((sweeps f (sweep S S.th.length).1).1, (sweep S S.th.length).2.1 + (sweeps f (sweep S S.th.length).1).2) else ((sweep S S.th.length).1, (sweep S S.th.length).2.1) := rfl
end Go.Proofs.YtidmcpkbcphpiaaGreat
namespace Go.Proofs.YtidmcpkbcphpiaaGreat
open Go Go.Hai
set_option maxRecDepth 20000
set_option linter.unusedSimpArgs false
set_option maxHeartbeats 8000000
attribute [local irreducible] Hai.Ends EndsR EndsO EndsD EndsX EndsE EndsK AHeap.grow AHeap.putR AHeap.putM okLow inN
def r0_take_Empty : List AOper := [(.mk (some 2) none (.box 5 (.tmp 0))), (.mk (some 4) none (.alloc [(.int .i64 0), (.int .i64 0), (.int .i64 0), (.slice none 0 0), (.slice none 0 0)] 5)), (.mk (some 5) none (.mv (.const (.int .i64 0))))]
def r1_take_Empty : List AOper := [(.mk (some 13) none (.load true 5 (.tmp 2))), (.mk (some 14) none (.call 15 [(.tmp 13)])), (.mk none none (.store 5 (.tmp 2) (.tmp 14)))]
def r2_take_Empty : List AOper := [(.mk (some 15) none (.load true 5 (.tmp 2))), (.mk (some 16) none (.call 14 [(.tmp 15)])), (.mk (some 17) none (.un .not (.tmp 16)))]
def r3_take_Empty : List AOper := [(.mk (some 18) none (.load true 5 (.tmp 2))), (.mk none none (.store 5 (.tmp 4) (.tmp 18))), (.mk (some 5) none (.mv (.const (.int .i64 0))))]
def k2_take_Empty : ACode := (.cond (.tmp 17) (.seq (.reg r3_take_Empty) .ret) .skip)
def r4_take_Empty : List AOper := [(.mk (some 6) none (.mv (.const (.int .i64 0))))]
def r5_take_Empty : List AOper := [(.mk (some 19) none (.mv (.tmp 1))), (.mk (some 20) none (.lenS (.tmp 19))), (.mk (some 21) none (.mv (.const (.int .i64 0))))]
def r6_take_Empty : List AOper := [(.mk (some 22) none (.bin .lss (.tmp 21) (.tmp 20)))]
def r7_take_Empty : List AOper := [(.mk (some 23) none (.idxA 1 (.tmp 19) (.tmp 21))), (.mk (some 24) none (.load false 1 (.tmp 23))), (.mk (some 8) none (.mv (.tmp 24)))]
def r8_take_Empty : List AOper := [(.mk (some 25) none (.load true 5 (.tmp 2))), (.mk (some 26) none (.mv (.tmp 8))), (.mk (some 27) none (.call 98 [(.tmp 25), (.tmp 26)]))]
def r9_take_Empty : List AOper := [(.mk (some 28) none (.mv (.tmp 6))), (.mk (some 29) none (.bin .add (.tmp 28) (.const (.int .i64 1)))), (.mk (some 6) none (.mv (.tmp 29)))]
def k9_take_Empty : ACode := (.cond (.tmp 27) (.reg r9_take_Empty) .skip)
def k8_take_Empty : ACode := (.seq (.reg r8_take_Empty) k9_take_Empty)
def r10_take_Empty : List AOper := [(.mk (some 30) none (.bin .add (.tmp 21) (.const (.int .i64 1)))), (.mk (some 21) none (.mv (.tmp 30)))]
def k10_take_Empty : ACode := (.reg r10_take_Empty)
def k7_take_Empty : ACode := (.seq (.block 1 (.seq (.reg r7_take_Empty) k8_take_Empty)) k10_take_Empty)
def k6_take_Empty : ACode := (.seq (.cond (.tmp 22) .skip (.exit 0)) k7_take_Empty)
def b0_take_Empty : ACode := (.seq (.reg r6_take_Empty) k6_take_Empty)
def k5_take_Empty : ACode := (.block 0 (.loop b0_take_Empty))
def r11_take_Empty : List AOper := [(.mk (some 9) none (.mv (.const (.bool true))))]
def r12_take_Empty : List AOper := [(.mk (some 31) none (.mv (.tmp 9)))]
def k13_take_Empty : ACode := (.cond (.tmp 31) .skip (.exit 2))
def r13_take_Empty : List AOper := [(.mk (some 9) none (.mv (.const (.bool false))))]
def r14_take_Empty : List AOper := [(.mk (some 32) none (.fldA 4 (.tmp 2))), (.mk (some 33) none (.load false 1 (.tmp 32))), (.mk (some 34) none (.lenS (.tmp 33))), (.mk (some 35) none (.mv (.const (.int .i64 0))))]
def r15_take_Empty : List AOper := [(.mk (some 36) none (.bin .lss (.tmp 35) (.tmp 34)))]
def r16_take_Empty : List AOper := [(.mk (some 37) none (.mv (.tmp 35))), (.mk (some 10) none (.mv (.tmp 37)))]
def r17_take_Empty : List AOper := [(.mk (some 39) none (.load true 5 (.tmp 2))), (.mk (some 40) none (.mv (.tmp 10))), (.mk (some 41) none (.call 99 [(.tmp 39), (.tmp 40)])), (.mk (some 38) none (.mv (.tmp 41))), (.mk (some 42) none (.ext (.tmp 38) 0)), (.mk (some 43) none (.ext (.tmp 38) 1)), (.mk (some 11) none (.mv (.tmp 42))), (.mk (some 12) none (.mv (.tmp 43)))]
def r18_take_Empty : List AOper := [(.mk (some 44) none (.mv (.tmp 6))), (.mk (some 45) none (.mv (.tmp 11))), (.mk (some 46) none (.bin .add (.tmp 44) (.tmp 45))), (.mk (some 6) none (.mv (.tmp 46)))]
def r19_take_Empty : List AOper := [(.mk (some 47) none (.mv (.tmp 12))), (.mk (some 48) none (.mv (.tmp 47))), (.mk (some 49) (some (48, false)) (.mv (.tmp 9))), (.mk (some 50) none (.pick (.tmp 48) (.const (.bool true)) (.tmp 49))), (.mk (some 9) none (.mv (.tmp 50)))]
def k21_take_Empty : ACode := (.reg r19_take_Empty)
def k20_take_Empty : ACode := (.seq (.reg r18_take_Empty) k21_take_Empty)
def k19_take_Empty : ACode := (.seq (.reg r17_take_Empty) k20_take_Empty)
def r20_take_Empty : List AOper := [(.mk (some 51) none (.bin .add (.tmp 35) (.const (.int .i64 1)))), (.mk (some 35) none (.mv (.tmp 51)))]
def k22_take_Empty : ACode := (.reg r20_take_Empty)
def k18_take_Empty : ACode := (.seq (.block 5 (.seq (.reg r16_take_Empty) k19_take_Empty)) k22_take_Empty)
def k17_take_Empty : ACode := (.seq (.cond (.tmp 36) .skip (.exit 4)) k18_take_Empty)
def b2_take_Empty : ACode := (.seq (.reg r15_take_Empty) k17_take_Empty)
def k16_take_Empty : ACode := (.block 4 (.loop b2_take_Empty))
def k15_take_Empty : ACode := (.seq (.reg r14_take_Empty) k16_take_Empty)
def k14_take_Empty : ACode := (.block 3 (.seq (.reg r13_take_Empty) k15_take_Empty))
def b1_take_Empty : ACode := (.seq (.seq (.reg r12_take_Empty) k13_take_Empty) k14_take_Empty)
def k12_take_Empty : ACode := (.block 2 (.loop b1_take_Empty))
def r21_take_Empty : List AOper := [(.mk (some 52) none (.load true 5 (.tmp 2))), (.mk (some 53) none (.mv (.tmp 6))), (.mk none none (.store 5 (.tmp 4) (.tmp 52))), (.mk (some 5) none (.mv (.tmp 53)))]
def k23_take_Empty : ACode := (.seq (.reg r21_take_Empty) .ret)
def k11_take_Empty : ACode := (.seq (.seq (.reg r11_take_Empty) k12_take_Empty) k23_take_Empty)
def k4_take_Empty : ACode := (.seq (.seq (.reg r5_take_Empty) k5_take_Empty) k11_take_Empty)
def k3_take_Empty : ACode := (.seq (.reg r4_take_Empty) k4_take_Empty)
def k1_take_Empty : ACode := (.seq (.seq (.reg r2_take_Empty) k2_take_Empty) k3_take_Empty)
def k0_take_Empty : ACode := (.seq (.reg r1_take_Empty) k1_take_Empty)
def c_take_Empty : ACode := (.seq (.reg r0_take_Empty) k0_take_Empty)
theorem e_take_Empty : ofProg Tryz.prog 39 = some ⟨54, [(.cell 4 true 5), (.tmp 5)], c_take_Empty⟩ := by kernel_rfl

theorem take_Empty_ok (d : Nat) (σ : AHeap) (S : StD) (b1 f1 b2 f2 : Nat) (l : List Int) (a : Option Addr) (f : Nat) (hg : goodB S = true) (hd : σ.dead = []) (hlo : σ.low ≤ σ.n)
    (h1 : SlAt slotL 5 σ b1 S.sl) (h2 : SlAt thingL 13 σ b2 S.th) (h3 : SlI σ a l) (hl : l.length < 1000) :
    ∃ v τ, acall (ofProg Tryz.prog) 1000 (d + S.th.length + 9) 39 [stV S (some ⟨b1, 0, none⟩) f1 (some ⟨b2, 0, none⟩) f2, .slice a l.length f] σ = some (.tuple [v, i64 (takeF S l).2].toArray, τ) ∧ StOut σ b1 b2 (takeF S l).1 v τ := by
  suffices hs : Hai.Ends (acode (acall (ofProg Tryz.prog) 1000 (d + S.th.length + 8)) 1000 c_take_Empty (Tr.of [stV S (some ⟨b1, 0, none⟩) f1 (some ⟨b2, 0, none⟩) f2, .slice a l.length f]) (σ.fresh.grow []))
      (finA σ.n [.cell 4 true 5, .tmp 5] fun v τ => ∃ u, v = .tuple [u, i64 (takeF S l).2].toArray ∧ StOut σ.fresh b1 b2 (takeF S l).1 u τ) by
    obtain ⟨v, τ', e, τ, ⟨u, rfl, a1', f1', a2', f2', rfl, g1, g2, g3, g4⟩, g⟩ := acall_addr e_take_Empty (by simp) hlo hs
    rcases g with ⟨g, _⟩ | rfl
    · cases g
    · exact ⟨_, _, e, _, _, _, _, rfl, g1, g2, g3.back, g4⟩
  obtain ⟨m1, m2, m3, m4⟩ := good_len hg
  have hk0 := Keeps.self σ.fresh [(stL S (some ⟨b1, 0, none⟩) f1 (some ⟨b2, 0, none⟩) f2, 5), ([.int .i64 0, .int .i64 0, .int .i64 0, .slice none 0 0, .slice none 0 0], 5)]
  obtain ⟨c1, c2, τ1, e1, k1, p1, p2, p3, r1, r2⟩ := state_Clone_ok (d + S.th.length + 6) _ S b1 f1 b2 f2 (low_grow fresh_le _) (SlAt.keeps (σ := σ.fresh) h1 hk0) (SlAt.keeps (σ := σ.fresh) h2 hk0) m1 m2 m3 m4
  rw [grow_n] at p1
  simp only [List.length_cons, List.length_nil, Nat.reduceAdd] at p1
  have hfn : σ.fresh.n = σ.n := rfl
  have hfl : σ.fresh.low = σ.n := rfl
  have q0 := k1.rows 0 rfl
  have q1 := k1.rows 1 rfl
  rw [Nat.add_zero] at q0
  have w1 : τ1.low = σ.fresh.n := by rw [k1.low, grow_low]; rfl
  simp (disch := omega) only [e1, st_gen, rowSt_row, putM_R, q0, w1, Nat.le_refl, r0_take_Empty, r1_take_Empty, r2_take_Empty, r3_take_Empty, k2_take_Empty, r4_take_Empty, r5_take_Empty, r6_take_Empty, r7_take_Empty, r8_take_Empty, r9_take_Empty, k9_take_Empty, k8_take_Empty, r10_take_Empty, k10_take_Empty, k7_take_Empty, k6_take_Empty, k5_take_Empty, r11_take_Empty, r12_take_Empty, k13_take_Empty, r13_take_Empty, r14_take_Empty, r15_take_Empty, r16_take_Empty, r17_take_Empty, r18_take_Empty, r19_take_Empty, k21_take_Empty, k20_take_Empty, k19_take_Empty, r20_take_Empty, k22_take_Empty, k18_take_Empty, k17_take_Empty, k16_take_Empty, k15_take_Empty, k14_take_Empty, k12_take_Empty, r21_take_Empty, k23_take_Empty, k11_take_Empty, k4_take_Empty, k3_take_Empty, k1_take_Empty, k0_take_Empty, c_take_Empty, Z0, Z1, Z2, Z3, Z4, Z5, Z6, Z7, Z8, Z9, Z10, resAll, Nat.reduceAdd, Nat.reduceEqDiff, Nat.reduceLeDiff, Nat.reduceMul, ↓reduceIte, reduceCtorEq, Nat.reduceBEq, aoper, Nat.reduceLT, Int.reduceEq, Int.reduceLT, Int.reduceLE]
  have kk := hk0.trans k1
  have kw := kk.putR (Nat.le_refl σ.fresh.n) (stL S (some ⟨c1, 0, none⟩) 1 (some ⟨c2, 0, none⟩) 1) 5
  have x0 : (τ1.putR σ.fresh.n (stL S (some ⟨c1, 0, none⟩) 1 (some ⟨c2, 0, none⟩) 1) 5).t.get σ.fresh.n = _ := putR_get
  have x1 := (putR_far (τ := τ1) (b := σ.fresh.n) (l := stL S (some ⟨c1, 0, none⟩) 1 (some ⟨c2, 0, none⟩) 1) (e := 5) (c := σ.fresh.n + 1) (by omega)).trans q1
  have y1 := (putR_far (τ := τ1) (b := σ.fresh.n) (l := stL S (some ⟨c1, 0, none⟩) 1 (some ⟨c2, 0, none⟩) 1) (e := 5) (c := c1) (by omega)).trans r1
  have y2 := (putR_far (τ := τ1) (b := σ.fresh.n) (l := stL S (some ⟨c1, 0, none⟩) 1 (some ⟨c2, 0, none⟩) 1) (e := 5) (c := c2) (by omega)).trans r2
  have n2 : c2 < (τ1.putR σ.fresh.n (stL S (some ⟨c1, 0, none⟩) 1 (some ⟨c2, 0, none⟩) 1) 5).n := by rw [putR_n]; exact p3
  have w2 : (τ1.putR σ.fresh.n (stL S (some ⟨c1, 0, none⟩) 1 (some ⟨c2, 0, none⟩) 1) 5).low = σ.n := by rw [putR_low]; exact w1
  generalize hτ2 : τ1.putR σ.fresh.n (stL S (some ⟨c1, 0, none⟩) 1 (some ⟨c2, 0, none⟩) 1) 5 = τ2 at *
  clear hτ2 q0 q1 w1 p3 r1 r2 e1 k1 kk
  have hd2 : τ2.dead = [] := kw.dead.trans hd
  have hrow : RowsAt τ2 c1 c2 S := ⟨y1, y2⟩
  have hgood := fun M => state_Good_ok d (τ2.grow M) S (some ⟨c1, 0, none⟩) 1 (some ⟨c2, 0, none⟩) 1 (by rw [grow_dead]; exact hd2) (.inr ⟨_, rfl, (hrow.s (by omega)).keeps (Keeps.self _ M)⟩) (.inr ⟨_, rfl, (hrow.t n2).keeps (Keeps.self _ M)⟩)
  have hb0 : ∀ M o n, (τ2.grow M).loadN σ.fresh.n o n = sliceL (stL S (some ⟨c1, 0, none⟩) 1 (some ⟨c2, 0, none⟩) 1) o n := fun M o n => load_sl ((grow_old _ _ (by omega)).trans x0) o n
  rw [← grow_nil τ2]
  simp (disch := omega) only [hb0, hgood, hg, r0_take_Empty, r1_take_Empty, r2_take_Empty, r3_take_Empty, k2_take_Empty, r4_take_Empty, r5_take_Empty, r6_take_Empty, r7_take_Empty, r8_take_Empty, r9_take_Empty, k9_take_Empty, k8_take_Empty, r10_take_Empty, k10_take_Empty, k7_take_Empty, k6_take_Empty, k5_take_Empty, r11_take_Empty, r12_take_Empty, k13_take_Empty, r13_take_Empty, r14_take_Empty, r15_take_Empty, r16_take_Empty, r17_take_Empty, r18_take_Empty, r19_take_Empty, k21_take_Empty, k20_take_Empty, k19_take_Empty, r20_take_Empty, k22_take_Empty, k18_take_Empty, k17_take_Empty, k16_take_Empty, k15_take_Empty, k14_take_Empty, k12_take_Empty, r21_take_Empty, k23_take_Empty, k11_take_Empty, k4_take_Empty, k3_take_Empty, k1_take_Empty, k0_take_Empty, c_take_Empty, Z0, Z1, Z2, Z3, Z4, Z5, Z6, Z7, Z8, Z9, Z10, resAll, Nat.reduceAdd, Nat.reduceEqDiff, Nat.reduceLeDiff, Nat.reduceMul, ↓reduceIte, reduceCtorEq, Nat.reduceBEq, aoper, Nat.reduceLT, Int.reduceEq, Int.reduceLT, Int.reduceLE]
  have hfacts : ∀ τ, Wr (two c1 c2) τ2 τ → σ.n + 2 ≤ τ.n ∧ c2 < τ.n ∧ τ.low ≤ τ.n ∧ τ.low = σ.n ∧ (∀ M o n, (τ.grow M).loadN σ.fresh.n o n = sliceL (stL S (some ⟨c1, 0, none⟩) 1 (some ⟨c2, 0, none⟩) 1) o n) ∧ τ.t.get (σ.fresh.n + 1) = some (rowOf ([.int .i64 0, .int .i64 0, .int .i64 0, .slice none 0 0, .slice none 0 0], 5)) ∧ Keeps σ.fresh τ := fun τ hw => by
    have hn := hw.n
    have hl1 := hw.low
    have hl2 := hw.bnd σ.n (by omega) (by omega) (by rintro b (rfl | rfl) <;> omega)
    refine ⟨by omega, by omega, by omega, by omega, fun M o n => ?_, ?_, ⟨by omega, by omega, hw.dead.trans kw.dead, fun b hb => ?_⟩⟩
    · rw [(hw.grow M).load o n (by omega) (by rintro (e | e) <;> omega)]; exact load_sl x0 o n
    · exact (hw.row _ (by omega) (by rintro (e | e) <;> omega)).trans x1
    · exact (hw.row _ (by omega) (by rintro (e | e) <;> omega)).trans (kw.row b hb)
  have hrow0 : RowsAt (τ2.grow []) c1 c2 S := hrow.keeps (Keeps.self _ _) (by omega) n2
  refine ends_loop (fun i t τ => tget t 19 = .slice a l.length f ∧ tget t 20 = i64 l.length ∧ tget t 21 = i64 i ∧ tget t 2 = here σ.fresh.n 0 ∧ tget t 4 = here (σ.fresh.n + 1) 0 ∧ tget t 6 = i64 (empL S (l.take i)).2 ∧ Wr (two c1 c2) τ2 τ ∧ RowsAt τ c1 c2 (empL S (l.take i)).1) l.length hl ⟨?_, ?_, ?_, ?_, ?_, ?_, (Keeps.self _ _).wr, hrow0⟩ ?_
  iterate 6 simp (disch := omega) only [Int.natCast_zero, Int.ofNat_zero, List.take_zero, empL, r0_take_Empty, r1_take_Empty, r2_take_Empty, r3_take_Empty, k2_take_Empty, r4_take_Empty, r5_take_Empty, r6_take_Empty, r7_take_Empty, r8_take_Empty, r9_take_Empty, k9_take_Empty, k8_take_Empty, r10_take_Empty, k10_take_Empty, k7_take_Empty, k6_take_Empty, k5_take_Empty, r11_take_Empty, r12_take_Empty, k13_take_Empty, r13_take_Empty, r14_take_Empty, r15_take_Empty, r16_take_Empty, r17_take_Empty, r18_take_Empty, r19_take_Empty, k21_take_Empty, k20_take_Empty, k19_take_Empty, r20_take_Empty, k22_take_Empty, k18_take_Empty, k17_take_Empty, k16_take_Empty, k15_take_Empty, k14_take_Empty, k12_take_Empty, r21_take_Empty, k23_take_Empty, k11_take_Empty, k4_take_Empty, k3_take_Empty, k1_take_Empty, k0_take_Empty, c_take_Empty, Z0, Z1, Z2, Z3, Z4, Z5, Z6, Z7, Z8, Z9, Z10, resAll, Nat.reduceAdd, Nat.reduceEqDiff, Nat.reduceLeDiff, Nat.reduceMul, ↓reduceIte, reduceCtorEq, Nat.reduceBEq, aoper, Nat.reduceLT, Int.reduceEq, Int.reduceLT, Int.reduceLE]
  rintro i t τ hi ⟨t19, t20, t21, t2, t4, t6, hw, hr⟩
  obtain ⟨w3, w4, w5, w6, hbox, w7, w8⟩ := hfacts τ hw
  rw [← grow_nil τ]
  have hS := empL_alike S (l.take i)
  have hm := empL_le S (l.take i)
  have hlt0 : (l.take i).length ≤ i := by rw [List.length_take]; omega
  by_cases hlt : i < l.length
  · obtain ⟨b, rfl, hb⟩ := h3.fresh.at hlt
    have hx : l[i]? = some l[i] := List.getElem?_eq_getElem hlt
    generalize l[i] = z at hx
    have hld : ∀ M, (τ.grow M).loadN b i 1 = some [i64 z] := fun M => by
      rw [w8.loadG M _ _ hb.1]
      have := hb.2 i z hx 0 1 (by omega)
      rw [Nat.mul_one, Nat.add_zero] at this
      exact this
    have hlt' : (i : Int) < (l.length : Int) := by omega
    have hcast : ((i + 1 : Nat) : Int) = (i : Int) + 1 := by omega
    have hsn : empL S (l.take (i + 1)) = ((emp1 (empL S (l.take i)).1 z).1, (empL S (l.take i)).2 + bInt (emp1 (empL S (l.take i)).1 z).2) := by rw [List.take_add_one, hx]; exact empL_snoc _ _ _
    obtain ⟨υ, e, u1, u2⟩ := take_empty_ok (d + S.th.length + 6) (τ.grow []) (empL S (l.take i)).1 c1 1 c2 1 z (low_grow w5 _) (by rw [grow_n]; omega) (by rw [grow_n]; omega) (by omega) (hr.keeps (Keeps.self _ _) (by omega) (by omega)) (by rw [hS.sl]; exact m2) (by rw [hS.th]; exact m4)
    rw [hS.stV] at e
    have hsn1 : (empL S (l.take (i + 1))).1 = (emp1 (empL S (l.take i)).1 z).1 := by rw [hsn]
    have hwk := (hw.grow []).trans u2
    cases ge : (emp1 (empL S (l.take i)).1 z).2 with
    | true =>
      have hsn2 : (empL S (l.take (i + 1))).2 = (empL S (l.take i)).2 + 1 := by rw [hsn, ge]; rfl
      simp (disch := omega) only [t19, t20, t21, t2, t4, t6, hlt', hlt, hcast, hbox, hld, Int.toNat_natCast, Nat.mul_one, e, ge, hsn2, r0_take_Empty, r1_take_Empty, r2_take_Empty, r3_take_Empty, k2_take_Empty, r4_take_Empty, r5_take_Empty, r6_take_Empty, r7_take_Empty, r8_take_Empty, r9_take_Empty, k9_take_Empty, k8_take_Empty, r10_take_Empty, k10_take_Empty, k7_take_Empty, k6_take_Empty, k5_take_Empty, r11_take_Empty, r12_take_Empty, k13_take_Empty, r13_take_Empty, r14_take_Empty, r15_take_Empty, r16_take_Empty, r17_take_Empty, r18_take_Empty, r19_take_Empty, k21_take_Empty, k20_take_Empty, k19_take_Empty, r20_take_Empty, k22_take_Empty, k18_take_Empty, k17_take_Empty, k16_take_Empty, k15_take_Empty, k14_take_Empty, k12_take_Empty, r21_take_Empty, k23_take_Empty, k11_take_Empty, k4_take_Empty, k3_take_Empty, k1_take_Empty, k0_take_Empty, b0_take_Empty, Z0, Z1, Z2, Z3, Z4, Z5, Z6, Z7, Z8, Z9, Z10, resAll, Nat.reduceAdd, Nat.reduceEqDiff, Nat.reduceLeDiff, Nat.reduceMul, ↓reduceIte, reduceCtorEq, Nat.reduceBEq, aoper, Nat.reduceLT, Int.reduceEq, Int.reduceLT, Int.reduceLE]
      rw [hsn1]
      exact ⟨hwk, u1⟩
    | false =>
      have hsn2 : (empL S (l.take (i + 1))).2 = (empL S (l.take i)).2 := by rw [hsn, ge]; simp [bInt]
      simp (disch := omega) only [t19, t20, t21, t2, t4, t6, hlt', hlt, hcast, hbox, hld, Int.toNat_natCast, Nat.mul_one, e, ge, hsn2, r0_take_Empty, r1_take_Empty, r2_take_Empty, r3_take_Empty, k2_take_Empty, r4_take_Empty, r5_take_Empty, r6_take_Empty, r7_take_Empty, r8_take_Empty, r9_take_Empty, k9_take_Empty, k8_take_Empty, r10_take_Empty, k10_take_Empty, k7_take_Empty, k6_take_Empty, k5_take_Empty, r11_take_Empty, r12_take_Empty, k13_take_Empty, r13_take_Empty, r14_take_Empty, r15_take_Empty, r16_take_Empty, r17_take_Empty, r18_take_Empty, r19_take_Empty, k21_take_Empty, k20_take_Empty, k19_take_Empty, r20_take_Empty, k22_take_Empty, k18_take_Empty, k17_take_Empty, k16_take_Empty, k15_take_Empty, k14_take_Empty, k12_take_Empty, r21_take_Empty, k23_take_Empty, k11_take_Empty, k4_take_Empty, k3_take_Empty, k1_take_Empty, k0_take_Empty, b0_take_Empty, Z0, Z1, Z2, Z3, Z4, Z5, Z6, Z7, Z8, Z9, Z10, resAll, Nat.reduceAdd, Nat.reduceEqDiff, Nat.reduceLeDiff, Nat.reduceMul, ↓reduceIte, reduceCtorEq, Nat.reduceBEq, aoper, Nat.reduceLT, Int.reduceEq, Int.reduceLT, Int.reduceLE]
      rw [hsn1]
      exact ⟨hwk, u1⟩
  · have hlt' : ¬ (i : Int) < (l.length : Int) := by omega
    rw [List.take_of_length_le (by omega)] at t6 hr hS hm
    clear hlt0
    simp (disch := omega) only [t19, t20, t21, hlt', r0_take_Empty, r1_take_Empty, r2_take_Empty, r3_take_Empty, k2_take_Empty, r4_take_Empty, r5_take_Empty, r6_take_Empty, r7_take_Empty, r8_take_Empty, r9_take_Empty, k9_take_Empty, k8_take_Empty, r10_take_Empty, k10_take_Empty, k7_take_Empty, k6_take_Empty, k5_take_Empty, r11_take_Empty, r12_take_Empty, k13_take_Empty, r13_take_Empty, r14_take_Empty, r15_take_Empty, r16_take_Empty, r17_take_Empty, r18_take_Empty, r19_take_Empty, k21_take_Empty, k20_take_Empty, k19_take_Empty, r20_take_Empty, k22_take_Empty, k18_take_Empty, k17_take_Empty, k16_take_Empty, k15_take_Empty, k14_take_Empty, k12_take_Empty, r21_take_Empty, k23_take_Empty, k11_take_Empty, k4_take_Empty, k3_take_Empty, k1_take_Empty, k0_take_Empty, b0_take_Empty, Z0, Z1, Z2, Z3, Z4, Z5, Z6, Z7, Z8, Z9, Z10, resAll, Nat.reduceAdd, Nat.reduceEqDiff, Nat.reduceLeDiff, Nat.reduceMul, ↓reduceIte, reduceCtorEq, Nat.reduceBEq, aoper, Nat.reduceLT, Int.reduceEq, Int.reduceLT, Int.reduceLE]
    have hT1 : (takeF S l).1 = (sweeps (live (empL S l).1 + 1) (empL S l).1).1 := by unfold takeF; rw [if_pos hg]
    have hT2 : (takeF S l).2 = (empL S l).2 + (sweeps (live (empL S l).1 + 1) (empL S l).1).2 := by unfold takeF; rw [if_pos hg]
    have hbits : bitsAll (empL S l).1 := empL_inv bits_inv.1 l S (bits_of (by unfold goodB at hg; simp only [Bool.and_eq_true] at hg; exact hg.1.1.1.1.2))
    have hne := empL_ne S l
    have hgeo := (goodF hg).geo
    have hgth := (goodF hg).th
    have hth : (0 ≤ S.threads ∧ S.threads ≤ 4) ∧ S.th.length ≤ 48 := by
      unfold goodGeo at hgeo
      omega
    obtain ⟨hth, h48⟩ := hth
    have hlive : live (empL S l).1 ≤ S.th.length := by rw [live_eq, ← hS.th]; exact List.countP_le_length
    have hneS := ne_le S
    generalize (empL S l).1 = S0 at *
    generalize (empL S l).2 = m0 at *
    have hr0 : RowsAt (τ.grow []) c1 c2 S0 := hr.keeps (Keeps.self _ _) (by omega) (by omega)
    refine ends_loop (fun j t τ => tget t 2 = here σ.fresh.n 0 ∧ tget t 4 = here (σ.fresh.n + 1) 0 ∧ Wr (two c1 c2) τ2 τ ∧ ∃ T m g, tget t 6 = i64 m ∧ tget t 9 = .bool g ∧ RowsAt τ c1 c2 T ∧ Shp S T ∧ bitsAll T ∧ 0 ≤ m ∧ m + ne T = ne S ∧
      ((g = true ∧ ∃ f, live T < f ∧ f + j ≤ live S0 + 1 ∧ (takeF S l).1 = (sweeps f T).1 ∧ (takeF S l).2 = m + (sweeps f T).2) ∨ (g = false ∧ (takeF S l).1 = T ∧ (takeF S l).2 = m))) (live S0 + 1) (by omega)
      ⟨?_, ?_, hw.grow _, S0, m0, true, ?_, ?_, hr0, hS, hbits, hm.1, hne, .inl ⟨rfl, live S0 + 1, by omega, by omega, hT1, hT2⟩⟩ ?_
    iterate 4 simp (disch := omega) only [t2, t4, t6, r0_take_Empty, r1_take_Empty, r2_take_Empty, r3_take_Empty, k2_take_Empty, r4_take_Empty, r5_take_Empty, r6_take_Empty, r7_take_Empty, r8_take_Empty, r9_take_Empty, k9_take_Empty, k8_take_Empty, r10_take_Empty, k10_take_Empty, k7_take_Empty, k6_take_Empty, k5_take_Empty, r11_take_Empty, r12_take_Empty, k13_take_Empty, r13_take_Empty, r14_take_Empty, r15_take_Empty, r16_take_Empty, r17_take_Empty, r18_take_Empty, r19_take_Empty, k21_take_Empty, k20_take_Empty, k19_take_Empty, r20_take_Empty, k22_take_Empty, k18_take_Empty, k17_take_Empty, k16_take_Empty, k15_take_Empty, k14_take_Empty, k12_take_Empty, r21_take_Empty, k23_take_Empty, k11_take_Empty, k4_take_Empty, k3_take_Empty, k1_take_Empty, k0_take_Empty, Z0, Z1, Z2, Z3, Z4, Z5, Z6, Z7, Z8, Z9, Z10, resAll, Nat.reduceAdd, Nat.reduceEqDiff, Nat.reduceLeDiff, Nat.reduceMul, ↓reduceIte, reduceCtorEq, Nat.reduceBEq, aoper, Nat.reduceLT, Int.reduceEq, Int.reduceLT, Int.reduceLE]
    clear hT1 hT2 hbits hne hr0 hr w3 w4 w5 w6 w7 w8 hbox hw t19 t20 t21 t2 t4 t6 hm hS hlt hlt' hi i t τ
    rintro j t τ hj ⟨t2, t4, hw, T, m, g, t6, t9, hr, hS, hbits, hm0, hme, hfin⟩
    obtain ⟨w3, w4, w5, w6, hbox, w7, w8⟩ := hfacts τ hw
    rw [← grow_nil τ]
    rcases hfin with ⟨rfl, fu, z1, z2, z3, z4⟩ | ⟨rfl, z3, z4⟩
    · simp (disch := omega) only [t2, t4, t6, t9, hbox, r0_take_Empty, r1_take_Empty, r2_take_Empty, r3_take_Empty, k2_take_Empty, r4_take_Empty, r5_take_Empty, r6_take_Empty, r7_take_Empty, r8_take_Empty, r9_take_Empty, k9_take_Empty, k8_take_Empty, r10_take_Empty, k10_take_Empty, k7_take_Empty, k6_take_Empty, k5_take_Empty, r11_take_Empty, r12_take_Empty, k13_take_Empty, r13_take_Empty, r14_take_Empty, r15_take_Empty, r16_take_Empty, r17_take_Empty, r18_take_Empty, r19_take_Empty, k21_take_Empty, k20_take_Empty, k19_take_Empty, r20_take_Empty, k22_take_Empty, k18_take_Empty, k17_take_Empty, k16_take_Empty, k15_take_Empty, k14_take_Empty, k12_take_Empty, r21_take_Empty, k23_take_Empty, k11_take_Empty, k4_take_Empty, k3_take_Empty, k1_take_Empty, k0_take_Empty, b1_take_Empty, Z0, Z1, Z2, Z3, Z4, Z5, Z6, Z7, Z8, Z9, Z10, resAll, Nat.reduceAdd, Nat.reduceEqDiff, Nat.reduceLeDiff, Nat.reduceMul, ↓reduceIte, reduceCtorEq, Nat.reduceBEq, aoper, Nat.reduceLT, Int.reduceEq, Int.reduceLT, Int.reduceLE]
      obtain ⟨fu, rfl⟩ : ∃ f', fu = f' + 1 := ⟨fu - 1, by omega⟩
      have hneT := ne_le T
      refine ends_loop (fun k t τ => tget t 34 = i64 S.th.length ∧ tget t 35 = i64 k ∧ tget t 2 = here σ.fresh.n 0 ∧ tget t 4 = here (σ.fresh.n + 1) 0 ∧ tget t 6 = i64 (m + (sweep T k).2.1) ∧ tget t 9 = .bool (sweep T k).2.2 ∧ Wr (two c1 c2) τ2 τ ∧ RowsAt τ c1 c2 (sweep T k).1) S.th.length m4
        ⟨?_, ?_, ?_, ?_, ?_, ?_, hw.grow _, hr.keeps (Keeps.self _ _) (by omega) (by omega)⟩ ?_
      iterate 6 simp (disch := omega) only [t2, t4, t6, sweep, Int.natCast_zero, Int.ofNat_zero, Int.add_zero, r0_take_Empty, r1_take_Empty, r2_take_Empty, r3_take_Empty, k2_take_Empty, r4_take_Empty, r5_take_Empty, r6_take_Empty, r7_take_Empty, r8_take_Empty, r9_take_Empty, k9_take_Empty, k8_take_Empty, r10_take_Empty, k10_take_Empty, k7_take_Empty, k6_take_Empty, k5_take_Empty, r11_take_Empty, r12_take_Empty, k13_take_Empty, r13_take_Empty, r14_take_Empty, r15_take_Empty, r16_take_Empty, r17_take_Empty, r18_take_Empty, r19_take_Empty, k21_take_Empty, k20_take_Empty, k19_take_Empty, r20_take_Empty, k22_take_Empty, k18_take_Empty, k17_take_Empty, k16_take_Empty, k15_take_Empty, k14_take_Empty, k12_take_Empty, r21_take_Empty, k23_take_Empty, k11_take_Empty, k4_take_Empty, k3_take_Empty, k1_take_Empty, k0_take_Empty, Z0, Z1, Z2, Z3, Z4, Z5, Z6, Z7, Z8, Z9, Z10, resAll, Nat.reduceAdd, Nat.reduceEqDiff, Nat.reduceLeDiff, Nat.reduceMul, ↓reduceIte, reduceCtorEq, Nat.reduceBEq, aoper, Nat.reduceLT, Int.reduceEq, Int.reduceLT, Int.reduceLE]
      clear w3 w4 w5 w6 w7 w8 hbox hw t2 t4 t6 t9 hr t τ
      rintro k t τ hk ⟨t34, t35, t2, t4, t6, t9, hw, hr⟩
      obtain ⟨w3, w4, w5, w6, hbox, w7, w8⟩ := hfacts τ hw
      rw [← grow_nil τ]
      have hSk := hS.trans (sweep_alike T k)
      have hpk := sweep_pos T k
      have hnk := sweep_ne T k
      have hnk2 := ne_le (sweep T k).1
      by_cases hlt : k < S.th.length
      · have hlt' : (k : Int) < (S.th.length : Int) := by omega
        have hcast : ((k + 1 : Nat) : Int) = (k : Int) + 1 := by omega
        have hx : (sweep T k).1.th[k]? = some ((sweep T k).1.th[k]'(by rw [hSk.th]; exact hlt)) := List.getElem?_eq_getElem _
        generalize (sweep T k).1.th[k]'(by rw [hSk.th]; exact hlt) = x at hx
        have hbk := sweep_inv bits_inv.1 bits_inv.2 T hbits k k x hx
        obtain ⟨υ, e, u1, u2⟩ := take_lost_ok (d + S.th.length + 2) (τ.grow []) (sweep T k).1 c1 1 c2 1 k x (low_grow w5 _) (by rw [grow_n]; omega) (by rw [grow_n]; omega) (by omega) (hr.keeps (Keeps.self _ _) (by omega) (by omega)) (by rw [hSk.sl]; exact m2) (by rw [hSk.th]; exact m4) (by rw [hSk.threads]; exact hth) hx hbk
        rw [hSk.stV] at e
        have hwk := (hw.grow []).trans u2
        have hs1 : (sweep T (k + 1)).1 = (lostF (sweep T k).1 k).1 := rfl
        have hs2 : (sweep T (k + 1)).2.1 = (sweep T k).2.1 + (lostF (sweep T k).1 k).2.1 := rfl
        have hs3 : (sweep T (k + 1)).2.2 = ((lostF (sweep T k).1 k).2.2 || (sweep T k).2.2) := rfl
        have hpk1 := sweep_pos T (k + 1)
        have hnk1 := sweep_ne T (k + 1)
        have hnk3 := ne_le (sweep T (k + 1)).1
        have hll := lostF_pos (sweep T k).1 k
        cases gl : (lostF (sweep T k).1 k).2.2 with
        | true =>
          rw [gl, Bool.true_or] at hs3
          simp (disch := omega) only [t34, t35, t2, t4, t6, t9, hlt', hlt, hcast, hbox, e, gl, hs2, hs3, Int.add_assoc, r0_take_Empty, r1_take_Empty, r2_take_Empty, r3_take_Empty, k2_take_Empty, r4_take_Empty, r5_take_Empty, r6_take_Empty, r7_take_Empty, r8_take_Empty, r9_take_Empty, k9_take_Empty, k8_take_Empty, r10_take_Empty, k10_take_Empty, k7_take_Empty, k6_take_Empty, k5_take_Empty, r11_take_Empty, r12_take_Empty, k13_take_Empty, r13_take_Empty, r14_take_Empty, r15_take_Empty, r16_take_Empty, r17_take_Empty, r18_take_Empty, r19_take_Empty, k21_take_Empty, k20_take_Empty, k19_take_Empty, r20_take_Empty, k22_take_Empty, k18_take_Empty, k17_take_Empty, k16_take_Empty, k15_take_Empty, k14_take_Empty, k12_take_Empty, r21_take_Empty, k23_take_Empty, k11_take_Empty, k4_take_Empty, k3_take_Empty, k1_take_Empty, k0_take_Empty, b2_take_Empty, Z0, Z1, Z2, Z3, Z4, Z5, Z6, Z7, Z8, Z9, Z10, resAll, Nat.reduceAdd, Nat.reduceEqDiff, Nat.reduceLeDiff, Nat.reduceMul, ↓reduceIte, reduceCtorEq, Nat.reduceBEq, aoper, Nat.reduceLT, Int.reduceEq, Int.reduceLT, Int.reduceLE]
          rw [hs1]
          exact ⟨hwk, u1⟩
        | false =>
          rw [gl, Bool.false_or] at hs3
          simp (disch := omega) only [t34, t35, t2, t4, t6, t9, hlt', hlt, hcast, hbox, e, gl, hs2, hs3, Int.add_assoc, r0_take_Empty, r1_take_Empty, r2_take_Empty, r3_take_Empty, k2_take_Empty, r4_take_Empty, r5_take_Empty, r6_take_Empty, r7_take_Empty, r8_take_Empty, r9_take_Empty, k9_take_Empty, k8_take_Empty, r10_take_Empty, k10_take_Empty, k7_take_Empty, k6_take_Empty, k5_take_Empty, r11_take_Empty, r12_take_Empty, k13_take_Empty, r13_take_Empty, r14_take_Empty, r15_take_Empty, r16_take_Empty, r17_take_Empty, r18_take_Empty, r19_take_Empty, k21_take_Empty, k20_take_Empty, k19_take_Empty, r20_take_Empty, k22_take_Empty, k18_take_Empty, k17_take_Empty, k16_take_Empty, k15_take_Empty, k14_take_Empty, k12_take_Empty, r21_take_Empty, k23_take_Empty, k11_take_Empty, k4_take_Empty, k3_take_Empty, k1_take_Empty, k0_take_Empty, b2_take_Empty, Z0, Z1, Z2, Z3, Z4, Z5, Z6, Z7, Z8, Z9, Z10, resAll, Nat.reduceAdd, Nat.reduceEqDiff, Nat.reduceLeDiff, Nat.reduceMul, ↓reduceIte, reduceCtorEq, Nat.reduceBEq, aoper, Nat.reduceLT, Int.reduceEq, Int.reduceLT, Int.reduceLE]
          rw [hs1]
          exact ⟨hwk, u1⟩
      · have hlt' : ¬ (k : Int) < (S.th.length : Int) := by omega
        have hke : k = T.th.length := by rw [hS.th]; omega
        subst hke
        have hll := sweep_live T T.th.length
        have hbk := sweep_inv bits_inv.1 bits_inv.2 T hbits T.th.length
        rw [sweeps_step] at z3 z4
        have hjn : j < live S0 + 1 := by omega
        simp (disch := omega) only [t34, t35, t2, t4, t6, t9, hlt', hjn, r0_take_Empty, r1_take_Empty, r2_take_Empty, r3_take_Empty, k2_take_Empty, r4_take_Empty, r5_take_Empty, r6_take_Empty, r7_take_Empty, r8_take_Empty, r9_take_Empty, k9_take_Empty, k8_take_Empty, r10_take_Empty, k10_take_Empty, k7_take_Empty, k6_take_Empty, k5_take_Empty, r11_take_Empty, r12_take_Empty, k13_take_Empty, r13_take_Empty, r14_take_Empty, r15_take_Empty, r16_take_Empty, r17_take_Empty, r18_take_Empty, r19_take_Empty, k21_take_Empty, k20_take_Empty, k19_take_Empty, r20_take_Empty, k22_take_Empty, k18_take_Empty, k17_take_Empty, k16_take_Empty, k15_take_Empty, k14_take_Empty, k12_take_Empty, r21_take_Empty, k23_take_Empty, k11_take_Empty, k4_take_Empty, k3_take_Empty, k1_take_Empty, k0_take_Empty, b2_take_Empty, Z0, Z1, Z2, Z3, Z4, Z5, Z6, Z7, Z8, Z9, Z10, resAll, Nat.reduceAdd, Nat.reduceEqDiff, Nat.reduceLeDiff, Nat.reduceMul, ↓reduceIte, reduceCtorEq, Nat.reduceBEq, aoper, Nat.reduceLT, Int.reduceEq, Int.reduceLT, Int.reduceLE]
        refine ⟨hw.grow _, _, _, _, rfl, rfl, hr.keeps (Keeps.self _ _) (by omega) (by omega), hSk, hbk, by omega, by omega, ?_⟩
        cases gs : (sweep T T.th.length).2.2 with
        | true =>
          rw [gs, if_pos rfl] at z3 z4
          have := hll.2 gs
          exact .inl ⟨rfl, fu, by omega, by omega, z3, by rw [z4]; simp only; omega⟩
        | false =>
          rw [gs, if_neg (by simp)] at z3 z4
          exact .inr ⟨rfl, z3, z4⟩
    · have r7 : ∀ M, (τ.grow M).t.get (σ.fresh.n + 1) = some (rowOf ([.int .i64 0, .int .i64 0, .int .i64 0, .slice none 0 0, .slice none 0 0], 5)) := fun M => (grow_old _ _ (by omega)).trans w7
      have hle : σ.n ≤ σ.fresh.n + 1 := by omega
      simp (disch := omega) only [t2, t4, t6, t9, hbox, st_gen, rowSt_row, putM_R, r7, w6, hle, putR_load, putR_low, z3, z4, r0_take_Empty, r1_take_Empty, r2_take_Empty, r3_take_Empty, k2_take_Empty, r4_take_Empty, r5_take_Empty, r6_take_Empty, r7_take_Empty, r8_take_Empty, r9_take_Empty, k9_take_Empty, k8_take_Empty, r10_take_Empty, k10_take_Empty, k7_take_Empty, k6_take_Empty, k5_take_Empty, r11_take_Empty, r12_take_Empty, k13_take_Empty, r13_take_Empty, r14_take_Empty, r15_take_Empty, r16_take_Empty, r17_take_Empty, r18_take_Empty, r19_take_Empty, k21_take_Empty, k20_take_Empty, k19_take_Empty, r20_take_Empty, k22_take_Empty, k18_take_Empty, k17_take_Empty, k16_take_Empty, k15_take_Empty, k14_take_Empty, k12_take_Empty, r21_take_Empty, k23_take_Empty, k11_take_Empty, k4_take_Empty, k3_take_Empty, k1_take_Empty, k0_take_Empty, b1_take_Empty, Z0, Z1, Z2, Z3, Z4, Z5, Z6, Z7, Z8, Z9, Z10, resAll, Nat.reduceAdd, Nat.reduceEqDiff, Nat.reduceLeDiff, Nat.reduceMul, ↓reduceIte, reduceCtorEq, Nat.reduceBEq, aoper, Nat.reduceLT, Int.reduceEq, Int.reduceLT, Int.reduceLE]
      have hb1 : b1 < σ.n := h1.1
      have hb2 : b2 < σ.n := h2.1
      refine ⟨_, rfl, c1, 1, c2, 1, (hS.stV _ _ _ _).symm, ?_, ?_, ((w8.grow _).putR (by omega) _ _), .inr (by omega), .inr (by omega)⟩
      · exact ((hr.s (by omega)).keeps (Keeps.self _ _)).putR (by omega)
      · exact ((hr.t w4).keeps (Keeps.self _ _)).putR (by omega)
end Go.Proofs.YtidmcpkbcphpiaaGreat
