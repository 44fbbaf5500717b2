/-
  The function RuleRevokes of the package reevelaw21 returns true for every state, thread and way, whatever the world it is called in, and its arguments are as they were; it needs no condition.
-/
import Derived.Test.YtidmcpkbcphpiaaGreatRV5
import Derived.ProofKit
import Derived.Test.YtidmcpkbcphpiaaGreatChecked
import Derived.Deep.Slices
import Derived.Shelf.Sort.Plain
import Derived.Shelf.Slices.In.SortNone
import Derived.Ground.Names2Prog
import Derived.Carry
import Derived.WideKeyArgs
import Derived.Test.YtidmcpkbcphpiaaGreatRows
namespace Go.Proofs.YtidmcpkbcphpiaaGreat
open Go Go.Hai
set_option maxRecDepth 20000
set_option linter.unusedSimpArgs false
set_option maxHeartbeats 8000000
attribute [local irreducible] Hai.Ends EndsR EndsO EndsD EndsX EndsE EndsK AHeap.grow AHeap.putR AHeap.putM okLow inN
def r0_rule_there : List AOper := [(.mk (some 2) none (.box 5 (.tmp 0))), (.mk (some 4) none (.mv (.const (.bool false))))]
def r1_rule_there : List AOper := [(.mk (some 5) none (.mv (.tmp 1))), (.mk (some 6) none (.bin .geq (.tmp 5) (.const (.int .i64 0)))), (.mk (some 7) none (.mv (.tmp 6))), (.mk (some 8) (some (7, true)) (.mv (.tmp 1))), (.mk (some 9) (some (7, true)) (.fldA 0 (.tmp 2))), (.mk (some 10) (some (7, true)) (.fldA 0 (.tmp 9))), (.mk (some 11) (some (7, true)) (.load false 1 (.tmp 10))), (.mk (some 12) (some (7, true)) (.bin .lss (.tmp 8) (.tmp 11))), (.mk (some 13) none (.pick (.tmp 7) (.tmp 12) (.const (.bool false)))), (.mk (some 4) none (.mv (.tmp 13)))]
def k0_rule_there : ACode := (.seq (.reg r1_rule_there) .ret)
def c_rule_there : ACode := (.seq (.reg r0_rule_there) k0_rule_there)
theorem e_rule_there : ofProg Tryz.prog 103 = some ⟨14, [(.tmp 4)], c_rule_there⟩ := by kernel_rfl
def r0_rule_Do : List AOper := [(.mk (some 3) none (.box 5 (.tmp 0))), (.mk (some 5) none (.box 6 (.tmp 2))), (.mk (some 6) none (.alloc [(.int .i64 0), (.int .i64 0), (.int .i64 0), (.slice none 0 0), (.slice none 0 0)] 5)), (.mk (some 7) none (.alloc [(.int .i64 0), (.int .u64 0), (.int .i64 0)] 3))]
def r1_rule_Do : List AOper := [(.mk (some 8) none (.load true 5 (.tmp 3))), (.mk (some 9) none (.call 14 [(.tmp 8)])), (.mk (some 10) none (.un .not (.tmp 9))), (.mk (some 11) none (.mv (.tmp 10))), (.mk (some 12) (some (11, false)) (.load true 6 (.tmp 5))), (.mk (some 13) (some (11, false)) (.call 47 [(.tmp 12)])), (.mk (some 14) (some (11, false)) (.un .not (.tmp 13))), (.mk (some 15) none (.pick (.tmp 11) (.const (.bool true)) (.tmp 14))), (.mk (some 16) none (.mv (.tmp 15))), (.mk (some 17) (some (16, false)) (.load true 5 (.tmp 3))), (.mk (some 18) (some (16, false)) (.mv (.tmp 1))), (.mk (some 19) (some (16, false)) (.call 103 [(.tmp 17), (.tmp 18)])), (.mk (some 20) (some (16, false)) (.un .not (.tmp 19))), (.mk (some 21) none (.pick (.tmp 16) (.const (.bool true)) (.tmp 20)))]
def r2_rule_Do : List AOper := [(.mk (some 22) none (.load true 5 (.tmp 3))), (.mk (some 23) none (.build [(.int .i64 0), (.int .u64 0), (.int .i64 0)] [(0, (1, (.const (.int .i64 1))))])), (.mk none none (.store 5 (.tmp 6) (.tmp 22))), (.mk none none (.store 3 (.tmp 7) (.tmp 23)))]
def k1_rule_Do : ACode := (.cond (.tmp 21) (.seq (.reg r2_rule_Do) .ret) .skip)
def r3_rule_Do : List AOper := [(.mk (some 24) none (.fldA 0 (.tmp 5))), (.mk (some 25) none (.load false 1 (.tmp 24)))]
def r4_rule_Do : List AOper := [(.mk (some 27) none (.bin .eql (.tmp 25) (.const (.int .i64 1)))), (.mk (some 26) none (.mv (.tmp 27)))]
def r5_rule_Do : List AOper := [(.mk (some 28) none (.load true 5 (.tmp 3))), (.mk (some 29) none (.mv (.tmp 1))), (.mk (some 30) none (.load true 6 (.tmp 5))), (.mk (some 31) none (.call 104 [(.tmp 28), (.tmp 29), (.tmp 30)])), (.mk (some 32) none (.ext (.tmp 31) 0)), (.mk (some 33) none (.ext (.tmp 31) 1)), (.mk none none (.store 5 (.tmp 6) (.tmp 32))), (.mk none none (.store 3 (.tmp 7) (.tmp 33)))]
def r6_rule_Do : List AOper := [(.mk (some 35) none (.bin .eql (.tmp 25) (.const (.int .i64 2)))), (.mk (some 34) none (.mv (.tmp 35)))]
def r7_rule_Do : List AOper := [(.mk (some 36) none (.bin .eql (.tmp 25) (.const (.int .i64 3)))), (.mk (some 34) none (.mv (.tmp 36)))]
def r8_rule_Do : List AOper := [(.mk (some 37) none (.bin .eql (.tmp 25) (.const (.int .i64 4)))), (.mk (some 34) none (.mv (.tmp 37)))]
def k6_rule_Do : ACode := (.cond (.tmp 34) .skip (.reg r8_rule_Do))
def k5_rule_Do : ACode := (.cond (.tmp 34) .skip (.seq (.reg r7_rule_Do) k6_rule_Do))
def r9_rule_Do : List AOper := [(.mk (some 38) none (.load true 5 (.tmp 3))), (.mk (some 39) none (.mv (.tmp 1))), (.mk (some 40) none (.load true 6 (.tmp 5))), (.mk (some 41) none (.call 42 [(.tmp 38), (.tmp 39), (.tmp 40)])), (.mk (some 42) none (.ext (.tmp 41) 0)), (.mk (some 43) none (.ext (.tmp 41) 1)), (.mk none none (.store 5 (.tmp 6) (.tmp 42))), (.mk none none (.store 3 (.tmp 7) (.tmp 43)))]
def r10_rule_Do : List AOper := [(.mk (some 45) none (.bin .eql (.tmp 25) (.const (.int .i64 5)))), (.mk (some 44) none (.mv (.tmp 45)))]
def r11_rule_Do : List AOper := [(.mk (some 46) none (.bin .eql (.tmp 25) (.const (.int .i64 6)))), (.mk (some 44) none (.mv (.tmp 46)))]
def k8_rule_Do : ACode := (.cond (.tmp 44) .skip (.reg r11_rule_Do))
def r12_rule_Do : List AOper := [(.mk (some 47) none (.load true 5 (.tmp 3))), (.mk (some 48) none (.mv (.tmp 1))), (.mk (some 49) none (.load true 6 (.tmp 5))), (.mk (some 50) none (.call 43 [(.tmp 47), (.tmp 48), (.tmp 49)])), (.mk (some 51) none (.ext (.tmp 50) 0)), (.mk (some 52) none (.ext (.tmp 50) 1)), (.mk none none (.store 5 (.tmp 6) (.tmp 51))), (.mk none none (.store 3 (.tmp 7) (.tmp 52)))]
def r13_rule_Do : List AOper := [(.mk (some 54) none (.bin .eql (.tmp 25) (.const (.int .i64 7)))), (.mk (some 53) none (.mv (.tmp 54)))]
def r14_rule_Do : List AOper := [(.mk (some 55) none (.bin .eql (.tmp 25) (.const (.int .i64 8)))), (.mk (some 53) none (.mv (.tmp 55)))]
def k10_rule_Do : ACode := (.cond (.tmp 53) .skip (.reg r14_rule_Do))
def r15_rule_Do : List AOper := [(.mk (some 56) none (.load true 5 (.tmp 3))), (.mk (some 57) none (.mv (.tmp 1))), (.mk (some 58) none (.load true 6 (.tmp 5))), (.mk (some 59) none (.call 16 [(.tmp 56), (.tmp 57), (.tmp 58)])), (.mk (some 60) none (.ext (.tmp 59) 0)), (.mk (some 61) none (.ext (.tmp 59) 1)), (.mk none none (.store 5 (.tmp 6) (.tmp 60))), (.mk none none (.store 3 (.tmp 7) (.tmp 61)))]
def r16_rule_Do : List AOper := [(.mk (some 63) none (.bin .eql (.tmp 25) (.const (.int .i64 9)))), (.mk (some 62) none (.mv (.tmp 63)))]
def r17_rule_Do : List AOper := [(.mk (some 64) none (.bin .eql (.tmp 25) (.const (.int .i64 10)))), (.mk (some 62) none (.mv (.tmp 64)))]
def k12_rule_Do : ACode := (.cond (.tmp 62) .skip (.reg r17_rule_Do))
def r18_rule_Do : List AOper := [(.mk (some 65) none (.load true 5 (.tmp 3))), (.mk (some 66) none (.mv (.tmp 1))), (.mk (some 67) none (.load true 6 (.tmp 5))), (.mk (some 68) none (.call 105 [(.tmp 65), (.tmp 66), (.tmp 67)])), (.mk (some 69) none (.ext (.tmp 68) 0)), (.mk (some 70) none (.ext (.tmp 68) 1)), (.mk none none (.store 5 (.tmp 6) (.tmp 69))), (.mk none none (.store 3 (.tmp 7) (.tmp 70)))]
def k13_rule_Do : ACode := (.cond (.tmp 62) (.seq (.reg r18_rule_Do) .ret) .skip)
def k11_rule_Do : ACode := (.cond (.tmp 53) (.seq (.reg r15_rule_Do) .ret) (.seq (.seq (.reg r16_rule_Do) k12_rule_Do) k13_rule_Do))
def k9_rule_Do : ACode := (.cond (.tmp 44) (.seq (.reg r12_rule_Do) .ret) (.seq (.seq (.reg r13_rule_Do) k10_rule_Do) k11_rule_Do))
def k7_rule_Do : ACode := (.cond (.tmp 34) (.seq (.reg r9_rule_Do) .ret) (.seq (.seq (.reg r10_rule_Do) k8_rule_Do) k9_rule_Do))
def k4_rule_Do : ACode := (.cond (.tmp 26) (.seq (.reg r5_rule_Do) .ret) (.seq (.seq (.reg r6_rule_Do) k5_rule_Do) k7_rule_Do))
def k3_rule_Do : ACode := (.block 0 (.seq (.reg r4_rule_Do) k4_rule_Do))
def r19_rule_Do : List AOper := [(.mk (some 71) none (.load true 5 (.tmp 3))), (.mk (some 72) none (.mv (.tmp 1))), (.mk (some 73) none (.load true 6 (.tmp 5))), (.mk (some 74) none (.call 106 [(.tmp 71), (.tmp 72), (.tmp 73)])), (.mk (some 75) none (.ext (.tmp 74) 0)), (.mk (some 76) none (.ext (.tmp 74) 1)), (.mk none none (.store 5 (.tmp 6) (.tmp 75))), (.mk none none (.store 3 (.tmp 7) (.tmp 76)))]
def k14_rule_Do : ACode := (.seq (.reg r19_rule_Do) .ret)
def k2_rule_Do : ACode := (.seq (.seq (.reg r3_rule_Do) k3_rule_Do) k14_rule_Do)
def k0_rule_Do : ACode := (.seq (.seq (.reg r1_rule_Do) k1_rule_Do) k2_rule_Do)
def c_rule_Do : ACode := (.seq (.reg r0_rule_Do) k0_rule_Do)
theorem e_rule_Do : ofProg Tryz.prog 46 = some ⟨77, [(.cell 6 true 5), (.cell 7 true 3)], c_rule_Do⟩ := by kernel_rfl
def isThread (S : StD) (thread : Int) : Bool := decide (0 ≤ thread) && decide (thread < S.threads)
theorem rule_there_ok (d : Nat) (σ : AHeap) (S : StD) (a1 : Option Addr) (f1 : Nat) (a2 : Option Addr) (f2 : Nat) (n : Int) :
    acall (ofProg Tryz.prog) 1000 (d + 1) 103 [stV S a1 f1 a2 f2, .int .i64 n] σ = some (.bool (isThread S n), σ) := by
  refine acall_flat e_rule_there (by simp) rfl ?_
  unfold isThread
  by_cases g1 : 0 ≤ n
  · by_cases g2 : n < S.threads
    · simp (disch := omega) only [g1, g2, r0_rule_there, r1_rule_there, k0_rule_there, c_rule_there, Z0, Z1, Z2, Z3, Z4, Z5, Z6, Z7, Z8, Z9, Z10, resAll, Nat.reduceAdd, Nat.reduceEqDiff, Nat.reduceLeDiff, Nat.reduceMul, ↓reduceIte, reduceCtorEq, Nat.reduceBEq, aoper, Nat.reduceLT, Int.reduceEq, Int.reduceLT, Int.reduceLE]
    · simp (disch := omega) only [g1, g2, r0_rule_there, r1_rule_there, k0_rule_there, c_rule_there, Z0, Z1, Z2, Z3, Z4, Z5, Z6, Z7, Z8, Z9, Z10, resAll, Nat.reduceAdd, Nat.reduceEqDiff, Nat.reduceLeDiff, Nat.reduceMul, ↓reduceIte, reduceCtorEq, Nat.reduceBEq, aoper, Nat.reduceLT, Int.reduceEq, Int.reduceLT, Int.reduceLE]
  · simp (disch := omega) only [g1, r0_rule_there, r1_rule_there, k0_rule_there, c_rule_there, Z0, Z1, Z2, Z3, Z4, Z5, Z6, Z7, Z8, Z9, Z10, resAll, Nat.reduceAdd, Nat.reduceEqDiff, Nat.reduceLeDiff, Nat.reduceMul, ↓reduceIte, reduceCtorEq, Nat.reduceBEq, aoper, Nat.reduceLT, Int.reduceEq, Int.reduceLT, Int.reduceLE]
def rul6F (S : StD) (thread : Int) (l : List Int) : StD × Int × Int :=
  if pathB l = true ∧ isThread S thread = true then revF S thread l else (S, 1, 0)
theorem rule_Do6_ok (d : Nat) (σ : AHeap) (S : StD) (b1 f1 b2 f2 : Nat) (thread : Int) (l : List Int) (aA : Option Addr) (fA : Nat) (hg : goodB S = true) (hd : Liv σ.n σ) (hlo : σ.low ≤ σ.n)
    (h1 : SlAt slotL 5 σ b1 S.sl) (h2 : SlAt thingL 13 σ b2 S.th) (h3 : SlI σ aA l) (nf1 : NoF σ b1) (nf2 : NoF σ b2) :
    ∃ v τ, acall (ofProg Tryz.prog) 1000 (d + S.th.length + S.sl.length + 12) 46 [stV S (some ⟨b1, 0, none⟩) f1 (some ⟨b2, 0, none⟩) f2, .int .i64 thread, callV 6 aA l.length fA none 0 0 0 0 0] σ = some (.tuple [v, repV (rul6F S thread l).2.1 0 (rul6F S thread l).2.2].toArray, τ) ∧ StK σ b1 b2 (rul6F S thread l).1 v τ := by
  suffices hs : Hai.Ends (acode (acall (ofProg Tryz.prog) 1000 (d + S.th.length + S.sl.length + 11)) 1000 c_rule_Do (Tr.of [stV S (some ⟨b1, 0, none⟩) f1 (some ⟨b2, 0, none⟩) f2, .int .i64 thread, callV 6 aA l.length fA none 0 0 0 0 0]) (σ.fresh.grow []))
      (finA σ.n [.cell 6 true 5, .cell 7 true 3] fun v τ => ∃ u, v = .tuple [u, repV (rul6F S thread l).2.1 0 (rul6F S thread l).2.2].toArray ∧ StK σ.fresh b1 b2 (rul6F S thread l).1 u τ) by
    obtain ⟨v, τ', e, τ, ⟨u, rfl, a1', f1', a2', f2', rfl, g1, g2, g3, g4⟩, g⟩ := acall_addr e_rule_Do (by simp) hlo hs
    rcases g with ⟨g, _⟩ | rfl
    · cases g
    · exact ⟨_, _, e, _, _, _, _, rfl, g1, g2, g3.back, g4⟩
  have g1 : SlS σ (some ⟨b1, 0, none⟩) S.sl := .inr ⟨b1, rfl, h1⟩
  have g2 : SlT σ (some ⟨b2, 0, none⟩) S.th := .inr ⟨b2, rfl, h2⟩
  have hG := fun L => callGood_ok (d + S.th.length + S.sl.length + 5) (σ.fresh.grow L) 6 l [] 0 0 0 aA fA none 0 (h3.fresh.grow L) (.inl rfl)
  simp only [call6B, List.length_nil] at hG
  have hgood := fun L => state_Good_ok (d + S.sl.length + 3) (σ.fresh.grow L) S (some ⟨b1, 0, none⟩) f1 (some ⟨b2, 0, none⟩) f2 (Liv.gr (σ := σ.fresh) hd _) (g1.fresh.grow L) (g2.fresh.grow L)
  rw [show d + S.sl.length + 3 + S.th.length + 8 = d + S.th.length + S.sl.length + 11 by omega] at hgood
  have hth := fun L => rule_there_ok (d + S.th.length + S.sl.length + 10) (σ.fresh.grow L) S (some ⟨b1, 0, none⟩) f1 (some ⟨b2, 0, none⟩) f2 thread
  have fin : ∀ L, StK σ.fresh b1 b2 S (stV S (some ⟨b1, 0, none⟩) f1 (some ⟨b2, 0, none⟩) f2) (σ.fresh.grow L) := fun L => ⟨_, _, _, _, rfl, SlAt.keeps (σ := σ.fresh) h1 (Keeps.self _ _), SlAt.keeps (σ := σ.fresh) h2 (Keeps.self _ _), Keeps.kee (Keeps.self _ _) hd, .inl rfl, .inl rfl⟩
  cases c1 : pathB l with
  | false =>
    have hs : rul6F S thread l = (S, 1, 0) := by unfold rul6F; rw [if_neg (by rw [c1]; simp)]
    simp (disch := omega) only [sl6_all, sl6_0, sl6_1, hgood, hg, hG, c1, hs, r0_rule_Do, r1_rule_Do, r2_rule_Do, k1_rule_Do, r3_rule_Do, r4_rule_Do, r5_rule_Do, r6_rule_Do, r7_rule_Do, r8_rule_Do, k6_rule_Do, k5_rule_Do, r9_rule_Do, r10_rule_Do, r11_rule_Do, k8_rule_Do, r12_rule_Do, r13_rule_Do, r14_rule_Do, k10_rule_Do, r15_rule_Do, r16_rule_Do, r17_rule_Do, k12_rule_Do, r18_rule_Do, k13_rule_Do, k11_rule_Do, k9_rule_Do, k7_rule_Do, k4_rule_Do, k3_rule_Do, r19_rule_Do, k14_rule_Do, k2_rule_Do, k0_rule_Do, c_rule_Do, Z0, Z1, Z2, Z3, Z4, Z5, Z6, Z7, Z8, Z9, Z10, resAll, Nat.reduceAdd, Nat.reduceEqDiff, Nat.reduceLeDiff, Nat.reduceMul, ↓reduceIte, reduceCtorEq, Nat.reduceBEq, aoper, Nat.reduceLT, Int.reduceEq, Int.reduceLT, Int.reduceLE]
    exact ⟨_, rfl, fin _⟩
  | true =>
    cases c2 : isThread S thread with
    | false =>
      have hs : rul6F S thread l = (S, 1, 0) := by unfold rul6F; rw [if_neg (by rw [c2]; simp)]
      simp (disch := omega) only [sl6_all, sl6_0, sl6_1, hgood, hg, hG, c1, hth, c2, hs, r0_rule_Do, r1_rule_Do, r2_rule_Do, k1_rule_Do, r3_rule_Do, r4_rule_Do, r5_rule_Do, r6_rule_Do, r7_rule_Do, r8_rule_Do, k6_rule_Do, k5_rule_Do, r9_rule_Do, r10_rule_Do, r11_rule_Do, k8_rule_Do, r12_rule_Do, r13_rule_Do, r14_rule_Do, k10_rule_Do, r15_rule_Do, r16_rule_Do, r17_rule_Do, k12_rule_Do, r18_rule_Do, k13_rule_Do, k11_rule_Do, k9_rule_Do, k7_rule_Do, k4_rule_Do, k3_rule_Do, r19_rule_Do, k14_rule_Do, k2_rule_Do, k0_rule_Do, c_rule_Do, Z0, Z1, Z2, Z3, Z4, Z5, Z6, Z7, Z8, Z9, Z10, resAll, Nat.reduceAdd, Nat.reduceEqDiff, Nat.reduceLeDiff, Nat.reduceMul, ↓reduceIte, reduceCtorEq, Nat.reduceBEq, aoper, Nat.reduceLT, Int.reduceEq, Int.reduceLT, Int.reduceLE]
      exact ⟨_, rfl, fin _⟩
    | true =>
      have hs : rul6F S thread l = revF S thread l := by unfold rul6F; rw [if_pos ⟨c1, c2⟩]
      generalize hL : ([(stL S (some ⟨b1, 0, none⟩) f1 (some ⟨b2, 0, none⟩) f2, 5), (callL 6 aA l.length fA none 0 0 0 0 0, 6), ([.int .i64 0, .int .i64 0, .int .i64 0, .slice none 0 0, .slice none 0 0], 5), ([.int .i64 0, .int .u64 0, .int .i64 0], 3)] : List (List Value × Nat)) = L
      have kL := Keeps.self σ.fresh L
      have dL : Liv (σ.fresh.grow L).n (σ.fresh.grow L) := Liv.gr (σ := σ.fresh) hd L
      have nL : (σ.fresh.grow L).n = σ.n + 4 := by rw [grow_n, ← hL]; rfl
      have hb1 : b1 < σ.n := h1.1
      have hb2 : b2 < σ.n := h2.1
      have hfn : σ.fresh.n = σ.n := rfl
      obtain ⟨v, τ3, ee, c1', g1', c2', g2', rfl, u1, u2, k3, x1, x2⟩ := take_Do6_ok d (σ.fresh.grow L) S b1 f1 b2 f2 thread l aA fA hg dL (low_grow fresh_le _) (SlAt.keeps (σ := σ.fresh) h1 kL) (SlAt.keeps (σ := σ.fresh) h2 kL) (h3.fresh.grow L) (NoF.same (σ := σ.fresh) nf1 (grow_old _ _ (by omega))) (NoF.same (σ := σ.fresh) nf2 (grow_old _ _ (by omega)))
      have w3 : τ3.low = σ.n := by rw [k3.low, grow_low]; rfl
      have m3 : σ.n + 4 ≤ τ3.n := by have := k3.n; rw [nL] at this; exact this
      have q2 := k3.rows 2 (by rw [← hL]; rfl)
      have q3 := k3.rows 3 (by rw [← hL]; rfl)
      have l2 := load_sl q2
      have l3 := load_sl q3
      subst hL
      have w3' : τ3.low = σ.fresh.n := w3
      generalize hT : revF S thread l = T at *
      simp (disch := omega) only [sl6_all, sl6_0, sl6_1, hgood, hg, hG, c1, hth, c2, hs, ee, st_gen, rowSt_row, putM_R, putR_low, putR_load, putR_loadF, putR_get, putR_far, w3', q2, q3, l2, l3, Nat.le_refl, Nat.le_add_right, repL, r0_rule_Do, r1_rule_Do, r2_rule_Do, k1_rule_Do, r3_rule_Do, r4_rule_Do, r5_rule_Do, r6_rule_Do, r7_rule_Do, r8_rule_Do, k6_rule_Do, k5_rule_Do, r9_rule_Do, r10_rule_Do, r11_rule_Do, k8_rule_Do, r12_rule_Do, r13_rule_Do, r14_rule_Do, k10_rule_Do, r15_rule_Do, r16_rule_Do, r17_rule_Do, k12_rule_Do, r18_rule_Do, k13_rule_Do, k11_rule_Do, k9_rule_Do, k7_rule_Do, k4_rule_Do, k3_rule_Do, r19_rule_Do, k14_rule_Do, k2_rule_Do, k0_rule_Do, c_rule_Do, Z0, Z1, Z2, Z3, Z4, Z5, Z6, Z7, Z8, Z9, Z10, resAll, Nat.reduceAdd, Nat.reduceEqDiff, Nat.reduceLeDiff, Nat.reduceMul, ↓reduceIte, reduceCtorEq, Nat.reduceBEq, aoper, Nat.reduceLT, Int.reduceEq, Int.reduceLT, Int.reduceLE]
      rw [grow_n] at x1 x2
      simp only [List.length_cons, List.length_nil, Nat.reduceAdd] at x1 x2
      have kf' := k3.cut
      exact ⟨⟨_, rfl, _, _, _, _, rfl, (u1.putR (by omega)).putR (by omega), (u2.putR (by omega)).putR (by omega), (kf'.putR (by omega) _ _).putR (by omega) _ _, x1.imp id (by omega), x2.imp id (by omega)⟩, rfl⟩
end Go.Proofs.YtidmcpkbcphpiaaGreat
namespace Go.Proofs.YtidmcpkbcphpiaaGreat
open Go Go.Hai
theorem sortI_mem {l : List Int} {x : Int} : x ∈ sortI l ↔ x ∈ l := by unfold sortI; simp
def nonAt (k : Nat) (S : StD) : Prop := ∀ y, S.sl[k]? = some y → capNone y = true
theorem none_none : capNone noneS = true := by decide
theorem nonAt_inv (k : Nat) : (∀ S i, nonAt k S → nonAt k (emp1 S i).1) ∧ (∀ S t, nonAt k S → nonAt k (setT S t zeroT)) := by
  refine ⟨fun S i h => ?_, fun S t h => h⟩
  rcases emp1_cases S i with e | ⟨x, hx, _, e⟩
  · rw [e]; exact h
  · rw [e]
    intro y hy
    rw [empS_get hx] at hy
    split at hy
    · cases hy; exact none_none
    · cases hz : S.sl[k]? with
      | none => rw [hz] at hy; cases hy
      | some z =>
        rw [hz] at hy
        cases hy
        rw [eUp_cap]; exact h z hz
theorem emp1_none {S : StD} {i : Int} (hi : 0 ≤ i) : nonAt i.toNat (emp1 S i).1 := by
  intro y hy
  unfold emp1 at hy
  split at hy
  · next x hx =>
    cases g : capNone x with
    | true =>
      rw [g, if_pos rfl] at hy
      rw [(atI_to hx).1] at hy
      cases hy; exact g
    | false =>
      rw [g, if_neg (by simp)] at hy
      simp only at hy
      rw [empS_get hx, if_pos rfl] at hy
      cases hy; exact none_none
  · next hx =>
    replace hy : S.sl[i.toNat]? = some y := hy
    obtain ⟨x, e1, _⟩ := atI_some (l := S.sl) (z := i) hi (by have := (List.getElem?_eq_some_iff.1 hy).1; omega)
    rw [e1] at hx
    cases hx
theorem empL_none : ∀ (l : List Int) (S : StD) (i : Int), 0 ≤ i → i ∈ l → nonAt i.toNat (empL S l).1 := by
  intro l
  induction l with
  | nil => intro S i _ h; simp at h
  | cons j l ih =>
    intro S i hi h
    rcases List.mem_cons.1 h with rfl | h
    · exact empL_inv (nonAt_inv _).1 l _ (emp1_none hi)
    · exact ih _ i hi h
def Qr (n : Int) (L : List Int) (S : StD) : Prop := ∀ (k : Nat) y, S.sl[k]? = some y → (y.up = n ∨ y.up ∈ L) → capNone y = false ∧ (k : Int) ∈ L
theorem Qr_inv {n : Int} {L : List Int} (hn : 0 ≤ n) (hL : ∀ x ∈ L, 0 ≤ x) : (∀ S i, Qr n L S → Qr n L (emp1 S i).1) ∧ (∀ S t, Qr n L S → Qr n L (setT S t zeroT)) := by
  refine ⟨fun S i h => ?_, fun S t h => h⟩
  rcases emp1_cases S i with e | ⟨x, hx, _, e⟩
  · rw [e]; exact h
  · rw [e]
    intro k y hy hu
    rw [empS_get hx] at hy
    split at hy
    · cases hy
      rcases hu with hu | hu
      · simp only [noneS] at hu; omega
      · have := hL _ hu; simp only [noneS] at this; omega
    · cases hz : S.sl[k]? with
      | none => rw [hz] at hy; cases hy
      | some z =>
        rw [hz] at hy
        cases hy
        rw [eUp_cap]
        unfold eUp at hu
        split at hu
        · next hzi =>
          simp only at hu
          obtain ⟨h1, h2⟩ := atI_to hx
          obtain ⟨_, h3⟩ := h i.toNat x h1 hu
          rw [show ((i.toNat : Nat) : Int) = i by omega] at h3
          exact h k z hz (.inr (by rw [hzi]; exact h3))
        · exact h k z hz hu
def Cr (S0 S : StD) : Prop := ∀ (k : Nat) y, S.sl[k]? = some y → capNone y = true ∨ ∃ x, S0.sl[k]? = some x ∧ (y.type = x.type ∧ y.thing = x.thing ∧ y.rights = x.rights ∧ y.badge = x.badge)
theorem Cr_inv (S0 : StD) : (∀ S i, Cr S0 S → Cr S0 (emp1 S i).1) ∧ (∀ S t, Cr S0 S → Cr S0 (setT S t zeroT)) := by
  refine ⟨fun S i h => ?_, fun S t h => h⟩
  rcases emp1_cases S i with e | ⟨x, hx, _, e⟩
  · rw [e]; exact h
  · rw [e]
    intro k y hy
    rw [empS_get hx] at hy
    split at hy
    · cases hy; exact .inl none_none
    · cases hz : S.sl[k]? with
      | none => rw [hz] at hy; cases hy
      | some z =>
        rw [hz] at hy
        cases hy
        rw [eUp_cap]
        rcases h k z hz with g | ⟨w, g1, g2⟩
        · exact .inl g
        · refine .inr ⟨w, g1, ?_⟩
          unfold eUp
          split <;> exact g2
def fulTo (S : StD) : Nat → Int
  | 0 => 0
  | k + 1 => fulTo S k + (match S.sl[k]? with | some x => if capNone x = true then 0 else 1 | none => 0)
theorem fulTo_take (S : StD) : ∀ k, fulTo S k = (((S.sl.take k).countP fun x => !(capNone x) : Nat) : Int) := by
  intro k
  induction k with
  | zero => rfl
  | succ k ih =>
    rw [fulTo, ih, List.take_add_one, List.countP_append]
    cases S.sl[k]? with
    | none => simp
    | some x => cases g : capNone x <;> simp [g]
theorem fulTo_all (S : StD) : fulTo S S.sl.length = ne S := by rw [fulTo_take, List.take_length]; rfl
theorem fulTo_next {S : StD} {k : Nat} {x : SlotD} (hx : S.sl[k]? = some x) : fulTo S (k + 1) = fulTo S k + (if capNone x = true then 0 else 1) := by rw [fulTo, hx]
theorem fulTo_le (S : StD) : ∀ k, 0 ≤ fulTo S k ∧ fulTo S k ≤ k := by
  intro k
  rw [fulTo_take]
  have := List.countP_le_length (p := fun x => !(capNone x)) (l := S.sl.take k)
  rw [List.length_take] at this
  omega
theorem takeF_ne (S : StD) (l : List Int) : (takeF S l).2 + ne (takeF S l).1 = ne S := by
  have h := takeF_cnt (P := fun T m => m + ne T = ne S) (fun T i m h => by have := emp1_ne T i; show m + bInt (emp1 T i).2 + ne (emp1 T i).1 = ne S; omega) (fun T t m h => h) S l (by show 0 + ne S = ne S; omega)
  exact h
structure RevOk (S A : StD) (n : Int) (x : SlotD) (N : Int) : Prop where
  shp : Shp S A
  ups : ∀ (k : Nat) y, A.sl[k]? = some y → y.up ≠ n
  non : ∀ (k : Nat) x y, S.sl[k]? = some x → A.sl[k]? = some y → capNone x = true → capNone y = true
  cnt : N + ne A = ne S
  cap : ∀ y, A.sl[n.toNat]? = some y → capNone y = true ∨ (y.type = x.type ∧ y.thing = x.thing ∧ y.rights = x.rights ∧ y.badge = x.badge)
theorem rev_law {S : StD} (hg : goodB S = true) {n : Int} {x : SlotD} (hx : atI S.sl n = some x) (hxn : capNone x = false) : RevOk S (takeF S (sortI (belF (upL S) n))).1 n x (takeF S (sortI (belF (upL S) n))).2 := by
  obtain ⟨hx1, hn⟩ := atI_to hx
  have hf := good_forest hg
  have hb := belF_set hf hn
  have hL : ∀ z ∈ sortI (belF (upL S) n), 0 ≤ z := fun z hz => (hb.2 z (sortI_mem.1 hz)).1
  have hno : ∀ i ∈ sortI (belF (upL S) n), nonAt i.toNat (takeF S (sortI (belF (upL S) n))).1 := fun i hi => by
    have := empL_none _ S i (hL i hi) hi
    unfold takeF
    rw [if_pos hg]
    exact sweeps_inv (nonAt_inv _).1 (nonAt_inv _).2 _ _ this
  have ht : ∀ {P : StD → Prop}, (∀ S i, P S → P (emp1 S i).1) → (∀ S t, P S → P (setT S t zeroT)) → P S → P (takeF S (sortI (belF (upL S) n))).1 := fun h1 h2 h => by
    unfold takeF
    rw [if_pos hg]
    exact sweeps_inv h1 h2 _ _ (empL_inv h1 _ _ h)
  have hup : upOf x = x.up := by unfold upOf; rw [hxn]; rfl
  have hh : htOk (upL S) ((upL S).length + 1) (ofF (upL S) n) := ht_root hf hn (up_at hx) (by have := (slot_up hg hx1).2 hxn; omega)
  have hq0 : Qr n (sortI (belF (upL S) n)) S := fun k y hy hu => by
    have hyf : capNone y = false := by
      cases g : capNone y with
      | false => rfl
      | true =>
        have := (slot_up hg hy).1 g
        rcases hu with hu | hu
        · omega
        · have := hL _ hu; omega
    have hk : (k : Int) ∈ ofF (upL S) y.up := by
      refine ofF_mem.2 ⟨?_, by omega⟩
      unfold atI
      rw [if_pos (by omega), Int.toNat_natCast]
      simp [upL, hy, upOf, hyf]
    refine ⟨hyf, sortI_mem.2 ?_⟩
    rcases hu with hu | hu
    · rw [hu] at hk; exact behF_self hh _ hk
    · exact behF_closed hh _ (sortI_mem.1 hu) _ hk
  have hq := ht (Qr_inv hn hL).1 (Qr_inv hn hL).2 hq0
  have hc := ht (Cr_inv S).1 (Cr_inv S).2 (fun k y hy => .inr ⟨y, hy, rfl, rfl, rfl, rfl⟩)
  refine ⟨takeF_alike S _, fun k y hy e => ?_, fun k x y hx hy hnx => ?_, takeF_ne S _, fun y hy => ?_⟩
  · obtain ⟨h1, h2⟩ := hq k y hy (.inl e)
    have := hno k h2 y (by rw [Int.toNat_natCast]; exact hy)
    rw [h1] at this
    cases this
  · exact ht (nonAt_inv k).1 (nonAt_inv k).2 (fun z hz => by rw [hx] at hz; cases hz; exact hnx) y hy
  · rcases hc n.toNat y hy with h | ⟨z, h1, h2⟩
    · exact .inl h
    · rw [hx1] at h1
      cases h1
      exact .inr h2
end Go.Proofs.YtidmcpkbcphpiaaGreat
namespace Go.Proofs.YtidmcpkbcphpiaaGreat
open Go Go.Hai
set_option maxRecDepth 20000
set_option linter.unusedSimpArgs false
set_option maxHeartbeats 8000000
attribute [local irreducible] Hai.Ends EndsR EndsO EndsD EndsX EndsE EndsK AHeap.grow AHeap.putR okLow inN
def r0_reevelaw21_heavy : List AOper := [(.mk (some 2) none (.box 5 (.tmp 0))), (.mk (some 3) none (.box 6 (.tmp 1))), (.mk (some 4) none (.mv (.const (.bool false))))]
def r1_reevelaw21_heavy : List AOper := [(.mk (some 5) none (.fldA 3 (.tmp 2))), (.mk (some 6) none (.load false 1 (.tmp 5))), (.mk (some 7) none (.lenS (.tmp 6))), (.mk (some 8) none (.bin .gtr (.tmp 7) (.const (.int .i64 100)))), (.mk (some 9) none (.mv (.tmp 8))), (.mk (some 10) (some (9, false)) (.fldA 4 (.tmp 2))), (.mk (some 11) (some (9, false)) (.load false 1 (.tmp 10))), (.mk (some 12) (some (9, false)) (.lenS (.tmp 11))), (.mk (some 13) (some (9, false)) (.bin .gtr (.tmp 12) (.const (.int .i64 50)))), (.mk (some 14) none (.pick (.tmp 9) (.const (.bool true)) (.tmp 13))), (.mk (some 15) none (.mv (.tmp 14))), (.mk (some 16) (some (15, false)) (.fldA 1 (.tmp 3))), (.mk (some 17) (some (15, false)) (.fldA 0 (.tmp 16))), (.mk (some 18) (some (15, false)) (.load false 1 (.tmp 17))), (.mk (some 19) (some (15, false)) (.lenS (.tmp 18))), (.mk (some 20) (some (15, false)) (.bin .gtr (.tmp 19) (.const (.int .i64 10)))), (.mk (some 21) none (.pick (.tmp 15) (.const (.bool true)) (.tmp 20))), (.mk (some 22) none (.mv (.tmp 21))), (.mk (some 23) (some (22, false)) (.fldA 2 (.tmp 3))), (.mk (some 24) (some (22, false)) (.fldA 0 (.tmp 23))), (.mk (some 25) (some (22, false)) (.load false 1 (.tmp 24))), (.mk (some 26) (some (22, false)) (.lenS (.tmp 25))), (.mk (some 27) (some (22, false)) (.bin .gtr (.tmp 26) (.const (.int .i64 10)))), (.mk (some 28) none (.pick (.tmp 22) (.const (.bool true)) (.tmp 27))), (.mk (some 4) none (.mv (.tmp 28)))]
def k0_reevelaw21_heavy : ACode := (.seq (.reg r1_reevelaw21_heavy) .ret)
def c_reevelaw21_heavy : ACode := (.seq (.reg r0_reevelaw21_heavy) k0_reevelaw21_heavy)
theorem e_reevelaw21_heavy : ofProg Tryz.prog 45 = some ⟨29, [(.tmp 4)], c_reevelaw21_heavy⟩ := by kernel_rfl
def r0_reevelaw21_RuleRevokes : List AOper := [(.mk (some 3) none (.box 5 (.tmp 0))), (.mk (some 6) none (.mv (.const (.bool false))))]
def r1_reevelaw21_RuleRevokes : List AOper := [(.mk (some 15) none (.call 44 [])), (.mk (some 16) none (.un .not (.tmp 15)))]
def r2_reevelaw21_RuleRevokes : List AOper := [(.mk (some 6) none (.mv (.const (.bool false))))]
def k1_reevelaw21_RuleRevokes : ACode := (.cond (.tmp 16) (.seq (.reg r2_reevelaw21_RuleRevokes) .ret) .skip)
def r3_reevelaw21_RuleRevokes : List AOper := [(.mk (some 17) none (.mv (.tmp 2))), (.mk (some 18) none (.build [(.slice none 0 0)] [(0, (1, (.tmp 17)))])), (.mk (some 19) none (.build [(.int .i64 0), (.slice none 0 0), (.slice none 0 0), (.int .i64 0), (.int .i64 0), (.int .u64 0)] [(0, (1, (.const (.int .i64 6)))), (1, (1, (.tmp 18)))])), (.mk (some 7) none (.alloc [(.int .i64 0), (.slice none 0 0), (.slice none 0 0), (.int .i64 0), (.int .i64 0), (.int .u64 0)] 6)), (.mk none none (.store 6 (.tmp 7) (.tmp 19)))]
def r4_reevelaw21_RuleRevokes : List AOper := [(.mk (some 20) none (.load true 5 (.tmp 3))), (.mk (some 21) none (.load true 6 (.tmp 7))), (.mk (some 22) none (.call 45 [(.tmp 20), (.tmp 21)])), (.mk (some 23) none (.mv (.tmp 22))), (.mk (some 24) (some (23, false)) (.load true 5 (.tmp 3))), (.mk (some 25) (some (23, false)) (.call 14 [(.tmp 24)])), (.mk (some 26) (some (23, false)) (.un .not (.tmp 25))), (.mk (some 27) none (.pick (.tmp 23) (.const (.bool true)) (.tmp 26)))]
def r5_reevelaw21_RuleRevokes : List AOper := [(.mk (some 6) none (.mv (.const (.bool true))))]
def k4_reevelaw21_RuleRevokes : ACode := (.cond (.tmp 27) (.seq (.reg r5_reevelaw21_RuleRevokes) .ret) .skip)
def r6_reevelaw21_RuleRevokes : List AOper := [(.mk (some 29) none (.load true 5 (.tmp 3))), (.mk (some 30) none (.mv (.tmp 1))), (.mk (some 31) none (.fldA 1 (.tmp 7))), (.mk (some 32) none (.load true 1 (.tmp 31))), (.mk (some 33) none (.call 28 [(.tmp 29), (.tmp 30), (.tmp 32)])), (.mk (some 28) none (.mv (.tmp 33))), (.mk (some 34) none (.ext (.tmp 28) 0)), (.mk (some 35) none (.ext (.tmp 28) 1)), (.mk (some 36) none (.ext (.tmp 28) 2)), (.mk (some 9) none (.alloc [(.int .i64 0), (.int .i64 0), (.int .i64 0), (.int .i64 0)] 4)), (.mk (some 8) none (.mv (.tmp 34))), (.mk none none (.store 4 (.tmp 9) (.tmp 35))), (.mk (some 10) none (.mv (.tmp 36)))]
def r7_reevelaw21_RuleRevokes : List AOper := [(.mk (some 38) none (.load true 5 (.tmp 3))), (.mk (some 39) none (.mv (.tmp 1))), (.mk (some 40) none (.load true 6 (.tmp 7))), (.mk (some 41) none (.call 46 [(.tmp 38), (.tmp 39), (.tmp 40)])), (.mk (some 37) none (.mv (.tmp 41))), (.mk (some 42) none (.ext (.tmp 37) 0)), (.mk (some 43) none (.ext (.tmp 37) 1)), (.mk (some 11) none (.alloc [(.int .i64 0), (.int .i64 0), (.int .i64 0), (.slice none 0 0), (.slice none 0 0)] 5)), (.mk (some 12) none (.alloc [(.int .i64 0), (.int .u64 0), (.int .i64 0)] 3)), (.mk none none (.store 5 (.tmp 11) (.tmp 42))), (.mk none none (.store 3 (.tmp 12) (.tmp 43)))]
def r8_reevelaw21_RuleRevokes : List AOper := [(.mk (some 44) none (.mv (.tmp 10))), (.mk (some 45) none (.bin .neq (.tmp 44) (.const (.int .i64 0)))), (.mk (some 46) none (.mv (.tmp 45))), (.mk (some 47) (some (46, false)) (.fldA 0 (.tmp 12))), (.mk (some 48) (some (46, false)) (.load false 1 (.tmp 47))), (.mk (some 49) (some (46, false)) (.bin .neq (.tmp 48) (.const (.int .i64 0)))), (.mk (some 50) none (.pick (.tmp 46) (.const (.bool true)) (.tmp 49)))]
def r9_reevelaw21_RuleRevokes : List AOper := [(.mk (some 51) none (.mv (.tmp 10))), (.mk (some 52) none (.bin .eql (.tmp 51) (.const (.int .i64 0)))), (.mk (some 53) none (.mv (.tmp 52))), (.mk (some 54) (some (53, true)) (.fldA 0 (.tmp 12))), (.mk (some 55) (some (53, true)) (.load false 1 (.tmp 54))), (.mk (some 56) (some (53, true)) (.bin .eql (.tmp 55) (.const (.int .i64 0)))), (.mk (some 57) none (.pick (.tmp 53) (.tmp 56) (.const (.bool false)))), (.mk (some 58) none (.mv (.tmp 57))), (.mk (some 59) (some (58, false)) (.mv (.tmp 10))), (.mk (some 60) (some (58, false)) (.bin .neq (.tmp 59) (.const (.int .i64 0)))), (.mk (some 61) (some (58, false)) (.mv (.tmp 60))), (.mk (some 62) (some (61, true)) (.fldA 0 (.tmp 12))), (.mk (some 63) (some (61, true)) (.load false 1 (.tmp 62))), (.mk (some 64) (some (61, true)) (.mv (.tmp 10))), (.mk (some 65) (some (61, true)) (.bin .eql (.tmp 63) (.tmp 64))), (.mk (some 66) (some (58, false)) (.pick (.tmp 61) (.tmp 65) (.const (.bool false)))), (.mk (some 67) none (.pick (.tmp 58) (.const (.bool true)) (.tmp 66))), (.mk (some 68) none (.mv (.tmp 67))), (.mk (some 69) (some (68, false)) (.load true 6 (.tmp 7))), (.mk (some 70) (some (68, false)) (.call 47 [(.tmp 69)])), (.mk (some 71) (some (68, false)) (.un .not (.tmp 70))), (.mk (some 72) none (.pick (.tmp 68) (.const (.bool true)) (.tmp 71))), (.mk (some 6) none (.mv (.tmp 72)))]
def k8_reevelaw21_RuleRevokes : ACode := (.cond (.tmp 50) (.seq (.reg r9_reevelaw21_RuleRevokes) .ret) .skip)
def r10_reevelaw21_RuleRevokes : List AOper := [(.mk (some 13) none (.mv (.const (.int .i64 0))))]
def r11_reevelaw21_RuleRevokes : List AOper := [(.mk (some 14) none (.mv (.const (.int .i64 0))))]
def r12_reevelaw21_RuleRevokes : List AOper := [(.mk (some 73) none (.mv (.tmp 14))), (.mk (some 74) none (.fldA 3 (.tmp 11))), (.mk (some 75) none (.load false 1 (.tmp 74))), (.mk (some 76) none (.lenS (.tmp 75))), (.mk (some 77) none (.bin .lss (.tmp 73) (.tmp 76)))]
def k12_reevelaw21_RuleRevokes : ACode := (.cond (.tmp 77) .skip (.exit 0))
def r13_reevelaw21_RuleRevokes : List AOper := [(.mk (some 80) none (.fldA 3 (.tmp 11))), (.mk (some 81) none (.load false 1 (.tmp 80))), (.mk (some 82) none (.mv (.tmp 14))), (.mk (some 83) none (.idxA 5 (.tmp 81) (.tmp 82))), (.mk (some 84) none (.fldA 4 (.tmp 83))), (.mk (some 85) none (.load false 1 (.tmp 84))), (.mk (some 86) none (.mv (.tmp 8))), (.mk (some 87) none (.bin .eql (.tmp 85) (.tmp 86)))]
def r14_reevelaw21_RuleRevokes : List AOper := [(.mk (some 6) none (.mv (.const (.bool false))))]
def k14_reevelaw21_RuleRevokes : ACode := (.cond (.tmp 87) (.seq (.reg r14_reevelaw21_RuleRevokes) .ret) .skip)
def r15_reevelaw21_RuleRevokes : List AOper := [(.mk (some 88) none (.fldA 3 (.tmp 11))), (.mk (some 89) none (.load false 1 (.tmp 88))), (.mk (some 90) none (.mv (.tmp 14))), (.mk (some 91) none (.idxA 5 (.tmp 89) (.tmp 90))), (.mk (some 92) none (.fldA 0 (.tmp 91))), (.mk (some 93) none (.load true 4 (.tmp 92))), (.mk (some 94) none (.call 38 [(.tmp 93)])), (.mk (some 95) none (.mv (.tmp 94))), (.mk (some 96) (some (95, true)) (.mv (.tmp 14))), (.mk (some 97) (some (95, true)) (.fldA 3 (.tmp 3))), (.mk (some 98) (some (95, true)) (.load false 1 (.tmp 97))), (.mk (some 99) (some (95, true)) (.lenS (.tmp 98))), (.mk (some 100) (some (95, true)) (.bin .lss (.tmp 96) (.tmp 99))), (.mk (some 101) none (.pick (.tmp 95) (.tmp 100) (.const (.bool false)))), (.mk (some 102) none (.mv (.tmp 101))), (.mk (some 103) (some (102, true)) (.fldA 3 (.tmp 3))), (.mk (some 104) (some (102, true)) (.load false 1 (.tmp 103))), (.mk (some 105) (some (102, true)) (.mv (.tmp 14))), (.mk (some 106) (some (102, true)) (.idxA 5 (.tmp 104) (.tmp 105))), (.mk (some 107) (some (102, true)) (.fldA 0 (.tmp 106))), (.mk (some 108) (some (102, true)) (.load true 4 (.tmp 107))), (.mk (some 109) (some (102, true)) (.call 38 [(.tmp 108)])), (.mk (some 110) (some (102, true)) (.un .not (.tmp 109))), (.mk (some 111) none (.pick (.tmp 102) (.tmp 110) (.const (.bool false))))]
def r16_reevelaw21_RuleRevokes : List AOper := [(.mk (some 112) none (.mv (.tmp 13))), (.mk (some 113) none (.bin .add (.tmp 112) (.const (.int .i64 1)))), (.mk (some 13) none (.mv (.tmp 113)))]
def k16_reevelaw21_RuleRevokes : ACode := (.cond (.tmp 111) (.reg r16_reevelaw21_RuleRevokes) .skip)
def k15_reevelaw21_RuleRevokes : ACode := (.seq (.reg r15_reevelaw21_RuleRevokes) k16_reevelaw21_RuleRevokes)
def r17_reevelaw21_RuleRevokes : List AOper := [(.mk (some 78) none (.mv (.tmp 14))), (.mk (some 79) none (.bin .add (.tmp 78) (.const (.int .i64 1)))), (.mk (some 14) none (.mv (.tmp 79)))]
def k17_reevelaw21_RuleRevokes : ACode := (.reg r17_reevelaw21_RuleRevokes)
def k13_reevelaw21_RuleRevokes : ACode := (.seq (.block 1 (.seq (.seq (.reg r13_reevelaw21_RuleRevokes) k14_reevelaw21_RuleRevokes) k15_reevelaw21_RuleRevokes)) k17_reevelaw21_RuleRevokes)
def b0_reevelaw21_RuleRevokes : ACode := (.seq (.seq (.reg r12_reevelaw21_RuleRevokes) k12_reevelaw21_RuleRevokes) k13_reevelaw21_RuleRevokes)
def k11_reevelaw21_RuleRevokes : ACode := (.block 0 (.loop b0_reevelaw21_RuleRevokes))
def r18_reevelaw21_RuleRevokes : List AOper := [(.mk (some 114) none (.mv (.tmp 13))), (.mk (some 115) none (.fldA 2 (.tmp 12))), (.mk (some 116) none (.load false 1 (.tmp 115))), (.mk (some 117) none (.bin .eql (.tmp 114) (.tmp 116))), (.mk (some 118) none (.mv (.tmp 117))), (.mk (some 119) (some (118, true)) (.fldA 3 (.tmp 11))), (.mk (some 120) (some (118, true)) (.load false 1 (.tmp 119))), (.mk (some 121) (some (118, true)) (.mv (.tmp 8))), (.mk (some 122) (some (118, true)) (.idxA 5 (.tmp 120) (.tmp 121))), (.mk (some 123) (some (118, true)) (.fldA 0 (.tmp 122))), (.mk (some 124) (some (118, true)) (.load true 4 (.tmp 123))), (.mk (some 125) (some (118, true)) (.call 38 [(.tmp 124)])), (.mk (some 126) (some (118, true)) (.mv (.tmp 125))), (.mk (some 127) (some (126, false)) (.fldA 3 (.tmp 11))), (.mk (some 128) (some (126, false)) (.load false 1 (.tmp 127))), (.mk (some 129) (some (126, false)) (.mv (.tmp 8))), (.mk (some 130) (some (126, false)) (.idxA 5 (.tmp 128) (.tmp 129))), (.mk (some 131) (some (126, false)) (.fldA 0 (.tmp 130))), (.mk (some 132) (some (126, false)) (.load true 4 (.tmp 131))), (.mk (some 133) (some (126, false)) (.load true 4 (.tmp 9))), (.mk (some 134) (some (126, false)) (.eqS false [(0, 0), (1, 0), (2, 0), (3, 0)] (.tmp 132) (.tmp 133))), (.mk (some 135) (some (118, true)) (.pick (.tmp 126) (.const (.bool true)) (.tmp 134))), (.mk (some 136) none (.pick (.tmp 118) (.tmp 135) (.const (.bool false)))), (.mk (some 6) none (.mv (.tmp 136)))]
def k18_reevelaw21_RuleRevokes : ACode := (.seq (.drw r18_reevelaw21_RuleRevokes [0, 0, 2, 7, 15, 31, 63, 31, 255, 511, 1023, 2047, 4095, 8191, 16383, 8191, 65535, 131071, 262143, 8191, 1048575, 2097151, 4194303, 8388607]) .ret)
def k10_reevelaw21_RuleRevokes : ACode := (.seq (.seq (.reg r11_reevelaw21_RuleRevokes) k11_reevelaw21_RuleRevokes) k18_reevelaw21_RuleRevokes)
def k9_reevelaw21_RuleRevokes : ACode := (.seq (.reg r10_reevelaw21_RuleRevokes) k10_reevelaw21_RuleRevokes)
def k7_reevelaw21_RuleRevokes : ACode := (.seq (.seq (.reg r8_reevelaw21_RuleRevokes) k8_reevelaw21_RuleRevokes) k9_reevelaw21_RuleRevokes)
def k6_reevelaw21_RuleRevokes : ACode := (.seq (.reg r7_reevelaw21_RuleRevokes) k7_reevelaw21_RuleRevokes)
def k5_reevelaw21_RuleRevokes : ACode := (.seq (.reg r6_reevelaw21_RuleRevokes) k6_reevelaw21_RuleRevokes)
def k3_reevelaw21_RuleRevokes : ACode := (.seq (.seq (.reg r4_reevelaw21_RuleRevokes) k4_reevelaw21_RuleRevokes) k5_reevelaw21_RuleRevokes)
def k2_reevelaw21_RuleRevokes : ACode := (.seq (.reg r3_reevelaw21_RuleRevokes) k3_reevelaw21_RuleRevokes)
def k0_reevelaw21_RuleRevokes : ACode := (.seq (.seq (.reg r1_reevelaw21_RuleRevokes) k1_reevelaw21_RuleRevokes) k2_reevelaw21_RuleRevokes)
def c_reevelaw21_RuleRevokes : ACode := (.seq (.reg r0_reevelaw21_RuleRevokes) k0_reevelaw21_RuleRevokes)
theorem e_reevelaw21_RuleRevokes : ofProg Tryz.prog 7 = some ⟨137, [(.tmp 6)], c_reevelaw21_RuleRevokes⟩ := by kernel_rfl
theorem heavy21_ok (d : Nat) (σ : AHeap) (S : StD) (a1 : Option Addr) (f1 : Nat) (a2 : Option Addr) (f2 : Nat) (op X Y W : Int) (aA : Option Addr) (nA fA : Nat) (aB : Option Addr) (nB fB : Nat) :
    acall (ofProg Tryz.prog) 1000 (d + 1) 45 [stV S a1 f1 a2 f2, callV op aA nA fA aB nB fB X Y W] σ = some (.bool (decide ((100 : Int) < S.sl.length) || (decide ((50 : Int) < S.th.length) || (decide ((10 : Int) < nA) || decide ((10 : Int) < nB)))), σ) := by
  refine acall_flat e_reevelaw21_heavy (by simp) rfl ?_
  by_cases c1 : (100 : Int) < S.sl.length
  · simp (disch := omega) only [c1, r0_reevelaw21_heavy, r1_reevelaw21_heavy, k0_reevelaw21_heavy, c_reevelaw21_heavy, Z0, Z1, Z2, Z3, Z4, Z5, Z6, Z7, Z8, Z9, Z10, resAll, Nat.reduceAdd, Nat.reduceEqDiff, Nat.reduceLeDiff, Nat.reduceMul, ↓reduceIte, reduceCtorEq, Nat.reduceBEq, aoper, Nat.reduceLT, Int.reduceEq, Int.reduceLT, Int.reduceLE]
  · by_cases c2 : (50 : Int) < S.th.length
    · simp (disch := omega) only [c1, c2, r0_reevelaw21_heavy, r1_reevelaw21_heavy, k0_reevelaw21_heavy, c_reevelaw21_heavy, Z0, Z1, Z2, Z3, Z4, Z5, Z6, Z7, Z8, Z9, Z10, resAll, Nat.reduceAdd, Nat.reduceEqDiff, Nat.reduceLeDiff, Nat.reduceMul, ↓reduceIte, reduceCtorEq, Nat.reduceBEq, aoper, Nat.reduceLT, Int.reduceEq, Int.reduceLT, Int.reduceLE]
    · by_cases c3 : (10 : Int) < nA
      · simp (disch := omega) only [c1, c2, c3, sl6_1, sl6_2, r0_reevelaw21_heavy, r1_reevelaw21_heavy, k0_reevelaw21_heavy, c_reevelaw21_heavy, Z0, Z1, Z2, Z3, Z4, Z5, Z6, Z7, Z8, Z9, Z10, resAll, Nat.reduceAdd, Nat.reduceEqDiff, Nat.reduceLeDiff, Nat.reduceMul, ↓reduceIte, reduceCtorEq, Nat.reduceBEq, aoper, Nat.reduceLT, Int.reduceEq, Int.reduceLT, Int.reduceLE]
      · by_cases c4 : (10 : Int) < nB
        · simp (disch := omega) only [c1, c2, c3, c4, sl6_1, sl6_2, r0_reevelaw21_heavy, r1_reevelaw21_heavy, k0_reevelaw21_heavy, c_reevelaw21_heavy, Z0, Z1, Z2, Z3, Z4, Z5, Z6, Z7, Z8, Z9, Z10, resAll, Nat.reduceAdd, Nat.reduceEqDiff, Nat.reduceLeDiff, Nat.reduceMul, ↓reduceIte, reduceCtorEq, Nat.reduceBEq, aoper, Nat.reduceLT, Int.reduceEq, Int.reduceLT, Int.reduceLE]
        · simp (disch := omega) only [c1, c2, c3, c4, sl6_1, sl6_2, r0_reevelaw21_heavy, r1_reevelaw21_heavy, k0_reevelaw21_heavy, c_reevelaw21_heavy, Z0, Z1, Z2, Z3, Z4, Z5, Z6, Z7, Z8, Z9, Z10, resAll, Nat.reduceAdd, Nat.reduceEqDiff, Nat.reduceLeDiff, Nat.reduceMul, ↓reduceIte, reduceCtorEq, Nat.reduceBEq, aoper, Nat.reduceLT, Int.reduceEq, Int.reduceLT, Int.reduceLE]
theorem rul6_err {S : StD} (thread : Int) (l : List Int) : (rul6F S thread l).2.1 = (capF S thread l).2.2 ∧ ((capF S thread l).2.2 ≠ 0 → (rul6F S thread l).1 = S) := by
  unfold rul6F
  by_cases c : pathB l = true ∧ isThread S thread = true
  · rw [if_pos c]
    unfold revF
    rw [if_pos c.1]
    by_cases e : (capF S thread l).2.2 = 0
    · rw [if_pos e]; exact ⟨e.symm, fun h => absurd e h⟩
    · rw [if_neg e]; exact ⟨rfl, fun _ => rfl⟩
  · rw [if_neg c]
    have hs : slotF S thread l = (0, 1) := by
      unfold slotF
      rw [if_neg]
      rintro ⟨_, h2, h3⟩
      refine c ⟨h3, ?_⟩
      unfold isThread
      simp; omega
    have hc : (capF S thread l).2.2 = 1 := by unfold capF; rw [hs]; rfl
    rw [hc]
    exact ⟨rfl, fun _ => rfl⟩
theorem rul6_eq {S : StD} {thread : Int} {l : List Int} (c2 : (capF S thread l).2.2 = 0) : rul6F S thread l = ((takeF S (sortI (belF (upL S) (capF S thread l).1))).1, 0, (takeF S (sortI (belF (upL S) (capF S thread l).1))).2) := by
  have hs : pathB l = true ∧ isThread S thread = true := by
    by_cases c : pathB l = true ∧ isThread S thread = true
    · exact c
    · have h := (rul6_err (S := S) thread l).1
      unfold rul6F at h
      rw [if_neg c, c2] at h
      cases h
  unfold rul6F revF
  rw [if_pos hs, if_pos hs.1, if_pos c2]
theorem RuleRevokes_ok (d : Nat) (σ : AHeap) (S : StD) (a1 : Option Addr) (f1 : Nat) (a2 : Option Addr) (f2 : Nat) (thread : Int) (l : List Int) (a : Option Addr) (f : Nat) (hd : Liv σ.n σ) (h1 : SlS σ a1 S.sl) (h2 : SlT σ a2 S.th) (h3 : SlI σ a l)
    (nf1 : ∀ b, a1 = some ⟨b, 0, none⟩ → NoF σ b) (nf2 : ∀ b, a2 = some ⟨b, 0, none⟩ → NoF σ b)
    (hA : acall (ofProg Tryz.prog) 1000 (d + S.th.length + S.sl.length + 12) 44 [] (σ.fresh.grow [(stL S a1 f1 a2 f2, 5)]) = some (.bool true, σ.fresh.grow [(stL S a1 f1 a2 f2, 5)])) :
    acall (ofProg Tryz.prog) 1000 (d + S.th.length + S.sl.length + 13) 7 [stV S a1 f1 a2 f2, .int .i64 thread, .slice a l.length f] σ = some (.bool true, σ) := by
  refine acall_flat e_reevelaw21_RuleRevokes (by simp) rfl ?_
  have hgood := fun L => state_Good_ok (d + S.sl.length + 4) (σ.fresh.grow L) S a1 f1 a2 f2 (Liv.gr (σ := σ.fresh) hd _) (h1.fresh.grow L) (h2.fresh.grow L)
  rw [show d + S.sl.length + 4 + S.th.length + 8 = d + S.th.length + S.sl.length + 12 by omega] at hgood
  have hheavy := heavy21_ok (d + S.th.length + S.sl.length + 11)
  have hcap := fun L => find_Cap_ok (d + S.sl.length + 2) (σ.fresh.grow L) S a1 f1 a2 f2 thread l a f (Liv.gr (σ := σ.fresh) hd _) (h1.fresh.grow L) (h2.fresh.grow L) (h3.fresh.grow L)
  rw [show d + S.sl.length + 2 + S.th.length + 10 = d + S.th.length + S.sl.length + 12 by omega] at hcap
  cases c0 : (decide ((100 : Int) < S.sl.length) || (decide ((50 : Int) < S.th.length) || (decide ((10 : Int) < l.length) || decide ((10 : Int) < (0 : Nat))))) with
  | true => simp (disch := omega) only [hA, hheavy, sl6_all, c0, r0_reevelaw21_RuleRevokes, r1_reevelaw21_RuleRevokes, r2_reevelaw21_RuleRevokes, k1_reevelaw21_RuleRevokes, r3_reevelaw21_RuleRevokes, r4_reevelaw21_RuleRevokes, r5_reevelaw21_RuleRevokes, k4_reevelaw21_RuleRevokes, r6_reevelaw21_RuleRevokes, r7_reevelaw21_RuleRevokes, r8_reevelaw21_RuleRevokes, r9_reevelaw21_RuleRevokes, k8_reevelaw21_RuleRevokes, r10_reevelaw21_RuleRevokes, r11_reevelaw21_RuleRevokes, r12_reevelaw21_RuleRevokes, k12_reevelaw21_RuleRevokes, r13_reevelaw21_RuleRevokes, r14_reevelaw21_RuleRevokes, k14_reevelaw21_RuleRevokes, r15_reevelaw21_RuleRevokes, r16_reevelaw21_RuleRevokes, k16_reevelaw21_RuleRevokes, k15_reevelaw21_RuleRevokes, r17_reevelaw21_RuleRevokes, k17_reevelaw21_RuleRevokes, k13_reevelaw21_RuleRevokes, k11_reevelaw21_RuleRevokes, r18_reevelaw21_RuleRevokes, k18_reevelaw21_RuleRevokes, k10_reevelaw21_RuleRevokes, k9_reevelaw21_RuleRevokes, k7_reevelaw21_RuleRevokes, k6_reevelaw21_RuleRevokes, k5_reevelaw21_RuleRevokes, k3_reevelaw21_RuleRevokes, k2_reevelaw21_RuleRevokes, k0_reevelaw21_RuleRevokes, c_reevelaw21_RuleRevokes, Z0, Z1, Z2, Z3, Z4, Z5, Z6, Z7, Z8, Z9, Z10, resAll, Nat.reduceAdd, Nat.reduceEqDiff, Nat.reduceLeDiff, Nat.reduceMul, ↓reduceIte, reduceCtorEq, Nat.reduceBEq, aoper, Nat.reduceLT, Int.reduceEq, Int.reduceLT, Int.reduceLE]
  | false =>
  cases c1 : goodB S with
  | false => simp (disch := omega) only [hA, hheavy, sl6_all, c0, hgood, c1, r0_reevelaw21_RuleRevokes, r1_reevelaw21_RuleRevokes, r2_reevelaw21_RuleRevokes, k1_reevelaw21_RuleRevokes, r3_reevelaw21_RuleRevokes, r4_reevelaw21_RuleRevokes, r5_reevelaw21_RuleRevokes, k4_reevelaw21_RuleRevokes, r6_reevelaw21_RuleRevokes, r7_reevelaw21_RuleRevokes, r8_reevelaw21_RuleRevokes, r9_reevelaw21_RuleRevokes, k8_reevelaw21_RuleRevokes, r10_reevelaw21_RuleRevokes, r11_reevelaw21_RuleRevokes, r12_reevelaw21_RuleRevokes, k12_reevelaw21_RuleRevokes, r13_reevelaw21_RuleRevokes, r14_reevelaw21_RuleRevokes, k14_reevelaw21_RuleRevokes, r15_reevelaw21_RuleRevokes, r16_reevelaw21_RuleRevokes, k16_reevelaw21_RuleRevokes, k15_reevelaw21_RuleRevokes, r17_reevelaw21_RuleRevokes, k17_reevelaw21_RuleRevokes, k13_reevelaw21_RuleRevokes, k11_reevelaw21_RuleRevokes, r18_reevelaw21_RuleRevokes, k18_reevelaw21_RuleRevokes, k10_reevelaw21_RuleRevokes, k9_reevelaw21_RuleRevokes, k7_reevelaw21_RuleRevokes, k6_reevelaw21_RuleRevokes, k5_reevelaw21_RuleRevokes, k3_reevelaw21_RuleRevokes, k2_reevelaw21_RuleRevokes, k0_reevelaw21_RuleRevokes, c_reevelaw21_RuleRevokes, Z0, Z1, Z2, Z3, Z4, Z5, Z6, Z7, Z8, Z9, Z10, resAll, Nat.reduceAdd, Nat.reduceEqDiff, Nat.reduceLeDiff, Nat.reduceMul, ↓reduceIte, reduceCtorEq, Nat.reduceBEq, aoper, Nat.reduceLT, Int.reduceEq, Int.reduceLT, Int.reduceLE]
  | true =>
  obtain ⟨m1, m2, m3, m4⟩ := good_len c1
  obtain ⟨b1, rfl, hb1⟩ := h1.fresh.at (i := 0) m1
  obtain ⟨b2, rfl, hb2⟩ := h2.fresh.at (i := 0) m3
  obtain ⟨r1, r2⟩ := rul6_err (S := S) thread l
  generalize hL : ([(stL S (some ⟨b1, 0, none⟩) f1 (some ⟨b2, 0, none⟩) f2, 5), (callL 6 a l.length f none 0 0 0 0 0, 6), (capL (capF S thread l).2.1, 4)] : List (List Value × Nat)) = L
  have kL := Keeps.self σ.fresh L
  have dL : Liv (σ.fresh.grow L).n (σ.fresh.grow L) := Liv.gr (σ := σ.fresh) hd L
  have nL : (σ.fresh.grow L).n = σ.n + 3 := by rw [grow_n, ← hL]; rfl
  have hfn : σ.fresh.n = σ.n := rfl
  have hb1n : b1 < σ.n := hb1.1
  have hb2n : b2 < σ.n := hb2.1
  have nb1 : NoF σ.fresh b1 := nf1 b1 rfl
  have nb2 : NoF σ.fresh b2 := nf2 b2 rfl
  obtain ⟨v, τ, ee, c1', g1', c2', g2', rfl, u1, u2, kT, _, _⟩ := rule_Do6_ok d (σ.fresh.grow L) S b1 f1 b2 f2 thread l a f c1 dL (low_grow fresh_le _) (hb1.keeps kL) (hb2.keeps kL) (h3.fresh.grow L) (nb1.same (grow_old _ _ (by omega))) (nb2.same (grow_old _ _ (by omega)))
  have w3 : τ.low = σ.n := by rw [kT.low, grow_low]; rfl
  have m3' : σ.n + 3 ≤ τ.n := by have := kT.n; rw [nL] at this; exact this
  have lo3 : τ.low ≤ τ.n := by omega
  have q0 := kT.rows 0 (by rw [← hL]; rfl)
  have q1 := kT.rows 1 (by rw [← hL]; rfl)
  have q2 := kT.rows 2 (by rw [← hL]; rfl)
  rw [Nat.add_zero] at q0
  have l0 := fun M o n => (load_sl ((grow_old τ M (by omega)).trans q0) o n)
  have l2 := fun M o n => (load_sl ((grow_old τ M (by omega)).trans q2) o n)
  rw [← grow_nil τ] at ee
  have hb1' : SlAt slotL 5 τ b1 S.sl := kT.cut.at nb1 hb1
  subst hL
  by_cases c2 : (capF S thread l).2.2 = 0
  · obtain ⟨x, tt, e1, e2, e3, e4, e5, e6⟩ := capF_in c1 c2
    have hr : rul6F S thread l = ((takeF S (sortI (belF (upL S) (capF S thread l).1))).1, 0, (takeF S (sortI (belF (upL S) (capF S thread l).1))).2) := rul6_eq c2
    have hlaw := rev_law c1 e3 e2
    rw [c2] at r1
    rw [r1] at ee
    rw [hr] at ee u1
    generalize (capF S thread l).1 = at' at *
    generalize hAd : (takeF S (sortI (belF (upL S) at'))).1 = A at *
    generalize hNd : (takeF S (sortI (belF (upL S) at'))).2 = N at *
    obtain ⟨hshp, hups, hnon, hcnt, hcp⟩ := hlaw
    have hlen : A.sl.length = S.sl.length := hshp.sl
    have hat0 : 0 ≤ at' ∧ at' < S.sl.length := by
      obtain ⟨h1, h2⟩ := atI_to e3
      have := (List.getElem?_eq_some_iff.1 h1).1
      omega
    rw [e1] at q2 l2 hcap ee
    rw [c2] at hcap
    have hlenI : ((A.sl.length : Nat) : Int) = S.sl.length := by omega
    simp (disch := omega) only [hA, hheavy, sl6_all, sl6_1, c0, hgood, c1, hcap, ee, sto_0 lo3, sto_1 lo3, repL, l0, l2, c2, w3, e1, r0_reevelaw21_RuleRevokes, r1_reevelaw21_RuleRevokes, r2_reevelaw21_RuleRevokes, k1_reevelaw21_RuleRevokes, r3_reevelaw21_RuleRevokes, r4_reevelaw21_RuleRevokes, r5_reevelaw21_RuleRevokes, k4_reevelaw21_RuleRevokes, r6_reevelaw21_RuleRevokes, r7_reevelaw21_RuleRevokes, r8_reevelaw21_RuleRevokes, r9_reevelaw21_RuleRevokes, k8_reevelaw21_RuleRevokes, r10_reevelaw21_RuleRevokes, r11_reevelaw21_RuleRevokes, r12_reevelaw21_RuleRevokes, k12_reevelaw21_RuleRevokes, r13_reevelaw21_RuleRevokes, r14_reevelaw21_RuleRevokes, k14_reevelaw21_RuleRevokes, r15_reevelaw21_RuleRevokes, r16_reevelaw21_RuleRevokes, k16_reevelaw21_RuleRevokes, k15_reevelaw21_RuleRevokes, r17_reevelaw21_RuleRevokes, k17_reevelaw21_RuleRevokes, k13_reevelaw21_RuleRevokes, k11_reevelaw21_RuleRevokes, r18_reevelaw21_RuleRevokes, k18_reevelaw21_RuleRevokes, k10_reevelaw21_RuleRevokes, k9_reevelaw21_RuleRevokes, k7_reevelaw21_RuleRevokes, k6_reevelaw21_RuleRevokes, k5_reevelaw21_RuleRevokes, k3_reevelaw21_RuleRevokes, k2_reevelaw21_RuleRevokes, k0_reevelaw21_RuleRevokes, c_reevelaw21_RuleRevokes, Z0, Z1, Z2, Z3, Z4, Z5, Z6, Z7, Z8, Z9, Z10, resAll, Nat.reduceAdd, Nat.reduceEqDiff, Nat.reduceLeDiff, Nat.reduceMul, ↓reduceIte, reduceCtorEq, Nat.reduceBEq, aoper, Nat.reduceLT, Int.reduceEq, Int.reduceLT, Int.reduceLE]
    have hf0 : fulTo S 0 - fulTo A 0 = 0 := rfl
    refine ends_loop (fun i t τ' => tget t 3 = here σ.fresh.n 0 ∧ tget t 8 = i64 at' ∧ tget t 9 = here (σ.fresh.n + 2) 0 ∧ tget t 11 = here τ.n 0 ∧ tget t 12 = here (τ.n + 1) 0 ∧ tget t 13 = i64 (fulTo S i - fulTo A i) ∧ tget t 14 = i64 i ∧ τ' = τ.grow [(stL A (some ⟨c1', 0, none⟩) g1' (some ⟨c2', 0, none⟩) g2', 5), ([i64 0, u64 0, i64 N], 3)]) S.sl.length m2 ⟨?_, ?_, ?_, ?_, ?_, ?_, ?_, rfl⟩ ?_
    iterate 7 simp (disch := omega) only [Int.natCast_zero, Int.ofNat_zero, hf0, r0_reevelaw21_RuleRevokes, r1_reevelaw21_RuleRevokes, r2_reevelaw21_RuleRevokes, k1_reevelaw21_RuleRevokes, r3_reevelaw21_RuleRevokes, r4_reevelaw21_RuleRevokes, r5_reevelaw21_RuleRevokes, k4_reevelaw21_RuleRevokes, r6_reevelaw21_RuleRevokes, r7_reevelaw21_RuleRevokes, r8_reevelaw21_RuleRevokes, r9_reevelaw21_RuleRevokes, k8_reevelaw21_RuleRevokes, r10_reevelaw21_RuleRevokes, r11_reevelaw21_RuleRevokes, r12_reevelaw21_RuleRevokes, k12_reevelaw21_RuleRevokes, r13_reevelaw21_RuleRevokes, r14_reevelaw21_RuleRevokes, k14_reevelaw21_RuleRevokes, r15_reevelaw21_RuleRevokes, r16_reevelaw21_RuleRevokes, k16_reevelaw21_RuleRevokes, k15_reevelaw21_RuleRevokes, r17_reevelaw21_RuleRevokes, k17_reevelaw21_RuleRevokes, k13_reevelaw21_RuleRevokes, k11_reevelaw21_RuleRevokes, r18_reevelaw21_RuleRevokes, k18_reevelaw21_RuleRevokes, k10_reevelaw21_RuleRevokes, k9_reevelaw21_RuleRevokes, k7_reevelaw21_RuleRevokes, k6_reevelaw21_RuleRevokes, k5_reevelaw21_RuleRevokes, k3_reevelaw21_RuleRevokes, k2_reevelaw21_RuleRevokes, k0_reevelaw21_RuleRevokes, c_reevelaw21_RuleRevokes, Z0, Z1, Z2, Z3, Z4, Z5, Z6, Z7, Z8, Z9, Z10, resAll, Nat.reduceAdd, Nat.reduceEqDiff, Nat.reduceLeDiff, Nat.reduceMul, ↓reduceIte, reduceCtorEq, Nat.reduceBEq, aoper, Nat.reduceLT, Int.reduceEq, Int.reduceLT, Int.reduceLE]
    rintro i t τ' hi ⟨t3, t8, t9, t11, t12, t13, t14, rfl⟩
    by_cases hlt : i < S.sl.length
    · have hx : S.sl[i]? = some S.sl[i] := List.getElem?_eq_getElem hlt
      have hy : A.sl[i]? = some (A.sl[i]'(by omega)) := List.getElem?_eq_getElem _
      generalize S.sl[i] = z at hx
      generalize A.sl[i]'(by omega) = y at hy
      have hlt' : (i : Int) < (S.sl.length : Int) := by omega
      have hlt2 : (i : Int) < (A.sl.length : Int) := by omega
      have hlt3 : i < A.sl.length := by omega
      have hcast : ((i + 1 : Nat) : Int) = (i : Int) + 1 := by omega
      have hy4 := fun L => u1.ld (Keeps.refl _) hy L 4 1 (by omega)
      have hyc : ∀ M, (τ.grow M).loadN c1' (i * 5) 4 = some (capL y) := fun M => u1.ld0 (Keeps.refl _) hy M 4 (by omega)
      have hzc : ∀ M, (τ.grow M).loadN b1 (i * 5) 4 = some (capL z) := fun M => hb1'.ld0 (Keeps.refl _) hx M 4 (by omega)
      simp only [slotL, List.drop_succ_cons, List.drop_zero, List.take_succ_cons, List.take_zero] at hy4
      have hne := hups i y hy
      have hn1 := fulTo_next hx
      have hn2 := fulTo_next hy
      have hb := fulTo_le S i
      have hb2' := fulTo_le A i
      cases gy : capNone y with
      | false =>
        have gz : capNone z = false := by
          cases g : capNone z with
          | false => rfl
          | true => rw [hnon i z y hx hy g] at gy; cases gy
        rw [gy, if_neg (by simp)] at hn2
        rw [gz, if_neg (by simp)] at hn1
        have hsum : fulTo S (i + 1) - fulTo A (i + 1) = fulTo S i - fulTo A i := by omega
        simp (disch := omega) only [t3, t8, t9, t11, t12, t13, t14, l0, hlt2, hlt3, hlt, hcast, hy4, hyc, hzc, Int.toNat_natCast, cap_None_ok, hne, gy, gz, hsum, r0_reevelaw21_RuleRevokes, r1_reevelaw21_RuleRevokes, r2_reevelaw21_RuleRevokes, k1_reevelaw21_RuleRevokes, r3_reevelaw21_RuleRevokes, r4_reevelaw21_RuleRevokes, r5_reevelaw21_RuleRevokes, k4_reevelaw21_RuleRevokes, r6_reevelaw21_RuleRevokes, r7_reevelaw21_RuleRevokes, r8_reevelaw21_RuleRevokes, r9_reevelaw21_RuleRevokes, k8_reevelaw21_RuleRevokes, r10_reevelaw21_RuleRevokes, r11_reevelaw21_RuleRevokes, r12_reevelaw21_RuleRevokes, k12_reevelaw21_RuleRevokes, r13_reevelaw21_RuleRevokes, r14_reevelaw21_RuleRevokes, k14_reevelaw21_RuleRevokes, r15_reevelaw21_RuleRevokes, r16_reevelaw21_RuleRevokes, k16_reevelaw21_RuleRevokes, k15_reevelaw21_RuleRevokes, r17_reevelaw21_RuleRevokes, k17_reevelaw21_RuleRevokes, k13_reevelaw21_RuleRevokes, k11_reevelaw21_RuleRevokes, r18_reevelaw21_RuleRevokes, k18_reevelaw21_RuleRevokes, k10_reevelaw21_RuleRevokes, k9_reevelaw21_RuleRevokes, k7_reevelaw21_RuleRevokes, k6_reevelaw21_RuleRevokes, k5_reevelaw21_RuleRevokes, k3_reevelaw21_RuleRevokes, k2_reevelaw21_RuleRevokes, k0_reevelaw21_RuleRevokes, b0_reevelaw21_RuleRevokes, Z0, Z1, Z2, Z3, Z4, Z5, Z6, Z7, Z8, Z9, Z10, resAll, Nat.reduceAdd, Nat.reduceEqDiff, Nat.reduceLeDiff, Nat.reduceMul, ↓reduceIte, reduceCtorEq, Nat.reduceBEq, aoper, Nat.reduceLT, Int.reduceEq, Int.reduceLT, Int.reduceLE]
      | true =>
        rw [gy, if_pos rfl, Int.add_zero] at hn2
        cases gz : capNone z with
        | true =>
          rw [gz, if_pos rfl, Int.add_zero] at hn1
          have hsum : fulTo S (i + 1) - fulTo A (i + 1) = fulTo S i - fulTo A i := by omega
          simp (disch := omega) only [t3, t8, t9, t11, t12, t13, t14, l0, hlt2, hlt3, hlt, hlt', hcast, hy4, hyc, hzc, Int.toNat_natCast, cap_None_ok, hne, gy, gz, hsum, r0_reevelaw21_RuleRevokes, r1_reevelaw21_RuleRevokes, r2_reevelaw21_RuleRevokes, k1_reevelaw21_RuleRevokes, r3_reevelaw21_RuleRevokes, r4_reevelaw21_RuleRevokes, r5_reevelaw21_RuleRevokes, k4_reevelaw21_RuleRevokes, r6_reevelaw21_RuleRevokes, r7_reevelaw21_RuleRevokes, r8_reevelaw21_RuleRevokes, r9_reevelaw21_RuleRevokes, k8_reevelaw21_RuleRevokes, r10_reevelaw21_RuleRevokes, r11_reevelaw21_RuleRevokes, r12_reevelaw21_RuleRevokes, k12_reevelaw21_RuleRevokes, r13_reevelaw21_RuleRevokes, r14_reevelaw21_RuleRevokes, k14_reevelaw21_RuleRevokes, r15_reevelaw21_RuleRevokes, r16_reevelaw21_RuleRevokes, k16_reevelaw21_RuleRevokes, k15_reevelaw21_RuleRevokes, r17_reevelaw21_RuleRevokes, k17_reevelaw21_RuleRevokes, k13_reevelaw21_RuleRevokes, k11_reevelaw21_RuleRevokes, r18_reevelaw21_RuleRevokes, k18_reevelaw21_RuleRevokes, k10_reevelaw21_RuleRevokes, k9_reevelaw21_RuleRevokes, k7_reevelaw21_RuleRevokes, k6_reevelaw21_RuleRevokes, k5_reevelaw21_RuleRevokes, k3_reevelaw21_RuleRevokes, k2_reevelaw21_RuleRevokes, k0_reevelaw21_RuleRevokes, b0_reevelaw21_RuleRevokes, Z0, Z1, Z2, Z3, Z4, Z5, Z6, Z7, Z8, Z9, Z10, resAll, Nat.reduceAdd, Nat.reduceEqDiff, Nat.reduceLeDiff, Nat.reduceMul, ↓reduceIte, reduceCtorEq, Nat.reduceBEq, aoper, Nat.reduceLT, Int.reduceEq, Int.reduceLT, Int.reduceLE]
        | false =>
          rw [gz, if_neg (by simp)] at hn1
          have hsum : fulTo S (i + 1) - fulTo A (i + 1) = fulTo S i - fulTo A i + 1 := by omega
          simp (disch := omega) only [t3, t8, t9, t11, t12, t13, t14, l0, hlt2, hlt3, hlt, hlt', hcast, hy4, hyc, hzc, Int.toNat_natCast, cap_None_ok, hne, gy, gz, hsum, r0_reevelaw21_RuleRevokes, r1_reevelaw21_RuleRevokes, r2_reevelaw21_RuleRevokes, k1_reevelaw21_RuleRevokes, r3_reevelaw21_RuleRevokes, r4_reevelaw21_RuleRevokes, r5_reevelaw21_RuleRevokes, k4_reevelaw21_RuleRevokes, r6_reevelaw21_RuleRevokes, r7_reevelaw21_RuleRevokes, r8_reevelaw21_RuleRevokes, r9_reevelaw21_RuleRevokes, k8_reevelaw21_RuleRevokes, r10_reevelaw21_RuleRevokes, r11_reevelaw21_RuleRevokes, r12_reevelaw21_RuleRevokes, k12_reevelaw21_RuleRevokes, r13_reevelaw21_RuleRevokes, r14_reevelaw21_RuleRevokes, k14_reevelaw21_RuleRevokes, r15_reevelaw21_RuleRevokes, r16_reevelaw21_RuleRevokes, k16_reevelaw21_RuleRevokes, k15_reevelaw21_RuleRevokes, r17_reevelaw21_RuleRevokes, k17_reevelaw21_RuleRevokes, k13_reevelaw21_RuleRevokes, k11_reevelaw21_RuleRevokes, r18_reevelaw21_RuleRevokes, k18_reevelaw21_RuleRevokes, k10_reevelaw21_RuleRevokes, k9_reevelaw21_RuleRevokes, k7_reevelaw21_RuleRevokes, k6_reevelaw21_RuleRevokes, k5_reevelaw21_RuleRevokes, k3_reevelaw21_RuleRevokes, k2_reevelaw21_RuleRevokes, k0_reevelaw21_RuleRevokes, b0_reevelaw21_RuleRevokes, Z0, Z1, Z2, Z3, Z4, Z5, Z6, Z7, Z8, Z9, Z10, resAll, Nat.reduceAdd, Nat.reduceEqDiff, Nat.reduceLeDiff, Nat.reduceMul, ↓reduceIte, reduceCtorEq, Nat.reduceBEq, aoper, Nat.reduceLT, Int.reduceEq, Int.reduceLT, Int.reduceLE]
    · have hii : i = S.sl.length := by omega
      subst hii
      have hlt' : ¬ (S.sl.length : Int) < (A.sl.length : Int) := by omega
      have hcnt' : fulTo S S.sl.length - fulTo A S.sl.length = N := by
        have := fulTo_all S
        have h2 := fulTo_all A
        rw [hlen] at h2
        omega
      obtain ⟨y, hy0, hy⟩ := atI_some (l := A.sl) (z := at') hat0.1 (by omega)
      have hyc : ∀ M, (τ.grow M).loadN c1' (at'.toNat * 5) 4 = some (capL y) := fun M => u1.ld0 (Keeps.refl _) hy M 4 (by omega)
      have hr1 : 0 ≤ at' := hat0.1
      have hr2 : at' < (A.sl.length : Int) := by omega
      simp (disch := omega) only [t3, t8, t9, t11, t12, t13, t14, hlt', hcnt', r0_reevelaw21_RuleRevokes, r1_reevelaw21_RuleRevokes, r2_reevelaw21_RuleRevokes, k1_reevelaw21_RuleRevokes, r3_reevelaw21_RuleRevokes, r4_reevelaw21_RuleRevokes, r5_reevelaw21_RuleRevokes, k4_reevelaw21_RuleRevokes, r6_reevelaw21_RuleRevokes, r7_reevelaw21_RuleRevokes, r8_reevelaw21_RuleRevokes, r9_reevelaw21_RuleRevokes, k8_reevelaw21_RuleRevokes, r10_reevelaw21_RuleRevokes, r11_reevelaw21_RuleRevokes, r12_reevelaw21_RuleRevokes, k12_reevelaw21_RuleRevokes, r13_reevelaw21_RuleRevokes, r14_reevelaw21_RuleRevokes, k14_reevelaw21_RuleRevokes, r15_reevelaw21_RuleRevokes, r16_reevelaw21_RuleRevokes, k16_reevelaw21_RuleRevokes, k15_reevelaw21_RuleRevokes, r17_reevelaw21_RuleRevokes, k17_reevelaw21_RuleRevokes, k13_reevelaw21_RuleRevokes, k11_reevelaw21_RuleRevokes, r18_reevelaw21_RuleRevokes, k18_reevelaw21_RuleRevokes, k10_reevelaw21_RuleRevokes, k9_reevelaw21_RuleRevokes, k7_reevelaw21_RuleRevokes, k6_reevelaw21_RuleRevokes, k5_reevelaw21_RuleRevokes, k3_reevelaw21_RuleRevokes, k2_reevelaw21_RuleRevokes, k0_reevelaw21_RuleRevokes, b0_reevelaw21_RuleRevokes, Z0, Z1, Z2, Z3, Z4, Z5, Z6, Z7, Z8, Z9, Z10, resAll, Nat.reduceAdd, Nat.reduceEqDiff, Nat.reduceLeDiff, Nat.reduceMul, ↓reduceIte, reduceCtorEq, Nat.reduceBEq, aoper, Nat.reduceLT, Int.reduceEq, Int.reduceLT, Int.reduceLE]
      refine ends_drw ?_
      cases gy : capNone y with
      | true => simp (disch := omega) only [t3, t8, t9, t11, t12, t13, t14, l2, hyc, hr1, hr2, hcnt', cap_None_ok, gy, w3, kontD_grow lo3, r0_reevelaw21_RuleRevokes, r1_reevelaw21_RuleRevokes, r2_reevelaw21_RuleRevokes, k1_reevelaw21_RuleRevokes, r3_reevelaw21_RuleRevokes, r4_reevelaw21_RuleRevokes, r5_reevelaw21_RuleRevokes, k4_reevelaw21_RuleRevokes, r6_reevelaw21_RuleRevokes, r7_reevelaw21_RuleRevokes, r8_reevelaw21_RuleRevokes, r9_reevelaw21_RuleRevokes, k8_reevelaw21_RuleRevokes, r10_reevelaw21_RuleRevokes, r11_reevelaw21_RuleRevokes, r12_reevelaw21_RuleRevokes, k12_reevelaw21_RuleRevokes, r13_reevelaw21_RuleRevokes, r14_reevelaw21_RuleRevokes, k14_reevelaw21_RuleRevokes, r15_reevelaw21_RuleRevokes, r16_reevelaw21_RuleRevokes, k16_reevelaw21_RuleRevokes, k15_reevelaw21_RuleRevokes, r17_reevelaw21_RuleRevokes, k17_reevelaw21_RuleRevokes, k13_reevelaw21_RuleRevokes, k11_reevelaw21_RuleRevokes, r18_reevelaw21_RuleRevokes, k18_reevelaw21_RuleRevokes, k10_reevelaw21_RuleRevokes, k9_reevelaw21_RuleRevokes, k7_reevelaw21_RuleRevokes, k6_reevelaw21_RuleRevokes, k5_reevelaw21_RuleRevokes, k3_reevelaw21_RuleRevokes, k2_reevelaw21_RuleRevokes, k0_reevelaw21_RuleRevokes, b0_reevelaw21_RuleRevokes, Z0, Z1, Z2, Z3, Z4, Z5, Z6, Z7, Z8, Z9, Z10, resAll, Nat.reduceAdd, Nat.reduceEqDiff, Nat.reduceLeDiff, Nat.reduceMul, ↓reduceIte, reduceCtorEq, Nat.reduceBEq, aoper, Nat.reduceLT, Int.reduceEq, Int.reduceLT, Int.reduceLE]
      | false =>
        have hcap4 : eq4 y.type y.thing y.rights y.badge x.type x.thing x.rights x.badge = true := by
          rcases hcp y hy with h | ⟨h1, h2, h3, h4⟩
          · rw [gy] at h; cases h
          · unfold eq4; rw [h1, h2, h3, h4]; simp
        simp (disch := omega) only [t3, t8, t9, t11, t12, t13, t14, l2, hyc, hr1, hr2, hcnt', cap_None_ok, gy, hcap4, w3, kontD_grow lo3, r0_reevelaw21_RuleRevokes, r1_reevelaw21_RuleRevokes, r2_reevelaw21_RuleRevokes, k1_reevelaw21_RuleRevokes, r3_reevelaw21_RuleRevokes, r4_reevelaw21_RuleRevokes, r5_reevelaw21_RuleRevokes, k4_reevelaw21_RuleRevokes, r6_reevelaw21_RuleRevokes, r7_reevelaw21_RuleRevokes, r8_reevelaw21_RuleRevokes, r9_reevelaw21_RuleRevokes, k8_reevelaw21_RuleRevokes, r10_reevelaw21_RuleRevokes, r11_reevelaw21_RuleRevokes, r12_reevelaw21_RuleRevokes, k12_reevelaw21_RuleRevokes, r13_reevelaw21_RuleRevokes, r14_reevelaw21_RuleRevokes, k14_reevelaw21_RuleRevokes, r15_reevelaw21_RuleRevokes, r16_reevelaw21_RuleRevokes, k16_reevelaw21_RuleRevokes, k15_reevelaw21_RuleRevokes, r17_reevelaw21_RuleRevokes, k17_reevelaw21_RuleRevokes, k13_reevelaw21_RuleRevokes, k11_reevelaw21_RuleRevokes, r18_reevelaw21_RuleRevokes, k18_reevelaw21_RuleRevokes, k10_reevelaw21_RuleRevokes, k9_reevelaw21_RuleRevokes, k7_reevelaw21_RuleRevokes, k6_reevelaw21_RuleRevokes, k5_reevelaw21_RuleRevokes, k3_reevelaw21_RuleRevokes, k2_reevelaw21_RuleRevokes, k0_reevelaw21_RuleRevokes, b0_reevelaw21_RuleRevokes, Z0, Z1, Z2, Z3, Z4, Z5, Z6, Z7, Z8, Z9, Z10, resAll, Nat.reduceAdd, Nat.reduceEqDiff, Nat.reduceLeDiff, Nat.reduceMul, ↓reduceIte, reduceCtorEq, Nat.reduceBEq, aoper, Nat.reduceLT, Int.reduceEq, Int.reduceLT, Int.reduceLE]
  · rw [r1] at ee
    simp (disch := omega) only [hA, hheavy, sl6_all, sl6_1, c0, hgood, c1, hcap, ee, sto_0 lo3, sto_1 lo3, repL, l0, l2, c2, w3, r0_reevelaw21_RuleRevokes, r1_reevelaw21_RuleRevokes, r2_reevelaw21_RuleRevokes, k1_reevelaw21_RuleRevokes, r3_reevelaw21_RuleRevokes, r4_reevelaw21_RuleRevokes, r5_reevelaw21_RuleRevokes, k4_reevelaw21_RuleRevokes, r6_reevelaw21_RuleRevokes, r7_reevelaw21_RuleRevokes, r8_reevelaw21_RuleRevokes, r9_reevelaw21_RuleRevokes, k8_reevelaw21_RuleRevokes, r10_reevelaw21_RuleRevokes, r11_reevelaw21_RuleRevokes, r12_reevelaw21_RuleRevokes, k12_reevelaw21_RuleRevokes, r13_reevelaw21_RuleRevokes, r14_reevelaw21_RuleRevokes, k14_reevelaw21_RuleRevokes, r15_reevelaw21_RuleRevokes, r16_reevelaw21_RuleRevokes, k16_reevelaw21_RuleRevokes, k15_reevelaw21_RuleRevokes, r17_reevelaw21_RuleRevokes, k17_reevelaw21_RuleRevokes, k13_reevelaw21_RuleRevokes, k11_reevelaw21_RuleRevokes, r18_reevelaw21_RuleRevokes, k18_reevelaw21_RuleRevokes, k10_reevelaw21_RuleRevokes, k9_reevelaw21_RuleRevokes, k7_reevelaw21_RuleRevokes, k6_reevelaw21_RuleRevokes, k5_reevelaw21_RuleRevokes, k3_reevelaw21_RuleRevokes, k2_reevelaw21_RuleRevokes, k0_reevelaw21_RuleRevokes, c_reevelaw21_RuleRevokes, Z0, Z1, Z2, Z3, Z4, Z5, Z6, Z7, Z8, Z9, Z10, resAll, Nat.reduceAdd, Nat.reduceEqDiff, Nat.reduceLeDiff, Nat.reduceMul, ↓reduceIte, reduceCtorEq, Nat.reduceBEq, aoper, Nat.reduceLT, Int.reduceEq, Int.reduceLT, Int.reduceLE]
theorem RuleRevokes_far (d : Nat) (σ : AHeap) (S : StD) (a1 : Option Addr) (f1 : Nat) (a2 : Option Addr) (f2 : Nat) (thread : Int) (l : List Int) (a : Option Addr) (f : Nat) (hm : (100 : Int) < S.sl.length ∨ (50 : Int) < S.th.length)
    (hA : acall (ofProg Tryz.prog) 1000 (d + 1) 44 [] (σ.fresh.grow [(stL S a1 f1 a2 f2, 5)]) = some (.bool true, σ.fresh.grow [(stL S a1 f1 a2 f2, 5)])) :
    acall (ofProg Tryz.prog) 1000 (d + 2) 7 [stV S a1 f1 a2 f2, .int .i64 thread, .slice a l.length f] σ = some (.bool true, σ) := by
  refine acall_flat e_reevelaw21_RuleRevokes (by simp) rfl ?_
  have hheavy := heavy21_ok d
  have c0 : (decide ((100 : Int) < S.sl.length) || (decide ((50 : Int) < S.th.length) || (decide ((10 : Int) < l.length) || decide ((10 : Int) < (0 : Nat))))) = true := by rcases hm with hm | hm <;> simp [hm]
  simp (disch := omega) only [hA, hheavy, sl6_all, c0, r0_reevelaw21_RuleRevokes, r1_reevelaw21_RuleRevokes, r2_reevelaw21_RuleRevokes, k1_reevelaw21_RuleRevokes, r3_reevelaw21_RuleRevokes, r4_reevelaw21_RuleRevokes, r5_reevelaw21_RuleRevokes, k4_reevelaw21_RuleRevokes, r6_reevelaw21_RuleRevokes, r7_reevelaw21_RuleRevokes, r8_reevelaw21_RuleRevokes, r9_reevelaw21_RuleRevokes, k8_reevelaw21_RuleRevokes, r10_reevelaw21_RuleRevokes, r11_reevelaw21_RuleRevokes, r12_reevelaw21_RuleRevokes, k12_reevelaw21_RuleRevokes, r13_reevelaw21_RuleRevokes, r14_reevelaw21_RuleRevokes, k14_reevelaw21_RuleRevokes, r15_reevelaw21_RuleRevokes, r16_reevelaw21_RuleRevokes, k16_reevelaw21_RuleRevokes, k15_reevelaw21_RuleRevokes, r17_reevelaw21_RuleRevokes, k17_reevelaw21_RuleRevokes, k13_reevelaw21_RuleRevokes, k11_reevelaw21_RuleRevokes, r18_reevelaw21_RuleRevokes, k18_reevelaw21_RuleRevokes, k10_reevelaw21_RuleRevokes, k9_reevelaw21_RuleRevokes, k7_reevelaw21_RuleRevokes, k6_reevelaw21_RuleRevokes, k5_reevelaw21_RuleRevokes, k3_reevelaw21_RuleRevokes, k2_reevelaw21_RuleRevokes, k0_reevelaw21_RuleRevokes, c_reevelaw21_RuleRevokes, Z0, Z1, Z2, Z3, Z4, Z5, Z6, Z7, Z8, Z9, Z10, resAll, Nat.reduceAdd, Nat.reduceEqDiff, Nat.reduceLeDiff, Nat.reduceMul, ↓reduceIte, reduceCtorEq, Nat.reduceBEq, aoper, Nat.reduceLT, Int.reduceEq, Int.reduceLT, Int.reduceLE]
end Go.Proofs.YtidmcpkbcphpiaaGreat
namespace Go.Proofs.YtidmcpkbcphpiaaGreat
open Go Go.Hai
def heapL (rs : List AObj) (low : Nat) : AHeap := { t := Tr.of rs, n := rs.length, nf := 0, dead := [], low := low }
noncomputable def testN (n : Nat) (t : Tmps) (τ : AHeap) : A := AHeap.rec (fun _ _ _ _ low => Bool.rec none (tgetK t 0 fun v => boolK v none (some false) (some true)) (Nat.beq low n)) τ
end Go.Proofs.YtidmcpkbcphpiaaGreat
namespace Go.Hai
open Go Go.ChangeShapes Go.WideShapes Go.ChangeAt Go.RowKit
theorem kept_of {w w' : World} {may : MemPlace → Prop} (h1 : w'.os = w.os) (h2 : w'.output = w.output) (h3 : ∀ B, B < w.heap.size → w'.heap[B]? = w.heap[B]?) : w.keptBut w' may := by
  refine ⟨h1, h2, fun i hi => ?_⟩
  rw [h3 i hi]
  cases w.heap[i]? with
  | none => rfl
  | some o => cases o with
    | cells c t fr => exact ⟨rfl, rfl, rfl, fun _ _ => rfl⟩
    | map es c => exact .inr ⟨rfl, rfl⟩
    | _ => rfl
end Go.Hai
namespace Go.Proofs.YtidmcpkbcphpiaaGreat
open Go Go.Hai Go.ChangeShapes Go.WideShapes
set_option maxRecDepth 100000
section
variable {H : Type} {enc : TypeId × Value → H} {P : Program} {w : World} {base : Nat} {spare : Nat → Bool} {held : Bool}
theorem trod_fields {t : TypeId} {fs : Array Field} {fuel : Nat} {cs : List Value} {x : DataW H × List MemPlace} (ht : P.underlying t = some (.struct fs)) (h : DataW.trod enc P w base spare held fuel t cs = some x) :
    cs.length = P.cellsOf t ∧ ∃ n, ∀ f ∈ fs.toList, ∃ y, DataW.trod enc P w base spare held n f.type ((cs.drop f.offset).take (P.cellsOf f.type)) = some y := by
  obtain ⟨xs, n, _, _, hl, hx, hf⟩ := DataW.trod_struct ht h
  refine ⟨hl, n, fun f hfm => ?_⟩
  obtain ⟨i, hi⟩ := List.mem_iff_getElem?.1 hfm
  have hi' : fs[i]? = some f := by simpa using hi
  have hlt : i < fs.size := (Array.getElem?_eq_some_iff.1 hi').1
  exact ⟨xs[i], by rw [hf i f hi', List.getElem?_eq_getElem (by omega)]⟩
theorem trod_items {t e : TypeId} {m fuel : Nat} {cs : List Value} {x : DataW H × List MemPlace} (ht : P.underlying t = some (.array m e)) (h : DataW.trod enc P w base spare held fuel t cs = some x) :
    cs.length = P.cellsOf t ∧ ∃ n, ∀ i, i < m → ∃ y, DataW.trod enc P w base spare held n e ((cs.drop (i * P.cellsOf e)).take (P.cellsOf e)) = some y := by
  cases fuel with
  | zero => simp [DataW.trod] at h
  | succ n =>
    unfold DataW.trod at h
    rw [ht] at h
    split at h <;> simp_all
    obtain ⟨hl, xs, hp, hd⟩ := h
    refine ⟨n, fun i hi => ?_⟩
    have h1 := mapM_some_get hp i i (by simp [hi])
    have h2 := mapM_some_length hp
    simp at h2
    rw [List.getElem?_eq_getElem (by omega)] at h1
    exact ⟨_, _, h1⟩
theorem cells_int {t : TypeId} {k : IntKind} {fuel : Nat} {cs : List Value} {x : DataW H × List MemPlace} (ht : P.underlying t = some (.int k)) (h : DataW.trod enc P w base spare held fuel t cs = some x) : ∃ z, cs = [.int k z] := by
  obtain ⟨z, rfl, _⟩ := DataW.trod_int ht h
  exact ⟨z, rfl⟩
theorem cells_bool {t : TypeId} {fuel : Nat} {cs : List Value} {x : DataW H × List MemPlace} (ht : P.underlying t = some .bool) (h : DataW.trod enc P w base spare held fuel t cs = some x) : ∃ z, cs = [.bool z] := by
  obtain ⟨z, rfl, _⟩ := DataW.trod_bool ht h
  exact ⟨z, rfl⟩
end
section
variable {H : Type} {enc : TypeId × Value → H} {w : World} {base : Nat} {spare : Nat → Bool} {held : Bool} {fuel : Nat} {cs : List Value} {x : DataW H × List MemPlace}
theorem co3 : Tryz.prog.cellsOf 3 = 1 := by kernel_rfl
theorem co4 : Tryz.prog.cellsOf 4 = 1 := by kernel_rfl
theorem co31 : Tryz.prog.cellsOf 31 = 1 := by kernel_rfl
theorem co83 : Tryz.prog.cellsOf 83 = 4 := by kernel_rfl
theorem co64 : Tryz.prog.cellsOf 64 = 4 := by kernel_rfl
theorem co23 : Tryz.prog.cellsOf 23 = 3 := by kernel_rfl
theorem co80 : Tryz.prog.cellsOf 80 = 5 := by kernel_rfl
theorem co85 : Tryz.prog.cellsOf 85 = 13 := by kernel_rfl
theorem co27 : Tryz.prog.cellsOf 27 = 5 := by kernel_rfl
theorem co24 : Tryz.prog.cellsOf 24 = 1 := by kernel_rfl
theorem co25 : Tryz.prog.cellsOf 25 = 1 := by kernel_rfl
theorem cap_cells (h : DataW.trod enc Tryz.prog w base spare held fuel 64 cs = some x) : ∃ a b c d : Int, cs = [i64 a, i64 b, i64 c, i64 d] := by
  obtain ⟨hl, n, hf⟩ := trod_fields Tryz.underlying64 h
  rw [co64] at hl
  match cs, hl with
  | [c0, c1, c2, c3], _ =>
    simp only [List.mem_cons, List.not_mem_nil, or_false, forall_eq_or_imp, forall_eq] at hf
    obtain ⟨⟨_, h0⟩, ⟨_, h1⟩, ⟨_, h2⟩, ⟨_, h3⟩⟩ := hf
    simp only [co3] at h0 h1 h2 h3
    obtain ⟨z0, e0⟩ := cells_int Tryz.underlying3 h0
    obtain ⟨z1, e1⟩ := cells_int Tryz.underlying3 h1
    obtain ⟨z2, e2⟩ := cells_int Tryz.underlying3 h2
    obtain ⟨z3, e3⟩ := cells_int Tryz.underlying3 h3
    simp at e0 e1 e2 e3
    exact ⟨z0, z1, z2, z3, by rw [e0, e1, e2, e3]⟩
theorem slot_cells (h : DataW.trod enc Tryz.prog w base spare held fuel 80 cs = some x) : ∃ s : SlotD, cs = slotL s := by
  obtain ⟨hl, n, hf⟩ := trod_fields Tryz.underlying80 h
  rw [co80] at hl
  match cs, hl with
  | [c0, c1, c2, c3, c4], _ =>
    simp only [List.mem_cons, List.not_mem_nil, or_false, forall_eq_or_imp, forall_eq] at hf
    obtain ⟨⟨_, h0⟩, ⟨_, h1⟩⟩ := hf
    simp only [co3, co64] at h0 h1
    obtain ⟨a, b, c, d, e0⟩ := cap_cells h0
    obtain ⟨z1, e1⟩ := cells_int Tryz.underlying3 h1
    simp at e0 e1
    exact ⟨⟨a, b, c, d, z1⟩, by rw [e0.1, e0.2.1, e0.2.2.1, e0.2.2.2, e1]⟩
theorem data_cells (h : DataW.trod enc Tryz.prog w base spare held fuel 83 cs = some x) : ∃ a b c d : Int, cs = [u64 a, u64 b, u64 c, u64 d] := by
  obtain ⟨hl, n, hf⟩ := trod_items Tryz.underlying83 h
  rw [co83] at hl
  match cs, hl with
  | [c0, c1, c2, c3], _ =>
    obtain ⟨_, h0⟩ := hf 0 (by omega)
    obtain ⟨_, h1⟩ := hf 1 (by omega)
    obtain ⟨_, h2⟩ := hf 2 (by omega)
    obtain ⟨_, h3⟩ := hf 3 (by omega)
    simp only [co31] at h0 h1 h2 h3
    obtain ⟨z0, e0⟩ := cells_int Tryz.underlying31 h0
    obtain ⟨z1, e1⟩ := cells_int Tryz.underlying31 h1
    obtain ⟨z2, e2⟩ := cells_int Tryz.underlying31 h2
    obtain ⟨z3, e3⟩ := cells_int Tryz.underlying31 h3
    simp at e0 e1 e2 e3
    exact ⟨z0, z1, z2, z3, by rw [e0, e1, e2, e3]⟩
theorem thing_cells (h : DataW.trod enc Tryz.prog w base spare held fuel 85 cs = some x) : ∃ t : ThingD, cs = thingL t := by
  obtain ⟨hl, n, hf⟩ := trod_fields Tryz.underlying85 h
  rw [co85] at hl
  match cs, hl with
  | [c0, c1, c2, c3, c4, c5, c6, c7, c8, c9, c10, c11, c12], _ =>
    simp only [List.mem_cons, List.not_mem_nil, or_false, forall_eq_or_imp, forall_eq] at hf
    obtain ⟨⟨_, h0⟩, ⟨_, h1⟩, ⟨_, h2⟩, ⟨_, h3⟩, ⟨_, h4⟩, ⟨_, h5⟩, ⟨_, h6⟩, ⟨_, h7⟩, ⟨_, h8⟩, ⟨_, h9⟩⟩ := hf
    simp only [co3, co4, co31, co83] at h0 h1 h2 h3 h4 h5 h6 h7 h8 h9
    obtain ⟨z0, e0⟩ := cells_int Tryz.underlying3 h0
    obtain ⟨z1, e1⟩ := cells_int Tryz.underlying3 h1
    obtain ⟨z2, e2⟩ := cells_int Tryz.underlying3 h2
    obtain ⟨z3, e3⟩ := cells_int Tryz.underlying3 h3
    obtain ⟨z4, e4⟩ := cells_int Tryz.underlying3 h4
    obtain ⟨z5, e5⟩ := cells_int Tryz.underlying3 h5
    obtain ⟨z6, e6⟩ := cells_int Tryz.underlying3 h6
    obtain ⟨z7, e7⟩ := cells_bool Tryz.underlying4 h7
    obtain ⟨z8, e8⟩ := cells_int Tryz.underlying31 h8
    obtain ⟨y0, y1, y2, y3, e9⟩ := data_cells h9
    simp at e0 e1 e2 e3 e4 e5 e6 e7 e8 e9
    exact ⟨⟨z0, z1, z2, z3, z4, z5, z6, z7, z8, y0, y1, y2, y3⟩, by rw [e0, e1, e2, e3, e4, e5, e6, e7, e8, e9.1, e9.2.1, e9.2.2.1, e9.2.2.2]⟩
theorem int_cells (h : DataW.trod enc Tryz.prog w base spare held fuel 3 cs = some x) : ∃ z : Int, cs = intL z := cells_int Tryz.underlying3 h
end
def roRow (l : List Value) (es : Nat) : AObj := .row (Tr.of l) l.length es false false none
theorem load_ro {τ : AHeap} {b es o n : Nat} {l : List Value} (h : τ.t.get b = some (roRow l es)) (hl : o + n ≤ l.length) : τ.loadN b o n = some ((l.drop o).take n) := by
  unfold AHeap.loadN AHeap.row?
  rw [h]
  simp only [roRow, AHeap.alive, if_true]
  rw [if_pos (Nat.ble_eq_true_of_le hl), cellsFrom_of _ _ _ hl]
section
variable {α : Type} {cells : α → List Value} {es : Nat}
theorem SlAt_ro (hes : ∀ x, (cells x).length = es) {σ : AHeap} {b : Nat} {l : List α} (hb : b < σ.n) (h : σ.t.get b = some (roRow (flatL cells l) es)) : SlAt cells es σ b l := by
  refine ⟨hb, fun i x hx o n ho => ?_⟩
  have hi := (List.getElem?_eq_some_iff.1 hx).1
  have hm : (i + 1) * es ≤ l.length * es := Nat.mul_le_mul_right _ hi
  rw [Nat.succ_mul] at hm
  rw [load_ro h (by rw [flatL_length hes]; omega)]
  obtain ⟨r, hr⟩ := flatL_drop hes l i x hx
  rw [← List.drop_drop, hr]
  have hl := hes x
  rw [List.drop_append_of_le_length (by omega), List.take_append_of_le_length (by rw [List.length_drop]; omega)]
theorem choose_list {p : Nat → α → Prop} : ∀ n, (∀ i, i < n → ∃ x, p i x) → ∃ l : List α, l.length = n ∧ ∀ (i : Nat) (x : α), l[i]? = some x → p i x := by
  intro n
  induction n with
  | zero => intro _; exact ⟨[], rfl, fun i x h => by simp at h⟩
  | succ n ih =>
    intro h
    obtain ⟨l, h1, h2⟩ := ih fun i hi => h i (by omega)
    obtain ⟨x, hx⟩ := h n (by omega)
    refine ⟨l ++ [x], by simp [h1], fun i y hy => ?_⟩
    by_cases hi : i < l.length
    · rw [List.getElem?_append_left hi] at hy; exact h2 i y hy
    · have hi' : i = n := by have := (List.getElem?_eq_some_iff.1 hy).1; simp at this; omega
      subst hi'
      rw [← h1] at hy
      simp at hy
      subst hy; exact hx
theorem isCell_scal {v : Value} (h : scal v = true) : isCell v = true := by
  cases v <;> first | rfl | simp [scal] at h
theorem slice_view [Rho] {H : Type} {enc : TypeId × Value → H} {P : Program} {w : World} (hes : ∀ x, (cells x).length = es) (hes0 : 0 < es) (hsc : ∀ x, ∀ v ∈ cells x, scal v = true) {t e : TypeId} (ht : P.underlying t = some (.slice e)) (hc : P.cellsOf e = es)
    (hcell : ∀ n cs y, DataW.trod enc P w 0 (fun _ => true) true n e cs = some y → ∃ x, cs = cells x) {v : Value} {fuel : Nat} {x : DataW H × List MemPlace} (h : DataW.trod enc P w 0 (fun _ => true) true fuel t [v] = some x) (b : Nat) :
    ∃ (l : List α) (a1 : Option Addr) (f1 : Nat) (loc : Option Hai.Loc), (∀ ρ : Ren, ρ b = loc → VR ρ (.slice a1 l.length f1) v) ∧ (∀ σ : AHeap, b < σ.n → σ.t.get b = some (roRow (flatL cells l) es) → SlP cells es σ a1 l) ∧
      (∀ L, loc = some L → L.es = es ∧ L.blk < w.heap.size ∧ ∀ ρ, RowAt ρ w (Tr.of (flatL cells l)) (flatL cells l).length false L) := by
  rcases Deep.open_slice ht h with ⟨h1, _⟩ | ⟨a, len, cap, m, n, D, Pl, h1, _, hlc, _, hm, _, hel⟩
  · simp only [List.cons.injEq, and_true] at h1
    subst h1
    exact ⟨[], none, 0, none, fun ρ _ => .flat rfl, fun _ _ _ => .inl rfl, fun L h => by cases h⟩
  · simp only [List.cons.injEq, and_true] at h1
    subst h1
    simp only [if_true] at hm
    subst hm
    rw [hc] at hel
    by_cases h0 : m = 0
    · subst h0
      have : len = 0 := by omega
      subst this
      exact ⟨[], some a, 0, none, fun ρ _ => .sl0, fun _ _ _ => .inl rfl, fun L h => by cases h⟩
    · have hel' : ∀ i, i < m → ∃ y, w.cells? 0 (a.add (i * es)) es = some (cells y) := fun i hi => by
        obtain ⟨cs', g1, g2⟩ := hel i hi
        obtain ⟨y, rfl⟩ := hcell _ _ _ g2
        exact ⟨y, g1⟩
      obtain ⟨l, l1, l2⟩ := choose_list (p := fun i y => w.cells? 0 (a.add (i * es)) es = some (cells y)) len fun i hi => hel' i (by omega)
      obtain ⟨y0, hy0⟩ := hel' 0 (by omega)
      obtain ⟨_, _, hy0'⟩ := World.cells?_some hy0
      have hc0 := hy0' 0 hes0
      have hlen0 := hes y0
      rw [Nat.zero_mul, List.getElem?_eq_getElem (by omega)] at hc0
      simp only [Addr.add, if_true] at hc0
      obtain ⟨blk, off, sp⟩ := a
      have hheap : ∃ C T fr, w.heap[blk]? = some (.cells C T fr) ∧ sp = none ∧ off < C.size := by
        unfold World.cell? at hc0
        split at hc0
        · next C T fr hh =>
          split at hc0
          · cases hc0
          · next hsp =>
            refine ⟨C, T, fr, hh, by cases sp <;> simp_all, ?_⟩
            exact (Array.getElem?_eq_some_iff.1 hc0).1
        · cases hc0
      obtain ⟨C, T, fr, hh, rfl, hoff⟩ := hheap
      have hblk : blk < w.heap.size := (Array.getElem?_eq_some_iff.1 hh).1
      have hfl := flatL_length hes l
      have hcells : ∀ j, j < l.length * es → C[off + j]? = (flatL cells l)[j]? := by
        intro j hj
        have hq : j / es < l.length := (Nat.div_lt_iff_lt_mul hes0).2 hj
        have hr : j % es < es := Nat.mod_lt _ hes0
        have hj' : j = j / es * es + j % es := by rw [Nat.mul_comm]; exact (Nat.div_add_mod _ _).symm
        have hx := List.getElem?_eq_getElem hq
        generalize l[j / es] = y at hx
        obtain ⟨_, _, g⟩ := World.cells?_some (l2 _ _ hx)
        have g := g (j % es) hr
        rw [add_none, add_none] at g
        unfold World.cell? at g
        rw [hh] at g
        simp only [Option.isSome_none, Bool.false_eq_true, if_false] at g
        rw [hj', flatL_get hes hx hr, ← g]
        congr 1
        omega
      refine ⟨l, some ⟨b, 0, none⟩, 2, some ⟨blk, off, l.length * es, es⟩, fun ρ hρ => ?_, fun σ hb hg => .inr ⟨b, rfl, SlAt_ro hes hb hg⟩, fun L hL => ?_⟩
      · rw [l1]
        exact VR.sl (L := ⟨blk, off, len * es, es⟩) (by rw [hρ, l1]) hlc (by decide) (fun h => by cases h) (.inl rfl)
      · cases hL
        refine ⟨rfl, hblk, fun ρ => ⟨⟨C, T, fr, hh, ?_, Nat.le_of_eq hfl, (fun h => by cases h), fun i v hi hv => ?_⟩⟩⟩
        · by_cases hz : l.length * es = 0
          · rw [hz]; simp; omega
          · have := hcells (l.length * es - 1) (by omega)
            rw [List.getElem?_eq_getElem (by omega)] at this
            have := (Array.getElem?_eq_some_iff.1 this).1
            simp only
            omega
        · rw [Tr.get_of] at hv
          have hmem : scal v = true := by
            have := List.mem_of_getElem? hv
            unfold flatL at this
            rw [List.mem_flatten] at this
            obtain ⟨c, hc1, hc2⟩ := this
            obtain ⟨y, _, rfl⟩ := List.mem_map.1 hc1
            exact hsc y v hc2
          exact ⟨isCell_scal hmem, v, by rw [hcells i (by omega)]; exact hv, .flat (flat_of_scal hmem)⟩
end
end Go.Proofs.YtidmcpkbcphpiaaGreat
namespace Go.Proofs.YtidmcpkbcphpiaaGreat
open Go Go.Shelf Go.Sort Go.RowKit
def lays189_ren : Go.Shelf.Ren := ⟨fun | 189 => 95 | 125 => 160 | 257 => 159 | 128 => 204 | 129 => 205 | 294 => 195 | 295 => 196 | 296 => 197 | 297 => 198 | 298 => 199 | 299 => 200 | 216 => 201 | 300 => 202 | 301 => 203 | 328 => 228 | 329 => 229 | 330 => 230 | 331 => 231 | 332 => 232 | 215 => 233 | 343 => 244 | n => n, fun | 28 => 28 | 3 => 3 | 46 => 183 | 0 => 0 | 51 => 223 | 53 => 31 | 4 => 4 | 183 => 217 | 182 => 216 | 131 => 134 | 5 => 5 | 9 => 9 | 218 => 240 | 222 => 243 | 228 => 250 | 229 => 251 | n => n, fun | n => n⟩
theorem lays189 : Go.Proofs.Lays.n189 Tryz.prog lays189_ren := {
  mixed := by kernel_rfl
  f125 := Tryz.func160.trans (congrArg some (by kernel_rfl))
  f128 := Tryz.func204.trans (congrArg some (by kernel_rfl))
  f129 := Tryz.func205.trans (congrArg some (by kernel_rfl))
  f189 := Tryz.func95.trans (congrArg some (by kernel_rfl))
  f215 := Tryz.func233.trans (congrArg some (by kernel_rfl))
  f216 := Tryz.func201.trans (congrArg some (by kernel_rfl))
  f257 := Tryz.func159.trans (congrArg some (by kernel_rfl))
  f294 := Tryz.func195.trans (congrArg some (by kernel_rfl))
  f295 := Tryz.func196.trans (congrArg some (by kernel_rfl))
  f296 := Tryz.func197.trans (congrArg some (by kernel_rfl))
  f297 := Tryz.func198.trans (congrArg some (by kernel_rfl))
  f298 := Tryz.func199.trans (congrArg some (by kernel_rfl))
  f299 := Tryz.func200.trans (congrArg some (by kernel_rfl))
  f300 := Tryz.func202.trans (congrArg some (by kernel_rfl))
  f301 := Tryz.func203.trans (congrArg some (by kernel_rfl))
  f328 := Tryz.func228.trans (congrArg some (by kernel_rfl))
  f329 := Tryz.func229.trans (congrArg some (by kernel_rfl))
  f330 := Tryz.func230.trans (congrArg some (by kernel_rfl))
  f331 := Tryz.func231.trans (congrArg some (by kernel_rfl))
  f332 := Tryz.func232.trans (congrArg some (by kernel_rfl))
  f343 := Tryz.func244.trans (congrArg some (by kernel_rfl))
  t0 := Tryz.underlying0
  a0 := Tryz.isAgg0
  z0 := Tryz.sizeOf0
  v0 := Tryz.zeroValue0
  t3 := Tryz.underlying3
  a3 := Tryz.isAgg3
  z3 := Tryz.sizeOf3
  v3 := Tryz.zeroValue3
  t4 := Tryz.underlying4
  a4 := Tryz.isAgg4
  z4 := Tryz.sizeOf4
  v4 := Tryz.zeroValue4
  t5 := Tryz.underlying5
  a5 := Tryz.isAgg5
  z5 := Tryz.sizeOf5
  v5 := Tryz.zeroValue5
  t9 := Tryz.underlying9
  a9 := Tryz.isAgg9
  z9 := Tryz.sizeOf9
  v9 := Tryz.zeroValue9
  t28 := Tryz.underlying28
  a28 := Tryz.isAgg28
  z28 := Tryz.sizeOf28
  v28 := Tryz.zeroValue28
  t46 := Tryz.underlying183
  a46 := Tryz.isAgg183
  z46 := Tryz.sizeOf183
  v46 := Tryz.zeroValue183
  t51 := Tryz.underlying223
  a51 := Tryz.isAgg223
  z51 := Tryz.sizeOf223
  v51 := Tryz.zeroValue223
  t53 := Tryz.underlying31
  a53 := Tryz.isAgg31
  z53 := Tryz.sizeOf31
  v53 := Tryz.zeroValue31
  t131 := Tryz.underlying134
  a131 := Tryz.isAgg134
  z131 := Tryz.sizeOf134
  v131 := Tryz.zeroValue134
  t182 := Tryz.underlying216
  a182 := Tryz.isAgg216
  z182 := Tryz.sizeOf216
  v182 := Tryz.zeroValue216
  t183 := Tryz.underlying217
  a183 := Tryz.isAgg217
  z183 := Tryz.sizeOf217
  v183 := Tryz.zeroValue217
  t218 := Tryz.underlying240
  a218 := Tryz.isAgg240
  z218 := Tryz.sizeOf240
  v218 := Tryz.zeroValue240
  t222 := Tryz.underlying243
  a222 := Tryz.isAgg243
  z222 := Tryz.sizeOf243
  v222 := Tryz.zeroValue243
  t228 := Tryz.underlying250
  a228 := Tryz.isAgg250
  z228 := Tryz.sizeOf250
  v228 := Tryz.zeroValue250
  t229 := Tryz.underlying251
  a229 := Tryz.isAgg251
  z229 := Tryz.sizeOf251
  v229 := Tryz.zeroValue251 }
theorem sort_said : Hai.SortSaid Tryz.prog 95 :=
  ⟨fun w => Any.slices_Sort_int_none lays189 none 0 w, fun blk off cap zs w h1 h2 h3 => Any.slices_Sort_int lays189 blk off cap zs w h1 h2 h3⟩
theorem frn_ok [Hai.Rho] : Hai.CallOk Tryz.prog theFrn.val :=
  Hai.sortFrn_ok ⟨_, Tryz.func95, by kernel_rfl, by kernel_rfl⟩ sort_said
end Go.Proofs.YtidmcpkbcphpiaaGreat
namespace Go.Proofs.YtidmcpkbcphpiaaGreat
open Go Go.Hai Go.ChangeShapes Go.WideShapes
set_option maxRecDepth 100000
def heapR (R : List (List Value × Nat)) : AHeap := heapL (R.map fun p => roRow p.1 p.2) R.length
theorem heapR_get {R : List (List Value × Nat)} {k : Nat} {p : List Value × Nat} (h : R[k]? = some p) : (heapR R).t.get k = some (roRow p.1 p.2) := by
  show (Tr.of _).get k = _
  rw [Tr.get_of, List.getElem?_map, h]; rfl
theorem heapR_n (R : List (List Value × Nat)) : (heapR R).n = R.length := by simp [heapR, heapL]
def locsL (ls : List (Option Hai.Loc)) : Ren := fun b => (ls[b]?).getD none
def LocOk [Rho] (w : World) (l : List Value) (es : Nat) (loc : Option Hai.Loc) : Prop := ∀ L, loc = some L → L.es = es ∧ L.blk < w.heap.size ∧ ∀ ρ, RowAt ρ w (Tr.of l) l.length false L
def LocsOk [Rho] (w : World) : List (List Value × Nat) → List (Option Hai.Loc) → Prop
  | [], [] => True
  | p :: R, o :: ls => LocOk w p.1 p.2 o ∧ LocsOk w R ls
  | _, _ => False
theorem LocsOk.get [Rho] {w : World} : ∀ {R : List (List Value × Nat)} {ls : List (Option Hai.Loc)}, LocsOk w R ls → ∀ {b : Nat} {L : Hai.Loc}, locsL ls b = some L → ∃ p, R[b]? = some p ∧ LocOk w p.1 p.2 (some L) := by
  intro R
  induction R with
  | nil =>
    intro ls h b L hb
    cases ls with
    | nil => simp [locsL] at hb
    | cons _ _ => exact h.elim
  | cons p R ih =>
    intro ls h b L hb
    cases ls with
    | nil => exact h.elim
    | cons o ls =>
      cases b with
      | zero =>
        have : o = some L := by simpa [locsL] using hb
        subst this
        exact ⟨p, rfl, h.1⟩
      | succ b => exact ih h.2 (b := b) (by simpa [locsL] using hb)
theorem simL [Rho] {w : World} {R : List (List Value × Nat)} {ls : List (Option Hai.Loc)} (h : LocsOk w R ls) : Sim (locsL ls) (heapR R) w := by
  have key : ∀ b L, locsL ls b = some L → b < R.length ∧ ∃ c e, (heapR R).t.get b = some (roRow c e) ∧ L.es = e ∧ L.blk < w.heap.size ∧ ∀ ρ, RowAt ρ w (Tr.of c) c.length false L := by
    intro b L hb
    obtain ⟨p, hp, hl⟩ := h.get hb
    exact ⟨(List.getElem?_eq_some_iff.1 hp).1, p.1, p.2, heapR_get hp, hl L rfl⟩
  refine ⟨fun b L h => by rw [heapR_n]; exact (key b L h).1, ?_, ?_, ?_, ?_, ?_, ?_⟩
  · intro b L h; obtain ⟨_, c, e, _, _, g, _⟩ := key b L h; exact g
  · intro b L h; obtain ⟨_, c, e, g, _⟩ := key b L h; rw [g]; simp
  · intro b L cs len es top rw' fam h hg
    obtain ⟨_, c, e, g, g1, g2, g3⟩ := key b L h
    rw [g] at hg
    simp only [roRow, Option.some.injEq, AObj.row.injEq] at hg
    obtain ⟨rfl, rfl, rfl, rfl, rfl, rfl⟩ := hg
    exact ⟨g1, (fun p hp => by cases hp), fun _ => g3 _⟩
  · intro b L o h hg
    obtain ⟨_, c, e, g, _⟩ := key b L h
    rw [g] at hg
    cases hg
  · intro b b' L L' _ h h' _
    obtain ⟨_, c, e, g, _⟩ := key b L h
    obtain ⟨_, c', e', g', _⟩ := key b' L' h'
    rw [g, g']
    exact .inl ⟨rfl, rfl⟩
  · intro b b' L L' cs len es fam cs' len' es' top' rw' fam' _ h _ _ hg
    obtain ⟨_, c, e, g, _⟩ := key b L h
    rw [g] at hg
    simp only [roRow, Option.some.injEq, AObj.row.injEq] at hg
    simp at hg
theorem awake_of {k : Nat} {f : FuncId} {N : Nat} {c : ACode} (he : ofProg Tryz.prog f = some ⟨N, [.tmp 0], c⟩) (rs : List AObj)
    (h : acodeK c (acallK (ofProg Tryz.prog) 1000 k) 1000 (Tr.of []) (heapL rs rs.length) (testN rs.length) (fun _ _ _ => none) (testN rs.length) = some true) (low : Nat) :
    acall (ofProg Tryz.prog) 1000 (k + 1) f [] (heapL rs low) = some (.bool true, heapL rs low) := by
  letI : Rho := ⟨fun _ => 0⟩
  rw [acodeK_eq (acallK_eq (ofProg Tryz.prog) 1000 k)] at h
  refine acall_flat he (by simp) rfl ?_
  rw [grow_nil]
  have e : (heapL rs low).fresh = heapL rs rs.length := rfl
  rw [e]
  have fin : ∀ (t : Tmps) (τ : AHeap), testN rs.length t τ = some true → (match resAll t τ [.tmp 0] with | some vs => Hai.one vs = .bool true | none => False) ∧ τ.low = rs.length := by
    intro t τ ht
    obtain ⟨a, b, c, d, low⟩ := τ
    replace ht : (Bool.rec none (tgetK t 0 fun v => boolK v none (some false) (some true)) (Nat.beq low rs.length) : A) = some true := ht
    cases hl : Nat.beq low rs.length with
    | false => rw [hl] at ht; cases ht
    | true =>
      rw [hl] at ht
      replace ht : tgetK t 0 (fun v => boolK v none (some false) (some true)) = some true := ht
      rw [tgetK_eq] at ht
      refine ⟨?_, Nat.eq_of_beq_eq_true hl⟩
      simp only [resAll, resOne, Hai.one]
      cases hv : tget t 0 with
      | bool r => cases r with
        | true => rfl
        | false => rw [hv] at ht; cases ht
      | _ => rw [hv] at ht; cases ht
  show Hai.Ends _ (finQ rs.length _ _)
  cases hx : acode (acall (ofProg Tryz.prog) 1000 k) 1000 c (Tr.of []) (heapL rs rs.length) with
  | none => rw [hx] at h; cases h
  | some p =>
    obtain ⟨ex, t, τ⟩ := p
    rw [hx] at h
    cases ex with
    | exit i => cases h
    | normal => exact fin t τ h
    | ret => exact fin t τ h
theorem scal_slot (x : SlotD) (v : Value) (h : v ∈ slotL x) : scal v = true := by
  simp at h
  rcases h with h | h | h | h | h <;> subst h <;> rfl
theorem scal_thing (x : ThingD) (v : Value) (h : v ∈ thingL x) : scal v = true := by
  simp at h
  rcases h with h | h | h | h | h | h | h | h | h | h | h | h | h <;> subst h <;> rfl
theorem scal_int (x : Int) (v : Value) (h : v ∈ intL x) : scal v = true := by
  simp at h
  subst h; rfl
theorem Tryz.own : ownKnob Tryz.prog.godebug = none := by kernel_rfl
theorem Tryz.laidOut : laidOutB Tryz.prog = true := by kernel_rfl
section
variable {H : Type} {enc : TypeId × Value → H} {W : World}
theorem state_view [Rho] {cs : Array Value} {d0 : DataW H} {p0 : List MemPlace} (g0 : DataW.Trod enc Tryz.prog W 0 (fun _ => true) true 27 (.agg cs) d0 p0) (b0 b1 : Nat) :
    ∃ (S : StD) (a1 : Option Addr) (f1 : Nat) (a2 : Option Addr) (f2 : Nat) (loc0 loc1 : Option Hai.Loc), (∀ ρ : Ren, ρ b0 = loc0 → ρ b1 = loc1 → VR ρ (stV S a1 f1 a2 f2) (.agg cs)) ∧
      (∀ σ : AHeap, b0 < σ.n → σ.t.get b0 = some (roRow (flatL slotL S.sl) 5) → SlS σ a1 S.sl) ∧ (∀ σ : AHeap, b1 < σ.n → σ.t.get b1 = some (roRow (flatL thingL S.th) 13) → SlT σ a2 S.th) ∧
      LocOk W (flatL slotL S.sl) 5 loc0 ∧ LocOk W (flatL thingL S.th) 13 loc1 := by
  obtain ⟨fuel, hf⟩ := g0
  have hcs : (Value.agg cs).cells.toList = cs.toList := rfl
  rw [hcs] at hf
  obtain ⟨hl, m, hfs⟩ := trod_fields Tryz.underlying27 hf
  rw [co27] at hl
  simp only [List.mem_cons, List.not_mem_nil, or_false, forall_eq_or_imp, forall_eq] at hfs
  obtain ⟨⟨_, k0⟩, ⟨_, k1⟩, ⟨_, k2⟩⟩ := hfs
  obtain ⟨ds, hds⟩ : ∃ ds, cs.toList = ds := ⟨_, rfl⟩
  rw [hds] at hl k0 k1 k2
  match ds, hl with
  | [c0, c1, c2, c3, c4], _ =>
    simp only [co23, co24, co25, List.drop_zero, List.take_succ_cons, List.take_zero, List.drop_succ_cons] at k0 k1 k2
    obtain ⟨hl0, m0, hf0⟩ := trod_fields Tryz.underlying23 k0
    simp only [List.mem_cons, List.not_mem_nil, or_false, forall_eq_or_imp, forall_eq] at hf0
    obtain ⟨⟨_, j0⟩, ⟨_, j1⟩, ⟨_, j2⟩⟩ := hf0
    simp only [co3, List.drop_zero, List.take_succ_cons, List.take_zero, List.drop_succ_cons] at j0 j1 j2
    obtain ⟨z0, e0⟩ := int_cells j0
    obtain ⟨z1, e1⟩ := int_cells j1
    obtain ⟨z2, e2⟩ := int_cells j2
    simp only [List.cons.injEq, and_true] at e0 e1 e2
    subst e0; subst e1; subst e2
    obtain ⟨sl, a1, f1, loc0, q1, q2, q3⟩ := slice_view (cells := slotL) (es := 5) (fun _ => rfl) (by omega) scal_slot Tryz.underlying24 co80 (fun _ _ _ h => slot_cells h) k1 b0
    obtain ⟨th, a2, f2, loc1, r1, r2, r3⟩ := slice_view (cells := thingL) (es := 13) (fun _ => rfl) (by omega) scal_thing Tryz.underlying25 co85 (fun _ _ _ h => thing_cells h) k2 b1
    refine ⟨⟨z0, z1, z2, sl, th⟩, a1, f1, a2, f2, loc0, loc1, fun ρ h0 h1 => ?_, q2, r2, q3, r3⟩
    have ecs : cs = [i64 z0, i64 z1, i64 z2, c3, c4].toArray := by rw [← hds]
    rw [ecs]
    exact VR.of_agg (.cons (.flat rfl) (.cons (.flat rfl) (.cons (.flat rfl) (.cons (q1 _ h0) (.cons (r1 _ h1) .nil)))))
theorem ints_view [Rho] {v : Value} {d0 : DataW H} {p0 : List MemPlace} (g0 : DataW.Trod enc Tryz.prog W 0 (fun _ => true) true 28 v d0 p0) (hv : v.cells.toList = [v]) (b : Nat) :
    ∃ (l : List Int) (a : Option Addr) (f : Nat) (loc : Option Hai.Loc), (∀ ρ : Ren, ρ b = loc → VR ρ (.slice a l.length f) v) ∧
      (∀ σ : AHeap, b < σ.n → σ.t.get b = some (roRow (flatL intL l) 1) → SlI σ a l) ∧ LocOk W (flatL intL l) 1 loc := by
  obtain ⟨fuel, hf⟩ := g0
  rw [hv] at hf
  exact slice_view (cells := intL) (es := 1) (fun _ => rfl) (by omega) scal_int Tryz.underlying28 co3 (fun _ _ _ h => int_cells h) hf b
theorem law_calls [Rho] {f : FuncId} {d : Nat} {R : List (List Value × Nat)} {ls : List (Option Hai.Loc)} {args : List Value} {vs : Array Value} (hrun : acall (ofProg Tryz.prog) 1000 d f args (heapR R) = some (.bool true, heapR R))
    (hl : LocsOk W R ls) (ha : VRs (locsL ls) args vs.toList) : Calls Tryz.prog f vs W fun e W' => e = .returned (.bool true) ∧ W'.os = W.os ∧ W'.output = W.output ∧ ∀ B, B < W.heap.size → W'.heap[B]? = W.heap[B]? := by
  obtain ⟨_, _, hC⟩ := acall_ok (ofProg_ok (P := Tryz.prog)) frn_ok d _ _ _ _ _ hrun
  have hsim := simL hl
  have hC' := hC _ W _ hsim ha
  refine hC'.mono ?_
  rintro e w' ⟨u, ρ', rfl, hvu, hp⟩
  rw [bool_eq hvu]
  refine ⟨rfl, hp.io.1, hp.io.2, fun B hB => hp.frame B hB ?_⟩
  rintro ⟨b, L, u1, _, _, u2⟩
  obtain ⟨p, hp, _⟩ := hl.get u1
  rw [heapR_get hp] at u2
  cases u2
theorem trodAll_stays {P : Program} (hl : laidOutB P = true) {W' : World} {sp' : Nat → Bool} : ∀ {ts : List TypeId} {vs : List Value} {ds : List (DataW H)} {ps : List MemPlace}, (∀ t ∈ ts, P.readableRec t = true ∧ t < P.types.size) →
    DataW.TrodAll enc P W 0 (fun _ => true) true ts vs ds ps → (∀ p ∈ ps, W.sameAt W' p) → (∀ p ∈ ps, sp' p.block = true) → DataW.TrodAll enc P W' 0 sp' true ts vs ds ps := by
  intro ts
  induction ts with
  | nil =>
    intro vs ds ps _ h _ _
    obtain ⟨rfl, rfl, rfl⟩ := trodAll_nil h
    exact trodAll_mk0
  | cons t ts ih =>
    intro vs ds ps ht h hs hp
    obtain ⟨v, vs', d, ds', p, q, rfl, rfl, rfl, h1, h2⟩ := trodAll_cons h
    obtain ⟨r1, r2⟩ := ht t (by simp)
    exact ⟨p, q, WideElems.Trod_stays hl r1 r2 h1 (fun x hx => hs x (by simp [hx])) (fun x hx => hp x (by simp [hx])), ih (fun t ht' => ht t (by simp [ht'])) h2 (fun x hx => hs x (by simp [hx])) (fun x hx => hp x (by simp [hx])), rfl⟩
end
end Go.Proofs.YtidmcpkbcphpiaaGreat
namespace Go.Proofs.YtidmcpkbcphpiaaGreat
open Go Go.Hai
def r0_reevelaw21_awake : List AOper := [(.mk (some 0) none (.mv (.const (.bool false))))]
def r1_reevelaw21_awake : List AOper := [(.mk (some 6) none (.call 48 [])), (.mk (some 7) none (.buildSl [(.int .u64 0), (.int .u64 0)] 1 2 [(0, (1, (.const (.int .u64 0)))), (1, (1, (.const (.int .u64 0))))])), (.mk (some 8) none (.call 50 [(.tmp 6), (.const (.int .i64 0)), (.tmp 7)])), (.mk (some 5) none (.mv (.tmp 8))), (.mk (some 9) none (.ext (.tmp 5) 0)), (.mk (some 10) none (.ext (.tmp 5) 1)), (.mk (some 1) none (.alloc [(.int .i64 0), (.int .i64 0), (.int .i64 0), (.slice none 0 0), (.slice none 0 0)] 5)), (.mk (some 2) none (.alloc [(.int .i64 0), (.int .u64 0), (.int .i64 0)] 3)), (.mk none none (.store 5 (.tmp 1) (.tmp 9))), (.mk none none (.store 3 (.tmp 2) (.tmp 10)))]
def r2_reevelaw21_awake : List AOper := [(.mk (some 12) none (.call 48 [])), (.mk (some 13) none (.buildSl [(.int .i64 0)] 1 1 [(0, (1, (.const (.int .i64 0))))])), (.mk (some 14) none (.call 49 [(.tmp 13)])), (.mk (some 15) none (.build [(.int .i64 0), (.slice none 0 0), (.slice none 0 0), (.int .i64 0), (.int .i64 0), (.int .u64 0)] [(0, (1, (.const (.int .i64 13)))), (1, (1, (.tmp 14)))])), (.mk (some 16) none (.call 46 [(.tmp 12), (.const (.int .i64 0)), (.tmp 15)])), (.mk (some 11) none (.mv (.tmp 16))), (.mk (some 17) none (.ext (.tmp 11) 0)), (.mk (some 18) none (.ext (.tmp 11) 1)), (.mk (some 3) none (.alloc [(.int .i64 0), (.int .i64 0), (.int .i64 0), (.slice none 0 0), (.slice none 0 0)] 5)), (.mk (some 4) none (.alloc [(.int .i64 0), (.int .u64 0), (.int .i64 0)] 3)), (.mk none none (.store 5 (.tmp 3) (.tmp 17))), (.mk none none (.store 3 (.tmp 4) (.tmp 18)))]
def r3_reevelaw21_awake : List AOper := [(.mk (some 19) none (.load true 3 (.tmp 2))), (.mk (some 20) none (.build [(.int .i64 0), (.int .u64 0), (.int .i64 0)] [(0, (1, (.const (.int .i64 2))))])), (.mk (some 21) none (.eqS false [(0, 0), (1, 0), (2, 0)] (.tmp 19) (.tmp 20))), (.mk (some 22) none (.mv (.tmp 21))), (.mk (some 23) (some (22, true)) (.load true 5 (.tmp 1))), (.mk (some 24) (some (22, true)) (.call 48 [])), (.mk (some 25) (some (22, true)) (.call 22 [(.tmp 23), (.tmp 24)])), (.mk (some 26) none (.pick (.tmp 22) (.tmp 25) (.const (.bool false)))), (.mk (some 27) none (.mv (.tmp 26))), (.mk (some 28) (some (27, true)) (.fldA 0 (.tmp 4))), (.mk (some 29) (some (27, true)) (.load false 1 (.tmp 28))), (.mk (some 30) (some (27, true)) (.bin .eql (.tmp 29) (.const (.int .i64 0)))), (.mk (some 31) none (.pick (.tmp 27) (.tmp 30) (.const (.bool false)))), (.mk (some 32) none (.mv (.tmp 31))), (.mk (some 33) (some (32, true)) (.load true 5 (.tmp 3))), (.mk (some 34) (some (32, true)) (.call 48 [])), (.mk (some 35) (some (32, true)) (.call 22 [(.tmp 33), (.tmp 34)])), (.mk (some 36) none (.pick (.tmp 32) (.tmp 35) (.const (.bool false)))), (.mk (some 37) none (.mv (.tmp 36))), (.mk (some 38) (some (37, true)) (.call 102 [(.const (.int .i64 13))])), (.mk (some 39) none (.pick (.tmp 37) (.tmp 38) (.const (.bool false)))), (.mk (some 40) none (.mv (.tmp 39))), (.mk (some 41) (some (40, true)) (.call 102 [(.const (.int .i64 11))])), (.mk (some 42) (some (40, true)) (.un .not (.tmp 41))), (.mk (some 43) none (.pick (.tmp 40) (.tmp 42) (.const (.bool false)))), (.mk (some 0) none (.mv (.tmp 43)))]
def k2_reevelaw21_awake : ACode := (.seq (.drw r3_reevelaw21_awake [0, 0, 3, 7, 15, 15, 63, 127, 255, 511, 1023, 2047, 4095, 8191, 16383, 16383, 65535, 131071, 262143, 524287, 1048575, 2097151, 4194303, 8388607, 16777215, 33554431]) .ret)
def k1_reevelaw21_awake : ACode := (.seq (.reg r2_reevelaw21_awake) k2_reevelaw21_awake)
def k0_reevelaw21_awake : ACode := (.seq (.reg r1_reevelaw21_awake) k1_reevelaw21_awake)
def c_reevelaw21_awake : ACode := (.seq (.reg r0_reevelaw21_awake) k0_reevelaw21_awake)
theorem e_reevelaw21_awake : ofProg Tryz.prog 44 = some ⟨44, [(.tmp 0)], c_reevelaw21_awake⟩ := by kernel_rfl
set_option maxHeartbeats 20000000 in
theorem awake21_runs : (fun r0 r1 r2 r3 : AObj => acodeK c_reevelaw21_awake (acallK (ofProg Tryz.prog) 1000 169) 1000 (Tr.of []) (heapL [r0, r1, r2, r3] 4) (testN 4) (fun _ _ _ => none) (testN 4)) = fun _ _ _ _ => some true := by kernel_rfl
end Go.Proofs.YtidmcpkbcphpiaaGreat
namespace Go.Proofs.YtidmcpkbcphpiaaGreat
open Go Go.Hai Go.ChangeShapes Go.WideShapes Go.ChangeAt Go.RowKit
set_option maxRecDepth 100000
set_option maxHeartbeats 8000000
instance : Hai.Rho := ⟨fun _ => 0⟩
theorem NoF_ro {R : List (List Value × Nat)} {b : Nat} : NoF (heapR R) b := fun cs len es top rw fam h => by
  unfold heapR heapL at h
  simp only [Tr.get_of, List.getElem?_map] at h
  cases hr : R[b]? with
  | none => rw [hr] at h; cases h
  | some p => rw [hr] at h; simp only [Option.map_some, roRow, Option.some.injEq, AObj.row.injEq] at h; exact h.2.2.2.2.2.symm
theorem RuleRevokes_171 (S : StD) (a1 : Option Addr) (f1 : Nat) (a2 : Option Addr) (f2 : Nat) (thread : Int) (l : List Int) (a : Option Addr) (f : Nat) (c0 c1 c2 : List Value × Nat) (h1 : SlS (heapR [c0, c1, c2]) a1 S.sl) (h2 : SlT (heapR [c0, c1, c2]) a2 S.th) (h3 : SlI (heapR [c0, c1, c2]) a l) :
    acall (ofProg Tryz.prog) 1000 171 7 [stV S a1 f1 a2 f2, .int .i64 thread, .slice a l.length f] (heapR [c0, c1, c2]) = some (.bool true, heapR [c0, c1, c2]) := by
  have hA : acall (ofProg Tryz.prog) 1000 170 44 [] ((heapR [c0, c1, c2]).fresh.grow [(stL S a1 f1 a2 f2, 5)]) = some (.bool true, (heapR [c0, c1, c2]).fresh.grow [(stL S a1 f1 a2 f2, 5)]) :=
    awake_of e_reevelaw21_awake [roRow c0.1 c0.2, roRow c1.1 c1.2, roRow c2.1 c2.2, rowOf (stL S a1 f1 a2 f2, 5)] (congrFun (congrFun (congrFun (congrFun awake21_runs _) _) _) _) 3
  by_cases hm : S.sl.length ≤ 100 ∧ S.th.length ≤ 50
  · have h := RuleRevokes_ok (158 - S.th.length - S.sl.length) (heapR [c0, c1, c2]) S a1 f1 a2 f2 thread l a f (Liv.nil rfl) h1 h2 h3 (fun _ _ => NoF_ro) (fun _ _ => NoF_ro)
    rw [show 158 - S.th.length - S.sl.length + S.th.length + S.sl.length + 12 = 170 by omega, show 158 - S.th.length - S.sl.length + S.th.length + S.sl.length + 13 = 171 by omega] at h
    exact h hA
  · exact RuleRevokes_far 169 (heapR [c0, c1, c2]) S a1 f1 a2 f2 thread l a f (by omega) hA
theorem ruleRevokes_lifted (os : Os) (started : os.Started) (H : Type) (enc : TypeId × Value → H) :
    ReturnsInHanded {} Tryz.checked os 7 .any (Rows.ruleRevokesSpec.pre6 enc Tryz.prog Tryz.f7 Rows.ruleRevokesRow.domain false) (Rows.ruleRevokesSpec.post enc Tryz.prog Tryz.f7 false true false false) := by
  refine returnsInHanded_of_change (C := Tryz.checked) Tryz.own started (by kernel_rfl) Tryz.func7
    (ChangeSpec.witness6 (enc := enc) (C := Tryz.checked) false ⟨#[], #[.agg #[.int .i64 0, .int .i64 0, .int .i64 0, .slice none 0 0, .slice none 0 0], .int .i64 0, .slice none 0 0], []⟩ 8 (by kernel_rfl) (by kernel_rfl) (by kernel_rfl) (by kernel_rfl)) ?_
  intro W base args ds gs before hval0 hW hcnd _
  have hval : ∀ (j : Nat) t v, Tryz.f7.params[j]? = some t → args[j]? = some v → Value.okWide Tryz.prog W .any base t v := hval0
  have hW' := hW
  obtain ⟨p, q, hA0, hV, rfl, hfz, hnd⟩ := hW
  have hA : DataW.TrodAll enc Tryz.prog W 0 (fun _ => true) true Tryz.f7.params.toList args.toList ds p := hA0
  have hAll := hA
  rw [Tryz.params7] at hA hval
  obtain ⟨v0, v1, v2, d0, d1, d2, p0, p1, p2, rfl, rfl, rfl, g0, g1, g2⟩ := trodAll_three hA
  obtain ⟨rfl, rfl⟩ := trodVars_none hV
  obtain ⟨cs, rfl, hsz⟩ := okWide_struct Tryz.underlying27 (hval 0 27 v0 rfl rfl)
  obtain ⟨a0, len, cap, rfl⟩ := okWide_slice Tryz.underlying28 (hval 2 28 v2 rfl rfl)
  obtain ⟨n, rfl, rfl, rfl, wn⟩ := open_int Tryz.underlying3 (hval 1 3 v1 rfl rfl) g1
  clear hA0 hval0
  obtain ⟨S, a1, f1, a2, f2, loc0, loc1, q1, q2, q3, q4, q5⟩ := state_view g0 0 1
  obtain ⟨l, a, f, loc2, s1, s2, s3⟩ := ints_view g2 rfl 2
  have hrun := RuleRevokes_171 S a1 f1 a2 f2 n l a f (flatL slotL S.sl, 5) (flatL thingL S.th, 13) (flatL intL l, 1) (q2 _ (Nat.le_of_ble_eq_true rfl) (heapR_get (k := 0) (p := (flatL slotL S.sl, 5)) rfl)) (q3 _ (Nat.le_of_ble_eq_true rfl) (heapR_get (k := 1) (p := (flatL thingL S.th, 13)) rfl)) (s2 _ (Nat.le_of_ble_eq_true rfl) (heapR_get (k := 2) (p := (flatL intL l, 1)) rfl))
  have hcalls := law_calls (W := W) (ls := [loc0, loc1, loc2]) (vs := #[.agg cs, .int .i64 n, .slice a0 len cap]) hrun ⟨q4, q5, s3, trivial⟩ (.cons (q1 _ rfl rfl) (.cons (.flat rfl) (.cons (s1 _ rfl) .nil)))
  refine hcalls.mono fun e W' ⟨he, h1, h2, h3⟩ => ?_
  subst he
  have hlt : ∀ x ∈ p0 ++ [] ++ p2, x.block < W.heap.size := fun x hx => hW'.lt x (by simpa using hx)
  have same : ∀ x : MemPlace, x.block < W.heap.size → W.sameAt W' x := fun x hx => by
    cases x with
    | cell b o => exact World.cell?_of_block (w := W) (h3 b hx)
    | map b => exact h3 b hx
  have tA := trodAll_stays (W' := W') (sp' := fun b => decide (b < W.heap.size)) Tryz.laidOut (of_decide_eq_true (by kernel_rfl)) hAll (fun x hx => same x (hlt x hx)) (fun x hx => by simpa using hlt x hx)
  exact ⟨_, rfl, [d0, .lit (.int .i64 n), d2], [], _, [], _, [], hW', trodAll_mk1 (shut_bool Tryz.underlying4 true), tA, by trivial, Hai.kept_of h1 h2 h3, fun h => by cases h⟩
theorem ruleRevokes_holds : Rows.RuleRevokesSaid :=
  OpenClaim.holds_of_wide 7 Tryz.f7 rfl rfl rfl rfl rfl rfl rfl ⟨rfl, rfl, rfl, rfl, rfl⟩ rfl rfl rfl rfl rfl (by kernel_rfl) Tryz.func7 (by kernel_rfl)
    (of_decide_eq_true (by kernel_rfl)) (by unfold Func.isWrapper; first | (rw [if_pos (by decide +kernel)]; kernel_rfl) | (rw [if_neg (by decide +kernel)]; exact ⟨rfl, rfl⟩))
    (fun os started H enc _ => ruleRevokes_lifted os started H enc)
#print axioms ruleRevokes_holds
end Go.Proofs.YtidmcpkbcphpiaaGreat
