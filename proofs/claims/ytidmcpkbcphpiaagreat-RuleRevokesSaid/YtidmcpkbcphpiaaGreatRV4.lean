/-
  What the function Forest of the package state answers. No condition but what it says.
-/
import Derived.Test.YtidmcpkbcphpiaaGreatRV3
namespace Go.Proofs.YtidmcpkbcphpiaaGreat
open Go Go.Hai
set_option maxRecDepth 20000
set_option linter.unusedSimpArgs false
set_option maxHeartbeats 4000000
attribute [local irreducible] Hai.Ends EndsR EndsO EndsD AHeap.grow
def r0_state_Forest : List AOper := [(.mk (some 1) none (.box 5 (.tmp 0))), (.mk (some 2) none (.alloc [(.slice none 0 0)] 1))]
def r1_state_Forest : List AOper := [(.mk (some 3) none (.alloc [(.slice none 0 0)] 1))]
def r2_state_Forest : List AOper := [(.mk (some 6) none (.fldA 3 (.tmp 1))), (.mk (some 7) none (.load false 1 (.tmp 6))), (.mk (some 8) none (.lenS (.tmp 7))), (.mk (some 9) none (.mv (.const (.int .i64 0))))]
def r3_state_Forest : List AOper := [(.mk (some 10) none (.bin .lss (.tmp 9) (.tmp 8)))]
def r4_state_Forest : List AOper := [(.mk (some 11) none (.idxA 5 (.tmp 7) (.tmp 9))), (.mk (some 12) none (.load true 5 (.tmp 11))), (.mk (some 5) none (.alloc [(.int .i64 0), (.int .i64 0), (.int .i64 0), (.int .i64 0), (.int .i64 0)] 5)), (.mk none none (.store 5 (.tmp 5) (.tmp 12)))]
def r5_state_Forest : List AOper := [(.mk (some 13) none (.fldA 0 (.tmp 5))), (.mk (some 14) none (.load true 4 (.tmp 13))), (.mk (some 15) none (.call 38 [(.tmp 14)]))]
def r6_state_Forest : List AOper := [(.mk (some 16) none (.fldA 4 (.tmp 5))), (.mk none none (.store 1 (.tmp 16) (.const (.int .i64 (-2)))))]
def k6_state_Forest : ACode := (.cond (.tmp 15) (.reg r6_state_Forest) .skip)
def r7_state_Forest : List AOper := [(.mk (some 17) none (.fldA 0 (.tmp 3))), (.mk (some 18) none (.load false 1 (.tmp 17))), (.mk (some 19) none (.fldA 4 (.tmp 5))), (.mk (some 20) none (.load false 1 (.tmp 19))), (.mk (some 21) none (.buildSl [(.int .i64 0)] 1 1 [(0, (1, (.tmp 20)))])), (.mk (some 22) none (.app 1 8 (.tmp 18) (.tmp 21))), (.mk (some 23) none (.fldA 0 (.tmp 3))), (.mk none none (.store 1 (.tmp 23) (.tmp 22)))]
def k7_state_Forest : ACode := (.reg r7_state_Forest)
def k5_state_Forest : ACode := (.seq (.seq (.reg r5_state_Forest) k6_state_Forest) k7_state_Forest)
def r8_state_Forest : List AOper := [(.mk (some 24) none (.bin .add (.tmp 9) (.const (.int .i64 1)))), (.mk (some 9) none (.mv (.tmp 24)))]
def k8_state_Forest : ACode := (.reg r8_state_Forest)
def k4_state_Forest : ACode := (.seq (.block 1 (.seq (.reg r4_state_Forest) k5_state_Forest)) k8_state_Forest)
def k3_state_Forest : ACode := (.seq (.cond (.tmp 10) .skip (.exit 0)) k4_state_Forest)
def b0_state_Forest : ACode := (.seq (.reg r3_state_Forest) k3_state_Forest)
def k2_state_Forest : ACode := (.block 0 (.loop b0_state_Forest))
def r9_state_Forest : List AOper := [(.mk (some 25) none (.load true 1 (.tmp 3))), (.mk none none (.store 1 (.tmp 2) (.tmp 25)))]
def k9_state_Forest : ACode := (.seq (.reg r9_state_Forest) .ret)
def k1_state_Forest : ACode := (.seq (.seq (.reg r2_state_Forest) k2_state_Forest) k9_state_Forest)
def k0_state_Forest : ACode := (.seq (.reg r1_state_Forest) k1_state_Forest)
def c_state_Forest : ACode := (.seq (.reg r0_state_Forest) k0_state_Forest)
theorem e_state_Forest : ofProg Tryz.prog 62 = some ⟨26, [(.cell 2 true 1)], c_state_Forest⟩ := by kernel_rfl
def upOf (x : SlotD) : Int := if capNone x then -2 else x.up
def upL (S : StD) : List Int := S.sl.map upOf
theorem upL_length (S : StD) : (upL S).length = S.sl.length := by simp [upL]
theorem upL_take {S : StD} {i : Nat} {x : SlotD} (hx : S.sl[i]? = some x) : (upL S).take (i + 1) = (upL S).take i ++ [upOf x] := by
  rw [List.take_add_one]
  simp [upL, hx]
theorem state_Forest_ok (d : Nat) (σ : AHeap) (S : StD) (a1 : Option Addr) (f1 : Nat) (a2 : Option Addr) (f2 : Nat) (hd : Liv σ.n σ) (hlo : σ.low ≤ σ.n) (h1 : SlS σ a1 S.sl) (hn0 : 0 < S.sl.length) (hn : S.sl.length < 1000) :
    ∃ a f τ, acall (ofProg Tryz.prog) 1000 (d + 2) 62 [stV S a1 f1 a2 f2] σ = some (.agg [.slice a (upL S).length f].toArray, τ) ∧ SlI τ a (upL S) ∧ Keeps σ τ := by
  suffices hs : Hai.Ends (acode (acall (ofProg Tryz.prog) 1000 (d + 1)) 1000 c_state_Forest (Tr.of [stV S a1 f1 a2 f2]) (σ.fresh.grow [])) (finA σ.n [.cell 2 true 1] fun v τ => ∃ a f, v = .agg [.slice a (upL S).length f].toArray ∧ SlI τ a (upL S) ∧ Keeps σ.fresh τ) by
    obtain ⟨v, τ', e, τ, ⟨a, f, rfl, g1, g2⟩, g3⟩ := acall_addr e_state_Forest (by simp) hlo hs
    rcases g3 with ⟨g3, _⟩ | rfl
    · obtain ⟨b, rfl, _⟩ := g1.resolve_left (fun e => by have := upL_length S; rw [e] at this; simp at this; omega)
      cases g3
    · exact ⟨a, f, _, e, g1.setLow _, g2.back⟩
  simp (disch := omega) only [r0_state_Forest, r1_state_Forest, r2_state_Forest, r3_state_Forest, r4_state_Forest, r5_state_Forest, r6_state_Forest, k6_state_Forest, r7_state_Forest, k7_state_Forest, k5_state_Forest, r8_state_Forest, k8_state_Forest, k4_state_Forest, k3_state_Forest, k2_state_Forest, r9_state_Forest, k9_state_Forest, k1_state_Forest, k0_state_Forest, c_state_Forest, Z0, Z1, Z2, Z3, Z4, Z5, Z6, Z7, Z8, Z9, Z10, resAll, Nat.reduceAdd, Nat.reduceEqDiff, Nat.reduceLeDiff, Nat.reduceMul, ↓reduceIte, reduceCtorEq, Nat.reduceBEq, aoper, Nat.reduceLT, Int.reduceEq, Int.reduceLT, Int.reduceLE]
  generalize hσ1 : σ.fresh.grow _ = σ1
  have e1n : σ1.n = σ.n + 3 := by rw [← hσ1, grow_n]; rfl
  have e1l : σ1.low = σ.n := by rw [← hσ1, grow_low]; rfl
  have e1d : Liv σ.n σ1 := hd.of (by rw [← hσ1, grow_dead]; rfl) (Nat.le_refl _)
  have e1k : Keeps σ.fresh σ1 := by rw [← hσ1]; exact Keeps.self _ _
  have e1b : ∀ o n, σ1.loadN σ.fresh.n o n = sliceL (stL S a1 f1 a2 f2) o n := fun o n => by rw [← hσ1, ld_0]
  have e1r : σ1.t.get (σ.fresh.n + 1) = some (rowOf ([.slice none 0 0], 1)) := by rw [← hσ1]; exact grow_new _ _ 1 rfl
  have e1h : σ1.t.get (σ.fresh.n + 2) = some (rowOf ([.slice none 0 0], 1)) := by rw [← hσ1]; exact grow_new _ _ 2 rfl
  have hfn : σ.fresh.n = σ.n := rfl
  refine ends_loop (fun i t τ => tget t 7 = .slice a1 S.sl.length f1 ∧ tget t 8 = i64 S.sl.length ∧ tget t 9 = i64 i ∧ tget t 3 = here (σ.fresh.n + 2) 0 ∧ tget t 2 = here (σ.fresh.n + 1) 0 ∧ Mod (σ.fresh.n + 2) σ1 τ ∧
      ∃ v, τ.t.get (σ.fresh.n + 2) = some (rowOf ([v], 1)) ∧ OutP (σ.n + 3) τ v ((upL S).take i))
    S.sl.length hn ⟨?_, ?_, ?_, ?_, ?_, Mod.refl _ _, _, e1h, OutP.nil _ _⟩ ?_
  iterate 5 simp (disch := omega) only [Int.natCast_zero, Int.ofNat_zero, r0_state_Forest, r1_state_Forest, r2_state_Forest, r3_state_Forest, r4_state_Forest, r5_state_Forest, r6_state_Forest, k6_state_Forest, r7_state_Forest, k7_state_Forest, k5_state_Forest, r8_state_Forest, k8_state_Forest, k4_state_Forest, k3_state_Forest, k2_state_Forest, r9_state_Forest, k9_state_Forest, k1_state_Forest, k0_state_Forest, c_state_Forest, Z0, Z1, Z2, Z3, Z4, Z5, Z6, Z7, Z8, Z9, Z10, resAll, Nat.reduceAdd, Nat.reduceEqDiff, Nat.reduceLeDiff, Nat.reduceMul, ↓reduceIte, reduceCtorEq, Nat.reduceBEq, aoper, Nat.reduceLT, Int.reduceEq, Int.reduceLT, Int.reduceLE]
  rintro i t τ hi ⟨t7, t8, t9, t3, t2, hmd, v, hrow, hout⟩
  rw [← grow_nil τ]
  have hmn := hmd.n
  have hlow : τ.low ≤ τ.n := by rw [hmd.low]; omega
  have hv : ∀ L, (τ.grow L).loadN (σ.fresh.n + 2) 0 1 = some [v] := fun L => by rw [load_old _ _ _ _ (by omega), load_row hrow (by simp)]; rfl
  have hfit : ∀ L, (τ.grow L).t.get (σ.fresh.n + 2) = some (rowOf ([v], 1)) := fun L => by rw [grow_old _ _ (by omega)]; exact hrow
  by_cases hlt : i < S.sl.length
  · obtain ⟨b, rfl, hb⟩ := h1.fresh.at hlt
    have hx : S.sl[i]? = some S.sl[i] := List.getElem?_eq_getElem hlt
    generalize S.sl[i] = x at hx
    have hbn := hb.1
    have hl0 : σ1.loadN b (i * 5) 5 = some (slotL x) := by rw [e1k.load _ _ hbn]; exact hb.2 i x hx 0 5 (by omega)
    have hl : ∀ L, (τ.grow L).loadN b (i * 5) 5 = some (slotL x) := fun L => by rw [(hmd.grow L).load _ _ (by omega) (by omega)]; exact hl0
    have hlt' : (i : Int) < (S.sl.length : Int) := by omega
    have hcast : ((i + 1 : Nat) : Int) = (i : Int) + 1 := by omega
    have hul := upL_length S
    have step : ∀ (r : List Value) (z : Int), upOf x = z → ∃ a' n' f' τ' τ'', appOp (τ.grow [(r, 5), ([i64 z], 1)]) 1 8 v (.slice (some ⟨τ.n + 1, 0, none⟩) 1 1) = some (.slice a' n' f', τ') ∧ τ'.storeN (σ.fresh.n + 2) 0 [.slice a' n' f'] = some τ'' ∧
        Mod (σ.fresh.n + 2) σ1 τ'' ∧ τ''.t.get (σ.fresh.n + 2) = some (rowOf ([.slice a' n' f'], 1)) ∧ OutP (σ.n + 3) τ'' (.slice a' n' f') ((upL S).take (i + 1)) := by
      intro r z hz
      obtain ⟨v', τ', he, ho', hd', hl', hr', hrd⟩ := app_step (base := σ.n + 3) (fx := 1) (bx := τ.n + 1) (z := z) (e1d.of (by rw [grow_dead, hmd.dead]) (by omega)) (by rw [grow_low, hmd.low, e1l]; omega) (by rw [grow_n]; omega) (hout.keeps (Keeps.self _ [(r, 5), ([i64 z], 1)])) (by rw [ld_1]; rfl) (by rw [List.length_take]; omega)
      obtain ⟨a', f', rfl⟩ := ho'.shape
      have hrow' : τ'.t.get (σ.fresh.n + 2) = some (rowOf ([v], 1)) := by rw [hr' _ (by omega)]; exact hfit _
      have hn' := hrd.1
      rw [grow_n] at hn'
      obtain ⟨τ'', s1, s2, s3, s4⟩ := Mod.store (o := 0) (vs := [.slice a' ((upL S).take i ++ [z]).length f']) hrow' (by rw [hl', grow_low, hmd.low, e1l]; omega) (by simp) rfl
      refine ⟨a', _, f', τ', τ'', he, s1, ?_, s2, ?_⟩
      · refine Mod.trans ⟨?_, ?_, ?_, ?_⟩ s3
        · omega
        · rw [hl', grow_low, hmd.low]
        · rw [hd', grow_dead, hmd.dead]
        · intro c hc hne
          rw [hr' c (by omega), grow_old _ _ (by omega)]; exact hmd.row c hc hne
      · have : (upL S).take (i + 1) = (upL S).take i ++ [z] := by rw [upL_take hx, hz]
        rw [this]
        exact ho'.mod s3 (by omega)
    cases g1 : capNone x with
    | true =>
      obtain ⟨a', n', f', τ', τ'', he, hs, q1, q2, q3⟩ := step [i64 x.type, i64 x.thing, i64 x.rights, i64 x.badge, i64 (-2)] (-2) (by unfold upOf; rw [g1]; rfl)
      simp (disch := omega) only [t7, t8, t9, t3, t2, hl, hv, hlt', hlt, hcast, cap_None_ok, Int.toNat_natCast, sto_0 hlow, g1, he, hs, q1, r0_state_Forest, r1_state_Forest, r2_state_Forest, r3_state_Forest, r4_state_Forest, r5_state_Forest, r6_state_Forest, k6_state_Forest, r7_state_Forest, k7_state_Forest, k5_state_Forest, r8_state_Forest, k8_state_Forest, k4_state_Forest, k3_state_Forest, k2_state_Forest, r9_state_Forest, k9_state_Forest, k1_state_Forest, k0_state_Forest, b0_state_Forest, Z0, Z1, Z2, Z3, Z4, Z5, Z6, Z7, Z8, Z9, Z10, resAll, Nat.reduceAdd, Nat.reduceEqDiff, Nat.reduceLeDiff, Nat.reduceMul, ↓reduceIte, reduceCtorEq, Nat.reduceBEq, aoper, Nat.reduceLT, Int.reduceEq, Int.reduceLT, Int.reduceLE]
      exact ⟨_, q2, q3⟩
    | false =>
      obtain ⟨a', n', f', τ', τ'', he, hs, q1, q2, q3⟩ := step (slotL x) x.up (by unfold upOf; rw [g1]; rfl)
      simp (disch := omega) only [t7, t8, t9, t3, t2, hl, hv, hlt', hlt, hcast, cap_None_ok, Int.toNat_natCast, sto_0 hlow, g1, he, hs, q1, r0_state_Forest, r1_state_Forest, r2_state_Forest, r3_state_Forest, r4_state_Forest, r5_state_Forest, r6_state_Forest, k6_state_Forest, r7_state_Forest, k7_state_Forest, k5_state_Forest, r8_state_Forest, k8_state_Forest, k4_state_Forest, k3_state_Forest, k2_state_Forest, r9_state_Forest, k9_state_Forest, k1_state_Forest, k0_state_Forest, b0_state_Forest, Z0, Z1, Z2, Z3, Z4, Z5, Z6, Z7, Z8, Z9, Z10, resAll, Nat.reduceAdd, Nat.reduceEqDiff, Nat.reduceLeDiff, Nat.reduceMul, ↓reduceIte, reduceCtorEq, Nat.reduceBEq, aoper, Nat.reduceLT, Int.reduceEq, Int.reduceLT, Int.reduceLE]
      exact ⟨_, q2, q3⟩
  · have hlt' : ¬ (i : Int) < (S.sl.length : Int) := by omega
    have hii : i = S.sl.length := by omega
    have hul := upL_length S
    rw [hii, ← hul, List.take_length] at hout
    have hdead : Liv (σ.n + 3) τ := e1d.of hmd.dead (by omega)
    obtain ⟨a, f, rfl⟩ := hout.shape
    have hrow2 : (τ.grow []).t.get (σ.fresh.n + 1) = some (rowOf ([.slice none 0 0], 1)) := by rw [grow_nil, hmd.row _ (by omega) (by omega)]; exact e1r
    obtain ⟨τ'', s1, s2, s3, s4⟩ := Mod.store (o := 0) (vs := [.slice a (upL S).length f]) hrow2 (by rw [grow_low, hmd.low, e1l]; omega) (by simp) rfl
    have hld : τ''.loadN (σ.fresh.n + 1) 0 1 = some [.slice a (upL S).length f] := by rw [load_row s2 (by simp [setAll])]; rfl
    simp (disch := omega) only [t7, t8, t9, t3, t2, hlt', hv, s1, hld, r0_state_Forest, r1_state_Forest, r2_state_Forest, r3_state_Forest, r4_state_Forest, r5_state_Forest, r6_state_Forest, k6_state_Forest, r7_state_Forest, k7_state_Forest, k5_state_Forest, r8_state_Forest, k8_state_Forest, k4_state_Forest, k3_state_Forest, k2_state_Forest, r9_state_Forest, k9_state_Forest, k1_state_Forest, k0_state_Forest, b0_state_Forest, Z0, Z1, Z2, Z3, Z4, Z5, Z6, Z7, Z8, Z9, Z10, resAll, Nat.reduceAdd, Nat.reduceEqDiff, Nat.reduceLeDiff, Nat.reduceMul, ↓reduceIte, reduceCtorEq, Nat.reduceBEq, aoper, Nat.reduceLT, Int.reduceEq, Int.reduceLT, Int.reduceLE]
    have hb1 : σ.fresh.n + 1 < σ.n + 3 := by omega
    obtain ⟨a', f', e', hsl⟩ := ((hout.keeps (Keeps.self _ [])).mod s3 hb1).sl (hdead.of (by rw [s3.dead, grow_dead]) (Nat.le_refl _))
    have ea : a' = a := by simpa using (Value.slice.inj e').1.symm
    subst ea
    have hke : Keeps σ.fresh τ'' := by
      refine ⟨?_, ?_, ?_, ?_⟩
      · rw [s4, grow_n]; omega
      · rw [s3.low, grow_low, hmd.low, e1l]; rfl
      · rw [s3.dead, grow_dead, hmd.dead, ← hσ1, grow_dead]
      · intro c hc
        rw [s3.row c (by rw [grow_n]; omega) (by omega), grow_old _ _ (by omega), hmd.row c (by omega) (by omega), e1k.row c hc]
    exact ⟨⟨a', f, rfl, hsl, hke⟩, by rw [s3.low, grow_low, hmd.low, e1l]⟩
end Go.Proofs.YtidmcpkbcphpiaaGreat
namespace Go.Proofs.YtidmcpkbcphpiaaGreat
open Go Go.Hai
set_option maxRecDepth 20000
set_option linter.unusedSimpArgs false
set_option maxHeartbeats 4000000
attribute [local irreducible] Hai.Ends EndsR EndsO EndsD AHeap.grow
def r0_forest_Good : List AOper := [(.mk (some 1) none (.box 1 (.tmp 0))), (.mk (some 2) none (.mv (.const (.bool false))))]
def r1_forest_Good : List AOper := [(.mk (some 8) none (.fldA 0 (.tmp 1))), (.mk (some 9) none (.load false 1 (.tmp 8))), (.mk (some 10) none (.lenS (.tmp 9))), (.mk (some 11) none (.bin .gtr (.tmp 10) (.const (.int .i64 96))))]
def r2_forest_Good : List AOper := [(.mk (some 2) none (.mv (.const (.bool false))))]
def k1_forest_Good : ACode := (.cond (.tmp 11) (.seq (.reg r2_forest_Good) .ret) .skip)
def r3_forest_Good : List AOper := [(.mk (some 12) none (.fldA 0 (.tmp 1))), (.mk (some 13) none (.load false 1 (.tmp 12))), (.mk (some 14) none (.lenS (.tmp 13))), (.mk (some 15) none (.mv (.const (.int .i64 0))))]
def r4_forest_Good : List AOper := [(.mk (some 16) none (.bin .lss (.tmp 15) (.tmp 14)))]
def r5_forest_Good : List AOper := [(.mk (some 17) none (.idxA 1 (.tmp 13) (.tmp 15))), (.mk (some 18) none (.load false 1 (.tmp 17))), (.mk (some 4) none (.mv (.tmp 18)))]
def r6_forest_Good : List AOper := [(.mk (some 19) none (.mv (.tmp 4))), (.mk (some 20) none (.bin .neq (.tmp 19) (.const (.int .i64 (-2))))), (.mk (some 21) none (.mv (.tmp 20))), (.mk (some 22) (some (21, true)) (.mv (.tmp 4))), (.mk (some 23) (some (21, true)) (.bin .neq (.tmp 22) (.const (.int .i64 (-1))))), (.mk (some 24) none (.pick (.tmp 21) (.tmp 23) (.const (.bool false)))), (.mk (some 25) none (.mv (.tmp 24))), (.mk (some 26) (some (25, true)) (.load true 1 (.tmp 1))), (.mk (some 27) (some (25, true)) (.mv (.tmp 4))), (.mk (some 28) (some (25, true)) (.call 126 [(.tmp 26), (.tmp 27)])), (.mk (some 29) (some (25, true)) (.un .not (.tmp 28))), (.mk (some 30) none (.pick (.tmp 25) (.tmp 29) (.const (.bool false))))]
def r7_forest_Good : List AOper := [(.mk (some 2) none (.mv (.const (.bool false))))]
def k7_forest_Good : ACode := (.cond (.tmp 30) (.seq (.reg r7_forest_Good) .ret) .skip)
def k6_forest_Good : ACode := (.seq (.reg r6_forest_Good) k7_forest_Good)
def r8_forest_Good : List AOper := [(.mk (some 31) none (.bin .add (.tmp 15) (.const (.int .i64 1)))), (.mk (some 15) none (.mv (.tmp 31)))]
def k8_forest_Good : ACode := (.reg r8_forest_Good)
def k5_forest_Good : ACode := (.seq (.block 1 (.seq (.reg r5_forest_Good) k6_forest_Good)) k8_forest_Good)
def k4_forest_Good : ACode := (.seq (.cond (.tmp 16) .skip (.exit 0)) k5_forest_Good)
def b0_forest_Good : ACode := (.seq (.reg r4_forest_Good) k4_forest_Good)
def k3_forest_Good : ACode := (.block 0 (.loop b0_forest_Good))
def r9_forest_Good : List AOper := [(.mk (some 32) none (.fldA 0 (.tmp 1))), (.mk (some 33) none (.load false 1 (.tmp 32))), (.mk (some 34) none (.lenS (.tmp 33))), (.mk (some 35) none (.mv (.const (.int .i64 0))))]
def r10_forest_Good : List AOper := [(.mk (some 36) none (.bin .lss (.tmp 35) (.tmp 34)))]
def r11_forest_Good : List AOper := [(.mk (some 37) none (.mv (.tmp 35))), (.mk (some 5) none (.mv (.tmp 37)))]
def r12_forest_Good : List AOper := [(.mk (some 6) none (.mv (.const (.int .i64 0))))]
def r13_forest_Good : List AOper := [(.mk (some 38) none (.mv (.tmp 5))), (.mk (some 7) none (.mv (.tmp 38)))]
def r14_forest_Good : List AOper := [(.mk (some 39) none (.load true 1 (.tmp 1))), (.mk (some 40) none (.mv (.tmp 7))), (.mk (some 41) none (.call 126 [(.tmp 39), (.tmp 40)]))]
def k16_forest_Good : ACode := (.cond (.tmp 41) .skip (.exit 4))
def r15_forest_Good : List AOper := [(.mk (some 47) none (.mv (.tmp 6))), (.mk (some 48) none (.fldA 0 (.tmp 1))), (.mk (some 49) none (.load false 1 (.tmp 48))), (.mk (some 50) none (.lenS (.tmp 49))), (.mk (some 51) none (.bin .gtr (.tmp 47) (.tmp 50)))]
def r16_forest_Good : List AOper := [(.mk (some 2) none (.mv (.const (.bool false))))]
def k18_forest_Good : ACode := (.cond (.tmp 51) (.seq (.reg r16_forest_Good) .ret) .skip)
def r17_forest_Good : List AOper := [(.mk (some 52) none (.mv (.tmp 6))), (.mk (some 53) none (.bin .add (.tmp 52) (.const (.int .i64 1)))), (.mk (some 6) none (.mv (.tmp 53)))]
def k19_forest_Good : ACode := (.reg r17_forest_Good)
def r18_forest_Good : List AOper := [(.mk (some 42) none (.fldA 0 (.tmp 1))), (.mk (some 43) none (.load false 1 (.tmp 42))), (.mk (some 44) none (.mv (.tmp 7))), (.mk (some 45) none (.idxA 1 (.tmp 43) (.tmp 44))), (.mk (some 46) none (.load false 1 (.tmp 45))), (.mk (some 7) none (.mv (.tmp 46)))]
def k20_forest_Good : ACode := (.reg r18_forest_Good)
def k17_forest_Good : ACode := (.seq (.block 5 (.seq (.seq (.reg r15_forest_Good) k18_forest_Good) k19_forest_Good)) k20_forest_Good)
def b2_forest_Good : ACode := (.seq (.seq (.reg r14_forest_Good) k16_forest_Good) k17_forest_Good)
def k15_forest_Good : ACode := (.block 4 (.loop b2_forest_Good))
def k14_forest_Good : ACode := (.seq (.reg r13_forest_Good) k15_forest_Good)
def k13_forest_Good : ACode := (.seq (.reg r12_forest_Good) k14_forest_Good)
def r19_forest_Good : List AOper := [(.mk (some 54) none (.bin .add (.tmp 35) (.const (.int .i64 1)))), (.mk (some 35) none (.mv (.tmp 54)))]
def k21_forest_Good : ACode := (.reg r19_forest_Good)
def k12_forest_Good : ACode := (.seq (.block 3 (.seq (.reg r11_forest_Good) k13_forest_Good)) k21_forest_Good)
def k11_forest_Good : ACode := (.seq (.cond (.tmp 36) .skip (.exit 2)) k12_forest_Good)
def b1_forest_Good : ACode := (.seq (.reg r10_forest_Good) k11_forest_Good)
def k10_forest_Good : ACode := (.block 2 (.loop b1_forest_Good))
def r20_forest_Good : List AOper := [(.mk (some 2) none (.mv (.const (.bool true))))]
def k22_forest_Good : ACode := (.seq (.reg r20_forest_Good) .ret)
def k9_forest_Good : ACode := (.seq (.seq (.reg r9_forest_Good) k10_forest_Good) k22_forest_Good)
def k2_forest_Good : ACode := (.seq (.seq (.reg r3_forest_Good) k3_forest_Good) k9_forest_Good)
def k0_forest_Good : ACode := (.seq (.seq (.reg r1_forest_Good) k1_forest_Good) k2_forest_Good)
def c_forest_Good : ACode := (.seq (.reg r0_forest_Good) k0_forest_Good)
theorem e_forest_Good : ofProg Tryz.prog 61 = some ⟨55, [(.tmp 2)], c_forest_Good⟩ := by kernel_rfl
def cF (up : List Int) : Nat → Int → Nat → Bool
  | 0, _, _ => true
  | k + 1, at', steps => match atI up at' with
    | some u => if u = -2 then true else if up.length < steps then false else cF up k u (steps + 1)
    | none => true
def linkB (up : List Int) (_ : Nat) (u : Int) : Bool := decide (u = -2) || (decide (u = -1) || upB up u)
def chainB (up : List Int) (i : Nat) (_ : Int) : Bool := cF up (up.length + 2) i 0
def forestB (up : List Int) : Bool := decide ((up.length : Int) ≤ 96) && allTo (linkB up) up up.length && allTo (chainB up) up up.length
theorem chain_inner {d : Nat} {τ : AHeap} {up : List Int} {a : Option Addr} {f bx i : Nat} {t0 : Tmps} {Q : AEx → Tmps → AHeap → Prop} (hn : up.length < 900)
    (hbox : ∀ M o n, (τ.grow M).loadN bx o n = sliceL [.slice a up.length f] o n) (h1 : SlI τ a up)
    (h1' : tget t0 1 = here bx 0) (h6 : tget t0 6 = i64 0) (h7 : tget t0 7 = i64 i)
    (hQ : cF up (up.length + 2) i 0 = true → ∀ t, tget t 1 = here bx 0 → tget t 33 = tget t0 33 → tget t 34 = tget t0 34 → tget t 35 = tget t0 35 → Q (.exit 4) t (τ.grow []))
    (hR : cF up (up.length + 2) i 0 = false → ∀ t, tget t 2 = .bool false → Q .ret t (τ.grow [])) :
    Hai.Ends (acode (acall (ofProg Tryz.prog) 1000 (d + 1)) 1000 (.loop b2_forest_Good) t0 (τ.grow [])) Q := by
  refine ends_loop (fun j t τ' => τ' = τ.grow [] ∧ tget t 6 = i64 j ∧ tget t 1 = here bx 0 ∧ tget t 33 = tget t0 33 ∧ tget t 34 = tget t0 34 ∧ tget t 35 = tget t0 35 ∧ j ≤ up.length + 1 ∧ ∃ z, tget t 7 = i64 z ∧ cF up (up.length + 2 - j) z j = cF up (up.length + 2) i 0)
    (up.length + 2) (by omega) ⟨rfl, h6, h1', rfl, rfl, rfl, by omega, i, h7, rfl⟩ ?_
  rintro j t τ' hj ⟨rfl, t6, t1, t33, t34, t35, hjl, z, t7, hz⟩
  have his := fun L n => forest_is_ok d (τ.grow L) up a f n (h1.grow L)
  obtain ⟨k, hk⟩ : ∃ k, up.length + 2 - j = k + 1 := ⟨up.length + 1 - j, by omega⟩
  rw [hk] at hz
  have hcast : ((j + 1 : Nat) : Int) = (j : Int) + 1 := by omega
  by_cases q : 0 ≤ z ∧ z < up.length
  · obtain ⟨u, e1, e2⟩ := atI_some q.1 q.2
    have hub : upB up z = !(decide (u = -2)) := by unfold upB; rw [e1]
    by_cases g1 : u = -2
    · have hc : cF up (up.length + 2) i 0 = true := by rw [← hz]; simp only [cF, e1, g1, if_true]
      simp (disch := omega) only [t6, t1, t7, hbox, his, hub, eq_true g1, r0_forest_Good, r1_forest_Good, r2_forest_Good, k1_forest_Good, r3_forest_Good, r4_forest_Good, r5_forest_Good, r6_forest_Good, r7_forest_Good, k7_forest_Good, k6_forest_Good, r8_forest_Good, k8_forest_Good, k5_forest_Good, k4_forest_Good, k3_forest_Good, r9_forest_Good, r10_forest_Good, r11_forest_Good, r12_forest_Good, r13_forest_Good, r14_forest_Good, k16_forest_Good, r15_forest_Good, r16_forest_Good, k18_forest_Good, r17_forest_Good, k19_forest_Good, r18_forest_Good, k20_forest_Good, k17_forest_Good, k15_forest_Good, k14_forest_Good, k13_forest_Good, r19_forest_Good, k21_forest_Good, k12_forest_Good, k11_forest_Good, k10_forest_Good, r20_forest_Good, k22_forest_Good, k9_forest_Good, k2_forest_Good, k0_forest_Good, b2_forest_Good, Z0, Z1, Z2, Z3, Z4, Z5, Z6, Z7, Z8, Z9, Z10, resAll, Nat.reduceAdd, Nat.reduceEqDiff, Nat.reduceLeDiff, Nat.reduceMul, ↓reduceIte, reduceCtorEq, Nat.reduceBEq, aoper, Nat.reduceLT, Int.reduceEq, Int.reduceLT, Int.reduceLE]
      refine hQ hc _ ?_ ?_ ?_ ?_ <;> simp (disch := omega) only [t1, t33, t34, t35, r0_forest_Good, r1_forest_Good, r2_forest_Good, k1_forest_Good, r3_forest_Good, r4_forest_Good, r5_forest_Good, r6_forest_Good, r7_forest_Good, k7_forest_Good, k6_forest_Good, r8_forest_Good, k8_forest_Good, k5_forest_Good, k4_forest_Good, k3_forest_Good, r9_forest_Good, r10_forest_Good, r11_forest_Good, r12_forest_Good, r13_forest_Good, r14_forest_Good, k16_forest_Good, r15_forest_Good, r16_forest_Good, k18_forest_Good, r17_forest_Good, k19_forest_Good, r18_forest_Good, k20_forest_Good, k17_forest_Good, k15_forest_Good, k14_forest_Good, k13_forest_Good, r19_forest_Good, k21_forest_Good, k12_forest_Good, k11_forest_Good, k10_forest_Good, r20_forest_Good, k22_forest_Good, k9_forest_Good, k2_forest_Good, k0_forest_Good, c_forest_Good, Z0, Z1, Z2, Z3, Z4, Z5, Z6, Z7, Z8, Z9, Z10, resAll, Nat.reduceAdd, Nat.reduceEqDiff, Nat.reduceLeDiff, Nat.reduceMul, ↓reduceIte, reduceCtorEq, Nat.reduceBEq, aoper, Nat.reduceLT, Int.reduceEq, Int.reduceLT, Int.reduceLE]
    · by_cases g2 : up.length < j
      · have hc : cF up (up.length + 2) i 0 = false := by rw [← hz]; simp only [cF, e1, if_neg g1, if_pos g2]
        have g2' : (up.length : Int) < (j : Int) := by omega
        simp (disch := omega) only [t6, t1, t7, hbox, his, hub, g1, g2', r0_forest_Good, r1_forest_Good, r2_forest_Good, k1_forest_Good, r3_forest_Good, r4_forest_Good, r5_forest_Good, r6_forest_Good, r7_forest_Good, k7_forest_Good, k6_forest_Good, r8_forest_Good, k8_forest_Good, k5_forest_Good, k4_forest_Good, k3_forest_Good, r9_forest_Good, r10_forest_Good, r11_forest_Good, r12_forest_Good, r13_forest_Good, r14_forest_Good, k16_forest_Good, r15_forest_Good, r16_forest_Good, k18_forest_Good, r17_forest_Good, k19_forest_Good, r18_forest_Good, k20_forest_Good, k17_forest_Good, k15_forest_Good, k14_forest_Good, k13_forest_Good, r19_forest_Good, k21_forest_Good, k12_forest_Good, k11_forest_Good, k10_forest_Good, r20_forest_Good, k22_forest_Good, k9_forest_Good, k2_forest_Good, k0_forest_Good, b2_forest_Good, Z0, Z1, Z2, Z3, Z4, Z5, Z6, Z7, Z8, Z9, Z10, resAll, Nat.reduceAdd, Nat.reduceEqDiff, Nat.reduceLeDiff, Nat.reduceMul, ↓reduceIte, reduceCtorEq, Nat.reduceBEq, aoper, Nat.reduceLT, Int.reduceEq, Int.reduceLT, Int.reduceLE]
        refine hR hc _ ?_
        simp (disch := omega) only [r0_forest_Good, r1_forest_Good, r2_forest_Good, k1_forest_Good, r3_forest_Good, r4_forest_Good, r5_forest_Good, r6_forest_Good, r7_forest_Good, k7_forest_Good, k6_forest_Good, r8_forest_Good, k8_forest_Good, k5_forest_Good, k4_forest_Good, k3_forest_Good, r9_forest_Good, r10_forest_Good, r11_forest_Good, r12_forest_Good, r13_forest_Good, r14_forest_Good, k16_forest_Good, r15_forest_Good, r16_forest_Good, k18_forest_Good, r17_forest_Good, k19_forest_Good, r18_forest_Good, k20_forest_Good, k17_forest_Good, k15_forest_Good, k14_forest_Good, k13_forest_Good, r19_forest_Good, k21_forest_Good, k12_forest_Good, k11_forest_Good, k10_forest_Good, r20_forest_Good, k22_forest_Good, k9_forest_Good, k2_forest_Good, k0_forest_Good, c_forest_Good, Z0, Z1, Z2, Z3, Z4, Z5, Z6, Z7, Z8, Z9, Z10, resAll, Nat.reduceAdd, Nat.reduceEqDiff, Nat.reduceLeDiff, Nat.reduceMul, ↓reduceIte, reduceCtorEq, Nat.reduceBEq, aoper, Nat.reduceLT, Int.reduceEq, Int.reduceLT, Int.reduceLE]
      · have g2' : ¬ (up.length : Int) < (j : Int) := by omega
        obtain ⟨b, rfl, hb⟩ := h1.at (i := z.toNat) (by omega)
        have hl := fun L => hb.ld0 (Keeps.refl _) e2 L 1 (by omega)
        simp only [List.take_succ_cons, List.take_zero, Nat.mul_one] at hl
        have hc : cF up (up.length + 2 - (j + 1)) u (j + 1) = cF up (up.length + 2) i 0 := by
          rw [← hz]
          have : up.length + 2 - (j + 1) = k := by omega
          rw [this]
          simp only [cF, e1, if_neg g1, if_neg g2]
        simp (disch := omega) only [t6, t1, t7, t33, t34, t35, hbox, his, hub, hl, g1, g2', q.1, q.2, Nat.mul_one, hcast, r0_forest_Good, r1_forest_Good, r2_forest_Good, k1_forest_Good, r3_forest_Good, r4_forest_Good, r5_forest_Good, r6_forest_Good, r7_forest_Good, k7_forest_Good, k6_forest_Good, r8_forest_Good, k8_forest_Good, k5_forest_Good, k4_forest_Good, k3_forest_Good, r9_forest_Good, r10_forest_Good, r11_forest_Good, r12_forest_Good, r13_forest_Good, r14_forest_Good, k16_forest_Good, r15_forest_Good, r16_forest_Good, k18_forest_Good, r17_forest_Good, k19_forest_Good, r18_forest_Good, k20_forest_Good, k17_forest_Good, k15_forest_Good, k14_forest_Good, k13_forest_Good, r19_forest_Good, k21_forest_Good, k12_forest_Good, k11_forest_Good, k10_forest_Good, r20_forest_Good, k22_forest_Good, k9_forest_Good, k2_forest_Good, k0_forest_Good, b2_forest_Good, Z0, Z1, Z2, Z3, Z4, Z5, Z6, Z7, Z8, Z9, Z10, resAll, Nat.reduceAdd, Nat.reduceEqDiff, Nat.reduceLeDiff, Nat.reduceMul, ↓reduceIte, reduceCtorEq, Nat.reduceBEq, aoper, Nat.reduceLT, Int.reduceEq, Int.reduceLT, Int.reduceLE]
        exact ⟨by omega, by omega, u, rfl, hc⟩
  · have e1 := atI_none (l := up) q
    have hub : upB up z = false := by unfold upB; rw [e1]
    have hc : cF up (up.length + 2) i 0 = true := by rw [← hz]; simp only [cF, e1]
    simp (disch := omega) only [t6, t1, t7, hbox, his, hub, r0_forest_Good, r1_forest_Good, r2_forest_Good, k1_forest_Good, r3_forest_Good, r4_forest_Good, r5_forest_Good, r6_forest_Good, r7_forest_Good, k7_forest_Good, k6_forest_Good, r8_forest_Good, k8_forest_Good, k5_forest_Good, k4_forest_Good, k3_forest_Good, r9_forest_Good, r10_forest_Good, r11_forest_Good, r12_forest_Good, r13_forest_Good, r14_forest_Good, k16_forest_Good, r15_forest_Good, r16_forest_Good, k18_forest_Good, r17_forest_Good, k19_forest_Good, r18_forest_Good, k20_forest_Good, k17_forest_Good, k15_forest_Good, k14_forest_Good, k13_forest_Good, r19_forest_Good, k21_forest_Good, k12_forest_Good, k11_forest_Good, k10_forest_Good, r20_forest_Good, k22_forest_Good, k9_forest_Good, k2_forest_Good, k0_forest_Good, b2_forest_Good, Z0, Z1, Z2, Z3, Z4, Z5, Z6, Z7, Z8, Z9, Z10, resAll, Nat.reduceAdd, Nat.reduceEqDiff, Nat.reduceLeDiff, Nat.reduceMul, ↓reduceIte, reduceCtorEq, Nat.reduceBEq, aoper, Nat.reduceLT, Int.reduceEq, Int.reduceLT, Int.reduceLE]
    refine hQ hc _ ?_ ?_ ?_ ?_ <;> simp (disch := omega) only [t1, t33, t34, t35, r0_forest_Good, r1_forest_Good, r2_forest_Good, k1_forest_Good, r3_forest_Good, r4_forest_Good, r5_forest_Good, r6_forest_Good, r7_forest_Good, k7_forest_Good, k6_forest_Good, r8_forest_Good, k8_forest_Good, k5_forest_Good, k4_forest_Good, k3_forest_Good, r9_forest_Good, r10_forest_Good, r11_forest_Good, r12_forest_Good, r13_forest_Good, r14_forest_Good, k16_forest_Good, r15_forest_Good, r16_forest_Good, k18_forest_Good, r17_forest_Good, k19_forest_Good, r18_forest_Good, k20_forest_Good, k17_forest_Good, k15_forest_Good, k14_forest_Good, k13_forest_Good, r19_forest_Good, k21_forest_Good, k12_forest_Good, k11_forest_Good, k10_forest_Good, r20_forest_Good, k22_forest_Good, k9_forest_Good, k2_forest_Good, k0_forest_Good, c_forest_Good, Z0, Z1, Z2, Z3, Z4, Z5, Z6, Z7, Z8, Z9, Z10, resAll, Nat.reduceAdd, Nat.reduceEqDiff, Nat.reduceLeDiff, Nat.reduceMul, ↓reduceIte, reduceCtorEq, Nat.reduceBEq, aoper, Nat.reduceLT, Int.reduceEq, Int.reduceLT, Int.reduceLE]
theorem forest_Good_ok (d : Nat) (σ : AHeap) (up : List Int) (a : Option Addr) (f : Nat) (h1 : SlI σ a up) (hn : up.length < 900) :
    acall (ofProg Tryz.prog) 1000 (d + 2) 61 [.agg [.slice a up.length f].toArray] σ = some (.bool (forestB up), σ) := by
  refine acall_flat e_forest_Good (by simp) rfl ?_
  by_cases c0 : (up.length : Int) ≤ 96
  · have c0' : ¬ (96 : Int) < up.length := by omega
    simp (disch := omega) only [c0', r0_forest_Good, r1_forest_Good, r2_forest_Good, k1_forest_Good, r3_forest_Good, r4_forest_Good, r5_forest_Good, r6_forest_Good, r7_forest_Good, k7_forest_Good, k6_forest_Good, r8_forest_Good, k8_forest_Good, k5_forest_Good, k4_forest_Good, k3_forest_Good, r9_forest_Good, r10_forest_Good, r11_forest_Good, r12_forest_Good, r13_forest_Good, r14_forest_Good, k16_forest_Good, r15_forest_Good, r16_forest_Good, k18_forest_Good, r17_forest_Good, k19_forest_Good, r18_forest_Good, k20_forest_Good, k17_forest_Good, k15_forest_Good, k14_forest_Good, k13_forest_Good, r19_forest_Good, k21_forest_Good, k12_forest_Good, k11_forest_Good, k10_forest_Good, r20_forest_Good, k22_forest_Good, k9_forest_Good, k2_forest_Good, k0_forest_Good, c_forest_Good, Z0, Z1, Z2, Z3, Z4, Z5, Z6, Z7, Z8, Z9, Z10, resAll, Nat.reduceAdd, Nat.reduceEqDiff, Nat.reduceLeDiff, Nat.reduceMul, ↓reduceIte, reduceCtorEq, Nat.reduceBEq, aoper, Nat.reduceLT, Int.reduceEq, Int.reduceLT, Int.reduceLE]
    refine ends_loop (fun i t τ => tget t 13 = .slice a up.length f ∧ tget t 14 = i64 up.length ∧ tget t 15 = i64 i ∧ tget t 1 = here σ.fresh.n 0 ∧ Keeps (σ.fresh.grow [([.slice a up.length f], 1)]) τ ∧ allTo (linkB up) up i = true)
      up.length (by omega) ⟨?_, ?_, ?_, ?_, Keeps.refl _, rfl⟩ ?_
    iterate 4 simp (disch := omega) only [Int.natCast_zero, Int.ofNat_zero, r0_forest_Good, r1_forest_Good, r2_forest_Good, k1_forest_Good, r3_forest_Good, r4_forest_Good, r5_forest_Good, r6_forest_Good, r7_forest_Good, k7_forest_Good, k6_forest_Good, r8_forest_Good, k8_forest_Good, k5_forest_Good, k4_forest_Good, k3_forest_Good, r9_forest_Good, r10_forest_Good, r11_forest_Good, r12_forest_Good, r13_forest_Good, r14_forest_Good, k16_forest_Good, r15_forest_Good, r16_forest_Good, k18_forest_Good, r17_forest_Good, k19_forest_Good, r18_forest_Good, k20_forest_Good, k17_forest_Good, k15_forest_Good, k14_forest_Good, k13_forest_Good, r19_forest_Good, k21_forest_Good, k12_forest_Good, k11_forest_Good, k10_forest_Good, r20_forest_Good, k22_forest_Good, k9_forest_Good, k2_forest_Good, k0_forest_Good, c_forest_Good, Z0, Z1, Z2, Z3, Z4, Z5, Z6, Z7, Z8, Z9, Z10, resAll, Nat.reduceAdd, Nat.reduceEqDiff, Nat.reduceLeDiff, Nat.reduceMul, ↓reduceIte, reduceCtorEq, Nat.reduceBEq, aoper, Nat.reduceLT, Int.reduceEq, Int.reduceLT, Int.reduceLE]
    rintro i t τ hi ⟨t13, t14, t15, t1, hk, hall⟩
    rw [← grow_nil τ]
    have hlow : τ.low ≤ τ.n := by rw [hk.low]; exact Nat.le_trans (low_grow fresh_le _) hk.n
    have hbox := fun M o n => hk.own0 (r := [.slice a up.length f]) (e := 1) rfl M o n
    have h1τ : SlI τ a up := h1.fresh.keeps ((Keeps.self _ _).trans hk)
    have his := fun L n => forest_is_ok d (τ.grow L) up a f n (h1τ.grow L)
    by_cases hlt : i < up.length
    · obtain ⟨b, rfl, hb⟩ := h1τ.at hlt
      have hx : up[i]? = some up[i] := List.getElem?_eq_getElem hlt
      generalize up[i] = u at hx
      have hl := fun L => hb.ld0 (Keeps.refl _) hx L 1 (by omega)
      simp only [List.take_succ_cons, List.take_zero, Nat.mul_one] at hl
      have hlt' : (i : Int) < (up.length : Int) := by omega
      have hcast : ((i + 1 : Nat) : Int) = (i : Int) + 1 := by omega
      by_cases g1 : u = -2
      · have hs : linkB up i u = true := by unfold linkB; simp [g1]
        simp (disch := omega) only [t13, t14, t15, t1, hbox, hl, hlt', hlt, hcast, Int.toNat_natCast, Nat.mul_one, eq_true g1, hk.grow, allTo_next hall hx hs, r0_forest_Good, r1_forest_Good, r2_forest_Good, k1_forest_Good, r3_forest_Good, r4_forest_Good, r5_forest_Good, r6_forest_Good, r7_forest_Good, k7_forest_Good, k6_forest_Good, r8_forest_Good, k8_forest_Good, k5_forest_Good, k4_forest_Good, k3_forest_Good, r9_forest_Good, r10_forest_Good, r11_forest_Good, r12_forest_Good, r13_forest_Good, r14_forest_Good, k16_forest_Good, r15_forest_Good, r16_forest_Good, k18_forest_Good, r17_forest_Good, k19_forest_Good, r18_forest_Good, k20_forest_Good, k17_forest_Good, k15_forest_Good, k14_forest_Good, k13_forest_Good, r19_forest_Good, k21_forest_Good, k12_forest_Good, k11_forest_Good, k10_forest_Good, r20_forest_Good, k22_forest_Good, k9_forest_Good, k2_forest_Good, k0_forest_Good, b0_forest_Good, Z0, Z1, Z2, Z3, Z4, Z5, Z6, Z7, Z8, Z9, Z10, resAll, Nat.reduceAdd, Nat.reduceEqDiff, Nat.reduceLeDiff, Nat.reduceMul, ↓reduceIte, reduceCtorEq, Nat.reduceBEq, aoper, Nat.reduceLT, Int.reduceEq, Int.reduceLT, Int.reduceLE]
      · by_cases g2 : u = -1
        · have hs : linkB up i u = true := by unfold linkB; simp [g2]
          simp (disch := omega) only [t13, t14, t15, t1, hbox, hl, hlt', hlt, hcast, Int.toNat_natCast, Nat.mul_one, g1, eq_true g2, hk.grow, allTo_next hall hx hs, r0_forest_Good, r1_forest_Good, r2_forest_Good, k1_forest_Good, r3_forest_Good, r4_forest_Good, r5_forest_Good, r6_forest_Good, r7_forest_Good, k7_forest_Good, k6_forest_Good, r8_forest_Good, k8_forest_Good, k5_forest_Good, k4_forest_Good, k3_forest_Good, r9_forest_Good, r10_forest_Good, r11_forest_Good, r12_forest_Good, r13_forest_Good, r14_forest_Good, k16_forest_Good, r15_forest_Good, r16_forest_Good, k18_forest_Good, r17_forest_Good, k19_forest_Good, r18_forest_Good, k20_forest_Good, k17_forest_Good, k15_forest_Good, k14_forest_Good, k13_forest_Good, r19_forest_Good, k21_forest_Good, k12_forest_Good, k11_forest_Good, k10_forest_Good, r20_forest_Good, k22_forest_Good, k9_forest_Good, k2_forest_Good, k0_forest_Good, b0_forest_Good, Z0, Z1, Z2, Z3, Z4, Z5, Z6, Z7, Z8, Z9, Z10, resAll, Nat.reduceAdd, Nat.reduceEqDiff, Nat.reduceLeDiff, Nat.reduceMul, ↓reduceIte, reduceCtorEq, Nat.reduceBEq, aoper, Nat.reduceLT, Int.reduceEq, Int.reduceLT, Int.reduceLE]
        · cases g3 : upB up u with
          | true =>
            have hs : linkB up i u = true := by unfold linkB; simp [g3]
            simp (disch := omega) only [t13, t14, t15, t1, hbox, hl, his, hlt', hlt, hcast, Int.toNat_natCast, Nat.mul_one, g1, g2, g3, hk.grow, allTo_next hall hx hs, r0_forest_Good, r1_forest_Good, r2_forest_Good, k1_forest_Good, r3_forest_Good, r4_forest_Good, r5_forest_Good, r6_forest_Good, r7_forest_Good, k7_forest_Good, k6_forest_Good, r8_forest_Good, k8_forest_Good, k5_forest_Good, k4_forest_Good, k3_forest_Good, r9_forest_Good, r10_forest_Good, r11_forest_Good, r12_forest_Good, r13_forest_Good, r14_forest_Good, k16_forest_Good, r15_forest_Good, r16_forest_Good, k18_forest_Good, r17_forest_Good, k19_forest_Good, r18_forest_Good, k20_forest_Good, k17_forest_Good, k15_forest_Good, k14_forest_Good, k13_forest_Good, r19_forest_Good, k21_forest_Good, k12_forest_Good, k11_forest_Good, k10_forest_Good, r20_forest_Good, k22_forest_Good, k9_forest_Good, k2_forest_Good, k0_forest_Good, b0_forest_Good, Z0, Z1, Z2, Z3, Z4, Z5, Z6, Z7, Z8, Z9, Z10, resAll, Nat.reduceAdd, Nat.reduceEqDiff, Nat.reduceLeDiff, Nat.reduceMul, ↓reduceIte, reduceCtorEq, Nat.reduceBEq, aoper, Nat.reduceLT, Int.reduceEq, Int.reduceLT, Int.reduceLE]
          | false =>
            have hs : linkB up i u = false := by unfold linkB; simp [g1, g2, g3]
            have hf : forestB up = false := by unfold forestB; rw [allTo_false hx hs _ hlt]; simp
            simp (disch := omega) only [t13, t14, t15, t1, hbox, hl, his, hlt', hlt, hcast, Int.toNat_natCast, Nat.mul_one, g1, g2, g3, hk.low, hf, r0_forest_Good, r1_forest_Good, r2_forest_Good, k1_forest_Good, r3_forest_Good, r4_forest_Good, r5_forest_Good, r6_forest_Good, r7_forest_Good, k7_forest_Good, k6_forest_Good, r8_forest_Good, k8_forest_Good, k5_forest_Good, k4_forest_Good, k3_forest_Good, r9_forest_Good, r10_forest_Good, r11_forest_Good, r12_forest_Good, r13_forest_Good, r14_forest_Good, k16_forest_Good, r15_forest_Good, r16_forest_Good, k18_forest_Good, r17_forest_Good, k19_forest_Good, r18_forest_Good, k20_forest_Good, k17_forest_Good, k15_forest_Good, k14_forest_Good, k13_forest_Good, r19_forest_Good, k21_forest_Good, k12_forest_Good, k11_forest_Good, k10_forest_Good, r20_forest_Good, k22_forest_Good, k9_forest_Good, k2_forest_Good, k0_forest_Good, b0_forest_Good, Z0, Z1, Z2, Z3, Z4, Z5, Z6, Z7, Z8, Z9, Z10, resAll, Nat.reduceAdd, Nat.reduceEqDiff, Nat.reduceLeDiff, Nat.reduceMul, ↓reduceIte, reduceCtorEq, Nat.reduceBEq, aoper, Nat.reduceLT, Int.reduceEq, Int.reduceLT, Int.reduceLE]
    · have hlt' : ¬ (i : Int) < (up.length : Int) := by omega
      have hii : i = up.length := by omega
      rw [hii] at hall
      have hfb : forestB up = allTo (chainB up) up up.length := by unfold forestB; rw [hall]; simp [c0]
      simp (disch := omega) only [t13, t14, t15, t1, hbox, hlt', r0_forest_Good, r1_forest_Good, r2_forest_Good, k1_forest_Good, r3_forest_Good, r4_forest_Good, r5_forest_Good, r6_forest_Good, r7_forest_Good, k7_forest_Good, k6_forest_Good, r8_forest_Good, k8_forest_Good, k5_forest_Good, k4_forest_Good, k3_forest_Good, r9_forest_Good, r10_forest_Good, r11_forest_Good, r12_forest_Good, r13_forest_Good, r14_forest_Good, k16_forest_Good, r15_forest_Good, r16_forest_Good, k18_forest_Good, r17_forest_Good, k19_forest_Good, r18_forest_Good, k20_forest_Good, k17_forest_Good, k15_forest_Good, k14_forest_Good, k13_forest_Good, r19_forest_Good, k21_forest_Good, k12_forest_Good, k11_forest_Good, k10_forest_Good, r20_forest_Good, k22_forest_Good, k9_forest_Good, k2_forest_Good, k0_forest_Good, b0_forest_Good, Z0, Z1, Z2, Z3, Z4, Z5, Z6, Z7, Z8, Z9, Z10, resAll, Nat.reduceAdd, Nat.reduceEqDiff, Nat.reduceLeDiff, Nat.reduceMul, ↓reduceIte, reduceCtorEq, Nat.reduceBEq, aoper, Nat.reduceLT, Int.reduceEq, Int.reduceLT, Int.reduceLE]
      refine ends_loop (fun j t' τ' => tget t' 33 = .slice a up.length f ∧ tget t' 34 = i64 up.length ∧ tget t' 35 = i64 j ∧ tget t' 1 = here σ.fresh.n 0 ∧ τ' = τ ∧ allTo (chainB up) up j = true)
        up.length (by omega) ⟨?_, ?_, ?_, ?_, grow_nil _, rfl⟩ ?_
      iterate 4 simp (disch := omega) only [t1, Int.natCast_zero, Int.ofNat_zero, r0_forest_Good, r1_forest_Good, r2_forest_Good, k1_forest_Good, r3_forest_Good, r4_forest_Good, r5_forest_Good, r6_forest_Good, r7_forest_Good, k7_forest_Good, k6_forest_Good, r8_forest_Good, k8_forest_Good, k5_forest_Good, k4_forest_Good, k3_forest_Good, r9_forest_Good, r10_forest_Good, r11_forest_Good, r12_forest_Good, r13_forest_Good, r14_forest_Good, k16_forest_Good, r15_forest_Good, r16_forest_Good, k18_forest_Good, r17_forest_Good, k19_forest_Good, r18_forest_Good, k20_forest_Good, k17_forest_Good, k15_forest_Good, k14_forest_Good, k13_forest_Good, r19_forest_Good, k21_forest_Good, k12_forest_Good, k11_forest_Good, k10_forest_Good, r20_forest_Good, k22_forest_Good, k9_forest_Good, k2_forest_Good, k0_forest_Good, c_forest_Good, Z0, Z1, Z2, Z3, Z4, Z5, Z6, Z7, Z8, Z9, Z10, resAll, Nat.reduceAdd, Nat.reduceEqDiff, Nat.reduceLeDiff, Nat.reduceMul, ↓reduceIte, reduceCtorEq, Nat.reduceBEq, aoper, Nat.reduceLT, Int.reduceEq, Int.reduceLT, Int.reduceLE]
      rintro j t' τ' hj ⟨u33, u34, u35, u1, rfl, hall'⟩
      rw [← grow_nil τ']
      by_cases hjt : j < up.length
      · have hjt' : (j : Int) < (up.length : Int) := by omega
        have hcast : ((j + 1 : Nat) : Int) = (j : Int) + 1 := by omega
        have hx : up[j]? = some up[j] := List.getElem?_eq_getElem hjt
        simp (disch := omega) only [u33, u34, u35, u1, hjt', r0_forest_Good, r1_forest_Good, r2_forest_Good, r3_forest_Good, r4_forest_Good, r5_forest_Good, r6_forest_Good, r7_forest_Good, r8_forest_Good, r9_forest_Good, r10_forest_Good, r11_forest_Good, r12_forest_Good, r13_forest_Good, r14_forest_Good, r15_forest_Good, r16_forest_Good, r17_forest_Good, r18_forest_Good, r19_forest_Good, r20_forest_Good, b1_forest_Good, k11_forest_Good, k12_forest_Good, k13_forest_Good, k14_forest_Good, k15_forest_Good, Z0, Z1, Z2, Z3, Z4, Z5, Z6, Z7, Z8, Z9, Z10, resAll, Nat.reduceAdd, Nat.reduceEqDiff, Nat.reduceLeDiff, Nat.reduceMul, ↓reduceIte, reduceCtorEq, Nat.reduceBEq, aoper, Nat.reduceLT, Int.reduceEq, Int.reduceLT, Int.reduceLE]
        refine chain_inner (bx := σ.fresh.n) (i := j) (by omega) hbox h1τ ?_ ?_ ?_ (fun hc t'' v1 v33 v34 v35 => ?_) (fun hc t'' v2 => ?_)
        iterate 3 simp (disch := omega) only [u1, r0_forest_Good, r1_forest_Good, r2_forest_Good, k1_forest_Good, r3_forest_Good, r4_forest_Good, r5_forest_Good, r6_forest_Good, r7_forest_Good, k7_forest_Good, k6_forest_Good, r8_forest_Good, k8_forest_Good, k5_forest_Good, k4_forest_Good, k3_forest_Good, r9_forest_Good, r10_forest_Good, r11_forest_Good, r12_forest_Good, r13_forest_Good, r14_forest_Good, k16_forest_Good, r15_forest_Good, r16_forest_Good, k18_forest_Good, r17_forest_Good, k19_forest_Good, r18_forest_Good, k20_forest_Good, k17_forest_Good, k15_forest_Good, k14_forest_Good, k13_forest_Good, r19_forest_Good, k21_forest_Good, k12_forest_Good, k11_forest_Good, k10_forest_Good, r20_forest_Good, k22_forest_Good, k9_forest_Good, k2_forest_Good, k0_forest_Good, c_forest_Good, Z0, Z1, Z2, Z3, Z4, Z5, Z6, Z7, Z8, Z9, Z10, resAll, Nat.reduceAdd, Nat.reduceEqDiff, Nat.reduceLeDiff, Nat.reduceMul, ↓reduceIte, reduceCtorEq, Nat.reduceBEq, aoper, Nat.reduceLT, Int.reduceEq, Int.reduceLT, Int.reduceLE]
        · have w33 : tget t'' 33 = .slice a up.length f := by rw [v33]; simp (disch := omega) only [u33, r0_forest_Good, r1_forest_Good, r2_forest_Good, k1_forest_Good, r3_forest_Good, r4_forest_Good, r5_forest_Good, r6_forest_Good, r7_forest_Good, k7_forest_Good, k6_forest_Good, r8_forest_Good, k8_forest_Good, k5_forest_Good, k4_forest_Good, k3_forest_Good, r9_forest_Good, r10_forest_Good, r11_forest_Good, r12_forest_Good, r13_forest_Good, r14_forest_Good, k16_forest_Good, r15_forest_Good, r16_forest_Good, k18_forest_Good, r17_forest_Good, k19_forest_Good, r18_forest_Good, k20_forest_Good, k17_forest_Good, k15_forest_Good, k14_forest_Good, k13_forest_Good, r19_forest_Good, k21_forest_Good, k12_forest_Good, k11_forest_Good, k10_forest_Good, r20_forest_Good, k22_forest_Good, k9_forest_Good, k2_forest_Good, k0_forest_Good, c_forest_Good, Z0, Z1, Z2, Z3, Z4, Z5, Z6, Z7, Z8, Z9, Z10, resAll, Nat.reduceAdd, Nat.reduceEqDiff, Nat.reduceLeDiff, Nat.reduceMul, ↓reduceIte, reduceCtorEq, Nat.reduceBEq, aoper, Nat.reduceLT, Int.reduceEq, Int.reduceLT, Int.reduceLE]
          have w34 : tget t'' 34 = i64 up.length := by rw [v34]; simp (disch := omega) only [u34, r0_forest_Good, r1_forest_Good, r2_forest_Good, k1_forest_Good, r3_forest_Good, r4_forest_Good, r5_forest_Good, r6_forest_Good, r7_forest_Good, k7_forest_Good, k6_forest_Good, r8_forest_Good, k8_forest_Good, k5_forest_Good, k4_forest_Good, k3_forest_Good, r9_forest_Good, r10_forest_Good, r11_forest_Good, r12_forest_Good, r13_forest_Good, r14_forest_Good, k16_forest_Good, r15_forest_Good, r16_forest_Good, k18_forest_Good, r17_forest_Good, k19_forest_Good, r18_forest_Good, k20_forest_Good, k17_forest_Good, k15_forest_Good, k14_forest_Good, k13_forest_Good, r19_forest_Good, k21_forest_Good, k12_forest_Good, k11_forest_Good, k10_forest_Good, r20_forest_Good, k22_forest_Good, k9_forest_Good, k2_forest_Good, k0_forest_Good, c_forest_Good, Z0, Z1, Z2, Z3, Z4, Z5, Z6, Z7, Z8, Z9, Z10, resAll, Nat.reduceAdd, Nat.reduceEqDiff, Nat.reduceLeDiff, Nat.reduceMul, ↓reduceIte, reduceCtorEq, Nat.reduceBEq, aoper, Nat.reduceLT, Int.reduceEq, Int.reduceLT, Int.reduceLE]
          have w35 : tget t'' 35 = i64 j := by rw [v35]; simp (disch := omega) only [u35, r0_forest_Good, r1_forest_Good, r2_forest_Good, k1_forest_Good, r3_forest_Good, r4_forest_Good, r5_forest_Good, r6_forest_Good, r7_forest_Good, k7_forest_Good, k6_forest_Good, r8_forest_Good, k8_forest_Good, k5_forest_Good, k4_forest_Good, k3_forest_Good, r9_forest_Good, r10_forest_Good, r11_forest_Good, r12_forest_Good, r13_forest_Good, r14_forest_Good, k16_forest_Good, r15_forest_Good, r16_forest_Good, k18_forest_Good, r17_forest_Good, k19_forest_Good, r18_forest_Good, k20_forest_Good, k17_forest_Good, k15_forest_Good, k14_forest_Good, k13_forest_Good, r19_forest_Good, k21_forest_Good, k12_forest_Good, k11_forest_Good, k10_forest_Good, r20_forest_Good, k22_forest_Good, k9_forest_Good, k2_forest_Good, k0_forest_Good, c_forest_Good, Z0, Z1, Z2, Z3, Z4, Z5, Z6, Z7, Z8, Z9, Z10, resAll, Nat.reduceAdd, Nat.reduceEqDiff, Nat.reduceLeDiff, Nat.reduceMul, ↓reduceIte, reduceCtorEq, Nat.reduceBEq, aoper, Nat.reduceLT, Int.reduceEq, Int.reduceLT, Int.reduceLE]
          simp (disch := omega) only [w33, w34, w35, v1, hjt, hcast, grow_nil, allTo_next (p := chainB up) hall' hx hc, r0_forest_Good, r1_forest_Good, r2_forest_Good, r3_forest_Good, r4_forest_Good, r5_forest_Good, r6_forest_Good, r7_forest_Good, r8_forest_Good, r9_forest_Good, r10_forest_Good, r11_forest_Good, r12_forest_Good, r13_forest_Good, r14_forest_Good, r15_forest_Good, r16_forest_Good, r17_forest_Good, r18_forest_Good, r19_forest_Good, r20_forest_Good, k21_forest_Good, Z0, Z1, Z2, Z3, Z4, Z5, Z6, Z7, Z8, Z9, Z10, resAll, Nat.reduceAdd, Nat.reduceEqDiff, Nat.reduceLeDiff, Nat.reduceMul, ↓reduceIte, reduceCtorEq, Nat.reduceBEq, aoper, Nat.reduceLT, Int.reduceEq, Int.reduceLT, Int.reduceLE]
        · have hf : forestB up = false := by rw [hfb]; exact allTo_false hx hc _ hjt
          simp (disch := omega) only [v2, hf, hk.low, r0_forest_Good, r1_forest_Good, r2_forest_Good, r3_forest_Good, r4_forest_Good, r5_forest_Good, r6_forest_Good, r7_forest_Good, r8_forest_Good, r9_forest_Good, r10_forest_Good, r11_forest_Good, r12_forest_Good, r13_forest_Good, r14_forest_Good, r15_forest_Good, r16_forest_Good, r17_forest_Good, r18_forest_Good, r19_forest_Good, r20_forest_Good, Z0, Z1, Z2, Z3, Z4, Z5, Z6, Z7, Z8, Z9, Z10, resAll, Nat.reduceAdd, Nat.reduceEqDiff, Nat.reduceLeDiff, Nat.reduceMul, ↓reduceIte, reduceCtorEq, Nat.reduceBEq, aoper, Nat.reduceLT, Int.reduceEq, Int.reduceLT, Int.reduceLE]
      · have hjt' : ¬ (j : Int) < (up.length : Int) := by omega
        have hjj : j = up.length := by omega
        have hf : forestB up = true := by rw [hfb, ← hjj]; exact hall'
        simp (disch := omega) only [u33, u34, u35, hjt', hf, hk.low, r0_forest_Good, r1_forest_Good, r2_forest_Good, r3_forest_Good, r4_forest_Good, r5_forest_Good, r6_forest_Good, r7_forest_Good, r8_forest_Good, r9_forest_Good, r10_forest_Good, r11_forest_Good, r12_forest_Good, r13_forest_Good, r14_forest_Good, r15_forest_Good, r16_forest_Good, r17_forest_Good, r18_forest_Good, r19_forest_Good, r20_forest_Good, b1_forest_Good, k11_forest_Good, k22_forest_Good, Z0, Z1, Z2, Z3, Z4, Z5, Z6, Z7, Z8, Z9, Z10, resAll, Nat.reduceAdd, Nat.reduceEqDiff, Nat.reduceLeDiff, Nat.reduceMul, ↓reduceIte, reduceCtorEq, Nat.reduceBEq, aoper, Nat.reduceLT, Int.reduceEq, Int.reduceLT, Int.reduceLE]
  · have c0' : (96 : Int) < up.length := by omega
    have hf : forestB up = false := by unfold forestB; simp [c0]
    simp (disch := omega) only [c0', hf, r0_forest_Good, r1_forest_Good, r2_forest_Good, k1_forest_Good, r3_forest_Good, r4_forest_Good, r5_forest_Good, r6_forest_Good, r7_forest_Good, k7_forest_Good, k6_forest_Good, r8_forest_Good, k8_forest_Good, k5_forest_Good, k4_forest_Good, k3_forest_Good, r9_forest_Good, r10_forest_Good, r11_forest_Good, r12_forest_Good, r13_forest_Good, r14_forest_Good, k16_forest_Good, r15_forest_Good, r16_forest_Good, k18_forest_Good, r17_forest_Good, k19_forest_Good, r18_forest_Good, k20_forest_Good, k17_forest_Good, k15_forest_Good, k14_forest_Good, k13_forest_Good, r19_forest_Good, k21_forest_Good, k12_forest_Good, k11_forest_Good, k10_forest_Good, r20_forest_Good, k22_forest_Good, k9_forest_Good, k2_forest_Good, k0_forest_Good, c_forest_Good, Z0, Z1, Z2, Z3, Z4, Z5, Z6, Z7, Z8, Z9, Z10, resAll, Nat.reduceAdd, Nat.reduceEqDiff, Nat.reduceLeDiff, Nat.reduceMul, ↓reduceIte, reduceCtorEq, Nat.reduceBEq, aoper, Nat.reduceLT, Int.reduceEq, Int.reduceLT, Int.reduceLE]
end Go.Proofs.YtidmcpkbcphpiaaGreat
namespace Go.Proofs.YtidmcpkbcphpiaaGreat
open Go Go.Hai
set_option maxRecDepth 20000
set_option linter.unusedSimpArgs false
set_option maxHeartbeats 4000000
attribute [local irreducible] Hai.Ends EndsR EndsO EndsD AHeap.grow
def r0_state_allowed : List AOper := [(.mk (some 1) none (.box 5 (.tmp 0))), (.mk (some 2) none (.mv (.const (.bool false))))]
def r1_state_allowed : List AOper := [(.mk (some 7) none (.fldA 3 (.tmp 1))), (.mk (some 8) none (.load false 1 (.tmp 7))), (.mk (some 9) none (.lenS (.tmp 8))), (.mk (some 10) none (.mv (.const (.int .i64 0))))]
def r2_state_allowed : List AOper := [(.mk (some 11) none (.bin .lss (.tmp 10) (.tmp 9)))]
def r3_state_allowed : List AOper := [(.mk (some 12) none (.idxA 5 (.tmp 8) (.tmp 10))), (.mk (some 13) none (.load true 5 (.tmp 12))), (.mk (some 4) none (.alloc [(.int .i64 0), (.int .i64 0), (.int .i64 0), (.int .i64 0), (.int .i64 0)] 5)), (.mk none none (.store 5 (.tmp 4) (.tmp 13)))]
def r4_state_allowed : List AOper := [(.mk (some 14) none (.fldA 4 (.tmp 4))), (.mk (some 15) none (.load false 1 (.tmp 14))), (.mk (some 5) none (.mv (.tmp 15)))]
def r5_state_allowed : List AOper := [(.mk (some 16) none (.fldA 3 (.tmp 1))), (.mk (some 17) none (.load false 1 (.tmp 16))), (.mk (some 18) none (.lenS (.tmp 17))), (.mk (some 19) none (.mv (.const (.int .i64 0))))]
def r6_state_allowed : List AOper := [(.mk (some 20) none (.bin .lss (.tmp 19) (.tmp 18)))]
def r7_state_allowed : List AOper := [(.mk (some 21) none (.mv (.tmp 5))), (.mk (some 22) none (.bin .lss (.tmp 21) (.const (.int .i64 0))))]
def k9_state_allowed : ACode := (.cond (.tmp 22) (.exit 2) .skip)
def r8_state_allowed : List AOper := [(.mk (some 23) none (.fldA 3 (.tmp 1))), (.mk (some 24) none (.load false 1 (.tmp 23))), (.mk (some 25) none (.mv (.tmp 5))), (.mk (some 26) none (.idxA 5 (.tmp 24) (.tmp 25))), (.mk (some 27) none (.load true 5 (.tmp 26))), (.mk (some 6) none (.alloc [(.int .i64 0), (.int .i64 0), (.int .i64 0), (.int .i64 0), (.int .i64 0)] 5)), (.mk none none (.store 5 (.tmp 6) (.tmp 27)))]
def r9_state_allowed : List AOper := [(.mk (some 28) none (.fldA 0 (.tmp 4))), (.mk (some 29) none (.load true 4 (.tmp 28))), (.mk (some 30) none (.fldA 0 (.tmp 6))), (.mk (some 31) none (.load true 4 (.tmp 30))), (.mk (some 32) none (.call 53 [(.tmp 29), (.tmp 31)])), (.mk (some 33) none (.un .not (.tmp 32))), (.mk (some 34) none (.mv (.tmp 33))), (.mk (some 35) (some (34, true)) (.fldA 0 (.tmp 6))), (.mk (some 36) (some (34, true)) (.fldA 0 (.tmp 35))), (.mk (some 37) (some (34, true)) (.load false 1 (.tmp 36))), (.mk (some 38) (some (34, true)) (.bin .neq (.tmp 37) (.const (.int .i64 1)))), (.mk (some 39) (some (34, true)) (.mv (.tmp 38))), (.mk (some 40) (some (39, false)) (.fldA 0 (.tmp 4))), (.mk (some 41) (some (39, false)) (.fldA 1 (.tmp 40))), (.mk (some 42) (some (39, false)) (.load false 1 (.tmp 41))), (.mk (some 43) (some (39, false)) (.fldA 0 (.tmp 6))), (.mk (some 44) (some (39, false)) (.fldA 1 (.tmp 43))), (.mk (some 45) (some (39, false)) (.load false 1 (.tmp 44))), (.mk (some 46) (some (39, false)) (.bin .eql (.tmp 42) (.tmp 45))), (.mk (some 47) (some (34, true)) (.pick (.tmp 39) (.const (.bool true)) (.tmp 46))), (.mk (some 48) none (.pick (.tmp 34) (.tmp 47) (.const (.bool false))))]
def r10_state_allowed : List AOper := [(.mk (some 2) none (.mv (.const (.bool false))))]
def k12_state_allowed : ACode := (.cond (.tmp 48) (.seq (.reg r10_state_allowed) .ret) .skip)
def r11_state_allowed : List AOper := [(.mk (some 49) none (.fldA 4 (.tmp 6))), (.mk (some 50) none (.load false 1 (.tmp 49))), (.mk (some 5) none (.mv (.tmp 50)))]
def k13_state_allowed : ACode := (.reg r11_state_allowed)
def k11_state_allowed : ACode := (.seq (.seq (.reg r9_state_allowed) k12_state_allowed) k13_state_allowed)
def k10_state_allowed : ACode := (.seq (.reg r8_state_allowed) k11_state_allowed)
def r12_state_allowed : List AOper := [(.mk (some 51) none (.bin .add (.tmp 19) (.const (.int .i64 1)))), (.mk (some 19) none (.mv (.tmp 51)))]
def k14_state_allowed : ACode := (.reg r12_state_allowed)
def k8_state_allowed : ACode := (.seq (.block 3 (.seq (.seq (.reg r7_state_allowed) k9_state_allowed) k10_state_allowed)) k14_state_allowed)
def k7_state_allowed : ACode := (.seq (.cond (.tmp 20) .skip (.exit 2)) k8_state_allowed)
def b1_state_allowed : ACode := (.seq (.reg r6_state_allowed) k7_state_allowed)
def k6_state_allowed : ACode := (.block 2 (.loop b1_state_allowed))
def k5_state_allowed : ACode := (.seq (.reg r5_state_allowed) k6_state_allowed)
def k4_state_allowed : ACode := (.seq (.reg r4_state_allowed) k5_state_allowed)
def r13_state_allowed : List AOper := [(.mk (some 52) none (.bin .add (.tmp 10) (.const (.int .i64 1)))), (.mk (some 10) none (.mv (.tmp 52)))]
def k15_state_allowed : ACode := (.reg r13_state_allowed)
def k3_state_allowed : ACode := (.seq (.block 1 (.seq (.reg r3_state_allowed) k4_state_allowed)) k15_state_allowed)
def k2_state_allowed : ACode := (.seq (.cond (.tmp 11) .skip (.exit 0)) k3_state_allowed)
def b0_state_allowed : ACode := (.seq (.reg r2_state_allowed) k2_state_allowed)
def k1_state_allowed : ACode := (.block 0 (.loop b0_state_allowed))
def r14_state_allowed : List AOper := [(.mk (some 2) none (.mv (.const (.bool true))))]
def k16_state_allowed : ACode := (.seq (.reg r14_state_allowed) .ret)
def k0_state_allowed : ACode := (.seq (.seq (.reg r1_state_allowed) k1_state_allowed) k16_state_allowed)
def c_state_allowed : ACode := (.seq (.reg r0_state_allowed) k0_state_allowed)
theorem e_state_allowed : ofProg Tryz.prog 63 = some ⟨53, [(.tmp 2)], c_state_allowed⟩ := by kernel_rfl
def badUp (x u : SlotD) : Bool := !(lessB x u) && (!(decide (u.type = 1)) || decide (x.thing = u.thing))
def aF (S : StD) (x : SlotD) : Nat → Int → Bool
  | 0, _ => true
  | k + 1, z => match atI S.sl z with
    | some u => if badUp x u = true then false else aF S x k u.up
    | none => true
def allowB (S : StD) (_ : Nat) (x : SlotD) : Bool := aF S x S.sl.length x.up
def allowedB (S : StD) : Bool := allTo (allowB S) S.sl S.sl.length
theorem allowed_inner {d : Nat} {τ : AHeap} {S : StD} {a1 : Option Addr} {f1 : Nat} {a2 : Option Addr} {f2 bx ty : Nat} {x : SlotD} {t0 : Tmps} {Q : AEx → Tmps → AHeap → Prop} (hn : S.sl.length < 1000) (hlow : τ.low ≤ τ.n)
    (hbox : ∀ τ', Keeps τ τ' → ∀ M o n, (τ'.grow M).loadN bx o n = sliceL (stL S a1 f1 a2 f2) o n) (hrow : ∀ τ', Keeps τ τ' → ∀ M o n, (τ'.grow M).loadN ty o n = sliceL (slotL x) o n) (h1 : SlS τ a1 S.sl)
    (hU : ∀ (i : Nat) (x : SlotD), S.sl[i]? = some x → x.up < S.sl.length) (hx : x.up < S.sl.length)
    (h1' : tget t0 1 = here bx 0) (h4 : tget t0 4 = here ty 0) (h5 : tget t0 5 = i64 x.up) (h18 : tget t0 18 = i64 S.sl.length) (h19 : tget t0 19 = i64 0)
    (hQ : aF S x S.sl.length x.up = true → ∀ t τ', Keeps τ τ' → tget t 1 = here bx 0 → tget t 8 = tget t0 8 → tget t 9 = tget t0 9 → tget t 10 = tget t0 10 → Q (.exit 2) t (τ'.grow []))
    (hR : aF S x S.sl.length x.up = false → ∀ t τ', Keeps τ τ' → tget t 2 = .bool false → Q .ret t τ') :
    Hai.Ends (acode (acall (ofProg Tryz.prog) 1000 (d + 5)) 1000 (.loop b1_state_allowed) t0 τ) Q := by
  refine ends_loop (fun j t τ' => Keeps τ τ' ∧ tget t 19 = i64 j ∧ tget t 18 = i64 S.sl.length ∧ tget t 1 = here bx 0 ∧ tget t 4 = here ty 0 ∧ tget t 8 = tget t0 8 ∧ tget t 9 = tget t0 9 ∧ tget t 10 = tget t0 10 ∧ ∃ z, tget t 5 = i64 z ∧ z < S.sl.length ∧ aF S x (S.sl.length - j) z = aF S x S.sl.length x.up)
    S.sl.length hn ⟨Keeps.refl _, h19, h18, h1', h4, rfl, rfl, rfl, x.up, h5, hx, rfl⟩ ?_
  rintro j t τ' hj ⟨hk, t19, t18, t1, t4, t8, t9, t10, z, t5, hz, hv⟩
  have hb' := hbox τ' hk
  have hr' := hrow τ' hk
  have hlow' : τ'.low ≤ τ'.n := by rw [hk.low]; exact Nat.le_trans hlow hk.n
  rw [← grow_nil τ']
  by_cases hlt : j < S.sl.length
  · have hlt' : (j : Int) < (S.sl.length : Int) := by omega
    have hcast : ((j + 1 : Nat) : Int) = (j : Int) + 1 := by omega
    obtain ⟨k, hkk⟩ : ∃ k, S.sl.length - j = k + 1 := ⟨S.sl.length - j - 1, by omega⟩
    rw [hkk] at hv
    by_cases g0 : z < 0
    · have hc : aF S x S.sl.length x.up = true := by
        rw [← hv]
        have : atI S.sl z = none := atI_none (by omega)
        simp only [aF, this]
      simp (disch := omega) only [t19, t18, t1, t4, t5, hlt', g0, r0_state_allowed, r1_state_allowed, r2_state_allowed, r3_state_allowed, r4_state_allowed, r5_state_allowed, r6_state_allowed, r7_state_allowed, k9_state_allowed, r8_state_allowed, r9_state_allowed, r10_state_allowed, k12_state_allowed, r11_state_allowed, k13_state_allowed, k11_state_allowed, k10_state_allowed, r12_state_allowed, k14_state_allowed, k8_state_allowed, k7_state_allowed, k6_state_allowed, k5_state_allowed, k4_state_allowed, r13_state_allowed, k15_state_allowed, k3_state_allowed, k2_state_allowed, k1_state_allowed, r14_state_allowed, k16_state_allowed, k0_state_allowed, b1_state_allowed, Z0, Z1, Z2, Z3, Z4, Z5, Z6, Z7, Z8, Z9, Z10, resAll, Nat.reduceAdd, Nat.reduceEqDiff, Nat.reduceLeDiff, Nat.reduceMul, ↓reduceIte, reduceCtorEq, Nat.reduceBEq, aoper, Nat.reduceLT, Int.reduceEq, Int.reduceLT, Int.reduceLE]
      refine hQ hc _ _ hk ?_ ?_ ?_ ?_ <;> simp (disch := omega) only [t1, t8, t9, t10, r0_state_allowed, r1_state_allowed, r2_state_allowed, r3_state_allowed, r4_state_allowed, r5_state_allowed, r6_state_allowed, r7_state_allowed, k9_state_allowed, r8_state_allowed, r9_state_allowed, r10_state_allowed, k12_state_allowed, r11_state_allowed, k13_state_allowed, k11_state_allowed, k10_state_allowed, r12_state_allowed, k14_state_allowed, k8_state_allowed, k7_state_allowed, k6_state_allowed, k5_state_allowed, k4_state_allowed, r13_state_allowed, k15_state_allowed, k3_state_allowed, k2_state_allowed, k1_state_allowed, r14_state_allowed, k16_state_allowed, k0_state_allowed, c_state_allowed, Z0, Z1, Z2, Z3, Z4, Z5, Z6, Z7, Z8, Z9, Z10, resAll, Nat.reduceAdd, Nat.reduceEqDiff, Nat.reduceLeDiff, Nat.reduceMul, ↓reduceIte, reduceCtorEq, Nat.reduceBEq, aoper, Nat.reduceLT, Int.reduceEq, Int.reduceLT, Int.reduceLE]
    · obtain ⟨u, e1, e2⟩ := atI_some (l := S.sl) (z := z) (by omega) hz
      obtain ⟨b, rfl, hb⟩ := (h1.keeps hk).at (i := z.toNat) (by omega)
      have hl := fun L => hb.ld0 (Keeps.refl _) e2 L 5 (by omega)
      simp only [List.take_succ_cons, List.take_zero] at hl
      have hz0 : 0 ≤ z := by omega
      have hbu : badUp x u = (!(lessB x u) && (!(decide (u.type = 1)) || decide (x.thing = u.thing))) := rfl
      have hgood : badUp x u = false → aF S x (S.sl.length - (j + 1)) u.up = aF S x S.sl.length x.up := fun h => by
        have : S.sl.length - (j + 1) = k := by omega
        rw [← hv, this]
        simp only [aF, e1, h]; rfl
      have hbad : badUp x u = true → aF S x S.sl.length x.up = false := fun h => by
        rw [← hv]
        simp only [aF, e1, h, if_true]
      have huu := hU _ _ e2
      cases g1 : lessB x u with
      | true =>
        have hc := hgood (by rw [hbu, g1]; rfl)
        simp (disch := omega) only [t19, t18, t1, t4, t5, t8, t9, t10, hlt', hlt, hcast, g0, hz0, hz, hb', hr', hl, cap_Less_ok, g1, sto_0 hlow', hk.grow, r0_state_allowed, r1_state_allowed, r2_state_allowed, r3_state_allowed, r4_state_allowed, r5_state_allowed, r6_state_allowed, r7_state_allowed, k9_state_allowed, r8_state_allowed, r9_state_allowed, r10_state_allowed, k12_state_allowed, r11_state_allowed, k13_state_allowed, k11_state_allowed, k10_state_allowed, r12_state_allowed, k14_state_allowed, k8_state_allowed, k7_state_allowed, k6_state_allowed, k5_state_allowed, k4_state_allowed, r13_state_allowed, k15_state_allowed, k3_state_allowed, k2_state_allowed, k1_state_allowed, r14_state_allowed, k16_state_allowed, k0_state_allowed, b1_state_allowed, Z0, Z1, Z2, Z3, Z4, Z5, Z6, Z7, Z8, Z9, Z10, resAll, Nat.reduceAdd, Nat.reduceEqDiff, Nat.reduceLeDiff, Nat.reduceMul, ↓reduceIte, reduceCtorEq, Nat.reduceBEq, aoper, Nat.reduceLT, Int.reduceEq, Int.reduceLT, Int.reduceLE]
        exact ⟨u.up, rfl, huu, hc⟩
      | false =>
        by_cases g2 : u.type = 1
        · by_cases g3 : x.thing = u.thing
          · have hc := hbad (by rw [hbu, g1]; simp [g3])
            simp (disch := omega) only [t19, t18, t1, t4, t5, t8, t9, t10, hlt', hlt, hcast, g0, hz0, hz, hb', hr', hl, cap_Less_ok, g1, eq_true g2, eq_true g3, sto_0 hlow', r0_state_allowed, r1_state_allowed, r2_state_allowed, r3_state_allowed, r4_state_allowed, r5_state_allowed, r6_state_allowed, r7_state_allowed, k9_state_allowed, r8_state_allowed, r9_state_allowed, r10_state_allowed, k12_state_allowed, r11_state_allowed, k13_state_allowed, k11_state_allowed, k10_state_allowed, r12_state_allowed, k14_state_allowed, k8_state_allowed, k7_state_allowed, k6_state_allowed, k5_state_allowed, k4_state_allowed, r13_state_allowed, k15_state_allowed, k3_state_allowed, k2_state_allowed, k1_state_allowed, r14_state_allowed, k16_state_allowed, k0_state_allowed, b1_state_allowed, Z0, Z1, Z2, Z3, Z4, Z5, Z6, Z7, Z8, Z9, Z10, resAll, Nat.reduceAdd, Nat.reduceEqDiff, Nat.reduceLeDiff, Nat.reduceMul, ↓reduceIte, reduceCtorEq, Nat.reduceBEq, aoper, Nat.reduceLT, Int.reduceEq, Int.reduceLT, Int.reduceLE]
            refine hR hc _ _ (hk.grow _) ?_
            simp (disch := omega) only [r0_state_allowed, r1_state_allowed, r2_state_allowed, r3_state_allowed, r4_state_allowed, r5_state_allowed, r6_state_allowed, r7_state_allowed, k9_state_allowed, r8_state_allowed, r9_state_allowed, r10_state_allowed, k12_state_allowed, r11_state_allowed, k13_state_allowed, k11_state_allowed, k10_state_allowed, r12_state_allowed, k14_state_allowed, k8_state_allowed, k7_state_allowed, k6_state_allowed, k5_state_allowed, k4_state_allowed, r13_state_allowed, k15_state_allowed, k3_state_allowed, k2_state_allowed, k1_state_allowed, r14_state_allowed, k16_state_allowed, k0_state_allowed, c_state_allowed, Z0, Z1, Z2, Z3, Z4, Z5, Z6, Z7, Z8, Z9, Z10, resAll, Nat.reduceAdd, Nat.reduceEqDiff, Nat.reduceLeDiff, Nat.reduceMul, ↓reduceIte, reduceCtorEq, Nat.reduceBEq, aoper, Nat.reduceLT, Int.reduceEq, Int.reduceLT, Int.reduceLE]
          · have hc := hgood (by rw [hbu, g1]; simp [g2, g3])
            simp (disch := omega) only [t19, t18, t1, t4, t5, t8, t9, t10, hlt', hlt, hcast, g0, hz0, hz, hb', hr', hl, cap_Less_ok, g1, eq_true g2, g3, sto_0 hlow', hk.grow, r0_state_allowed, r1_state_allowed, r2_state_allowed, r3_state_allowed, r4_state_allowed, r5_state_allowed, r6_state_allowed, r7_state_allowed, k9_state_allowed, r8_state_allowed, r9_state_allowed, r10_state_allowed, k12_state_allowed, r11_state_allowed, k13_state_allowed, k11_state_allowed, k10_state_allowed, r12_state_allowed, k14_state_allowed, k8_state_allowed, k7_state_allowed, k6_state_allowed, k5_state_allowed, k4_state_allowed, r13_state_allowed, k15_state_allowed, k3_state_allowed, k2_state_allowed, k1_state_allowed, r14_state_allowed, k16_state_allowed, k0_state_allowed, b1_state_allowed, Z0, Z1, Z2, Z3, Z4, Z5, Z6, Z7, Z8, Z9, Z10, resAll, Nat.reduceAdd, Nat.reduceEqDiff, Nat.reduceLeDiff, Nat.reduceMul, ↓reduceIte, reduceCtorEq, Nat.reduceBEq, aoper, Nat.reduceLT, Int.reduceEq, Int.reduceLT, Int.reduceLE]
            exact ⟨u.up, rfl, huu, hc⟩
        · have hc := hbad (by rw [hbu, g1]; simp [g2])
          simp (disch := omega) only [t19, t18, t1, t4, t5, t8, t9, t10, hlt', hlt, hcast, g0, hz0, hz, hb', hr', hl, cap_Less_ok, g1, g2, sto_0 hlow', r0_state_allowed, r1_state_allowed, r2_state_allowed, r3_state_allowed, r4_state_allowed, r5_state_allowed, r6_state_allowed, r7_state_allowed, k9_state_allowed, r8_state_allowed, r9_state_allowed, r10_state_allowed, k12_state_allowed, r11_state_allowed, k13_state_allowed, k11_state_allowed, k10_state_allowed, r12_state_allowed, k14_state_allowed, k8_state_allowed, k7_state_allowed, k6_state_allowed, k5_state_allowed, k4_state_allowed, r13_state_allowed, k15_state_allowed, k3_state_allowed, k2_state_allowed, k1_state_allowed, r14_state_allowed, k16_state_allowed, k0_state_allowed, b1_state_allowed, Z0, Z1, Z2, Z3, Z4, Z5, Z6, Z7, Z8, Z9, Z10, resAll, Nat.reduceAdd, Nat.reduceEqDiff, Nat.reduceLeDiff, Nat.reduceMul, ↓reduceIte, reduceCtorEq, Nat.reduceBEq, aoper, Nat.reduceLT, Int.reduceEq, Int.reduceLT, Int.reduceLE]
          refine hR hc _ _ (hk.grow _) ?_
          simp (disch := omega) only [r0_state_allowed, r1_state_allowed, r2_state_allowed, r3_state_allowed, r4_state_allowed, r5_state_allowed, r6_state_allowed, r7_state_allowed, k9_state_allowed, r8_state_allowed, r9_state_allowed, r10_state_allowed, k12_state_allowed, r11_state_allowed, k13_state_allowed, k11_state_allowed, k10_state_allowed, r12_state_allowed, k14_state_allowed, k8_state_allowed, k7_state_allowed, k6_state_allowed, k5_state_allowed, k4_state_allowed, r13_state_allowed, k15_state_allowed, k3_state_allowed, k2_state_allowed, k1_state_allowed, r14_state_allowed, k16_state_allowed, k0_state_allowed, c_state_allowed, Z0, Z1, Z2, Z3, Z4, Z5, Z6, Z7, Z8, Z9, Z10, resAll, Nat.reduceAdd, Nat.reduceEqDiff, Nat.reduceLeDiff, Nat.reduceMul, ↓reduceIte, reduceCtorEq, Nat.reduceBEq, aoper, Nat.reduceLT, Int.reduceEq, Int.reduceLT, Int.reduceLE]
  · have hlt' : ¬ (j : Int) < (S.sl.length : Int) := by omega
    have hc : aF S x S.sl.length x.up = true := by
      rw [← hv]
      have : S.sl.length - j = 0 := by omega
      rw [this]; rfl
    simp (disch := omega) only [t19, t18, hlt', r0_state_allowed, r1_state_allowed, r2_state_allowed, r3_state_allowed, r4_state_allowed, r5_state_allowed, r6_state_allowed, r7_state_allowed, k9_state_allowed, r8_state_allowed, r9_state_allowed, r10_state_allowed, k12_state_allowed, r11_state_allowed, k13_state_allowed, k11_state_allowed, k10_state_allowed, r12_state_allowed, k14_state_allowed, k8_state_allowed, k7_state_allowed, k6_state_allowed, k5_state_allowed, k4_state_allowed, r13_state_allowed, k15_state_allowed, k3_state_allowed, k2_state_allowed, k1_state_allowed, r14_state_allowed, k16_state_allowed, k0_state_allowed, b1_state_allowed, Z0, Z1, Z2, Z3, Z4, Z5, Z6, Z7, Z8, Z9, Z10, resAll, Nat.reduceAdd, Nat.reduceEqDiff, Nat.reduceLeDiff, Nat.reduceMul, ↓reduceIte, reduceCtorEq, Nat.reduceBEq, aoper, Nat.reduceLT, Int.reduceEq, Int.reduceLT, Int.reduceLE]
    refine hQ hc _ _ hk ?_ ?_ ?_ ?_ <;> simp (disch := omega) only [t1, t8, t9, t10, r0_state_allowed, r1_state_allowed, r2_state_allowed, r3_state_allowed, r4_state_allowed, r5_state_allowed, r6_state_allowed, r7_state_allowed, k9_state_allowed, r8_state_allowed, r9_state_allowed, r10_state_allowed, k12_state_allowed, r11_state_allowed, k13_state_allowed, k11_state_allowed, k10_state_allowed, r12_state_allowed, k14_state_allowed, k8_state_allowed, k7_state_allowed, k6_state_allowed, k5_state_allowed, k4_state_allowed, r13_state_allowed, k15_state_allowed, k3_state_allowed, k2_state_allowed, k1_state_allowed, r14_state_allowed, k16_state_allowed, k0_state_allowed, c_state_allowed, Z0, Z1, Z2, Z3, Z4, Z5, Z6, Z7, Z8, Z9, Z10, resAll, Nat.reduceAdd, Nat.reduceEqDiff, Nat.reduceLeDiff, Nat.reduceMul, ↓reduceIte, reduceCtorEq, Nat.reduceBEq, aoper, Nat.reduceLT, Int.reduceEq, Int.reduceLT, Int.reduceLE]
theorem state_allowed_ok (d : Nat) (σ : AHeap) (S : StD) (a1 : Option Addr) (f1 : Nat) (a2 : Option Addr) (f2 : Nat) (h1 : SlS σ a1 S.sl) (hn : S.sl.length < 1000) (hU : ∀ (i : Nat) (x : SlotD), S.sl[i]? = some x → x.up < S.sl.length) :
    acall (ofProg Tryz.prog) 1000 (d + 6) 63 [stV S a1 f1 a2 f2] σ = some (.bool (allowedB S), σ) := by
  refine acall_flat e_state_allowed (by simp) rfl ?_
  simp (disch := omega) only [r0_state_allowed, r1_state_allowed, r2_state_allowed, r3_state_allowed, r4_state_allowed, r5_state_allowed, r6_state_allowed, r7_state_allowed, r8_state_allowed, r9_state_allowed, r10_state_allowed, r11_state_allowed, r12_state_allowed, r13_state_allowed, r14_state_allowed, c_state_allowed, k0_state_allowed, k1_state_allowed, Z0, Z1, Z2, Z3, Z4, Z5, Z6, Z7, Z8, Z9, Z10, resAll, Nat.reduceAdd, Nat.reduceEqDiff, Nat.reduceLeDiff, Nat.reduceMul, ↓reduceIte, reduceCtorEq, Nat.reduceBEq, aoper, Nat.reduceLT, Int.reduceEq, Int.reduceLT, Int.reduceLE]
  refine ends_loop (fun i t τ => tget t 8 = .slice a1 S.sl.length f1 ∧ tget t 9 = i64 S.sl.length ∧ tget t 10 = i64 i ∧ tget t 1 = here σ.fresh.n 0 ∧ Keeps (σ.fresh.grow [(stL S a1 f1 a2 f2, 5)]) τ ∧ allTo (allowB S) S.sl i = true)
    S.sl.length hn ⟨?_, ?_, ?_, ?_, Keeps.refl _, rfl⟩ ?_
  iterate 4 simp (disch := omega) only [Int.natCast_zero, Int.ofNat_zero, r0_state_allowed, r1_state_allowed, r2_state_allowed, r3_state_allowed, r4_state_allowed, r5_state_allowed, r6_state_allowed, r7_state_allowed, k9_state_allowed, r8_state_allowed, r9_state_allowed, r10_state_allowed, k12_state_allowed, r11_state_allowed, k13_state_allowed, k11_state_allowed, k10_state_allowed, r12_state_allowed, k14_state_allowed, k8_state_allowed, k7_state_allowed, k6_state_allowed, k5_state_allowed, k4_state_allowed, r13_state_allowed, k15_state_allowed, k3_state_allowed, k2_state_allowed, k1_state_allowed, r14_state_allowed, k16_state_allowed, k0_state_allowed, c_state_allowed, Z0, Z1, Z2, Z3, Z4, Z5, Z6, Z7, Z8, Z9, Z10, resAll, Nat.reduceAdd, Nat.reduceEqDiff, Nat.reduceLeDiff, Nat.reduceMul, ↓reduceIte, reduceCtorEq, Nat.reduceBEq, aoper, Nat.reduceLT, Int.reduceEq, Int.reduceLT, Int.reduceLE]
  rintro i t τ hi ⟨t8, t9, t10, t1, hk, hall⟩
  rw [← grow_nil τ]
  have hlow : τ.low ≤ τ.n := by rw [hk.low]; exact Nat.le_trans (low_grow fresh_le _) hk.n
  by_cases hlt : i < S.sl.length
  · have h1τ : SlS τ a1 S.sl := h1.fresh.keeps ((Keeps.self _ _).trans hk)
    obtain ⟨b, rfl, hb⟩ := h1τ.at hlt
    have hx : S.sl[i]? = some S.sl[i] := List.getElem?_eq_getElem hlt
    generalize S.sl[i] = x at hx
    have hl := fun L => hb.ld0 (Keeps.refl _) hx L 5 (by omega)
    simp only [List.take_succ_cons, List.take_zero] at hl
    have hbox := fun M o n => hk.own0 (r := stL S (some ⟨b, 0, none⟩) f1 a2 f2) (e := 5) rfl M o n
    have hlt' : (i : Int) < (S.sl.length : Int) := by omega
    have hcast : ((i + 1 : Nat) : Int) = (i : Int) + 1 := by omega
    have hkn := hk.n
    rw [grow_n] at hkn
    simp (disch := omega) only [t8, t9, t10, t1, hbox, hl, hlt', Int.toNat_natCast, sto_0 hlow, r0_state_allowed, r1_state_allowed, r2_state_allowed, r3_state_allowed, r4_state_allowed, r5_state_allowed, r6_state_allowed, r7_state_allowed, r8_state_allowed, r9_state_allowed, r10_state_allowed, r11_state_allowed, r12_state_allowed, r13_state_allowed, r14_state_allowed, b0_state_allowed, k2_state_allowed, k3_state_allowed, k4_state_allowed, k5_state_allowed, k6_state_allowed, k7_state_allowed, Z0, Z1, Z2, Z3, Z4, Z5, Z6, Z7, Z8, Z9, Z10, resAll, Nat.reduceAdd, Nat.reduceEqDiff, Nat.reduceLeDiff, Nat.reduceMul, ↓reduceIte, reduceCtorEq, Nat.reduceBEq, aoper, Nat.reduceLT, Int.reduceEq, Int.reduceLT, Int.reduceLE]
    refine allowed_inner (bx := σ.fresh.n) (ty := τ.n) (x := x) (f1 := f1) (a2 := a2) (f2 := f2) hn (low_grow hlow _) (fun τ' hk' M o n => (hk.trans hk'.cut).own0 rfl M o n) (fun τ' hk' M o n => hk'.own0 rfl M o n) (h1τ.grow _) hU (hU _ _ hx) ?_ ?_ ?_ ?_ ?_ (fun hc t'' τ' hk' v1 v8 v9 v10 => ?_) (fun hc t'' τ' hk' v2 => ?_)
    iterate 5 simp (disch := omega) only [t1, r0_state_allowed, r1_state_allowed, r2_state_allowed, r3_state_allowed, r4_state_allowed, r5_state_allowed, r6_state_allowed, r7_state_allowed, k9_state_allowed, r8_state_allowed, r9_state_allowed, r10_state_allowed, k12_state_allowed, r11_state_allowed, k13_state_allowed, k11_state_allowed, k10_state_allowed, r12_state_allowed, k14_state_allowed, k8_state_allowed, k7_state_allowed, k6_state_allowed, k5_state_allowed, k4_state_allowed, r13_state_allowed, k15_state_allowed, k3_state_allowed, k2_state_allowed, k1_state_allowed, r14_state_allowed, k16_state_allowed, k0_state_allowed, c_state_allowed, Z0, Z1, Z2, Z3, Z4, Z5, Z6, Z7, Z8, Z9, Z10, resAll, Nat.reduceAdd, Nat.reduceEqDiff, Nat.reduceLeDiff, Nat.reduceMul, ↓reduceIte, reduceCtorEq, Nat.reduceBEq, aoper, Nat.reduceLT, Int.reduceEq, Int.reduceLT, Int.reduceLE]
    · have w8 : tget t'' 8 = .slice (some ⟨b, 0, none⟩) S.sl.length f1 := by rw [v8]; simp (disch := omega) only [t8, r0_state_allowed, r1_state_allowed, r2_state_allowed, r3_state_allowed, r4_state_allowed, r5_state_allowed, r6_state_allowed, r7_state_allowed, k9_state_allowed, r8_state_allowed, r9_state_allowed, r10_state_allowed, k12_state_allowed, r11_state_allowed, k13_state_allowed, k11_state_allowed, k10_state_allowed, r12_state_allowed, k14_state_allowed, k8_state_allowed, k7_state_allowed, k6_state_allowed, k5_state_allowed, k4_state_allowed, r13_state_allowed, k15_state_allowed, k3_state_allowed, k2_state_allowed, k1_state_allowed, r14_state_allowed, k16_state_allowed, k0_state_allowed, c_state_allowed, Z0, Z1, Z2, Z3, Z4, Z5, Z6, Z7, Z8, Z9, Z10, resAll, Nat.reduceAdd, Nat.reduceEqDiff, Nat.reduceLeDiff, Nat.reduceMul, ↓reduceIte, reduceCtorEq, Nat.reduceBEq, aoper, Nat.reduceLT, Int.reduceEq, Int.reduceLT, Int.reduceLE]
      have w9 : tget t'' 9 = i64 S.sl.length := by rw [v9]; simp (disch := omega) only [t9, r0_state_allowed, r1_state_allowed, r2_state_allowed, r3_state_allowed, r4_state_allowed, r5_state_allowed, r6_state_allowed, r7_state_allowed, k9_state_allowed, r8_state_allowed, r9_state_allowed, r10_state_allowed, k12_state_allowed, r11_state_allowed, k13_state_allowed, k11_state_allowed, k10_state_allowed, r12_state_allowed, k14_state_allowed, k8_state_allowed, k7_state_allowed, k6_state_allowed, k5_state_allowed, k4_state_allowed, r13_state_allowed, k15_state_allowed, k3_state_allowed, k2_state_allowed, k1_state_allowed, r14_state_allowed, k16_state_allowed, k0_state_allowed, c_state_allowed, Z0, Z1, Z2, Z3, Z4, Z5, Z6, Z7, Z8, Z9, Z10, resAll, Nat.reduceAdd, Nat.reduceEqDiff, Nat.reduceLeDiff, Nat.reduceMul, ↓reduceIte, reduceCtorEq, Nat.reduceBEq, aoper, Nat.reduceLT, Int.reduceEq, Int.reduceLT, Int.reduceLE]
      have w10 : tget t'' 10 = i64 i := by rw [v10]; simp (disch := omega) only [t10, r0_state_allowed, r1_state_allowed, r2_state_allowed, r3_state_allowed, r4_state_allowed, r5_state_allowed, r6_state_allowed, r7_state_allowed, k9_state_allowed, r8_state_allowed, r9_state_allowed, r10_state_allowed, k12_state_allowed, r11_state_allowed, k13_state_allowed, k11_state_allowed, k10_state_allowed, r12_state_allowed, k14_state_allowed, k8_state_allowed, k7_state_allowed, k6_state_allowed, k5_state_allowed, k4_state_allowed, r13_state_allowed, k15_state_allowed, k3_state_allowed, k2_state_allowed, k1_state_allowed, r14_state_allowed, k16_state_allowed, k0_state_allowed, c_state_allowed, Z0, Z1, Z2, Z3, Z4, Z5, Z6, Z7, Z8, Z9, Z10, resAll, Nat.reduceAdd, Nat.reduceEqDiff, Nat.reduceLeDiff, Nat.reduceMul, ↓reduceIte, reduceCtorEq, Nat.reduceBEq, aoper, Nat.reduceLT, Int.reduceEq, Int.reduceLT, Int.reduceLE]
      simp (disch := omega) only [w8, w9, w10, v1, hlt, hcast, (hk.trans hk'.cut).grow, allTo_next (p := allowB S) hall hx hc, r0_state_allowed, r1_state_allowed, r2_state_allowed, r3_state_allowed, r4_state_allowed, r5_state_allowed, r6_state_allowed, r7_state_allowed, r8_state_allowed, r9_state_allowed, r10_state_allowed, r11_state_allowed, r12_state_allowed, r13_state_allowed, r14_state_allowed, k15_state_allowed, Z0, Z1, Z2, Z3, Z4, Z5, Z6, Z7, Z8, Z9, Z10, resAll, Nat.reduceAdd, Nat.reduceEqDiff, Nat.reduceLeDiff, Nat.reduceMul, ↓reduceIte, reduceCtorEq, Nat.reduceBEq, aoper, Nat.reduceLT, Int.reduceEq, Int.reduceLT, Int.reduceLE]
    · have hf : allowedB S = false := allTo_false hx hc _ hlt
      simp (disch := omega) only [v2, hf, hk'.low, hk.low, r0_state_allowed, r1_state_allowed, r2_state_allowed, r3_state_allowed, r4_state_allowed, r5_state_allowed, r6_state_allowed, r7_state_allowed, r8_state_allowed, r9_state_allowed, r10_state_allowed, r11_state_allowed, r12_state_allowed, r13_state_allowed, r14_state_allowed, Z0, Z1, Z2, Z3, Z4, Z5, Z6, Z7, Z8, Z9, Z10, resAll, Nat.reduceAdd, Nat.reduceEqDiff, Nat.reduceLeDiff, Nat.reduceMul, ↓reduceIte, reduceCtorEq, Nat.reduceBEq, aoper, Nat.reduceLT, Int.reduceEq, Int.reduceLT, Int.reduceLE]
  · have hlt' : ¬ (i : Int) < (S.sl.length : Int) := by omega
    have hii : i = S.sl.length := by omega
    have hf : allowedB S = true := by unfold allowedB; rw [← hii]; exact hii ▸ hall
    simp (disch := omega) only [t8, t9, t10, hlt', hf, hk.low, r0_state_allowed, r1_state_allowed, r2_state_allowed, r3_state_allowed, r4_state_allowed, r5_state_allowed, r6_state_allowed, r7_state_allowed, k9_state_allowed, r8_state_allowed, r9_state_allowed, r10_state_allowed, k12_state_allowed, r11_state_allowed, k13_state_allowed, k11_state_allowed, k10_state_allowed, r12_state_allowed, k14_state_allowed, k8_state_allowed, k7_state_allowed, k6_state_allowed, k5_state_allowed, k4_state_allowed, r13_state_allowed, k15_state_allowed, k3_state_allowed, k2_state_allowed, k1_state_allowed, r14_state_allowed, k16_state_allowed, k0_state_allowed, b0_state_allowed, Z0, Z1, Z2, Z3, Z4, Z5, Z6, Z7, Z8, Z9, Z10, resAll, Nat.reduceAdd, Nat.reduceEqDiff, Nat.reduceLeDiff, Nat.reduceMul, ↓reduceIte, reduceCtorEq, Nat.reduceBEq, aoper, Nat.reduceLT, Int.reduceEq, Int.reduceLT, Int.reduceLE]
end Go.Proofs.YtidmcpkbcphpiaaGreat
namespace Go.Proofs.YtidmcpkbcphpiaaGreat
open Go Go.Hai
set_option maxRecDepth 20000
set_option linter.unusedSimpArgs false
set_option maxHeartbeats 4000000
attribute [local irreducible] Hai.Ends EndsR EndsO EndsD AHeap.grow
def r0_state_Good : List AOper := [(.mk (some 1) none (.box 5 (.tmp 0))), (.mk (some 2) none (.mv (.const (.bool false))))]
def r1_state_Good : List AOper := [(.mk (some 3) none (.fldA 0 (.tmp 1))), (.mk (some 4) none (.load true 3 (.tmp 3))), (.mk (some 5) none (.call 56 [(.tmp 4)])), (.mk (some 6) none (.un .not (.tmp 5))), (.mk (some 7) none (.mv (.tmp 6))), (.mk (some 8) (some (7, false)) (.fldA 3 (.tmp 1))), (.mk (some 9) (some (7, false)) (.load false 1 (.tmp 8))), (.mk (some 10) (some (7, false)) (.lenS (.tmp 9))), (.mk (some 11) (some (7, false)) (.fldA 0 (.tmp 1))), (.mk (some 12) (some (7, false)) (.fldA 1 (.tmp 11))), (.mk (some 13) (some (7, false)) (.load false 1 (.tmp 12))), (.mk (some 14) (some (7, false)) (.bin .neq (.tmp 10) (.tmp 13))), (.mk (some 15) none (.pick (.tmp 7) (.const (.bool true)) (.tmp 14))), (.mk (some 16) none (.mv (.tmp 15))), (.mk (some 17) (some (16, false)) (.fldA 4 (.tmp 1))), (.mk (some 18) (some (16, false)) (.load false 1 (.tmp 17))), (.mk (some 19) (some (16, false)) (.lenS (.tmp 18))), (.mk (some 20) (some (16, false)) (.fldA 0 (.tmp 1))), (.mk (some 21) (some (16, false)) (.fldA 2 (.tmp 20))), (.mk (some 22) (some (16, false)) (.load false 1 (.tmp 21))), (.mk (some 23) (some (16, false)) (.bin .neq (.tmp 19) (.tmp 22))), (.mk (some 24) none (.pick (.tmp 16) (.const (.bool true)) (.tmp 23)))]
def r2_state_Good : List AOper := [(.mk (some 2) none (.mv (.const (.bool false))))]
def k1_state_Good : ACode := (.cond (.tmp 24) (.seq (.reg r2_state_Good) .ret) .skip)
def r3_state_Good : List AOper := [(.mk (some 25) none (.load true 5 (.tmp 1))), (.mk (some 26) none (.call 57 [(.tmp 25)])), (.mk (some 27) none (.mv (.tmp 26))), (.mk (some 28) (some (27, true)) (.load true 5 (.tmp 1))), (.mk (some 29) (some (27, true)) (.call 58 [(.tmp 28)])), (.mk (some 30) none (.pick (.tmp 27) (.tmp 29) (.const (.bool false)))), (.mk (some 31) none (.mv (.tmp 30))), (.mk (some 32) (some (31, true)) (.load true 5 (.tmp 1))), (.mk (some 33) (some (31, true)) (.call 59 [(.tmp 32)])), (.mk (some 34) none (.pick (.tmp 31) (.tmp 33) (.const (.bool false)))), (.mk (some 35) none (.mv (.tmp 34))), (.mk (some 36) (some (35, true)) (.load true 5 (.tmp 1))), (.mk (some 37) (some (35, true)) (.call 60 [(.tmp 36)])), (.mk (some 38) (some (35, true)) (.un .not (.tmp 37))), (.mk (some 39) none (.pick (.tmp 35) (.tmp 38) (.const (.bool false)))), (.mk (some 40) none (.mv (.tmp 39))), (.mk (some 41) (some (40, true)) (.load true 5 (.tmp 1))), (.mk (some 42) (some (40, true)) (.call 62 [(.tmp 41)])), (.mk (some 43) (some (40, true)) (.call 61 [(.tmp 42)])), (.mk (some 44) none (.pick (.tmp 40) (.tmp 43) (.const (.bool false)))), (.mk (some 45) none (.mv (.tmp 44))), (.mk (some 46) (some (45, true)) (.load true 5 (.tmp 1))), (.mk (some 47) (some (45, true)) (.call 63 [(.tmp 46)])), (.mk (some 48) none (.pick (.tmp 45) (.tmp 47) (.const (.bool false)))), (.mk (some 2) none (.mv (.tmp 48)))]
def k2_state_Good : ACode := (.seq (.reg r3_state_Good) .ret)
def k0_state_Good : ACode := (.seq (.seq (.reg r1_state_Good) k1_state_Good) k2_state_Good)
def c_state_Good : ACode := (.seq (.reg r0_state_Good) k0_state_Good)
theorem e_state_Good : ofProg Tryz.prog 14 = some ⟨49, [(.tmp 2)], c_state_Good⟩ := by kernel_rfl
def goodB (S : StD) : Bool := decide (goodGeo S.threads S.slots S.things) && decide ((S.sl.length : Int) = S.slots) && decide ((S.th.length : Int) = S.things) && capsB S && thingsB S && nodesB S && !(ringB S) && forestB (upL S) && allowedB S
theorem all_get {α : Type} {p : α → Bool} {l : List α} (h : l.all p = true) {i : Nat} {x : α} (hx : l[i]? = some x) : p x = true := List.all_eq_true.1 h x (List.mem_of_getElem? hx)
theorem ups_of {S : StD} (hc : capsB S = true) (hf : forestB (upL S) = true) (i : Nat) (x : SlotD) (hx : S.sl[i]? = some x) : x.up < S.sl.length := by
  have hs := all_get hc hx
  unfold forestB at hf
  simp only [Bool.and_eq_true] at hf
  have hu : (upL S)[i]? = some (upOf x) := by simp [upL, hx]
  have hl := upL_length S
  have hi := (List.getElem?_eq_some_iff.1 hx).1
  have hk := allTo_true hu _ (by omega) hf.1.2
  cases g : capNone x with
  | true =>
    unfold slotB at hs
    rw [g] at hs
    simp at hs
    omega
  | false =>
    unfold linkB upOf at hk
    rw [g] at hk
    simp only [Bool.false_eq_true, if_false, Bool.or_eq_true, decide_eq_true_eq] at hk
    rcases hk with hk | hk | hk
    · omega
    · omega
    · by_cases q : 0 ≤ x.up ∧ x.up < (upL S).length
      · omega
      · unfold upB at hk
        rw [atI_none q] at hk
        cases hk
theorem thGood_of {S : StD} (h : thingsB S = true) (i : Nat) (x : ThingD) (hx : S.th[i]? = some x) : thGood x = true := by
  have := allTo_true hx _ (List.getElem?_eq_some_iff.1 hx).1 h
  unfold thingB at this
  simp only [Bool.and_eq_true] at this
  exact this.1.1.1
theorem state_Good_ok (d : Nat) (σ : AHeap) (S : StD) (a1 : Option Addr) (f1 : Nat) (a2 : Option Addr) (f2 : Nat) (hd : Liv σ.n σ) (h1 : SlS σ a1 S.sl) (h2 : SlT σ a2 S.th) :
    acall (ofProg Tryz.prog) 1000 (d + S.th.length + 8) 14 [stV S a1 f1 a2 f2] σ = some (.bool (goodB S), σ) := by
  refine acall_flat e_state_Good (by simp) rfl ?_
  by_cases c1 : goodGeo S.threads S.slots S.things
  · by_cases c2 : (S.sl.length : Int) = S.slots
    · by_cases c3 : (S.th.length : Int) = S.things
      · obtain ⟨b1, b2, b3, b4⟩ := c1
        have hn : S.sl.length < 900 := by omega
        have hm : S.th.length < 900 := by omega
        have hn0 : 0 < S.sl.length := by omega
        have hn' : S.sl.length < 1000 := by omega
        have hm' : S.th.length < 1000 := by omega
        have c1 : goodGeo S.threads S.slots S.things := ⟨b1, b2, b3, b4⟩
        have hcaps := fun L => state_caps_ok (d + S.th.length + 4) (σ.fresh.grow L) S a1 f1 a2 f2 (h1.fresh.grow L) (h2.fresh.grow L) hn'
        cases c4 : capsB S with
        | false =>
          have hf : goodB S = false := by unfold goodB; rw [c4]; simp
          simp (disch := omega) only [geo_Good_ok, c1, eq_true c2, eq_true c3, hcaps, c4, hf, r0_state_Good, r1_state_Good, r2_state_Good, k1_state_Good, r3_state_Good, k2_state_Good, k0_state_Good, c_state_Good, Z0, Z1, Z2, Z3, Z4, Z5, Z6, Z7, Z8, Z9, Z10, resAll, Nat.reduceAdd, Nat.reduceEqDiff, Nat.reduceLeDiff, Nat.reduceMul, ↓reduceIte, reduceCtorEq, Nat.reduceBEq, aoper, Nat.reduceLT, Int.reduceEq, Int.reduceLT, Int.reduceLE]
        | true =>
          have hthings := fun L => state_things_ok (d + S.th.length + 3) (σ.fresh.grow L) S a1 f1 a2 f2 (Liv.gr (σ := σ.fresh) hd _) (h1.fresh.grow L) (h2.fresh.grow L) hn' hm' c1
          cases c5 : thingsB S with
          | false =>
            have hf : goodB S = false := by unfold goodB; rw [c5]; simp
            simp (disch := omega) only [geo_Good_ok, c1, eq_true c2, eq_true c3, hcaps, c4, hthings, c5, hf, r0_state_Good, r1_state_Good, r2_state_Good, k1_state_Good, r3_state_Good, k2_state_Good, k0_state_Good, c_state_Good, Z0, Z1, Z2, Z3, Z4, Z5, Z6, Z7, Z8, Z9, Z10, resAll, Nat.reduceAdd, Nat.reduceEqDiff, Nat.reduceLeDiff, Nat.reduceMul, ↓reduceIte, reduceCtorEq, Nat.reduceBEq, aoper, Nat.reduceLT, Int.reduceEq, Int.reduceLT, Int.reduceLE]
          | true =>
            have hT := thGood_of c5
            have hnodes := fun L => state_nodes_ok (d + S.th.length + 5) (σ.fresh.grow L) S a1 f1 a2 f2 (h1.fresh.grow L) (h2.fresh.grow L) hn0 hn' hm' hT
            cases c6 : nodesB S with
            | false =>
              have hf : goodB S = false := by unfold goodB; rw [c6]; simp
              simp (disch := omega) only [geo_Good_ok, c1, eq_true c2, eq_true c3, hcaps, c4, hthings, c5, hnodes, c6, hf, r0_state_Good, r1_state_Good, r2_state_Good, k1_state_Good, r3_state_Good, k2_state_Good, k0_state_Good, c_state_Good, Z0, Z1, Z2, Z3, Z4, Z5, Z6, Z7, Z8, Z9, Z10, resAll, Nat.reduceAdd, Nat.reduceEqDiff, Nat.reduceLeDiff, Nat.reduceMul, ↓reduceIte, reduceCtorEq, Nat.reduceBEq, aoper, Nat.reduceLT, Int.reduceEq, Int.reduceLT, Int.reduceLE]
            | true =>
              have hring := fun L => state_ring_ok d (σ.fresh.grow L) S a1 f1 a2 f2 hn' hm' (fun i x hx => nodeOk_of (hT i x hx)) (h1.fresh.grow L) (h2.fresh.grow L)
              cases c7 : ringB S with
              | true =>
                have hf : goodB S = false := by unfold goodB; rw [c7]; simp
                simp (disch := omega) only [geo_Good_ok, c1, eq_true c2, eq_true c3, hcaps, c4, hthings, c5, hnodes, c6, hring, c7, hf, r0_state_Good, r1_state_Good, r2_state_Good, k1_state_Good, r3_state_Good, k2_state_Good, k0_state_Good, c_state_Good, Z0, Z1, Z2, Z3, Z4, Z5, Z6, Z7, Z8, Z9, Z10, resAll, Nat.reduceAdd, Nat.reduceEqDiff, Nat.reduceLeDiff, Nat.reduceMul, ↓reduceIte, reduceCtorEq, Nat.reduceBEq, aoper, Nat.reduceLT, Int.reduceEq, Int.reduceLT, Int.reduceLE]
              | false =>
                obtain ⟨a, f, τ, e, hsl, hk⟩ := state_Forest_ok (d + S.th.length + 5) (σ.fresh.grow [(stL S a1 f1 a2 f2, 5)]) S a1 f1 a2 f2 (Liv.gr (σ := σ.fresh) hd _) (low_grow fresh_le _) (h1.fresh.grow _) hn0 hn'
                have hforest := forest_Good_ok (d + S.th.length + 5) τ (upL S) a f hsl (by rw [upL_length]; exact hn)
                have hbox : ∀ o n, τ.loadN σ.fresh.n o n = sliceL (stL S a1 f1 a2 f2) o n := fun o n => by rw [hk.load _ _ (by rw [grow_n]; simp), ld_0]
                cases c8 : forestB (upL S) with
                | false =>
                  have hf : goodB S = false := by unfold goodB; rw [c8]; simp
                  simp (disch := omega) only [geo_Good_ok, c1, eq_true c2, eq_true c3, hcaps, c4, hthings, c5, hnodes, c6, hring, c7, e, hforest, c8, hf, hk.low, r0_state_Good, r1_state_Good, r2_state_Good, k1_state_Good, r3_state_Good, k2_state_Good, k0_state_Good, c_state_Good, Z0, Z1, Z2, Z3, Z4, Z5, Z6, Z7, Z8, Z9, Z10, resAll, Nat.reduceAdd, Nat.reduceEqDiff, Nat.reduceLeDiff, Nat.reduceMul, ↓reduceIte, reduceCtorEq, Nat.reduceBEq, aoper, Nat.reduceLT, Int.reduceEq, Int.reduceLT, Int.reduceLE]
                | true =>
                  have hallow := state_allowed_ok (d + S.th.length + 1) τ S a1 f1 a2 f2 ((h1.fresh.grow _).keeps hk) hn' (ups_of c4 c8)
                  have hf : goodB S = allowedB S := by unfold goodB; rw [c4, c5, c6, c7, c8]; simp [c1, c2, c3]
                  simp (disch := omega) only [geo_Good_ok, c1, eq_true c2, eq_true c3, hcaps, c4, hthings, c5, hnodes, c6, hring, c7, e, hforest, c8, hbox, hallow, hf, hk.low, r0_state_Good, r1_state_Good, r2_state_Good, k1_state_Good, r3_state_Good, k2_state_Good, k0_state_Good, c_state_Good, Z0, Z1, Z2, Z3, Z4, Z5, Z6, Z7, Z8, Z9, Z10, resAll, Nat.reduceAdd, Nat.reduceEqDiff, Nat.reduceLeDiff, Nat.reduceMul, ↓reduceIte, reduceCtorEq, Nat.reduceBEq, aoper, Nat.reduceLT, Int.reduceEq, Int.reduceLT, Int.reduceLE]
      · have hf : goodB S = false := by unfold goodB; simp [c3]
        simp (disch := omega) only [geo_Good_ok, c1, eq_true c2, c3, hf, r0_state_Good, r1_state_Good, r2_state_Good, k1_state_Good, r3_state_Good, k2_state_Good, k0_state_Good, c_state_Good, Z0, Z1, Z2, Z3, Z4, Z5, Z6, Z7, Z8, Z9, Z10, resAll, Nat.reduceAdd, Nat.reduceEqDiff, Nat.reduceLeDiff, Nat.reduceMul, ↓reduceIte, reduceCtorEq, Nat.reduceBEq, aoper, Nat.reduceLT, Int.reduceEq, Int.reduceLT, Int.reduceLE]
    · have hf : goodB S = false := by unfold goodB; simp [c2]
      simp (disch := omega) only [geo_Good_ok, c1, c2, hf, r0_state_Good, r1_state_Good, r2_state_Good, k1_state_Good, r3_state_Good, k2_state_Good, k0_state_Good, c_state_Good, Z0, Z1, Z2, Z3, Z4, Z5, Z6, Z7, Z8, Z9, Z10, resAll, Nat.reduceAdd, Nat.reduceEqDiff, Nat.reduceLeDiff, Nat.reduceMul, ↓reduceIte, reduceCtorEq, Nat.reduceBEq, aoper, Nat.reduceLT, Int.reduceEq, Int.reduceLT, Int.reduceLE]
  · have hf : goodB S = false := by unfold goodB; simp [c1]
    simp (disch := omega) only [geo_Good_ok, c1, hf, r0_state_Good, r1_state_Good, r2_state_Good, k1_state_Good, r3_state_Good, k2_state_Good, k0_state_Good, c_state_Good, Z0, Z1, Z2, Z3, Z4, Z5, Z6, Z7, Z8, Z9, Z10, resAll, Nat.reduceAdd, Nat.reduceEqDiff, Nat.reduceLeDiff, Nat.reduceMul, ↓reduceIte, reduceCtorEq, Nat.reduceBEq, aoper, Nat.reduceLT, Int.reduceEq, Int.reduceLT, Int.reduceLE]
end Go.Proofs.YtidmcpkbcphpiaaGreat
namespace Go.Proofs.YtidmcpkbcphpiaaGreat
open Go Go.Hai
set_option maxRecDepth 20000
set_option linter.unusedSimpArgs false
set_option maxHeartbeats 4000000
attribute [local irreducible] Hai.Ends EndsR EndsO EndsD AHeap.grow
def r0_slices_IndexFunc_int_int : List AOper := [(.mk (some 4) none (.mv (.const (.int .i64 0))))]
def r1_slices_IndexFunc_int_int : List AOper := [(.mk (some 6) none (.mv (.tmp 0))), (.mk (some 7) none (.lenS (.tmp 6))), (.mk (some 8) none (.mv (.const (.int .i64 0))))]
def r2_slices_IndexFunc_int_int : List AOper := [(.mk (some 9) none (.bin .lss (.tmp 8) (.tmp 7)))]
def r3_slices_IndexFunc_int_int : List AOper := [(.mk (some 10) none (.mv (.tmp 8))), (.mk (some 5) none (.mv (.tmp 10)))]
def r4_slices_IndexFunc_int_int : List AOper := [(.mk (some 11) none (.mv (.tmp 1))), (.mk (some 12) none (.mv (.tmp 0))), (.mk (some 13) none (.mv (.tmp 5))), (.mk (some 14) none (.idxA 1 (.tmp 12) (.tmp 13))), (.mk (some 15) none (.load false 1 (.tmp 14))), (.mk (some 16) none (.callV (.tmp 11) [(.tmp 15)]))]
def r5_slices_IndexFunc_int_int : List AOper := [(.mk (some 17) none (.mv (.tmp 5))), (.mk (some 4) none (.mv (.tmp 17)))]
def k5_slices_IndexFunc_int_int : ACode := (.cond (.tmp 16) (.seq (.reg r5_slices_IndexFunc_int_int) .ret) .skip)
def k4_slices_IndexFunc_int_int : ACode := (.seq (.reg r4_slices_IndexFunc_int_int) k5_slices_IndexFunc_int_int)
def r6_slices_IndexFunc_int_int : List AOper := [(.mk (some 18) none (.bin .add (.tmp 8) (.const (.int .i64 1)))), (.mk (some 8) none (.mv (.tmp 18)))]
def k6_slices_IndexFunc_int_int : ACode := (.reg r6_slices_IndexFunc_int_int)
def k3_slices_IndexFunc_int_int : ACode := (.seq (.block 1 (.seq (.reg r3_slices_IndexFunc_int_int) k4_slices_IndexFunc_int_int)) k6_slices_IndexFunc_int_int)
def k2_slices_IndexFunc_int_int : ACode := (.seq (.cond (.tmp 9) .skip (.exit 0)) k3_slices_IndexFunc_int_int)
def b0_slices_IndexFunc_int_int : ACode := (.seq (.reg r2_slices_IndexFunc_int_int) k2_slices_IndexFunc_int_int)
def k1_slices_IndexFunc_int_int : ACode := (.block 0 (.loop b0_slices_IndexFunc_int_int))
def r7_slices_IndexFunc_int_int : List AOper := [(.mk (some 4) none (.mv (.const (.int .i64 (-1)))))]
def k7_slices_IndexFunc_int_int : ACode := (.seq (.reg r7_slices_IndexFunc_int_int) .ret)
def k0_slices_IndexFunc_int_int : ACode := (.seq (.seq (.reg r1_slices_IndexFunc_int_int) k1_slices_IndexFunc_int_int) k7_slices_IndexFunc_int_int)
def c_slices_IndexFunc_int_int : ACode := (.seq (.reg r0_slices_IndexFunc_int_int) k0_slices_IndexFunc_int_int)
theorem e_slices_IndexFunc_int_int : ofProg Tryz.prog 194 = some ⟨19, [(.tmp 4)], c_slices_IndexFunc_int_int⟩ := by kernel_rfl
def r0_slices_ContainsFunc_int_int : List AOper := [(.mk (some 4) none (.mv (.const (.bool false))))]
def r1_slices_ContainsFunc_int_int : List AOper := [(.mk (some 5) none (.mv (.tmp 0))), (.mk (some 6) none (.mv (.tmp 1))), (.mk (some 7) none (.call 194 [(.tmp 5), (.tmp 6)])), (.mk (some 8) none (.bin .geq (.tmp 7) (.const (.int .i64 0)))), (.mk (some 4) none (.mv (.tmp 8)))]
def k0_slices_ContainsFunc_int_int : ACode := (.seq (.reg r1_slices_ContainsFunc_int_int) .ret)
def c_slices_ContainsFunc_int_int : ACode := (.seq (.reg r0_slices_ContainsFunc_int_int) k0_slices_ContainsFunc_int_int)
theorem e_slices_ContainsFunc_int_int : ofProg Tryz.prog 157 = some ⟨9, [(.tmp 4)], c_slices_ContainsFunc_int_int⟩ := by kernel_rfl
def r0_path_Good : List AOper := [(.mk (some 1) none (.box 1 (.tmp 0))), (.mk (some 2) none (.mv (.const (.bool false))))]
def r1_path_Good : List AOper := [(.mk (some 3) none (.mv (.func 156)))]
def r2_path_Good : List AOper := [(.mk (some 4) none (.fldA 0 (.tmp 1))), (.mk (some 5) none (.load false 1 (.tmp 4))), (.mk (some 6) none (.lenS (.tmp 5))), (.mk (some 7) none (.bin .geq (.tmp 6) (.const (.int .i64 1)))), (.mk (some 8) none (.mv (.tmp 7))), (.mk (some 9) (some (8, true)) (.fldA 0 (.tmp 1))), (.mk (some 10) (some (8, true)) (.load false 1 (.tmp 9))), (.mk (some 11) (some (8, true)) (.lenS (.tmp 10))), (.mk (some 12) (some (8, true)) (.bin .leq (.tmp 11) (.const (.int .i64 3)))), (.mk (some 13) none (.pick (.tmp 8) (.tmp 12) (.const (.bool false)))), (.mk (some 14) none (.mv (.tmp 13))), (.mk (some 15) (some (14, true)) (.fldA 0 (.tmp 1))), (.mk (some 16) (some (14, true)) (.load false 1 (.tmp 15))), (.mk (some 17) (some (14, true)) (.mv (.tmp 3))), (.mk (some 18) (some (14, true)) (.call 157 [(.tmp 16), (.tmp 17)])), (.mk (some 19) (some (14, true)) (.un .not (.tmp 18))), (.mk (some 20) none (.pick (.tmp 14) (.tmp 19) (.const (.bool false)))), (.mk (some 2) none (.mv (.tmp 20)))]
def k1_path_Good : ACode := (.seq (.reg r2_path_Good) .ret)
def k0_path_Good : ACode := (.seq (.reg r1_path_Good) k1_path_Good)
def c_path_Good : ACode := (.seq (.reg r0_path_Good) k0_path_Good)
theorem e_path_Good : ofProg Tryz.prog 87 = some ⟨21, [(.tmp 2)], c_path_Good⟩ := by kernel_rfl
def r0_find_through : List AOper := [(.mk (some 2) none (.box 5 (.tmp 0))), (.mk (some 4) none (.alloc [(.int .i64 0), (.int .i64 0), (.int .i64 0), (.int .i64 0), (.int .i64 0), (.int .i64 0), (.int .i64 0), (.bool false), (.int .u64 0), (.int .u64 0), (.int .u64 0), (.int .u64 0), (.int .u64 0)] 13)), (.mk (some 5) none (.mv (.const (.bool false))))]
def r1_find_through : List AOper := [(.mk (some 7) none (.fldA 3 (.tmp 2))), (.mk (some 8) none (.load false 1 (.tmp 7))), (.mk (some 9) none (.mv (.tmp 1))), (.mk (some 10) none (.idxA 5 (.tmp 8) (.tmp 9))), (.mk (some 11) none (.fldA 0 (.tmp 10))), (.mk (some 12) none (.load true 4 (.tmp 11))), (.mk (some 6) none (.alloc [(.int .i64 0), (.int .i64 0), (.int .i64 0), (.int .i64 0)] 4)), (.mk none none (.store 4 (.tmp 6) (.tmp 12)))]
def r2_find_through : List AOper := [(.mk (some 13) none (.fldA 0 (.tmp 6))), (.mk (some 14) none (.load false 1 (.tmp 13))), (.mk (some 15) none (.bin .neq (.tmp 14) (.const (.int .i64 2)))), (.mk (some 16) none (.mv (.tmp 15))), (.mk (some 17) (some (16, false)) (.fldA 2 (.tmp 6))), (.mk (some 18) (some (16, false)) (.load false 1 (.tmp 17))), (.mk (some 19) (some (16, false)) (.call 66 [(.const (.int .i64 1)), (.tmp 18)])), (.mk (some 20) (some (16, false)) (.un .not (.tmp 19))), (.mk (some 21) none (.pick (.tmp 16) (.const (.bool true)) (.tmp 20)))]
def r3_find_through : List AOper := [(.mk (some 22) none (.build [(.int .i64 0), (.int .i64 0), (.int .i64 0), (.int .i64 0), (.int .i64 0), (.int .i64 0), (.int .i64 0), (.bool false), (.int .u64 0), (.int .u64 0), (.int .u64 0), (.int .u64 0), (.int .u64 0)] [])), (.mk none none (.store 13 (.tmp 4) (.tmp 22))), (.mk (some 5) none (.mv (.const (.bool false))))]
def k2_find_through : ACode := (.cond (.tmp 21) (.seq (.reg r3_find_through) .ret) .skip)
def r4_find_through : List AOper := [(.mk (some 23) none (.fldA 4 (.tmp 2))), (.mk (some 24) none (.load false 1 (.tmp 23))), (.mk (some 25) none (.fldA 1 (.tmp 6))), (.mk (some 26) none (.load false 1 (.tmp 25))), (.mk (some 27) none (.idxA 13 (.tmp 24) (.tmp 26))), (.mk (some 28) none (.load true 13 (.tmp 27))), (.mk none none (.store 13 (.tmp 4) (.tmp 28))), (.mk (some 5) none (.mv (.const (.bool true))))]
def k3_find_through : ACode := (.seq (.reg r4_find_through) .ret)
def k1_find_through : ACode := (.seq (.seq (.reg r2_find_through) k2_find_through) k3_find_through)
def k0_find_through : ACode := (.seq (.reg r1_find_through) k1_find_through)
def c_find_through : ACode := (.seq (.reg r0_find_through) k0_find_through)
theorem e_find_through : ofProg Tryz.prog 88 = some ⟨29, [(.cell 4 true 13), (.tmp 5)], c_find_through⟩ := by kernel_rfl
def oddB (n : Int) : Bool := decide (n < 0) || decide (15 < n)
theorem IndexFunc_odd_ok (d : Nat) (σ : AHeap) (l : List Int) (a : Option Addr) (f : Nat) (hl : l.length < 1000) (h1 : SlI σ a l) :
    acall (ofProg Tryz.prog) 1000 (d + 2) 194 [.slice a l.length f, .func (.func 156) ([] : List Value).toArray ([] : List Value).toArray] σ = some (i64 (firstI oddB l 0), σ) := by
  refine acall_flat e_slices_IndexFunc_int_int (by simp) rfl ?_
  simp (disch := omega) only [r0_slices_IndexFunc_int_int, r1_slices_IndexFunc_int_int, r2_slices_IndexFunc_int_int, r3_slices_IndexFunc_int_int, r4_slices_IndexFunc_int_int, r5_slices_IndexFunc_int_int, k5_slices_IndexFunc_int_int, k4_slices_IndexFunc_int_int, r6_slices_IndexFunc_int_int, k6_slices_IndexFunc_int_int, k3_slices_IndexFunc_int_int, k2_slices_IndexFunc_int_int, k1_slices_IndexFunc_int_int, r7_slices_IndexFunc_int_int, k7_slices_IndexFunc_int_int, k0_slices_IndexFunc_int_int, c_slices_IndexFunc_int_int, Z0, Z1, Z2, Z3, Z4, Z5, Z6, Z7, Z8, Z9, Z10, resAll, Nat.reduceAdd, Nat.reduceEqDiff, Nat.reduceLeDiff, Nat.reduceMul, ↓reduceIte, reduceCtorEq, Nat.reduceBEq, aoper, Nat.reduceLT, Int.reduceEq, Int.reduceLT, Int.reduceLE]
  refine ends_loop (fun i t τ => tget t 6 = .slice a l.length f ∧ tget t 0 = .slice a l.length f ∧ tget t 1 = .func (.func 156) ([] : List Value).toArray ([] : List Value).toArray ∧ tget t 7 = i64 l.length ∧ tget t 8 = i64 i ∧ Keeps σ.fresh τ ∧ ∀ (j : Nat) (y : Int), j < i → l[j]? = some y → oddB y = false)
    l.length hl ⟨?_, ?_, ?_, ?_, ?_, Keeps.self _ _, fun j y h => by omega⟩ ?_
  iterate 5 simp (disch := omega) only [Int.natCast_zero, Int.ofNat_zero, r0_slices_IndexFunc_int_int, r1_slices_IndexFunc_int_int, r2_slices_IndexFunc_int_int, r3_slices_IndexFunc_int_int, r4_slices_IndexFunc_int_int, r5_slices_IndexFunc_int_int, k5_slices_IndexFunc_int_int, k4_slices_IndexFunc_int_int, r6_slices_IndexFunc_int_int, k6_slices_IndexFunc_int_int, k3_slices_IndexFunc_int_int, k2_slices_IndexFunc_int_int, k1_slices_IndexFunc_int_int, r7_slices_IndexFunc_int_int, k7_slices_IndexFunc_int_int, k0_slices_IndexFunc_int_int, c_slices_IndexFunc_int_int, Z0, Z1, Z2, Z3, Z4, Z5, Z6, Z7, Z8, Z9, Z10, resAll, Nat.reduceAdd, Nat.reduceEqDiff, Nat.reduceLeDiff, Nat.reduceMul, ↓reduceIte, reduceCtorEq, Nat.reduceBEq, aoper, Nat.reduceLT, Int.reduceEq, Int.reduceLT, Int.reduceLE]
  rintro i t τ hi ⟨t6, t0, t1, t7, t8, hk, hall⟩
  rw [← grow_nil τ]
  by_cases hlt : i < l.length
  · obtain ⟨b, rfl, hb⟩ := h1.fresh.at hlt
    have hx : l[i]? = some l[i] := List.getElem?_eq_getElem hlt
    generalize l[i] = x at hx
    have hld := fun L => hb.ld0 hk hx L 1 (by omega)
    simp only [List.take_succ_cons, List.take_zero, Nat.mul_one] at hld
    have hlt' : (i : Int) < (l.length : Int) := by omega
    have hcast : ((i + 1 : Nat) : Int) = (i : Int) + 1 := by omega
    have hodd : (decide (x < 0) || decide (15 < x)) = oddB x := rfl
    cases g : oddB x with
    | true =>
      have hr : firstI oddB l 0 = i := by rw [firstI_at (p := oddB) hall hx g]; simp
      simp (disch := omega) only [t6, t0, t1, t7, t8, hld, hlt', Int.toNat_natCast, Nat.mul_one, path_Good_1_ok, hodd, g, hr, hk.low, r0_slices_IndexFunc_int_int, r1_slices_IndexFunc_int_int, r2_slices_IndexFunc_int_int, r3_slices_IndexFunc_int_int, r4_slices_IndexFunc_int_int, r5_slices_IndexFunc_int_int, k5_slices_IndexFunc_int_int, k4_slices_IndexFunc_int_int, r6_slices_IndexFunc_int_int, k6_slices_IndexFunc_int_int, k3_slices_IndexFunc_int_int, k2_slices_IndexFunc_int_int, k1_slices_IndexFunc_int_int, r7_slices_IndexFunc_int_int, k7_slices_IndexFunc_int_int, k0_slices_IndexFunc_int_int, b0_slices_IndexFunc_int_int, Z0, Z1, Z2, Z3, Z4, Z5, Z6, Z7, Z8, Z9, Z10, resAll, Nat.reduceAdd, Nat.reduceEqDiff, Nat.reduceLeDiff, Nat.reduceMul, ↓reduceIte, reduceCtorEq, Nat.reduceBEq, aoper, Nat.reduceLT, Int.reduceEq, Int.reduceLT, Int.reduceLE]
    | false =>
      simp (disch := omega) only [t6, t0, t1, t7, t8, hld, hlt', hlt, hcast, Int.toNat_natCast, Nat.mul_one, path_Good_1_ok, hodd, g, hk.grow, r0_slices_IndexFunc_int_int, r1_slices_IndexFunc_int_int, r2_slices_IndexFunc_int_int, r3_slices_IndexFunc_int_int, r4_slices_IndexFunc_int_int, r5_slices_IndexFunc_int_int, k5_slices_IndexFunc_int_int, k4_slices_IndexFunc_int_int, r6_slices_IndexFunc_int_int, k6_slices_IndexFunc_int_int, k3_slices_IndexFunc_int_int, k2_slices_IndexFunc_int_int, k1_slices_IndexFunc_int_int, r7_slices_IndexFunc_int_int, k7_slices_IndexFunc_int_int, k0_slices_IndexFunc_int_int, b0_slices_IndexFunc_int_int, Z0, Z1, Z2, Z3, Z4, Z5, Z6, Z7, Z8, Z9, Z10, resAll, Nat.reduceAdd, Nat.reduceEqDiff, Nat.reduceLeDiff, Nat.reduceMul, ↓reduceIte, reduceCtorEq, Nat.reduceBEq, aoper, Nat.reduceLT, Int.reduceEq, Int.reduceLT, Int.reduceLE]
      intro j y hj hy
      by_cases hji : j < i
      · exact hall j y hji hy
      · have : j = i := by omega
        subst this
        rw [hx] at hy; cases hy; exact g
  · have hlt' : ¬ (i : Int) < (l.length : Int) := by omega
    have hr : firstI oddB l 0 = -1 := firstI_none fun j y hy => hall j y (by have := (List.getElem?_eq_some_iff.1 hy).1; omega) hy
    simp (disch := omega) only [t6, t0, t1, t7, t8, hlt', hr, hk.low, r0_slices_IndexFunc_int_int, r1_slices_IndexFunc_int_int, r2_slices_IndexFunc_int_int, r3_slices_IndexFunc_int_int, r4_slices_IndexFunc_int_int, r5_slices_IndexFunc_int_int, k5_slices_IndexFunc_int_int, k4_slices_IndexFunc_int_int, r6_slices_IndexFunc_int_int, k6_slices_IndexFunc_int_int, k3_slices_IndexFunc_int_int, k2_slices_IndexFunc_int_int, k1_slices_IndexFunc_int_int, r7_slices_IndexFunc_int_int, k7_slices_IndexFunc_int_int, k0_slices_IndexFunc_int_int, b0_slices_IndexFunc_int_int, Z0, Z1, Z2, Z3, Z4, Z5, Z6, Z7, Z8, Z9, Z10, resAll, Nat.reduceAdd, Nat.reduceEqDiff, Nat.reduceLeDiff, Nat.reduceMul, ↓reduceIte, reduceCtorEq, Nat.reduceBEq, aoper, Nat.reduceLT, Int.reduceEq, Int.reduceLT, Int.reduceLE]
theorem ContainsFunc_odd_ok (d : Nat) (σ : AHeap) (l : List Int) (a : Option Addr) (f : Nat) (hl : l.length < 1000) (h1 : SlI σ a l) :
    acall (ofProg Tryz.prog) 1000 (d + 3) 157 [.slice a l.length f, .func (.func 156) ([] : List Value).toArray ([] : List Value).toArray] σ = some (.bool (decide (0 ≤ firstI oddB l 0)), σ) := by
  refine acall_flat e_slices_ContainsFunc_int_int (by simp) rfl ?_
  have h := IndexFunc_odd_ok d (σ.fresh.grow []) l a f hl (h1.fresh.grow _)
  simp (disch := omega) only [h, r0_slices_ContainsFunc_int_int, r1_slices_ContainsFunc_int_int, k0_slices_ContainsFunc_int_int, c_slices_ContainsFunc_int_int, Z0, Z1, Z2, Z3, Z4, Z5, Z6, Z7, Z8, Z9, Z10, resAll, Nat.reduceAdd, Nat.reduceEqDiff, Nat.reduceLeDiff, Nat.reduceMul, ↓reduceIte, reduceCtorEq, Nat.reduceBEq, aoper, Nat.reduceLT, Int.reduceEq, Int.reduceLT, Int.reduceLE]
def pathB (l : List Int) : Bool := decide (1 ≤ l.length) && decide (l.length ≤ 3) && !(decide (0 ≤ firstI oddB l 0))
theorem path_Good_ok (d : Nat) (σ : AHeap) (l : List Int) (a : Option Addr) (f : Nat) (h1 : SlI σ a l) :
    acall (ofProg Tryz.prog) 1000 (d + 4) 87 [.agg [.slice a l.length f].toArray] σ = some (.bool (pathB l), σ) := by
  refine acall_flat e_path_Good (by simp) rfl ?_
  by_cases c1 : 1 ≤ l.length
  · have c1' : (1 : Int) ≤ l.length := by omega
    by_cases c2 : l.length ≤ 3
    · have c2' : (l.length : Int) ≤ 3 := by omega
      have h := fun L => ContainsFunc_odd_ok d (σ.fresh.grow L) l a f (by omega) (h1.fresh.grow L)
      have hp : pathB l = !(decide (0 ≤ firstI oddB l 0)) := by unfold pathB; simp [c1, c2]
      simp (disch := omega) only [c1', c2', h, hp, r0_path_Good, r1_path_Good, r2_path_Good, k1_path_Good, k0_path_Good, c_path_Good, Z0, Z1, Z2, Z3, Z4, Z5, Z6, Z7, Z8, Z9, Z10, resAll, Nat.reduceAdd, Nat.reduceEqDiff, Nat.reduceLeDiff, Nat.reduceMul, ↓reduceIte, reduceCtorEq, Nat.reduceBEq, aoper, Nat.reduceLT, Int.reduceEq, Int.reduceLT, Int.reduceLE]
    · have c2' : ¬ (l.length : Int) ≤ 3 := by omega
      have hp : pathB l = false := by unfold pathB; simp [c2]
      simp (disch := omega) only [c1', c2', hp, r0_path_Good, r1_path_Good, r2_path_Good, k1_path_Good, k0_path_Good, c_path_Good, Z0, Z1, Z2, Z3, Z4, Z5, Z6, Z7, Z8, Z9, Z10, resAll, Nat.reduceAdd, Nat.reduceEqDiff, Nat.reduceLeDiff, Nat.reduceMul, ↓reduceIte, reduceCtorEq, Nat.reduceBEq, aoper, Nat.reduceLT, Int.reduceEq, Int.reduceLT, Int.reduceLE]
  · have c1' : ¬ (1 : Int) ≤ l.length := by omega
    have hp : pathB l = false := by unfold pathB; simp [c1]
    simp (disch := omega) only [c1', hp, r0_path_Good, r1_path_Good, r2_path_Good, k1_path_Good, k0_path_Good, c_path_Good, Z0, Z1, Z2, Z3, Z4, Z5, Z6, Z7, Z8, Z9, Z10, resAll, Nat.reduceAdd, Nat.reduceEqDiff, Nat.reduceLeDiff, Nat.reduceMul, ↓reduceIte, reduceCtorEq, Nat.reduceBEq, aoper, Nat.reduceLT, Int.reduceEq, Int.reduceLT, Int.reduceLE]
def thrT (S : StD) (x : SlotD) : ThingD := if x.type = 2 ∧ withinB 1 x.rights = true then (match atI S.th x.thing with | some t => t | none => zeroT) else zeroT
def thrB (x : SlotD) : Bool := decide (x.type = 2) && withinB 1 x.rights
theorem find_through_ok (d : Nat) (σ : AHeap) (S : StD) (a1 : Option Addr) (f1 : Nat) (a2 : Option Addr) (f2 : Nat) (z : Int) (x : SlotD) (h1 : SlS σ a1 S.sl) (h2 : SlT σ a2 S.th) (hz : atI S.sl z = some x)
    (hx : x.type = 2 → 0 ≤ x.thing ∧ x.thing < S.th.length) :
    acall (ofProg Tryz.prog) 1000 (d + 5) 88 [stV S a1 f1 a2 f2, .int .i64 z] σ = some (.tuple [thingV (thrT S x), .bool (thrB x)].toArray, σ) := by
  refine acall_flat e_find_through (by simp) rfl ?_
  by_cases q : 0 ≤ z ∧ z < S.sl.length
  · obtain ⟨x', e1, e2⟩ := atI_some q.1 q.2
    rw [hz] at e1; cases e1
    obtain ⟨b, rfl, hb⟩ := h1.fresh.at (i := z.toNat) (by omega)
    have hl := fun L => hb.ld0 (Keeps.self _ L) e2 [] 4 (by omega)
    have hl : ∀ L, (σ.fresh.grow L).loadN b (z.toNat * 5) 4 = some (capL x) := fun L => by have := hl L; rw [grow_nil] at this; exact this
    by_cases g1 : x.type = 2
    · cases g2 : withinB 1 x.rights with
      | true =>
        obtain ⟨t, t1, t2⟩ := atI_some (l := S.th) (z := x.thing) (hx g1).1 (hx g1).2
        obtain ⟨b2, rfl, hb2⟩ := h2.fresh.at (i := x.thing.toNat) (by have := hx g1; omega)
        have hl2 : ∀ L, (σ.fresh.grow L).loadN b2 (x.thing.toNat * 13) 13 = some (thingL t) := fun L => by
          rw [load_old _ _ _ _ hb2.1]; exact hb2.2 _ _ t2 0 13 (by omega)
        have ht : thrT S x = t := by unfold thrT; rw [if_pos ⟨g1, g2⟩, t1]
        have hb' : thrB x = true := by unfold thrB; simp [g1, g2]
        have hx' := hx g1
        simp (disch := omega) only [q.1, q.2, hl, right_Within_ok, eq_true g1, g2, hx'.1, hx'.2, hl2, ht, hb', r0_find_through, r1_find_through, r2_find_through, r3_find_through, k2_find_through, r4_find_through, k3_find_through, k1_find_through, k0_find_through, c_find_through, Z0, Z1, Z2, Z3, Z4, Z5, Z6, Z7, Z8, Z9, Z10, resAll, Nat.reduceAdd, Nat.reduceEqDiff, Nat.reduceLeDiff, Nat.reduceMul, ↓reduceIte, reduceCtorEq, Nat.reduceBEq, aoper, Nat.reduceLT, Int.reduceEq, Int.reduceLT, Int.reduceLE]
      | false =>
        have ht : thrT S x = zeroT := by unfold thrT; rw [if_neg (by simp [g2])]
        have hb' : thrB x = false := by unfold thrB; simp [g2]
        simp (disch := omega) only [q.1, q.2, hl, right_Within_ok, eq_true g1, g2, ht, hb', zeroT, r0_find_through, r1_find_through, r2_find_through, r3_find_through, k2_find_through, r4_find_through, k3_find_through, k1_find_through, k0_find_through, c_find_through, Z0, Z1, Z2, Z3, Z4, Z5, Z6, Z7, Z8, Z9, Z10, resAll, Nat.reduceAdd, Nat.reduceEqDiff, Nat.reduceLeDiff, Nat.reduceMul, ↓reduceIte, reduceCtorEq, Nat.reduceBEq, aoper, Nat.reduceLT, Int.reduceEq, Int.reduceLT, Int.reduceLE]
    · have ht : thrT S x = zeroT := by unfold thrT; rw [if_neg (by simp [g1])]
      have hb' : thrB x = false := by unfold thrB; simp [g1]
      simp (disch := omega) only [q.1, q.2, hl, g1, ht, hb', zeroT, r0_find_through, r1_find_through, r2_find_through, r3_find_through, k2_find_through, r4_find_through, k3_find_through, k1_find_through, k0_find_through, c_find_through, Z0, Z1, Z2, Z3, Z4, Z5, Z6, Z7, Z8, Z9, Z10, resAll, Nat.reduceAdd, Nat.reduceEqDiff, Nat.reduceLeDiff, Nat.reduceMul, ↓reduceIte, reduceCtorEq, Nat.reduceBEq, aoper, Nat.reduceLT, Int.reduceEq, Int.reduceLT, Int.reduceLE]
  · rw [atI_none q] at hz; cases hz
end Go.Proofs.YtidmcpkbcphpiaaGreat
namespace Go.Proofs.YtidmcpkbcphpiaaGreat
open Go Go.Hai
set_option maxRecDepth 20000
set_option linter.unusedSimpArgs false
set_option maxHeartbeats 8000000
attribute [local irreducible] Hai.Ends EndsR EndsO EndsD AHeap.grow
def r0_find_Slot : List AOper := [(.mk (some 3) none (.box 5 (.tmp 0))), (.mk (some 5) none (.box 1 (.tmp 2))), (.mk (some 6) none (.mv (.const (.int .i64 0)))), (.mk (some 7) none (.mv (.const (.int .i64 0))))]
def r1_find_Slot : List AOper := [(.mk (some 13) none (.load true 5 (.tmp 3))), (.mk (some 14) none (.call 14 [(.tmp 13)])), (.mk (some 15) none (.un .not (.tmp 14))), (.mk (some 16) none (.mv (.tmp 15))), (.mk (some 17) (some (16, false)) (.mv (.tmp 1))), (.mk (some 18) (some (16, false)) (.fldA 0 (.tmp 3))), (.mk (some 19) (some (16, false)) (.fldA 0 (.tmp 18))), (.mk (some 20) (some (16, false)) (.load false 1 (.tmp 19))), (.mk (some 21) (some (16, false)) (.bin .sub (.tmp 20) (.const (.int .i64 1)))), (.mk (some 22) (some (16, false)) (.call 86 [(.tmp 17), (.const (.int .i64 0)), (.tmp 21)])), (.mk (some 23) (some (16, false)) (.un .not (.tmp 22))), (.mk (some 24) none (.pick (.tmp 16) (.const (.bool true)) (.tmp 23))), (.mk (some 25) none (.mv (.tmp 24))), (.mk (some 26) (some (25, false)) (.load true 1 (.tmp 5))), (.mk (some 27) (some (25, false)) (.call 87 [(.tmp 26)])), (.mk (some 28) (some (25, false)) (.un .not (.tmp 27))), (.mk (some 29) none (.pick (.tmp 25) (.const (.bool true)) (.tmp 28)))]
def r2_find_Slot : List AOper := [(.mk (some 6) none (.mv (.const (.int .i64 0)))), (.mk (some 7) none (.mv (.const (.int .i64 1))))]
def k1_find_Slot : ACode := (.cond (.tmp 29) (.seq (.reg r2_find_Slot) .ret) .skip)
def r3_find_Slot : List AOper := [(.mk (some 30) none (.fldA 4 (.tmp 3))), (.mk (some 31) none (.load false 1 (.tmp 30))), (.mk (some 32) none (.mv (.tmp 1))), (.mk (some 33) none (.bin .add (.const (.int .i64 2)) (.tmp 32))), (.mk (some 34) none (.idxA 13 (.tmp 31) (.tmp 33))), (.mk (some 35) none (.load true 13 (.tmp 34))), (.mk (some 8) none (.alloc [(.int .i64 0), (.int .i64 0), (.int .i64 0), (.int .i64 0), (.int .i64 0), (.int .i64 0), (.int .i64 0), (.bool false), (.int .u64 0), (.int .u64 0), (.int .u64 0), (.int .u64 0), (.int .u64 0)] 13)), (.mk none none (.store 13 (.tmp 8) (.tmp 35))), (.mk (some 9) none (.mv (.const (.bool true))))]
def r4_find_Slot : List AOper := [(.mk (some 10) none (.mv (.const (.int .i64 0))))]
def r5_find_Slot : List AOper := [(.mk (some 36) none (.fldA 0 (.tmp 5))), (.mk (some 37) none (.load false 1 (.tmp 36))), (.mk (some 38) none (.lenS (.tmp 37))), (.mk (some 39) none (.mv (.const (.int .i64 0))))]
def r6_find_Slot : List AOper := [(.mk (some 40) none (.bin .lss (.tmp 39) (.tmp 38)))]
def r7_find_Slot : List AOper := [(.mk (some 41) none (.mv (.tmp 39))), (.mk (some 42) none (.idxA 1 (.tmp 37) (.tmp 39))), (.mk (some 43) none (.load false 1 (.tmp 42))), (.mk (some 11) none (.mv (.tmp 41))), (.mk (some 12) none (.mv (.tmp 43)))]
def r8_find_Slot : List AOper := [(.mk (some 44) none (.mv (.tmp 11))), (.mk (some 45) none (.bin .gtr (.tmp 44) (.const (.int .i64 0))))]
def r9_find_Slot : List AOper := [(.mk (some 47) none (.load true 5 (.tmp 3))), (.mk (some 48) none (.mv (.tmp 10))), (.mk (some 49) none (.call 88 [(.tmp 47), (.tmp 48)])), (.mk (some 46) none (.mv (.tmp 49))), (.mk (some 50) none (.ext (.tmp 46) 0)), (.mk (some 51) none (.ext (.tmp 46) 1)), (.mk none none (.store 13 (.tmp 8) (.tmp 50))), (.mk (some 9) none (.mv (.tmp 51)))]
def k9_find_Slot : ACode := (.cond (.tmp 45) (.reg r9_find_Slot) .skip)
def r10_find_Slot : List AOper := [(.mk (some 52) none (.mv (.tmp 9))), (.mk (some 53) none (.un .not (.tmp 52))), (.mk (some 54) none (.mv (.tmp 53))), (.mk (some 55) (some (54, false)) (.load true 13 (.tmp 8))), (.mk (some 56) (some (54, false)) (.mv (.tmp 12))), (.mk (some 57) (some (54, false)) (.call 89 [(.tmp 55), (.tmp 56)])), (.mk (some 58) (some (54, false)) (.bin .lss (.tmp 57) (.const (.int .i64 0)))), (.mk (some 59) none (.pick (.tmp 54) (.const (.bool true)) (.tmp 58)))]
def r11_find_Slot : List AOper := [(.mk (some 6) none (.mv (.const (.int .i64 0)))), (.mk (some 7) none (.mv (.const (.int .i64 3))))]
def k11_find_Slot : ACode := (.cond (.tmp 59) (.seq (.reg r11_find_Slot) .ret) .skip)
def r12_find_Slot : List AOper := [(.mk (some 60) none (.load true 13 (.tmp 8))), (.mk (some 61) none (.mv (.tmp 12))), (.mk (some 62) none (.call 89 [(.tmp 60), (.tmp 61)])), (.mk (some 10) none (.mv (.tmp 62)))]
def k12_find_Slot : ACode := (.reg r12_find_Slot)
def k10_find_Slot : ACode := (.seq (.seq (.reg r10_find_Slot) k11_find_Slot) k12_find_Slot)
def k8_find_Slot : ACode := (.seq (.seq (.reg r8_find_Slot) k9_find_Slot) k10_find_Slot)
def r13_find_Slot : List AOper := [(.mk (some 63) none (.bin .add (.tmp 39) (.const (.int .i64 1)))), (.mk (some 39) none (.mv (.tmp 63)))]
def k13_find_Slot : ACode := (.reg r13_find_Slot)
def k7_find_Slot : ACode := (.seq (.block 1 (.seq (.reg r7_find_Slot) k8_find_Slot)) k13_find_Slot)
def k6_find_Slot : ACode := (.seq (.cond (.tmp 40) .skip (.exit 0)) k7_find_Slot)
def b0_find_Slot : ACode := (.seq (.reg r6_find_Slot) k6_find_Slot)
def k5_find_Slot : ACode := (.block 0 (.loop b0_find_Slot))
def r14_find_Slot : List AOper := [(.mk (some 64) none (.mv (.tmp 10))), (.mk (some 6) none (.mv (.tmp 64))), (.mk (some 7) none (.mv (.const (.int .i64 0))))]
def k14_find_Slot : ACode := (.seq (.reg r14_find_Slot) .ret)
def k4_find_Slot : ACode := (.seq (.seq (.reg r5_find_Slot) k5_find_Slot) k14_find_Slot)
def k3_find_Slot : ACode := (.seq (.reg r4_find_Slot) k4_find_Slot)
def k2_find_Slot : ACode := (.seq (.reg r3_find_Slot) k3_find_Slot)
def k0_find_Slot : ACode := (.seq (.seq (.reg r1_find_Slot) k1_find_Slot) k2_find_Slot)
def c_find_Slot : ACode := (.seq (.reg r0_find_Slot) k0_find_Slot)
theorem e_find_Slot : ofProg Tryz.prog 25 = some ⟨65, [(.tmp 6), (.tmp 7)], c_find_Slot⟩ := by kernel_rfl
theorem markTo_in {h : List Bool} {base : Int} : ∀ {m : Nat} {g : List Bool}, markTo h base m = some g → ∀ k : Nat, k < m → base + k < h.length := by
  intro m
  induction m with
  | zero => intro g _ k hk; omega
  | succ m ih =>
    intro g hg k hk
    simp only [markTo] at hg
    split at hg
    · cases hg
    · next g' hg' =>
      split at hg
      · cases hg
      · next hlt =>
        by_cases e : k < m
        · exact ih hg' k e
        · have : k = m := by omega
          subst this
          rw [markTo_length hg'] at hlt
          omega
def NodeIn (S : StD) (t : ThingD) : Prop := t.type = 2 ∧ ∃ i : Nat, S.th[i]? = some t
structure GoodF (S : StD) : Prop where
  geo : goodGeo S.threads S.slots S.things
  sl : (S.sl.length : Int) = S.slots
  th : (S.th.length : Int) = S.things
  caps : capsB S = true
  things : thingsB S = true
  nodes : nodesB S = true
theorem goodF {S : StD} (h : goodB S = true) : GoodF S := by
  unfold goodB at h
  simp only [Bool.and_eq_true, decide_eq_true_eq] at h
  exact ⟨h.1.1.1.1.1.1.1.1, h.1.1.1.1.1.1.1.2, h.1.1.1.1.1.1.2, h.1.1.1.1.1.2, h.1.1.1.1.2, h.1.1.1.2⟩
theorem GoodF.node {S : StD} (h : GoodF S) {t : ThingD} (ht : NodeIn S t) : (1 ≤ t.bits ∧ t.bits ≤ 4) ∧ 0 ≤ t.base ∧ t.base ≤ 96 - pw t.bits ∧ ∀ n : Int, 0 ≤ n → n < pw t.bits → t.base + n < S.sl.length := by
  obtain ⟨ht2, i, hi⟩ := ht
  have hg := thGood_of h.things i t hi
  have hn := thGood_node hg ht2
  refine ⟨hn.1, hn.2.1, hn.2.2, fun n h0 h1 => ?_⟩
  have hnb := h.nodes
  have hlt := (List.getElem?_eq_some_iff.1 hi).1
  unfold nodesB at hnb
  split at hnb
  · cases hnb
  · next g hg' =>
    cases hs : nodesTo S (i + 1) with
    | none => rw [nodesTo_none hs _ (by omega)] at hg'; cases hg'
    | some g1 =>
      simp only [nodesTo] at hs
      split at hs
      · cases hs
      · next g2 hg2 =>
        rw [hi] at hs
        simp only [if_pos ht2] at hs
        have := markTo_in hs n.toNat (by omega)
        rw [nodesTo_length hg2] at this
        omega
theorem GoodF.link {S : StD} (h : GoodF S) {i : Nat} {x : SlotD} (hx : S.sl[i]? = some x) (h2 : x.type = 2) : ∃ t, atI S.th x.thing = some t ∧ S.th[x.thing.toNat]? = some t ∧ 0 ≤ x.thing ∧ x.thing < S.th.length ∧ NodeIn S t := by
  have hs := all_get h.caps hx
  have hnn : capNone x = false := by
    unfold capNone eq4
    rw [h2]; rfl
  unfold slotB at hs
  rw [hnn] at hs
  simp only [Bool.and_eq_true, Bool.false_or] at hs
  by_cases q : 0 ≤ x.thing ∧ x.thing < S.th.length
  · obtain ⟨t, e1, e2⟩ := atI_some q.1 q.2
    rw [e1] at hs
    have h3 := hs.2
    simp only [Bool.and_eq_true, decide_eq_true_eq] at h3
    exact ⟨t, e1, e2, q.1, q.2, by rw [h3.2, h2], _, e2⟩
  · rw [atI_none q] at hs
    cases hs.2
theorem GoodF.root {S : StD} (h : GoodF S) {n : Int} (h0 : 0 ≤ n) (h1 : n ≤ S.threads - 1) : ∃ t, S.th[(2 + n).toNat]? = some t ∧ 2 + n < S.th.length ∧ NodeIn S t := by
  obtain ⟨g1, g2, g3, g4⟩ := h.geo
  have h3 := h.th
  have hlt : (2 + n).toNat < S.th.length := by omega
  refine ⟨S.th[(2 + n).toNat], List.getElem?_eq_getElem hlt, by omega, ?_, _, List.getElem?_eq_getElem hlt⟩
  have ht := allTo_true (List.getElem?_eq_getElem hlt) _ hlt h.things
  unfold thingB at ht
  simp only [Bool.and_eq_true] at ht
  have hr : isRootB S (2 + n).toNat = true := by unfold isRootB; simp; omega
  have h4 := ht.1.2
  rw [hr] at h4
  simp only [Bool.true_and, Bool.not_not] at h4
  unfold rootEq eq13 at h4
  simp only [Bool.and_eq_true, beq_iff_eq] at h4
  exact h4.1
def stepI (t : ThingD) (n : Int) : Int := if n < pw t.bits then t.base + n else -1
def thrTz (S : StD) (z : Int) : ThingD := match atI S.sl z with | some x => thrT S x | none => zeroT
def thrBz (S : StD) (z : Int) : Bool := match atI S.sl z with | some x => thrB x | none => false
def stepTo (S : StD) (t0 : ThingD) (l : List Int) : Nat → Option (ThingD × Int)
  | 0 => some (t0, 0)
  | i + 1 => match stepTo S t0 l i with
    | none => none
    | some (t, z) => match l[i]? with
      | none => some (t, z)
      | some n => if i = 0 then (if 0 ≤ stepI t n then some (t, stepI t n) else none)
        else (if thrBz S z = true ∧ 0 ≤ stepI (thrTz S z) n then some (thrTz S z, stepI (thrTz S z) n) else none)
theorem stepTo_none {S : StD} {t0 : ThingD} {l : List Int} {k : Nat} (hk : stepTo S t0 l k = none) : ∀ m, k ≤ m → stepTo S t0 l m = none := by
  intro m
  induction m with
  | zero => intro hm; have : k = 0 := by omega
            subst this; exact hk
  | succ m ih =>
    intro hm
    by_cases e : k = m + 1
    · subst e; exact hk
    · simp only [stepTo, ih (by omega)]
def rootT (S : StD) (thread : Int) : ThingD := match S.th[(2 + thread).toNat]? with | some t => t | none => zeroT
def slotF (S : StD) (thread : Int) (l : List Int) : Int × Int :=
  if goodB S = true ∧ (0 ≤ thread ∧ thread ≤ S.threads - 1) ∧ pathB l = true then (match stepTo S (rootT S thread) l l.length with | some (_, z) => (z, 0) | none => (0, 3)) else (0, 1)
theorem firstI_nonneg {α : Type} {p : α → Bool} : ∀ {l : List α} {k i : Nat} {x : α}, l[i]? = some x → p x = true → 0 ≤ firstI p l k := by
  intro l
  induction l with
  | nil => intro k i x h; simp at h
  | cons a l ih =>
    intro k i x hx hp
    simp only [firstI]
    split
    · omega
    · next hne =>
      cases i with
      | zero => simp at hx; subst hx; exact absurd hp hne
      | succ i => exact ih (i := i) (by simpa using hx) hp
theorem path_in {l : List Int} (h : pathB l = true) {i : Nat} {n : Int} (hn : l[i]? = some n) : 0 ≤ n ∧ n ≤ 15 := by
  unfold pathB at h
  simp only [Bool.and_eq_true, Bool.not_eq_true', decide_eq_false_iff_not] at h
  cases ho : oddB n with
  | true => exact absurd (firstI_nonneg hn ho) h.2
  | false =>
    unfold oddB at ho
    simp at ho
    omega
theorem find_Slot_ok (d : Nat) (σ : AHeap) (S : StD) (a1 : Option Addr) (f1 : Nat) (a2 : Option Addr) (f2 : Nat) (thread : Int) (l : List Int) (a : Option Addr) (f : Nat) (hd : Liv σ.n σ) (h1 : SlS σ a1 S.sl) (h2 : SlT σ a2 S.th) (h3 : SlI σ a l) :
    acall (ofProg Tryz.prog) 1000 (d + S.th.length + 9) 25 [stV S a1 f1 a2 f2, .int .i64 thread, .agg [.slice a l.length f].toArray] σ = some (.tuple [i64 (slotF S thread l).1, i64 (slotF S thread l).2].toArray, σ) := by
  refine acall_flat e_find_Slot (by simp) rfl ?_
  have hgood := fun L => state_Good_ok d (σ.fresh.grow L) S a1 f1 a2 f2 (Liv.gr (σ := σ.fresh) hd _) (h1.fresh.grow L) (h2.fresh.grow L)
  cases c1 : goodB S with
  | false =>
    have hs : slotF S thread l = (0, 1) := by unfold slotF; rw [if_neg (by simp [c1])]
    simp (disch := omega) only [hgood, c1, hs, r0_find_Slot, r1_find_Slot, r2_find_Slot, k1_find_Slot, r3_find_Slot, r4_find_Slot, r5_find_Slot, r6_find_Slot, r7_find_Slot, r8_find_Slot, r9_find_Slot, k9_find_Slot, r10_find_Slot, r11_find_Slot, k11_find_Slot, r12_find_Slot, k12_find_Slot, k10_find_Slot, k8_find_Slot, r13_find_Slot, k13_find_Slot, k7_find_Slot, k6_find_Slot, k5_find_Slot, r14_find_Slot, k14_find_Slot, k4_find_Slot, k3_find_Slot, k2_find_Slot, k0_find_Slot, c_find_Slot, Z0, Z1, Z2, Z3, Z4, Z5, Z6, Z7, Z8, Z9, Z10, resAll, Nat.reduceAdd, Nat.reduceEqDiff, Nat.reduceLeDiff, Nat.reduceMul, ↓reduceIte, reduceCtorEq, Nat.reduceBEq, aoper, Nat.reduceLT, Int.reduceEq, Int.reduceLT, Int.reduceLE]
  | true =>
    have G := goodF c1
    obtain ⟨⟨b1, b1'⟩, ⟨b2, b2'⟩, b3, b4, b4'⟩ := G.geo
    have G2 := G.sl
    have G3 := G.th
    by_cases c2 : 0 ≤ thread ∧ thread ≤ S.threads - 1
    · have hpath := fun L => path_Good_ok (d + S.th.length + 4) (σ.fresh.grow L) l a f (h3.fresh.grow L)
      cases c3 : pathB l with
      | false =>
        have hs : slotF S thread l = (0, 1) := by unfold slotF; rw [if_neg (by simp [c3])]
        simp (disch := omega) only [hgood, c1, find_in_ok, c2, hpath, c3, hs, r0_find_Slot, r1_find_Slot, r2_find_Slot, k1_find_Slot, r3_find_Slot, r4_find_Slot, r5_find_Slot, r6_find_Slot, r7_find_Slot, r8_find_Slot, r9_find_Slot, k9_find_Slot, r10_find_Slot, r11_find_Slot, k11_find_Slot, r12_find_Slot, k12_find_Slot, k10_find_Slot, k8_find_Slot, r13_find_Slot, k13_find_Slot, k7_find_Slot, k6_find_Slot, k5_find_Slot, r14_find_Slot, k14_find_Slot, k4_find_Slot, k3_find_Slot, k2_find_Slot, k0_find_Slot, c_find_Slot, Z0, Z1, Z2, Z3, Z4, Z5, Z6, Z7, Z8, Z9, Z10, resAll, Nat.reduceAdd, Nat.reduceEqDiff, Nat.reduceLeDiff, Nat.reduceMul, ↓reduceIte, reduceCtorEq, Nat.reduceBEq, aoper, Nat.reduceLT, Int.reduceEq, Int.reduceLT, Int.reduceLE]
      | true =>
        obtain ⟨t0, r1, r2, r3⟩ := G.root c2.1 c2.2
        have hrt : rootT S thread = t0 := by unfold rootT; rw [r1]
        have hs : slotF S thread l = (match stepTo S t0 l l.length with | some (_, z) => (z, 0) | none => (0, 3)) := by unfold slotF; rw [if_pos ⟨c1, c2, c3⟩, hrt]
        have hll : l.length ≤ 3 := by unfold pathB at c3; simp at c3; omega
        have hodd : ∀ (i : Nat) (n : Int), l[i]? = some n → 0 ≤ n ∧ n ≤ 15 := by
          intro i n hn
          exact path_in c3 hn
        obtain ⟨bt, rfl, hbt⟩ := h2.fresh.at (i := (2 + thread).toNat) (by omega)
        have hl0 : ∀ L, (σ.fresh.grow L).loadN bt ((2 + thread).toNat * 13) 13 = some (thingL t0) := fun L => by
          rw [load_old _ _ _ _ hbt.1]; exact hbt.2 _ _ r1 0 13 (by omega)
        have hth0 : 0 ≤ 2 + thread := by omega
        simp (disch := omega) only [hgood, c1, find_in_ok, c2, hpath, c3, hl0, r2, hth0, r0_find_Slot, r1_find_Slot, r2_find_Slot, k1_find_Slot, r3_find_Slot, r4_find_Slot, r5_find_Slot, r6_find_Slot, r7_find_Slot, r8_find_Slot, r9_find_Slot, k9_find_Slot, r10_find_Slot, r11_find_Slot, k11_find_Slot, r12_find_Slot, k12_find_Slot, k10_find_Slot, k8_find_Slot, r13_find_Slot, k13_find_Slot, k7_find_Slot, k6_find_Slot, k5_find_Slot, r14_find_Slot, k14_find_Slot, k4_find_Slot, k3_find_Slot, k2_find_Slot, k0_find_Slot, c_find_Slot, Z0, Z1, Z2, Z3, Z4, Z5, Z6, Z7, Z8, Z9, Z10, resAll, Nat.reduceAdd, Nat.reduceEqDiff, Nat.reduceLeDiff, Nat.reduceMul, ↓reduceIte, reduceCtorEq, Nat.reduceBEq, aoper, Nat.reduceLT, Int.reduceEq, Int.reduceLT, Int.reduceLE]
        generalize hσ1 : σ.fresh.grow _ = σ1
        have e1n : σ1.n = σ.n + 3 := by rw [← hσ1, grow_n]; rfl
        have e1l : σ1.low = σ.n := by rw [← hσ1, grow_low]; rfl
        have e1k : Keeps σ.fresh σ1 := by rw [← hσ1]; exact Keeps.self _ _
        have e1b : ∀ o n, σ1.loadN σ.fresh.n o n = sliceL (stL S a1 f1 (some ⟨bt, 0, none⟩) f2) o n := fun o n => by rw [← hσ1, ld_0]
        have e1h : σ1.t.get (σ.fresh.n + 2) = some (rowOf (thingL t0, 13)) := by rw [← hσ1]; exact grow_new _ _ 2 rfl
        have hfn : σ.fresh.n = σ.n := rfl
        refine ends_loop (fun i t τ => tget t 37 = .slice a l.length f ∧ tget t 38 = i64 l.length ∧ tget t 39 = i64 i ∧ tget t 3 = here σ.fresh.n 0 ∧ tget t 8 = here (σ.fresh.n + 2) 0 ∧ tget t 9 = .bool true ∧ Mod (σ.fresh.n + 2) σ1 τ ∧
            ∃ tt z, tget t 10 = i64 z ∧ stepTo S t0 l i = some (tt, z) ∧ NodeIn S tt ∧ τ.t.get (σ.fresh.n + 2) = some (rowOf (thingL tt, 13)) ∧ (i = 0 ∨ 0 ≤ z ∧ z < S.sl.length))
          l.length (by omega) ⟨?_, ?_, ?_, ?_, ?_, ?_, Mod.refl _ _, t0, 0, ?_, rfl, r3, e1h, .inl rfl⟩ ?_
        iterate 7 simp (disch := omega) only [Int.natCast_zero, Int.ofNat_zero, r0_find_Slot, r1_find_Slot, r2_find_Slot, k1_find_Slot, r3_find_Slot, r4_find_Slot, r5_find_Slot, r6_find_Slot, r7_find_Slot, r8_find_Slot, r9_find_Slot, k9_find_Slot, r10_find_Slot, r11_find_Slot, k11_find_Slot, r12_find_Slot, k12_find_Slot, k10_find_Slot, k8_find_Slot, r13_find_Slot, k13_find_Slot, k7_find_Slot, k6_find_Slot, k5_find_Slot, r14_find_Slot, k14_find_Slot, k4_find_Slot, k3_find_Slot, k2_find_Slot, k0_find_Slot, c_find_Slot, Z0, Z1, Z2, Z3, Z4, Z5, Z6, Z7, Z8, Z9, Z10, resAll, Nat.reduceAdd, Nat.reduceEqDiff, Nat.reduceLeDiff, Nat.reduceMul, ↓reduceIte, reduceCtorEq, Nat.reduceBEq, aoper, Nat.reduceLT, Int.reduceEq, Int.reduceLT, Int.reduceLE]
        rintro i t τ hi ⟨t37, t38, t39, t3, t8, t9, hmd, tt, z, t10, hst, hnt, hrow, hz⟩
        rw [← grow_nil τ]
        have hmn := hmd.n
        have hlow : τ.low ≤ τ.n := by rw [hmd.low]; omega
        by_cases hlt : i < l.length
        · obtain ⟨b, rfl, hb⟩ := h3.fresh.at hlt
          have hx : l[i]? = some l[i] := List.getElem?_eq_getElem hlt
          generalize l[i] = n at hx
          have hn := hodd i n hx
          have hbn := hb.1
          have hl1 : σ1.loadN b i 1 = some [i64 n] := by
            have := hb.2 i n hx 0 1 (by omega)
            rw [Nat.mul_one, Nat.add_zero] at this
            rw [e1k.load _ _ hbn]; exact this
          have hl : ∀ L, (τ.grow L).loadN b i 1 = some [i64 n] := fun L => by rw [(hmd.grow L).load _ _ (by omega) (by omega)]; exact hl1
          have hlt' : (i : Int) < (l.length : Int) := by omega
          have hcast : ((i + 1 : Nat) : Int) = (i : Int) + 1 := by omega
          have hbox : ∀ L o n, (τ.grow L).loadN σ.fresh.n o n = sliceL (stL S a1 f1 (some ⟨bt, 0, none⟩) f2) o n := fun L o n => by rw [(hmd.grow L).load _ _ (by omega) (by omega)]; exact e1b o n
          have hfit : ∀ L, (τ.grow L).t.get (σ.fresh.n + 2) = some (rowOf (thingL tt, 13)) := fun L => by rw [grow_old _ _ (by omega)]; exact hrow
          have hrl : ∀ L, (τ.grow L).loadN (σ.fresh.n + 2) 0 13 = some (thingL tt) := fun L => by rw [load_row (hfit L) (by simp)]; rfl
          by_cases g0 : i = 0
          · have g0' : ¬ (0 : Int) < (i : Int) := by omega
            obtain ⟨q1, q2, q3, q4⟩ := G.node hnt
            have hp := pw_le (b := tt.bits) (by omega) (by omega)
            have hstep := fun L => find_step_ok (d + S.th.length + 7) (τ.grow L) tt n (by omega) (by omega) hn.1
            by_cases g1 : n < pw tt.bits
            · have hsi : stepI tt n = tt.base + n := by unfold stepI; rw [if_pos g1]
              have hss : stepTo S t0 l (i + 1) = some (tt, tt.base + n) := by simp only [stepTo, hst, hx, if_pos g0, hsi]; rw [if_pos (by omega)]
              have g2 : ¬ tt.base + n < 0 := by omega
              simp (disch := omega) only [t37, t38, t39, t3, t8, t9, t10, hl, hlt', hlt, hcast, Int.toNat_natCast, Nat.mul_one, g0', hrl, hstep, g1, g2, hmd.grow, hss, r0_find_Slot, r1_find_Slot, r2_find_Slot, k1_find_Slot, r3_find_Slot, r4_find_Slot, r5_find_Slot, r6_find_Slot, r7_find_Slot, r8_find_Slot, r9_find_Slot, k9_find_Slot, r10_find_Slot, r11_find_Slot, k11_find_Slot, r12_find_Slot, k12_find_Slot, k10_find_Slot, k8_find_Slot, r13_find_Slot, k13_find_Slot, k7_find_Slot, k6_find_Slot, k5_find_Slot, r14_find_Slot, k14_find_Slot, k4_find_Slot, k3_find_Slot, k2_find_Slot, k0_find_Slot, b0_find_Slot, Z0, Z1, Z2, Z3, Z4, Z5, Z6, Z7, Z8, Z9, Z10, resAll, Nat.reduceAdd, Nat.reduceEqDiff, Nat.reduceLeDiff, Nat.reduceMul, ↓reduceIte, reduceCtorEq, Nat.reduceBEq, aoper, Nat.reduceLT, Int.reduceEq, Int.reduceLT, Int.reduceLE]
              exact ⟨tt, tt.base + n, rfl, rfl, hnt, hfit _, .inr ⟨by omega, q4 n hn.1 g1⟩⟩
            · have hsi : stepI tt n = -1 := by unfold stepI; rw [if_neg g1]
              have hno : stepTo S t0 l (i + 1) = none := by simp only [stepTo, hst, hx, if_pos g0, hsi]; rw [if_neg (by omega)]
              rw [stepTo_none hno _ (by omega)] at hs
              simp (disch := omega) only [t37, t38, t39, t3, t8, t9, t10, hl, hlt', Int.toNat_natCast, Nat.mul_one, g0', hrl, hstep, g1, hs, hmd.low, e1l, r0_find_Slot, r1_find_Slot, r2_find_Slot, k1_find_Slot, r3_find_Slot, r4_find_Slot, r5_find_Slot, r6_find_Slot, r7_find_Slot, r8_find_Slot, r9_find_Slot, k9_find_Slot, r10_find_Slot, r11_find_Slot, k11_find_Slot, r12_find_Slot, k12_find_Slot, k10_find_Slot, k8_find_Slot, r13_find_Slot, k13_find_Slot, k7_find_Slot, k6_find_Slot, k5_find_Slot, r14_find_Slot, k14_find_Slot, k4_find_Slot, k3_find_Slot, k2_find_Slot, k0_find_Slot, b0_find_Slot, Z0, Z1, Z2, Z3, Z4, Z5, Z6, Z7, Z8, Z9, Z10, resAll, Nat.reduceAdd, Nat.reduceEqDiff, Nat.reduceLeDiff, Nat.reduceMul, ↓reduceIte, reduceCtorEq, Nat.reduceBEq, aoper, Nat.reduceLT, Int.reduceEq, Int.reduceLT, Int.reduceLE]
          · have g0' : (0 : Int) < (i : Int) := by omega
            obtain ⟨x, x1, x2⟩ := atI_some (l := S.sl) (z := z) (by omega) (by omega)
            have h1τ : SlS (τ.grow []) a1 S.sl := h1.fresh.mod e1k (by omega) (hmd.grow [])
            have h2τ : SlT (τ.grow []) (some ⟨bt, 0, none⟩) S.th := h2.fresh.mod e1k (by omega) (hmd.grow [])
            have hthr := find_through_ok (d + S.th.length + 3) (τ.grow []) S a1 f1 (some ⟨bt, 0, none⟩) f2 z x h1τ h2τ x1 (fun h => by obtain ⟨_, _, _, u1, u2, _⟩ := G.link x2 h; exact ⟨u1, u2⟩)
            obtain ⟨τ', s1, s2, s3, s4⟩ := Mod.store (o := 0) (vs := thingL (thrT S x)) (hfit []) (by rw [grow_low, hmd.low, e1l]; omega) (by simp) rfl
            rw [st13] at s2
            have hrl' : ∀ L, (τ'.grow L).loadN (σ.fresh.n + 2) 0 13 = some (thingL (thrT S x)) := fun L => by
              rw [load_row (l := thingL (thrT S x)) (e := 13) (by rw [grow_old _ _ (by rw [s4, grow_n]; omega)]; exact s2) (by simp)]; rfl
            have hrl0 := hrl' []
            rw [grow_nil] at hrl0
            have htz : thrTz S z = thrT S x := by unfold thrTz; rw [x1]
            have hbz : thrBz S z = thrB x := by unfold thrBz; rw [x1]
            cases g3 : thrB x with
            | false =>
              have hno : stepTo S t0 l (i + 1) = none := by simp only [stepTo, hst, hx, if_neg g0, hbz, g3]; rfl
              rw [stepTo_none hno _ (by omega)] at hs
              simp (disch := omega) only [t37, t38, t39, t3, t8, t9, t10, hl, hlt', Int.toNat_natCast, Nat.mul_one, g0', hbox, hthr, g3, s1, hs, s3.low, hmd.low, e1l, r0_find_Slot, r1_find_Slot, r2_find_Slot, k1_find_Slot, r3_find_Slot, r4_find_Slot, r5_find_Slot, r6_find_Slot, r7_find_Slot, r8_find_Slot, r9_find_Slot, k9_find_Slot, r10_find_Slot, r11_find_Slot, k11_find_Slot, r12_find_Slot, k12_find_Slot, k10_find_Slot, k8_find_Slot, r13_find_Slot, k13_find_Slot, k7_find_Slot, k6_find_Slot, k5_find_Slot, r14_find_Slot, k14_find_Slot, k4_find_Slot, k3_find_Slot, k2_find_Slot, k0_find_Slot, b0_find_Slot, Z0, Z1, Z2, Z3, Z4, Z5, Z6, Z7, Z8, Z9, Z10, resAll, Nat.reduceAdd, Nat.reduceEqDiff, Nat.reduceLeDiff, Nat.reduceMul, ↓reduceIte, reduceCtorEq, Nat.reduceBEq, aoper, Nat.reduceLT, Int.reduceEq, Int.reduceLT, Int.reduceLE]
            | true =>
              have g3' := g3
              unfold thrB at g3'
              simp only [Bool.and_eq_true, decide_eq_true_eq] at g3'
              obtain ⟨y, y1, y2, _, _, y5⟩ := G.link x2 g3'.1
              have hty : thrT S x = y := by unfold thrT; rw [if_pos g3', y1]
              rw [hty] at hthr s1 s2 hrl0 htz
              obtain ⟨q1, q2, q3, q4⟩ := G.node y5
              have hp := pw_le (b := y.bits) (by omega) (by omega)
              have hstep := find_step_ok (d + S.th.length + 7) τ' y n (by omega) (by omega) hn.1
              by_cases g1 : n < pw y.bits
              · have hsi : stepI y n = y.base + n := by unfold stepI; rw [if_pos g1]
                have hss : stepTo S t0 l (i + 1) = some (y, y.base + n) := by simp only [stepTo, hst, hx, if_neg g0, hbz, g3, htz, hsi]; rw [if_pos ⟨trivial, by omega⟩]
                have g2 : ¬ y.base + n < 0 := by omega
                have hm' := (hmd.grow []).trans s3
                simp (disch := omega) only [t37, t38, t39, t3, t8, t9, t10, hl, hlt', hlt, hcast, Int.toNat_natCast, Nat.mul_one, g0', hbox, hthr, g3, s1, hrl0, hstep, g1, g2, hm', hss, r0_find_Slot, r1_find_Slot, r2_find_Slot, k1_find_Slot, r3_find_Slot, r4_find_Slot, r5_find_Slot, r6_find_Slot, r7_find_Slot, r8_find_Slot, r9_find_Slot, k9_find_Slot, r10_find_Slot, r11_find_Slot, k11_find_Slot, r12_find_Slot, k12_find_Slot, k10_find_Slot, k8_find_Slot, r13_find_Slot, k13_find_Slot, k7_find_Slot, k6_find_Slot, k5_find_Slot, r14_find_Slot, k14_find_Slot, k4_find_Slot, k3_find_Slot, k2_find_Slot, k0_find_Slot, b0_find_Slot, Z0, Z1, Z2, Z3, Z4, Z5, Z6, Z7, Z8, Z9, Z10, resAll, Nat.reduceAdd, Nat.reduceEqDiff, Nat.reduceLeDiff, Nat.reduceMul, ↓reduceIte, reduceCtorEq, Nat.reduceBEq, aoper, Nat.reduceLT, Int.reduceEq, Int.reduceLT, Int.reduceLE]
                exact ⟨y, y.base + n, rfl, rfl, y5, s2, .inr ⟨by omega, q4 n hn.1 g1⟩⟩
              · have hsi : stepI y n = -1 := by unfold stepI; rw [if_neg g1]
                have hno : stepTo S t0 l (i + 1) = none := by simp only [stepTo, hst, hx, if_neg g0, hbz, g3, htz, hsi]; rw [if_neg (by omega)]
                rw [stepTo_none hno _ (by omega)] at hs
                simp (disch := omega) only [t37, t38, t39, t3, t8, t9, t10, hl, hlt', Int.toNat_natCast, Nat.mul_one, g0', hbox, hthr, g3, s1, hrl0, hstep, g1, hs, s3.low, hmd.low, e1l, r0_find_Slot, r1_find_Slot, r2_find_Slot, k1_find_Slot, r3_find_Slot, r4_find_Slot, r5_find_Slot, r6_find_Slot, r7_find_Slot, r8_find_Slot, r9_find_Slot, k9_find_Slot, r10_find_Slot, r11_find_Slot, k11_find_Slot, r12_find_Slot, k12_find_Slot, k10_find_Slot, k8_find_Slot, r13_find_Slot, k13_find_Slot, k7_find_Slot, k6_find_Slot, k5_find_Slot, r14_find_Slot, k14_find_Slot, k4_find_Slot, k3_find_Slot, k2_find_Slot, k0_find_Slot, b0_find_Slot, Z0, Z1, Z2, Z3, Z4, Z5, Z6, Z7, Z8, Z9, Z10, resAll, Nat.reduceAdd, Nat.reduceEqDiff, Nat.reduceLeDiff, Nat.reduceMul, ↓reduceIte, reduceCtorEq, Nat.reduceBEq, aoper, Nat.reduceLT, Int.reduceEq, Int.reduceLT, Int.reduceLE]
        · have hlt' : ¬ (i : Int) < (l.length : Int) := by omega
          have hii : i = l.length := by omega
          rw [hii] at hst
          rw [hst] at hs
          simp (disch := omega) only [t37, t38, t39, t10, hlt', hs, hmd.low, e1l, r0_find_Slot, r1_find_Slot, r2_find_Slot, k1_find_Slot, r3_find_Slot, r4_find_Slot, r5_find_Slot, r6_find_Slot, r7_find_Slot, r8_find_Slot, r9_find_Slot, k9_find_Slot, r10_find_Slot, r11_find_Slot, k11_find_Slot, r12_find_Slot, k12_find_Slot, k10_find_Slot, k8_find_Slot, r13_find_Slot, k13_find_Slot, k7_find_Slot, k6_find_Slot, k5_find_Slot, r14_find_Slot, k14_find_Slot, k4_find_Slot, k3_find_Slot, k2_find_Slot, k0_find_Slot, b0_find_Slot, Z0, Z1, Z2, Z3, Z4, Z5, Z6, Z7, Z8, Z9, Z10, resAll, Nat.reduceAdd, Nat.reduceEqDiff, Nat.reduceLeDiff, Nat.reduceMul, ↓reduceIte, reduceCtorEq, Nat.reduceBEq, aoper, Nat.reduceLT, Int.reduceEq, Int.reduceLT, Int.reduceLE]
    · have hs : slotF S thread l = (0, 1) := by unfold slotF; rw [if_neg (by intro h; exact c2 h.2.1)]
      simp (disch := omega) only [hgood, c1, find_in_ok, c2, hs, r0_find_Slot, r1_find_Slot, r2_find_Slot, k1_find_Slot, r3_find_Slot, r4_find_Slot, r5_find_Slot, r6_find_Slot, r7_find_Slot, r8_find_Slot, r9_find_Slot, k9_find_Slot, r10_find_Slot, r11_find_Slot, k11_find_Slot, r12_find_Slot, k12_find_Slot, k10_find_Slot, k8_find_Slot, r13_find_Slot, k13_find_Slot, k7_find_Slot, k6_find_Slot, k5_find_Slot, r14_find_Slot, k14_find_Slot, k4_find_Slot, k3_find_Slot, k2_find_Slot, k0_find_Slot, c_find_Slot, Z0, Z1, Z2, Z3, Z4, Z5, Z6, Z7, Z8, Z9, Z10, resAll, Nat.reduceAdd, Nat.reduceEqDiff, Nat.reduceLeDiff, Nat.reduceMul, ↓reduceIte, reduceCtorEq, Nat.reduceBEq, aoper, Nat.reduceLT, Int.reduceEq, Int.reduceLT, Int.reduceLE]
end Go.Proofs.YtidmcpkbcphpiaaGreat
namespace Go.Proofs.YtidmcpkbcphpiaaGreat
open Go Go.Hai
set_option maxRecDepth 20000
set_option linter.unusedSimpArgs false
set_option maxHeartbeats 8000000
attribute [local irreducible] Hai.Ends EndsR EndsO EndsD EndsX AHeap.grow
def r0_find_Cap : List AOper := [(.mk (some 3) none (.box 5 (.tmp 0))), (.mk (some 5) none (.box 1 (.tmp 2))), (.mk (some 6) none (.mv (.const (.int .i64 0)))), (.mk (some 7) none (.alloc [(.int .i64 0), (.int .i64 0), (.int .i64 0), (.int .i64 0)] 4)), (.mk (some 8) none (.mv (.const (.int .i64 0))))]
def r1_find_Cap : List AOper := [(.mk (some 12) none (.load true 5 (.tmp 3))), (.mk (some 13) none (.mv (.tmp 1))), (.mk (some 14) none (.load true 1 (.tmp 5))), (.mk (some 15) none (.call 25 [(.tmp 12), (.tmp 13), (.tmp 14)])), (.mk (some 11) none (.mv (.tmp 15))), (.mk (some 16) none (.ext (.tmp 11) 0)), (.mk (some 17) none (.ext (.tmp 11) 1)), (.mk (some 9) none (.mv (.tmp 16))), (.mk (some 10) none (.mv (.tmp 17)))]
def r2_find_Cap : List AOper := [(.mk (some 19) none (.mv (.tmp 10))), (.mk (some 20) none (.bin .neq (.tmp 19) (.const (.int .i64 0)))), (.mk (some 18) none (.mv (.tmp 20)))]
def r3_find_Cap : List AOper := [(.mk (some 21) none (.build [(.int .i64 0), (.int .i64 0), (.int .i64 0), (.int .i64 0)] [])), (.mk (some 22) none (.mv (.tmp 10))), (.mk (some 6) none (.mv (.const (.int .i64 0)))), (.mk none none (.store 4 (.tmp 7) (.tmp 21))), (.mk (some 8) none (.mv (.tmp 22)))]
def r4_find_Cap : List AOper := [(.mk (some 24) none (.fldA 3 (.tmp 3))), (.mk (some 25) none (.load false 1 (.tmp 24))), (.mk (some 26) none (.mv (.tmp 9))), (.mk (some 27) none (.idxA 5 (.tmp 25) (.tmp 26))), (.mk (some 28) none (.fldA 0 (.tmp 27))), (.mk (some 29) none (.load true 4 (.tmp 28))), (.mk (some 30) none (.call 38 [(.tmp 29)])), (.mk (some 23) none (.mv (.tmp 30)))]
def r5_find_Cap : List AOper := [(.mk (some 31) none (.build [(.int .i64 0), (.int .i64 0), (.int .i64 0), (.int .i64 0)] [])), (.mk (some 6) none (.mv (.const (.int .i64 0)))), (.mk none none (.store 4 (.tmp 7) (.tmp 31))), (.mk (some 8) none (.mv (.const (.int .i64 4))))]
def k3_find_Cap : ACode := (.cond (.tmp 23) (.seq (.reg r5_find_Cap) .ret) .skip)
def k2_find_Cap : ACode := (.cond (.tmp 18) (.seq (.reg r3_find_Cap) .ret) (.seq (.reg r4_find_Cap) k3_find_Cap))
def r6_find_Cap : List AOper := [(.mk (some 32) none (.mv (.tmp 9))), (.mk (some 33) none (.fldA 3 (.tmp 3))), (.mk (some 34) none (.load false 1 (.tmp 33))), (.mk (some 35) none (.mv (.tmp 9))), (.mk (some 36) none (.idxA 5 (.tmp 34) (.tmp 35))), (.mk (some 37) none (.fldA 0 (.tmp 36))), (.mk (some 38) none (.load true 4 (.tmp 37))), (.mk (some 6) none (.mv (.tmp 32))), (.mk none none (.store 4 (.tmp 7) (.tmp 38))), (.mk (some 8) none (.mv (.const (.int .i64 0))))]
def k4_find_Cap : ACode := (.seq (.drw r6_find_Cap [0, 0, 2, 0, 14, 30, 62, 1, 255, 511]) .ret)
def k1_find_Cap : ACode := (.seq (.block 0 (.seq (.reg r2_find_Cap) k2_find_Cap)) k4_find_Cap)
def k0_find_Cap : ACode := (.seq (.reg r1_find_Cap) k1_find_Cap)
def c_find_Cap : ACode := (.seq (.reg r0_find_Cap) k0_find_Cap)
theorem e_find_Cap : ofProg Tryz.prog 28 = some ⟨39, [(.tmp 6), (.cell 7 true 4), (.tmp 8)], c_find_Cap⟩ := by kernel_rfl
theorem stepTo_in {S : StD} (G : GoodF S) {t0 : ThingD} (h0 : NodeIn S t0) {l : List Int} (hl : ∀ (i : Nat) (n : Int), l[i]? = some n → 0 ≤ n) : ∀ {i : Nat} {t : ThingD} {z : Int}, i ≤ l.length → stepTo S t0 l i = some (t, z) → NodeIn S t ∧ (i = 0 ∨ 0 ≤ z ∧ z < S.sl.length) := by
  intro i
  induction i with
  | zero => intro t z _ h; simp only [stepTo, Option.some.injEq, Prod.mk.injEq] at h; exact ⟨h.1 ▸ h0, .inl rfl⟩
  | succ i ih =>
    intro t z hi h
    have hx : l[i]? = some l[i] := List.getElem?_eq_getElem (by omega)
    have hn := hl i _ hx
    generalize l[i] = n at hx hn
    have fin : ∀ t', NodeIn S t' → 0 ≤ stepI t' n → 0 ≤ stepI t' n ∧ stepI t' n < S.sl.length := fun t' ht' hs => by
      obtain ⟨_, q2, _, q4⟩ := G.node ht'
      refine ⟨hs, ?_⟩
      unfold stepI at hs ⊢
      split at hs
      · next hlt => rw [if_pos hlt]; exact q4 n hn hlt
      · omega
    simp only [stepTo] at h
    split at h
    · cases h
    · next t1 z1 h1 =>
      obtain ⟨i1, i2⟩ := ih (by omega) h1
      rw [hx] at h
      simp only at h
      split at h
      · split at h
        · next hs =>
          simp only [Option.some.injEq, Prod.mk.injEq] at h
          rw [← h.1, ← h.2]
          exact ⟨i1, .inr (fin _ i1 hs)⟩
        · cases h
      · next hne =>
        split at h
        · next hs =>
          simp only [Option.some.injEq, Prod.mk.injEq] at h
          have hz := i2.resolve_left hne
          obtain ⟨x, x1, x2⟩ := atI_some (l := S.sl) hz.1 hz.2
          have hb : thrB x = true := by have := hs.1; unfold thrBz at this; rw [x1] at this; exact this
          have hb' := hb
          unfold thrB at hb'
          simp only [Bool.and_eq_true, decide_eq_true_eq] at hb'
          obtain ⟨y, y1, _, _, _, y5⟩ := G.link x2 hb'.1
          have ht : thrTz S z1 = y := by
            unfold thrTz
            rw [x1]
            show thrT S x = y
            unfold thrT
            rw [if_pos hb', y1]
          rw [ht] at h hs
          rw [← h.1, ← h.2]
          exact ⟨y5, .inr (fin _ y5 hs.2)⟩
        · cases h
theorem slotF_in {S : StD} {thread : Int} {l : List Int} (h : (slotF S thread l).2 = 0) : 0 ≤ (slotF S thread l).1 ∧ (slotF S thread l).1 < S.sl.length := by
  unfold slotF at h ⊢
  split at h
  · next hc =>
    rw [if_pos hc]
    have G := goodF hc.1
    obtain ⟨t0, r1, r2, r3⟩ := G.root hc.2.1.1 hc.2.1.2
    have hrt : rootT S thread = t0 := by unfold rootT; rw [r1]
    rw [hrt] at h ⊢
    cases hs : stepTo S t0 l l.length with
    | none => rw [hs] at h; simp at h
    | some p =>
      obtain ⟨t, z⟩ := p
      have := stepTo_in G r3 (fun i n hn => (path_in hc.2.2 hn).1) (Nat.le_refl _) hs
      have hl : l.length ≠ 0 := by have := hc.2.2; unfold pathB at this; simp at this; omega
      exact this.2.resolve_left hl
  · simp at h
def slotAt (S : StD) (z : Int) : SlotD := match atI S.sl z with | some x => x | none => ⟨0, 0, 0, 0, 0⟩
def emptyF (S : StD) (thread : Int) (l : List Int) : Int × Int :=
  if (slotF S thread l).2 = 0 then (if capNone (slotAt S (slotF S thread l).1) = true then ((slotF S thread l).1, 0) else (0, 5)) else (0, (slotF S thread l).2)
def capF (S : StD) (thread : Int) (l : List Int) : Int × SlotD × Int :=
  if (slotF S thread l).2 = 0 then (if capNone (slotAt S (slotF S thread l).1) = true then (0, ⟨0, 0, 0, 0, 0⟩, 4) else ((slotF S thread l).1, slotAt S (slotF S thread l).1, 0)) else (0, ⟨0, 0, 0, 0, 0⟩, (slotF S thread l).2)
theorem find_Cap_ok (d : Nat) (σ : AHeap) (S : StD) (a1 : Option Addr) (f1 : Nat) (a2 : Option Addr) (f2 : Nat) (thread : Int) (l : List Int) (a : Option Addr) (f : Nat) (hd : Liv σ.n σ) (h1 : SlS σ a1 S.sl) (h2 : SlT σ a2 S.th) (h3 : SlI σ a l) :
    acall (ofProg Tryz.prog) 1000 (d + S.th.length + 10) 28 [stV S a1 f1 a2 f2, .int .i64 thread, .agg [.slice a l.length f].toArray] σ = some (.tuple [i64 (capF S thread l).1, capV (capF S thread l).2.1, i64 (capF S thread l).2.2].toArray, σ) := by
  refine acall_flat e_find_Cap (by simp) rfl ?_
  have hslot := fun L => find_Slot_ok d (σ.fresh.grow L) S a1 f1 a2 f2 thread l a f (Liv.gr (σ := σ.fresh) hd _) (h1.fresh.grow L) (h2.fresh.grow L) (h3.fresh.grow L)
  by_cases c1 : (slotF S thread l).2 = 0
  · obtain ⟨q1, q2⟩ := slotF_in c1
    obtain ⟨x, x1, x2⟩ := atI_some q1 q2
    obtain ⟨b, rfl, hb⟩ := h1.fresh.at (i := (slotF S thread l).1.toNat) (by omega)
    have hl : ∀ L, (σ.fresh.grow L).loadN b ((slotF S thread l).1.toNat * 5) 4 = some (capL x) := fun L => by
      rw [load_old _ _ _ _ hb.1]; exact hb.2 _ _ x2 0 4 (by omega)
    have hsa : slotAt S (slotF S thread l).1 = x := by unfold slotAt; rw [x1]
    cases c2 : capNone x with
    | true =>
      have he : capF S thread l = (0, ⟨0, 0, 0, 0, 0⟩, 4) := by unfold capF; rw [if_pos c1, hsa, c2]; rfl
      simp (disch := omega) only [hslot, eq_true c1, q1, q2, hl, cap_None_ok, c2, he, r0_find_Cap, r1_find_Cap, r2_find_Cap, r3_find_Cap, r4_find_Cap, r5_find_Cap, k3_find_Cap, k2_find_Cap, r6_find_Cap, k4_find_Cap, k1_find_Cap, k0_find_Cap, c_find_Cap, Z0, Z1, Z2, Z3, Z4, Z5, Z6, Z7, Z8, Z9, Z10, resAll, Nat.reduceAdd, Nat.reduceEqDiff, Nat.reduceLeDiff, Nat.reduceMul, ↓reduceIte, reduceCtorEq, Nat.reduceBEq, aoper, Nat.reduceLT, Int.reduceEq, Int.reduceLT, Int.reduceLE]
    | false =>
      have he : capF S thread l = ((slotF S thread l).1, x, 0) := by unfold capF; rw [if_pos c1, hsa, c2]; rfl
      simp (disch := omega) only [hslot, eq_true c1, q1, q2, hl, cap_None_ok, c2, he, r0_find_Cap, r1_find_Cap, r2_find_Cap, r3_find_Cap, r4_find_Cap, r5_find_Cap, k3_find_Cap, k2_find_Cap, r6_find_Cap, k4_find_Cap, k1_find_Cap, k0_find_Cap, c_find_Cap, Z0, Z1, Z2, Z3, Z4, Z5, Z6, Z7, Z8, Z9, Z10, resAll, Nat.reduceAdd, Nat.reduceEqDiff, Nat.reduceLeDiff, Nat.reduceMul, ↓reduceIte, reduceCtorEq, Nat.reduceBEq, aoper, Nat.reduceLT, Int.reduceEq, Int.reduceLT, Int.reduceLE]
      rw [ends_drw0 (by kernel_rfl)]
      simp (disch := omega) only [hslot, eq_true c1, q1, q2, hl, cap_None_ok, c2, he, x_nil, x_1, kontX_grow fresh_le, stX_2 fresh_le, r0_find_Cap, r1_find_Cap, r2_find_Cap, r3_find_Cap, r4_find_Cap, r5_find_Cap, k3_find_Cap, k2_find_Cap, r6_find_Cap, k4_find_Cap, k1_find_Cap, k0_find_Cap, c_find_Cap, Z0, Z1, Z2, Z3, Z4, Z5, Z6, Z7, Z8, Z9, Z10, resAll, Nat.reduceAdd, Nat.reduceEqDiff, Nat.reduceLeDiff, Nat.reduceMul, ↓reduceIte, reduceCtorEq, Nat.reduceBEq, aoper, Nat.reduceLT, Int.reduceEq, Int.reduceLT, Int.reduceLE]
  · have he : capF S thread l = (0, ⟨0, 0, 0, 0, 0⟩, (slotF S thread l).2) := by unfold capF; rw [if_neg c1]
    simp (disch := omega) only [hslot, c1, he, r0_find_Cap, r1_find_Cap, r2_find_Cap, r3_find_Cap, r4_find_Cap, r5_find_Cap, k3_find_Cap, k2_find_Cap, r6_find_Cap, k4_find_Cap, k1_find_Cap, k0_find_Cap, c_find_Cap, Z0, Z1, Z2, Z3, Z4, Z5, Z6, Z7, Z8, Z9, Z10, resAll, Nat.reduceAdd, Nat.reduceEqDiff, Nat.reduceLeDiff, Nat.reduceMul, ↓reduceIte, reduceCtorEq, Nat.reduceBEq, aoper, Nat.reduceLT, Int.reduceEq, Int.reduceLT, Int.reduceLE]
end Go.Proofs.YtidmcpkbcphpiaaGreat
namespace Go.Proofs.YtidmcpkbcphpiaaGreat
open Go Go.Hai
set_option maxRecDepth 20000
set_option linter.unusedSimpArgs false
set_option maxHeartbeats 8000000
attribute [local irreducible] Hai.Ends EndsR EndsO EndsD EndsX AHeap.grow
def r0_internal_stringslite_IndexByte : List AOper := [(.mk (some 4) none (.mv (.const (.int .i64 0))))]
def r1_internal_stringslite_IndexByte : List AOper := [(.mk (some 5) none (.mv (.tmp 0))), (.mk (some 6) none (.mv (.tmp 1))), (.mk (some 7) none (.idxB (.tmp 5) (.tmp 6))), (.mk (some 4) none (.mv (.tmp 7)))]
def k0_internal_stringslite_IndexByte : ACode := (.seq (.reg r1_internal_stringslite_IndexByte) .ret)
def c_internal_stringslite_IndexByte : ACode := (.seq (.reg r0_internal_stringslite_IndexByte) k0_internal_stringslite_IndexByte)
theorem e_internal_stringslite_IndexByte : ofProg Tryz.prog 238 = some ⟨8, [(.tmp 4)], c_internal_stringslite_IndexByte⟩ := by kernel_rfl
def r0_internal_stringslite_Index : List AOper := [(.mk (some 4) none (.mv (.const (.int .i64 0))))]
def r1_internal_stringslite_Index : List AOper := [(.mk (some 14) none (.mv (.tmp 1))), (.mk (some 15) none (.lenStr (.tmp 14))), (.mk (some 5) none (.mv (.tmp 15)))]
def r2_internal_stringslite_Index : List AOper := [(.mk (some 17) none (.mv (.tmp 5))), (.mk (some 18) none (.bin .eql (.tmp 17) (.const (.int .i64 0)))), (.mk (some 19) none (.mv (.tmp 18))), (.mk (some 20) (some (19, false)) (.mv (.tmp 1))), (.mk (some 21) (some (19, false)) (.mv (.tmp 0))), (.mk (some 22) (some (19, false)) (.bin .eql (.tmp 20) (.tmp 21))), (.mk (some 23) none (.pick (.tmp 19) (.const (.bool true)) (.tmp 22))), (.mk (some 16) none (.mv (.tmp 23)))]
def r3_internal_stringslite_Index : List AOper := [(.mk (some 4) none (.mv (.const (.int .i64 0))))]
def r4_internal_stringslite_Index : List AOper := [(.mk (some 25) none (.mv (.tmp 5))), (.mk (some 26) none (.bin .eql (.tmp 25) (.const (.int .i64 1)))), (.mk (some 24) none (.mv (.tmp 26)))]
def r5_internal_stringslite_Index : List AOper := [(.mk (some 27) none (.mv (.tmp 0))), (.mk (some 28) none (.mv (.tmp 1))), (.mk (some 29) none (.idxS (.tmp 28) (.const (.int .i64 0)))), (.mk (some 30) none (.call 238 [(.tmp 27), (.tmp 29)])), (.mk (some 4) none (.mv (.tmp 30)))]
def r6_internal_stringslite_Index : List AOper := [(.mk (some 32) none (.mv (.tmp 5))), (.mk (some 33) none (.mv (.tmp 0))), (.mk (some 34) none (.lenStr (.tmp 33))), (.mk (some 35) none (.bin .geq (.tmp 32) (.tmp 34))), (.mk (some 31) none (.mv (.tmp 35)))]
def r7_internal_stringslite_Index : List AOper := [(.mk (some 4) none (.mv (.const (.int .i64 (-1)))))]
def r8_internal_stringslite_Index : List AOper := [(.mk (some 37) none (.mv (.tmp 5))), (.mk (some 38) none .bad), (.mk (some 39) none (.bin .leq (.tmp 37) (.tmp 38))), (.mk (some 40) none (.mv (.tmp 39))), (.mk (some 41) (some (40, true)) (.mv (.tmp 0))), (.mk (some 42) (some (40, true)) (.lenStr (.tmp 41))), (.mk (some 43) (some (40, true)) (.bin .leq (.tmp 42) (.const (.int .i64 64)))), (.mk (some 44) none (.pick (.tmp 40) (.tmp 43) (.const (.bool false)))), (.mk (some 36) none (.mv (.tmp 44)))]
def r9_internal_stringslite_Index : List AOper := [(.mk (some 45) none (.mv (.tmp 0))), (.mk (some 46) none (.mv (.tmp 1))), (.mk (some 47) none (.call 239 [(.tmp 45), (.tmp 46)])), (.mk (some 4) none (.mv (.tmp 47)))]
def k5_internal_stringslite_Index : ACode := (.cond (.tmp 36) (.seq (.reg r9_internal_stringslite_Index) .ret) .skip)
def k4_internal_stringslite_Index : ACode := (.cond (.tmp 31) (.seq (.reg r7_internal_stringslite_Index) .ret) (.seq (.reg r8_internal_stringslite_Index) k5_internal_stringslite_Index))
def k3_internal_stringslite_Index : ACode := (.cond (.tmp 24) (.seq (.reg r5_internal_stringslite_Index) .ret) (.seq (.reg r6_internal_stringslite_Index) k4_internal_stringslite_Index))
def k2_internal_stringslite_Index : ACode := (.cond (.tmp 16) (.seq (.reg r3_internal_stringslite_Index) .ret) (.seq (.reg r4_internal_stringslite_Index) k3_internal_stringslite_Index))
def r10_internal_stringslite_Index : List AOper := [(.mk (some 48) none (.mv (.tmp 1))), (.mk (some 49) none (.idxS (.tmp 48) (.const (.int .i64 0)))), (.mk (some 6) none (.mv (.tmp 49)))]
def r11_internal_stringslite_Index : List AOper := [(.mk (some 50) none (.mv (.tmp 1))), (.mk (some 51) none (.idxS (.tmp 50) (.const (.int .i64 1)))), (.mk (some 7) none (.mv (.tmp 51)))]
def r12_internal_stringslite_Index : List AOper := [(.mk (some 8) none (.mv (.const (.int .i64 0))))]
def r13_internal_stringslite_Index : List AOper := [(.mk (some 52) none (.mv (.tmp 0))), (.mk (some 53) none (.lenStr (.tmp 52))), (.mk (some 54) none (.mv (.tmp 5))), (.mk (some 55) none (.bin .sub (.tmp 53) (.tmp 54))), (.mk (some 56) none (.bin .add (.tmp 55) (.const (.int .i64 1)))), (.mk (some 9) none (.mv (.tmp 56)))]
def r14_internal_stringslite_Index : List AOper := [(.mk (some 10) none (.mv (.const (.int .i64 0))))]
def r15_internal_stringslite_Index : List AOper := [(.mk (some 57) none (.mv (.tmp 8))), (.mk (some 58) none (.mv (.tmp 9))), (.mk (some 59) none (.bin .lss (.tmp 57) (.tmp 58)))]
def k12_internal_stringslite_Index : ACode := (.cond (.tmp 59) .skip (.exit 1))
def r16_internal_stringslite_Index : List AOper := [(.mk (some 60) none (.mv (.tmp 0))), (.mk (some 61) none (.mv (.tmp 8))), (.mk (some 62) none (.idxS (.tmp 60) (.tmp 61))), (.mk (some 63) none (.mv (.tmp 6))), (.mk (some 64) none (.bin .neq (.tmp 62) (.tmp 63)))]
def r17_internal_stringslite_Index : List AOper := [(.mk (some 65) none (.mv (.tmp 0))), (.mk (some 66) none (.mv (.tmp 8))), (.mk (some 67) none (.bin .add (.tmp 66) (.const (.int .i64 1)))), (.mk (some 68) none (.mv (.tmp 9))), (.mk (some 69) none (.slStr (.tmp 65) (some (.tmp 67)) (some (.tmp 68)))), (.mk (some 70) none (.mv (.tmp 6))), (.mk (some 71) none (.call 238 [(.tmp 69), (.tmp 70)])), (.mk (some 11) none (.mv (.tmp 71)))]
def r18_internal_stringslite_Index : List AOper := [(.mk (some 72) none (.mv (.tmp 11))), (.mk (some 73) none (.bin .lss (.tmp 72) (.const (.int .i64 0))))]
def r19_internal_stringslite_Index : List AOper := [(.mk (some 4) none (.mv (.const (.int .i64 (-1)))))]
def k16_internal_stringslite_Index : ACode := (.cond (.tmp 73) (.seq (.reg r19_internal_stringslite_Index) .ret) .skip)
def r20_internal_stringslite_Index : List AOper := [(.mk (some 74) none (.mv (.tmp 8))), (.mk (some 75) none (.mv (.tmp 11))), (.mk (some 76) none (.bin .add (.tmp 75) (.const (.int .i64 1)))), (.mk (some 77) none (.bin .add (.tmp 74) (.tmp 76))), (.mk (some 8) none (.mv (.tmp 77)))]
def k17_internal_stringslite_Index : ACode := (.reg r20_internal_stringslite_Index)
def k15_internal_stringslite_Index : ACode := (.seq (.seq (.reg r18_internal_stringslite_Index) k16_internal_stringslite_Index) k17_internal_stringslite_Index)
def k14_internal_stringslite_Index : ACode := (.cond (.tmp 64) (.seq (.reg r17_internal_stringslite_Index) k15_internal_stringslite_Index) .skip)
def r21_internal_stringslite_Index : List AOper := [(.mk (some 78) none (.mv (.tmp 0))), (.mk (some 79) none (.mv (.tmp 8))), (.mk (some 80) none (.bin .add (.tmp 79) (.const (.int .i64 1)))), (.mk (some 81) none (.idxS (.tmp 78) (.tmp 80))), (.mk (some 82) none (.mv (.tmp 7))), (.mk (some 83) none (.bin .eql (.tmp 81) (.tmp 82))), (.mk (some 84) none (.mv (.tmp 83))), (.mk (some 85) (some (84, true)) (.mv (.tmp 0))), (.mk (some 86) (some (84, true)) (.mv (.tmp 8))), (.mk (some 87) (some (84, true)) (.mv (.tmp 8))), (.mk (some 88) (some (84, true)) (.mv (.tmp 5))), (.mk (some 89) (some (84, true)) (.bin .add (.tmp 87) (.tmp 88))), (.mk (some 90) (some (84, true)) (.slStr (.tmp 85) (some (.tmp 86)) (some (.tmp 89)))), (.mk (some 91) (some (84, true)) (.mv (.tmp 1))), (.mk (some 92) (some (84, true)) (.bin .eql (.tmp 90) (.tmp 91))), (.mk (some 93) none (.pick (.tmp 84) (.tmp 92) (.const (.bool false))))]
def r22_internal_stringslite_Index : List AOper := [(.mk (some 94) none (.mv (.tmp 8))), (.mk (some 4) none (.mv (.tmp 94)))]
def k19_internal_stringslite_Index : ACode := (.cond (.tmp 93) (.seq (.reg r22_internal_stringslite_Index) .ret) .skip)
def r23_internal_stringslite_Index : List AOper := [(.mk (some 95) none (.mv (.tmp 8))), (.mk (some 96) none (.bin .add (.tmp 95) (.const (.int .i64 1)))), (.mk (some 8) none (.mv (.tmp 96)))]
def r24_internal_stringslite_Index : List AOper := [(.mk (some 97) none (.mv (.tmp 10))), (.mk (some 98) none (.bin .add (.tmp 97) (.const (.int .i64 1)))), (.mk (some 10) none (.mv (.tmp 98)))]
def r25_internal_stringslite_Index : List AOper := [(.mk (some 99) none (.mv (.tmp 5))), (.mk (some 100) none .bad), (.mk (some 101) none (.bin .leq (.tmp 99) (.tmp 100))), (.mk (some 102) none (.mv (.tmp 101))), (.mk (some 103) (some (102, true)) (.mv (.tmp 10))), (.mk (some 104) (some (102, true)) (.mv (.tmp 8))), (.mk (some 105) (some (102, true)) (.call 240 [(.tmp 104)])), (.mk (some 106) (some (102, true)) (.bin .gtr (.tmp 103) (.tmp 105))), (.mk (some 107) none (.pick (.tmp 102) (.tmp 106) (.const (.bool false))))]
def r26_internal_stringslite_Index : List AOper := [(.mk (some 108) none (.mv (.tmp 0))), (.mk (some 109) none (.mv (.tmp 8))), (.mk (some 110) none (.slStr (.tmp 108) (some (.tmp 109)) none)), (.mk (some 111) none (.mv (.tmp 1))), (.mk (some 112) none (.call 239 [(.tmp 110), (.tmp 111)])), (.mk (some 12) none (.mv (.tmp 112)))]
def r27_internal_stringslite_Index : List AOper := [(.mk (some 113) none (.mv (.tmp 12))), (.mk (some 114) none (.bin .geq (.tmp 113) (.const (.int .i64 0))))]
def r28_internal_stringslite_Index : List AOper := [(.mk (some 115) none (.mv (.tmp 12))), (.mk (some 116) none (.mv (.tmp 8))), (.mk (some 117) none (.bin .add (.tmp 115) (.tmp 116))), (.mk (some 4) none (.mv (.tmp 117)))]
def k25_internal_stringslite_Index : ACode := (.cond (.tmp 114) (.seq (.reg r28_internal_stringslite_Index) .ret) .skip)
def r29_internal_stringslite_Index : List AOper := [(.mk (some 4) none (.mv (.const (.int .i64 (-1)))))]
def k26_internal_stringslite_Index : ACode := (.seq (.reg r29_internal_stringslite_Index) .ret)
def k24_internal_stringslite_Index : ACode := (.seq (.seq (.reg r27_internal_stringslite_Index) k25_internal_stringslite_Index) k26_internal_stringslite_Index)
def r30_internal_stringslite_Index : List AOper := [(.mk (some 118) none (.mv (.tmp 5))), (.mk (some 119) none .bad), (.mk (some 120) none (.bin .gtr (.tmp 118) (.tmp 119))), (.mk (some 121) none (.mv (.tmp 120))), (.mk (some 122) (some (121, true)) (.mv (.tmp 10))), (.mk (some 123) (some (121, true)) (.mv (.tmp 8))), (.mk (some 124) (some (121, true)) (.bin .shr (.tmp 123) (.const (.int .u64 4)))), (.mk (some 125) (some (121, true)) (.bin .add (.const (.int .i64 4)) (.tmp 124))), (.mk (some 126) (some (121, true)) (.bin .geq (.tmp 122) (.tmp 125))), (.mk (some 127) none (.pick (.tmp 121) (.tmp 126) (.const (.bool false)))), (.mk (some 128) none (.mv (.tmp 127))), (.mk (some 129) (some (128, true)) (.mv (.tmp 8))), (.mk (some 130) (some (128, true)) (.mv (.tmp 9))), (.mk (some 131) (some (128, true)) (.bin .lss (.tmp 129) (.tmp 130))), (.mk (some 132) none (.pick (.tmp 128) (.tmp 131) (.const (.bool false))))]
def r31_internal_stringslite_Index : List AOper := [(.mk (some 133) none (.mv (.tmp 0))), (.mk (some 134) none (.mv (.tmp 8))), (.mk (some 135) none (.slStr (.tmp 133) (some (.tmp 134)) none)), (.mk (some 136) none (.mv (.tmp 1))), (.mk (some 137) none (.call 241 [(.tmp 135), (.tmp 136)])), (.mk (some 13) none (.mv (.tmp 137)))]
def r32_internal_stringslite_Index : List AOper := [(.mk (some 138) none (.mv (.tmp 13))), (.mk (some 139) none (.bin .lss (.tmp 138) (.const (.int .i64 0))))]
def r33_internal_stringslite_Index : List AOper := [(.mk (some 4) none (.mv (.const (.int .i64 (-1)))))]
def k29_internal_stringslite_Index : ACode := (.cond (.tmp 139) (.seq (.reg r33_internal_stringslite_Index) .ret) .skip)
def r34_internal_stringslite_Index : List AOper := [(.mk (some 140) none (.mv (.tmp 8))), (.mk (some 141) none (.mv (.tmp 13))), (.mk (some 142) none (.bin .add (.tmp 140) (.tmp 141))), (.mk (some 4) none (.mv (.tmp 142)))]
def k30_internal_stringslite_Index : ACode := (.seq (.reg r34_internal_stringslite_Index) .ret)
def k28_internal_stringslite_Index : ACode := (.seq (.seq (.reg r32_internal_stringslite_Index) k29_internal_stringslite_Index) k30_internal_stringslite_Index)
def k27_internal_stringslite_Index : ACode := (.cond (.tmp 132) (.seq (.reg r31_internal_stringslite_Index) k28_internal_stringslite_Index) .skip)
def k23_internal_stringslite_Index : ACode := (.cond (.tmp 107) (.seq (.reg r26_internal_stringslite_Index) k24_internal_stringslite_Index) (.seq (.reg r30_internal_stringslite_Index) k27_internal_stringslite_Index))
def k22_internal_stringslite_Index : ACode := (.seq (.reg r25_internal_stringslite_Index) k23_internal_stringslite_Index)
def k21_internal_stringslite_Index : ACode := (.seq (.reg r24_internal_stringslite_Index) k22_internal_stringslite_Index)
def k20_internal_stringslite_Index : ACode := (.seq (.reg r23_internal_stringslite_Index) k21_internal_stringslite_Index)
def k18_internal_stringslite_Index : ACode := (.seq (.seq (.reg r21_internal_stringslite_Index) k19_internal_stringslite_Index) k20_internal_stringslite_Index)
def k13_internal_stringslite_Index : ACode := (.block 2 (.seq (.seq (.reg r16_internal_stringslite_Index) k14_internal_stringslite_Index) k18_internal_stringslite_Index))
def b0_internal_stringslite_Index : ACode := (.seq (.seq (.reg r15_internal_stringslite_Index) k12_internal_stringslite_Index) k13_internal_stringslite_Index)
def r35_internal_stringslite_Index : List AOper := [(.mk (some 4) none (.mv (.const (.int .i64 (-1)))))]
def k31_internal_stringslite_Index : ACode := (.seq (.reg r35_internal_stringslite_Index) .ret)
def k11_internal_stringslite_Index : ACode := (.seq (.block 1 (.loop b0_internal_stringslite_Index)) k31_internal_stringslite_Index)
def k10_internal_stringslite_Index : ACode := (.seq (.reg r14_internal_stringslite_Index) k11_internal_stringslite_Index)
def k9_internal_stringslite_Index : ACode := (.seq (.reg r13_internal_stringslite_Index) k10_internal_stringslite_Index)
def k8_internal_stringslite_Index : ACode := (.seq (.reg r12_internal_stringslite_Index) k9_internal_stringslite_Index)
def k7_internal_stringslite_Index : ACode := (.seq (.reg r11_internal_stringslite_Index) k8_internal_stringslite_Index)
def k6_internal_stringslite_Index : ACode := (.seq (.reg r10_internal_stringslite_Index) k7_internal_stringslite_Index)
def k1_internal_stringslite_Index : ACode := (.seq (.block 0 (.seq (.reg r2_internal_stringslite_Index) k2_internal_stringslite_Index)) k6_internal_stringslite_Index)
def k0_internal_stringslite_Index : ACode := (.seq (.reg r1_internal_stringslite_Index) k1_internal_stringslite_Index)
def c_internal_stringslite_Index : ACode := (.seq (.reg r0_internal_stringslite_Index) k0_internal_stringslite_Index)
theorem e_internal_stringslite_Index : ofProg Tryz.prog 217 = some ⟨143, [(.tmp 4)], c_internal_stringslite_Index⟩ := by kernel_rfl
def r0_strings_Index : List AOper := [(.mk (some 4) none (.mv (.const (.int .i64 0))))]
def r1_strings_Index : List AOper := [(.mk (some 5) none (.mv (.tmp 0))), (.mk (some 6) none (.mv (.tmp 1))), (.mk (some 7) none (.call 217 [(.tmp 5), (.tmp 6)])), (.mk (some 4) none (.mv (.tmp 7)))]
def k0_strings_Index : ACode := (.seq (.reg r1_strings_Index) .ret)
def c_strings_Index : ACode := (.seq (.reg r0_strings_Index) k0_strings_Index)
theorem e_strings_Index : ofProg Tryz.prog 173 = some ⟨8, [(.tmp 4)], c_strings_Index⟩ := by kernel_rfl
def r0_strings_Contains : List AOper := [(.mk (some 4) none (.mv (.const (.bool false))))]
def r1_strings_Contains : List AOper := [(.mk (some 5) none (.mv (.tmp 0))), (.mk (some 6) none (.mv (.tmp 1))), (.mk (some 7) none (.call 173 [(.tmp 5), (.tmp 6)])), (.mk (some 8) none (.bin .geq (.tmp 7) (.const (.int .i64 0)))), (.mk (some 4) none (.mv (.tmp 8)))]
def k0_strings_Contains : ACode := (.seq (.reg r1_strings_Contains) .ret)
def c_strings_Contains : ACode := (.seq (.reg r0_strings_Contains) k0_strings_Contains)
theorem e_strings_Contains : ofProg Tryz.prog 108 = some ⟨9, [(.tmp 4)], c_strings_Contains⟩ := by kernel_rfl
theorem bin_eqlS {a b : ByteArray} : abinA .eql (.string a) (.string b) = some (.bool (a.toList == b.toList)) := rfl
theorem bin_neqS {a b : ByteArray} : abinA .neq (.string a) (.string b) = some (.bool (!(a.toList == b.toList))) := rfl
def lenStQ (x : Value) (σ : AHeap) (K : Kt) : Prop := match x with | .string s => K (.int .i64 s.size) σ | _ => False
theorem lenStQ_s {s : ByteArray} {σ : AHeap} {K : Kt} : lenStQ (.string s) σ K = K (.int .i64 s.size) σ := rfl
theorem o_lenStr {σ : AHeap} {t : Tmps} {K : Kt} {x : Operand} : EndsO (aop σ t (.lenStr x)) K = lenStQ (ev t x) σ K := by
  simp only [aop, lenStQ]
  cases ev t x <;> simp [EndsO]
def idxSO (x i : Value) : Option Value := match x, i with
  | .string s, .int _ i => if 0 ≤ i then (match s[i.toNat]? with | some c => some (.int .u8 c.toNat) | none => none) else none
  | _, _ => none
theorem o_idxS {σ : AHeap} {t : Tmps} {K : Kt} {x i : Operand} : EndsO (aop σ t (.idxS x i)) K = valQ (idxSO (ev t x) (ev t i)) σ K := by
  simp only [aop, idxSO]
  cases ev t x with
  | string s => cases ev t i with
    | int k z =>
      simp only
      by_cases h : 0 ≤ z
      · simp only [if_pos h]
        cases s[z.toNat]? <;> simp [EndsO, valQ]
      · simp only [if_neg h]; simp [EndsO, valQ]
    | _ => simp [EndsO, valQ]
  | _ => simp [EndsO, valQ]
def idxBO (x c : Value) : Option Value := match x, c with
  | .string s, .int .u8 c => some (.int .i64 (firstIdx s c.toNat.toUInt8))
  | _, _ => none
theorem o_idxB {σ : AHeap} {t : Tmps} {K : Kt} {x i : Operand} : EndsO (aop σ t (.idxB x i)) K = valQ (idxBO (ev t x) (ev t i)) σ K := by
  simp only [aop, idxBO]
  cases ev t x with
  | string s => cases ev t i with
    | int k z => cases k <;> simp [EndsO, valQ]
    | _ => simp [EndsO, valQ]
  | _ => simp [EndsO, valQ]
def slSO (x : Value) (lo hi : Option Value) : Option Value := match x with
  | .string s => match bound hi s.size s.size with
    | some h => (match bound lo 0 h with | some k => some (.string (s.extract k h)) | none => none)
    | none => none
  | _ => none
theorem o_slStr {σ : AHeap} {t : Tmps} {K : Kt} {x : Operand} {lo hi : Option Operand} : EndsO (aop σ t (.slStr x lo hi)) K = valQ (slSO (ev t x) (lo.map (ev t)) (hi.map (ev t))) σ K := by
  simp only [aop, slSO]
  cases ev t x with
  | string s =>
    simp only
    cases bound (hi.map (ev t)) s.size s.size with
    | none => simp [EndsO, valQ]
    | some h =>
      simp only
      cases bound (lo.map (ev t)) 0 h <;> simp [EndsO, valQ]
  | _ => simp [EndsO, valQ]
abbrev one8 (c : UInt8) : ByteArray := ⟨#[c]⟩
theorem IndexByte_ok (d : Nat) (σ : AHeap) (s : ByteArray) (c : Int) : acall (ofProg Tryz.prog) 1000 (d + 1) 238 [.string s, .int .u8 c] σ = some (i64 (firstIdx s c.toNat.toUInt8), σ) := by
  refine acall_flat e_internal_stringslite_IndexByte (by simp) rfl ?_
  have h : idxBO (.string s) (.int .u8 c) = some (i64 (firstIdx s c.toNat.toUInt8)) := rfl
  simp (disch := omega) only [o_idxB, h, r0_internal_stringslite_IndexByte, r1_internal_stringslite_IndexByte, k0_internal_stringslite_IndexByte, c_internal_stringslite_IndexByte, Z0, Z1, Z2, Z3, Z4, Z5, Z6, Z7, Z8, Z9, Z10, resAll, Nat.reduceAdd, Nat.reduceEqDiff, Nat.reduceLeDiff, Nat.reduceMul, ↓reduceIte, reduceCtorEq, Nat.reduceBEq, aoper, Nat.reduceLT, Int.reduceEq, Int.reduceLT, Int.reduceLE]
theorem Index_ok (d : Nat) (σ : AHeap) (s : ByteArray) (c : UInt8) (hs : ((one8 c).toList == s.toList) = false) : acall (ofProg Tryz.prog) 1000 (d + 2) 217 [.string s, .string (one8 c)] σ = some (i64 (firstIdx s c), σ) := by
  refine acall_flat e_internal_stringslite_Index (by simp) rfl ?_
  have h1 : (((one8 c).size : Nat) : Int) = 1 := rfl
  have h2 : idxSO (.string (one8 c)) (.int .i64 0) = some (.int .u8 c.toNat) := rfl
  have h3 : ((c.toNat : Int).toNat).toUInt8 = c := by simp
  simp (disch := omega) only [o_lenStr, lenStQ_s, o_idxS, bin_eqlS, h1, h2, h3, hs, IndexByte_ok, r0_internal_stringslite_Index, r1_internal_stringslite_Index, r2_internal_stringslite_Index, r3_internal_stringslite_Index, r4_internal_stringslite_Index, r5_internal_stringslite_Index, r6_internal_stringslite_Index, r7_internal_stringslite_Index, r8_internal_stringslite_Index, r9_internal_stringslite_Index, k5_internal_stringslite_Index, k4_internal_stringslite_Index, k3_internal_stringslite_Index, k2_internal_stringslite_Index, r10_internal_stringslite_Index, r11_internal_stringslite_Index, r12_internal_stringslite_Index, r13_internal_stringslite_Index, r14_internal_stringslite_Index, r15_internal_stringslite_Index, k12_internal_stringslite_Index, r16_internal_stringslite_Index, r17_internal_stringslite_Index, r18_internal_stringslite_Index, r19_internal_stringslite_Index, k16_internal_stringslite_Index, r20_internal_stringslite_Index, k17_internal_stringslite_Index, k15_internal_stringslite_Index, k14_internal_stringslite_Index, r21_internal_stringslite_Index, r22_internal_stringslite_Index, k19_internal_stringslite_Index, r23_internal_stringslite_Index, r24_internal_stringslite_Index, r25_internal_stringslite_Index, r26_internal_stringslite_Index, r27_internal_stringslite_Index, r28_internal_stringslite_Index, k25_internal_stringslite_Index, r29_internal_stringslite_Index, k26_internal_stringslite_Index, k24_internal_stringslite_Index, r30_internal_stringslite_Index, r31_internal_stringslite_Index, r32_internal_stringslite_Index, r33_internal_stringslite_Index, k29_internal_stringslite_Index, r34_internal_stringslite_Index, k30_internal_stringslite_Index, k28_internal_stringslite_Index, k27_internal_stringslite_Index, k23_internal_stringslite_Index, k22_internal_stringslite_Index, k21_internal_stringslite_Index, k20_internal_stringslite_Index, k18_internal_stringslite_Index, k13_internal_stringslite_Index, r35_internal_stringslite_Index, k31_internal_stringslite_Index, k11_internal_stringslite_Index, k10_internal_stringslite_Index, k9_internal_stringslite_Index, k8_internal_stringslite_Index, k7_internal_stringslite_Index, k6_internal_stringslite_Index, k1_internal_stringslite_Index, k0_internal_stringslite_Index, c_internal_stringslite_Index, Z0, Z1, Z2, Z3, Z4, Z5, Z6, Z7, Z8, Z9, Z10, resAll, Nat.reduceAdd, Nat.reduceEqDiff, Nat.reduceLeDiff, Nat.reduceMul, ↓reduceIte, reduceCtorEq, Nat.reduceBEq, aoper, Nat.reduceLT, Int.reduceEq, Int.reduceLT, Int.reduceLE]
theorem Contains_ok (d : Nat) (σ : AHeap) (s : ByteArray) (c : UInt8) (hs : ((one8 c).toList == s.toList) = false) : acall (ofProg Tryz.prog) 1000 (d + 4) 108 [.string s, .string (one8 c)] σ = some (.bool (decide (0 ≤ firstIdx s c)), σ) := by
  have hx : ∀ τ, acall (ofProg Tryz.prog) 1000 (d + 3) 173 [.string s, .string (one8 c)] τ = some (i64 (firstIdx s c), τ) := fun τ => by
    refine acall_flat e_strings_Index (by simp) rfl ?_
    have hi := fun L => Index_ok d (τ.fresh.grow L) s c hs
    simp (disch := omega) only [hi, r0_strings_Index, r1_strings_Index, k0_strings_Index, c_strings_Index, Z0, Z1, Z2, Z3, Z4, Z5, Z6, Z7, Z8, Z9, Z10, resAll, Nat.reduceAdd, Nat.reduceEqDiff, Nat.reduceLeDiff, Nat.reduceMul, ↓reduceIte, reduceCtorEq, Nat.reduceBEq, aoper, Nat.reduceLT, Int.reduceEq, Int.reduceLT, Int.reduceLE]
  refine acall_flat e_strings_Contains (by simp) rfl ?_
  simp (disch := omega) only [hx, r0_strings_Contains, r1_strings_Contains, k0_strings_Contains, c_strings_Contains, Z0, Z1, Z2, Z3, Z4, Z5, Z6, Z7, Z8, Z9, Z10, resAll, Nat.reduceAdd, Nat.reduceEqDiff, Nat.reduceLeDiff, Nat.reduceMul, ↓reduceIte, reduceCtorEq, Nat.reduceBEq, aoper, Nat.reduceLT, Int.reduceEq, Int.reduceLT, Int.reduceLE]
end Go.Proofs.YtidmcpkbcphpiaaGreat
namespace Go.Proofs.YtidmcpkbcphpiaaGreat
open Go Go.Hai
set_option maxRecDepth 20000
set_option linter.unusedSimpArgs false
set_option maxHeartbeats 8000000
attribute [local irreducible] Hai.Ends EndsR EndsO EndsD EndsX AHeap.grow
def r0_internal_stringslite_Cut : List AOper := [(.mk (some 4) none (.mv (.const (.string ⟨#[]⟩)))), (.mk (some 5) none (.mv (.const (.string ⟨#[]⟩)))), (.mk (some 6) none (.mv (.const (.bool false))))]
def r1_internal_stringslite_Cut : List AOper := [(.mk (some 8) none (.mv (.tmp 0))), (.mk (some 9) none (.mv (.tmp 1))), (.mk (some 10) none (.call 217 [(.tmp 8), (.tmp 9)])), (.mk (some 7) none (.mv (.tmp 10)))]
def r2_internal_stringslite_Cut : List AOper := [(.mk (some 11) none (.mv (.tmp 7))), (.mk (some 12) none (.bin .geq (.tmp 11) (.const (.int .i64 0))))]
def r3_internal_stringslite_Cut : List AOper := [(.mk (some 13) none (.mv (.tmp 0))), (.mk (some 14) none (.mv (.tmp 7))), (.mk (some 15) none (.slStr (.tmp 13) none (some (.tmp 14)))), (.mk (some 16) none (.mv (.tmp 0))), (.mk (some 17) none (.mv (.tmp 7))), (.mk (some 18) none (.mv (.tmp 1))), (.mk (some 19) none (.lenStr (.tmp 18))), (.mk (some 20) none (.bin .add (.tmp 17) (.tmp 19))), (.mk (some 21) none (.slStr (.tmp 16) (some (.tmp 20)) none)), (.mk (some 4) none (.mv (.tmp 15))), (.mk (some 5) none (.mv (.tmp 21))), (.mk (some 6) none (.mv (.const (.bool true))))]
def k2_internal_stringslite_Cut : ACode := (.cond (.tmp 12) (.seq (.drw r3_internal_stringslite_Cut [0, 0, 3, 0, 0, 0, 32, 112, 248, 7, 1023, 2047]) .ret) .skip)
def k1_internal_stringslite_Cut : ACode := (.seq (.reg r2_internal_stringslite_Cut) k2_internal_stringslite_Cut)
def r4_internal_stringslite_Cut : List AOper := [(.mk (some 22) none (.mv (.tmp 0))), (.mk (some 4) none (.mv (.tmp 22))), (.mk (some 5) none (.mv (.const (.string ⟨#[]⟩)))), (.mk (some 6) none (.mv (.const (.bool false))))]
def k3_internal_stringslite_Cut : ACode := (.seq (.reg r4_internal_stringslite_Cut) .ret)
def k0_internal_stringslite_Cut : ACode := (.seq (.seq (.reg r1_internal_stringslite_Cut) k1_internal_stringslite_Cut) k3_internal_stringslite_Cut)
def c_internal_stringslite_Cut : ACode := (.seq (.reg r0_internal_stringslite_Cut) k0_internal_stringslite_Cut)
theorem e_internal_stringslite_Cut : ofProg Tryz.prog 216 = some ⟨23, [(.tmp 4), (.tmp 5), (.tmp 6)], c_internal_stringslite_Cut⟩ := by kernel_rfl
def r0_strings_Cut : List AOper := [(.mk (some 4) none (.mv (.const (.string ⟨#[]⟩)))), (.mk (some 5) none (.mv (.const (.string ⟨#[]⟩)))), (.mk (some 6) none (.mv (.const (.bool false))))]
def r1_strings_Cut : List AOper := [(.mk (some 7) none (.mv (.tmp 0))), (.mk (some 8) none (.mv (.tmp 1))), (.mk (some 9) none (.call 216 [(.tmp 7), (.tmp 8)])), (.mk (some 10) none (.ext (.tmp 9) 0)), (.mk (some 11) none (.ext (.tmp 9) 1)), (.mk (some 12) none (.ext (.tmp 9) 2)), (.mk (some 4) none (.mv (.tmp 10))), (.mk (some 5) none (.mv (.tmp 11))), (.mk (some 6) none (.mv (.tmp 12)))]
def k0_strings_Cut : ACode := (.seq (.reg r1_strings_Cut) .ret)
def c_strings_Cut : ACode := (.seq (.reg r0_strings_Cut) k0_strings_Cut)
theorem e_strings_Cut : ofProg Tryz.prog 172 = some ⟨13, [(.tmp 4), (.tmp 5), (.tmp 6)], c_strings_Cut⟩ := by kernel_rfl
def r0_call_fields : List AOper := [(.mk (some 2) none (.mv (.const (.string ⟨#[]⟩)))), (.mk (some 3) none (.mv (.const (.string ⟨#[]⟩))))]
def r1_call_fields : List AOper := [(.mk (some 5) none (.buildSl [(.string ⟨#[]⟩), (.string ⟨#[]⟩), (.string ⟨#[]⟩), (.string ⟨#[]⟩), (.string ⟨#[]⟩), (.string ⟨#[]⟩), (.string ⟨#[]⟩), (.string ⟨#[]⟩), (.string ⟨#[]⟩), (.string ⟨#[]⟩), (.string ⟨#[]⟩), (.string ⟨#[]⟩), (.string ⟨#[]⟩), (.string ⟨#[]⟩)] 1 14 [(0, (1, (.const (.string ⟨#[]⟩)))), (1, (1, (.const (.string ⟨#[109, 97, 107, 101, 32, 65, 66, 88, 89]⟩)))), (2, (1, (.const (.string ⟨#[99, 111, 112, 121, 32, 65, 66, 88]⟩)))), (3, (1, (.const (.string ⟨#[109, 105, 110, 116, 32, 65, 66, 88, 89]⟩)))), (4, (1, (.const (.string ⟨#[109, 111, 118, 101, 32, 65, 66]⟩)))), (5, (1, (.const (.string ⟨#[100, 101, 108, 101, 116, 101, 32, 65]⟩)))), (6, (1, (.const (.string ⟨#[114, 101, 118, 111, 107, 101, 32, 65]⟩)))), (7, (1, (.const (.string ⟨#[115, 101, 110, 100, 32, 65, 98, 87]⟩)))), (8, (1, (.const (.string ⟨#[114, 101, 99, 118, 32, 65, 98]⟩)))), (9, (1, (.const (.string ⟨#[114, 105, 110, 103, 32, 65]⟩)))), (10, (1, (.const (.string ⟨#[112, 111, 108, 108, 32, 65]⟩)))), (11, (1, (.const (.string ⟨#[119, 114, 105, 116, 101, 32, 65, 88, 87]⟩)))), (12, (1, (.const (.string ⟨#[114, 101, 97, 100, 32, 65, 88]⟩)))), (13, (1, (.const (.string ⟨#[116, 101, 108, 108, 32, 65]⟩))))])), (.mk (some 4) none (.mv (.tmp 5)))]
def r2_call_fields : List AOper := [(.mk (some 6) none (.mv (.tmp 0))), (.mk (some 7) none (.bin .lss (.tmp 6) (.const (.int .i64 1)))), (.mk (some 8) none (.mv (.tmp 7))), (.mk (some 9) (some (8, false)) (.mv (.tmp 0))), (.mk (some 10) (some (8, false)) (.bin .gtr (.tmp 9) (.const (.int .i64 13)))), (.mk (some 11) none (.pick (.tmp 8) (.const (.bool true)) (.tmp 10)))]
def r3_call_fields : List AOper := [(.mk (some 2) none (.mv (.const (.string ⟨#[]⟩)))), (.mk (some 3) none (.mv (.const (.string ⟨#[]⟩))))]
def k2_call_fields : ACode := (.cond (.tmp 11) (.seq (.reg r3_call_fields) .ret) .skip)
def r4_call_fields : List AOper := [(.mk (some 13) none (.mv (.tmp 4))), (.mk (some 14) none (.mv (.tmp 0))), (.mk (some 15) none (.idxA 1 (.tmp 13) (.tmp 14))), (.mk (some 16) none (.load false 1 (.tmp 15))), (.mk (some 17) none (.call 172 [(.tmp 16), (.const (.string ⟨#[32]⟩))])), (.mk (some 12) none (.mv (.tmp 17))), (.mk (some 18) none (.ext (.tmp 12) 0)), (.mk (some 19) none (.ext (.tmp 12) 1)), (.mk (some 20) none (.ext (.tmp 12) 2)), (.mk (some 2) none (.mv (.tmp 18))), (.mk (some 3) none (.mv (.tmp 19)))]
def r5_call_fields : List AOper := [(.mk (some 21) none (.mv (.tmp 2))), (.mk (some 22) none (.mv (.tmp 3))), (.mk (some 2) none (.mv (.tmp 21))), (.mk (some 3) none (.mv (.tmp 22)))]
def k4_call_fields : ACode := (.seq (.reg r5_call_fields) .ret)
def k3_call_fields : ACode := (.seq (.reg r4_call_fields) k4_call_fields)
def k1_call_fields : ACode := (.seq (.seq (.reg r2_call_fields) k2_call_fields) k3_call_fields)
def k0_call_fields : ACode := (.seq (.reg r1_call_fields) k1_call_fields)
def c_call_fields : ACode := (.seq (.reg r0_call_fields) k0_call_fields)
theorem e_call_fields : ofProg Tryz.prog 107 = some ⟨23, [(.tmp 2), (.tmp 3)], c_call_fields⟩ := by kernel_rfl
def r0_call_numbers : List AOper := [(.mk (some 1) none (.box 6 (.tmp 0))), (.mk (some 2) none (.mv (.const (.bool false))))]
def r1_call_numbers : List AOper := [(.mk (some 3) none (.fldA 0 (.tmp 1))), (.mk (some 4) none (.load false 1 (.tmp 3)))]
def r2_call_numbers : List AOper := [(.mk (some 6) none (.bin .eql (.tmp 4) (.const (.int .i64 1)))), (.mk (some 5) none (.mv (.tmp 6)))]
def r3_call_numbers : List AOper := [(.mk (some 7) none (.fldA 3 (.tmp 1))), (.mk (some 8) none (.load false 1 (.tmp 7))), (.mk (some 9) none (.call 175 [(.tmp 8), (.const (.int .i64 1)), (.const (.int .i64 5))])), (.mk (some 10) none (.mv (.tmp 9))), (.mk (some 11) (some (10, true)) (.fldA 4 (.tmp 1))), (.mk (some 12) (some (10, true)) (.load false 1 (.tmp 11))), (.mk (some 13) (some (10, true)) (.call 175 [(.tmp 12), (.const (.int .i64 0)), (.const (.int .i64 4096))])), (.mk (some 14) none (.pick (.tmp 10) (.tmp 13) (.const (.bool false)))), (.mk (some 2) none (.mv (.tmp 14)))]
def r4_call_numbers : List AOper := [(.mk (some 16) none (.bin .eql (.tmp 4) (.const (.int .i64 2)))), (.mk (some 15) none (.mv (.tmp 16)))]
def r5_call_numbers : List AOper := [(.mk (some 17) none (.fldA 3 (.tmp 1))), (.mk (some 18) none (.load false 1 (.tmp 17))), (.mk (some 19) none (.call 176 [(.tmp 18)])), (.mk (some 20) none (.mv (.tmp 19))), (.mk (some 21) (some (20, true)) (.fldA 4 (.tmp 1))), (.mk (some 22) (some (20, true)) (.load false 1 (.tmp 21))), (.mk (some 23) (some (20, true)) (.bin .eql (.tmp 22) (.const (.int .i64 0)))), (.mk (some 24) none (.pick (.tmp 20) (.tmp 23) (.const (.bool false)))), (.mk (some 2) none (.mv (.tmp 24)))]
def r6_call_numbers : List AOper := [(.mk (some 26) none (.bin .eql (.tmp 4) (.const (.int .i64 3)))), (.mk (some 25) none (.mv (.tmp 26)))]
def r7_call_numbers : List AOper := [(.mk (some 27) none (.fldA 3 (.tmp 1))), (.mk (some 28) none (.load false 1 (.tmp 27))), (.mk (some 29) none (.call 176 [(.tmp 28)])), (.mk (some 30) none (.mv (.tmp 29))), (.mk (some 31) (some (30, true)) (.fldA 4 (.tmp 1))), (.mk (some 32) (some (30, true)) (.load false 1 (.tmp 31))), (.mk (some 33) (some (30, true)) (.call 175 [(.tmp 32), (.const (.int .i64 1)), (.const (.int .i64 65535))])), (.mk (some 34) none (.pick (.tmp 30) (.tmp 33) (.const (.bool false)))), (.mk (some 2) none (.mv (.tmp 34)))]
def r8_call_numbers : List AOper := [(.mk (some 36) none (.bin .eql (.tmp 4) (.const (.int .i64 11)))), (.mk (some 35) none (.mv (.tmp 36)))]
def r9_call_numbers : List AOper := [(.mk (some 37) none (.bin .eql (.tmp 4) (.const (.int .i64 12)))), (.mk (some 35) none (.mv (.tmp 37)))]
def k5_call_numbers : ACode := (.cond (.tmp 35) .skip (.reg r9_call_numbers))
def r10_call_numbers : List AOper := [(.mk (some 38) none (.fldA 3 (.tmp 1))), (.mk (some 39) none (.load false 1 (.tmp 38))), (.mk (some 40) none (.call 175 [(.tmp 39), (.const (.int .i64 0)), (.const (.int .i64 3))])), (.mk (some 41) none (.mv (.tmp 40))), (.mk (some 42) (some (41, true)) (.fldA 4 (.tmp 1))), (.mk (some 43) (some (41, true)) (.load false 1 (.tmp 42))), (.mk (some 44) (some (41, true)) (.bin .eql (.tmp 43) (.const (.int .i64 0)))), (.mk (some 45) none (.pick (.tmp 41) (.tmp 44) (.const (.bool false)))), (.mk (some 2) none (.mv (.tmp 45)))]
def k6_call_numbers : ACode := (.cond (.tmp 35) (.seq (.reg r10_call_numbers) .ret) .skip)
def k4_call_numbers : ACode := (.cond (.tmp 25) (.seq (.reg r7_call_numbers) .ret) (.seq (.seq (.reg r8_call_numbers) k5_call_numbers) k6_call_numbers))
def k3_call_numbers : ACode := (.cond (.tmp 15) (.seq (.reg r5_call_numbers) .ret) (.seq (.reg r6_call_numbers) k4_call_numbers))
def k2_call_numbers : ACode := (.cond (.tmp 5) (.seq (.reg r3_call_numbers) .ret) (.seq (.reg r4_call_numbers) k3_call_numbers))
def k1_call_numbers : ACode := (.block 0 (.seq (.reg r2_call_numbers) k2_call_numbers))
def r11_call_numbers : List AOper := [(.mk (some 46) none (.fldA 3 (.tmp 1))), (.mk (some 47) none (.load false 1 (.tmp 46))), (.mk (some 48) none (.bin .eql (.tmp 47) (.const (.int .i64 0)))), (.mk (some 49) none (.mv (.tmp 48))), (.mk (some 50) (some (49, true)) (.fldA 4 (.tmp 1))), (.mk (some 51) (some (49, true)) (.load false 1 (.tmp 50))), (.mk (some 52) (some (49, true)) (.bin .eql (.tmp 51) (.const (.int .i64 0)))), (.mk (some 53) none (.pick (.tmp 49) (.tmp 52) (.const (.bool false)))), (.mk (some 2) none (.mv (.tmp 53)))]
def k7_call_numbers : ACode := (.seq (.reg r11_call_numbers) .ret)
def k0_call_numbers : ACode := (.seq (.seq (.reg r1_call_numbers) k1_call_numbers) k7_call_numbers)
def c_call_numbers : ACode := (.seq (.reg r0_call_numbers) k0_call_numbers)
theorem e_call_numbers : ofProg Tryz.prog 110 = some ⟨54, [(.tmp 2)], c_call_numbers⟩ := by kernel_rfl
def r0_call_Good : List AOper := [(.mk (some 1) none (.box 6 (.tmp 0))), (.mk (some 2) none (.mv (.const (.bool false))))]
def r1_call_Good : List AOper := [(.mk (some 7) none (.fldA 0 (.tmp 1))), (.mk (some 8) none (.load false 1 (.tmp 7))), (.mk (some 9) none (.call 107 [(.tmp 8)])), (.mk (some 6) none (.mv (.tmp 9))), (.mk (some 10) none (.ext (.tmp 6) 0)), (.mk (some 11) none (.ext (.tmp 6) 1)), (.mk (some 3) none (.mv (.tmp 10))), (.mk (some 4) none (.mv (.tmp 11)))]
def r2_call_Good : List AOper := [(.mk (some 12) none (.fldA 2 (.tmp 1))), (.mk (some 13) none (.fldA 0 (.tmp 12))), (.mk (some 14) none (.load false 1 (.tmp 13))), (.mk (some 15) none (.lenS (.tmp 14))), (.mk (some 16) none (.bin .eql (.tmp 15) (.const (.int .i64 0)))), (.mk (some 17) none (.mv (.tmp 16))), (.mk (some 18) (some (17, true)) (.mv (.tmp 4))), (.mk (some 19) (some (17, true)) (.call 108 [(.tmp 18), (.const (.string ⟨#[66]⟩))])), (.mk (some 20) (some (17, true)) (.un .not (.tmp 19))), (.mk (some 21) none (.pick (.tmp 17) (.tmp 20) (.const (.bool false)))), (.mk (some 22) none (.mv (.tmp 21))), (.mk (some 23) (some (22, false)) (.fldA 2 (.tmp 1))), (.mk (some 24) (some (22, false)) (.load true 1 (.tmp 23))), (.mk (some 25) (some (22, false)) (.call 87 [(.tmp 24)])), (.mk (some 26) (some (22, false)) (.mv (.tmp 25))), (.mk (some 27) (some (26, true)) (.mv (.tmp 4))), (.mk (some 28) (some (26, true)) (.call 109 [(.tmp 27), (.const (.string ⟨#[66, 98]⟩))])), (.mk (some 29) (some (22, false)) (.pick (.tmp 26) (.tmp 28) (.const (.bool false)))), (.mk (some 30) none (.pick (.tmp 22) (.const (.bool true)) (.tmp 29))), (.mk (some 5) none (.mv (.tmp 30)))]
def r3_call_Good : List AOper := [(.mk (some 31) none (.mv (.tmp 4))), (.mk (some 32) none (.bin .neq (.tmp 31) (.const (.string ⟨#[]⟩)))), (.mk (some 33) none (.mv (.tmp 32))), (.mk (some 34) (some (33, true)) (.fldA 1 (.tmp 1))), (.mk (some 35) (some (33, true)) (.load true 1 (.tmp 34))), (.mk (some 36) (some (33, true)) (.call 87 [(.tmp 35)])), (.mk (some 37) none (.pick (.tmp 33) (.tmp 36) (.const (.bool false)))), (.mk (some 38) none (.mv (.tmp 37))), (.mk (some 39) (some (38, true)) (.mv (.tmp 5))), (.mk (some 40) none (.pick (.tmp 38) (.tmp 39) (.const (.bool false)))), (.mk (some 41) none (.mv (.tmp 40))), (.mk (some 42) (some (41, true)) (.load true 6 (.tmp 1))), (.mk (some 43) (some (41, true)) (.call 110 [(.tmp 42)])), (.mk (some 44) none (.pick (.tmp 41) (.tmp 43) (.const (.bool false)))), (.mk (some 45) none (.mv (.tmp 44))), (.mk (some 46) (some (45, true)) (.fldA 5 (.tmp 1))), (.mk (some 47) (some (45, true)) (.load false 1 (.tmp 46))), (.mk (some 48) (some (45, true)) (.bin .eql (.tmp 47) (.const (.int .u64 0)))), (.mk (some 49) (some (45, true)) (.mv (.tmp 48))), (.mk (some 50) (some (49, false)) (.mv (.tmp 4))), (.mk (some 51) (some (49, false)) (.call 108 [(.tmp 50), (.const (.string ⟨#[87]⟩))])), (.mk (some 52) (some (45, true)) (.pick (.tmp 49) (.const (.bool true)) (.tmp 51))), (.mk (some 53) none (.pick (.tmp 45) (.tmp 52) (.const (.bool false)))), (.mk (some 2) none (.mv (.tmp 53)))]
def k2_call_Good : ACode := (.seq (.reg r3_call_Good) .ret)
def k1_call_Good : ACode := (.seq (.reg r2_call_Good) k2_call_Good)
def k0_call_Good : ACode := (.seq (.reg r1_call_Good) k1_call_Good)
def c_call_Good : ACode := (.seq (.reg r0_call_Good) k0_call_Good)
theorem e_call_Good : ofProg Tryz.prog 47 = some ⟨54, [(.tmp 2)], c_call_Good⟩ := by kernel_rfl
theorem Cut1_ok (d : Nat) (σ : AHeap) (s b a : ByteArray) (i : Int) (hs : ((one8 32).toList == s.toList) = false) (hi : firstIdx s 32 = i) (h0 : 0 ≤ i) (h1 : i ≤ 1000)
    (hb : slSO (.string s) none (some (i64 i)) = some (.string b)) (ha : slSO (.string s) (some (i64 (i + 1))) none = some (.string a)) :
    acall (ofProg Tryz.prog) 1000 (d + 3) 216 [.string s, .string (one8 32)] σ = some (.tuple [.string b, .string a, .bool true].toArray, σ) := by
  refine acall_flat e_internal_stringslite_Cut (by simp) rfl ?_
  have hx := fun L => Index_ok d (σ.fresh.grow L) s 32 hs
  have h2 : (((one8 32).size : Nat) : Int) = 1 := rfl
  simp (disch := omega) only [hx, hi, h0, r0_internal_stringslite_Cut, r1_internal_stringslite_Cut, r2_internal_stringslite_Cut, r3_internal_stringslite_Cut, k2_internal_stringslite_Cut, k1_internal_stringslite_Cut, r4_internal_stringslite_Cut, k3_internal_stringslite_Cut, k0_internal_stringslite_Cut, c_internal_stringslite_Cut, Z0, Z1, Z2, Z3, Z4, Z5, Z6, Z7, Z8, Z9, Z10, resAll, Nat.reduceAdd, Nat.reduceEqDiff, Nat.reduceLeDiff, Nat.reduceMul, ↓reduceIte, reduceCtorEq, Nat.reduceBEq, aoper, Nat.reduceLT, Int.reduceEq, Int.reduceLT, Int.reduceLE]
  refine ends_drw ?_
  simp (disch := omega) only [o_slStr, o_lenStr, lenStQ_s, h2, Option.map_some, Option.map_none, hb, ha, r0_internal_stringslite_Cut, r1_internal_stringslite_Cut, r2_internal_stringslite_Cut, r3_internal_stringslite_Cut, k2_internal_stringslite_Cut, k1_internal_stringslite_Cut, r4_internal_stringslite_Cut, k3_internal_stringslite_Cut, k0_internal_stringslite_Cut, c_internal_stringslite_Cut, Z0, Z1, Z2, Z3, Z4, Z5, Z6, Z7, Z8, Z9, Z10, resAll, Nat.reduceAdd, Nat.reduceEqDiff, Nat.reduceLeDiff, Nat.reduceMul, ↓reduceIte, reduceCtorEq, Nat.reduceBEq, aoper, Nat.reduceLT, Int.reduceEq, Int.reduceLT, Int.reduceLE]
theorem Cut_ok (d : Nat) (σ : AHeap) (s b a : ByteArray) (i : Int) (hs : ((one8 32).toList == s.toList) = false) (hi : firstIdx s 32 = i) (h0 : 0 ≤ i) (h1 : i ≤ 1000)
    (hb : slSO (.string s) none (some (i64 i)) = some (.string b)) (ha : slSO (.string s) (some (i64 (i + 1))) none = some (.string a)) :
    acall (ofProg Tryz.prog) 1000 (d + 4) 172 [.string s, .string (one8 32)] σ = some (.tuple [.string b, .string a, .bool true].toArray, σ) := by
  refine acall_flat e_strings_Cut (by simp) rfl ?_
  have hx := fun L => Cut1_ok d (σ.fresh.grow L) s b a i hs hi h0 h1 hb ha
  simp (disch := omega) only [hx, r0_strings_Cut, r1_strings_Cut, k0_strings_Cut, c_strings_Cut, Z0, Z1, Z2, Z3, Z4, Z5, Z6, Z7, Z8, Z9, Z10, resAll, Nat.reduceAdd, Nat.reduceEqDiff, Nat.reduceLeDiff, Nat.reduceMul, ↓reduceIte, reduceCtorEq, Nat.reduceBEq, aoper, Nat.reduceLT, Int.reduceEq, Int.reduceLT, Int.reduceLE]
abbrev sSend : ByteArray := ⟨#[115, 101, 110, 100, 32, 65, 98, 87]⟩
abbrev sRecv : ByteArray := ⟨#[114, 101, 99, 118, 32, 65, 98]⟩
abbrev lSend : ByteArray := ⟨#[65, 98, 87]⟩
abbrev lRecv : ByteArray := ⟨#[65, 98]⟩
theorem sl14_7 {x0 x1 x2 x3 x4 x5 x6 x7 x8 x9 x10 x11 x12 x13 : Value} : sliceL [x0, x1, x2, x3, x4, x5, x6, x7, x8, x9, x10, x11, x12, x13] 7 1 = some [x7] := rfl
theorem sl14_8 {x0 x1 x2 x3 x4 x5 x6 x7 x8 x9 x10 x11 x12 x13 : Value} : sliceL [x0, x1, x2, x3, x4, x5, x6, x7, x8, x9, x10, x11, x12, x13] 8 1 = some [x8] := rfl
theorem isCell_s {s : ByteArray} : isCell (.string s) = true := rfl
theorem cells_s {s : ByteArray} : (Value.string s).cells.toList = [.string s] := rfl
abbrev callL (op : Int) (aA : Option Addr) (nA fA : Nat) (aB : Option Addr) (nB fB : Nat) (X Y W : Int) : List Value := [i64 op, .slice aA nA fA, .slice aB nB fB, i64 X, i64 Y, u64 W]
abbrev callV (op : Int) (aA : Option Addr) (nA fA : Nat) (aB : Option Addr) (nB fB : Nat) (X Y W : Int) : Value := .agg (callL op aA nA fA aB nB fB X Y W).toArray
end Go.Proofs.YtidmcpkbcphpiaaGreat
namespace Go.Proofs.YtidmcpkbcphpiaaGreat
open Go Go.Hai
set_option maxRecDepth 20000
set_option linter.unusedSimpArgs false
set_option maxHeartbeats 8000000
attribute [local irreducible] Hai.Ends EndsR EndsO EndsD EndsX AHeap.grow
def eqTo {α : Type} (p : α → α → Bool) (l k : List α) : Nat → Bool
  | 0 => true
  | i + 1 => eqTo p l k i && (match l[i]?, k[i]? with | some x, some y => p x y | _, _ => true)
def eqL {α : Type} (p : α → α → Bool) (l k : List α) : Bool := decide (l.length = k.length) && eqTo p l k l.length
def eq5 (a b c d e a' b' c' d' e' : Int) : Bool := a == a' && (b == b' && (c == c' && (d == d' && e == e')))
def slotEq (x y : SlotD) : Bool := eq5 x.type x.thing x.rights x.badge x.up y.type y.thing y.rights y.badge y.up
def eq3 (a b c a' b' c' : Int) : Bool := a == a' && (b == b' && c == c')
def sameB (S T : StD) : Bool := eq3 S.threads S.slots S.things T.threads T.slots T.things && eqL slotEq S.sl T.sl && eqL thEq S.th T.th
end Go.Proofs.YtidmcpkbcphpiaaGreat
namespace Go.Proofs.YtidmcpkbcphpiaaGreat
open Go Go.Hai
set_option maxRecDepth 20000
set_option linter.unusedSimpArgs false
set_option maxHeartbeats 8000000
attribute [local irreducible] Hai.Ends EndsR EndsO EndsD EndsX EndsE AHeap.grow
def r0_slices_Clone_state_Slot_state_Slot : List AOper := [(.mk (some 2) none (.mv (.const (.slice none 0 0))))]
def r1_slices_Clone_state_Slot_state_Slot : List AOper := [(.mk (some 3) none (.mv (.tmp 0))), (.mk (some 4) none (.eqNil false (.tmp 3)))]
def r2_slices_Clone_state_Slot_state_Slot : List AOper := [(.mk (some 2) none (.mv (.const (.slice none 0 0))))]
def k1_slices_Clone_state_Slot_state_Slot : ACode := (.cond (.tmp 4) (.seq (.reg r2_slices_Clone_state_Slot_state_Slot) .ret) .skip)
def r3_slices_Clone_state_Slot_state_Slot : List AOper := [(.mk (some 5) none (.buildSl [] 5 0 [])), (.mk (some 6) none (.mv (.tmp 0))), (.mk (some 7) none (.app 5 40 (.tmp 5) (.tmp 6))), (.mk (some 2) none (.mv (.tmp 7)))]
def k2_slices_Clone_state_Slot_state_Slot : ACode := (.seq (.reg r3_slices_Clone_state_Slot_state_Slot) .ret)
def k0_slices_Clone_state_Slot_state_Slot : ACode := (.seq (.seq (.reg r1_slices_Clone_state_Slot_state_Slot) k1_slices_Clone_state_Slot_state_Slot) k2_slices_Clone_state_Slot_state_Slot)
def c_slices_Clone_state_Slot_state_Slot : ACode := (.seq (.reg r0_slices_Clone_state_Slot_state_Slot) k0_slices_Clone_state_Slot_state_Slot)
theorem e_slices_Clone_state_Slot_state_Slot : ofProg Tryz.prog 64 = some ⟨8, [(.tmp 2)], c_slices_Clone_state_Slot_state_Slot⟩ := by kernel_rfl
def r0_slices_Clone_thing_Thing_thing_Thing : List AOper := [(.mk (some 2) none (.mv (.const (.slice none 0 0))))]
def r1_slices_Clone_thing_Thing_thing_Thing : List AOper := [(.mk (some 3) none (.mv (.tmp 0))), (.mk (some 4) none (.eqNil false (.tmp 3)))]
def r2_slices_Clone_thing_Thing_thing_Thing : List AOper := [(.mk (some 2) none (.mv (.const (.slice none 0 0))))]
def k1_slices_Clone_thing_Thing_thing_Thing : ACode := (.cond (.tmp 4) (.seq (.reg r2_slices_Clone_thing_Thing_thing_Thing) .ret) .skip)
def r3_slices_Clone_thing_Thing_thing_Thing : List AOper := [(.mk (some 5) none (.buildSl [] 13 0 [])), (.mk (some 6) none (.mv (.tmp 0))), (.mk (some 7) none (.app 13 104 (.tmp 5) (.tmp 6))), (.mk (some 2) none (.mv (.tmp 7)))]
def k2_slices_Clone_thing_Thing_thing_Thing : ACode := (.seq (.reg r3_slices_Clone_thing_Thing_thing_Thing) .ret)
def k0_slices_Clone_thing_Thing_thing_Thing : ACode := (.seq (.seq (.reg r1_slices_Clone_thing_Thing_thing_Thing) k1_slices_Clone_thing_Thing_thing_Thing) k2_slices_Clone_thing_Thing_thing_Thing)
def c_slices_Clone_thing_Thing_thing_Thing : ACode := (.seq (.reg r0_slices_Clone_thing_Thing_thing_Thing) k0_slices_Clone_thing_Thing_thing_Thing)
theorem e_slices_Clone_thing_Thing_thing_Thing : ofProg Tryz.prog 65 = some ⟨8, [(.tmp 2)], c_slices_Clone_thing_Thing_thing_Thing⟩ := by kernel_rfl
def r0_state_Clone : List AOper := [(.mk (some 1) none (.box 5 (.tmp 0))), (.mk (some 2) none (.alloc [(.int .i64 0), (.int .i64 0), (.int .i64 0), (.slice none 0 0), (.slice none 0 0)] 5))]
def r1_state_Clone : List AOper := [(.mk (some 3) none (.fldA 0 (.tmp 1))), (.mk (some 4) none (.load true 3 (.tmp 3))), (.mk (some 5) none (.fldA 3 (.tmp 1))), (.mk (some 6) none (.load false 1 (.tmp 5))), (.mk (some 7) none (.call 64 [(.tmp 6)])), (.mk (some 8) none (.fldA 4 (.tmp 1))), (.mk (some 9) none (.load false 1 (.tmp 8))), (.mk (some 10) none (.call 65 [(.tmp 9)])), (.mk (some 11) none (.build [(.int .i64 0), (.int .i64 0), (.int .i64 0), (.slice none 0 0), (.slice none 0 0)] [(0, (3, (.tmp 4))), (3, (1, (.tmp 7))), (4, (1, (.tmp 10)))])), (.mk none none (.store 5 (.tmp 2) (.tmp 11)))]
def k0_state_Clone : ACode := (.seq (.drw r1_state_Clone [0, 1, 0, 4, 12, 0, 32, 124, 255, 511]) .ret)
def c_state_Clone : ACode := (.seq (.reg r0_state_Clone) k0_state_Clone)
theorem e_state_Clone : ofProg Tryz.prog 15 = some ⟨12, [(.cell 2 true 5)], c_state_Clone⟩ := by kernel_rfl
theorem Clone_slots_ok (d : Nat) (σ : AHeap) (l : List SlotD) (b f : Nat) (hlo : σ.low ≤ σ.n) (h : SlAt slotL 5 σ b l) (hl : 0 < l.length) (hm : l.length < 1000) :
    ∃ c τ, acall (ofProg Tryz.prog) 1000 (d + 1) 64 [.slice (some ⟨b, 0, none⟩) l.length f] σ = some (.slice (some ⟨c, 0, none⟩) l.length 1, τ) ∧ Keeps σ τ ∧ σ.n ≤ c ∧ c < τ.n ∧ τ.t.get c = some (rowOf (flatL slotL l, 5)) := by
  suffices hs : Hai.Ends (acode (acall (ofProg Tryz.prog) 1000 d) 1000 c_slices_Clone_state_Slot_state_Slot (Tr.of [.slice (some ⟨b, 0, none⟩) l.length f]) (σ.fresh.grow [])) (finA σ.n [.tmp 2] fun v τ => ∃ c, v = .slice (some ⟨c, 0, none⟩) l.length 1 ∧ Keeps σ.fresh τ ∧ σ.n ≤ c ∧ c < τ.n ∧ τ.t.get c = some (rowOf (flatL slotL l, 5))) by
    obtain ⟨v, τ', e, τ, ⟨c, rfl, g1, g2, g3, g4⟩, g⟩ := acall_addr e_slices_Clone_state_Slot_state_Slot (by simp) hlo hs
    rcases g with ⟨g, _⟩ | rfl
    · cases g
    · exact ⟨c, _, e, g1.back, g2, g3, g4⟩
  have hk := Keeps.self σ.fresh [(([] : List Value), 5)]
  have hfr : SlAt slotL 5 σ.fresh b l := h
  obtain ⟨τ, e, k1, k2, k3⟩ := app_copy (cells := slotL) (es := 5) (by_ := 40) (b' := σ.fresh.n) (f := f) (fun _ => rfl) (hfr.keeps hk) hl hm (by omega)
  have hn : (σ.fresh.grow [(([] : List Value), 5)]).n = σ.n + 1 := by rw [grow_n]; rfl
  rw [hn] at e k2 k3
  have h0 : (if Nat.beq 0 0 = true then 0 else 1) = 0 := rfl
  simp (disch := omega) only [o_eqNil, nilO_some, h0, Nat.beq_refl, e, r0_slices_Clone_state_Slot_state_Slot, r1_slices_Clone_state_Slot_state_Slot, r2_slices_Clone_state_Slot_state_Slot, k1_slices_Clone_state_Slot_state_Slot, r3_slices_Clone_state_Slot_state_Slot, k2_slices_Clone_state_Slot_state_Slot, k0_slices_Clone_state_Slot_state_Slot, c_slices_Clone_state_Slot_state_Slot, Z0, Z1, Z2, Z3, Z4, Z5, Z6, Z7, Z8, Z9, Z10, resAll, Nat.reduceAdd, Nat.reduceEqDiff, Nat.reduceLeDiff, Nat.reduceMul, ↓reduceIte, reduceCtorEq, Nat.reduceBEq, aoper, Nat.reduceLT, Int.reduceEq, Int.reduceLT, Int.reduceLE]
  refine ⟨⟨σ.n + 1, rfl, hk.trans k1, by omega, by omega, k3⟩, ?_⟩
  rw [k1.low, grow_low]; rfl
theorem Clone_things_ok (d : Nat) (σ : AHeap) (l : List ThingD) (b f : Nat) (hlo : σ.low ≤ σ.n) (h : SlAt thingL 13 σ b l) (hl : 0 < l.length) (hm : l.length < 1000) :
    ∃ c τ, acall (ofProg Tryz.prog) 1000 (d + 1) 65 [.slice (some ⟨b, 0, none⟩) l.length f] σ = some (.slice (some ⟨c, 0, none⟩) l.length 1, τ) ∧ Keeps σ τ ∧ σ.n ≤ c ∧ c < τ.n ∧ τ.t.get c = some (rowOf (flatL thingL l, 13)) := by
  suffices hs : Hai.Ends (acode (acall (ofProg Tryz.prog) 1000 d) 1000 c_slices_Clone_thing_Thing_thing_Thing (Tr.of [.slice (some ⟨b, 0, none⟩) l.length f]) (σ.fresh.grow [])) (finA σ.n [.tmp 2] fun v τ => ∃ c, v = .slice (some ⟨c, 0, none⟩) l.length 1 ∧ Keeps σ.fresh τ ∧ σ.n ≤ c ∧ c < τ.n ∧ τ.t.get c = some (rowOf (flatL thingL l, 13))) by
    obtain ⟨v, τ', e, τ, ⟨c, rfl, g1, g2, g3, g4⟩, g⟩ := acall_addr e_slices_Clone_thing_Thing_thing_Thing (by simp) hlo hs
    rcases g with ⟨g, _⟩ | rfl
    · cases g
    · exact ⟨c, _, e, g1.back, g2, g3, g4⟩
  have hk := Keeps.self σ.fresh [(([] : List Value), 13)]
  have hfr : SlAt thingL 13 σ.fresh b l := h
  obtain ⟨τ, e, k1, k2, k3⟩ := app_copy (cells := thingL) (es := 13) (by_ := 104) (b' := σ.fresh.n) (f := f) (fun _ => rfl) (hfr.keeps hk) hl hm (by omega)
  have hn : (σ.fresh.grow [(([] : List Value), 13)]).n = σ.n + 1 := by rw [grow_n]; rfl
  rw [hn] at e k2 k3
  have h0 : (if Nat.beq 0 0 = true then 0 else 1) = 0 := rfl
  simp (disch := omega) only [o_eqNil, nilO_some, h0, Nat.beq_refl, e, r0_slices_Clone_thing_Thing_thing_Thing, r1_slices_Clone_thing_Thing_thing_Thing, r2_slices_Clone_thing_Thing_thing_Thing, k1_slices_Clone_thing_Thing_thing_Thing, r3_slices_Clone_thing_Thing_thing_Thing, k2_slices_Clone_thing_Thing_thing_Thing, k0_slices_Clone_thing_Thing_thing_Thing, c_slices_Clone_thing_Thing_thing_Thing, Z0, Z1, Z2, Z3, Z4, Z5, Z6, Z7, Z8, Z9, Z10, resAll, Nat.reduceAdd, Nat.reduceEqDiff, Nat.reduceLeDiff, Nat.reduceMul, ↓reduceIte, reduceCtorEq, Nat.reduceBEq, aoper, Nat.reduceLT, Int.reduceEq, Int.reduceLT, Int.reduceLE]
  refine ⟨⟨σ.n + 1, rfl, hk.trans k1, by omega, by omega, k3⟩, ?_⟩
  rw [k1.low, grow_low]; rfl
theorem state_Clone_ok (d : Nat) (σ : AHeap) (S : StD) (b1 f1 b2 f2 : Nat) (hlo : σ.low ≤ σ.n) (h1 : SlAt slotL 5 σ b1 S.sl) (h2 : SlAt thingL 13 σ b2 S.th) (hl : 0 < S.sl.length) (hm : S.sl.length < 1000) (hl2 : 0 < S.th.length) (hm2 : S.th.length < 1000) :
    ∃ c1 c2 τ, acall (ofProg Tryz.prog) 1000 (d + 2) 15 [stV S (some ⟨b1, 0, none⟩) f1 (some ⟨b2, 0, none⟩) f2] σ = some (stV S (some ⟨c1, 0, none⟩) 1 (some ⟨c2, 0, none⟩) 1, τ) ∧ Keeps σ τ ∧ σ.n ≤ c1 ∧ c1 < c2 ∧ c2 < τ.n ∧
      τ.t.get c1 = some (rowOf (flatL slotL S.sl, 5)) ∧ τ.t.get c2 = some (rowOf (flatL thingL S.th, 13)) := by
  suffices hs : Hai.Ends (acode (acall (ofProg Tryz.prog) 1000 (d + 1)) 1000 c_state_Clone (Tr.of [stV S (some ⟨b1, 0, none⟩) f1 (some ⟨b2, 0, none⟩) f2]) (σ.fresh.grow [])) (finA σ.n [.cell 2 true 5] fun v τ => ∃ c1 c2, v = stV S (some ⟨c1, 0, none⟩) 1 (some ⟨c2, 0, none⟩) 1 ∧ Keeps σ.fresh τ ∧ σ.n ≤ c1 ∧ c1 < c2 ∧ c2 < τ.n ∧
      τ.t.get c1 = some (rowOf (flatL slotL S.sl, 5)) ∧ τ.t.get c2 = some (rowOf (flatL thingL S.th, 13))) by
    obtain ⟨v, τ', e, τ, ⟨c1, c2, rfl, g1, g2, g3, g4, g5, g6⟩, g⟩ := acall_addr e_state_Clone (by simp) hlo hs
    rcases g with ⟨g, _⟩ | rfl
    · cases g
    · exact ⟨c1, c2, _, e, g1.back, g2, g3, g4, g5, g6⟩
  have hk0 := Keeps.self σ.fresh [(stL S (some ⟨b1, 0, none⟩) f1 (some ⟨b2, 0, none⟩) f2, 5), ([.int .i64 0, .int .i64 0, .int .i64 0, .slice none 0 0, .slice none 0 0], 5)]
  simp (disch := omega) only [r0_state_Clone, r1_state_Clone, k0_state_Clone, c_state_Clone, Z0, Z1, Z2, Z3, Z4, Z5, Z6, Z7, Z8, Z9, Z10, resAll, Nat.reduceAdd, Nat.reduceEqDiff, Nat.reduceLeDiff, Nat.reduceMul, ↓reduceIte, reduceCtorEq, Nat.reduceBEq, aoper, Nat.reduceLT, Int.reduceEq, Int.reduceLT, Int.reduceLE]
  refine ends_drwE 9 (by kernel_rfl) ?_
  generalize hL : ([(stL S (some ⟨b1, 0, none⟩) f1 (some ⟨b2, 0, none⟩) f2, 5), ([Value.int .i64 0, .int .i64 0, .int .i64 0, .slice none 0 0, .slice none 0 0], 5)] : List (List Value × Nat)) = L at hk0
  have hlo0 : (σ.fresh.grow L).low ≤ (σ.fresh.grow L).n := low_grow fresh_le L
  have g1 : SlAt slotL 5 (σ.fresh.grow L) b1 S.sl := SlAt.keeps (σ := σ.fresh) h1 hk0
  have g2 : SlAt thingL 13 (σ.fresh.grow L) b2 S.th := SlAt.keeps (σ := σ.fresh) h2 hk0
  obtain ⟨c1, τ1, e1, k1, p1, q1, r1⟩ := Clone_slots_ok d ((σ.fresh.grow L).setLow (σ.fresh.grow L).n) S.sl b1 f1 (Nat.le_refl _) g1 hl hm
  have hS : (σ.fresh.grow L).low = σ.n := by rw [grow_low]; rfl
  have hkE := fun {os : List AOper} {t : Tmps} {Q : Tmps → AHeap → Prop} {d' : Option Nat} {op : AOp} {v : Value} => kontE_new (call := acall (ofProg Tryz.prog) 1000 (d + 1)) (n := 4) (os := os) (t := t) (Q := Q) (d := d') (op := op) (v := v) hlo0 (τ := τ1) k1.low
  rw [hS] at hkE
  have kL : Keeps (σ.fresh.grow L) (τ1.setLow σ.n) := ⟨k1.n, hS.symm, k1.dead, k1.row⟩
  have q1' : c1 < (τ1.setLow σ.n).n := q1
  have r1' : (τ1.setLow σ.n).t.get c1 = some (rowOf (flatL slotL S.sl, 5)) := r1
  have hnn : (σ.fresh.grow L).n = σ.n + L.length := grow_n σ.fresh L
  have p1' : σ.n + 2 ≤ c1 := by
    have : (σ.fresh.grow L).n ≤ c1 := p1
    rw [hnn, ← hL] at this; simpa using this
  generalize hX : τ1.setLow σ.n = X at *
  have kk := hk0.trans kL
  have hb0 : ∀ o n, X.loadN σ.fresh.n o n = sliceL (stL S (some ⟨b1, 0, none⟩) f1 (some ⟨b2, 0, none⟩) f2) o n := fun o n => by
    have := kL.own0 (e := 5) (r := stL S (some ⟨b1, 0, none⟩) f1 (some ⟨b2, 0, none⟩) f2) (by rw [← hL]; rfl) [] o n
    rwa [grow_nil] at this
  have hb1 : X.t.get (σ.fresh.n + 1) = some (rowOf ([.int .i64 0, .int .i64 0, .int .i64 0, .slice none 0 0, .slice none 0 0], 5)) := by
    have : σ.n + 1 < (σ.fresh.grow L).n := by rw [hnn, ← hL]; simp
    refine (kL.row _ this).trans (grow_new σ.fresh L 1 ?_)
    rw [← hL]; rfl
  have g2' := g2.keeps kL
  have hlx : X.low = σ.n := kk.low
  have hnx : σ.n + 2 ≤ X.n := by omega
  have hlX : X.low ≤ X.n := by omega
  obtain ⟨c2, τ2, e2, k2, p2, q2, r2⟩ := Clone_things_ok d (X.setLow X.n) S.th b2 f2 (Nat.le_refl _) g2' hl2 hm2
  have hkF := fun {os : List AOper} {t : Tmps} {Q : Tmps → AHeap → Prop} {d' : Option Nat} {op : AOp} {v : Value} => kontE_new (call := acall (ofProg Tryz.prog) 1000 (d + 1)) (n := 1) (os := os) (t := t) (Q := Q) (d := d') (op := op) (v := v) hlX (τ := τ2) k2.low
  have kY : Keeps X (τ2.setLow X.low) := ⟨k2.n, rfl, k2.dead, k2.row⟩
  have q2' : c2 < (τ2.setLow X.low).n := q2
  have r2' : (τ2.setLow X.low).t.get c2 = some (rowOf (flatL thingL S.th, 13)) := r2
  have p2' : X.n ≤ c2 := p2
  generalize hY : τ2.setLow X.low = Y at *
  have hlY : Y.low ≤ Y.n := by have := kY.low; have := kY.n; omega
  have hyb1 := (kY.row _ (by show σ.n + 1 < X.n; omega)).trans hb1
  have hyb0 : ∀ o n, Y.loadN σ.fresh.n o n = sliceL (stL S (some ⟨b1, 0, none⟩) f1 (some ⟨b2, 0, none⟩) f2) o n := fun o n => (kY.load o n (by show σ.n < X.n; omega)).trans (hb0 o n)
  obtain ⟨Z, hz1, hz2, hz3, hz4, hz5, hz6⟩ := stX_row (vs := stL S (some ⟨c1, 0, none⟩) 1 (some ⟨c2, 0, none⟩) 1) (o := 0) hyb1 (by have := kY.low; show Y.low ≤ σ.n + 1; omega) (by have := kY.n; show σ.n + 1 < Y.n; omega) (Nat.le_refl _) rfl
  have hzl : Z.loadN (σ.fresh.n + 1) 0 5 = some (stL S (some ⟨c1, 0, none⟩) 1 (some ⟨c2, 0, none⟩) 1) := load_row hz2 (Nat.le_refl _)
  have kZ : Keeps σ.fresh Z := ⟨by have := kk.n; have := kY.n; omega, by rw [hz5, kY.low, kk.low], by rw [hz6, kY.dead, kk.dead], fun b hb => by
    rw [hz3 b (by show b ≠ σ.n + 1; have : b < σ.n := hb; omega), kY.row b (by have : b < σ.n := hb; omega), kk.row b hb]⟩
  have hc1 : Z.t.get c1 = some (rowOf (flatL slotL S.sl, 5)) := by rw [hz3 c1 (by show c1 ≠ σ.n + 1; omega), kY.row c1 q1', r1']
  have hc2 : Z.t.get c2 = some (rowOf (flatL thingL S.th, 13)) := by rw [hz3 c2 (by show c2 ≠ σ.n + 1; omega), r2']
  subst hL
  simp (disch := omega) only [e_1, kontE_grow fresh_le, e1, hkE, r0_state_Clone, r1_state_Clone, k0_state_Clone, c_state_Clone, Z0, Z1, Z2, Z3, Z4, Z5, Z6, Z7, Z8, Z9, Z10, resAll, Nat.reduceAdd, Nat.reduceEqDiff, Nat.reduceLeDiff, Nat.reduceMul, ↓reduceIte, reduceCtorEq, Nat.reduceBEq, aoper, Nat.reduceLT, Int.reduceEq, Int.reduceLT, Int.reduceLE]
  simp (disch := omega) only [e_1, kontE_ok hlX, hb0, e2, hkF, r0_state_Clone, r1_state_Clone, k0_state_Clone, c_state_Clone, Z0, Z1, Z2, Z3, Z4, Z5, Z6, Z7, Z8, Z9, Z10, resAll, Nat.reduceAdd, Nat.reduceEqDiff, Nat.reduceLeDiff, Nat.reduceMul, ↓reduceIte, reduceCtorEq, Nat.reduceBEq, aoper, Nat.reduceLT, Int.reduceEq, Int.reduceLT, Int.reduceLE]
  simp (disch := omega) only [e_1, e_0, x_1, x_nil, kontE_ok hlY, kontX_ok hlY, hyb0, fillL_3, fill3_5, hz1, hzl, r0_state_Clone, r1_state_Clone, k0_state_Clone, c_state_Clone, Z0, Z1, Z2, Z3, Z4, Z5, Z6, Z7, Z8, Z9, Z10, resAll, Nat.reduceAdd, Nat.reduceEqDiff, Nat.reduceLeDiff, Nat.reduceMul, ↓reduceIte, reduceCtorEq, Nat.reduceBEq, aoper, Nat.reduceLT, Int.reduceEq, Int.reduceLT, Int.reduceLE]
  exact ⟨⟨c1, c2, rfl, kZ, by omega, by omega, by omega, hc1, hc2⟩, by have := kY.low; omega⟩
end Go.Proofs.YtidmcpkbcphpiaaGreat
namespace Go.Proofs.YtidmcpkbcphpiaaGreat
open Go Go.Hai
set_option maxRecDepth 20000
set_option linter.unusedSimpArgs false
set_option maxHeartbeats 8000000
attribute [local irreducible] Hai.Ends EndsR EndsO EndsD EndsX EndsE EndsK AHeap.grow AHeap.putR
def repL (e w n : Int) : List Value := [i64 e, u64 w, i64 n]
abbrev repV (e w n : Int) : Value := .agg (repL e w n).toArray
def mailT (w b f : Int) : ThingD := ⟨3, 0, 0, 0, 0, f, b, true, w, 0, 0, 0, 0⟩
def setT (S : StD) (i : Nat) (t : ThingD) : StD := { S with th := S.th.set i t }
def sendF (S : StD) (box : SlotD) (w : Int) : StD × Int := match atI S.th box.thing with
  | some t => if t.full then (S, 13) else (setT S box.thing.toNat (mailT w box.badge 0), 0)
  | none => (S, 0)
def StOut (σ : AHeap) (a b : Nat) (T : StD) (v : Value) (τ : AHeap) : Prop := ∃ b1 f1 b2 f2, v = stV T (some ⟨b1, 0, none⟩) f1 (some ⟨b2, 0, none⟩) f2 ∧ SlAt slotL 5 τ b1 T.sl ∧ SlAt thingL 13 τ b2 T.th ∧ Keeps σ τ ∧ (b1 = a ∨ σ.n ≤ b1) ∧ (b2 = b ∨ σ.n ≤ b2)
end Go.Proofs.YtidmcpkbcphpiaaGreat
namespace Go.Proofs.YtidmcpkbcphpiaaGreat
open Go Go.Hai
set_option maxRecDepth 20000
set_option linter.unusedSimpArgs false
set_option maxHeartbeats 8000000
attribute [local irreducible] Hai.Ends EndsR EndsO EndsD EndsX EndsE EndsK AHeap.grow AHeap.putR okLow inN
def mailE : ThingD := ⟨3, 0, 0, 0, 0, 0, 0, false, 0, 0, 0, 0, 0⟩
def recvF (S : StD) (box : SlotD) : StD × Int × Int × Int := match atI S.th box.thing with
  | some t => if t.full then (setT S box.thing.toNat mailE, 0, t.word, t.badge) else (S, 14, 0, 0)
  | none => (S, 0, 0, 0)
end Go.Proofs.YtidmcpkbcphpiaaGreat
namespace Go.Proofs.YtidmcpkbcphpiaaGreat
open Go Go.Hai
set_option maxRecDepth 20000
set_option linter.unusedSimpArgs false
set_option maxHeartbeats 8000000
attribute [local irreducible] Hai.Ends EndsR EndsO EndsD EndsX EndsE EndsK AHeap.grow AHeap.putR okLow inN
theorem capF_in {S : StD} (hg : goodB S = true) {thread : Int} {l : List Int} (h : (capF S thread l).2.2 = 0) : ∃ x t, (capF S thread l).2.1 = x ∧ capNone x = false ∧ atI S.sl (capF S thread l).1 = some x ∧ atI S.th x.thing = some t ∧ t.type = x.type ∧ t.type ≠ 0 := by
  unfold capF at h ⊢
  split at h
  · next c1 =>
    rw [if_pos c1]
    obtain ⟨q1, q2⟩ := slotF_in c1
    obtain ⟨x, x1, x2⟩ := atI_some q1 q2
    have hsa : slotAt S (slotF S thread l).1 = x := by unfold slotAt; rw [x1]
    rw [hsa] at h ⊢
    cases c2 : capNone x with
    | true => rw [c2] at h; simp at h
    | false =>
      have hc : capsB S = true := by unfold goodB at hg; simp only [Bool.and_eq_true] at hg; exact hg.1.1.1.1.1.2
      have hx := all_get hc x2
      unfold slotB at hx
      rw [c2] at hx
      simp only [Bool.and_eq_true, Bool.false_or, Bool.not_false, Bool.true_and] at hx
      have hx' := hx.2
      split at hx'
      · next t ht =>
        simp only [Bool.and_eq_true, Bool.not_eq_true', decide_eq_false_iff_not, decide_eq_true_eq] at hx'
        exact ⟨x, t, by simp, by rw [c2], by simpa using x1, ht, hx'.2, hx'.1⟩
      · cases hx'
  · next c1 => simp at h; exact absurd h c1
theorem good_len {S : StD} (hg : goodB S = true) : 0 < S.sl.length ∧ S.sl.length < 1000 ∧ 0 < S.th.length ∧ S.th.length < 1000 := by
  unfold goodB at hg
  simp only [Bool.and_eq_true, decide_eq_true_eq] at hg
  obtain ⟨⟨⟨⟨⟨⟨⟨⟨hgeo, hs⟩, ht⟩, _⟩, _⟩, _⟩, _⟩, _⟩, _⟩ := hg
  unfold goodGeo at hgeo
  omega
def do7F (S : StD) (thread : Int) (l : List Int) (W : Int) : StD × Int :=
  if pathB l = true then
    (if (capF S thread l).2.2 = 0 then (if (capF S thread l).2.1.type = 3 then (if withinB 2 (capF S thread l).2.1.rights = true then sendF S (capF S thread l).2.1 W else (S, 6)) else (S, 7)) else (S, (capF S thread l).2.2))
  else (S, 1)
def do8F (S : StD) (thread : Int) (l : List Int) : StD × Int × Int × Int :=
  if pathB l = true then
    (if (capF S thread l).2.2 = 0 then (if (capF S thread l).2.1.type = 3 then (if withinB 1 (capF S thread l).2.1.rights = true then recvF S (capF S thread l).2.1 else (S, 6, 0, 0)) else (S, 7, 0, 0)) else (S, (capF S thread l).2.2, 0, 0))
  else (S, 1, 0, 0)
end Go.Proofs.YtidmcpkbcphpiaaGreat
namespace Go.Proofs.YtidmcpkbcphpiaaGreat
open Go Go.Hai
structure TA (S T : StD) : Prop where
  threads : T.threads = S.threads
  slots : T.slots = S.slots
  things : T.things = S.things
  sl : T.sl = S.sl
  len : T.th.length = S.th.length
  th : ∀ i : Nat, T.th[i]? = S.th[i]? ∨ ∃ x y, S.th[i]? = some x ∧ T.th[i]? = some y ∧ x.type = 3 ∧ y.type = 3
section
variable {S T : StD}
theorem TA.map (h : TA S T) {β : Type} (g : ThingD → β) (hg : ∀ x y : ThingD, x.type = 3 → y.type = 3 → g x = g y) (i : Nat) : (T.th[i]?).map g = (S.th[i]?).map g := by
  rcases h.th i with e | ⟨x, y, e1, e2, e3, e4⟩
  · rw [e]
  · rw [e1, e2]; simp [hg x y e3 e4]
theorem TA.mapI (h : TA S T) {β : Type} (g : ThingD → β) (hg : ∀ x y : ThingD, x.type = 3 → y.type = 3 → g x = g y) (n : Int) : (atI T.th n).map g = (atI S.th n).map g := by
  unfold atI
  split
  · exact h.map g hg _
  · rfl
theorem thereB_map (S : StD) (n : Int) : thereB S n = ((atI S.th n).map fun t => !(decide (t.type = 0))).getD false := by
  unfold thereB; cases atI S.th n <;> rfl
theorem TA.thereB (h : TA S T) (n : Int) : Proofs.YtidmcpkbcphpiaaGreat.thereB T n = Proofs.YtidmcpkbcphpiaaGreat.thereB S n := by
  rw [thereB_map, thereB_map, h.mapI _ (fun x y e1 e2 => by rw [e1, e2])]
theorem slotB_map (S : StD) (x : SlotD) : slotB S x = (capGood x && !(capNone x && !(decide (x.up = -1))) && !(!(capNone x) && decide (x.up < -1)) && (capNone x || ((atI S.th x.thing).map fun t => !(decide (t.type = 0)) && decide (t.type = x.type)).getD false)) := by
  unfold slotB; cases atI S.th x.thing <;> rfl
theorem TA.slotB (h : TA S T) : Proofs.YtidmcpkbcphpiaaGreat.slotB T = Proofs.YtidmcpkbcphpiaaGreat.slotB S := by
  funext x
  rw [slotB_map, slotB_map, h.mapI _ (fun x y e1 e2 => by rw [e1, e2])]
theorem TA.capsB (h : TA S T) : Proofs.YtidmcpkbcphpiaaGreat.capsB T = Proofs.YtidmcpkbcphpiaaGreat.capsB S := by
  unfold Proofs.YtidmcpkbcphpiaaGreat.capsB; rw [h.sl, h.slotB]
theorem goesB_map (S : StD) (node : Int) (j : Nat) (x : SlotD) : goesB S node j x = (decide (x.type = 2) && ((atI S.th node).map fun t => hasB t j).getD false && thereB S x.thing) := by
  unfold goesB; cases atI S.th node <;> rfl
theorem hasB_3 {x y : ThingD} (hx : x.type = 3) (hy : y.type = 3) (j : Int) : hasB x j = hasB y j := by
  have e : ¬ ((3 : Int) = 2) := by decide
  unfold hasB; rw [hx, hy]; simp [e]
theorem TA.goesB (h : TA S T) : Proofs.YtidmcpkbcphpiaaGreat.goesB T = Proofs.YtidmcpkbcphpiaaGreat.goesB S := by
  funext n j x
  rw [goesB_map, goesB_map, h.mapI _ (fun x y e1 e2 => hasB_3 e1 e2 _), h.thereB]
theorem TA.wTo (h : TA S T) (r : Int → List Int → List Int) (node : Int) (V : List Int) : ∀ j, Proofs.YtidmcpkbcphpiaaGreat.wTo T r node V j = Proofs.YtidmcpkbcphpiaaGreat.wTo S r node V j := by
  intro j
  induction j with
  | zero => rfl
  | succ j ih =>
    unfold Proofs.YtidmcpkbcphpiaaGreat.wTo
    rw [h.sl, h.goesB, ih]
theorem TA.wIn (h : TA S T) : ∀ k, Proofs.YtidmcpkbcphpiaaGreat.wIn T k = Proofs.YtidmcpkbcphpiaaGreat.wIn S k := by
  intro k
  induction k with
  | zero => rfl
  | succ k ih =>
    funext node V
    unfold Proofs.YtidmcpkbcphpiaaGreat.wIn
    rw [ih, h.sl, h.wTo]
theorem firstI_map {α : Type} (p : α → Bool) : ∀ (l : List α) (k : Nat), firstI p l k = firstI id (l.map p) k := by
  intro l
  induction l with
  | nil => intro k; rfl
  | cons a l ih => intro k; simp only [firstI, List.map_cons, ih, id]
theorem TA.ownI (h : TA S T) (z : Int) : Proofs.YtidmcpkbcphpiaaGreat.ownI T z = Proofs.YtidmcpkbcphpiaaGreat.ownI S z := by
  unfold Proofs.YtidmcpkbcphpiaaGreat.ownI
  have e : T.th.map (fun t => hasB t z) = S.th.map (fun t => hasB t z) := List.ext_getElem? fun i => by
    rw [List.getElem?_map, List.getElem?_map]
    exact h.map _ (fun x y e1 e2 => hasB_3 e1 e2 _) i
  rw [firstI_map, firstI_map (l := S.th), e]
theorem insideB_map (S : StD) (node slot : Int) : insideB S node slot = ((atI S.th node).map fun t => decide (t.type = 2) && (wIn S (S.th.length + 1) node []).contains (ownI S slot)).getD false := by
  unfold insideB; cases atI S.th node <;> rfl
theorem TA.insideB (h : TA S T) (node slot : Int) : Proofs.YtidmcpkbcphpiaaGreat.insideB T node slot = Proofs.YtidmcpkbcphpiaaGreat.insideB S node slot := by
  rw [insideB_map, insideB_map, h.wIn, h.ownI, h.len, h.mapI _ (fun x y e1 e2 => by rw [e1, e2])]
theorem TA.ringB (h : TA S T) : Proofs.YtidmcpkbcphpiaaGreat.ringB T = Proofs.YtidmcpkbcphpiaaGreat.ringB S := by
  unfold Proofs.YtidmcpkbcphpiaaGreat.ringB
  rw [h.sl]
  congr 2
  funext i x
  rw [h.insideB]
theorem TA.nodesTo (h : TA S T) : ∀ k, Proofs.YtidmcpkbcphpiaaGreat.nodesTo T k = Proofs.YtidmcpkbcphpiaaGreat.nodesTo S k := by
  intro k
  induction k with
  | zero => unfold Proofs.YtidmcpkbcphpiaaGreat.nodesTo; rw [h.sl]
  | succ k ih =>
    unfold Proofs.YtidmcpkbcphpiaaGreat.nodesTo
    rw [ih]
    rcases h.th k with e | ⟨x, y, e1, e2, e3, e4⟩
    · rw [e]
    · rw [e1, e2]
      have e : ¬ ((3 : Int) = 2) := by decide
      simp only [e3, e4, e, if_false]
theorem TA.nodesB (h : TA S T) : Proofs.YtidmcpkbcphpiaaGreat.nodesB T = Proofs.YtidmcpkbcphpiaaGreat.nodesB S := by
  unfold Proofs.YtidmcpkbcphpiaaGreat.nodesB
  rw [h.len, h.nodesTo, h.sl]
theorem TA.holdTo (h : TA S T) (n : Int) : ∀ k, Proofs.YtidmcpkbcphpiaaGreat.holdTo T n k = Proofs.YtidmcpkbcphpiaaGreat.holdTo S n k := by
  intro k
  induction k with
  | zero => rfl
  | succ k ih => unfold Proofs.YtidmcpkbcphpiaaGreat.holdTo; rw [ih, h.sl]
theorem TA.allowedB (h : TA S T) : Proofs.YtidmcpkbcphpiaaGreat.allowedB T = Proofs.YtidmcpkbcphpiaaGreat.allowedB S := by
  have e : ∀ x k z, aF T x k z = aF S x k z := by
    intro x k
    induction k with
    | zero => intro z; rfl
    | succ k ih => intro z; unfold aF; rw [h.sl]; split <;> simp only [ih]
  unfold Proofs.YtidmcpkbcphpiaaGreat.allowedB
  rw [h.sl]
  congr 1
  funext i x
  unfold allowB
  rw [e, h.sl]
theorem allTo_all {α : Type} {p : Nat → α → Bool} {l : List α} : ∀ n, (∀ i x, i < n → l[i]? = some x → p i x = true) → allTo p l n = true := by
  intro n
  induction n with
  | zero => intro _; rfl
  | succ n ih =>
    intro h
    unfold allTo
    rw [ih fun i x hi hx => h i x (by omega) hx]
    cases hx : l[n]? with
    | none => rfl
    | some x => simp [h n x (by omega) hx]
theorem TA.thingB (h : TA S T) (i : Nat) (t : ThingD) : Proofs.YtidmcpkbcphpiaaGreat.thingB T i t = Proofs.YtidmcpkbcphpiaaGreat.thingB S i t := by
  unfold Proofs.YtidmcpkbcphpiaaGreat.thingB frmBad isRootB rootEq
  rw [h.holdTo, h.sl, h.threads, h.slots, h.things]
theorem TA.thingsB (h : TA S T) (hg : Proofs.YtidmcpkbcphpiaaGreat.thingsB S = true) (hy : ∀ (i : Nat) (y : ThingD), T.th[i]? = some y → S.th[i]? = some y ∨ (thGood y = true ∧ frmBad S y = false)) : Proofs.YtidmcpkbcphpiaaGreat.thingsB T = true := by
  unfold Proofs.YtidmcpkbcphpiaaGreat.thingsB at hg ⊢
  refine allTo_all _ fun i y hi hT => ?_
  rw [h.thingB]
  rcases hy i y hT with e | ⟨e1, e2⟩
  · exact allTo_true e _ (by rw [← h.len]; exact hi) hg
  · rcases h.th i with e | ⟨x, y', e3, e4, e5, e6⟩
    · exact allTo_true (e ▸ hT) _ (by rw [← h.len]; exact hi) hg
    · rw [hT] at e4
      cases e4
      have hx := allTo_true e3 _ (by rw [← h.len]; exact hi) hg
      unfold Proofs.YtidmcpkbcphpiaaGreat.thingB at hx ⊢
      rw [e1, e2]
      have n0 : decide ((3 : Int) = 0) = false := by decide
      have hr : rootEq S i x = false := by
        have e : ((3 : Int) == 2) = false := by decide
        unfold rootEq eq13; rw [e5, e]; rfl
      rw [hr, e5] at hx
      rw [e6]
      cases hb : isRootB S i with
      | true => rw [hb] at hx; simp at hx
      | false =>
        rw [hb] at hx
        rw [n0] at hx ⊢
        simp only [Bool.and_eq_true] at hx ⊢
        exact ⟨⟨⟨trivial, by simp⟩, by simp⟩, hx.2⟩
theorem TA.thrT (h : TA S T) (G : GoodF S) {z : Int} : thrTz T z = thrTz S z := by
  unfold thrTz
  rw [h.sl]
  cases hz : atI S.sl z with
  | none => rfl
  | some x =>
    simp only
    unfold Proofs.YtidmcpkbcphpiaaGreat.thrT
    split
    · next hc =>
      have hx : ∃ i : Nat, S.sl[i]? = some x := by
        unfold atI at hz
        split at hz
        · exact ⟨_, hz⟩
        · cases hz
      obtain ⟨i, hx⟩ := hx
      obtain ⟨t, e1, e2, e3, e4, e5⟩ := G.link hx hc.1
      have : atI T.th x.thing = atI S.th x.thing := by
        unfold atI
        rw [if_pos e3, if_pos e3]
        rcases h.th x.thing.toNat with e | ⟨a, b, f1, f2, f3, f4⟩
        · exact e
        · rw [e2] at f1
          cases f1
          have := e5.1
          omega
      rw [this]
    · rfl
theorem TA.rootT (h : TA S T) (G : GoodF S) {n : Int} (h0 : 0 ≤ n) (h1 : n ≤ S.threads - 1) : Proofs.YtidmcpkbcphpiaaGreat.rootT T n = Proofs.YtidmcpkbcphpiaaGreat.rootT S n := by
  unfold Proofs.YtidmcpkbcphpiaaGreat.rootT
  obtain ⟨t, r1, r2, r3⟩ := G.root h0 h1
  rcases h.th (2 + n).toNat with e | ⟨a, b, f1, f2, f3, f4⟩
  · rw [e]
  · rw [r1] at f1
    cases f1
    have := r3.1
    omega
theorem TA.stepTo (h : TA S T) (G : GoodF S) (t0 : ThingD) (l : List Int) : ∀ i, Proofs.YtidmcpkbcphpiaaGreat.stepTo T t0 l i = Proofs.YtidmcpkbcphpiaaGreat.stepTo S t0 l i := by
  intro i
  induction i with
  | zero => rfl
  | succ i ih =>
    have hb : ∀ z, thrBz T z = thrBz S z := fun z => by unfold thrBz; rw [h.sl]
    unfold Proofs.YtidmcpkbcphpiaaGreat.stepTo
    rw [ih]
    simp only [h.thrT G, hb]
theorem TA.slotF (h : TA S T) (hg : goodB S = true) (hgT : goodB T = true) (n : Int) (l : List Int) : Proofs.YtidmcpkbcphpiaaGreat.slotF T n l = Proofs.YtidmcpkbcphpiaaGreat.slotF S n l := by
  unfold Proofs.YtidmcpkbcphpiaaGreat.slotF
  have G := goodF hg
  rw [hg, hgT, h.threads]
  split
  · next hc => rw [h.rootT G hc.2.1.1 hc.2.1.2, h.stepTo G]
  · rfl
theorem TA.capF (h : TA S T) (hg : goodB S = true) (hgT : goodB T = true) (n : Int) (l : List Int) : Proofs.YtidmcpkbcphpiaaGreat.capF T n l = Proofs.YtidmcpkbcphpiaaGreat.capF S n l := by
  unfold Proofs.YtidmcpkbcphpiaaGreat.capF slotAt
  rw [h.slotF hg hgT, h.sl]
end
theorem setT_th (S : StD) (k : Nat) (t : ThingD) (i : Nat) : (setT S k t).th[i]? = if k = i then (if i < S.th.length then some t else none) else S.th[i]? := by
  unfold setT
  simp only
  by_cases h : k = i
  · subst h
    rw [if_pos rfl, List.getElem?_set_self']
    by_cases hl : k < S.th.length
    · simp [hl]
    · simp [hl]
  · rw [if_neg h, List.getElem?_set_ne h]
end Go.Proofs.YtidmcpkbcphpiaaGreat
namespace Go.Proofs.YtidmcpkbcphpiaaGreat
open Go Go.Hai
theorem thEq_eq {a b : ThingD} (h : thEq a b = true) : a = b := by
  obtain ⟨a1, a2, a3, a4, a5, a6, a7, a8, a9, a10, a11, a12, a13⟩ := a
  obtain ⟨b1, b2, b3, b4, b5, b6, b7, b8, b9, b10, b11, b12, b13⟩ := b
  simp only [thEq, eq13, Bool.and_eq_true, beq_iff_eq] at h
  obtain ⟨rfl, rfl, rfl, rfl, rfl, rfl, rfl, rfl, rfl, rfl, rfl, rfl, rfl⟩ := h
  rfl
theorem atI_to {α : Type} {l : List α} {z : Int} {x : α} (h : atI l z = some x) : l[z.toNat]? = some x ∧ 0 ≤ z := by
  unfold atI at h
  split at h
  · exact ⟨h, by assumption⟩
  · cases h
end Go.Proofs.YtidmcpkbcphpiaaGreat
namespace Go.Proofs.YtidmcpkbcphpiaaGreat
open Go Go.Hai
def noneS : SlotD := ⟨0, 0, 0, 0, -1⟩
def eUp (i up : Int) (x : SlotD) : SlotD := if x.up = i then { x with up := up } else x
def eFrm (i : Int) (t : ThingD) : ThingD := if t.frm = i + 1 then { t with frm := 0 } else t
def empS (S : StD) (i up : Int) : StD := { S with sl := (S.sl.map (eUp i up)).set i.toNat noneS, th := S.th.map (eFrm i) }
def emp1 (S : StD) (i : Int) : StD × Bool := match atI S.sl i with
  | some x => if capNone x then (S, false) else (empS S i x.up, true)
  | none => (S, false)
def bInt (b : Bool) : Int := if b then 1 else 0
def empL : StD → List Int → StD × Int
  | S, [] => (S, 0)
  | S, i :: l => ((empL (emp1 S i).1 l).1, bInt (emp1 S i).2 + (empL (emp1 S i).1 l).2)
def empR (S : StD) (base : Int) : Nat → StD × Int
  | 0 => (S, 0)
  | k + 1 => ((emp1 (empR S base k).1 (base + k)).1, (empR S base k).2 + bInt (emp1 (empR S base k).1 (base + k)).2)
def heldF (S : StD) (t : Int) : Bool := decide (0 ≤ firstI (fun x => !(capNone x) && decide (x.thing = t)) S.sl 0)
def stays (S : StD) (t : Nat) (x : ThingD) : Bool := decide (x.type = 0) || isRootB S t || heldF S t
def lostF (S : StD) (t : Nat) : StD × Int × Bool := match S.th[t]? with
  | none => (S, 0, false)
  | some x => if stays S t x = true then (S, 0, false) else
    if x.type = 2 then (setT (empR S x.base (pw x.bits).toNat).1 t zeroT, (empR S x.base (pw x.bits).toNat).2, true) else (setT S t zeroT, 0, true)
def sweep (S : StD) : Nat → StD × Int × Bool
  | 0 => (S, 0, false)
  | k + 1 => ((lostF (sweep S k).1 k).1, (sweep S k).2.1 + (lostF (sweep S k).1 k).2.1, (lostF (sweep S k).1 k).2.2 || (sweep S k).2.2)
def sweeps : Nat → StD → StD × Int
  | 0, S => (S, 0)
  | f + 1, S => if (sweep S S.th.length).2.2 = true then ((sweeps f (sweep S S.th.length).1).1, (sweep S S.th.length).2.1 + (sweeps f (sweep S S.th.length).1).2) else ((sweep S S.th.length).1, (sweep S S.th.length).2.1)
def live (S : StD) : Nat := S.th.countP fun t => !(decide (t.type = 0))
def takeF (S : StD) (l : List Int) : StD × Int := if goodB S = true then ((sweeps (live (empL S l).1 + 1) (empL S l).1).1, (empL S l).2 + (sweeps (live (empL S l).1 + 1) (empL S l).1).2) else (S, 0)
theorem empL_inv {P : StD → Prop} (h1 : ∀ S i, P S → P (emp1 S i).1) : ∀ (l : List Int) (S : StD), P S → P (empL S l).1 := by
  intro l
  induction l with
  | nil => intro S h; exact h
  | cons i l ih => intro S h; exact ih _ (h1 S i h)
theorem empR_inv {P : StD → Prop} (h1 : ∀ S i, P S → P (emp1 S i).1) (S : StD) (base : Int) (h : P S) : ∀ k, P (empR S base k).1 := by
  intro k
  induction k with
  | zero => exact h
  | succ k ih => exact h1 _ _ ih
theorem lostF_inv {P : StD → Prop} (h1 : ∀ S i, P S → P (emp1 S i).1) (h2 : ∀ S t, P S → P (setT S t zeroT)) (S : StD) (t : Nat) (h : P S) : P (lostF S t).1 := by
  unfold lostF
  split
  · exact h
  · split
    · exact h
    · split
      · exact h2 _ _ (empR_inv h1 S _ h _)
      · exact h2 _ _ h
theorem sweep_inv {P : StD → Prop} (h1 : ∀ S i, P S → P (emp1 S i).1) (h2 : ∀ S t, P S → P (setT S t zeroT)) (S : StD) (h : P S) : ∀ k, P (sweep S k).1 := by
  intro k
  induction k with
  | zero => exact h
  | succ k ih => exact lostF_inv h1 h2 _ _ ih
theorem sweeps_inv {P : StD → Prop} (h1 : ∀ S i, P S → P (emp1 S i).1) (h2 : ∀ S t, P S → P (setT S t zeroT)) : ∀ (f : Nat) (S : StD), P S → P (sweeps f S).1 := by
  intro f
  induction f with
  | zero => intro S h; exact h
  | succ f ih =>
    intro S h
    unfold sweeps
    split
    · exact ih _ (sweep_inv h1 h2 S h _)
    · exact sweep_inv h1 h2 S h _
theorem empL_cnt {P : StD → Int → Prop} (h1 : ∀ S i n, P S n → P (emp1 S i).1 (n + bInt (emp1 S i).2)) : ∀ (l : List Int) (S : StD) (n : Int), P S n → P (empL S l).1 (n + (empL S l).2) := by
  intro l
  induction l with
  | nil => intro S n h; simpa [empL] using h
  | cons i l ih =>
    intro S n h
    have := ih _ _ (h1 S i n h)
    simp only [empL]
    rw [← Int.add_assoc]
    exact this
theorem empR_cnt {P : StD → Int → Prop} (h1 : ∀ S i n, P S n → P (emp1 S i).1 (n + bInt (emp1 S i).2)) (S : StD) (base : Int) (n : Int) (h : P S n) : ∀ k, P (empR S base k).1 (n + (empR S base k).2) := by
  intro k
  induction k with
  | zero => simpa [empR] using h
  | succ k ih =>
    simp only [empR]
    rw [← Int.add_assoc]
    exact h1 _ _ _ ih
theorem lostF_cnt {P : StD → Int → Prop} (h1 : ∀ S i n, P S n → P (emp1 S i).1 (n + bInt (emp1 S i).2)) (h2 : ∀ S t n, P S n → P (setT S t zeroT) n) (S : StD) (t : Nat) (n : Int) (h : P S n) : P (lostF S t).1 (n + (lostF S t).2.1) := by
  unfold lostF
  split
  · simpa using h
  · split
    · simpa using h
    · split
      · exact h2 _ _ _ (empR_cnt h1 S _ n h _)
      · simpa using h2 _ _ _ h
theorem sweep_cnt {P : StD → Int → Prop} (h1 : ∀ S i n, P S n → P (emp1 S i).1 (n + bInt (emp1 S i).2)) (h2 : ∀ S t n, P S n → P (setT S t zeroT) n) (S : StD) (n : Int) (h : P S n) : ∀ k, P (sweep S k).1 (n + (sweep S k).2.1) := by
  intro k
  induction k with
  | zero => simpa [sweep] using h
  | succ k ih =>
    simp only [sweep]
    rw [← Int.add_assoc]
    exact lostF_cnt h1 h2 _ _ _ ih
theorem sweeps_cnt {P : StD → Int → Prop} (h1 : ∀ S i n, P S n → P (emp1 S i).1 (n + bInt (emp1 S i).2)) (h2 : ∀ S t n, P S n → P (setT S t zeroT) n) : ∀ (f : Nat) (S : StD) (n : Int), P S n → P (sweeps f S).1 (n + (sweeps f S).2) := by
  intro f
  induction f with
  | zero => intro S n h; simpa [sweeps] using h
  | succ f ih =>
    intro S n h
    unfold sweeps
    split
    · simp only
      rw [← Int.add_assoc]
      exact ih _ _ (sweep_cnt h1 h2 S n h _)
    · exact sweep_cnt h1 h2 S n h _
theorem takeF_cnt {P : StD → Int → Prop} (h1 : ∀ S i n, P S n → P (emp1 S i).1 (n + bInt (emp1 S i).2)) (h2 : ∀ S t n, P S n → P (setT S t zeroT) n) (S : StD) (l : List Int) (h : P S 0) : P (takeF S l).1 (takeF S l).2 := by
  unfold takeF
  split
  · have a := empL_cnt h1 l S 0 h
    have b := sweeps_cnt h1 h2 (live (empL S l).1 + 1) _ _ a
    rw [Int.zero_add] at b
    exact b
  · exact h
theorem emp1_cases (S : StD) (i : Int) : emp1 S i = (S, false) ∨ ∃ x, atI S.sl i = some x ∧ capNone x = false ∧ emp1 S i = (empS S i x.up, true) := by
  unfold emp1
  split
  · next x hx =>
    cases g : capNone x with
    | true => exact .inl (by simp)
    | false => exact .inr ⟨x, hx, g, by simp⟩
  · exact .inl rfl
theorem empS_get {S : StD} {i up : Int} {x : SlotD} (hx : atI S.sl i = some x) (k : Nat) : (empS S i up).sl[k]? = if i.toNat = k then some noneS else (S.sl[k]?).map (eUp i up) := by
  have h1 := (atI_to hx).1
  have hl := (List.getElem?_eq_some_iff.1 h1).1
  unfold empS
  simp only
  by_cases h : i.toNat = k
  · subst h
    rw [if_pos rfl, List.getElem?_set_self (by rw [List.length_map]; exact hl)]
  · rw [if_neg h, List.getElem?_set_ne h, List.getElem?_map]
theorem eUp_cap (i up : Int) (x : SlotD) : capNone (eUp i up x) = capNone x := by unfold eUp; split <;> rfl
end Go.Proofs.YtidmcpkbcphpiaaGreat
namespace Go.Hai
open Go
theorem setLow_grown {σ : AHeap} {m : Nat} {L : List (List Value × Nat)} {b o n : Nat} : ((σ.grow L).setLow m).loadN b o n = (σ.grow L).loadN b o n := rfl
def atP (v : Value) (b o : Nat) : Bool := match v with | .pointer (some ⟨c, p, none⟩) => Nat.beq b c && Nat.beq o p | _ => false
end Go.Hai
namespace Go.Hai
open Go
def kontX' := kontX
theorem kontX_putM {call : CallF} {os : List AOper} {t : Tmps} {τ : AHeap} {Q : Tmps → AHeap → Prop} {d : Option Nat} {v : Value} {b : Nat} {l : List Value} {e : Nat} : kontX call os t τ Q d v ((τ.setLow τ.n).putM b l e) =
    if inN b τ = true then EndsX call os (setD t d v) (τ.putM b l e) Q else kontX' call os t τ Q d v ((τ.setLow τ.n).putM b l e) := by
  split
  · next h =>
    have hb : b < τ.n := by simpa [inN, Nat.blt_eq] using h
    unfold kontX
    have e1 : ({ (τ.setLow τ.n).putM b l e with low := minN τ.low ((τ.setLow τ.n).putM b l e).low } : AHeap) = τ.putM b l e := by
      show AHeap.mk _ _ _ _ (minN τ.low (minN τ.n b)) = AHeap.mk _ _ _ _ (minN τ.low b)
      have : minN τ.low (minN τ.n b) = minN τ.low b := by simp only [minN_min]; omega
      rw [this]; rfl
    rw [e1]
  · rfl
theorem kontX_if {call : CallF} {os : List AOper} {t : Tmps} {σ : AHeap} {Q : Tmps → AHeap → Prop} {d : Option Nat} {v : Value} : kontX call os t σ Q d v (σ.setLow σ.n) = if okLow σ = true then EndsX call os (setD t d v) σ Q else kontX' call os t σ Q d v (σ.setLow σ.n) := by
  split
  · next h => exact kontX_ok (Nat.le_of_ble_eq_true h)
  · rfl
def updTo {α : Type} (g : α → α) (l : List α) (k : Nat) : List α := (l.take k).map g ++ l.drop k
section
variable {α : Type} {g : α → α} {l : List α} {k i : Nat} {y : α}
theorem updTo_length : (updTo g l k).length = l.length := by unfold updTo; rw [List.length_append, List.length_map, List.length_take, List.length_drop]; omega
theorem updTo_0 : updTo g l 0 = l := by simp [updTo]
theorem updTo_all (h : l.length ≤ k) : updTo g l k = l.map g := by unfold updTo; rw [List.take_of_length_le h, List.drop_eq_nil_of_le h]; simp
theorem updTo_get : (updTo g l k)[i]? = if i < k then (l[i]?).map g else l[i]? := by
  unfold updTo
  by_cases hi : i < k
  · rw [if_pos hi]
    by_cases hl : i < l.length
    · rw [List.getElem?_append_left (by rw [List.length_map, List.length_take]; omega), List.getElem?_map, List.getElem?_take_of_lt hi]
    · rw [List.getElem?_eq_none (by rw [List.length_append, List.length_map, List.length_take, List.length_drop]; omega), List.getElem?_eq_none (by omega)]; rfl
  · rw [if_neg hi]
    by_cases hl : k ≤ l.length
    · rw [List.getElem?_append_right (by rw [List.length_map, List.length_take]; omega), List.length_map, List.length_take, List.getElem?_drop]
      congr 1; omega
    · rw [List.getElem?_eq_none (by rw [List.length_append, List.length_map, List.length_take, List.length_drop]; omega), List.getElem?_eq_none (by omega)]
theorem updTo_set (hy : l[k]? = some y) : updTo g l (k + 1) = (updTo g l k).set k (g y) := by
  have hk := (List.getElem?_eq_some_iff.1 hy).1
  refine List.ext_getElem? fun i => ?_
  by_cases h : k = i
  · subst h
    rw [List.getElem?_set_self (by rw [updTo_length]; exact hk), updTo_get, if_pos (Nat.lt_succ_self _), hy]; rfl
  · rw [List.getElem?_set_ne h, updTo_get, updTo_get]
    by_cases hi : i < k
    · rw [if_pos hi, if_pos (by omega)]
    · rw [if_neg hi, if_neg (by omega)]
theorem updTo_same (hy : l[k]? = some y) (hg : g y = y) : updTo g l (k + 1) = updTo g l k := by
  rw [updTo_set hy, hg]
  refine List.ext_getElem? fun i => ?_
  by_cases h : k = i
  · subst h
    rw [List.getElem?_set_self (by rw [updTo_length]; exact (List.getElem?_eq_some_iff.1 hy).1), updTo_get, if_neg (Nat.lt_irrefl _), hy]
  · rw [List.getElem?_set_ne h]
end
theorem Wr.ret {W : Nat → Prop} {σ τ : AHeap} (h : Wr W σ.fresh τ) : Wr W σ (τ.setLow (minN σ.low τ.low)) := by
  refine ⟨h.n, h.dead, (minN_le _ _).1, h.row, fun b hb hl => ?_, fun m h1 h2 h3 => ?_⟩
  · have : b < minN σ.low τ.low := hl
    have := (minN_le σ.low τ.low).2
    exact h.far b hb (by omega)
  · have := h.bnd m h2 h2 h3
    show m ≤ minN σ.low τ.low
    rw [minN_min]; omega
structure Shp (S T : StD) : Prop where
  threads : T.threads = S.threads
  slots : T.slots = S.slots
  things : T.things = S.things
  sl : T.sl.length = S.sl.length
  th : T.th.length = S.th.length
theorem Shp.refl (S : StD) : Shp S S := ⟨rfl, rfl, rfl, rfl, rfl⟩
theorem Shp.trans {S T U : StD} (h : Shp S T) (h' : Shp T U) : Shp S U := ⟨h'.threads.trans h.threads, h'.slots.trans h.slots, h'.things.trans h.things, h'.sl.trans h.sl, h'.th.trans h.th⟩
theorem Shp.stV {S T : StD} (h : Shp S T) (a1 : Option Addr) (f1 : Nat) (a2 : Option Addr) (f2 : Nat) : Hai.stV T a1 f1 a2 f2 = Hai.stV S a1 f1 a2 f2 := by
  unfold Hai.stV stL; rw [h.threads, h.slots, h.things, h.sl, h.th]
structure RowsAt (τ : AHeap) (c1 c2 : Nat) (S : StD) : Prop where
  sl : τ.t.get c1 = some (rowOf (flatL slotL S.sl, 5))
  th : τ.t.get c2 = some (rowOf (flatL thingL S.th, 13))
def two (c1 c2 b : Nat) : Prop := b = c1 ∨ b = c2
theorem RowsAt.s {τ : AHeap} {c1 c2 : Nat} {S : StD} (h : RowsAt τ c1 c2 S) (hc : c1 < τ.n) : SlAt slotL 5 τ c1 S.sl := SlAt_row (cells := slotL) (es := 5) (fun _ => rfl) hc h.sl
theorem RowsAt.t {τ : AHeap} {c1 c2 : Nat} {S : StD} (h : RowsAt τ c1 c2 S) (hc : c2 < τ.n) : SlAt thingL 13 τ c2 S.th := SlAt_row (cells := thingL) (es := 13) (fun _ => rfl) hc h.th
theorem RowsAt.keeps {σ τ : AHeap} {c1 c2 : Nat} {S : StD} (h : RowsAt σ c1 c2 S) (k : Keeps σ τ) (h1 : c1 < σ.n) (h2 : c2 < σ.n) : RowsAt τ c1 c2 S := ⟨(k.row _ h1).trans h.sl, (k.row _ h2).trans h.th⟩
end Go.Hai
namespace Go.Proofs.YtidmcpkbcphpiaaGreat
open Go Go.Hai
set_option maxRecDepth 20000
set_option linter.unusedSimpArgs false
set_option maxHeartbeats 8000000
attribute [local irreducible] Hai.Ends EndsR EndsO EndsD EndsX EndsE EndsK AHeap.grow AHeap.putR AHeap.putM okLow inN
def r0_take_empty : List AOper := [(.mk (some 2) none (.box 5 (.tmp 0))), (.mk (some 4) none (.mv (.const (.bool false))))]
def r1_take_empty : List AOper := [(.mk (some 7) none (.mv (.tmp 1))), (.mk (some 8) none (.bin .lss (.tmp 7) (.const (.int .i64 0)))), (.mk (some 9) none (.mv (.tmp 8))), (.mk (some 10) (some (9, false)) (.mv (.tmp 1))), (.mk (some 11) (some (9, false)) (.fldA 3 (.tmp 2))), (.mk (some 12) (some (9, false)) (.load false 1 (.tmp 11))), (.mk (some 13) (some (9, false)) (.lenS (.tmp 12))), (.mk (some 14) (some (9, false)) (.bin .geq (.tmp 10) (.tmp 13))), (.mk (some 15) none (.pick (.tmp 9) (.const (.bool true)) (.tmp 14))), (.mk (some 16) none (.mv (.tmp 15))), (.mk (some 17) (some (16, false)) (.fldA 3 (.tmp 2))), (.mk (some 18) (some (16, false)) (.load false 1 (.tmp 17))), (.mk (some 19) (some (16, false)) (.mv (.tmp 1))), (.mk (some 20) (some (16, false)) (.idxA 5 (.tmp 18) (.tmp 19))), (.mk (some 21) (some (16, false)) (.fldA 0 (.tmp 20))), (.mk (some 22) (some (16, false)) (.load true 4 (.tmp 21))), (.mk (some 23) (some (16, false)) (.call 38 [(.tmp 22)])), (.mk (some 24) none (.pick (.tmp 16) (.const (.bool true)) (.tmp 23)))]
def r2_take_empty : List AOper := [(.mk (some 4) none (.mv (.const (.bool false))))]
def k1_take_empty : ACode := (.cond (.tmp 24) (.seq (.reg r2_take_empty) .ret) .skip)
def r3_take_empty : List AOper := [(.mk (some 25) none (.fldA 3 (.tmp 2))), (.mk (some 26) none (.load false 1 (.tmp 25))), (.mk (some 27) none (.lenS (.tmp 26))), (.mk (some 28) none (.mv (.const (.int .i64 0))))]
def r4_take_empty : List AOper := [(.mk (some 29) none (.bin .lss (.tmp 28) (.tmp 27)))]
def r5_take_empty : List AOper := [(.mk (some 30) none (.mv (.tmp 28))), (.mk (some 5) none (.mv (.tmp 30)))]
def r6_take_empty : List AOper := [(.mk (some 31) none (.fldA 3 (.tmp 2))), (.mk (some 32) none (.load false 1 (.tmp 31))), (.mk (some 33) none (.mv (.tmp 5))), (.mk (some 34) none (.idxA 5 (.tmp 32) (.tmp 33))), (.mk (some 35) none (.fldA 4 (.tmp 34))), (.mk (some 36) none (.load false 1 (.tmp 35))), (.mk (some 37) none (.mv (.tmp 1))), (.mk (some 38) none (.bin .eql (.tmp 36) (.tmp 37)))]
def r7_take_empty : List AOper := [(.mk (some 39) none (.fldA 3 (.tmp 2))), (.mk (some 40) none (.load false 1 (.tmp 39))), (.mk (some 41) none (.mv (.tmp 5))), (.mk (some 42) none (.fldA 3 (.tmp 2))), (.mk (some 43) none (.load false 1 (.tmp 42))), (.mk (some 44) none (.mv (.tmp 1))), (.mk (some 45) none (.idxA 5 (.tmp 43) (.tmp 44))), (.mk (some 46) none (.fldA 4 (.tmp 45))), (.mk (some 47) none (.load false 1 (.tmp 46))), (.mk (some 48) none (.idxA 5 (.tmp 40) (.tmp 41))), (.mk (some 49) none (.fldA 4 (.tmp 48))), (.mk none none (.store 1 (.tmp 49) (.tmp 47)))]
def k7_take_empty : ACode := (.cond (.tmp 38) (.drw r7_take_empty [0, 1, 0, 0, 8, 0, 56, 120, 248, 511, 1023, 2047]) .skip)
def k6_take_empty : ACode := (.seq (.reg r6_take_empty) k7_take_empty)
def r8_take_empty : List AOper := [(.mk (some 50) none (.bin .add (.tmp 28) (.const (.int .i64 1)))), (.mk (some 28) none (.mv (.tmp 50)))]
def k8_take_empty : ACode := (.reg r8_take_empty)
def k5_take_empty : ACode := (.seq (.block 1 (.seq (.reg r5_take_empty) k6_take_empty)) k8_take_empty)
def k4_take_empty : ACode := (.seq (.cond (.tmp 29) .skip (.exit 0)) k5_take_empty)
def b0_take_empty : ACode := (.seq (.reg r4_take_empty) k4_take_empty)
def k3_take_empty : ACode := (.block 0 (.loop b0_take_empty))
def r9_take_empty : List AOper := [(.mk (some 51) none (.fldA 3 (.tmp 2))), (.mk (some 52) none (.load false 1 (.tmp 51))), (.mk (some 53) none (.mv (.tmp 1))), (.mk (some 54) none (.build [(.int .i64 0), (.int .i64 0), (.int .i64 0), (.int .i64 0), (.int .i64 0)] [(4, (1, (.const (.int .i64 (-1)))))])), (.mk (some 55) none (.idxA 5 (.tmp 52) (.tmp 53))), (.mk none none (.store 5 (.tmp 55) (.tmp 54)))]
def r10_take_empty : List AOper := [(.mk (some 56) none (.fldA 4 (.tmp 2))), (.mk (some 57) none (.load false 1 (.tmp 56))), (.mk (some 58) none (.lenS (.tmp 57))), (.mk (some 59) none (.mv (.const (.int .i64 0))))]
def r11_take_empty : List AOper := [(.mk (some 60) none (.bin .lss (.tmp 59) (.tmp 58)))]
def r12_take_empty : List AOper := [(.mk (some 61) none (.mv (.tmp 59))), (.mk (some 6) none (.mv (.tmp 61)))]
def r13_take_empty : List AOper := [(.mk (some 62) none (.fldA 4 (.tmp 2))), (.mk (some 63) none (.load false 1 (.tmp 62))), (.mk (some 64) none (.mv (.tmp 6))), (.mk (some 65) none (.idxA 13 (.tmp 63) (.tmp 64))), (.mk (some 66) none (.fldA 5 (.tmp 65))), (.mk (some 67) none (.load false 1 (.tmp 66))), (.mk (some 68) none (.mv (.tmp 1))), (.mk (some 69) none (.bin .add (.tmp 68) (.const (.int .i64 1)))), (.mk (some 70) none (.bin .eql (.tmp 67) (.tmp 69)))]
def r14_take_empty : List AOper := [(.mk (some 71) none (.fldA 4 (.tmp 2))), (.mk (some 72) none (.load false 1 (.tmp 71))), (.mk (some 73) none (.mv (.tmp 6))), (.mk (some 74) none (.idxA 13 (.tmp 72) (.tmp 73))), (.mk (some 75) none (.fldA 5 (.tmp 74))), (.mk none none (.store 1 (.tmp 75) (.const (.int .i64 0))))]
def k15_take_empty : ACode := (.cond (.tmp 70) (.reg r14_take_empty) .skip)
def k14_take_empty : ACode := (.seq (.reg r13_take_empty) k15_take_empty)
def r15_take_empty : List AOper := [(.mk (some 76) none (.bin .add (.tmp 59) (.const (.int .i64 1)))), (.mk (some 59) none (.mv (.tmp 76)))]
def k16_take_empty : ACode := (.reg r15_take_empty)
def k13_take_empty : ACode := (.seq (.block 3 (.seq (.reg r12_take_empty) k14_take_empty)) k16_take_empty)
def k12_take_empty : ACode := (.seq (.cond (.tmp 60) .skip (.exit 2)) k13_take_empty)
def b1_take_empty : ACode := (.seq (.reg r11_take_empty) k12_take_empty)
def k11_take_empty : ACode := (.block 2 (.loop b1_take_empty))
def r16_take_empty : List AOper := [(.mk (some 4) none (.mv (.const (.bool true))))]
def k17_take_empty : ACode := (.seq (.reg r16_take_empty) .ret)
def k10_take_empty : ACode := (.seq (.seq (.reg r10_take_empty) k11_take_empty) k17_take_empty)
def k9_take_empty : ACode := (.seq (.reg r9_take_empty) k10_take_empty)
def k2_take_empty : ACode := (.seq (.seq (.reg r3_take_empty) k3_take_empty) k9_take_empty)
def k0_take_empty : ACode := (.seq (.seq (.reg r1_take_empty) k1_take_empty) k2_take_empty)
def c_take_empty : ACode := (.seq (.reg r0_take_empty) k0_take_empty)
theorem e_take_empty : ofProg Tryz.prog 98 = some ⟨77, [(.tmp 4)], c_take_empty⟩ := by kernel_rfl
theorem eUp_self (i : Int) (x : SlotD) : eUp i x.up x = x := by unfold eUp; split <;> rfl
theorem take_empty_ok (d : Nat) (σ : AHeap) (S : StD) (c1 f1 c2 f2 : Nat) (i : Int) (hlo : σ.low ≤ σ.n) (h1 : c1 < σ.n) (h2 : c2 < σ.n) (hne : c1 ≠ c2) (hr : RowsAt σ c1 c2 S) (hn : S.sl.length < 1000) (hm : S.th.length < 1000) :
    ∃ τ, acall (ofProg Tryz.prog) 1000 (d + 2) 98 [stV S (some ⟨c1, 0, none⟩) f1 (some ⟨c2, 0, none⟩) f2, .int .i64 i] σ = some (.bool (emp1 S i).2, τ) ∧ RowsAt τ c1 c2 (emp1 S i).1 ∧ Wr (two c1 c2) σ τ := by
  have g1 : SlAt slotL 5 σ.fresh c1 S.sl := hr.s h1
  rcases emp1_cases S i with hE | ⟨x, hx, hcx, hE⟩
  · rw [hE]
    refine ⟨σ, ?_, hr, Wr.refl _ _⟩
    refine acall_flat e_take_empty (by simp) rfl ?_
    by_cases c1' : i < 0
    · simp (disch := omega) only [c1', r0_take_empty, r1_take_empty, r2_take_empty, k1_take_empty, r3_take_empty, r4_take_empty, r5_take_empty, r6_take_empty, r7_take_empty, k7_take_empty, k6_take_empty, r8_take_empty, k8_take_empty, k5_take_empty, k4_take_empty, k3_take_empty, r9_take_empty, r10_take_empty, r11_take_empty, r12_take_empty, r13_take_empty, r14_take_empty, k15_take_empty, k14_take_empty, r15_take_empty, k16_take_empty, k13_take_empty, k12_take_empty, k11_take_empty, r16_take_empty, k17_take_empty, k10_take_empty, k9_take_empty, k2_take_empty, k0_take_empty, c_take_empty, Z0, Z1, Z2, Z3, Z4, Z5, Z6, Z7, Z8, Z9, Z10, resAll, Nat.reduceAdd, Nat.reduceEqDiff, Nat.reduceLeDiff, Nat.reduceMul, ↓reduceIte, reduceCtorEq, Nat.reduceBEq, aoper, Nat.reduceLT, Int.reduceEq, Int.reduceLT, Int.reduceLE]
    · by_cases c2' : (S.sl.length : Int) ≤ i
      · simp (disch := omega) only [c1', c2', r0_take_empty, r1_take_empty, r2_take_empty, k1_take_empty, r3_take_empty, r4_take_empty, r5_take_empty, r6_take_empty, r7_take_empty, k7_take_empty, k6_take_empty, r8_take_empty, k8_take_empty, k5_take_empty, k4_take_empty, k3_take_empty, r9_take_empty, r10_take_empty, r11_take_empty, r12_take_empty, r13_take_empty, r14_take_empty, k15_take_empty, k14_take_empty, r15_take_empty, k16_take_empty, k13_take_empty, k12_take_empty, k11_take_empty, r16_take_empty, k17_take_empty, k10_take_empty, k9_take_empty, k2_take_empty, k0_take_empty, c_take_empty, Z0, Z1, Z2, Z3, Z4, Z5, Z6, Z7, Z8, Z9, Z10, resAll, Nat.reduceAdd, Nat.reduceEqDiff, Nat.reduceLeDiff, Nat.reduceMul, ↓reduceIte, reduceCtorEq, Nat.reduceBEq, aoper, Nat.reduceLT, Int.reduceEq, Int.reduceLT, Int.reduceLE]
      · obtain ⟨x, e1, e2⟩ := atI_some (l := S.sl) (z := i) (by omega) (by omega)
        have hc : capNone x = true := by
          cases h : capNone x with
          | true => rfl
          | false => simp [emp1, e1, h] at hE
        have hl : ∀ L, (σ.fresh.grow L).loadN c1 (i.toNat * 5) 4 = some (capL x) := fun L => by
          rw [load_old _ _ _ _ g1.1]; exact g1.2 _ _ e2 0 4 (by omega)
        have q1 : 0 ≤ i := by omega
        have q2 : i < (S.sl.length : Int) := by omega
        simp (disch := omega) only [c1', c2', q1, q2, hl, cap_None_ok, hc, r0_take_empty, r1_take_empty, r2_take_empty, k1_take_empty, r3_take_empty, r4_take_empty, r5_take_empty, r6_take_empty, r7_take_empty, k7_take_empty, k6_take_empty, r8_take_empty, k8_take_empty, k5_take_empty, k4_take_empty, k3_take_empty, r9_take_empty, r10_take_empty, r11_take_empty, r12_take_empty, r13_take_empty, r14_take_empty, k15_take_empty, k14_take_empty, r15_take_empty, k16_take_empty, k13_take_empty, k12_take_empty, k11_take_empty, r16_take_empty, k17_take_empty, k10_take_empty, k9_take_empty, k2_take_empty, k0_take_empty, c_take_empty, Z0, Z1, Z2, Z3, Z4, Z5, Z6, Z7, Z8, Z9, Z10, resAll, Nat.reduceAdd, Nat.reduceEqDiff, Nat.reduceLeDiff, Nat.reduceMul, ↓reduceIte, reduceCtorEq, Nat.reduceBEq, aoper, Nat.reduceLT, Int.reduceEq, Int.reduceLT, Int.reduceLE]
  · rw [hE]
    obtain ⟨hx1, hx0⟩ := atI_to hx
    have hi := (List.getElem?_eq_some_iff.1 hx1).1
    suffices hs : Hai.Ends (acode (acall (ofProg Tryz.prog) 1000 (d + 1)) 1000 c_take_empty (Tr.of [stV S (some ⟨c1, 0, none⟩) f1 (some ⟨c2, 0, none⟩) f2, .int .i64 i]) (σ.fresh.grow []))
        (finE [.tmp 4] fun v τ => v = .bool true ∧ RowsAt τ c1 c2 (empS S i x.up) ∧ Wr (two c1 c2) σ.fresh τ) by
      obtain ⟨v, τ', e, τ, ⟨rfl, q1, q2⟩, q⟩ := acall_eff e_take_empty (by simp) hs
      rcases q with ⟨ql, _, rfl⟩ | rfl
      · exact ⟨_, e, ⟨(q2.same ql h1).symm.trans q1.sl, (q2.same ql h2).symm.trans q1.th⟩, Wr.refl _ _⟩
      · exact ⟨_, e, ⟨q1.sl, q1.th⟩, q2.ret⟩
    have hl : ∀ L, (σ.fresh.grow L).loadN c1 (i.toNat * 5) 4 = some (capL x) := fun L => by
      rw [load_old _ _ _ _ g1.1]; exact g1.2 _ _ hx1 0 4 (by omega)
    have q1 : ¬ i < 0 := by omega
    have q2 : ¬ (S.sl.length : Int) ≤ i := by omega
    have q3 : i < (S.sl.length : Int) := by omega
    have hk0 := Keeps.self σ.fresh [(stL S (some ⟨c1, 0, none⟩) f1 (some ⟨c2, 0, none⟩) f2, 5)]
    simp (disch := omega) only [q1, q2, q3, hx0, hl, cap_None_ok, hcx, r0_take_empty, r1_take_empty, r2_take_empty, k1_take_empty, r3_take_empty, r4_take_empty, r5_take_empty, r6_take_empty, r7_take_empty, k7_take_empty, k6_take_empty, r8_take_empty, k8_take_empty, k5_take_empty, k4_take_empty, k3_take_empty, r9_take_empty, r10_take_empty, r11_take_empty, r12_take_empty, r13_take_empty, r14_take_empty, k15_take_empty, k14_take_empty, r15_take_empty, k16_take_empty, k13_take_empty, k12_take_empty, k11_take_empty, r16_take_empty, k17_take_empty, k10_take_empty, k9_take_empty, k2_take_empty, k0_take_empty, c_take_empty, Z0, Z1, Z2, Z3, Z4, Z5, Z6, Z7, Z8, Z9, Z10, resAll, Nat.reduceAdd, Nat.reduceEqDiff, Nat.reduceLeDiff, Nat.reduceMul, ↓reduceIte, reduceCtorEq, Nat.reduceBEq, aoper, Nat.reduceLT, Int.reduceEq, Int.reduceLT, Int.reduceLE]
    refine ends_loop (fun k t τ => tget t 27 = i64 S.sl.length ∧ tget t 28 = i64 k ∧ tget t 2 = here σ.fresh.n 0 ∧ tget t 1 = i64 i ∧ Wr (two c1 c2) (σ.fresh.grow [(stL S (some ⟨c1, 0, none⟩) f1 (some ⟨c2, 0, none⟩) f2, 5)]) τ ∧
        τ.t.get c1 = some (rowOf (flatL slotL (updTo (eUp i x.up) S.sl k), 5)) ∧ τ.t.get c2 = some (rowOf (flatL thingL S.th, 13))) S.sl.length hn ⟨?_, ?_, ?_, ?_, Wr.refl _ _, ?_, ?_⟩ ?_
    iterate 4 simp (disch := omega) only [Int.natCast_zero, Int.ofNat_zero, r0_take_empty, r1_take_empty, r2_take_empty, k1_take_empty, r3_take_empty, r4_take_empty, r5_take_empty, r6_take_empty, r7_take_empty, k7_take_empty, k6_take_empty, r8_take_empty, k8_take_empty, k5_take_empty, k4_take_empty, k3_take_empty, r9_take_empty, r10_take_empty, r11_take_empty, r12_take_empty, r13_take_empty, r14_take_empty, k15_take_empty, k14_take_empty, r15_take_empty, k16_take_empty, k13_take_empty, k12_take_empty, k11_take_empty, r16_take_empty, k17_take_empty, k10_take_empty, k9_take_empty, k2_take_empty, k0_take_empty, c_take_empty, Z0, Z1, Z2, Z3, Z4, Z5, Z6, Z7, Z8, Z9, Z10, resAll, Nat.reduceAdd, Nat.reduceEqDiff, Nat.reduceLeDiff, Nat.reduceMul, ↓reduceIte, reduceCtorEq, Nat.reduceBEq, aoper, Nat.reduceLT, Int.reduceEq, Int.reduceLT, Int.reduceLE]
    · rw [updTo_0]; exact (hk0.row c1 h1).trans hr.sl
    · exact (hk0.row c2 h2).trans hr.th
    rintro k t τ hk ⟨t27, t28, t2, t1, hw, w1, w2⟩
    rw [← grow_nil τ]
    have hlow : τ.low ≤ τ.n := by have := hw.low; have := hw.n; rw [grow_n] at this; rw [grow_low] at *; exact Nat.le_trans ‹τ.low ≤ _› (by show σ.n ≤ τ.n; have : σ.fresh.n = σ.n := rfl; omega)
    have hnn : σ.n + 1 ≤ τ.n := by have := hw.n; rw [grow_n] at this; exact this
    have hbox : ∀ M o n, (τ.grow M).loadN σ.fresh.n o n = sliceL (stL S (some ⟨c1, 0, none⟩) f1 (some ⟨c2, 0, none⟩) f2) o n := fun M o n => by
      rw [(hw.grow M).load o n (by rw [grow_n]; simp) (by rintro (e | e) <;> (have : σ.fresh.n = σ.n := rfl; omega)), ld_0]
    by_cases hlt : k < S.sl.length
    · have hy : S.sl[k]? = some S.sl[k] := List.getElem?_eq_getElem hlt
      generalize S.sl[k] = y at hy
      have hlt' : (k : Int) < (S.sl.length : Int) := by omega
      have hcast : ((k + 1 : Nat) : Int) = (k : Int) + 1 := by omega
      have hyk : (updTo (eUp i x.up) S.sl k)[k]? = some y := by rw [updTo_get, if_neg (Nat.lt_irrefl _), hy]
      have hxk : (updTo (eUp i x.up) S.sl k)[i.toNat]? = some x := by
        rw [updTo_get, hx1]
        split
        · show some (eUp i x.up x) = _; rw [eUp_self]
        · rfl
      have w1' : ∀ M, (τ.grow M).t.get c1 = some (rowOf (flatL slotL (updTo (eUp i x.up) S.sl k), 5)) := fun M => (grow_old _ _ (by omega)).trans w1
      have hk4 : ∀ M, (τ.grow M).loadN c1 (k * 5 + 4) 1 = some [i64 y.up] := fun M => by rw [load_sl (w1' M)]; exact flatL_cut (cells := slotL) (es := 5) (fun _ => rfl) hyk (by omega)
      have hi4 : ∀ M, (τ.grow M).loadN c1 (i.toNat * 5 + 4) 1 = some [i64 x.up] := fun M => by rw [load_sl (w1' M)]; exact flatL_cut (cells := slotL) (es := 5) (fun _ => rfl) hxk (by omega)
      by_cases hyi : y.up = i
      · have hset : setAll (flatL slotL (updTo (eUp i x.up) S.sl k)) (k * 5 + 4) [i64 x.up] = flatL slotL (updTo (eUp i x.up) S.sl (k + 1)) := by
          rw [updTo_set hy]
          refine flatL_put (es := 5) (fun _ => rfl) hyk (by simp) ?_
          unfold eUp; rw [if_pos hyi]; rfl
        have hlen : k * 5 + 4 + 1 ≤ (flatL slotL (updTo (eUp i x.up) S.sl k)).length := by rw [flatL_length (es := 5) (fun _ => rfl), updTo_length]; omega
        simp (disch := omega) only [t27, t28, t2, t1, hlt', hbox, Int.toNat_natCast, hk4, eq_true hyi, r0_take_empty, r1_take_empty, r2_take_empty, k1_take_empty, r3_take_empty, r4_take_empty, r5_take_empty, r6_take_empty, r7_take_empty, k7_take_empty, k6_take_empty, r8_take_empty, k8_take_empty, k5_take_empty, k4_take_empty, k3_take_empty, r9_take_empty, r10_take_empty, r11_take_empty, r12_take_empty, r13_take_empty, r14_take_empty, k15_take_empty, k14_take_empty, r15_take_empty, k16_take_empty, k13_take_empty, k12_take_empty, k11_take_empty, r16_take_empty, k17_take_empty, k10_take_empty, k9_take_empty, k2_take_empty, k0_take_empty, b0_take_empty, Z0, Z1, Z2, Z3, Z4, Z5, Z6, Z7, Z8, Z9, Z10, resAll, Nat.reduceAdd, Nat.reduceEqDiff, Nat.reduceLeDiff, Nat.reduceMul, ↓reduceIte, reduceCtorEq, Nat.reduceBEq, aoper, Nat.reduceLT, Int.reduceEq, Int.reduceLT, Int.reduceLE]
        rw [ends_drw0 (by kernel_rfl)]
        have o1 : okLow (τ.grow []) = true := okLow_of (low_grow hlow _)
        have o2 : inN c1 (τ.grow []) = true := inN_of (by rw [grow_n]; omega)
        simp (disch := omega) only [t27, t28, t2, t1, hlt', hbox, Int.toNat_natCast, hk4, hi4, x_1, x_nil, kontX_if, kontX_putM, o1, o2, setLow_load, setLow_get, st_gen, rowSt_row, w1', hlen, hset, hx0, q3, r0_take_empty, r1_take_empty, r2_take_empty, k1_take_empty, r3_take_empty, r4_take_empty, r5_take_empty, r6_take_empty, r7_take_empty, k7_take_empty, k6_take_empty, r8_take_empty, k8_take_empty, k5_take_empty, k4_take_empty, k3_take_empty, r9_take_empty, r10_take_empty, r11_take_empty, r12_take_empty, r13_take_empty, r14_take_empty, k15_take_empty, k14_take_empty, r15_take_empty, k16_take_empty, k13_take_empty, k12_take_empty, k11_take_empty, r16_take_empty, k17_take_empty, k10_take_empty, k9_take_empty, k2_take_empty, k0_take_empty, b0_take_empty, Z0, Z1, Z2, Z3, Z4, Z5, Z6, Z7, Z8, Z9, Z10, resAll, Nat.reduceAdd, Nat.reduceEqDiff, Nat.reduceLeDiff, Nat.reduceMul, ↓reduceIte, reduceCtorEq, Nat.reduceBEq, aoper, Nat.reduceLT, Int.reduceEq, Int.reduceLT, Int.reduceLE]
        exact ⟨hlt, by rw [hcast], (hw.grow _).trans (putM_wr (.inl rfl)), putM_get, (putM_far (fun e => hne e.symm)).trans ((grow_old _ _ (by omega)).trans w2)⟩
      · have hsame := updTo_same (g := eUp i x.up) hy (by unfold eUp; rw [if_neg hyi])
        simp (disch := omega) only [t27, t28, t2, t1, hlt', hbox, Int.toNat_natCast, hk4, hyi, hlt, hcast, hsame, w1', w2, r0_take_empty, r1_take_empty, r2_take_empty, k1_take_empty, r3_take_empty, r4_take_empty, r5_take_empty, r6_take_empty, r7_take_empty, k7_take_empty, k6_take_empty, r8_take_empty, k8_take_empty, k5_take_empty, k4_take_empty, k3_take_empty, r9_take_empty, r10_take_empty, r11_take_empty, r12_take_empty, r13_take_empty, r14_take_empty, k15_take_empty, k14_take_empty, r15_take_empty, k16_take_empty, k13_take_empty, k12_take_empty, k11_take_empty, r16_take_empty, k17_take_empty, k10_take_empty, k9_take_empty, k2_take_empty, k0_take_empty, b0_take_empty, Z0, Z1, Z2, Z3, Z4, Z5, Z6, Z7, Z8, Z9, Z10, resAll, Nat.reduceAdd, Nat.reduceEqDiff, Nat.reduceLeDiff, Nat.reduceMul, ↓reduceIte, reduceCtorEq, Nat.reduceBEq, aoper, Nat.reduceLT, Int.reduceEq, Int.reduceLT, Int.reduceLE]
        exact ⟨hw.grow _, (grow_old _ _ (by omega)).trans w2⟩
    · have hlt' : ¬ (k : Int) < (S.sl.length : Int) := by omega
      rw [updTo_all (by omega)] at w1
      have w1' : ∀ M, (τ.grow M).t.get c1 = some (rowOf (flatL slotL (S.sl.map (eUp i x.up)), 5)) := fun M => (grow_old _ _ (by omega)).trans w1
      have hset : setAll (flatL slotL (S.sl.map (eUp i x.up))) (i.toNat * 5) [.int .i64 0, .int .i64 0, .int .i64 0, .int .i64 0, .int .i64 (-1)] = flatL slotL ((S.sl.map (eUp i x.up)).set i.toNat noneS) := flatL_set (cells := slotL) (es := 5) (fun _ => rfl) noneS _ _ (by rw [List.length_map]; exact hi)
      have hlen : i.toNat * 5 + 5 ≤ (flatL slotL (S.sl.map (eUp i x.up))).length := by rw [flatL_length (es := 5) (fun _ => rfl), List.length_map]; omega
      simp (disch := omega) only [t27, t28, t2, t1, hlt', hbox, Int.toNat_natCast, hx0, q3, st_gen, rowSt_row, w1', hlen, hset, r0_take_empty, r1_take_empty, r2_take_empty, k1_take_empty, r3_take_empty, r4_take_empty, r5_take_empty, r6_take_empty, r7_take_empty, k7_take_empty, k6_take_empty, r8_take_empty, k8_take_empty, k5_take_empty, k4_take_empty, k3_take_empty, r9_take_empty, r10_take_empty, r11_take_empty, r12_take_empty, r13_take_empty, r14_take_empty, k15_take_empty, k14_take_empty, r15_take_empty, k16_take_empty, k13_take_empty, k12_take_empty, k11_take_empty, r16_take_empty, k17_take_empty, k10_take_empty, k9_take_empty, k2_take_empty, k0_take_empty, b0_take_empty, Z0, Z1, Z2, Z3, Z4, Z5, Z6, Z7, Z8, Z9, Z10, resAll, Nat.reduceAdd, Nat.reduceEqDiff, Nat.reduceLeDiff, Nat.reduceMul, ↓reduceIte, reduceCtorEq, Nat.reduceBEq, aoper, Nat.reduceLT, Int.reduceEq, Int.reduceLT, Int.reduceLE]
      generalize hS2 : (S.sl.map (eUp i x.up)).set i.toNat noneS = sl2 at hset
      have v1 : ((τ.grow []).putM c1 (flatL slotL sl2) 5).t.get c1 = some (rowOf (flatL slotL sl2, 5)) := putM_get
      have v2 : ((τ.grow []).putM c1 (flatL slotL sl2) 5).t.get c2 = some (rowOf (flatL thingL S.th, 13)) := (putM_far (fun e => hne e.symm)).trans ((grow_old _ _ (by omega)).trans w2)
      have hw2 := (hw.grow []).trans (putM_wr (W := two c1 c2) (τ := τ.grow []) (b := c1) (l := flatL slotL sl2) (e := 5) (.inl rfl))
      have hn2 : τ.n ≤ ((τ.grow []).putM c1 (flatL slotL sl2) 5).n := by rw [putM_n, grow_n]; omega
      generalize hτ2 : (τ.grow []).putM c1 (flatL slotL sl2) 5 = τ2 at *
      have hlow2 : τ2.low ≤ τ2.n := by have := hw2.low; rw [grow_low] at this; exact Nat.le_trans this (by have : σ.fresh.low = σ.n := rfl; omega)
      have hbox2 : ∀ M o n, (τ2.grow M).loadN σ.fresh.n o n = sliceL (stL S (some ⟨c1, 0, none⟩) f1 (some ⟨c2, 0, none⟩) f2) o n := fun M o n => by
        rw [(hw2.grow M).load o n (by rw [grow_n]; simp) (by rintro (e | e) <;> (have : σ.fresh.n = σ.n := rfl; omega)), ld_0]
      rw [← grow_nil τ2]
      simp (disch := omega) only [hbox2, t2, r0_take_empty, r1_take_empty, r2_take_empty, k1_take_empty, r3_take_empty, r4_take_empty, r5_take_empty, r6_take_empty, r7_take_empty, k7_take_empty, k6_take_empty, r8_take_empty, k8_take_empty, k5_take_empty, k4_take_empty, k3_take_empty, r9_take_empty, r10_take_empty, r11_take_empty, r12_take_empty, r13_take_empty, r14_take_empty, k15_take_empty, k14_take_empty, r15_take_empty, k16_take_empty, k13_take_empty, k12_take_empty, k11_take_empty, r16_take_empty, k17_take_empty, k10_take_empty, k9_take_empty, k2_take_empty, k0_take_empty, Z0, Z1, Z2, Z3, Z4, Z5, Z6, Z7, Z8, Z9, Z10, resAll, Nat.reduceAdd, Nat.reduceEqDiff, Nat.reduceLeDiff, Nat.reduceMul, ↓reduceIte, reduceCtorEq, Nat.reduceBEq, aoper, Nat.reduceLT, Int.reduceEq, Int.reduceLT, Int.reduceLE]
      have hi1 : i < 1000 := by omega
      have hcx1 : -9223372036854775808 ≤ i + 1 := by omega
      have hcx2 : i + 1 ≤ 9223372036854775807 := by omega
      refine ends_loop (fun k t τ => tget t 58 = i64 S.th.length ∧ tget t 59 = i64 k ∧ tget t 2 = here σ.fresh.n 0 ∧ tget t 1 = i64 i ∧ Wr (two c1 c2) (σ.fresh.grow [(stL S (some ⟨c1, 0, none⟩) f1 (some ⟨c2, 0, none⟩) f2, 5)]) τ ∧
        τ.t.get c1 = some (rowOf (flatL slotL sl2, 5)) ∧ τ.t.get c2 = some (rowOf (flatL thingL (updTo (eFrm i) S.th k), 13))) S.th.length hm ⟨?_, ?_, ?_, ?_, hw2.grow _, ?_, ?_⟩ ?_
      iterate 4 simp (disch := omega) only [t1, t2, Int.natCast_zero, Int.ofNat_zero, r0_take_empty, r1_take_empty, r2_take_empty, k1_take_empty, r3_take_empty, r4_take_empty, r5_take_empty, r6_take_empty, r7_take_empty, k7_take_empty, k6_take_empty, r8_take_empty, k8_take_empty, k5_take_empty, k4_take_empty, k3_take_empty, r9_take_empty, r10_take_empty, r11_take_empty, r12_take_empty, r13_take_empty, r14_take_empty, k15_take_empty, k14_take_empty, r15_take_empty, k16_take_empty, k13_take_empty, k12_take_empty, k11_take_empty, r16_take_empty, k17_take_empty, k10_take_empty, k9_take_empty, k2_take_empty, k0_take_empty, Z0, Z1, Z2, Z3, Z4, Z5, Z6, Z7, Z8, Z9, Z10, resAll, Nat.reduceAdd, Nat.reduceEqDiff, Nat.reduceLeDiff, Nat.reduceMul, ↓reduceIte, reduceCtorEq, Nat.reduceBEq, aoper, Nat.reduceLT, Int.reduceEq, Int.reduceLT, Int.reduceLE]
      · exact (grow_old _ _ (by omega)).trans v1
      · rw [updTo_0]; exact (grow_old _ _ (by omega)).trans v2
      clear hτ2 hlow2 hbox2 hw2 v1 v2 hn2 w1' w1 w2 hset hlen hlow hnn hbox hw t27 t28 t2 t1 hlt hlt' hk τ2 τ t k
      rintro k t τ hk ⟨t58, t59, t2, t1, hw, w1, w2⟩
      rw [← grow_nil τ]
      have hnn : σ.n + 1 ≤ τ.n := by have := hw.n; rw [grow_n] at this; exact this
      have hlow : τ.low ≤ τ.n := by have := hw.low; rw [grow_low] at this; exact Nat.le_trans this (by have : σ.fresh.low = σ.n := rfl; omega)
      have hbox : ∀ M o n, (τ.grow M).loadN σ.fresh.n o n = sliceL (stL S (some ⟨c1, 0, none⟩) f1 (some ⟨c2, 0, none⟩) f2) o n := fun M o n => by
        rw [(hw.grow M).load o n (by rw [grow_n]; simp) (by rintro (e | e) <;> (have : σ.fresh.n = σ.n := rfl; omega)), ld_0]
      by_cases hlt : k < S.th.length
      · have hy : S.th[k]? = some S.th[k] := List.getElem?_eq_getElem hlt
        generalize S.th[k] = y at hy
        have hlt' : (k : Int) < (S.th.length : Int) := by omega
        have hcast : ((k + 1 : Nat) : Int) = (k : Int) + 1 := by omega
        have hyk : (updTo (eFrm i) S.th k)[k]? = some y := by rw [updTo_get, if_neg (Nat.lt_irrefl _), hy]
        have w2' : ∀ M, (τ.grow M).t.get c2 = some (rowOf (flatL thingL (updTo (eFrm i) S.th k), 13)) := fun M => (grow_old _ _ (by omega)).trans w2
        have hk4 : ∀ M, (τ.grow M).loadN c2 (k * 13 + 5) 1 = some [i64 y.frm] := fun M => by rw [load_sl (w2' M)]; exact flatL_cut (cells := thingL) (es := 13) (fun _ => rfl) hyk (by omega)
        by_cases hyi : y.frm = i + 1
        · have hset : setAll (flatL thingL (updTo (eFrm i) S.th k)) (k * 13 + 5) [.int .i64 0] = flatL thingL (updTo (eFrm i) S.th (k + 1)) := by
            rw [updTo_set hy]
            refine flatL_put (es := 13) (fun _ => rfl) hyk (by simp) ?_
            unfold eFrm; rw [if_pos hyi]; rfl
          have hlen : k * 13 + 5 + 1 ≤ (flatL thingL (updTo (eFrm i) S.th k)).length := by rw [flatL_length (es := 13) (fun _ => rfl), updTo_length]; omega
          simp (disch := omega) only [t58, t59, t2, t1, hlt', hbox, Int.toNat_natCast, hk4, eq_true hyi, st_gen, rowSt_row, w2', hlen, hset, hlt, putM_get, r0_take_empty, r1_take_empty, r2_take_empty, k1_take_empty, r3_take_empty, r4_take_empty, r5_take_empty, r6_take_empty, r7_take_empty, k7_take_empty, k6_take_empty, r8_take_empty, k8_take_empty, k5_take_empty, k4_take_empty, k3_take_empty, r9_take_empty, r10_take_empty, r11_take_empty, r12_take_empty, r13_take_empty, r14_take_empty, k15_take_empty, k14_take_empty, r15_take_empty, k16_take_empty, k13_take_empty, k12_take_empty, k11_take_empty, r16_take_empty, k17_take_empty, k10_take_empty, k9_take_empty, k2_take_empty, k0_take_empty, b1_take_empty, Z0, Z1, Z2, Z3, Z4, Z5, Z6, Z7, Z8, Z9, Z10, resAll, Nat.reduceAdd, Nat.reduceEqDiff, Nat.reduceLeDiff, Nat.reduceMul, ↓reduceIte, reduceCtorEq, Nat.reduceBEq, aoper, Nat.reduceLT, Int.reduceEq, Int.reduceLT, Int.reduceLE]
          exact ⟨by rw [hcast], (hw.grow _).trans (putM_wr (.inr rfl)), (putM_far hne).trans ((grow_old _ _ (by omega)).trans w1)⟩
        · have hsame := updTo_same (g := eFrm i) hy (by unfold eFrm; rw [if_neg hyi])
          simp (disch := omega) only [t58, t59, t2, t1, hlt', hbox, Int.toNat_natCast, hk4, hyi, hlt, hcast, hsame, w2', r0_take_empty, r1_take_empty, r2_take_empty, k1_take_empty, r3_take_empty, r4_take_empty, r5_take_empty, r6_take_empty, r7_take_empty, k7_take_empty, k6_take_empty, r8_take_empty, k8_take_empty, k5_take_empty, k4_take_empty, k3_take_empty, r9_take_empty, r10_take_empty, r11_take_empty, r12_take_empty, r13_take_empty, r14_take_empty, k15_take_empty, k14_take_empty, r15_take_empty, k16_take_empty, k13_take_empty, k12_take_empty, k11_take_empty, r16_take_empty, k17_take_empty, k10_take_empty, k9_take_empty, k2_take_empty, k0_take_empty, b1_take_empty, Z0, Z1, Z2, Z3, Z4, Z5, Z6, Z7, Z8, Z9, Z10, resAll, Nat.reduceAdd, Nat.reduceEqDiff, Nat.reduceLeDiff, Nat.reduceMul, ↓reduceIte, reduceCtorEq, Nat.reduceBEq, aoper, Nat.reduceLT, Int.reduceEq, Int.reduceLT, Int.reduceLE]
          exact ⟨hw.grow _, (grow_old _ _ (by omega)).trans w1⟩
      · have hlt' : ¬ (k : Int) < (S.th.length : Int) := by omega
        rw [updTo_all (by omega)] at w2
        simp (disch := omega) only [t58, t59, t2, t1, hlt', hbox, r0_take_empty, r1_take_empty, r2_take_empty, k1_take_empty, r3_take_empty, r4_take_empty, r5_take_empty, r6_take_empty, r7_take_empty, k7_take_empty, k6_take_empty, r8_take_empty, k8_take_empty, k5_take_empty, k4_take_empty, k3_take_empty, r9_take_empty, r10_take_empty, r11_take_empty, r12_take_empty, r13_take_empty, r14_take_empty, k15_take_empty, k14_take_empty, r15_take_empty, k16_take_empty, k13_take_empty, k12_take_empty, k11_take_empty, r16_take_empty, k17_take_empty, k10_take_empty, k9_take_empty, k2_take_empty, k0_take_empty, b1_take_empty, Z0, Z1, Z2, Z3, Z4, Z5, Z6, Z7, Z8, Z9, Z10, resAll, Nat.reduceAdd, Nat.reduceEqDiff, Nat.reduceLeDiff, Nat.reduceMul, ↓reduceIte, reduceCtorEq, Nat.reduceBEq, aoper, Nat.reduceLT, Int.reduceEq, Int.reduceLT, Int.reduceLE]
        refine ⟨⟨?_, ?_⟩, (hk0.wr.trans hw).grow _⟩
        · rw [grow_old _ _ (by omega)]; unfold empS; simp only; rw [hS2]; exact w1
        · rw [grow_old _ _ (by omega)]; exact w2
end Go.Proofs.YtidmcpkbcphpiaaGreat
