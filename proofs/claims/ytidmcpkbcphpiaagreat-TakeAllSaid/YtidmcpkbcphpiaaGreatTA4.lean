/-
  What the function within of the package state makes of its map. Its conditions: each thing may be so; the node is there; the map has things that are there, each once.
-/
import Derived.Test.YtidmcpkbcphpiaaGreatTA3
namespace Go.Proofs.YtidmcpkbcphpiaaGreat
open Go Go.Hai
set_option maxRecDepth 20000
set_option linter.unusedSimpArgs false
set_option maxHeartbeats 4000000
attribute [local irreducible] Hai.Ends EndsR EndsO EndsD AHeap.grow
def r0_state_within : List AOper := [(.mk (some 3) none (.box 5 (.tmp 0)))]
def r1_state_within : List AOper := [(.mk (some 8) none (.mv (.tmp 2))), (.mk (some 9) none (.mv (.tmp 1))), (.mk (some 10) none (.lookup .i64 (.bool false) (.tmp 8) (.tmp 9) false))]
def k1_state_within : ACode := (.cond (.tmp 10) .ret .skip)
def r2_state_within : List AOper := [(.mk (some 11) none (.mv (.tmp 2))), (.mk (some 12) none (.mv (.tmp 1))), (.mk none none (.mupd .i64 (.tmp 11) (.tmp 12) (.const (.bool true))))]
def r3_state_within : List AOper := [(.mk (some 13) none (.fldA 3 (.tmp 3))), (.mk (some 14) none (.load false 1 (.tmp 13))), (.mk (some 15) none (.lenS (.tmp 14))), (.mk (some 16) none (.mv (.const (.int .i64 0))))]
def r4_state_within : List AOper := [(.mk (some 17) none (.bin .lss (.tmp 16) (.tmp 15)))]
def r5_state_within : List AOper := [(.mk (some 18) none (.mv (.tmp 16))), (.mk (some 19) none (.idxA 5 (.tmp 14) (.tmp 16))), (.mk (some 20) none (.load true 5 (.tmp 19))), (.mk (some 7) none (.alloc [(.int .i64 0), (.int .i64 0), (.int .i64 0), (.int .i64 0), (.int .i64 0)] 5)), (.mk (some 6) none (.mv (.tmp 18))), (.mk none none (.store 5 (.tmp 7) (.tmp 20)))]
def r6_state_within : List AOper := [(.mk (some 21) none (.fldA 0 (.tmp 7))), (.mk (some 22) none (.fldA 0 (.tmp 21))), (.mk (some 23) none (.load false 1 (.tmp 22))), (.mk (some 24) none (.bin .eql (.tmp 23) (.const (.int .i64 2)))), (.mk (some 25) none (.mv (.tmp 24))), (.mk (some 26) (some (25, true)) (.fldA 4 (.tmp 3))), (.mk (some 27) (some (25, true)) (.load false 1 (.tmp 26))), (.mk (some 28) (some (25, true)) (.mv (.tmp 1))), (.mk (some 29) (some (25, true)) (.idxA 13 (.tmp 27) (.tmp 28))), (.mk (some 30) (some (25, true)) (.load true 13 (.tmp 29))), (.mk (some 31) (some (25, true)) (.mv (.tmp 6))), (.mk (some 32) (some (25, true)) (.call 223 [(.tmp 30), (.tmp 31)])), (.mk (some 33) none (.pick (.tmp 25) (.tmp 32) (.const (.bool false)))), (.mk (some 34) none (.mv (.tmp 33))), (.mk (some 35) (some (34, true)) (.load true 5 (.tmp 3))), (.mk (some 36) (some (34, true)) (.fldA 0 (.tmp 7))), (.mk (some 37) (some (34, true)) (.fldA 1 (.tmp 36))), (.mk (some 38) (some (34, true)) (.load false 1 (.tmp 37))), (.mk (some 39) (some (34, true)) (.call 121 [(.tmp 35), (.tmp 38)])), (.mk (some 40) none (.pick (.tmp 34) (.tmp 39) (.const (.bool false))))]
def r7_state_within : List AOper := [(.mk (some 41) none (.load true 5 (.tmp 3))), (.mk (some 42) none (.fldA 0 (.tmp 7))), (.mk (some 43) none (.fldA 1 (.tmp 42))), (.mk (some 44) none (.load false 1 (.tmp 43))), (.mk (some 45) none (.mv (.tmp 2))), (.mk (some 46) none (.call 185 [(.tmp 41), (.tmp 44), (.tmp 45)]))]
def k8_state_within : ACode := (.cond (.tmp 40) (.reg r7_state_within) .skip)
def k7_state_within : ACode := (.seq (.reg r6_state_within) k8_state_within)
def r8_state_within : List AOper := [(.mk (some 47) none (.bin .add (.tmp 16) (.const (.int .i64 1)))), (.mk (some 16) none (.mv (.tmp 47)))]
def k9_state_within : ACode := (.reg r8_state_within)
def k6_state_within : ACode := (.seq (.block 1 (.seq (.reg r5_state_within) k7_state_within)) k9_state_within)
def k5_state_within : ACode := (.seq (.cond (.tmp 17) .skip (.exit 0)) k6_state_within)
def b0_state_within : ACode := (.seq (.reg r4_state_within) k5_state_within)
def k4_state_within : ACode := (.block 0 (.loop b0_state_within))
def k3_state_within : ACode := (.seq (.reg r3_state_within) k4_state_within)
def k2_state_within : ACode := (.seq (.reg r2_state_within) k3_state_within)
def k0_state_within : ACode := (.seq (.seq (.reg r1_state_within) k1_state_within) k2_state_within)
def c_state_within : ACode := (.seq (.reg r0_state_within) k0_state_within)
theorem e_state_within : ofProg Tryz.prog 185 = some ⟨48, [], c_state_within⟩ := by kernel_rfl

def goesB (S : StD) (node : Int) (j : Nat) (x : SlotD) : Bool := decide (x.type = 2) && (match atI S.th node with | some t => hasB t j | none => false) && thereB S x.thing
def wTo (S : StD) (rec' : Int → List Int → List Int) (node : Int) (V : List Int) : Nat → List Int
  | 0 => V
  | j + 1 => match S.sl[j]? with
    | some x => if goesB S node j x then rec' x.thing (wTo S rec' node V j) else wTo S rec' node V j
    | none => wTo S rec' node V j
def wIn (S : StD) : Nat → Int → List Int → List Int
  | 0, _, V => V
  | k + 1, node, V => if V.contains node then V else wTo S (wIn S k) node (V ++ [node]) S.sl.length
def Vis (S : StD) (V : List Int) : Prop := V.Nodup ∧ ∀ n ∈ V, thereB S n = true
theorem there_some {S : StD} {n : Int} (h : thereB S n = true) : ∃ t, atI S.th n = some t ∧ S.th[n.toNat]? = some t ∧ 0 ≤ n ∧ n < S.th.length := by
  by_cases q : 0 ≤ n ∧ n < S.th.length
  · obtain ⟨t, e1, e2⟩ := atI_some q.1 q.2
    exact ⟨t, e1, e2, q.1, q.2⟩
  · unfold thereB at h
    rw [atI_none q] at h
    cases h
theorem Vis.few {S : StD} {V : List Int} (h : Vis S V) : V.length ≤ S.th.length := Hai.few _ V h.1 fun x hx => by
  obtain ⟨t, _, _, h1, h2⟩ := there_some (h.2 x hx)
  exact ⟨h1, h2⟩
theorem Vis.snoc {S : StD} {V : List Int} (h : Vis S V) {n : Int} (hn : thereB S n = true) (hc : V.contains n = false) : Vis S (V ++ [n]) := by
  refine ⟨?_, fun x hx => ?_⟩
  · rw [List.nodup_append]
    refine ⟨h.1, by simp, fun a ha b hb => ?_⟩
    simp at hb
    subst hb
    rintro rfl
    rw [List.contains_iff_mem.2 ha] at hc
    cases hc
  · rcases List.mem_append.1 hx with hx | hx
    · exact h.2 x hx
    · simp at hx; subst hx; exact hn

theorem state_within_ok (S : StD) (a1 : Option Addr) (f1 : Nat) (a2 : Option Addr) (f2 : Nat) (hn : S.sl.length < 1000) (hT : ∀ (i : Nat) (x : ThingD), S.th[i]? = some x → nodeOk x) (d m : Nat) :
    ∀ (k : Nat) (σ : AHeap) (node : Int) (V : List Int), SlS σ a1 S.sl → SlT σ a2 S.th → m < σ.n → σ.low ≤ σ.n → MapHas σ m V → Vis S V → thereB S node = true → S.th.length < k + V.length →
    ∃ τ, acall (ofProg Tryz.prog) 1000 (d + k + 2) 185 [stV S a1 f1 a2 f2, .int .i64 node, .map (some m)] σ = some (.tuple #[], τ) ∧ MapHas τ m (wIn S k node V) ∧ WM m σ τ ∧ Vis S (wIn S k node V) ∧ V.length ≤ (wIn S k node V).length := by
  intro k
  induction k with
  | zero => intro σ node V _ _ _ _ _ hV _ hk; have := hV.few; omega
  | succ k ih =>
    intro σ node V h1 h2 hmn hlo hmap hV hnode hk
    obtain ⟨nt, n1, n2, n3, n4⟩ := there_some hnode
    have hmapg : ∀ L, MapHas (σ.fresh.grow L) m V := fun L => hmap.keeps (grow_old σ.fresh L hmn)
    have hlk := fun L n => lkO_ok (hmapg L) n
    cases hc : V.contains node with
    | true =>
      have hw : wIn S (k + 1) node V = V := by simp only [wIn, hc, if_true]
      rw [hw]
      refine ⟨σ, ?_, hmap, WM.refl _ _, hV, Nat.le_refl _⟩
      refine acall_flat e_state_within (by simp) rfl ?_
      simp (disch := omega) only [hlk, hc, r0_state_within, r1_state_within, k1_state_within, r2_state_within, r3_state_within, r4_state_within, r5_state_within, r6_state_within, r7_state_within, k8_state_within, k7_state_within, r8_state_within, k9_state_within, k6_state_within, k5_state_within, k4_state_within, k3_state_within, k2_state_within, k0_state_within, c_state_within, Z0, Z1, Z2, Z3, Z4, Z5, Z6, Z7, Z8, Z9, Z10, resAll, Nat.reduceAdd, Nat.reduceEqDiff, Nat.reduceLeDiff, Nat.reduceMul, ↓reduceIte, reduceCtorEq, Nat.reduceBEq, aoper, Nat.reduceLT, Int.reduceEq, Int.reduceLT, Int.reduceLE]
      rfl
    | false =>
      have hw : wIn S (k + 1) node V = wTo S (wIn S k) node (V ++ [node]) S.sl.length := by simp only [wIn, hc]; rfl
      rw [hw]
      have hV0 := hV.snoc hnode hc
      have hl0 : (V ++ [node]).length = V.length + 1 := by simp
      suffices hs : Hai.Ends (acode (acall (ofProg Tryz.prog) 1000 (d + k + 2)) 1000 c_state_within (Tr.of [stV S a1 f1 a2 f2, .int .i64 node, .map (some m)]) (σ.fresh.grow []))
          (finE [] fun v τ => v = .tuple #[] ∧ MapHas τ m (wTo S (wIn S k) node (V ++ [node]) S.sl.length) ∧ WM m σ.fresh τ ∧ Vis S (wTo S (wIn S k) node (V ++ [node]) S.sl.length) ∧ V.length ≤ (wTo S (wIn S k) node (V ++ [node]) S.sl.length).length ∧ τ.low = m) by
        obtain ⟨v, τ', e, τ, ⟨rfl, r1, r2, r3, r4, r5⟩, g⟩ := acall_eff e_state_within (by simp) hs
        rcases g with ⟨g1, _, _⟩ | rfl
        · omega
        · refine ⟨_, e, r1, ⟨r2.n, .inr (by rw [r5]; rfl), r2.dead, r2.row⟩, r3, r4⟩
      obtain ⟨τ1, u1, u2, u3, u4, u5⟩ := muO_ok (hmapg [(stL S a1 f1 a2 f2, 5)]) hc
      simp (disch := omega) only [hlk, hc, u1, r0_state_within, r1_state_within, r2_state_within, r3_state_within, r4_state_within, r5_state_within, r6_state_within, r7_state_within, r8_state_within, k0_state_within, k1_state_within, k2_state_within, c_state_within, Z0, Z1, Z2, Z3, Z4, Z5, Z6, Z7, Z8, Z9, Z10, resAll, Nat.reduceAdd, Nat.reduceEqDiff, Nat.reduceLeDiff, Nat.reduceMul, ↓reduceIte, reduceCtorEq, Nat.reduceBEq, aoper, Nat.reduceLT, Int.reduceEq, Int.reduceLT, Int.reduceLE]
      have hm1 : minN σ.n m = m := by rw [minN_min]; omega
      rw [grow_low, fresh_low, hm1] at u5
      rw [← grow_nil τ1]
      have hlow1 : τ1.low ≤ τ1.n := by rw [u5, u4, grow_n]; exact Nat.le_trans (Nat.le_of_lt hmn) (Nat.le_add_right _ _)
      have hfn : σ.fresh.n = σ.n := rfl
      have hbx : ∀ τ, WM m (σ.fresh.grow [(stL S a1 f1 a2 f2, 5)]) τ → ∀ L o n, (τ.grow L).loadN σ.fresh.n o n = sliceL (stL S a1 f1 a2 f2) o n := fun τ w L o n => by
        rw [(w.grow L).load _ _ (by rw [grow_n]; simp) (by omega), ld_0]
      have hbox := hbx τ1 u3
      simp (disch := omega) only [hbox, r0_state_within, r1_state_within, r2_state_within, r3_state_within, r4_state_within, r5_state_within, r6_state_within, r7_state_within, r8_state_within, k3_state_within, Z0, Z1, Z2, Z3, Z4, Z5, Z6, Z7, Z8, Z9, Z10, resAll, Nat.reduceAdd, Nat.reduceEqDiff, Nat.reduceLeDiff, Nat.reduceMul, ↓reduceIte, reduceCtorEq, Nat.reduceBEq, aoper, Nat.reduceLT, Int.reduceEq, Int.reduceLT, Int.reduceLE]
      simp only [k4_state_within, ends_block]
      refine ends_loop (fun j t τ => tget t 14 = .slice a1 S.sl.length f1 ∧ tget t 15 = i64 S.sl.length ∧ tget t 16 = i64 j ∧ tget t 3 = here σ.fresh.n 0 ∧ tget t 1 = i64 node ∧ tget t 2 = .map (some m) ∧
          WM m (σ.fresh.grow [(stL S a1 f1 a2 f2, 5)]) τ ∧ τ.low = m ∧ MapHas τ m (wTo S (wIn S k) node (V ++ [node]) j) ∧ Vis S (wTo S (wIn S k) node (V ++ [node]) j) ∧ V.length + 1 ≤ (wTo S (wIn S k) node (V ++ [node]) j).length)
        S.sl.length hn ⟨?_, ?_, ?_, ?_, ?_, ?_, u3.grow [], by rw [grow_low]; exact u5, by rw [grow_nil]; exact u2, hV0, by rw [wTo, hl0]; exact Nat.le_refl _⟩ ?_
      iterate 6 simp (disch := omega) only [Int.natCast_zero, Int.ofNat_zero, r0_state_within, r1_state_within, k1_state_within, r2_state_within, r3_state_within, r4_state_within, r5_state_within, r6_state_within, r7_state_within, k8_state_within, k7_state_within, r8_state_within, k9_state_within, k6_state_within, k5_state_within, k4_state_within, k3_state_within, k2_state_within, k0_state_within, c_state_within, Z0, Z1, Z2, Z3, Z4, Z5, Z6, Z7, Z8, Z9, Z10, resAll, Nat.reduceAdd, Nat.reduceEqDiff, Nat.reduceLeDiff, Nat.reduceMul, ↓reduceIte, reduceCtorEq, Nat.reduceBEq, aoper, Nat.reduceLT, Int.reduceEq, Int.reduceLT, Int.reduceLE]
      rintro j t τ hj ⟨t14, t15, t16, t3, t1, t2, hwm, hlo', hmap', hvis, hlen⟩
      rw [← grow_nil τ]
      have hlow : τ.low ≤ τ.n := by have := hwm.n; rw [grow_n] at this; omega
      have hboxt := hbx τ hwm
      have h1τ : SlS τ a1 S.sl := (h1.fresh.grow _).wm (hmapg _) hwm
      have h2τ : SlT τ a2 S.th := (h2.fresh.grow _).wm (hmapg _) hwm
      by_cases hlt : j < S.sl.length
      · obtain ⟨b, rfl, hb⟩ := h1τ.at hlt
        have hx : S.sl[j]? = some S.sl[j] := List.getElem?_eq_getElem hlt
        generalize S.sl[j] = x at hx
        have hl := fun L => hb.ld0 (Keeps.refl τ) hx L 5 (by omega)
        simp only [List.take_succ_cons, List.take_zero] at hl
        have hlt' : (j : Int) < (S.sl.length : Int) := by omega
        have hcast : ((j + 1 : Nat) : Int) = (j : Int) + 1 := by omega
        obtain ⟨b2, rfl, hb2⟩ := h2τ.at (i := node.toNat) (by omega)
        have hl2 := fun L => hb2.ld0 (Keeps.refl τ) n2 L 13 (by omega)
        simp only [List.take_succ_cons, List.take_zero] at hl2
        have hhas := fun L => state_has_ok (d + k + 1) (τ.grow L) nt j (hT _ nt n2)
        have hth := fun L n => state_there_ok (d + k + 1) (τ.grow L) S (some ⟨b, 0, none⟩) f1 (some ⟨b2, 0, none⟩) f2 n (h2τ.grow L)
        have hmg : ∀ L, MapHas (τ.grow L) m (wTo S (wIn S k) node (V ++ [node]) j) := fun L => hmap'.keeps (grow_old τ L (by have := hwm.n; rw [grow_n] at this; omega))
        have hg : goesB S node j x = (decide (x.type = 2) && hasB nt j && thereB S x.thing) := by unfold goesB; rw [n1]
        cases hgo : goesB S node j x with
        | false =>
          have hw' : wTo S (wIn S k) node (V ++ [node]) (j + 1) = wTo S (wIn S k) node (V ++ [node]) j := by simp [wTo, hx, hgo]
          rw [hg] at hgo
          have ins := fun L => And.intro (hwm.grow L) (And.intro (hmg L) (And.intro hvis hlen))
          by_cases g1 : x.type = 2
          · cases g2 : hasB nt j with
            | false => simp (disch := omega) only [t14, t15, t16, t3, t1, t2, hboxt, hl, hl2, hlt', hlt, hcast, n3, n4, Int.toNat_natCast, hhas, sto_0 hlow, eq_true g1, g2, hw', hlo', hwm.grow, hmg, hvis, hlen, r0_state_within, r1_state_within, k1_state_within, r2_state_within, r3_state_within, r4_state_within, r5_state_within, r6_state_within, r7_state_within, k8_state_within, k7_state_within, r8_state_within, k9_state_within, k6_state_within, k5_state_within, k4_state_within, k3_state_within, k2_state_within, k0_state_within, b0_state_within, Z0, Z1, Z2, Z3, Z4, Z5, Z6, Z7, Z8, Z9, Z10, resAll, Nat.reduceAdd, Nat.reduceEqDiff, Nat.reduceLeDiff, Nat.reduceMul, ↓reduceIte, reduceCtorEq, Nat.reduceBEq, aoper, Nat.reduceLT, Int.reduceEq, Int.reduceLT, Int.reduceLE]
            | true =>
              have g3 : thereB S x.thing = false := by rw [g2] at hgo; simpa [g1] using hgo
              simp (disch := omega) only [t14, t15, t16, t3, t1, t2, hboxt, hl, hl2, hlt', hlt, hcast, n3, n4, Int.toNat_natCast, hhas, hth, sto_0 hlow, eq_true g1, g2, g3, hw', hlo', hwm.grow, hmg, hvis, hlen, r0_state_within, r1_state_within, k1_state_within, r2_state_within, r3_state_within, r4_state_within, r5_state_within, r6_state_within, r7_state_within, k8_state_within, k7_state_within, r8_state_within, k9_state_within, k6_state_within, k5_state_within, k4_state_within, k3_state_within, k2_state_within, k0_state_within, b0_state_within, Z0, Z1, Z2, Z3, Z4, Z5, Z6, Z7, Z8, Z9, Z10, resAll, Nat.reduceAdd, Nat.reduceEqDiff, Nat.reduceLeDiff, Nat.reduceMul, ↓reduceIte, reduceCtorEq, Nat.reduceBEq, aoper, Nat.reduceLT, Int.reduceEq, Int.reduceLT, Int.reduceLE]
          · simp (disch := omega) only [t14, t15, t16, t3, t1, t2, hboxt, hl, hlt', hlt, hcast, Int.toNat_natCast, sto_0 hlow, g1, hw', hlo', hwm.grow, hmg, hvis, hlen, r0_state_within, r1_state_within, k1_state_within, r2_state_within, r3_state_within, r4_state_within, r5_state_within, r6_state_within, r7_state_within, k8_state_within, k7_state_within, r8_state_within, k9_state_within, k6_state_within, k5_state_within, k4_state_within, k3_state_within, k2_state_within, k0_state_within, b0_state_within, Z0, Z1, Z2, Z3, Z4, Z5, Z6, Z7, Z8, Z9, Z10, resAll, Nat.reduceAdd, Nat.reduceEqDiff, Nat.reduceLeDiff, Nat.reduceMul, ↓reduceIte, reduceCtorEq, Nat.reduceBEq, aoper, Nat.reduceLT, Int.reduceEq, Int.reduceLT, Int.reduceLE]
        | true =>
          have hw' : wTo S (wIn S k) node (V ++ [node]) (j + 1) = wIn S k x.thing (wTo S (wIn S k) node (V ++ [node]) j) := by simp [wTo, hx, hgo]
          rw [hg] at hgo
          simp only [Bool.and_eq_true, decide_eq_true_eq] at hgo
          obtain ⟨⟨g1, g2⟩, g3⟩ := hgo
          obtain ⟨υ, e, v1, v2, v3, v4⟩ := ih (τ.grow [(slotL x, 5)]) x.thing (wTo S (wIn S k) node (V ++ [node]) j) (h1τ.grow _) (h2τ.grow _) (by rw [grow_n]; have := hwm.n; rw [grow_n] at this; omega) (low_grow hlow _) (hmg _) hvis g3 (by omega)
          have w' := (hwm.grow [(slotL x, 5)]).trans v2
          have lo' : υ.low = m := by
            have := v2.low
            rw [grow_low, hlo', minN_min] at this
            omega
          have v5 := Nat.le_trans hlen v4
          simp (disch := omega) only [t14, t15, t16, t3, t1, t2, hboxt, hl, hl2, hlt', hlt, hcast, n3, n4, Int.toNat_natCast, hhas, hth, sto_0 hlow, eq_true g1, g2, g3, e, hw', lo', w', v1, v3, v5, r0_state_within, r1_state_within, k1_state_within, r2_state_within, r3_state_within, r4_state_within, r5_state_within, r6_state_within, r7_state_within, k8_state_within, k7_state_within, r8_state_within, k9_state_within, k6_state_within, k5_state_within, k4_state_within, k3_state_within, k2_state_within, k0_state_within, b0_state_within, Z0, Z1, Z2, Z3, Z4, Z5, Z6, Z7, Z8, Z9, Z10, resAll, Nat.reduceAdd, Nat.reduceEqDiff, Nat.reduceLeDiff, Nat.reduceMul, ↓reduceIte, reduceCtorEq, Nat.reduceBEq, aoper, Nat.reduceLT, Int.reduceEq, Int.reduceLT, Int.reduceLE]
      · have hlt' : ¬ (j : Int) < (S.sl.length : Int) := by omega
        have hjj : j = S.sl.length := by omega
        subst hjj
        have hwf : WM m σ.fresh τ := (Keeps.self σ.fresh [(stL S a1 f1 a2 f2, 5)]).wm.trans hwm
        simp (disch := omega) only [t14, t15, t16, hlt', r0_state_within, r1_state_within, k1_state_within, r2_state_within, r3_state_within, r4_state_within, r5_state_within, r6_state_within, r7_state_within, k8_state_within, k7_state_within, r8_state_within, k9_state_within, k6_state_within, k5_state_within, k4_state_within, k3_state_within, k2_state_within, k0_state_within, b0_state_within, Z0, Z1, Z2, Z3, Z4, Z5, Z6, Z7, Z8, Z9, Z10, resAll, Nat.reduceAdd, Nat.reduceEqDiff, Nat.reduceLeDiff, Nat.reduceMul, ↓reduceIte, reduceCtorEq, Nat.reduceBEq, aoper, Nat.reduceLT, Int.reduceEq, Int.reduceLT, Int.reduceLE]
        rw [grow_nil]
        exact ⟨rfl, hmap', hwf, hvis, by omega, hlo'⟩
end Go.Proofs.YtidmcpkbcphpiaaGreat
namespace Go.Proofs.YtidmcpkbcphpiaaGreat
open Go Go.Hai
set_option maxRecDepth 20000
set_option linter.unusedSimpArgs false
set_option maxHeartbeats 4000000
attribute [local irreducible] Hai.Ends EndsR EndsO EndsD AHeap.grow
def r0_state_inside : List AOper := [(.mk (some 3) none (.box 5 (.tmp 0))), (.mk (some 6) none (.mv (.const (.bool false))))]
def r1_state_inside : List AOper := [(.mk (some 8) none (.load true 5 (.tmp 3))), (.mk (some 9) none (.mv (.tmp 1))), (.mk (some 10) none (.call 121 [(.tmp 8), (.tmp 9)])), (.mk (some 11) none (.un .not (.tmp 10))), (.mk (some 12) none (.mv (.tmp 11))), (.mk (some 13) (some (12, false)) (.fldA 4 (.tmp 3))), (.mk (some 14) (some (12, false)) (.load false 1 (.tmp 13))), (.mk (some 15) (some (12, false)) (.mv (.tmp 1))), (.mk (some 16) (some (12, false)) (.idxA 13 (.tmp 14) (.tmp 15))), (.mk (some 17) (some (12, false)) (.fldA 0 (.tmp 16))), (.mk (some 18) (some (12, false)) (.load false 1 (.tmp 17))), (.mk (some 19) (some (12, false)) (.bin .neq (.tmp 18) (.const (.int .i64 2)))), (.mk (some 20) none (.pick (.tmp 12) (.const (.bool true)) (.tmp 19)))]
def r2_state_inside : List AOper := [(.mk (some 6) none (.mv (.const (.bool false))))]
def k1_state_inside : ACode := (.cond (.tmp 20) (.seq (.reg r2_state_inside) .ret) .skip)
def r3_state_inside : List AOper := [(.mk (some 21) none .mkMap), (.mk (some 7) none (.mv (.tmp 21)))]
def r4_state_inside : List AOper := [(.mk (some 22) none (.load true 5 (.tmp 3))), (.mk (some 23) none (.mv (.tmp 1))), (.mk (some 24) none (.mv (.tmp 7))), (.mk (some 25) none (.call 185 [(.tmp 22), (.tmp 23), (.tmp 24)]))]
def r5_state_inside : List AOper := [(.mk (some 26) none (.mv (.tmp 7))), (.mk (some 27) none (.load true 5 (.tmp 3))), (.mk (some 28) none (.mv (.tmp 2))), (.mk (some 29) none (.call 186 [(.tmp 27), (.tmp 28)])), (.mk (some 30) none (.lookup .i64 (.bool false) (.tmp 26) (.tmp 29) false)), (.mk (some 6) none (.mv (.tmp 30)))]
def k4_state_inside : ACode := (.seq (.reg r5_state_inside) .ret)
def k3_state_inside : ACode := (.seq (.reg r4_state_inside) k4_state_inside)
def k2_state_inside : ACode := (.seq (.reg r3_state_inside) k3_state_inside)
def k0_state_inside : ACode := (.seq (.seq (.reg r1_state_inside) k1_state_inside) k2_state_inside)
def c_state_inside : ACode := (.seq (.reg r0_state_inside) k0_state_inside)
theorem e_state_inside : ofProg Tryz.prog 125 = some ⟨31, [(.tmp 6)], c_state_inside⟩ := by kernel_rfl
def r0_state_ring : List AOper := [(.mk (some 1) none (.box 5 (.tmp 0))), (.mk (some 2) none (.mv (.const (.bool false))))]
def r1_state_ring : List AOper := [(.mk (some 5) none (.fldA 3 (.tmp 1))), (.mk (some 6) none (.load false 1 (.tmp 5))), (.mk (some 7) none (.lenS (.tmp 6))), (.mk (some 8) none (.mv (.const (.int .i64 0))))]
def r2_state_ring : List AOper := [(.mk (some 9) none (.bin .lss (.tmp 8) (.tmp 7)))]
def r3_state_ring : List AOper := [(.mk (some 10) none (.mv (.tmp 8))), (.mk (some 11) none (.idxA 5 (.tmp 6) (.tmp 8))), (.mk (some 12) none (.load true 5 (.tmp 11))), (.mk (some 4) none (.alloc [(.int .i64 0), (.int .i64 0), (.int .i64 0), (.int .i64 0), (.int .i64 0)] 5)), (.mk (some 3) none (.mv (.tmp 10))), (.mk none none (.store 5 (.tmp 4) (.tmp 12)))]
def r4_state_ring : List AOper := [(.mk (some 13) none (.fldA 0 (.tmp 4))), (.mk (some 14) none (.fldA 0 (.tmp 13))), (.mk (some 15) none (.load false 1 (.tmp 14))), (.mk (some 16) none (.bin .eql (.tmp 15) (.const (.int .i64 2)))), (.mk (some 17) none (.mv (.tmp 16))), (.mk (some 18) (some (17, true)) (.load true 5 (.tmp 1))), (.mk (some 19) (some (17, true)) (.fldA 0 (.tmp 4))), (.mk (some 20) (some (17, true)) (.fldA 1 (.tmp 19))), (.mk (some 21) (some (17, true)) (.load false 1 (.tmp 20))), (.mk (some 22) (some (17, true)) (.mv (.tmp 3))), (.mk (some 23) (some (17, true)) (.call 125 [(.tmp 18), (.tmp 21), (.tmp 22)])), (.mk (some 24) none (.pick (.tmp 17) (.tmp 23) (.const (.bool false))))]
def r5_state_ring : List AOper := [(.mk (some 2) none (.mv (.const (.bool true))))]
def k5_state_ring : ACode := (.cond (.tmp 24) (.seq (.reg r5_state_ring) .ret) .skip)
def k4_state_ring : ACode := (.seq (.reg r4_state_ring) k5_state_ring)
def r6_state_ring : List AOper := [(.mk (some 25) none (.bin .add (.tmp 8) (.const (.int .i64 1)))), (.mk (some 8) none (.mv (.tmp 25)))]
def k6_state_ring : ACode := (.reg r6_state_ring)
def k3_state_ring : ACode := (.seq (.block 1 (.seq (.reg r3_state_ring) k4_state_ring)) k6_state_ring)
def k2_state_ring : ACode := (.seq (.cond (.tmp 9) .skip (.exit 0)) k3_state_ring)
def b0_state_ring : ACode := (.seq (.reg r2_state_ring) k2_state_ring)
def k1_state_ring : ACode := (.block 0 (.loop b0_state_ring))
def r7_state_ring : List AOper := [(.mk (some 2) none (.mv (.const (.bool false))))]
def k7_state_ring : ACode := (.seq (.reg r7_state_ring) .ret)
def k0_state_ring : ACode := (.seq (.seq (.reg r1_state_ring) k1_state_ring) k7_state_ring)
def c_state_ring : ACode := (.seq (.reg r0_state_ring) k0_state_ring)
theorem e_state_ring : ofProg Tryz.prog 60 = some ⟨26, [(.tmp 2)], c_state_ring⟩ := by kernel_rfl

def insideB (S : StD) (node slot : Int) : Bool := match atI S.th node with
  | some t => decide (t.type = 2) && (wIn S (S.th.length + 1) node []).contains (ownI S slot)
  | none => false
theorem state_inside_ok (d : Nat) (σ : AHeap) (S : StD) (a1 : Option Addr) (f1 : Nat) (a2 : Option Addr) (f2 : Nat) (node slot : Int) (hn : S.sl.length < 1000) (hm : S.th.length < 1000) (hT : ∀ (i : Nat) (x : ThingD), S.th[i]? = some x → nodeOk x)
    (h1 : SlS σ a1 S.sl) (h2 : SlT σ a2 S.th) :
    acall (ofProg Tryz.prog) 1000 (d + S.th.length + 6) 125 [stV S a1 f1 a2 f2, .int .i64 node, .int .i64 slot] σ = some (.bool (insideB S node slot), σ) := by
  refine acall_flat e_state_inside (by simp) rfl ?_
  have hth := fun L n => state_there_ok (d + S.th.length + 4) (σ.fresh.grow L) S a1 f1 a2 f2 n (h2.fresh.grow L)
  by_cases q : 0 ≤ node ∧ node < S.th.length
  · obtain ⟨nt, n1, n2⟩ := atI_some q.1 q.2
    have ht : thereB S node = !(decide (nt.type = 0)) := by unfold thereB; rw [n1]
    obtain ⟨b2, rfl, hb2⟩ := h2.fresh.at (i := node.toNat) (by omega)
    have hl2 := fun L => hb2.ld0 (Keeps.refl _) n2 L 1 (by omega)
    simp only [List.take_succ_cons, List.take_zero] at hl2
    by_cases g1 : nt.type = 2
    · have g0 : ¬ nt.type = 0 := by omega
      have hi : insideB S node slot = (wIn S (S.th.length + 1) node []).contains (ownI S slot) := by unfold insideB; rw [n1]; simp [g1]
      simp (disch := omega) only [hth, ht, g0, q.1, q.2, hl2, eq_true g1, r0_state_inside, r1_state_inside, r2_state_inside, r3_state_inside, r4_state_inside, r5_state_inside, c_state_inside, k0_state_inside, k1_state_inside, Z0, Z1, Z2, Z3, Z4, Z5, Z6, Z7, Z8, Z9, Z10, resAll, Nat.reduceAdd, Nat.reduceEqDiff, Nat.reduceLeDiff, Nat.reduceMul, ↓reduceIte, reduceCtorEq, Nat.reduceBEq, aoper, Nat.reduceLT, Int.reduceEq, Int.reduceLT, Int.reduceLE]
      obtain ⟨m1, m2⟩ := mapNew (σ.fresh.grow [(stL S a1 f1 (some ⟨b2, 0, none⟩) f2, 5)])
      generalize hτ : (σ.fresh.grow [(stL S a1 f1 (some ⟨b2, 0, none⟩) f2, 5)]).push (.obj (.map #[] 0)) = τ at m1 m2
      have hmn : (σ.fresh.grow [(stL S a1 f1 (some ⟨b2, 0, none⟩) f2, 5)]).n < τ.n := by rw [← hτ]; exact Nat.lt_succ_self _
      have hlow : τ.low ≤ τ.n := by rw [m2.low]; exact Nat.le_trans (low_grow fresh_le _) m2.n
      obtain ⟨υ, e, v1, v2, v3, v4⟩ := state_within_ok S a1 f1 (some ⟨b2, 0, none⟩) f2 hn hT (d + 2) _ (S.th.length + 1) τ node [] ((h1.fresh.grow _).keeps m2) ((h2.fresh.grow _).keeps m2) hmn hlow m1 ⟨List.nodup_nil, fun n h => by cases h⟩ (by rw [ht]; simp [g0]) (by simp)
      rw [show d + 2 + (S.th.length + 1) + 2 = d + S.th.length + 5 by omega] at e
      have h0n : σ.fresh.n < (σ.fresh.grow [(stL S a1 f1 (some ⟨b2, 0, none⟩) f2, 5)]).n := by rw [grow_n]; simp
      have hbτ : ∀ o n, τ.loadN σ.fresh.n o n = sliceL (stL S a1 f1 (some ⟨b2, 0, none⟩) f2) o n := fun o n => by rw [m2.load _ _ h0n, ld_0]
      have hbυ : ∀ o n, υ.loadN σ.fresh.n o n = sliceL (stL S a1 f1 (some ⟨b2, 0, none⟩) f2) o n := fun o n => by rw [v2.load _ _ (by omega) (by omega), hbτ]
      have hown := state_owner_ok (d + S.th.length + 1) υ S a1 f1 (some ⟨b2, 0, none⟩) f2 slot hm hT (((h2.fresh.grow _).keeps m2).wm m1 v2)
      have hlk := fun n => lkO_ok v1 n
      have hlo : υ.low = σ.n := by
        have := v2.low
        rw [m2.low, grow_low, fresh_low, minN_min] at this
        have h3 : σ.fresh.n = σ.n := rfl
        omega
      simp (disch := omega) only [hth, hτ, hbτ, e, hbυ, hown, hlk, hlo, hi, r0_state_inside, r1_state_inside, r2_state_inside, k1_state_inside, r3_state_inside, r4_state_inside, r5_state_inside, k4_state_inside, k3_state_inside, k2_state_inside, k0_state_inside, Z0, Z1, Z2, Z3, Z4, Z5, Z6, Z7, Z8, Z9, Z10, resAll, Nat.reduceAdd, Nat.reduceEqDiff, Nat.reduceLeDiff, Nat.reduceMul, ↓reduceIte, reduceCtorEq, Nat.reduceBEq, aoper, Nat.reduceLT, Int.reduceEq, Int.reduceLT, Int.reduceLE]
    · have hi : insideB S node slot = false := by unfold insideB; rw [n1]; simp [g1]
      by_cases g0 : nt.type = 0
      · simp (disch := omega) only [hth, ht, eq_true g0, q.1, q.2, hl2, hi, r0_state_inside, r1_state_inside, r2_state_inside, k1_state_inside, r3_state_inside, r4_state_inside, r5_state_inside, k4_state_inside, k3_state_inside, k2_state_inside, k0_state_inside, c_state_inside, Z0, Z1, Z2, Z3, Z4, Z5, Z6, Z7, Z8, Z9, Z10, resAll, Nat.reduceAdd, Nat.reduceEqDiff, Nat.reduceLeDiff, Nat.reduceMul, ↓reduceIte, reduceCtorEq, Nat.reduceBEq, aoper, Nat.reduceLT, Int.reduceEq, Int.reduceLT, Int.reduceLE]
      · simp (disch := omega) only [hth, ht, g0, q.1, q.2, hl2, g1, hi, r0_state_inside, r1_state_inside, r2_state_inside, k1_state_inside, r3_state_inside, r4_state_inside, r5_state_inside, k4_state_inside, k3_state_inside, k2_state_inside, k0_state_inside, c_state_inside, Z0, Z1, Z2, Z3, Z4, Z5, Z6, Z7, Z8, Z9, Z10, resAll, Nat.reduceAdd, Nat.reduceEqDiff, Nat.reduceLeDiff, Nat.reduceMul, ↓reduceIte, reduceCtorEq, Nat.reduceBEq, aoper, Nat.reduceLT, Int.reduceEq, Int.reduceLT, Int.reduceLE]
  · have n1 := atI_none (l := S.th) q
    have ht : thereB S node = false := by unfold thereB; rw [n1]
    have hi : insideB S node slot = false := by unfold insideB; rw [n1]
    simp (disch := omega) only [hth, ht, hi, r0_state_inside, r1_state_inside, r2_state_inside, k1_state_inside, r3_state_inside, r4_state_inside, r5_state_inside, k4_state_inside, k3_state_inside, k2_state_inside, k0_state_inside, c_state_inside, Z0, Z1, Z2, Z3, Z4, Z5, Z6, Z7, Z8, Z9, Z10, resAll, Nat.reduceAdd, Nat.reduceEqDiff, Nat.reduceLeDiff, Nat.reduceMul, ↓reduceIte, reduceCtorEq, Nat.reduceBEq, aoper, Nat.reduceLT, Int.reduceEq, Int.reduceLT, Int.reduceLE]

def ringB (S : StD) : Bool := !(allTo (fun i x => !(decide (x.type = 2) && insideB S x.thing i)) S.sl S.sl.length)
theorem state_ring_ok (d : Nat) (σ : AHeap) (S : StD) (a1 : Option Addr) (f1 : Nat) (a2 : Option Addr) (f2 : Nat) (hn : S.sl.length < 1000) (hm : S.th.length < 1000) (hT : ∀ (i : Nat) (x : ThingD), S.th[i]? = some x → nodeOk x)
    (h1 : SlS σ a1 S.sl) (h2 : SlT σ a2 S.th) :
    acall (ofProg Tryz.prog) 1000 (d + S.th.length + 7) 60 [stV S a1 f1 a2 f2] σ = some (.bool (ringB S), σ) := by
  refine acall_flat e_state_ring (by simp) rfl ?_
  simp (disch := omega) only [r0_state_ring, r1_state_ring, r2_state_ring, r3_state_ring, r4_state_ring, r5_state_ring, k5_state_ring, k4_state_ring, r6_state_ring, k6_state_ring, k3_state_ring, k2_state_ring, k1_state_ring, r7_state_ring, k7_state_ring, k0_state_ring, c_state_ring, Z0, Z1, Z2, Z3, Z4, Z5, Z6, Z7, Z8, Z9, Z10, resAll, Nat.reduceAdd, Nat.reduceEqDiff, Nat.reduceLeDiff, Nat.reduceMul, ↓reduceIte, reduceCtorEq, Nat.reduceBEq, aoper, Nat.reduceLT, Int.reduceEq, Int.reduceLT, Int.reduceLE]
  refine ends_loop (fun i t τ => tget t 6 = .slice a1 S.sl.length f1 ∧ tget t 7 = i64 S.sl.length ∧ tget t 8 = i64 i ∧ tget t 1 = here σ.fresh.n 0 ∧ Keeps (σ.fresh.grow [(stL S a1 f1 a2 f2, 5)]) τ ∧ allTo (fun i x => !(decide (x.type = 2) && insideB S x.thing i)) S.sl i = true)
    S.sl.length hn ⟨?_, ?_, ?_, ?_, Keeps.refl _, rfl⟩ ?_
  iterate 4 simp (disch := omega) only [Int.natCast_zero, Int.ofNat_zero, r0_state_ring, r1_state_ring, r2_state_ring, r3_state_ring, r4_state_ring, r5_state_ring, k5_state_ring, k4_state_ring, r6_state_ring, k6_state_ring, k3_state_ring, k2_state_ring, k1_state_ring, r7_state_ring, k7_state_ring, k0_state_ring, c_state_ring, Z0, Z1, Z2, Z3, Z4, Z5, Z6, Z7, Z8, Z9, Z10, resAll, Nat.reduceAdd, Nat.reduceEqDiff, Nat.reduceLeDiff, Nat.reduceMul, ↓reduceIte, reduceCtorEq, Nat.reduceBEq, aoper, Nat.reduceLT, Int.reduceEq, Int.reduceLT, Int.reduceLE]
  rintro i t τ hi ⟨t6, t7, t8, t1, hk, hall⟩
  rw [← grow_nil τ]
  have hlow : τ.low ≤ τ.n := by rw [hk.low]; exact Nat.le_trans (low_grow fresh_le _) hk.n
  have hbox := fun M o n => hk.own0 (r := stL S a1 f1 a2 f2) (e := 5) rfl M o n
  by_cases hlt : i < S.sl.length
  · obtain ⟨b, rfl, hb⟩ := h1.fresh.at hlt
    have hx : S.sl[i]? = some S.sl[i] := List.getElem?_eq_getElem hlt
    generalize S.sl[i] = x at hx
    have hl := fun L => hb.ld0 ((Keeps.self _ _).trans hk) hx L 5 (by omega)
    simp only [List.take_succ_cons, List.take_zero] at hl
    have hlt' : (i : Int) < (S.sl.length : Int) := by omega
    have hcast : ((i + 1 : Nat) : Int) = (i : Int) + 1 := by omega
    have hin := fun L => state_inside_ok d (τ.grow L) S (some ⟨b, 0, none⟩) f1 a2 f2 x.thing i hn hm hT ((h1.fresh.keeps ((Keeps.self _ _).trans hk)).grow L) ((h2.fresh.keeps ((Keeps.self _ _).trans hk)).grow L)
    by_cases g1 : x.type = 2
    · cases g2 : insideB S x.thing i with
      | true =>
        have hr : ringB S = true := by unfold ringB; rw [allTo_false hx (by simp [g1, g2]) _ hlt]; rfl
        simp (disch := omega) only [t6, t7, t8, t1, hbox, hl, hlt', hin, Int.toNat_natCast, sto_0 hlow, eq_true g1, g2, hr, hk.low, r0_state_ring, r1_state_ring, r2_state_ring, r3_state_ring, r4_state_ring, r5_state_ring, k5_state_ring, k4_state_ring, r6_state_ring, k6_state_ring, k3_state_ring, k2_state_ring, k1_state_ring, r7_state_ring, k7_state_ring, k0_state_ring, b0_state_ring, Z0, Z1, Z2, Z3, Z4, Z5, Z6, Z7, Z8, Z9, Z10, resAll, Nat.reduceAdd, Nat.reduceEqDiff, Nat.reduceLeDiff, Nat.reduceMul, ↓reduceIte, reduceCtorEq, Nat.reduceBEq, aoper, Nat.reduceLT, Int.reduceEq, Int.reduceLT, Int.reduceLE]
      | false =>
        simp (disch := omega) only [t6, t7, t8, t1, hbox, hl, hlt', hlt, hcast, hin, Int.toNat_natCast, sto_0 hlow, eq_true g1, g2, hk.grow, allTo_next (p := fun i x => !(decide (x.type = 2) && insideB S x.thing i)) hall hx (by simp [g2]), r0_state_ring, r1_state_ring, r2_state_ring, r3_state_ring, r4_state_ring, r5_state_ring, k5_state_ring, k4_state_ring, r6_state_ring, k6_state_ring, k3_state_ring, k2_state_ring, k1_state_ring, r7_state_ring, k7_state_ring, k0_state_ring, b0_state_ring, Z0, Z1, Z2, Z3, Z4, Z5, Z6, Z7, Z8, Z9, Z10, resAll, Nat.reduceAdd, Nat.reduceEqDiff, Nat.reduceLeDiff, Nat.reduceMul, ↓reduceIte, reduceCtorEq, Nat.reduceBEq, aoper, Nat.reduceLT, Int.reduceEq, Int.reduceLT, Int.reduceLE]
    · simp (disch := omega) only [t6, t7, t8, t1, hbox, hl, hlt', hlt, hcast, Int.toNat_natCast, sto_0 hlow, g1, hk.grow, allTo_next (p := fun i x => !(decide (x.type = 2) && insideB S x.thing i)) hall hx (by simp [g1]), r0_state_ring, r1_state_ring, r2_state_ring, r3_state_ring, r4_state_ring, r5_state_ring, k5_state_ring, k4_state_ring, r6_state_ring, k6_state_ring, k3_state_ring, k2_state_ring, k1_state_ring, r7_state_ring, k7_state_ring, k0_state_ring, b0_state_ring, Z0, Z1, Z2, Z3, Z4, Z5, Z6, Z7, Z8, Z9, Z10, resAll, Nat.reduceAdd, Nat.reduceEqDiff, Nat.reduceLeDiff, Nat.reduceMul, ↓reduceIte, reduceCtorEq, Nat.reduceBEq, aoper, Nat.reduceLT, Int.reduceEq, Int.reduceLT, Int.reduceLE]
  · have hlt' : ¬ (i : Int) < (S.sl.length : Int) := by omega
    have hii : i = S.sl.length := by omega
    have hr : ringB S = false := by unfold ringB; rw [← hii, hall]; rfl
    simp (disch := omega) only [t6, t7, t8, hlt', hr, hk.low, r0_state_ring, r1_state_ring, r2_state_ring, r3_state_ring, r4_state_ring, r5_state_ring, k5_state_ring, k4_state_ring, r6_state_ring, k6_state_ring, k3_state_ring, k2_state_ring, k1_state_ring, r7_state_ring, k7_state_ring, k0_state_ring, b0_state_ring, Z0, Z1, Z2, Z3, Z4, Z5, Z6, Z7, Z8, Z9, Z10, resAll, Nat.reduceAdd, Nat.reduceEqDiff, Nat.reduceLeDiff, Nat.reduceMul, ↓reduceIte, reduceCtorEq, Nat.reduceBEq, aoper, Nat.reduceLT, Int.reduceEq, Int.reduceLT, Int.reduceLE]
end Go.Proofs.YtidmcpkbcphpiaaGreat
namespace Go.Proofs.YtidmcpkbcphpiaaGreat
open Go Go.Hai
set_option maxRecDepth 20000
set_option linter.unusedSimpArgs false
set_option maxHeartbeats 4000000
attribute [local irreducible] Hai.Ends EndsR EndsO EndsD AHeap.grow
def r0_state_Forest : List AOper := [(.mk (some 1) none (.box 5 (.tmp 0))), (.mk (some 2) none (.alloc [(.slice none 0 0)] 1))]
def r1_state_Forest : List AOper := [(.mk (some 3) none (.alloc [(.slice none 0 0)] 1))]
def r2_state_Forest : List AOper := [(.mk (some 6) none (.fldA 3 (.tmp 1))), (.mk (some 7) none (.load false 1 (.tmp 6))), (.mk (some 8) none (.lenS (.tmp 7))), (.mk (some 9) none (.mv (.const (.int .i64 0))))]
def r3_state_Forest : List AOper := [(.mk (some 10) none (.bin .lss (.tmp 9) (.tmp 8)))]
def r4_state_Forest : List AOper := [(.mk (some 11) none (.idxA 5 (.tmp 7) (.tmp 9))), (.mk (some 12) none (.load true 5 (.tmp 11))), (.mk (some 5) none (.alloc [(.int .i64 0), (.int .i64 0), (.int .i64 0), (.int .i64 0), (.int .i64 0)] 5)), (.mk none none (.store 5 (.tmp 5) (.tmp 12)))]
def r5_state_Forest : List AOper := [(.mk (some 13) none (.fldA 0 (.tmp 5))), (.mk (some 14) none (.load true 4 (.tmp 13))), (.mk (some 15) none (.call 38 [(.tmp 14)]))]
def r6_state_Forest : List AOper := [(.mk (some 16) none (.fldA 4 (.tmp 5))), (.mk none none (.store 1 (.tmp 16) (.const (.int .i64 (-2)))))]
def k6_state_Forest : ACode := (.cond (.tmp 15) (.reg r6_state_Forest) .skip)
def r7_state_Forest : List AOper := [(.mk (some 17) none (.fldA 0 (.tmp 3))), (.mk (some 18) none (.load false 1 (.tmp 17))), (.mk (some 19) none (.fldA 4 (.tmp 5))), (.mk (some 20) none (.load false 1 (.tmp 19))), (.mk (some 21) none (.buildSl [(.int .i64 0)] 1 1 [(0, (1, (.tmp 20)))])), (.mk (some 22) none (.app 1 8 (.tmp 18) (.tmp 21))), (.mk (some 23) none (.fldA 0 (.tmp 3))), (.mk none none (.store 1 (.tmp 23) (.tmp 22)))]
def k7_state_Forest : ACode := (.reg r7_state_Forest)
def k5_state_Forest : ACode := (.seq (.seq (.reg r5_state_Forest) k6_state_Forest) k7_state_Forest)
def r8_state_Forest : List AOper := [(.mk (some 24) none (.bin .add (.tmp 9) (.const (.int .i64 1)))), (.mk (some 9) none (.mv (.tmp 24)))]
def k8_state_Forest : ACode := (.reg r8_state_Forest)
def k4_state_Forest : ACode := (.seq (.block 1 (.seq (.reg r4_state_Forest) k5_state_Forest)) k8_state_Forest)
def k3_state_Forest : ACode := (.seq (.cond (.tmp 10) .skip (.exit 0)) k4_state_Forest)
def b0_state_Forest : ACode := (.seq (.reg r3_state_Forest) k3_state_Forest)
def k2_state_Forest : ACode := (.block 0 (.loop b0_state_Forest))
def r9_state_Forest : List AOper := [(.mk (some 25) none (.load true 1 (.tmp 3))), (.mk none none (.store 1 (.tmp 2) (.tmp 25)))]
def k9_state_Forest : ACode := (.seq (.reg r9_state_Forest) .ret)
def k1_state_Forest : ACode := (.seq (.seq (.reg r2_state_Forest) k2_state_Forest) k9_state_Forest)
def k0_state_Forest : ACode := (.seq (.reg r1_state_Forest) k1_state_Forest)
def c_state_Forest : ACode := (.seq (.reg r0_state_Forest) k0_state_Forest)
theorem e_state_Forest : ofProg Tryz.prog 62 = some ⟨26, [(.cell 2 true 1)], c_state_Forest⟩ := by kernel_rfl

def upOf (x : SlotD) : Int := if capNone x then -2 else x.up
def upL (S : StD) : List Int := S.sl.map upOf
theorem upL_length (S : StD) : (upL S).length = S.sl.length := by simp [upL]
theorem upL_take {S : StD} {i : Nat} {x : SlotD} (hx : S.sl[i]? = some x) : (upL S).take (i + 1) = (upL S).take i ++ [upOf x] := by
  rw [List.take_add_one]
  simp [upL, hx]
theorem state_Forest_ok (d : Nat) (σ : AHeap) (S : StD) (a1 : Option Addr) (f1 : Nat) (a2 : Option Addr) (f2 : Nat) (hd : σ.dead = []) (hlo : σ.low ≤ σ.n) (h1 : SlS σ a1 S.sl) (hn0 : 0 < S.sl.length) (hn : S.sl.length < 1000) :
    ∃ a f τ, acall (ofProg Tryz.prog) 1000 (d + 2) 62 [stV S a1 f1 a2 f2] σ = some (.agg [.slice a (upL S).length f].toArray, τ) ∧ SlI τ a (upL S) ∧ Keeps σ τ := by
  suffices hs : Hai.Ends (acode (acall (ofProg Tryz.prog) 1000 (d + 1)) 1000 c_state_Forest (Tr.of [stV S a1 f1 a2 f2]) (σ.fresh.grow [])) (finA σ.n [.cell 2 true 1] fun v τ => ∃ a f, v = .agg [.slice a (upL S).length f].toArray ∧ SlI τ a (upL S) ∧ Keeps σ.fresh τ) by
    obtain ⟨v, τ', e, τ, ⟨a, f, rfl, g1, g2⟩, g3⟩ := acall_addr e_state_Forest (by simp) hlo hs
    rcases g3 with ⟨g3, _⟩ | rfl
    · obtain ⟨b, rfl, _⟩ := g1.resolve_left (fun e => by have := upL_length S; rw [e] at this; simp at this; omega)
      cases g3
    · exact ⟨a, f, _, e, g1.setLow _, g2.back⟩
  simp (disch := omega) only [r0_state_Forest, r1_state_Forest, r2_state_Forest, r3_state_Forest, r4_state_Forest, r5_state_Forest, r6_state_Forest, k6_state_Forest, r7_state_Forest, k7_state_Forest, k5_state_Forest, r8_state_Forest, k8_state_Forest, k4_state_Forest, k3_state_Forest, k2_state_Forest, r9_state_Forest, k9_state_Forest, k1_state_Forest, k0_state_Forest, c_state_Forest, Z0, Z1, Z2, Z3, Z4, Z5, Z6, Z7, Z8, Z9, Z10, resAll, Nat.reduceAdd, Nat.reduceEqDiff, Nat.reduceLeDiff, Nat.reduceMul, ↓reduceIte, reduceCtorEq, Nat.reduceBEq, aoper, Nat.reduceLT, Int.reduceEq, Int.reduceLT, Int.reduceLE]
  generalize hσ1 : σ.fresh.grow _ = σ1
  have e1n : σ1.n = σ.n + 3 := by rw [← hσ1, grow_n]; rfl
  have e1l : σ1.low = σ.n := by rw [← hσ1, grow_low]; rfl
  have e1d : σ1.dead = [] := by rw [← hσ1, grow_dead]; exact hd
  have e1k : Keeps σ.fresh σ1 := by rw [← hσ1]; exact Keeps.self _ _
  have e1b : ∀ o n, σ1.loadN σ.fresh.n o n = sliceL (stL S a1 f1 a2 f2) o n := fun o n => by rw [← hσ1, ld_0]
  have e1r : σ1.t.get (σ.fresh.n + 1) = some (rowOf ([.slice none 0 0], 1)) := by rw [← hσ1]; exact grow_new _ _ 1 rfl
  have e1h : σ1.t.get (σ.fresh.n + 2) = some (rowOf ([.slice none 0 0], 1)) := by rw [← hσ1]; exact grow_new _ _ 2 rfl
  have hfn : σ.fresh.n = σ.n := rfl
  refine ends_loop (fun i t τ => tget t 7 = .slice a1 S.sl.length f1 ∧ tget t 8 = i64 S.sl.length ∧ tget t 9 = i64 i ∧ tget t 3 = here (σ.fresh.n + 2) 0 ∧ tget t 2 = here (σ.fresh.n + 1) 0 ∧ Mod (σ.fresh.n + 2) σ1 τ ∧
      ∃ v, τ.t.get (σ.fresh.n + 2) = some (rowOf ([v], 1)) ∧ OutP (σ.n + 3) τ v ((upL S).take i))
    S.sl.length hn ⟨?_, ?_, ?_, ?_, ?_, Mod.refl _ _, _, e1h, OutP.nil _ _⟩ ?_
  iterate 5 simp (disch := omega) only [Int.natCast_zero, Int.ofNat_zero, r0_state_Forest, r1_state_Forest, r2_state_Forest, r3_state_Forest, r4_state_Forest, r5_state_Forest, r6_state_Forest, k6_state_Forest, r7_state_Forest, k7_state_Forest, k5_state_Forest, r8_state_Forest, k8_state_Forest, k4_state_Forest, k3_state_Forest, k2_state_Forest, r9_state_Forest, k9_state_Forest, k1_state_Forest, k0_state_Forest, c_state_Forest, Z0, Z1, Z2, Z3, Z4, Z5, Z6, Z7, Z8, Z9, Z10, resAll, Nat.reduceAdd, Nat.reduceEqDiff, Nat.reduceLeDiff, Nat.reduceMul, ↓reduceIte, reduceCtorEq, Nat.reduceBEq, aoper, Nat.reduceLT, Int.reduceEq, Int.reduceLT, Int.reduceLE]
  rintro i t τ hi ⟨t7, t8, t9, t3, t2, hmd, v, hrow, hout⟩
  rw [← grow_nil τ]
  have hmn := hmd.n
  have hlow : τ.low ≤ τ.n := by rw [hmd.low]; omega
  have hv : ∀ L, (τ.grow L).loadN (σ.fresh.n + 2) 0 1 = some [v] := fun L => by rw [load_old _ _ _ _ (by omega), load_row hrow (by simp)]; rfl
  have hfit : ∀ L, (τ.grow L).t.get (σ.fresh.n + 2) = some (rowOf ([v], 1)) := fun L => by rw [grow_old _ _ (by omega)]; exact hrow
  by_cases hlt : i < S.sl.length
  · obtain ⟨b, rfl, hb⟩ := h1.fresh.at hlt
    have hx : S.sl[i]? = some S.sl[i] := List.getElem?_eq_getElem hlt
    generalize S.sl[i] = x at hx
    have hbn := hb.1
    have hl0 : σ1.loadN b (i * 5) 5 = some (slotL x) := by rw [e1k.load _ _ hbn]; exact hb.2 i x hx 0 5 (by omega)
    have hl : ∀ L, (τ.grow L).loadN b (i * 5) 5 = some (slotL x) := fun L => by rw [(hmd.grow L).load _ _ (by omega) (by omega)]; exact hl0
    have hlt' : (i : Int) < (S.sl.length : Int) := by omega
    have hcast : ((i + 1 : Nat) : Int) = (i : Int) + 1 := by omega
    have hul := upL_length S
    have step : ∀ (r : List Value) (z : Int), upOf x = z → ∃ a' n' f' τ' τ'', appOp (τ.grow [(r, 5), ([i64 z], 1)]) 1 8 v (.slice (some ⟨τ.n + 1, 0, none⟩) 1 1) = some (.slice a' n' f', τ') ∧ τ'.storeN (σ.fresh.n + 2) 0 [.slice a' n' f'] = some τ'' ∧
        Mod (σ.fresh.n + 2) σ1 τ'' ∧ τ''.t.get (σ.fresh.n + 2) = some (rowOf ([.slice a' n' f'], 1)) ∧ OutP (σ.n + 3) τ'' (.slice a' n' f') ((upL S).take (i + 1)) := by
      intro r z hz
      obtain ⟨v', τ', he, ho', hd', hl', hr', hrd⟩ := app_step (base := σ.n + 3) (fx := 1) (bx := τ.n + 1) (z := z) (by rw [grow_dead, hmd.dead, e1d]) (by rw [grow_low, hmd.low, e1l]; omega) (by rw [grow_n]; omega) (hout.keeps (Keeps.self _ [(r, 5), ([i64 z], 1)])) (by rw [ld_1]; rfl) (by rw [List.length_take]; omega)
      obtain ⟨a', f', rfl⟩ := ho'.shape
      have hrow' : τ'.t.get (σ.fresh.n + 2) = some (rowOf ([v], 1)) := by rw [hr' _ (by omega)]; exact hfit _
      have hn' := hrd.1
      rw [grow_n] at hn'
      obtain ⟨τ'', s1, s2, s3, s4⟩ := Mod.store (o := 0) (vs := [.slice a' ((upL S).take i ++ [z]).length f']) hrow' (by rw [hl', grow_low, hmd.low, e1l]; omega) (by simp) rfl
      refine ⟨a', _, f', τ', τ'', he, s1, ?_, s2, ?_⟩
      · refine Mod.trans ⟨?_, ?_, ?_, ?_⟩ s3
        · omega
        · rw [hl', grow_low, hmd.low]
        · rw [hd', e1d]
        · intro c hc hne
          rw [hr' c (by omega), grow_old _ _ (by omega)]; exact hmd.row c hc hne
      · have : (upL S).take (i + 1) = (upL S).take i ++ [z] := by rw [upL_take hx, hz]
        rw [this]
        exact ho'.mod s3 (by omega)
    cases g1 : capNone x with
    | true =>
      obtain ⟨a', n', f', τ', τ'', he, hs, q1, q2, q3⟩ := step [i64 x.type, i64 x.thing, i64 x.rights, i64 x.badge, i64 (-2)] (-2) (by unfold upOf; rw [g1]; rfl)
      simp (disch := omega) only [t7, t8, t9, t3, t2, hl, hv, hlt', hlt, hcast, cap_None_ok, Int.toNat_natCast, sto_0 hlow, g1, he, hs, q1, r0_state_Forest, r1_state_Forest, r2_state_Forest, r3_state_Forest, r4_state_Forest, r5_state_Forest, r6_state_Forest, k6_state_Forest, r7_state_Forest, k7_state_Forest, k5_state_Forest, r8_state_Forest, k8_state_Forest, k4_state_Forest, k3_state_Forest, k2_state_Forest, r9_state_Forest, k9_state_Forest, k1_state_Forest, k0_state_Forest, b0_state_Forest, Z0, Z1, Z2, Z3, Z4, Z5, Z6, Z7, Z8, Z9, Z10, resAll, Nat.reduceAdd, Nat.reduceEqDiff, Nat.reduceLeDiff, Nat.reduceMul, ↓reduceIte, reduceCtorEq, Nat.reduceBEq, aoper, Nat.reduceLT, Int.reduceEq, Int.reduceLT, Int.reduceLE]
      exact ⟨_, q2, q3⟩
    | false =>
      obtain ⟨a', n', f', τ', τ'', he, hs, q1, q2, q3⟩ := step (slotL x) x.up (by unfold upOf; rw [g1]; rfl)
      simp (disch := omega) only [t7, t8, t9, t3, t2, hl, hv, hlt', hlt, hcast, cap_None_ok, Int.toNat_natCast, sto_0 hlow, g1, he, hs, q1, r0_state_Forest, r1_state_Forest, r2_state_Forest, r3_state_Forest, r4_state_Forest, r5_state_Forest, r6_state_Forest, k6_state_Forest, r7_state_Forest, k7_state_Forest, k5_state_Forest, r8_state_Forest, k8_state_Forest, k4_state_Forest, k3_state_Forest, k2_state_Forest, r9_state_Forest, k9_state_Forest, k1_state_Forest, k0_state_Forest, b0_state_Forest, Z0, Z1, Z2, Z3, Z4, Z5, Z6, Z7, Z8, Z9, Z10, resAll, Nat.reduceAdd, Nat.reduceEqDiff, Nat.reduceLeDiff, Nat.reduceMul, ↓reduceIte, reduceCtorEq, Nat.reduceBEq, aoper, Nat.reduceLT, Int.reduceEq, Int.reduceLT, Int.reduceLE]
      exact ⟨_, q2, q3⟩
  · have hlt' : ¬ (i : Int) < (S.sl.length : Int) := by omega
    have hii : i = S.sl.length := by omega
    have hul := upL_length S
    rw [hii, ← hul, List.take_length] at hout
    have hdead : τ.dead = [] := by rw [hmd.dead, e1d]
    obtain ⟨a, f, rfl⟩ := hout.shape
    have hrow2 : (τ.grow []).t.get (σ.fresh.n + 1) = some (rowOf ([.slice none 0 0], 1)) := by rw [grow_nil, hmd.row _ (by omega) (by omega)]; exact e1r
    obtain ⟨τ'', s1, s2, s3, s4⟩ := Mod.store (o := 0) (vs := [.slice a (upL S).length f]) hrow2 (by rw [grow_low, hmd.low, e1l]; omega) (by simp) rfl
    have hld : τ''.loadN (σ.fresh.n + 1) 0 1 = some [.slice a (upL S).length f] := by rw [load_row s2 (by simp [setAll])]; rfl
    simp (disch := omega) only [t7, t8, t9, t3, t2, hlt', hv, s1, hld, r0_state_Forest, r1_state_Forest, r2_state_Forest, r3_state_Forest, r4_state_Forest, r5_state_Forest, r6_state_Forest, k6_state_Forest, r7_state_Forest, k7_state_Forest, k5_state_Forest, r8_state_Forest, k8_state_Forest, k4_state_Forest, k3_state_Forest, k2_state_Forest, r9_state_Forest, k9_state_Forest, k1_state_Forest, k0_state_Forest, b0_state_Forest, Z0, Z1, Z2, Z3, Z4, Z5, Z6, Z7, Z8, Z9, Z10, resAll, Nat.reduceAdd, Nat.reduceEqDiff, Nat.reduceLeDiff, Nat.reduceMul, ↓reduceIte, reduceCtorEq, Nat.reduceBEq, aoper, Nat.reduceLT, Int.reduceEq, Int.reduceLT, Int.reduceLE]
    have hb1 : σ.fresh.n + 1 < σ.n + 3 := by omega
    obtain ⟨a', f', e', hsl⟩ := ((hout.keeps (Keeps.self _ [])).mod s3 hb1).sl (by rw [s3.dead, grow_dead]; exact hdead)
    have ea : a' = a := by simpa using (Value.slice.inj e').1.symm
    subst ea
    have hke : Keeps σ.fresh τ'' := by
      refine ⟨?_, ?_, ?_, ?_⟩
      · rw [s4, grow_n]; omega
      · rw [s3.low, grow_low, hmd.low, e1l]; rfl
      · rw [s3.dead, grow_dead, hdead]; exact hd.symm
      · intro c hc
        rw [s3.row c (by rw [grow_n]; omega) (by omega), grow_old _ _ (by omega), hmd.row c (by omega) (by omega), e1k.row c hc]
    exact ⟨⟨a', f, rfl, hsl, hke⟩, by rw [s3.low, grow_low, hmd.low, e1l]⟩
end Go.Proofs.YtidmcpkbcphpiaaGreat
namespace Go.Proofs.YtidmcpkbcphpiaaGreat
open Go Go.Hai
set_option maxRecDepth 20000
set_option linter.unusedSimpArgs false
set_option maxHeartbeats 4000000
attribute [local irreducible] Hai.Ends EndsR EndsO EndsD AHeap.grow
def r0_forest_Good : List AOper := [(.mk (some 1) none (.box 1 (.tmp 0))), (.mk (some 2) none (.mv (.const (.bool false))))]
def r1_forest_Good : List AOper := [(.mk (some 8) none (.fldA 0 (.tmp 1))), (.mk (some 9) none (.load false 1 (.tmp 8))), (.mk (some 10) none (.lenS (.tmp 9))), (.mk (some 11) none (.bin .gtr (.tmp 10) (.const (.int .i64 96))))]
def r2_forest_Good : List AOper := [(.mk (some 2) none (.mv (.const (.bool false))))]
def k1_forest_Good : ACode := (.cond (.tmp 11) (.seq (.reg r2_forest_Good) .ret) .skip)
def r3_forest_Good : List AOper := [(.mk (some 12) none (.fldA 0 (.tmp 1))), (.mk (some 13) none (.load false 1 (.tmp 12))), (.mk (some 14) none (.lenS (.tmp 13))), (.mk (some 15) none (.mv (.const (.int .i64 0))))]
def r4_forest_Good : List AOper := [(.mk (some 16) none (.bin .lss (.tmp 15) (.tmp 14)))]
def r5_forest_Good : List AOper := [(.mk (some 17) none (.idxA 1 (.tmp 13) (.tmp 15))), (.mk (some 18) none (.load false 1 (.tmp 17))), (.mk (some 4) none (.mv (.tmp 18)))]
def r6_forest_Good : List AOper := [(.mk (some 19) none (.mv (.tmp 4))), (.mk (some 20) none (.bin .neq (.tmp 19) (.const (.int .i64 (-2))))), (.mk (some 21) none (.mv (.tmp 20))), (.mk (some 22) (some (21, true)) (.mv (.tmp 4))), (.mk (some 23) (some (21, true)) (.bin .neq (.tmp 22) (.const (.int .i64 (-1))))), (.mk (some 24) none (.pick (.tmp 21) (.tmp 23) (.const (.bool false)))), (.mk (some 25) none (.mv (.tmp 24))), (.mk (some 26) (some (25, true)) (.load true 1 (.tmp 1))), (.mk (some 27) (some (25, true)) (.mv (.tmp 4))), (.mk (some 28) (some (25, true)) (.call 126 [(.tmp 26), (.tmp 27)])), (.mk (some 29) (some (25, true)) (.un .not (.tmp 28))), (.mk (some 30) none (.pick (.tmp 25) (.tmp 29) (.const (.bool false))))]
def r7_forest_Good : List AOper := [(.mk (some 2) none (.mv (.const (.bool false))))]
def k7_forest_Good : ACode := (.cond (.tmp 30) (.seq (.reg r7_forest_Good) .ret) .skip)
def k6_forest_Good : ACode := (.seq (.reg r6_forest_Good) k7_forest_Good)
def r8_forest_Good : List AOper := [(.mk (some 31) none (.bin .add (.tmp 15) (.const (.int .i64 1)))), (.mk (some 15) none (.mv (.tmp 31)))]
def k8_forest_Good : ACode := (.reg r8_forest_Good)
def k5_forest_Good : ACode := (.seq (.block 1 (.seq (.reg r5_forest_Good) k6_forest_Good)) k8_forest_Good)
def k4_forest_Good : ACode := (.seq (.cond (.tmp 16) .skip (.exit 0)) k5_forest_Good)
def b0_forest_Good : ACode := (.seq (.reg r4_forest_Good) k4_forest_Good)
def k3_forest_Good : ACode := (.block 0 (.loop b0_forest_Good))
def r9_forest_Good : List AOper := [(.mk (some 32) none (.fldA 0 (.tmp 1))), (.mk (some 33) none (.load false 1 (.tmp 32))), (.mk (some 34) none (.lenS (.tmp 33))), (.mk (some 35) none (.mv (.const (.int .i64 0))))]
def r10_forest_Good : List AOper := [(.mk (some 36) none (.bin .lss (.tmp 35) (.tmp 34)))]
def r11_forest_Good : List AOper := [(.mk (some 37) none (.mv (.tmp 35))), (.mk (some 5) none (.mv (.tmp 37)))]
def r12_forest_Good : List AOper := [(.mk (some 6) none (.mv (.const (.int .i64 0))))]
def r13_forest_Good : List AOper := [(.mk (some 38) none (.mv (.tmp 5))), (.mk (some 7) none (.mv (.tmp 38)))]
def r14_forest_Good : List AOper := [(.mk (some 39) none (.load true 1 (.tmp 1))), (.mk (some 40) none (.mv (.tmp 7))), (.mk (some 41) none (.call 126 [(.tmp 39), (.tmp 40)]))]
def k16_forest_Good : ACode := (.cond (.tmp 41) .skip (.exit 4))
def r15_forest_Good : List AOper := [(.mk (some 47) none (.mv (.tmp 6))), (.mk (some 48) none (.fldA 0 (.tmp 1))), (.mk (some 49) none (.load false 1 (.tmp 48))), (.mk (some 50) none (.lenS (.tmp 49))), (.mk (some 51) none (.bin .gtr (.tmp 47) (.tmp 50)))]
def r16_forest_Good : List AOper := [(.mk (some 2) none (.mv (.const (.bool false))))]
def k18_forest_Good : ACode := (.cond (.tmp 51) (.seq (.reg r16_forest_Good) .ret) .skip)
def r17_forest_Good : List AOper := [(.mk (some 52) none (.mv (.tmp 6))), (.mk (some 53) none (.bin .add (.tmp 52) (.const (.int .i64 1)))), (.mk (some 6) none (.mv (.tmp 53)))]
def k19_forest_Good : ACode := (.reg r17_forest_Good)
def r18_forest_Good : List AOper := [(.mk (some 42) none (.fldA 0 (.tmp 1))), (.mk (some 43) none (.load false 1 (.tmp 42))), (.mk (some 44) none (.mv (.tmp 7))), (.mk (some 45) none (.idxA 1 (.tmp 43) (.tmp 44))), (.mk (some 46) none (.load false 1 (.tmp 45))), (.mk (some 7) none (.mv (.tmp 46)))]
def k20_forest_Good : ACode := (.reg r18_forest_Good)
def k17_forest_Good : ACode := (.seq (.block 5 (.seq (.seq (.reg r15_forest_Good) k18_forest_Good) k19_forest_Good)) k20_forest_Good)
def b2_forest_Good : ACode := (.seq (.seq (.reg r14_forest_Good) k16_forest_Good) k17_forest_Good)
def k15_forest_Good : ACode := (.block 4 (.loop b2_forest_Good))
def k14_forest_Good : ACode := (.seq (.reg r13_forest_Good) k15_forest_Good)
def k13_forest_Good : ACode := (.seq (.reg r12_forest_Good) k14_forest_Good)
def r19_forest_Good : List AOper := [(.mk (some 54) none (.bin .add (.tmp 35) (.const (.int .i64 1)))), (.mk (some 35) none (.mv (.tmp 54)))]
def k21_forest_Good : ACode := (.reg r19_forest_Good)
def k12_forest_Good : ACode := (.seq (.block 3 (.seq (.reg r11_forest_Good) k13_forest_Good)) k21_forest_Good)
def k11_forest_Good : ACode := (.seq (.cond (.tmp 36) .skip (.exit 2)) k12_forest_Good)
def b1_forest_Good : ACode := (.seq (.reg r10_forest_Good) k11_forest_Good)
def k10_forest_Good : ACode := (.block 2 (.loop b1_forest_Good))
def r20_forest_Good : List AOper := [(.mk (some 2) none (.mv (.const (.bool true))))]
def k22_forest_Good : ACode := (.seq (.reg r20_forest_Good) .ret)
def k9_forest_Good : ACode := (.seq (.seq (.reg r9_forest_Good) k10_forest_Good) k22_forest_Good)
def k2_forest_Good : ACode := (.seq (.seq (.reg r3_forest_Good) k3_forest_Good) k9_forest_Good)
def k0_forest_Good : ACode := (.seq (.seq (.reg r1_forest_Good) k1_forest_Good) k2_forest_Good)
def c_forest_Good : ACode := (.seq (.reg r0_forest_Good) k0_forest_Good)
theorem e_forest_Good : ofProg Tryz.prog 61 = some ⟨55, [(.tmp 2)], c_forest_Good⟩ := by kernel_rfl

def cF (up : List Int) : Nat → Int → Nat → Bool
  | 0, _, _ => true
  | k + 1, at', steps => match atI up at' with
    | some u => if u = -2 then true else if up.length < steps then false else cF up k u (steps + 1)
    | none => true
def linkB (up : List Int) (_ : Nat) (u : Int) : Bool := decide (u = -2) || (decide (u = -1) || upB up u)
def chainB (up : List Int) (i : Nat) (_ : Int) : Bool := cF up (up.length + 2) i 0
def forestB (up : List Int) : Bool := decide ((up.length : Int) ≤ 96) && allTo (linkB up) up up.length && allTo (chainB up) up up.length

theorem chain_inner {d : Nat} {τ : AHeap} {up : List Int} {a : Option Addr} {f bx i : Nat} {t0 : Tmps} {Q : AEx → Tmps → AHeap → Prop} (hn : up.length < 900)
    (hbox : ∀ M o n, (τ.grow M).loadN bx o n = sliceL [.slice a up.length f] o n) (h1 : SlI τ a up)
    (h1' : tget t0 1 = here bx 0) (h6 : tget t0 6 = i64 0) (h7 : tget t0 7 = i64 i)
    (hQ : cF up (up.length + 2) i 0 = true → ∀ t, tget t 1 = here bx 0 → tget t 33 = tget t0 33 → tget t 34 = tget t0 34 → tget t 35 = tget t0 35 → Q (.exit 4) t (τ.grow []))
    (hR : cF up (up.length + 2) i 0 = false → ∀ t, tget t 2 = .bool false → Q .ret t (τ.grow [])) :
    Hai.Ends (acode (acall (ofProg Tryz.prog) 1000 (d + 1)) 1000 (.loop b2_forest_Good) t0 (τ.grow [])) Q := by
  refine ends_loop (fun j t τ' => τ' = τ.grow [] ∧ tget t 6 = i64 j ∧ tget t 1 = here bx 0 ∧ tget t 33 = tget t0 33 ∧ tget t 34 = tget t0 34 ∧ tget t 35 = tget t0 35 ∧ j ≤ up.length + 1 ∧ ∃ z, tget t 7 = i64 z ∧ cF up (up.length + 2 - j) z j = cF up (up.length + 2) i 0)
    (up.length + 2) (by omega) ⟨rfl, h6, h1', rfl, rfl, rfl, by omega, i, h7, rfl⟩ ?_
  rintro j t τ' hj ⟨rfl, t6, t1, t33, t34, t35, hjl, z, t7, hz⟩
  have his := fun L n => forest_is_ok d (τ.grow L) up a f n (h1.grow L)
  obtain ⟨k, hk⟩ : ∃ k, up.length + 2 - j = k + 1 := ⟨up.length + 1 - j, by omega⟩
  rw [hk] at hz
  have hcast : ((j + 1 : Nat) : Int) = (j : Int) + 1 := by omega
  by_cases q : 0 ≤ z ∧ z < up.length
  · obtain ⟨u, e1, e2⟩ := atI_some q.1 q.2
    have hub : upB up z = !(decide (u = -2)) := by unfold upB; rw [e1]
    by_cases g1 : u = -2
    · have hc : cF up (up.length + 2) i 0 = true := by rw [← hz]; simp only [cF, e1, g1, if_true]
      simp (disch := omega) only [t6, t1, t7, hbox, his, hub, eq_true g1, r0_forest_Good, r1_forest_Good, r2_forest_Good, k1_forest_Good, r3_forest_Good, r4_forest_Good, r5_forest_Good, r6_forest_Good, r7_forest_Good, k7_forest_Good, k6_forest_Good, r8_forest_Good, k8_forest_Good, k5_forest_Good, k4_forest_Good, k3_forest_Good, r9_forest_Good, r10_forest_Good, r11_forest_Good, r12_forest_Good, r13_forest_Good, r14_forest_Good, k16_forest_Good, r15_forest_Good, r16_forest_Good, k18_forest_Good, r17_forest_Good, k19_forest_Good, r18_forest_Good, k20_forest_Good, k17_forest_Good, k15_forest_Good, k14_forest_Good, k13_forest_Good, r19_forest_Good, k21_forest_Good, k12_forest_Good, k11_forest_Good, k10_forest_Good, r20_forest_Good, k22_forest_Good, k9_forest_Good, k2_forest_Good, k0_forest_Good, b2_forest_Good, Z0, Z1, Z2, Z3, Z4, Z5, Z6, Z7, Z8, Z9, Z10, resAll, Nat.reduceAdd, Nat.reduceEqDiff, Nat.reduceLeDiff, Nat.reduceMul, ↓reduceIte, reduceCtorEq, Nat.reduceBEq, aoper, Nat.reduceLT, Int.reduceEq, Int.reduceLT, Int.reduceLE]
      refine hQ hc _ ?_ ?_ ?_ ?_ <;> simp (disch := omega) only [t1, t33, t34, t35, r0_forest_Good, r1_forest_Good, r2_forest_Good, k1_forest_Good, r3_forest_Good, r4_forest_Good, r5_forest_Good, r6_forest_Good, r7_forest_Good, k7_forest_Good, k6_forest_Good, r8_forest_Good, k8_forest_Good, k5_forest_Good, k4_forest_Good, k3_forest_Good, r9_forest_Good, r10_forest_Good, r11_forest_Good, r12_forest_Good, r13_forest_Good, r14_forest_Good, k16_forest_Good, r15_forest_Good, r16_forest_Good, k18_forest_Good, r17_forest_Good, k19_forest_Good, r18_forest_Good, k20_forest_Good, k17_forest_Good, k15_forest_Good, k14_forest_Good, k13_forest_Good, r19_forest_Good, k21_forest_Good, k12_forest_Good, k11_forest_Good, k10_forest_Good, r20_forest_Good, k22_forest_Good, k9_forest_Good, k2_forest_Good, k0_forest_Good, c_forest_Good, Z0, Z1, Z2, Z3, Z4, Z5, Z6, Z7, Z8, Z9, Z10, resAll, Nat.reduceAdd, Nat.reduceEqDiff, Nat.reduceLeDiff, Nat.reduceMul, ↓reduceIte, reduceCtorEq, Nat.reduceBEq, aoper, Nat.reduceLT, Int.reduceEq, Int.reduceLT, Int.reduceLE]
    · by_cases g2 : up.length < j
      · have hc : cF up (up.length + 2) i 0 = false := by rw [← hz]; simp only [cF, e1, if_neg g1, if_pos g2]
        have g2' : (up.length : Int) < (j : Int) := by omega
        simp (disch := omega) only [t6, t1, t7, hbox, his, hub, g1, g2', r0_forest_Good, r1_forest_Good, r2_forest_Good, k1_forest_Good, r3_forest_Good, r4_forest_Good, r5_forest_Good, r6_forest_Good, r7_forest_Good, k7_forest_Good, k6_forest_Good, r8_forest_Good, k8_forest_Good, k5_forest_Good, k4_forest_Good, k3_forest_Good, r9_forest_Good, r10_forest_Good, r11_forest_Good, r12_forest_Good, r13_forest_Good, r14_forest_Good, k16_forest_Good, r15_forest_Good, r16_forest_Good, k18_forest_Good, r17_forest_Good, k19_forest_Good, r18_forest_Good, k20_forest_Good, k17_forest_Good, k15_forest_Good, k14_forest_Good, k13_forest_Good, r19_forest_Good, k21_forest_Good, k12_forest_Good, k11_forest_Good, k10_forest_Good, r20_forest_Good, k22_forest_Good, k9_forest_Good, k2_forest_Good, k0_forest_Good, b2_forest_Good, Z0, Z1, Z2, Z3, Z4, Z5, Z6, Z7, Z8, Z9, Z10, resAll, Nat.reduceAdd, Nat.reduceEqDiff, Nat.reduceLeDiff, Nat.reduceMul, ↓reduceIte, reduceCtorEq, Nat.reduceBEq, aoper, Nat.reduceLT, Int.reduceEq, Int.reduceLT, Int.reduceLE]
        refine hR hc _ ?_
        simp (disch := omega) only [r0_forest_Good, r1_forest_Good, r2_forest_Good, k1_forest_Good, r3_forest_Good, r4_forest_Good, r5_forest_Good, r6_forest_Good, r7_forest_Good, k7_forest_Good, k6_forest_Good, r8_forest_Good, k8_forest_Good, k5_forest_Good, k4_forest_Good, k3_forest_Good, r9_forest_Good, r10_forest_Good, r11_forest_Good, r12_forest_Good, r13_forest_Good, r14_forest_Good, k16_forest_Good, r15_forest_Good, r16_forest_Good, k18_forest_Good, r17_forest_Good, k19_forest_Good, r18_forest_Good, k20_forest_Good, k17_forest_Good, k15_forest_Good, k14_forest_Good, k13_forest_Good, r19_forest_Good, k21_forest_Good, k12_forest_Good, k11_forest_Good, k10_forest_Good, r20_forest_Good, k22_forest_Good, k9_forest_Good, k2_forest_Good, k0_forest_Good, c_forest_Good, Z0, Z1, Z2, Z3, Z4, Z5, Z6, Z7, Z8, Z9, Z10, resAll, Nat.reduceAdd, Nat.reduceEqDiff, Nat.reduceLeDiff, Nat.reduceMul, ↓reduceIte, reduceCtorEq, Nat.reduceBEq, aoper, Nat.reduceLT, Int.reduceEq, Int.reduceLT, Int.reduceLE]
      · have g2' : ¬ (up.length : Int) < (j : Int) := by omega
        obtain ⟨b, rfl, hb⟩ := h1.at (i := z.toNat) (by omega)
        have hl := fun L => hb.ld0 (Keeps.refl _) e2 L 1 (by omega)
        simp only [List.take_succ_cons, List.take_zero, Nat.mul_one] at hl
        have hc : cF up (up.length + 2 - (j + 1)) u (j + 1) = cF up (up.length + 2) i 0 := by
          rw [← hz]
          have : up.length + 2 - (j + 1) = k := by omega
          rw [this]
          simp only [cF, e1, if_neg g1, if_neg g2]
        simp (disch := omega) only [t6, t1, t7, t33, t34, t35, hbox, his, hub, hl, g1, g2', q.1, q.2, Nat.mul_one, hcast, r0_forest_Good, r1_forest_Good, r2_forest_Good, k1_forest_Good, r3_forest_Good, r4_forest_Good, r5_forest_Good, r6_forest_Good, r7_forest_Good, k7_forest_Good, k6_forest_Good, r8_forest_Good, k8_forest_Good, k5_forest_Good, k4_forest_Good, k3_forest_Good, r9_forest_Good, r10_forest_Good, r11_forest_Good, r12_forest_Good, r13_forest_Good, r14_forest_Good, k16_forest_Good, r15_forest_Good, r16_forest_Good, k18_forest_Good, r17_forest_Good, k19_forest_Good, r18_forest_Good, k20_forest_Good, k17_forest_Good, k15_forest_Good, k14_forest_Good, k13_forest_Good, r19_forest_Good, k21_forest_Good, k12_forest_Good, k11_forest_Good, k10_forest_Good, r20_forest_Good, k22_forest_Good, k9_forest_Good, k2_forest_Good, k0_forest_Good, b2_forest_Good, Z0, Z1, Z2, Z3, Z4, Z5, Z6, Z7, Z8, Z9, Z10, resAll, Nat.reduceAdd, Nat.reduceEqDiff, Nat.reduceLeDiff, Nat.reduceMul, ↓reduceIte, reduceCtorEq, Nat.reduceBEq, aoper, Nat.reduceLT, Int.reduceEq, Int.reduceLT, Int.reduceLE]
        exact ⟨by omega, by omega, u, rfl, hc⟩
  · have e1 := atI_none (l := up) q
    have hub : upB up z = false := by unfold upB; rw [e1]
    have hc : cF up (up.length + 2) i 0 = true := by rw [← hz]; simp only [cF, e1]
    simp (disch := omega) only [t6, t1, t7, hbox, his, hub, r0_forest_Good, r1_forest_Good, r2_forest_Good, k1_forest_Good, r3_forest_Good, r4_forest_Good, r5_forest_Good, r6_forest_Good, r7_forest_Good, k7_forest_Good, k6_forest_Good, r8_forest_Good, k8_forest_Good, k5_forest_Good, k4_forest_Good, k3_forest_Good, r9_forest_Good, r10_forest_Good, r11_forest_Good, r12_forest_Good, r13_forest_Good, r14_forest_Good, k16_forest_Good, r15_forest_Good, r16_forest_Good, k18_forest_Good, r17_forest_Good, k19_forest_Good, r18_forest_Good, k20_forest_Good, k17_forest_Good, k15_forest_Good, k14_forest_Good, k13_forest_Good, r19_forest_Good, k21_forest_Good, k12_forest_Good, k11_forest_Good, k10_forest_Good, r20_forest_Good, k22_forest_Good, k9_forest_Good, k2_forest_Good, k0_forest_Good, b2_forest_Good, Z0, Z1, Z2, Z3, Z4, Z5, Z6, Z7, Z8, Z9, Z10, resAll, Nat.reduceAdd, Nat.reduceEqDiff, Nat.reduceLeDiff, Nat.reduceMul, ↓reduceIte, reduceCtorEq, Nat.reduceBEq, aoper, Nat.reduceLT, Int.reduceEq, Int.reduceLT, Int.reduceLE]
    refine hQ hc _ ?_ ?_ ?_ ?_ <;> simp (disch := omega) only [t1, t33, t34, t35, r0_forest_Good, r1_forest_Good, r2_forest_Good, k1_forest_Good, r3_forest_Good, r4_forest_Good, r5_forest_Good, r6_forest_Good, r7_forest_Good, k7_forest_Good, k6_forest_Good, r8_forest_Good, k8_forest_Good, k5_forest_Good, k4_forest_Good, k3_forest_Good, r9_forest_Good, r10_forest_Good, r11_forest_Good, r12_forest_Good, r13_forest_Good, r14_forest_Good, k16_forest_Good, r15_forest_Good, r16_forest_Good, k18_forest_Good, r17_forest_Good, k19_forest_Good, r18_forest_Good, k20_forest_Good, k17_forest_Good, k15_forest_Good, k14_forest_Good, k13_forest_Good, r19_forest_Good, k21_forest_Good, k12_forest_Good, k11_forest_Good, k10_forest_Good, r20_forest_Good, k22_forest_Good, k9_forest_Good, k2_forest_Good, k0_forest_Good, c_forest_Good, Z0, Z1, Z2, Z3, Z4, Z5, Z6, Z7, Z8, Z9, Z10, resAll, Nat.reduceAdd, Nat.reduceEqDiff, Nat.reduceLeDiff, Nat.reduceMul, ↓reduceIte, reduceCtorEq, Nat.reduceBEq, aoper, Nat.reduceLT, Int.reduceEq, Int.reduceLT, Int.reduceLE]

theorem forest_Good_ok (d : Nat) (σ : AHeap) (up : List Int) (a : Option Addr) (f : Nat) (h1 : SlI σ a up) (hn : up.length < 900) :
    acall (ofProg Tryz.prog) 1000 (d + 2) 61 [.agg [.slice a up.length f].toArray] σ = some (.bool (forestB up), σ) := by
  refine acall_flat e_forest_Good (by simp) rfl ?_
  by_cases c0 : (up.length : Int) ≤ 96
  · have c0' : ¬ (96 : Int) < up.length := by omega
    simp (disch := omega) only [c0', r0_forest_Good, r1_forest_Good, r2_forest_Good, k1_forest_Good, r3_forest_Good, r4_forest_Good, r5_forest_Good, r6_forest_Good, r7_forest_Good, k7_forest_Good, k6_forest_Good, r8_forest_Good, k8_forest_Good, k5_forest_Good, k4_forest_Good, k3_forest_Good, r9_forest_Good, r10_forest_Good, r11_forest_Good, r12_forest_Good, r13_forest_Good, r14_forest_Good, k16_forest_Good, r15_forest_Good, r16_forest_Good, k18_forest_Good, r17_forest_Good, k19_forest_Good, r18_forest_Good, k20_forest_Good, k17_forest_Good, k15_forest_Good, k14_forest_Good, k13_forest_Good, r19_forest_Good, k21_forest_Good, k12_forest_Good, k11_forest_Good, k10_forest_Good, r20_forest_Good, k22_forest_Good, k9_forest_Good, k2_forest_Good, k0_forest_Good, c_forest_Good, Z0, Z1, Z2, Z3, Z4, Z5, Z6, Z7, Z8, Z9, Z10, resAll, Nat.reduceAdd, Nat.reduceEqDiff, Nat.reduceLeDiff, Nat.reduceMul, ↓reduceIte, reduceCtorEq, Nat.reduceBEq, aoper, Nat.reduceLT, Int.reduceEq, Int.reduceLT, Int.reduceLE]
    refine ends_loop (fun i t τ => tget t 13 = .slice a up.length f ∧ tget t 14 = i64 up.length ∧ tget t 15 = i64 i ∧ tget t 1 = here σ.fresh.n 0 ∧ Keeps (σ.fresh.grow [([.slice a up.length f], 1)]) τ ∧ allTo (linkB up) up i = true)
      up.length (by omega) ⟨?_, ?_, ?_, ?_, Keeps.refl _, rfl⟩ ?_
    iterate 4 simp (disch := omega) only [Int.natCast_zero, Int.ofNat_zero, r0_forest_Good, r1_forest_Good, r2_forest_Good, k1_forest_Good, r3_forest_Good, r4_forest_Good, r5_forest_Good, r6_forest_Good, r7_forest_Good, k7_forest_Good, k6_forest_Good, r8_forest_Good, k8_forest_Good, k5_forest_Good, k4_forest_Good, k3_forest_Good, r9_forest_Good, r10_forest_Good, r11_forest_Good, r12_forest_Good, r13_forest_Good, r14_forest_Good, k16_forest_Good, r15_forest_Good, r16_forest_Good, k18_forest_Good, r17_forest_Good, k19_forest_Good, r18_forest_Good, k20_forest_Good, k17_forest_Good, k15_forest_Good, k14_forest_Good, k13_forest_Good, r19_forest_Good, k21_forest_Good, k12_forest_Good, k11_forest_Good, k10_forest_Good, r20_forest_Good, k22_forest_Good, k9_forest_Good, k2_forest_Good, k0_forest_Good, c_forest_Good, Z0, Z1, Z2, Z3, Z4, Z5, Z6, Z7, Z8, Z9, Z10, resAll, Nat.reduceAdd, Nat.reduceEqDiff, Nat.reduceLeDiff, Nat.reduceMul, ↓reduceIte, reduceCtorEq, Nat.reduceBEq, aoper, Nat.reduceLT, Int.reduceEq, Int.reduceLT, Int.reduceLE]
    rintro i t τ hi ⟨t13, t14, t15, t1, hk, hall⟩
    rw [← grow_nil τ]
    have hlow : τ.low ≤ τ.n := by rw [hk.low]; exact Nat.le_trans (low_grow fresh_le _) hk.n
    have hbox := fun M o n => hk.own0 (r := [.slice a up.length f]) (e := 1) rfl M o n
    have h1τ : SlI τ a up := h1.fresh.keeps ((Keeps.self _ _).trans hk)
    have his := fun L n => forest_is_ok d (τ.grow L) up a f n (h1τ.grow L)
    by_cases hlt : i < up.length
    · obtain ⟨b, rfl, hb⟩ := h1τ.at hlt
      have hx : up[i]? = some up[i] := List.getElem?_eq_getElem hlt
      generalize up[i] = u at hx
      have hl := fun L => hb.ld0 (Keeps.refl _) hx L 1 (by omega)
      simp only [List.take_succ_cons, List.take_zero, Nat.mul_one] at hl
      have hlt' : (i : Int) < (up.length : Int) := by omega
      have hcast : ((i + 1 : Nat) : Int) = (i : Int) + 1 := by omega
      by_cases g1 : u = -2
      · have hs : linkB up i u = true := by unfold linkB; simp [g1]
        simp (disch := omega) only [t13, t14, t15, t1, hbox, hl, hlt', hlt, hcast, Int.toNat_natCast, Nat.mul_one, eq_true g1, hk.grow, allTo_next hall hx hs, r0_forest_Good, r1_forest_Good, r2_forest_Good, k1_forest_Good, r3_forest_Good, r4_forest_Good, r5_forest_Good, r6_forest_Good, r7_forest_Good, k7_forest_Good, k6_forest_Good, r8_forest_Good, k8_forest_Good, k5_forest_Good, k4_forest_Good, k3_forest_Good, r9_forest_Good, r10_forest_Good, r11_forest_Good, r12_forest_Good, r13_forest_Good, r14_forest_Good, k16_forest_Good, r15_forest_Good, r16_forest_Good, k18_forest_Good, r17_forest_Good, k19_forest_Good, r18_forest_Good, k20_forest_Good, k17_forest_Good, k15_forest_Good, k14_forest_Good, k13_forest_Good, r19_forest_Good, k21_forest_Good, k12_forest_Good, k11_forest_Good, k10_forest_Good, r20_forest_Good, k22_forest_Good, k9_forest_Good, k2_forest_Good, k0_forest_Good, b0_forest_Good, Z0, Z1, Z2, Z3, Z4, Z5, Z6, Z7, Z8, Z9, Z10, resAll, Nat.reduceAdd, Nat.reduceEqDiff, Nat.reduceLeDiff, Nat.reduceMul, ↓reduceIte, reduceCtorEq, Nat.reduceBEq, aoper, Nat.reduceLT, Int.reduceEq, Int.reduceLT, Int.reduceLE]
      · by_cases g2 : u = -1
        · have hs : linkB up i u = true := by unfold linkB; simp [g2]
          simp (disch := omega) only [t13, t14, t15, t1, hbox, hl, hlt', hlt, hcast, Int.toNat_natCast, Nat.mul_one, g1, eq_true g2, hk.grow, allTo_next hall hx hs, r0_forest_Good, r1_forest_Good, r2_forest_Good, k1_forest_Good, r3_forest_Good, r4_forest_Good, r5_forest_Good, r6_forest_Good, r7_forest_Good, k7_forest_Good, k6_forest_Good, r8_forest_Good, k8_forest_Good, k5_forest_Good, k4_forest_Good, k3_forest_Good, r9_forest_Good, r10_forest_Good, r11_forest_Good, r12_forest_Good, r13_forest_Good, r14_forest_Good, k16_forest_Good, r15_forest_Good, r16_forest_Good, k18_forest_Good, r17_forest_Good, k19_forest_Good, r18_forest_Good, k20_forest_Good, k17_forest_Good, k15_forest_Good, k14_forest_Good, k13_forest_Good, r19_forest_Good, k21_forest_Good, k12_forest_Good, k11_forest_Good, k10_forest_Good, r20_forest_Good, k22_forest_Good, k9_forest_Good, k2_forest_Good, k0_forest_Good, b0_forest_Good, Z0, Z1, Z2, Z3, Z4, Z5, Z6, Z7, Z8, Z9, Z10, resAll, Nat.reduceAdd, Nat.reduceEqDiff, Nat.reduceLeDiff, Nat.reduceMul, ↓reduceIte, reduceCtorEq, Nat.reduceBEq, aoper, Nat.reduceLT, Int.reduceEq, Int.reduceLT, Int.reduceLE]
        · cases g3 : upB up u with
          | true =>
            have hs : linkB up i u = true := by unfold linkB; simp [g3]
            simp (disch := omega) only [t13, t14, t15, t1, hbox, hl, his, hlt', hlt, hcast, Int.toNat_natCast, Nat.mul_one, g1, g2, g3, hk.grow, allTo_next hall hx hs, r0_forest_Good, r1_forest_Good, r2_forest_Good, k1_forest_Good, r3_forest_Good, r4_forest_Good, r5_forest_Good, r6_forest_Good, r7_forest_Good, k7_forest_Good, k6_forest_Good, r8_forest_Good, k8_forest_Good, k5_forest_Good, k4_forest_Good, k3_forest_Good, r9_forest_Good, r10_forest_Good, r11_forest_Good, r12_forest_Good, r13_forest_Good, r14_forest_Good, k16_forest_Good, r15_forest_Good, r16_forest_Good, k18_forest_Good, r17_forest_Good, k19_forest_Good, r18_forest_Good, k20_forest_Good, k17_forest_Good, k15_forest_Good, k14_forest_Good, k13_forest_Good, r19_forest_Good, k21_forest_Good, k12_forest_Good, k11_forest_Good, k10_forest_Good, r20_forest_Good, k22_forest_Good, k9_forest_Good, k2_forest_Good, k0_forest_Good, b0_forest_Good, Z0, Z1, Z2, Z3, Z4, Z5, Z6, Z7, Z8, Z9, Z10, resAll, Nat.reduceAdd, Nat.reduceEqDiff, Nat.reduceLeDiff, Nat.reduceMul, ↓reduceIte, reduceCtorEq, Nat.reduceBEq, aoper, Nat.reduceLT, Int.reduceEq, Int.reduceLT, Int.reduceLE]
          | false =>
            have hs : linkB up i u = false := by unfold linkB; simp [g1, g2, g3]
            have hf : forestB up = false := by unfold forestB; rw [allTo_false hx hs _ hlt]; simp
            simp (disch := omega) only [t13, t14, t15, t1, hbox, hl, his, hlt', hlt, hcast, Int.toNat_natCast, Nat.mul_one, g1, g2, g3, hk.low, hf, r0_forest_Good, r1_forest_Good, r2_forest_Good, k1_forest_Good, r3_forest_Good, r4_forest_Good, r5_forest_Good, r6_forest_Good, r7_forest_Good, k7_forest_Good, k6_forest_Good, r8_forest_Good, k8_forest_Good, k5_forest_Good, k4_forest_Good, k3_forest_Good, r9_forest_Good, r10_forest_Good, r11_forest_Good, r12_forest_Good, r13_forest_Good, r14_forest_Good, k16_forest_Good, r15_forest_Good, r16_forest_Good, k18_forest_Good, r17_forest_Good, k19_forest_Good, r18_forest_Good, k20_forest_Good, k17_forest_Good, k15_forest_Good, k14_forest_Good, k13_forest_Good, r19_forest_Good, k21_forest_Good, k12_forest_Good, k11_forest_Good, k10_forest_Good, r20_forest_Good, k22_forest_Good, k9_forest_Good, k2_forest_Good, k0_forest_Good, b0_forest_Good, Z0, Z1, Z2, Z3, Z4, Z5, Z6, Z7, Z8, Z9, Z10, resAll, Nat.reduceAdd, Nat.reduceEqDiff, Nat.reduceLeDiff, Nat.reduceMul, ↓reduceIte, reduceCtorEq, Nat.reduceBEq, aoper, Nat.reduceLT, Int.reduceEq, Int.reduceLT, Int.reduceLE]
    · have hlt' : ¬ (i : Int) < (up.length : Int) := by omega
      have hii : i = up.length := by omega
      rw [hii] at hall
      have hfb : forestB up = allTo (chainB up) up up.length := by unfold forestB; rw [hall]; simp [c0]
      simp (disch := omega) only [t13, t14, t15, t1, hbox, hlt', r0_forest_Good, r1_forest_Good, r2_forest_Good, k1_forest_Good, r3_forest_Good, r4_forest_Good, r5_forest_Good, r6_forest_Good, r7_forest_Good, k7_forest_Good, k6_forest_Good, r8_forest_Good, k8_forest_Good, k5_forest_Good, k4_forest_Good, k3_forest_Good, r9_forest_Good, r10_forest_Good, r11_forest_Good, r12_forest_Good, r13_forest_Good, r14_forest_Good, k16_forest_Good, r15_forest_Good, r16_forest_Good, k18_forest_Good, r17_forest_Good, k19_forest_Good, r18_forest_Good, k20_forest_Good, k17_forest_Good, k15_forest_Good, k14_forest_Good, k13_forest_Good, r19_forest_Good, k21_forest_Good, k12_forest_Good, k11_forest_Good, k10_forest_Good, r20_forest_Good, k22_forest_Good, k9_forest_Good, k2_forest_Good, k0_forest_Good, b0_forest_Good, Z0, Z1, Z2, Z3, Z4, Z5, Z6, Z7, Z8, Z9, Z10, resAll, Nat.reduceAdd, Nat.reduceEqDiff, Nat.reduceLeDiff, Nat.reduceMul, ↓reduceIte, reduceCtorEq, Nat.reduceBEq, aoper, Nat.reduceLT, Int.reduceEq, Int.reduceLT, Int.reduceLE]
      refine ends_loop (fun j t' τ' => tget t' 33 = .slice a up.length f ∧ tget t' 34 = i64 up.length ∧ tget t' 35 = i64 j ∧ tget t' 1 = here σ.fresh.n 0 ∧ τ' = τ ∧ allTo (chainB up) up j = true)
        up.length (by omega) ⟨?_, ?_, ?_, ?_, grow_nil _, rfl⟩ ?_
      iterate 4 simp (disch := omega) only [t1, Int.natCast_zero, Int.ofNat_zero, r0_forest_Good, r1_forest_Good, r2_forest_Good, k1_forest_Good, r3_forest_Good, r4_forest_Good, r5_forest_Good, r6_forest_Good, r7_forest_Good, k7_forest_Good, k6_forest_Good, r8_forest_Good, k8_forest_Good, k5_forest_Good, k4_forest_Good, k3_forest_Good, r9_forest_Good, r10_forest_Good, r11_forest_Good, r12_forest_Good, r13_forest_Good, r14_forest_Good, k16_forest_Good, r15_forest_Good, r16_forest_Good, k18_forest_Good, r17_forest_Good, k19_forest_Good, r18_forest_Good, k20_forest_Good, k17_forest_Good, k15_forest_Good, k14_forest_Good, k13_forest_Good, r19_forest_Good, k21_forest_Good, k12_forest_Good, k11_forest_Good, k10_forest_Good, r20_forest_Good, k22_forest_Good, k9_forest_Good, k2_forest_Good, k0_forest_Good, c_forest_Good, Z0, Z1, Z2, Z3, Z4, Z5, Z6, Z7, Z8, Z9, Z10, resAll, Nat.reduceAdd, Nat.reduceEqDiff, Nat.reduceLeDiff, Nat.reduceMul, ↓reduceIte, reduceCtorEq, Nat.reduceBEq, aoper, Nat.reduceLT, Int.reduceEq, Int.reduceLT, Int.reduceLE]
      rintro j t' τ' hj ⟨u33, u34, u35, u1, rfl, hall'⟩
      rw [← grow_nil τ']
      by_cases hjt : j < up.length
      · have hjt' : (j : Int) < (up.length : Int) := by omega
        have hcast : ((j + 1 : Nat) : Int) = (j : Int) + 1 := by omega
        have hx : up[j]? = some up[j] := List.getElem?_eq_getElem hjt
        simp (disch := omega) only [u33, u34, u35, u1, hjt', r0_forest_Good, r1_forest_Good, r2_forest_Good, r3_forest_Good, r4_forest_Good, r5_forest_Good, r6_forest_Good, r7_forest_Good, r8_forest_Good, r9_forest_Good, r10_forest_Good, r11_forest_Good, r12_forest_Good, r13_forest_Good, r14_forest_Good, r15_forest_Good, r16_forest_Good, r17_forest_Good, r18_forest_Good, r19_forest_Good, r20_forest_Good, b1_forest_Good, k11_forest_Good, k12_forest_Good, k13_forest_Good, k14_forest_Good, k15_forest_Good, Z0, Z1, Z2, Z3, Z4, Z5, Z6, Z7, Z8, Z9, Z10, resAll, Nat.reduceAdd, Nat.reduceEqDiff, Nat.reduceLeDiff, Nat.reduceMul, ↓reduceIte, reduceCtorEq, Nat.reduceBEq, aoper, Nat.reduceLT, Int.reduceEq, Int.reduceLT, Int.reduceLE]
        refine chain_inner (bx := σ.fresh.n) (i := j) (by omega) hbox h1τ ?_ ?_ ?_ (fun hc t'' v1 v33 v34 v35 => ?_) (fun hc t'' v2 => ?_)
        iterate 3 simp (disch := omega) only [u1, r0_forest_Good, r1_forest_Good, r2_forest_Good, k1_forest_Good, r3_forest_Good, r4_forest_Good, r5_forest_Good, r6_forest_Good, r7_forest_Good, k7_forest_Good, k6_forest_Good, r8_forest_Good, k8_forest_Good, k5_forest_Good, k4_forest_Good, k3_forest_Good, r9_forest_Good, r10_forest_Good, r11_forest_Good, r12_forest_Good, r13_forest_Good, r14_forest_Good, k16_forest_Good, r15_forest_Good, r16_forest_Good, k18_forest_Good, r17_forest_Good, k19_forest_Good, r18_forest_Good, k20_forest_Good, k17_forest_Good, k15_forest_Good, k14_forest_Good, k13_forest_Good, r19_forest_Good, k21_forest_Good, k12_forest_Good, k11_forest_Good, k10_forest_Good, r20_forest_Good, k22_forest_Good, k9_forest_Good, k2_forest_Good, k0_forest_Good, c_forest_Good, Z0, Z1, Z2, Z3, Z4, Z5, Z6, Z7, Z8, Z9, Z10, resAll, Nat.reduceAdd, Nat.reduceEqDiff, Nat.reduceLeDiff, Nat.reduceMul, ↓reduceIte, reduceCtorEq, Nat.reduceBEq, aoper, Nat.reduceLT, Int.reduceEq, Int.reduceLT, Int.reduceLE]
        · have w33 : tget t'' 33 = .slice a up.length f := by rw [v33]; simp (disch := omega) only [u33, r0_forest_Good, r1_forest_Good, r2_forest_Good, k1_forest_Good, r3_forest_Good, r4_forest_Good, r5_forest_Good, r6_forest_Good, r7_forest_Good, k7_forest_Good, k6_forest_Good, r8_forest_Good, k8_forest_Good, k5_forest_Good, k4_forest_Good, k3_forest_Good, r9_forest_Good, r10_forest_Good, r11_forest_Good, r12_forest_Good, r13_forest_Good, r14_forest_Good, k16_forest_Good, r15_forest_Good, r16_forest_Good, k18_forest_Good, r17_forest_Good, k19_forest_Good, r18_forest_Good, k20_forest_Good, k17_forest_Good, k15_forest_Good, k14_forest_Good, k13_forest_Good, r19_forest_Good, k21_forest_Good, k12_forest_Good, k11_forest_Good, k10_forest_Good, r20_forest_Good, k22_forest_Good, k9_forest_Good, k2_forest_Good, k0_forest_Good, c_forest_Good, Z0, Z1, Z2, Z3, Z4, Z5, Z6, Z7, Z8, Z9, Z10, resAll, Nat.reduceAdd, Nat.reduceEqDiff, Nat.reduceLeDiff, Nat.reduceMul, ↓reduceIte, reduceCtorEq, Nat.reduceBEq, aoper, Nat.reduceLT, Int.reduceEq, Int.reduceLT, Int.reduceLE]
          have w34 : tget t'' 34 = i64 up.length := by rw [v34]; simp (disch := omega) only [u34, r0_forest_Good, r1_forest_Good, r2_forest_Good, k1_forest_Good, r3_forest_Good, r4_forest_Good, r5_forest_Good, r6_forest_Good, r7_forest_Good, k7_forest_Good, k6_forest_Good, r8_forest_Good, k8_forest_Good, k5_forest_Good, k4_forest_Good, k3_forest_Good, r9_forest_Good, r10_forest_Good, r11_forest_Good, r12_forest_Good, r13_forest_Good, r14_forest_Good, k16_forest_Good, r15_forest_Good, r16_forest_Good, k18_forest_Good, r17_forest_Good, k19_forest_Good, r18_forest_Good, k20_forest_Good, k17_forest_Good, k15_forest_Good, k14_forest_Good, k13_forest_Good, r19_forest_Good, k21_forest_Good, k12_forest_Good, k11_forest_Good, k10_forest_Good, r20_forest_Good, k22_forest_Good, k9_forest_Good, k2_forest_Good, k0_forest_Good, c_forest_Good, Z0, Z1, Z2, Z3, Z4, Z5, Z6, Z7, Z8, Z9, Z10, resAll, Nat.reduceAdd, Nat.reduceEqDiff, Nat.reduceLeDiff, Nat.reduceMul, ↓reduceIte, reduceCtorEq, Nat.reduceBEq, aoper, Nat.reduceLT, Int.reduceEq, Int.reduceLT, Int.reduceLE]
          have w35 : tget t'' 35 = i64 j := by rw [v35]; simp (disch := omega) only [u35, r0_forest_Good, r1_forest_Good, r2_forest_Good, k1_forest_Good, r3_forest_Good, r4_forest_Good, r5_forest_Good, r6_forest_Good, r7_forest_Good, k7_forest_Good, k6_forest_Good, r8_forest_Good, k8_forest_Good, k5_forest_Good, k4_forest_Good, k3_forest_Good, r9_forest_Good, r10_forest_Good, r11_forest_Good, r12_forest_Good, r13_forest_Good, r14_forest_Good, k16_forest_Good, r15_forest_Good, r16_forest_Good, k18_forest_Good, r17_forest_Good, k19_forest_Good, r18_forest_Good, k20_forest_Good, k17_forest_Good, k15_forest_Good, k14_forest_Good, k13_forest_Good, r19_forest_Good, k21_forest_Good, k12_forest_Good, k11_forest_Good, k10_forest_Good, r20_forest_Good, k22_forest_Good, k9_forest_Good, k2_forest_Good, k0_forest_Good, c_forest_Good, Z0, Z1, Z2, Z3, Z4, Z5, Z6, Z7, Z8, Z9, Z10, resAll, Nat.reduceAdd, Nat.reduceEqDiff, Nat.reduceLeDiff, Nat.reduceMul, ↓reduceIte, reduceCtorEq, Nat.reduceBEq, aoper, Nat.reduceLT, Int.reduceEq, Int.reduceLT, Int.reduceLE]
          simp (disch := omega) only [w33, w34, w35, v1, hjt, hcast, grow_nil, allTo_next (p := chainB up) hall' hx hc, r0_forest_Good, r1_forest_Good, r2_forest_Good, r3_forest_Good, r4_forest_Good, r5_forest_Good, r6_forest_Good, r7_forest_Good, r8_forest_Good, r9_forest_Good, r10_forest_Good, r11_forest_Good, r12_forest_Good, r13_forest_Good, r14_forest_Good, r15_forest_Good, r16_forest_Good, r17_forest_Good, r18_forest_Good, r19_forest_Good, r20_forest_Good, k21_forest_Good, Z0, Z1, Z2, Z3, Z4, Z5, Z6, Z7, Z8, Z9, Z10, resAll, Nat.reduceAdd, Nat.reduceEqDiff, Nat.reduceLeDiff, Nat.reduceMul, ↓reduceIte, reduceCtorEq, Nat.reduceBEq, aoper, Nat.reduceLT, Int.reduceEq, Int.reduceLT, Int.reduceLE]
        · have hf : forestB up = false := by rw [hfb]; exact allTo_false hx hc _ hjt
          simp (disch := omega) only [v2, hf, hk.low, r0_forest_Good, r1_forest_Good, r2_forest_Good, r3_forest_Good, r4_forest_Good, r5_forest_Good, r6_forest_Good, r7_forest_Good, r8_forest_Good, r9_forest_Good, r10_forest_Good, r11_forest_Good, r12_forest_Good, r13_forest_Good, r14_forest_Good, r15_forest_Good, r16_forest_Good, r17_forest_Good, r18_forest_Good, r19_forest_Good, r20_forest_Good, Z0, Z1, Z2, Z3, Z4, Z5, Z6, Z7, Z8, Z9, Z10, resAll, Nat.reduceAdd, Nat.reduceEqDiff, Nat.reduceLeDiff, Nat.reduceMul, ↓reduceIte, reduceCtorEq, Nat.reduceBEq, aoper, Nat.reduceLT, Int.reduceEq, Int.reduceLT, Int.reduceLE]
      · have hjt' : ¬ (j : Int) < (up.length : Int) := by omega
        have hjj : j = up.length := by omega
        have hf : forestB up = true := by rw [hfb, ← hjj]; exact hall'
        simp (disch := omega) only [u33, u34, u35, hjt', hf, hk.low, r0_forest_Good, r1_forest_Good, r2_forest_Good, r3_forest_Good, r4_forest_Good, r5_forest_Good, r6_forest_Good, r7_forest_Good, r8_forest_Good, r9_forest_Good, r10_forest_Good, r11_forest_Good, r12_forest_Good, r13_forest_Good, r14_forest_Good, r15_forest_Good, r16_forest_Good, r17_forest_Good, r18_forest_Good, r19_forest_Good, r20_forest_Good, b1_forest_Good, k11_forest_Good, k22_forest_Good, Z0, Z1, Z2, Z3, Z4, Z5, Z6, Z7, Z8, Z9, Z10, resAll, Nat.reduceAdd, Nat.reduceEqDiff, Nat.reduceLeDiff, Nat.reduceMul, ↓reduceIte, reduceCtorEq, Nat.reduceBEq, aoper, Nat.reduceLT, Int.reduceEq, Int.reduceLT, Int.reduceLE]
  · have c0' : (96 : Int) < up.length := by omega
    have hf : forestB up = false := by unfold forestB; simp [c0]
    simp (disch := omega) only [c0', hf, r0_forest_Good, r1_forest_Good, r2_forest_Good, k1_forest_Good, r3_forest_Good, r4_forest_Good, r5_forest_Good, r6_forest_Good, r7_forest_Good, k7_forest_Good, k6_forest_Good, r8_forest_Good, k8_forest_Good, k5_forest_Good, k4_forest_Good, k3_forest_Good, r9_forest_Good, r10_forest_Good, r11_forest_Good, r12_forest_Good, r13_forest_Good, r14_forest_Good, k16_forest_Good, r15_forest_Good, r16_forest_Good, k18_forest_Good, r17_forest_Good, k19_forest_Good, r18_forest_Good, k20_forest_Good, k17_forest_Good, k15_forest_Good, k14_forest_Good, k13_forest_Good, r19_forest_Good, k21_forest_Good, k12_forest_Good, k11_forest_Good, k10_forest_Good, r20_forest_Good, k22_forest_Good, k9_forest_Good, k2_forest_Good, k0_forest_Good, c_forest_Good, Z0, Z1, Z2, Z3, Z4, Z5, Z6, Z7, Z8, Z9, Z10, resAll, Nat.reduceAdd, Nat.reduceEqDiff, Nat.reduceLeDiff, Nat.reduceMul, ↓reduceIte, reduceCtorEq, Nat.reduceBEq, aoper, Nat.reduceLT, Int.reduceEq, Int.reduceLT, Int.reduceLE]
end Go.Proofs.YtidmcpkbcphpiaaGreat
namespace Go.Proofs.YtidmcpkbcphpiaaGreat
open Go Go.Hai
set_option maxRecDepth 20000
set_option linter.unusedSimpArgs false
set_option maxHeartbeats 4000000
attribute [local irreducible] Hai.Ends EndsR EndsO EndsD AHeap.grow
def r0_state_allowed : List AOper := [(.mk (some 1) none (.box 5 (.tmp 0))), (.mk (some 2) none (.mv (.const (.bool false))))]
def r1_state_allowed : List AOper := [(.mk (some 7) none (.fldA 3 (.tmp 1))), (.mk (some 8) none (.load false 1 (.tmp 7))), (.mk (some 9) none (.lenS (.tmp 8))), (.mk (some 10) none (.mv (.const (.int .i64 0))))]
def r2_state_allowed : List AOper := [(.mk (some 11) none (.bin .lss (.tmp 10) (.tmp 9)))]
def r3_state_allowed : List AOper := [(.mk (some 12) none (.idxA 5 (.tmp 8) (.tmp 10))), (.mk (some 13) none (.load true 5 (.tmp 12))), (.mk (some 4) none (.alloc [(.int .i64 0), (.int .i64 0), (.int .i64 0), (.int .i64 0), (.int .i64 0)] 5)), (.mk none none (.store 5 (.tmp 4) (.tmp 13)))]
def r4_state_allowed : List AOper := [(.mk (some 14) none (.fldA 4 (.tmp 4))), (.mk (some 15) none (.load false 1 (.tmp 14))), (.mk (some 5) none (.mv (.tmp 15)))]
def r5_state_allowed : List AOper := [(.mk (some 16) none (.fldA 3 (.tmp 1))), (.mk (some 17) none (.load false 1 (.tmp 16))), (.mk (some 18) none (.lenS (.tmp 17))), (.mk (some 19) none (.mv (.const (.int .i64 0))))]
def r6_state_allowed : List AOper := [(.mk (some 20) none (.bin .lss (.tmp 19) (.tmp 18)))]
def r7_state_allowed : List AOper := [(.mk (some 21) none (.mv (.tmp 5))), (.mk (some 22) none (.bin .lss (.tmp 21) (.const (.int .i64 0))))]
def k9_state_allowed : ACode := (.cond (.tmp 22) (.exit 2) .skip)
def r8_state_allowed : List AOper := [(.mk (some 23) none (.fldA 3 (.tmp 1))), (.mk (some 24) none (.load false 1 (.tmp 23))), (.mk (some 25) none (.mv (.tmp 5))), (.mk (some 26) none (.idxA 5 (.tmp 24) (.tmp 25))), (.mk (some 27) none (.load true 5 (.tmp 26))), (.mk (some 6) none (.alloc [(.int .i64 0), (.int .i64 0), (.int .i64 0), (.int .i64 0), (.int .i64 0)] 5)), (.mk none none (.store 5 (.tmp 6) (.tmp 27)))]
def r9_state_allowed : List AOper := [(.mk (some 28) none (.fldA 0 (.tmp 4))), (.mk (some 29) none (.load true 4 (.tmp 28))), (.mk (some 30) none (.fldA 0 (.tmp 6))), (.mk (some 31) none (.load true 4 (.tmp 30))), (.mk (some 32) none (.call 53 [(.tmp 29), (.tmp 31)])), (.mk (some 33) none (.un .not (.tmp 32))), (.mk (some 34) none (.mv (.tmp 33))), (.mk (some 35) (some (34, true)) (.fldA 0 (.tmp 6))), (.mk (some 36) (some (34, true)) (.fldA 0 (.tmp 35))), (.mk (some 37) (some (34, true)) (.load false 1 (.tmp 36))), (.mk (some 38) (some (34, true)) (.bin .neq (.tmp 37) (.const (.int .i64 1)))), (.mk (some 39) (some (34, true)) (.mv (.tmp 38))), (.mk (some 40) (some (39, false)) (.fldA 0 (.tmp 4))), (.mk (some 41) (some (39, false)) (.fldA 1 (.tmp 40))), (.mk (some 42) (some (39, false)) (.load false 1 (.tmp 41))), (.mk (some 43) (some (39, false)) (.fldA 0 (.tmp 6))), (.mk (some 44) (some (39, false)) (.fldA 1 (.tmp 43))), (.mk (some 45) (some (39, false)) (.load false 1 (.tmp 44))), (.mk (some 46) (some (39, false)) (.bin .eql (.tmp 42) (.tmp 45))), (.mk (some 47) (some (34, true)) (.pick (.tmp 39) (.const (.bool true)) (.tmp 46))), (.mk (some 48) none (.pick (.tmp 34) (.tmp 47) (.const (.bool false))))]
def r10_state_allowed : List AOper := [(.mk (some 2) none (.mv (.const (.bool false))))]
def k12_state_allowed : ACode := (.cond (.tmp 48) (.seq (.reg r10_state_allowed) .ret) .skip)
def r11_state_allowed : List AOper := [(.mk (some 49) none (.fldA 4 (.tmp 6))), (.mk (some 50) none (.load false 1 (.tmp 49))), (.mk (some 5) none (.mv (.tmp 50)))]
def k13_state_allowed : ACode := (.reg r11_state_allowed)
def k11_state_allowed : ACode := (.seq (.seq (.reg r9_state_allowed) k12_state_allowed) k13_state_allowed)
def k10_state_allowed : ACode := (.seq (.reg r8_state_allowed) k11_state_allowed)
def r12_state_allowed : List AOper := [(.mk (some 51) none (.bin .add (.tmp 19) (.const (.int .i64 1)))), (.mk (some 19) none (.mv (.tmp 51)))]
def k14_state_allowed : ACode := (.reg r12_state_allowed)
def k8_state_allowed : ACode := (.seq (.block 3 (.seq (.seq (.reg r7_state_allowed) k9_state_allowed) k10_state_allowed)) k14_state_allowed)
def k7_state_allowed : ACode := (.seq (.cond (.tmp 20) .skip (.exit 2)) k8_state_allowed)
def b1_state_allowed : ACode := (.seq (.reg r6_state_allowed) k7_state_allowed)
def k6_state_allowed : ACode := (.block 2 (.loop b1_state_allowed))
def k5_state_allowed : ACode := (.seq (.reg r5_state_allowed) k6_state_allowed)
def k4_state_allowed : ACode := (.seq (.reg r4_state_allowed) k5_state_allowed)
def r13_state_allowed : List AOper := [(.mk (some 52) none (.bin .add (.tmp 10) (.const (.int .i64 1)))), (.mk (some 10) none (.mv (.tmp 52)))]
def k15_state_allowed : ACode := (.reg r13_state_allowed)
def k3_state_allowed : ACode := (.seq (.block 1 (.seq (.reg r3_state_allowed) k4_state_allowed)) k15_state_allowed)
def k2_state_allowed : ACode := (.seq (.cond (.tmp 11) .skip (.exit 0)) k3_state_allowed)
def b0_state_allowed : ACode := (.seq (.reg r2_state_allowed) k2_state_allowed)
def k1_state_allowed : ACode := (.block 0 (.loop b0_state_allowed))
def r14_state_allowed : List AOper := [(.mk (some 2) none (.mv (.const (.bool true))))]
def k16_state_allowed : ACode := (.seq (.reg r14_state_allowed) .ret)
def k0_state_allowed : ACode := (.seq (.seq (.reg r1_state_allowed) k1_state_allowed) k16_state_allowed)
def c_state_allowed : ACode := (.seq (.reg r0_state_allowed) k0_state_allowed)
theorem e_state_allowed : ofProg Tryz.prog 63 = some ⟨53, [(.tmp 2)], c_state_allowed⟩ := by kernel_rfl

def badUp (x u : SlotD) : Bool := !(lessB x u) && (!(decide (u.type = 1)) || decide (x.thing = u.thing))
def aF (S : StD) (x : SlotD) : Nat → Int → Bool
  | 0, _ => true
  | k + 1, z => match atI S.sl z with
    | some u => if badUp x u = true then false else aF S x k u.up
    | none => true
def allowB (S : StD) (_ : Nat) (x : SlotD) : Bool := aF S x S.sl.length x.up
def allowedB (S : StD) : Bool := allTo (allowB S) S.sl S.sl.length

theorem allowed_inner {d : Nat} {τ : AHeap} {S : StD} {a1 : Option Addr} {f1 : Nat} {a2 : Option Addr} {f2 bx ty : Nat} {x : SlotD} {t0 : Tmps} {Q : AEx → Tmps → AHeap → Prop} (hn : S.sl.length < 1000) (hlow : τ.low ≤ τ.n)
    (hbox : ∀ τ', Keeps τ τ' → ∀ M o n, (τ'.grow M).loadN bx o n = sliceL (stL S a1 f1 a2 f2) o n) (hrow : ∀ τ', Keeps τ τ' → ∀ M o n, (τ'.grow M).loadN ty o n = sliceL (slotL x) o n) (h1 : SlS τ a1 S.sl)
    (hU : ∀ (i : Nat) (x : SlotD), S.sl[i]? = some x → x.up < S.sl.length) (hx : x.up < S.sl.length)
    (h1' : tget t0 1 = here bx 0) (h4 : tget t0 4 = here ty 0) (h5 : tget t0 5 = i64 x.up) (h18 : tget t0 18 = i64 S.sl.length) (h19 : tget t0 19 = i64 0)
    (hQ : aF S x S.sl.length x.up = true → ∀ t τ', Keeps τ τ' → tget t 1 = here bx 0 → tget t 8 = tget t0 8 → tget t 9 = tget t0 9 → tget t 10 = tget t0 10 → Q (.exit 2) t (τ'.grow []))
    (hR : aF S x S.sl.length x.up = false → ∀ t τ', Keeps τ τ' → tget t 2 = .bool false → Q .ret t τ') :
    Hai.Ends (acode (acall (ofProg Tryz.prog) 1000 (d + 5)) 1000 (.loop b1_state_allowed) t0 τ) Q := by
  refine ends_loop (fun j t τ' => Keeps τ τ' ∧ tget t 19 = i64 j ∧ tget t 18 = i64 S.sl.length ∧ tget t 1 = here bx 0 ∧ tget t 4 = here ty 0 ∧ tget t 8 = tget t0 8 ∧ tget t 9 = tget t0 9 ∧ tget t 10 = tget t0 10 ∧ ∃ z, tget t 5 = i64 z ∧ z < S.sl.length ∧ aF S x (S.sl.length - j) z = aF S x S.sl.length x.up)
    S.sl.length hn ⟨Keeps.refl _, h19, h18, h1', h4, rfl, rfl, rfl, x.up, h5, hx, rfl⟩ ?_
  rintro j t τ' hj ⟨hk, t19, t18, t1, t4, t8, t9, t10, z, t5, hz, hv⟩
  have hb' := hbox τ' hk
  have hr' := hrow τ' hk
  have hlow' : τ'.low ≤ τ'.n := by rw [hk.low]; exact Nat.le_trans hlow hk.n
  rw [← grow_nil τ']
  by_cases hlt : j < S.sl.length
  · have hlt' : (j : Int) < (S.sl.length : Int) := by omega
    have hcast : ((j + 1 : Nat) : Int) = (j : Int) + 1 := by omega
    obtain ⟨k, hkk⟩ : ∃ k, S.sl.length - j = k + 1 := ⟨S.sl.length - j - 1, by omega⟩
    rw [hkk] at hv
    by_cases g0 : z < 0
    · have hc : aF S x S.sl.length x.up = true := by
        rw [← hv]
        have : atI S.sl z = none := atI_none (by omega)
        simp only [aF, this]
      simp (disch := omega) only [t19, t18, t1, t4, t5, hlt', g0, r0_state_allowed, r1_state_allowed, r2_state_allowed, r3_state_allowed, r4_state_allowed, r5_state_allowed, r6_state_allowed, r7_state_allowed, k9_state_allowed, r8_state_allowed, r9_state_allowed, r10_state_allowed, k12_state_allowed, r11_state_allowed, k13_state_allowed, k11_state_allowed, k10_state_allowed, r12_state_allowed, k14_state_allowed, k8_state_allowed, k7_state_allowed, k6_state_allowed, k5_state_allowed, k4_state_allowed, r13_state_allowed, k15_state_allowed, k3_state_allowed, k2_state_allowed, k1_state_allowed, r14_state_allowed, k16_state_allowed, k0_state_allowed, b1_state_allowed, Z0, Z1, Z2, Z3, Z4, Z5, Z6, Z7, Z8, Z9, Z10, resAll, Nat.reduceAdd, Nat.reduceEqDiff, Nat.reduceLeDiff, Nat.reduceMul, ↓reduceIte, reduceCtorEq, Nat.reduceBEq, aoper, Nat.reduceLT, Int.reduceEq, Int.reduceLT, Int.reduceLE]
      refine hQ hc _ _ hk ?_ ?_ ?_ ?_ <;> simp (disch := omega) only [t1, t8, t9, t10, r0_state_allowed, r1_state_allowed, r2_state_allowed, r3_state_allowed, r4_state_allowed, r5_state_allowed, r6_state_allowed, r7_state_allowed, k9_state_allowed, r8_state_allowed, r9_state_allowed, r10_state_allowed, k12_state_allowed, r11_state_allowed, k13_state_allowed, k11_state_allowed, k10_state_allowed, r12_state_allowed, k14_state_allowed, k8_state_allowed, k7_state_allowed, k6_state_allowed, k5_state_allowed, k4_state_allowed, r13_state_allowed, k15_state_allowed, k3_state_allowed, k2_state_allowed, k1_state_allowed, r14_state_allowed, k16_state_allowed, k0_state_allowed, c_state_allowed, Z0, Z1, Z2, Z3, Z4, Z5, Z6, Z7, Z8, Z9, Z10, resAll, Nat.reduceAdd, Nat.reduceEqDiff, Nat.reduceLeDiff, Nat.reduceMul, ↓reduceIte, reduceCtorEq, Nat.reduceBEq, aoper, Nat.reduceLT, Int.reduceEq, Int.reduceLT, Int.reduceLE]
    · obtain ⟨u, e1, e2⟩ := atI_some (l := S.sl) (z := z) (by omega) hz
      obtain ⟨b, rfl, hb⟩ := (h1.keeps hk).at (i := z.toNat) (by omega)
      have hl := fun L => hb.ld0 (Keeps.refl _) e2 L 5 (by omega)
      simp only [List.take_succ_cons, List.take_zero] at hl
      have hz0 : 0 ≤ z := by omega
      have hbu : badUp x u = (!(lessB x u) && (!(decide (u.type = 1)) || decide (x.thing = u.thing))) := rfl
      have hgood : badUp x u = false → aF S x (S.sl.length - (j + 1)) u.up = aF S x S.sl.length x.up := fun h => by
        have : S.sl.length - (j + 1) = k := by omega
        rw [← hv, this]
        simp only [aF, e1, h]; rfl
      have hbad : badUp x u = true → aF S x S.sl.length x.up = false := fun h => by
        rw [← hv]
        simp only [aF, e1, h, if_true]
      have huu := hU _ _ e2
      cases g1 : lessB x u with
      | true =>
        have hc := hgood (by rw [hbu, g1]; rfl)
        simp (disch := omega) only [t19, t18, t1, t4, t5, t8, t9, t10, hlt', hlt, hcast, g0, hz0, hz, hb', hr', hl, cap_Less_ok, g1, sto_0 hlow', hk.grow, r0_state_allowed, r1_state_allowed, r2_state_allowed, r3_state_allowed, r4_state_allowed, r5_state_allowed, r6_state_allowed, r7_state_allowed, k9_state_allowed, r8_state_allowed, r9_state_allowed, r10_state_allowed, k12_state_allowed, r11_state_allowed, k13_state_allowed, k11_state_allowed, k10_state_allowed, r12_state_allowed, k14_state_allowed, k8_state_allowed, k7_state_allowed, k6_state_allowed, k5_state_allowed, k4_state_allowed, r13_state_allowed, k15_state_allowed, k3_state_allowed, k2_state_allowed, k1_state_allowed, r14_state_allowed, k16_state_allowed, k0_state_allowed, b1_state_allowed, Z0, Z1, Z2, Z3, Z4, Z5, Z6, Z7, Z8, Z9, Z10, resAll, Nat.reduceAdd, Nat.reduceEqDiff, Nat.reduceLeDiff, Nat.reduceMul, ↓reduceIte, reduceCtorEq, Nat.reduceBEq, aoper, Nat.reduceLT, Int.reduceEq, Int.reduceLT, Int.reduceLE]
        exact ⟨u.up, rfl, huu, hc⟩
      | false =>
        by_cases g2 : u.type = 1
        · by_cases g3 : x.thing = u.thing
          · have hc := hbad (by rw [hbu, g1]; simp [g3])
            simp (disch := omega) only [t19, t18, t1, t4, t5, t8, t9, t10, hlt', hlt, hcast, g0, hz0, hz, hb', hr', hl, cap_Less_ok, g1, eq_true g2, eq_true g3, sto_0 hlow', r0_state_allowed, r1_state_allowed, r2_state_allowed, r3_state_allowed, r4_state_allowed, r5_state_allowed, r6_state_allowed, r7_state_allowed, k9_state_allowed, r8_state_allowed, r9_state_allowed, r10_state_allowed, k12_state_allowed, r11_state_allowed, k13_state_allowed, k11_state_allowed, k10_state_allowed, r12_state_allowed, k14_state_allowed, k8_state_allowed, k7_state_allowed, k6_state_allowed, k5_state_allowed, k4_state_allowed, r13_state_allowed, k15_state_allowed, k3_state_allowed, k2_state_allowed, k1_state_allowed, r14_state_allowed, k16_state_allowed, k0_state_allowed, b1_state_allowed, Z0, Z1, Z2, Z3, Z4, Z5, Z6, Z7, Z8, Z9, Z10, resAll, Nat.reduceAdd, Nat.reduceEqDiff, Nat.reduceLeDiff, Nat.reduceMul, ↓reduceIte, reduceCtorEq, Nat.reduceBEq, aoper, Nat.reduceLT, Int.reduceEq, Int.reduceLT, Int.reduceLE]
            refine hR hc _ _ (hk.grow _) ?_
            simp (disch := omega) only [r0_state_allowed, r1_state_allowed, r2_state_allowed, r3_state_allowed, r4_state_allowed, r5_state_allowed, r6_state_allowed, r7_state_allowed, k9_state_allowed, r8_state_allowed, r9_state_allowed, r10_state_allowed, k12_state_allowed, r11_state_allowed, k13_state_allowed, k11_state_allowed, k10_state_allowed, r12_state_allowed, k14_state_allowed, k8_state_allowed, k7_state_allowed, k6_state_allowed, k5_state_allowed, k4_state_allowed, r13_state_allowed, k15_state_allowed, k3_state_allowed, k2_state_allowed, k1_state_allowed, r14_state_allowed, k16_state_allowed, k0_state_allowed, c_state_allowed, Z0, Z1, Z2, Z3, Z4, Z5, Z6, Z7, Z8, Z9, Z10, resAll, Nat.reduceAdd, Nat.reduceEqDiff, Nat.reduceLeDiff, Nat.reduceMul, ↓reduceIte, reduceCtorEq, Nat.reduceBEq, aoper, Nat.reduceLT, Int.reduceEq, Int.reduceLT, Int.reduceLE]
          · have hc := hgood (by rw [hbu, g1]; simp [g2, g3])
            simp (disch := omega) only [t19, t18, t1, t4, t5, t8, t9, t10, hlt', hlt, hcast, g0, hz0, hz, hb', hr', hl, cap_Less_ok, g1, eq_true g2, g3, sto_0 hlow', hk.grow, r0_state_allowed, r1_state_allowed, r2_state_allowed, r3_state_allowed, r4_state_allowed, r5_state_allowed, r6_state_allowed, r7_state_allowed, k9_state_allowed, r8_state_allowed, r9_state_allowed, r10_state_allowed, k12_state_allowed, r11_state_allowed, k13_state_allowed, k11_state_allowed, k10_state_allowed, r12_state_allowed, k14_state_allowed, k8_state_allowed, k7_state_allowed, k6_state_allowed, k5_state_allowed, k4_state_allowed, r13_state_allowed, k15_state_allowed, k3_state_allowed, k2_state_allowed, k1_state_allowed, r14_state_allowed, k16_state_allowed, k0_state_allowed, b1_state_allowed, Z0, Z1, Z2, Z3, Z4, Z5, Z6, Z7, Z8, Z9, Z10, resAll, Nat.reduceAdd, Nat.reduceEqDiff, Nat.reduceLeDiff, Nat.reduceMul, ↓reduceIte, reduceCtorEq, Nat.reduceBEq, aoper, Nat.reduceLT, Int.reduceEq, Int.reduceLT, Int.reduceLE]
            exact ⟨u.up, rfl, huu, hc⟩
        · have hc := hbad (by rw [hbu, g1]; simp [g2])
          simp (disch := omega) only [t19, t18, t1, t4, t5, t8, t9, t10, hlt', hlt, hcast, g0, hz0, hz, hb', hr', hl, cap_Less_ok, g1, g2, sto_0 hlow', r0_state_allowed, r1_state_allowed, r2_state_allowed, r3_state_allowed, r4_state_allowed, r5_state_allowed, r6_state_allowed, r7_state_allowed, k9_state_allowed, r8_state_allowed, r9_state_allowed, r10_state_allowed, k12_state_allowed, r11_state_allowed, k13_state_allowed, k11_state_allowed, k10_state_allowed, r12_state_allowed, k14_state_allowed, k8_state_allowed, k7_state_allowed, k6_state_allowed, k5_state_allowed, k4_state_allowed, r13_state_allowed, k15_state_allowed, k3_state_allowed, k2_state_allowed, k1_state_allowed, r14_state_allowed, k16_state_allowed, k0_state_allowed, b1_state_allowed, Z0, Z1, Z2, Z3, Z4, Z5, Z6, Z7, Z8, Z9, Z10, resAll, Nat.reduceAdd, Nat.reduceEqDiff, Nat.reduceLeDiff, Nat.reduceMul, ↓reduceIte, reduceCtorEq, Nat.reduceBEq, aoper, Nat.reduceLT, Int.reduceEq, Int.reduceLT, Int.reduceLE]
          refine hR hc _ _ (hk.grow _) ?_
          simp (disch := omega) only [r0_state_allowed, r1_state_allowed, r2_state_allowed, r3_state_allowed, r4_state_allowed, r5_state_allowed, r6_state_allowed, r7_state_allowed, k9_state_allowed, r8_state_allowed, r9_state_allowed, r10_state_allowed, k12_state_allowed, r11_state_allowed, k13_state_allowed, k11_state_allowed, k10_state_allowed, r12_state_allowed, k14_state_allowed, k8_state_allowed, k7_state_allowed, k6_state_allowed, k5_state_allowed, k4_state_allowed, r13_state_allowed, k15_state_allowed, k3_state_allowed, k2_state_allowed, k1_state_allowed, r14_state_allowed, k16_state_allowed, k0_state_allowed, c_state_allowed, Z0, Z1, Z2, Z3, Z4, Z5, Z6, Z7, Z8, Z9, Z10, resAll, Nat.reduceAdd, Nat.reduceEqDiff, Nat.reduceLeDiff, Nat.reduceMul, ↓reduceIte, reduceCtorEq, Nat.reduceBEq, aoper, Nat.reduceLT, Int.reduceEq, Int.reduceLT, Int.reduceLE]
  · have hlt' : ¬ (j : Int) < (S.sl.length : Int) := by omega
    have hc : aF S x S.sl.length x.up = true := by
      rw [← hv]
      have : S.sl.length - j = 0 := by omega
      rw [this]; rfl
    simp (disch := omega) only [t19, t18, hlt', r0_state_allowed, r1_state_allowed, r2_state_allowed, r3_state_allowed, r4_state_allowed, r5_state_allowed, r6_state_allowed, r7_state_allowed, k9_state_allowed, r8_state_allowed, r9_state_allowed, r10_state_allowed, k12_state_allowed, r11_state_allowed, k13_state_allowed, k11_state_allowed, k10_state_allowed, r12_state_allowed, k14_state_allowed, k8_state_allowed, k7_state_allowed, k6_state_allowed, k5_state_allowed, k4_state_allowed, r13_state_allowed, k15_state_allowed, k3_state_allowed, k2_state_allowed, k1_state_allowed, r14_state_allowed, k16_state_allowed, k0_state_allowed, b1_state_allowed, Z0, Z1, Z2, Z3, Z4, Z5, Z6, Z7, Z8, Z9, Z10, resAll, Nat.reduceAdd, Nat.reduceEqDiff, Nat.reduceLeDiff, Nat.reduceMul, ↓reduceIte, reduceCtorEq, Nat.reduceBEq, aoper, Nat.reduceLT, Int.reduceEq, Int.reduceLT, Int.reduceLE]
    refine hQ hc _ _ hk ?_ ?_ ?_ ?_ <;> simp (disch := omega) only [t1, t8, t9, t10, r0_state_allowed, r1_state_allowed, r2_state_allowed, r3_state_allowed, r4_state_allowed, r5_state_allowed, r6_state_allowed, r7_state_allowed, k9_state_allowed, r8_state_allowed, r9_state_allowed, r10_state_allowed, k12_state_allowed, r11_state_allowed, k13_state_allowed, k11_state_allowed, k10_state_allowed, r12_state_allowed, k14_state_allowed, k8_state_allowed, k7_state_allowed, k6_state_allowed, k5_state_allowed, k4_state_allowed, r13_state_allowed, k15_state_allowed, k3_state_allowed, k2_state_allowed, k1_state_allowed, r14_state_allowed, k16_state_allowed, k0_state_allowed, c_state_allowed, Z0, Z1, Z2, Z3, Z4, Z5, Z6, Z7, Z8, Z9, Z10, resAll, Nat.reduceAdd, Nat.reduceEqDiff, Nat.reduceLeDiff, Nat.reduceMul, ↓reduceIte, reduceCtorEq, Nat.reduceBEq, aoper, Nat.reduceLT, Int.reduceEq, Int.reduceLT, Int.reduceLE]

theorem state_allowed_ok (d : Nat) (σ : AHeap) (S : StD) (a1 : Option Addr) (f1 : Nat) (a2 : Option Addr) (f2 : Nat) (h1 : SlS σ a1 S.sl) (hn : S.sl.length < 1000) (hU : ∀ (i : Nat) (x : SlotD), S.sl[i]? = some x → x.up < S.sl.length) :
    acall (ofProg Tryz.prog) 1000 (d + 6) 63 [stV S a1 f1 a2 f2] σ = some (.bool (allowedB S), σ) := by
  refine acall_flat e_state_allowed (by simp) rfl ?_
  simp (disch := omega) only [r0_state_allowed, r1_state_allowed, r2_state_allowed, r3_state_allowed, r4_state_allowed, r5_state_allowed, r6_state_allowed, r7_state_allowed, r8_state_allowed, r9_state_allowed, r10_state_allowed, r11_state_allowed, r12_state_allowed, r13_state_allowed, r14_state_allowed, c_state_allowed, k0_state_allowed, k1_state_allowed, Z0, Z1, Z2, Z3, Z4, Z5, Z6, Z7, Z8, Z9, Z10, resAll, Nat.reduceAdd, Nat.reduceEqDiff, Nat.reduceLeDiff, Nat.reduceMul, ↓reduceIte, reduceCtorEq, Nat.reduceBEq, aoper, Nat.reduceLT, Int.reduceEq, Int.reduceLT, Int.reduceLE]
  refine ends_loop (fun i t τ => tget t 8 = .slice a1 S.sl.length f1 ∧ tget t 9 = i64 S.sl.length ∧ tget t 10 = i64 i ∧ tget t 1 = here σ.fresh.n 0 ∧ Keeps (σ.fresh.grow [(stL S a1 f1 a2 f2, 5)]) τ ∧ allTo (allowB S) S.sl i = true)
    S.sl.length hn ⟨?_, ?_, ?_, ?_, Keeps.refl _, rfl⟩ ?_
  iterate 4 simp (disch := omega) only [Int.natCast_zero, Int.ofNat_zero, r0_state_allowed, r1_state_allowed, r2_state_allowed, r3_state_allowed, r4_state_allowed, r5_state_allowed, r6_state_allowed, r7_state_allowed, k9_state_allowed, r8_state_allowed, r9_state_allowed, r10_state_allowed, k12_state_allowed, r11_state_allowed, k13_state_allowed, k11_state_allowed, k10_state_allowed, r12_state_allowed, k14_state_allowed, k8_state_allowed, k7_state_allowed, k6_state_allowed, k5_state_allowed, k4_state_allowed, r13_state_allowed, k15_state_allowed, k3_state_allowed, k2_state_allowed, k1_state_allowed, r14_state_allowed, k16_state_allowed, k0_state_allowed, c_state_allowed, Z0, Z1, Z2, Z3, Z4, Z5, Z6, Z7, Z8, Z9, Z10, resAll, Nat.reduceAdd, Nat.reduceEqDiff, Nat.reduceLeDiff, Nat.reduceMul, ↓reduceIte, reduceCtorEq, Nat.reduceBEq, aoper, Nat.reduceLT, Int.reduceEq, Int.reduceLT, Int.reduceLE]
  rintro i t τ hi ⟨t8, t9, t10, t1, hk, hall⟩
  rw [← grow_nil τ]
  have hlow : τ.low ≤ τ.n := by rw [hk.low]; exact Nat.le_trans (low_grow fresh_le _) hk.n
  by_cases hlt : i < S.sl.length
  · have h1τ : SlS τ a1 S.sl := h1.fresh.keeps ((Keeps.self _ _).trans hk)
    obtain ⟨b, rfl, hb⟩ := h1τ.at hlt
    have hx : S.sl[i]? = some S.sl[i] := List.getElem?_eq_getElem hlt
    generalize S.sl[i] = x at hx
    have hl := fun L => hb.ld0 (Keeps.refl _) hx L 5 (by omega)
    simp only [List.take_succ_cons, List.take_zero] at hl
    have hbox := fun M o n => hk.own0 (r := stL S (some ⟨b, 0, none⟩) f1 a2 f2) (e := 5) rfl M o n
    have hlt' : (i : Int) < (S.sl.length : Int) := by omega
    have hcast : ((i + 1 : Nat) : Int) = (i : Int) + 1 := by omega
    have hkn := hk.n
    rw [grow_n] at hkn
    simp (disch := omega) only [t8, t9, t10, t1, hbox, hl, hlt', Int.toNat_natCast, sto_0 hlow, r0_state_allowed, r1_state_allowed, r2_state_allowed, r3_state_allowed, r4_state_allowed, r5_state_allowed, r6_state_allowed, r7_state_allowed, r8_state_allowed, r9_state_allowed, r10_state_allowed, r11_state_allowed, r12_state_allowed, r13_state_allowed, r14_state_allowed, b0_state_allowed, k2_state_allowed, k3_state_allowed, k4_state_allowed, k5_state_allowed, k6_state_allowed, k7_state_allowed, Z0, Z1, Z2, Z3, Z4, Z5, Z6, Z7, Z8, Z9, Z10, resAll, Nat.reduceAdd, Nat.reduceEqDiff, Nat.reduceLeDiff, Nat.reduceMul, ↓reduceIte, reduceCtorEq, Nat.reduceBEq, aoper, Nat.reduceLT, Int.reduceEq, Int.reduceLT, Int.reduceLE]
    refine allowed_inner (bx := σ.fresh.n) (ty := τ.n) (x := x) (f1 := f1) (a2 := a2) (f2 := f2) hn (low_grow hlow _) (fun τ' hk' M o n => (hk.trans hk'.cut).own0 rfl M o n) (fun τ' hk' M o n => hk'.own0 rfl M o n) (h1τ.grow _) hU (hU _ _ hx) ?_ ?_ ?_ ?_ ?_ (fun hc t'' τ' hk' v1 v8 v9 v10 => ?_) (fun hc t'' τ' hk' v2 => ?_)
    iterate 5 simp (disch := omega) only [t1, r0_state_allowed, r1_state_allowed, r2_state_allowed, r3_state_allowed, r4_state_allowed, r5_state_allowed, r6_state_allowed, r7_state_allowed, k9_state_allowed, r8_state_allowed, r9_state_allowed, r10_state_allowed, k12_state_allowed, r11_state_allowed, k13_state_allowed, k11_state_allowed, k10_state_allowed, r12_state_allowed, k14_state_allowed, k8_state_allowed, k7_state_allowed, k6_state_allowed, k5_state_allowed, k4_state_allowed, r13_state_allowed, k15_state_allowed, k3_state_allowed, k2_state_allowed, k1_state_allowed, r14_state_allowed, k16_state_allowed, k0_state_allowed, c_state_allowed, Z0, Z1, Z2, Z3, Z4, Z5, Z6, Z7, Z8, Z9, Z10, resAll, Nat.reduceAdd, Nat.reduceEqDiff, Nat.reduceLeDiff, Nat.reduceMul, ↓reduceIte, reduceCtorEq, Nat.reduceBEq, aoper, Nat.reduceLT, Int.reduceEq, Int.reduceLT, Int.reduceLE]
    · have w8 : tget t'' 8 = .slice (some ⟨b, 0, none⟩) S.sl.length f1 := by rw [v8]; simp (disch := omega) only [t8, r0_state_allowed, r1_state_allowed, r2_state_allowed, r3_state_allowed, r4_state_allowed, r5_state_allowed, r6_state_allowed, r7_state_allowed, k9_state_allowed, r8_state_allowed, r9_state_allowed, r10_state_allowed, k12_state_allowed, r11_state_allowed, k13_state_allowed, k11_state_allowed, k10_state_allowed, r12_state_allowed, k14_state_allowed, k8_state_allowed, k7_state_allowed, k6_state_allowed, k5_state_allowed, k4_state_allowed, r13_state_allowed, k15_state_allowed, k3_state_allowed, k2_state_allowed, k1_state_allowed, r14_state_allowed, k16_state_allowed, k0_state_allowed, c_state_allowed, Z0, Z1, Z2, Z3, Z4, Z5, Z6, Z7, Z8, Z9, Z10, resAll, Nat.reduceAdd, Nat.reduceEqDiff, Nat.reduceLeDiff, Nat.reduceMul, ↓reduceIte, reduceCtorEq, Nat.reduceBEq, aoper, Nat.reduceLT, Int.reduceEq, Int.reduceLT, Int.reduceLE]
      have w9 : tget t'' 9 = i64 S.sl.length := by rw [v9]; simp (disch := omega) only [t9, r0_state_allowed, r1_state_allowed, r2_state_allowed, r3_state_allowed, r4_state_allowed, r5_state_allowed, r6_state_allowed, r7_state_allowed, k9_state_allowed, r8_state_allowed, r9_state_allowed, r10_state_allowed, k12_state_allowed, r11_state_allowed, k13_state_allowed, k11_state_allowed, k10_state_allowed, r12_state_allowed, k14_state_allowed, k8_state_allowed, k7_state_allowed, k6_state_allowed, k5_state_allowed, k4_state_allowed, r13_state_allowed, k15_state_allowed, k3_state_allowed, k2_state_allowed, k1_state_allowed, r14_state_allowed, k16_state_allowed, k0_state_allowed, c_state_allowed, Z0, Z1, Z2, Z3, Z4, Z5, Z6, Z7, Z8, Z9, Z10, resAll, Nat.reduceAdd, Nat.reduceEqDiff, Nat.reduceLeDiff, Nat.reduceMul, ↓reduceIte, reduceCtorEq, Nat.reduceBEq, aoper, Nat.reduceLT, Int.reduceEq, Int.reduceLT, Int.reduceLE]
      have w10 : tget t'' 10 = i64 i := by rw [v10]; simp (disch := omega) only [t10, r0_state_allowed, r1_state_allowed, r2_state_allowed, r3_state_allowed, r4_state_allowed, r5_state_allowed, r6_state_allowed, r7_state_allowed, k9_state_allowed, r8_state_allowed, r9_state_allowed, r10_state_allowed, k12_state_allowed, r11_state_allowed, k13_state_allowed, k11_state_allowed, k10_state_allowed, r12_state_allowed, k14_state_allowed, k8_state_allowed, k7_state_allowed, k6_state_allowed, k5_state_allowed, k4_state_allowed, r13_state_allowed, k15_state_allowed, k3_state_allowed, k2_state_allowed, k1_state_allowed, r14_state_allowed, k16_state_allowed, k0_state_allowed, c_state_allowed, Z0, Z1, Z2, Z3, Z4, Z5, Z6, Z7, Z8, Z9, Z10, resAll, Nat.reduceAdd, Nat.reduceEqDiff, Nat.reduceLeDiff, Nat.reduceMul, ↓reduceIte, reduceCtorEq, Nat.reduceBEq, aoper, Nat.reduceLT, Int.reduceEq, Int.reduceLT, Int.reduceLE]
      simp (disch := omega) only [w8, w9, w10, v1, hlt, hcast, (hk.trans hk'.cut).grow, allTo_next (p := allowB S) hall hx hc, r0_state_allowed, r1_state_allowed, r2_state_allowed, r3_state_allowed, r4_state_allowed, r5_state_allowed, r6_state_allowed, r7_state_allowed, r8_state_allowed, r9_state_allowed, r10_state_allowed, r11_state_allowed, r12_state_allowed, r13_state_allowed, r14_state_allowed, k15_state_allowed, Z0, Z1, Z2, Z3, Z4, Z5, Z6, Z7, Z8, Z9, Z10, resAll, Nat.reduceAdd, Nat.reduceEqDiff, Nat.reduceLeDiff, Nat.reduceMul, ↓reduceIte, reduceCtorEq, Nat.reduceBEq, aoper, Nat.reduceLT, Int.reduceEq, Int.reduceLT, Int.reduceLE]
    · have hf : allowedB S = false := allTo_false hx hc _ hlt
      simp (disch := omega) only [v2, hf, hk'.low, hk.low, r0_state_allowed, r1_state_allowed, r2_state_allowed, r3_state_allowed, r4_state_allowed, r5_state_allowed, r6_state_allowed, r7_state_allowed, r8_state_allowed, r9_state_allowed, r10_state_allowed, r11_state_allowed, r12_state_allowed, r13_state_allowed, r14_state_allowed, Z0, Z1, Z2, Z3, Z4, Z5, Z6, Z7, Z8, Z9, Z10, resAll, Nat.reduceAdd, Nat.reduceEqDiff, Nat.reduceLeDiff, Nat.reduceMul, ↓reduceIte, reduceCtorEq, Nat.reduceBEq, aoper, Nat.reduceLT, Int.reduceEq, Int.reduceLT, Int.reduceLE]
  · have hlt' : ¬ (i : Int) < (S.sl.length : Int) := by omega
    have hii : i = S.sl.length := by omega
    have hf : allowedB S = true := by unfold allowedB; rw [← hii]; exact hii ▸ hall
    simp (disch := omega) only [t8, t9, t10, hlt', hf, hk.low, r0_state_allowed, r1_state_allowed, r2_state_allowed, r3_state_allowed, r4_state_allowed, r5_state_allowed, r6_state_allowed, r7_state_allowed, k9_state_allowed, r8_state_allowed, r9_state_allowed, r10_state_allowed, k12_state_allowed, r11_state_allowed, k13_state_allowed, k11_state_allowed, k10_state_allowed, r12_state_allowed, k14_state_allowed, k8_state_allowed, k7_state_allowed, k6_state_allowed, k5_state_allowed, k4_state_allowed, r13_state_allowed, k15_state_allowed, k3_state_allowed, k2_state_allowed, k1_state_allowed, r14_state_allowed, k16_state_allowed, k0_state_allowed, b0_state_allowed, Z0, Z1, Z2, Z3, Z4, Z5, Z6, Z7, Z8, Z9, Z10, resAll, Nat.reduceAdd, Nat.reduceEqDiff, Nat.reduceLeDiff, Nat.reduceMul, ↓reduceIte, reduceCtorEq, Nat.reduceBEq, aoper, Nat.reduceLT, Int.reduceEq, Int.reduceLT, Int.reduceLE]
end Go.Proofs.YtidmcpkbcphpiaaGreat
namespace Go.Proofs.YtidmcpkbcphpiaaGreat
open Go Go.Hai
set_option maxRecDepth 20000
set_option linter.unusedSimpArgs false
set_option maxHeartbeats 4000000
attribute [local irreducible] Hai.Ends EndsR EndsO EndsD AHeap.grow
def r0_state_Good : List AOper := [(.mk (some 1) none (.box 5 (.tmp 0))), (.mk (some 2) none (.mv (.const (.bool false))))]
def r1_state_Good : List AOper := [(.mk (some 3) none (.fldA 0 (.tmp 1))), (.mk (some 4) none (.load true 3 (.tmp 3))), (.mk (some 5) none (.call 56 [(.tmp 4)])), (.mk (some 6) none (.un .not (.tmp 5))), (.mk (some 7) none (.mv (.tmp 6))), (.mk (some 8) (some (7, false)) (.fldA 3 (.tmp 1))), (.mk (some 9) (some (7, false)) (.load false 1 (.tmp 8))), (.mk (some 10) (some (7, false)) (.lenS (.tmp 9))), (.mk (some 11) (some (7, false)) (.fldA 0 (.tmp 1))), (.mk (some 12) (some (7, false)) (.fldA 1 (.tmp 11))), (.mk (some 13) (some (7, false)) (.load false 1 (.tmp 12))), (.mk (some 14) (some (7, false)) (.bin .neq (.tmp 10) (.tmp 13))), (.mk (some 15) none (.pick (.tmp 7) (.const (.bool true)) (.tmp 14))), (.mk (some 16) none (.mv (.tmp 15))), (.mk (some 17) (some (16, false)) (.fldA 4 (.tmp 1))), (.mk (some 18) (some (16, false)) (.load false 1 (.tmp 17))), (.mk (some 19) (some (16, false)) (.lenS (.tmp 18))), (.mk (some 20) (some (16, false)) (.fldA 0 (.tmp 1))), (.mk (some 21) (some (16, false)) (.fldA 2 (.tmp 20))), (.mk (some 22) (some (16, false)) (.load false 1 (.tmp 21))), (.mk (some 23) (some (16, false)) (.bin .neq (.tmp 19) (.tmp 22))), (.mk (some 24) none (.pick (.tmp 16) (.const (.bool true)) (.tmp 23)))]
def r2_state_Good : List AOper := [(.mk (some 2) none (.mv (.const (.bool false))))]
def k1_state_Good : ACode := (.cond (.tmp 24) (.seq (.reg r2_state_Good) .ret) .skip)
def r3_state_Good : List AOper := [(.mk (some 25) none (.load true 5 (.tmp 1))), (.mk (some 26) none (.call 57 [(.tmp 25)])), (.mk (some 27) none (.mv (.tmp 26))), (.mk (some 28) (some (27, true)) (.load true 5 (.tmp 1))), (.mk (some 29) (some (27, true)) (.call 58 [(.tmp 28)])), (.mk (some 30) none (.pick (.tmp 27) (.tmp 29) (.const (.bool false)))), (.mk (some 31) none (.mv (.tmp 30))), (.mk (some 32) (some (31, true)) (.load true 5 (.tmp 1))), (.mk (some 33) (some (31, true)) (.call 59 [(.tmp 32)])), (.mk (some 34) none (.pick (.tmp 31) (.tmp 33) (.const (.bool false)))), (.mk (some 35) none (.mv (.tmp 34))), (.mk (some 36) (some (35, true)) (.load true 5 (.tmp 1))), (.mk (some 37) (some (35, true)) (.call 60 [(.tmp 36)])), (.mk (some 38) (some (35, true)) (.un .not (.tmp 37))), (.mk (some 39) none (.pick (.tmp 35) (.tmp 38) (.const (.bool false)))), (.mk (some 40) none (.mv (.tmp 39))), (.mk (some 41) (some (40, true)) (.load true 5 (.tmp 1))), (.mk (some 42) (some (40, true)) (.call 62 [(.tmp 41)])), (.mk (some 43) (some (40, true)) (.call 61 [(.tmp 42)])), (.mk (some 44) none (.pick (.tmp 40) (.tmp 43) (.const (.bool false)))), (.mk (some 45) none (.mv (.tmp 44))), (.mk (some 46) (some (45, true)) (.load true 5 (.tmp 1))), (.mk (some 47) (some (45, true)) (.call 63 [(.tmp 46)])), (.mk (some 48) none (.pick (.tmp 45) (.tmp 47) (.const (.bool false)))), (.mk (some 2) none (.mv (.tmp 48)))]
def k2_state_Good : ACode := (.seq (.reg r3_state_Good) .ret)
def k0_state_Good : ACode := (.seq (.seq (.reg r1_state_Good) k1_state_Good) k2_state_Good)
def c_state_Good : ACode := (.seq (.reg r0_state_Good) k0_state_Good)
theorem e_state_Good : ofProg Tryz.prog 14 = some ⟨49, [(.tmp 2)], c_state_Good⟩ := by kernel_rfl

def goodB (S : StD) : Bool := decide (goodGeo S.threads S.slots S.things) && decide ((S.sl.length : Int) = S.slots) && decide ((S.th.length : Int) = S.things) && capsB S && thingsB S && nodesB S && !(ringB S) && forestB (upL S) && allowedB S
theorem all_get {α : Type} {p : α → Bool} {l : List α} (h : l.all p = true) {i : Nat} {x : α} (hx : l[i]? = some x) : p x = true := List.all_eq_true.1 h x (List.mem_of_getElem? hx)
theorem ups_of {S : StD} (hc : capsB S = true) (hf : forestB (upL S) = true) (i : Nat) (x : SlotD) (hx : S.sl[i]? = some x) : x.up < S.sl.length := by
  have hs := all_get hc hx
  unfold forestB at hf
  simp only [Bool.and_eq_true] at hf
  have hu : (upL S)[i]? = some (upOf x) := by simp [upL, hx]
  have hl := upL_length S
  have hi := (List.getElem?_eq_some_iff.1 hx).1
  have hk := allTo_true hu _ (by omega) hf.1.2
  cases g : capNone x with
  | true =>
    unfold slotB at hs
    rw [g] at hs
    simp at hs
    omega
  | false =>
    unfold linkB upOf at hk
    rw [g] at hk
    simp only [Bool.false_eq_true, if_false, Bool.or_eq_true, decide_eq_true_eq] at hk
    rcases hk with hk | hk | hk
    · omega
    · omega
    · by_cases q : 0 ≤ x.up ∧ x.up < (upL S).length
      · omega
      · unfold upB at hk
        rw [atI_none q] at hk
        cases hk
theorem thGood_of {S : StD} (h : thingsB S = true) (i : Nat) (x : ThingD) (hx : S.th[i]? = some x) : thGood x = true := by
  have := allTo_true hx _ (List.getElem?_eq_some_iff.1 hx).1 h
  unfold thingB at this
  simp only [Bool.and_eq_true] at this
  exact this.1.1.1

theorem state_Good_ok (d : Nat) (σ : AHeap) (S : StD) (a1 : Option Addr) (f1 : Nat) (a2 : Option Addr) (f2 : Nat) (hd : σ.dead = []) (h1 : SlS σ a1 S.sl) (h2 : SlT σ a2 S.th) :
    acall (ofProg Tryz.prog) 1000 (d + S.th.length + 8) 14 [stV S a1 f1 a2 f2] σ = some (.bool (goodB S), σ) := by
  refine acall_flat e_state_Good (by simp) rfl ?_
  by_cases c1 : goodGeo S.threads S.slots S.things
  · by_cases c2 : (S.sl.length : Int) = S.slots
    · by_cases c3 : (S.th.length : Int) = S.things
      · obtain ⟨b1, b2, b3, b4⟩ := c1
        have hn : S.sl.length < 900 := by omega
        have hm : S.th.length < 900 := by omega
        have hn0 : 0 < S.sl.length := by omega
        have hn' : S.sl.length < 1000 := by omega
        have hm' : S.th.length < 1000 := by omega
        have c1 : goodGeo S.threads S.slots S.things := ⟨b1, b2, b3, b4⟩
        have hcaps := fun L => state_caps_ok (d + S.th.length + 4) (σ.fresh.grow L) S a1 f1 a2 f2 (h1.fresh.grow L) (h2.fresh.grow L) hn'
        cases c4 : capsB S with
        | false =>
          have hf : goodB S = false := by unfold goodB; rw [c4]; simp
          simp (disch := omega) only [geo_Good_ok, c1, eq_true c2, eq_true c3, hcaps, c4, hf, r0_state_Good, r1_state_Good, r2_state_Good, k1_state_Good, r3_state_Good, k2_state_Good, k0_state_Good, c_state_Good, Z0, Z1, Z2, Z3, Z4, Z5, Z6, Z7, Z8, Z9, Z10, resAll, Nat.reduceAdd, Nat.reduceEqDiff, Nat.reduceLeDiff, Nat.reduceMul, ↓reduceIte, reduceCtorEq, Nat.reduceBEq, aoper, Nat.reduceLT, Int.reduceEq, Int.reduceLT, Int.reduceLE]
        | true =>
          have hthings := fun L => state_things_ok (d + S.th.length + 3) (σ.fresh.grow L) S a1 f1 a2 f2 (by rw [grow_dead]; exact hd) (h1.fresh.grow L) (h2.fresh.grow L) hn' hm' c1
          cases c5 : thingsB S with
          | false =>
            have hf : goodB S = false := by unfold goodB; rw [c5]; simp
            simp (disch := omega) only [geo_Good_ok, c1, eq_true c2, eq_true c3, hcaps, c4, hthings, c5, hf, r0_state_Good, r1_state_Good, r2_state_Good, k1_state_Good, r3_state_Good, k2_state_Good, k0_state_Good, c_state_Good, Z0, Z1, Z2, Z3, Z4, Z5, Z6, Z7, Z8, Z9, Z10, resAll, Nat.reduceAdd, Nat.reduceEqDiff, Nat.reduceLeDiff, Nat.reduceMul, ↓reduceIte, reduceCtorEq, Nat.reduceBEq, aoper, Nat.reduceLT, Int.reduceEq, Int.reduceLT, Int.reduceLE]
          | true =>
            have hT := thGood_of c5
            have hnodes := fun L => state_nodes_ok (d + S.th.length + 5) (σ.fresh.grow L) S a1 f1 a2 f2 (h1.fresh.grow L) (h2.fresh.grow L) hn0 hn' hm' hT
            cases c6 : nodesB S with
            | false =>
              have hf : goodB S = false := by unfold goodB; rw [c6]; simp
              simp (disch := omega) only [geo_Good_ok, c1, eq_true c2, eq_true c3, hcaps, c4, hthings, c5, hnodes, c6, hf, r0_state_Good, r1_state_Good, r2_state_Good, k1_state_Good, r3_state_Good, k2_state_Good, k0_state_Good, c_state_Good, Z0, Z1, Z2, Z3, Z4, Z5, Z6, Z7, Z8, Z9, Z10, resAll, Nat.reduceAdd, Nat.reduceEqDiff, Nat.reduceLeDiff, Nat.reduceMul, ↓reduceIte, reduceCtorEq, Nat.reduceBEq, aoper, Nat.reduceLT, Int.reduceEq, Int.reduceLT, Int.reduceLE]
            | true =>
              have hring := fun L => state_ring_ok d (σ.fresh.grow L) S a1 f1 a2 f2 hn' hm' (fun i x hx => nodeOk_of (hT i x hx)) (h1.fresh.grow L) (h2.fresh.grow L)
              cases c7 : ringB S with
              | true =>
                have hf : goodB S = false := by unfold goodB; rw [c7]; simp
                simp (disch := omega) only [geo_Good_ok, c1, eq_true c2, eq_true c3, hcaps, c4, hthings, c5, hnodes, c6, hring, c7, hf, r0_state_Good, r1_state_Good, r2_state_Good, k1_state_Good, r3_state_Good, k2_state_Good, k0_state_Good, c_state_Good, Z0, Z1, Z2, Z3, Z4, Z5, Z6, Z7, Z8, Z9, Z10, resAll, Nat.reduceAdd, Nat.reduceEqDiff, Nat.reduceLeDiff, Nat.reduceMul, ↓reduceIte, reduceCtorEq, Nat.reduceBEq, aoper, Nat.reduceLT, Int.reduceEq, Int.reduceLT, Int.reduceLE]
              | false =>
                obtain ⟨a, f, τ, e, hsl, hk⟩ := state_Forest_ok (d + S.th.length + 5) (σ.fresh.grow [(stL S a1 f1 a2 f2, 5)]) S a1 f1 a2 f2 (by rw [grow_dead]; exact hd) (low_grow fresh_le _) (h1.fresh.grow _) hn0 hn'
                have hforest := forest_Good_ok (d + S.th.length + 5) τ (upL S) a f hsl (by rw [upL_length]; exact hn)
                have hbox : ∀ o n, τ.loadN σ.fresh.n o n = sliceL (stL S a1 f1 a2 f2) o n := fun o n => by rw [hk.load _ _ (by rw [grow_n]; simp), ld_0]
                cases c8 : forestB (upL S) with
                | false =>
                  have hf : goodB S = false := by unfold goodB; rw [c8]; simp
                  simp (disch := omega) only [geo_Good_ok, c1, eq_true c2, eq_true c3, hcaps, c4, hthings, c5, hnodes, c6, hring, c7, e, hforest, c8, hf, hk.low, r0_state_Good, r1_state_Good, r2_state_Good, k1_state_Good, r3_state_Good, k2_state_Good, k0_state_Good, c_state_Good, Z0, Z1, Z2, Z3, Z4, Z5, Z6, Z7, Z8, Z9, Z10, resAll, Nat.reduceAdd, Nat.reduceEqDiff, Nat.reduceLeDiff, Nat.reduceMul, ↓reduceIte, reduceCtorEq, Nat.reduceBEq, aoper, Nat.reduceLT, Int.reduceEq, Int.reduceLT, Int.reduceLE]
                | true =>
                  have hallow := state_allowed_ok (d + S.th.length + 1) τ S a1 f1 a2 f2 ((h1.fresh.grow _).keeps hk) hn' (ups_of c4 c8)
                  have hf : goodB S = allowedB S := by unfold goodB; rw [c4, c5, c6, c7, c8]; simp [c1, c2, c3]
                  simp (disch := omega) only [geo_Good_ok, c1, eq_true c2, eq_true c3, hcaps, c4, hthings, c5, hnodes, c6, hring, c7, e, hforest, c8, hbox, hallow, hf, hk.low, r0_state_Good, r1_state_Good, r2_state_Good, k1_state_Good, r3_state_Good, k2_state_Good, k0_state_Good, c_state_Good, Z0, Z1, Z2, Z3, Z4, Z5, Z6, Z7, Z8, Z9, Z10, resAll, Nat.reduceAdd, Nat.reduceEqDiff, Nat.reduceLeDiff, Nat.reduceMul, ↓reduceIte, reduceCtorEq, Nat.reduceBEq, aoper, Nat.reduceLT, Int.reduceEq, Int.reduceLT, Int.reduceLE]
      · have hf : goodB S = false := by unfold goodB; simp [c3]
        simp (disch := omega) only [geo_Good_ok, c1, eq_true c2, c3, hf, r0_state_Good, r1_state_Good, r2_state_Good, k1_state_Good, r3_state_Good, k2_state_Good, k0_state_Good, c_state_Good, Z0, Z1, Z2, Z3, Z4, Z5, Z6, Z7, Z8, Z9, Z10, resAll, Nat.reduceAdd, Nat.reduceEqDiff, Nat.reduceLeDiff, Nat.reduceMul, ↓reduceIte, reduceCtorEq, Nat.reduceBEq, aoper, Nat.reduceLT, Int.reduceEq, Int.reduceLT, Int.reduceLE]
    · have hf : goodB S = false := by unfold goodB; simp [c2]
      simp (disch := omega) only [geo_Good_ok, c1, c2, hf, r0_state_Good, r1_state_Good, r2_state_Good, k1_state_Good, r3_state_Good, k2_state_Good, k0_state_Good, c_state_Good, Z0, Z1, Z2, Z3, Z4, Z5, Z6, Z7, Z8, Z9, Z10, resAll, Nat.reduceAdd, Nat.reduceEqDiff, Nat.reduceLeDiff, Nat.reduceMul, ↓reduceIte, reduceCtorEq, Nat.reduceBEq, aoper, Nat.reduceLT, Int.reduceEq, Int.reduceLT, Int.reduceLE]
  · have hf : goodB S = false := by unfold goodB; simp [c1]
    simp (disch := omega) only [geo_Good_ok, c1, hf, r0_state_Good, r1_state_Good, r2_state_Good, k1_state_Good, r3_state_Good, k2_state_Good, k0_state_Good, c_state_Good, Z0, Z1, Z2, Z3, Z4, Z5, Z6, Z7, Z8, Z9, Z10, resAll, Nat.reduceAdd, Nat.reduceEqDiff, Nat.reduceLeDiff, Nat.reduceMul, ↓reduceIte, reduceCtorEq, Nat.reduceBEq, aoper, Nat.reduceLT, Int.reduceEq, Int.reduceLT, Int.reduceLE]
end Go.Proofs.YtidmcpkbcphpiaaGreat
namespace Go.Proofs.YtidmcpkbcphpiaaGreat
open Go Go.Hai
set_option maxRecDepth 20000
set_option linter.unusedSimpArgs false
set_option maxHeartbeats 4000000
attribute [local irreducible] Hai.Ends EndsR EndsO EndsD AHeap.grow
def r0_slices_IndexFunc_int_int : List AOper := [(.mk (some 4) none (.mv (.const (.int .i64 0))))]
def r1_slices_IndexFunc_int_int : List AOper := [(.mk (some 6) none (.mv (.tmp 0))), (.mk (some 7) none (.lenS (.tmp 6))), (.mk (some 8) none (.mv (.const (.int .i64 0))))]
def r2_slices_IndexFunc_int_int : List AOper := [(.mk (some 9) none (.bin .lss (.tmp 8) (.tmp 7)))]
def r3_slices_IndexFunc_int_int : List AOper := [(.mk (some 10) none (.mv (.tmp 8))), (.mk (some 5) none (.mv (.tmp 10)))]
def r4_slices_IndexFunc_int_int : List AOper := [(.mk (some 11) none (.mv (.tmp 1))), (.mk (some 12) none (.mv (.tmp 0))), (.mk (some 13) none (.mv (.tmp 5))), (.mk (some 14) none (.idxA 1 (.tmp 12) (.tmp 13))), (.mk (some 15) none (.load false 1 (.tmp 14))), (.mk (some 16) none (.callV (.tmp 11) [(.tmp 15)]))]
def r5_slices_IndexFunc_int_int : List AOper := [(.mk (some 17) none (.mv (.tmp 5))), (.mk (some 4) none (.mv (.tmp 17)))]
def k5_slices_IndexFunc_int_int : ACode := (.cond (.tmp 16) (.seq (.reg r5_slices_IndexFunc_int_int) .ret) .skip)
def k4_slices_IndexFunc_int_int : ACode := (.seq (.reg r4_slices_IndexFunc_int_int) k5_slices_IndexFunc_int_int)
def r6_slices_IndexFunc_int_int : List AOper := [(.mk (some 18) none (.bin .add (.tmp 8) (.const (.int .i64 1)))), (.mk (some 8) none (.mv (.tmp 18)))]
def k6_slices_IndexFunc_int_int : ACode := (.reg r6_slices_IndexFunc_int_int)
def k3_slices_IndexFunc_int_int : ACode := (.seq (.block 1 (.seq (.reg r3_slices_IndexFunc_int_int) k4_slices_IndexFunc_int_int)) k6_slices_IndexFunc_int_int)
def k2_slices_IndexFunc_int_int : ACode := (.seq (.cond (.tmp 9) .skip (.exit 0)) k3_slices_IndexFunc_int_int)
def b0_slices_IndexFunc_int_int : ACode := (.seq (.reg r2_slices_IndexFunc_int_int) k2_slices_IndexFunc_int_int)
def k1_slices_IndexFunc_int_int : ACode := (.block 0 (.loop b0_slices_IndexFunc_int_int))
def r7_slices_IndexFunc_int_int : List AOper := [(.mk (some 4) none (.mv (.const (.int .i64 (-1)))))]
def k7_slices_IndexFunc_int_int : ACode := (.seq (.reg r7_slices_IndexFunc_int_int) .ret)
def k0_slices_IndexFunc_int_int : ACode := (.seq (.seq (.reg r1_slices_IndexFunc_int_int) k1_slices_IndexFunc_int_int) k7_slices_IndexFunc_int_int)
def c_slices_IndexFunc_int_int : ACode := (.seq (.reg r0_slices_IndexFunc_int_int) k0_slices_IndexFunc_int_int)
theorem e_slices_IndexFunc_int_int : ofProg Tryz.prog 194 = some ⟨19, [(.tmp 4)], c_slices_IndexFunc_int_int⟩ := by kernel_rfl
def r0_slices_ContainsFunc_int_int : List AOper := [(.mk (some 4) none (.mv (.const (.bool false))))]
def r1_slices_ContainsFunc_int_int : List AOper := [(.mk (some 5) none (.mv (.tmp 0))), (.mk (some 6) none (.mv (.tmp 1))), (.mk (some 7) none (.call 194 [(.tmp 5), (.tmp 6)])), (.mk (some 8) none (.bin .geq (.tmp 7) (.const (.int .i64 0)))), (.mk (some 4) none (.mv (.tmp 8)))]
def k0_slices_ContainsFunc_int_int : ACode := (.seq (.reg r1_slices_ContainsFunc_int_int) .ret)
def c_slices_ContainsFunc_int_int : ACode := (.seq (.reg r0_slices_ContainsFunc_int_int) k0_slices_ContainsFunc_int_int)
theorem e_slices_ContainsFunc_int_int : ofProg Tryz.prog 157 = some ⟨9, [(.tmp 4)], c_slices_ContainsFunc_int_int⟩ := by kernel_rfl
def r0_path_Good : List AOper := [(.mk (some 1) none (.box 1 (.tmp 0))), (.mk (some 2) none (.mv (.const (.bool false))))]
def r1_path_Good : List AOper := [(.mk (some 3) none (.mv (.func 156)))]
def r2_path_Good : List AOper := [(.mk (some 4) none (.fldA 0 (.tmp 1))), (.mk (some 5) none (.load false 1 (.tmp 4))), (.mk (some 6) none (.lenS (.tmp 5))), (.mk (some 7) none (.bin .geq (.tmp 6) (.const (.int .i64 1)))), (.mk (some 8) none (.mv (.tmp 7))), (.mk (some 9) (some (8, true)) (.fldA 0 (.tmp 1))), (.mk (some 10) (some (8, true)) (.load false 1 (.tmp 9))), (.mk (some 11) (some (8, true)) (.lenS (.tmp 10))), (.mk (some 12) (some (8, true)) (.bin .leq (.tmp 11) (.const (.int .i64 3)))), (.mk (some 13) none (.pick (.tmp 8) (.tmp 12) (.const (.bool false)))), (.mk (some 14) none (.mv (.tmp 13))), (.mk (some 15) (some (14, true)) (.fldA 0 (.tmp 1))), (.mk (some 16) (some (14, true)) (.load false 1 (.tmp 15))), (.mk (some 17) (some (14, true)) (.mv (.tmp 3))), (.mk (some 18) (some (14, true)) (.call 157 [(.tmp 16), (.tmp 17)])), (.mk (some 19) (some (14, true)) (.un .not (.tmp 18))), (.mk (some 20) none (.pick (.tmp 14) (.tmp 19) (.const (.bool false)))), (.mk (some 2) none (.mv (.tmp 20)))]
def k1_path_Good : ACode := (.seq (.reg r2_path_Good) .ret)
def k0_path_Good : ACode := (.seq (.reg r1_path_Good) k1_path_Good)
def c_path_Good : ACode := (.seq (.reg r0_path_Good) k0_path_Good)
theorem e_path_Good : ofProg Tryz.prog 87 = some ⟨21, [(.tmp 2)], c_path_Good⟩ := by kernel_rfl
def r0_find_through : List AOper := [(.mk (some 2) none (.box 5 (.tmp 0))), (.mk (some 4) none (.alloc [(.int .i64 0), (.int .i64 0), (.int .i64 0), (.int .i64 0), (.int .i64 0), (.int .i64 0), (.int .i64 0), (.bool false), (.int .u64 0), (.int .u64 0), (.int .u64 0), (.int .u64 0), (.int .u64 0)] 13)), (.mk (some 5) none (.mv (.const (.bool false))))]
def r1_find_through : List AOper := [(.mk (some 7) none (.fldA 3 (.tmp 2))), (.mk (some 8) none (.load false 1 (.tmp 7))), (.mk (some 9) none (.mv (.tmp 1))), (.mk (some 10) none (.idxA 5 (.tmp 8) (.tmp 9))), (.mk (some 11) none (.fldA 0 (.tmp 10))), (.mk (some 12) none (.load true 4 (.tmp 11))), (.mk (some 6) none (.alloc [(.int .i64 0), (.int .i64 0), (.int .i64 0), (.int .i64 0)] 4)), (.mk none none (.store 4 (.tmp 6) (.tmp 12)))]
def r2_find_through : List AOper := [(.mk (some 13) none (.fldA 0 (.tmp 6))), (.mk (some 14) none (.load false 1 (.tmp 13))), (.mk (some 15) none (.bin .neq (.tmp 14) (.const (.int .i64 2)))), (.mk (some 16) none (.mv (.tmp 15))), (.mk (some 17) (some (16, false)) (.fldA 2 (.tmp 6))), (.mk (some 18) (some (16, false)) (.load false 1 (.tmp 17))), (.mk (some 19) (some (16, false)) (.call 66 [(.const (.int .i64 1)), (.tmp 18)])), (.mk (some 20) (some (16, false)) (.un .not (.tmp 19))), (.mk (some 21) none (.pick (.tmp 16) (.const (.bool true)) (.tmp 20)))]
def r3_find_through : List AOper := [(.mk (some 22) none (.build [(.int .i64 0), (.int .i64 0), (.int .i64 0), (.int .i64 0), (.int .i64 0), (.int .i64 0), (.int .i64 0), (.bool false), (.int .u64 0), (.int .u64 0), (.int .u64 0), (.int .u64 0), (.int .u64 0)] [])), (.mk none none (.store 13 (.tmp 4) (.tmp 22))), (.mk (some 5) none (.mv (.const (.bool false))))]
def k2_find_through : ACode := (.cond (.tmp 21) (.seq (.reg r3_find_through) .ret) .skip)
def r4_find_through : List AOper := [(.mk (some 23) none (.fldA 4 (.tmp 2))), (.mk (some 24) none (.load false 1 (.tmp 23))), (.mk (some 25) none (.fldA 1 (.tmp 6))), (.mk (some 26) none (.load false 1 (.tmp 25))), (.mk (some 27) none (.idxA 13 (.tmp 24) (.tmp 26))), (.mk (some 28) none (.load true 13 (.tmp 27))), (.mk none none (.store 13 (.tmp 4) (.tmp 28))), (.mk (some 5) none (.mv (.const (.bool true))))]
def k3_find_through : ACode := (.seq (.reg r4_find_through) .ret)
def k1_find_through : ACode := (.seq (.seq (.reg r2_find_through) k2_find_through) k3_find_through)
def k0_find_through : ACode := (.seq (.reg r1_find_through) k1_find_through)
def c_find_through : ACode := (.seq (.reg r0_find_through) k0_find_through)
theorem e_find_through : ofProg Tryz.prog 88 = some ⟨29, [(.cell 4 true 13), (.tmp 5)], c_find_through⟩ := by kernel_rfl

def oddB (n : Int) : Bool := decide (n < 0) || decide (15 < n)
theorem IndexFunc_odd_ok (d : Nat) (σ : AHeap) (l : List Int) (a : Option Addr) (f : Nat) (hl : l.length < 1000) (h1 : SlI σ a l) :
    acall (ofProg Tryz.prog) 1000 (d + 2) 194 [.slice a l.length f, .func (.func 156) ([] : List Value).toArray ([] : List Value).toArray] σ = some (i64 (firstI oddB l 0), σ) := by
  refine acall_flat e_slices_IndexFunc_int_int (by simp) rfl ?_
  simp (disch := omega) only [r0_slices_IndexFunc_int_int, r1_slices_IndexFunc_int_int, r2_slices_IndexFunc_int_int, r3_slices_IndexFunc_int_int, r4_slices_IndexFunc_int_int, r5_slices_IndexFunc_int_int, k5_slices_IndexFunc_int_int, k4_slices_IndexFunc_int_int, r6_slices_IndexFunc_int_int, k6_slices_IndexFunc_int_int, k3_slices_IndexFunc_int_int, k2_slices_IndexFunc_int_int, k1_slices_IndexFunc_int_int, r7_slices_IndexFunc_int_int, k7_slices_IndexFunc_int_int, k0_slices_IndexFunc_int_int, c_slices_IndexFunc_int_int, Z0, Z1, Z2, Z3, Z4, Z5, Z6, Z7, Z8, Z9, Z10, resAll, Nat.reduceAdd, Nat.reduceEqDiff, Nat.reduceLeDiff, Nat.reduceMul, ↓reduceIte, reduceCtorEq, Nat.reduceBEq, aoper, Nat.reduceLT, Int.reduceEq, Int.reduceLT, Int.reduceLE]
  refine ends_loop (fun i t τ => tget t 6 = .slice a l.length f ∧ tget t 0 = .slice a l.length f ∧ tget t 1 = .func (.func 156) ([] : List Value).toArray ([] : List Value).toArray ∧ tget t 7 = i64 l.length ∧ tget t 8 = i64 i ∧ Keeps σ.fresh τ ∧ ∀ (j : Nat) (y : Int), j < i → l[j]? = some y → oddB y = false)
    l.length hl ⟨?_, ?_, ?_, ?_, ?_, Keeps.self _ _, fun j y h => by omega⟩ ?_
  iterate 5 simp (disch := omega) only [Int.natCast_zero, Int.ofNat_zero, r0_slices_IndexFunc_int_int, r1_slices_IndexFunc_int_int, r2_slices_IndexFunc_int_int, r3_slices_IndexFunc_int_int, r4_slices_IndexFunc_int_int, r5_slices_IndexFunc_int_int, k5_slices_IndexFunc_int_int, k4_slices_IndexFunc_int_int, r6_slices_IndexFunc_int_int, k6_slices_IndexFunc_int_int, k3_slices_IndexFunc_int_int, k2_slices_IndexFunc_int_int, k1_slices_IndexFunc_int_int, r7_slices_IndexFunc_int_int, k7_slices_IndexFunc_int_int, k0_slices_IndexFunc_int_int, c_slices_IndexFunc_int_int, Z0, Z1, Z2, Z3, Z4, Z5, Z6, Z7, Z8, Z9, Z10, resAll, Nat.reduceAdd, Nat.reduceEqDiff, Nat.reduceLeDiff, Nat.reduceMul, ↓reduceIte, reduceCtorEq, Nat.reduceBEq, aoper, Nat.reduceLT, Int.reduceEq, Int.reduceLT, Int.reduceLE]
  rintro i t τ hi ⟨t6, t0, t1, t7, t8, hk, hall⟩
  rw [← grow_nil τ]
  by_cases hlt : i < l.length
  · obtain ⟨b, rfl, hb⟩ := h1.fresh.at hlt
    have hx : l[i]? = some l[i] := List.getElem?_eq_getElem hlt
    generalize l[i] = x at hx
    have hld := fun L => hb.ld0 hk hx L 1 (by omega)
    simp only [List.take_succ_cons, List.take_zero, Nat.mul_one] at hld
    have hlt' : (i : Int) < (l.length : Int) := by omega
    have hcast : ((i + 1 : Nat) : Int) = (i : Int) + 1 := by omega
    have hodd : (decide (x < 0) || decide (15 < x)) = oddB x := rfl
    cases g : oddB x with
    | true =>
      have hr : firstI oddB l 0 = i := by rw [firstI_at (p := oddB) hall hx g]; simp
      simp (disch := omega) only [t6, t0, t1, t7, t8, hld, hlt', Int.toNat_natCast, Nat.mul_one, path_Good_1_ok, hodd, g, hr, hk.low, r0_slices_IndexFunc_int_int, r1_slices_IndexFunc_int_int, r2_slices_IndexFunc_int_int, r3_slices_IndexFunc_int_int, r4_slices_IndexFunc_int_int, r5_slices_IndexFunc_int_int, k5_slices_IndexFunc_int_int, k4_slices_IndexFunc_int_int, r6_slices_IndexFunc_int_int, k6_slices_IndexFunc_int_int, k3_slices_IndexFunc_int_int, k2_slices_IndexFunc_int_int, k1_slices_IndexFunc_int_int, r7_slices_IndexFunc_int_int, k7_slices_IndexFunc_int_int, k0_slices_IndexFunc_int_int, b0_slices_IndexFunc_int_int, Z0, Z1, Z2, Z3, Z4, Z5, Z6, Z7, Z8, Z9, Z10, resAll, Nat.reduceAdd, Nat.reduceEqDiff, Nat.reduceLeDiff, Nat.reduceMul, ↓reduceIte, reduceCtorEq, Nat.reduceBEq, aoper, Nat.reduceLT, Int.reduceEq, Int.reduceLT, Int.reduceLE]
    | false =>
      simp (disch := omega) only [t6, t0, t1, t7, t8, hld, hlt', hlt, hcast, Int.toNat_natCast, Nat.mul_one, path_Good_1_ok, hodd, g, hk.grow, r0_slices_IndexFunc_int_int, r1_slices_IndexFunc_int_int, r2_slices_IndexFunc_int_int, r3_slices_IndexFunc_int_int, r4_slices_IndexFunc_int_int, r5_slices_IndexFunc_int_int, k5_slices_IndexFunc_int_int, k4_slices_IndexFunc_int_int, r6_slices_IndexFunc_int_int, k6_slices_IndexFunc_int_int, k3_slices_IndexFunc_int_int, k2_slices_IndexFunc_int_int, k1_slices_IndexFunc_int_int, r7_slices_IndexFunc_int_int, k7_slices_IndexFunc_int_int, k0_slices_IndexFunc_int_int, b0_slices_IndexFunc_int_int, Z0, Z1, Z2, Z3, Z4, Z5, Z6, Z7, Z8, Z9, Z10, resAll, Nat.reduceAdd, Nat.reduceEqDiff, Nat.reduceLeDiff, Nat.reduceMul, ↓reduceIte, reduceCtorEq, Nat.reduceBEq, aoper, Nat.reduceLT, Int.reduceEq, Int.reduceLT, Int.reduceLE]
      intro j y hj hy
      by_cases hji : j < i
      · exact hall j y hji hy
      · have : j = i := by omega
        subst this
        rw [hx] at hy; cases hy; exact g
  · have hlt' : ¬ (i : Int) < (l.length : Int) := by omega
    have hr : firstI oddB l 0 = -1 := firstI_none fun j y hy => hall j y (by have := (List.getElem?_eq_some_iff.1 hy).1; omega) hy
    simp (disch := omega) only [t6, t0, t1, t7, t8, hlt', hr, hk.low, r0_slices_IndexFunc_int_int, r1_slices_IndexFunc_int_int, r2_slices_IndexFunc_int_int, r3_slices_IndexFunc_int_int, r4_slices_IndexFunc_int_int, r5_slices_IndexFunc_int_int, k5_slices_IndexFunc_int_int, k4_slices_IndexFunc_int_int, r6_slices_IndexFunc_int_int, k6_slices_IndexFunc_int_int, k3_slices_IndexFunc_int_int, k2_slices_IndexFunc_int_int, k1_slices_IndexFunc_int_int, r7_slices_IndexFunc_int_int, k7_slices_IndexFunc_int_int, k0_slices_IndexFunc_int_int, b0_slices_IndexFunc_int_int, Z0, Z1, Z2, Z3, Z4, Z5, Z6, Z7, Z8, Z9, Z10, resAll, Nat.reduceAdd, Nat.reduceEqDiff, Nat.reduceLeDiff, Nat.reduceMul, ↓reduceIte, reduceCtorEq, Nat.reduceBEq, aoper, Nat.reduceLT, Int.reduceEq, Int.reduceLT, Int.reduceLE]
theorem ContainsFunc_odd_ok (d : Nat) (σ : AHeap) (l : List Int) (a : Option Addr) (f : Nat) (hl : l.length < 1000) (h1 : SlI σ a l) :
    acall (ofProg Tryz.prog) 1000 (d + 3) 157 [.slice a l.length f, .func (.func 156) ([] : List Value).toArray ([] : List Value).toArray] σ = some (.bool (decide (0 ≤ firstI oddB l 0)), σ) := by
  refine acall_flat e_slices_ContainsFunc_int_int (by simp) rfl ?_
  have h := IndexFunc_odd_ok d (σ.fresh.grow []) l a f hl (h1.fresh.grow _)
  simp (disch := omega) only [h, r0_slices_ContainsFunc_int_int, r1_slices_ContainsFunc_int_int, k0_slices_ContainsFunc_int_int, c_slices_ContainsFunc_int_int, Z0, Z1, Z2, Z3, Z4, Z5, Z6, Z7, Z8, Z9, Z10, resAll, Nat.reduceAdd, Nat.reduceEqDiff, Nat.reduceLeDiff, Nat.reduceMul, ↓reduceIte, reduceCtorEq, Nat.reduceBEq, aoper, Nat.reduceLT, Int.reduceEq, Int.reduceLT, Int.reduceLE]
def pathB (l : List Int) : Bool := decide (1 ≤ l.length) && decide (l.length ≤ 3) && !(decide (0 ≤ firstI oddB l 0))
theorem path_Good_ok (d : Nat) (σ : AHeap) (l : List Int) (a : Option Addr) (f : Nat) (h1 : SlI σ a l) :
    acall (ofProg Tryz.prog) 1000 (d + 4) 87 [.agg [.slice a l.length f].toArray] σ = some (.bool (pathB l), σ) := by
  refine acall_flat e_path_Good (by simp) rfl ?_
  by_cases c1 : 1 ≤ l.length
  · have c1' : (1 : Int) ≤ l.length := by omega
    by_cases c2 : l.length ≤ 3
    · have c2' : (l.length : Int) ≤ 3 := by omega
      have h := fun L => ContainsFunc_odd_ok d (σ.fresh.grow L) l a f (by omega) (h1.fresh.grow L)
      have hp : pathB l = !(decide (0 ≤ firstI oddB l 0)) := by unfold pathB; simp [c1, c2]
      simp (disch := omega) only [c1', c2', h, hp, r0_path_Good, r1_path_Good, r2_path_Good, k1_path_Good, k0_path_Good, c_path_Good, Z0, Z1, Z2, Z3, Z4, Z5, Z6, Z7, Z8, Z9, Z10, resAll, Nat.reduceAdd, Nat.reduceEqDiff, Nat.reduceLeDiff, Nat.reduceMul, ↓reduceIte, reduceCtorEq, Nat.reduceBEq, aoper, Nat.reduceLT, Int.reduceEq, Int.reduceLT, Int.reduceLE]
    · have c2' : ¬ (l.length : Int) ≤ 3 := by omega
      have hp : pathB l = false := by unfold pathB; simp [c2]
      simp (disch := omega) only [c1', c2', hp, r0_path_Good, r1_path_Good, r2_path_Good, k1_path_Good, k0_path_Good, c_path_Good, Z0, Z1, Z2, Z3, Z4, Z5, Z6, Z7, Z8, Z9, Z10, resAll, Nat.reduceAdd, Nat.reduceEqDiff, Nat.reduceLeDiff, Nat.reduceMul, ↓reduceIte, reduceCtorEq, Nat.reduceBEq, aoper, Nat.reduceLT, Int.reduceEq, Int.reduceLT, Int.reduceLE]
  · have c1' : ¬ (1 : Int) ≤ l.length := by omega
    have hp : pathB l = false := by unfold pathB; simp [c1]
    simp (disch := omega) only [c1', hp, r0_path_Good, r1_path_Good, r2_path_Good, k1_path_Good, k0_path_Good, c_path_Good, Z0, Z1, Z2, Z3, Z4, Z5, Z6, Z7, Z8, Z9, Z10, resAll, Nat.reduceAdd, Nat.reduceEqDiff, Nat.reduceLeDiff, Nat.reduceMul, ↓reduceIte, reduceCtorEq, Nat.reduceBEq, aoper, Nat.reduceLT, Int.reduceEq, Int.reduceLT, Int.reduceLE]

def thrT (S : StD) (x : SlotD) : ThingD := if x.type = 2 ∧ withinB 1 x.rights = true then (match atI S.th x.thing with | some t => t | none => zeroT) else zeroT
def thrB (x : SlotD) : Bool := decide (x.type = 2) && withinB 1 x.rights
theorem find_through_ok (d : Nat) (σ : AHeap) (S : StD) (a1 : Option Addr) (f1 : Nat) (a2 : Option Addr) (f2 : Nat) (z : Int) (x : SlotD) (h1 : SlS σ a1 S.sl) (h2 : SlT σ a2 S.th) (hz : atI S.sl z = some x)
    (hx : x.type = 2 → 0 ≤ x.thing ∧ x.thing < S.th.length) :
    acall (ofProg Tryz.prog) 1000 (d + 5) 88 [stV S a1 f1 a2 f2, .int .i64 z] σ = some (.tuple [thingV (thrT S x), .bool (thrB x)].toArray, σ) := by
  refine acall_flat e_find_through (by simp) rfl ?_
  by_cases q : 0 ≤ z ∧ z < S.sl.length
  · obtain ⟨x', e1, e2⟩ := atI_some q.1 q.2
    rw [hz] at e1; cases e1
    obtain ⟨b, rfl, hb⟩ := h1.fresh.at (i := z.toNat) (by omega)
    have hl := fun L => hb.ld0 (Keeps.self _ L) e2 [] 4 (by omega)
    have hl : ∀ L, (σ.fresh.grow L).loadN b (z.toNat * 5) 4 = some (capL x) := fun L => by have := hl L; rw [grow_nil] at this; exact this
    by_cases g1 : x.type = 2
    · cases g2 : withinB 1 x.rights with
      | true =>
        obtain ⟨t, t1, t2⟩ := atI_some (l := S.th) (z := x.thing) (hx g1).1 (hx g1).2
        obtain ⟨b2, rfl, hb2⟩ := h2.fresh.at (i := x.thing.toNat) (by have := hx g1; omega)
        have hl2 : ∀ L, (σ.fresh.grow L).loadN b2 (x.thing.toNat * 13) 13 = some (thingL t) := fun L => by
          rw [load_old _ _ _ _ hb2.1]; exact hb2.2 _ _ t2 0 13 (by omega)
        have ht : thrT S x = t := by unfold thrT; rw [if_pos ⟨g1, g2⟩, t1]
        have hb' : thrB x = true := by unfold thrB; simp [g1, g2]
        have hx' := hx g1
        simp (disch := omega) only [q.1, q.2, hl, right_Within_ok, eq_true g1, g2, hx'.1, hx'.2, hl2, ht, hb', r0_find_through, r1_find_through, r2_find_through, r3_find_through, k2_find_through, r4_find_through, k3_find_through, k1_find_through, k0_find_through, c_find_through, Z0, Z1, Z2, Z3, Z4, Z5, Z6, Z7, Z8, Z9, Z10, resAll, Nat.reduceAdd, Nat.reduceEqDiff, Nat.reduceLeDiff, Nat.reduceMul, ↓reduceIte, reduceCtorEq, Nat.reduceBEq, aoper, Nat.reduceLT, Int.reduceEq, Int.reduceLT, Int.reduceLE]
      | false =>
        have ht : thrT S x = zeroT := by unfold thrT; rw [if_neg (by simp [g2])]
        have hb' : thrB x = false := by unfold thrB; simp [g2]
        simp (disch := omega) only [q.1, q.2, hl, right_Within_ok, eq_true g1, g2, ht, hb', zeroT, r0_find_through, r1_find_through, r2_find_through, r3_find_through, k2_find_through, r4_find_through, k3_find_through, k1_find_through, k0_find_through, c_find_through, Z0, Z1, Z2, Z3, Z4, Z5, Z6, Z7, Z8, Z9, Z10, resAll, Nat.reduceAdd, Nat.reduceEqDiff, Nat.reduceLeDiff, Nat.reduceMul, ↓reduceIte, reduceCtorEq, Nat.reduceBEq, aoper, Nat.reduceLT, Int.reduceEq, Int.reduceLT, Int.reduceLE]
    · have ht : thrT S x = zeroT := by unfold thrT; rw [if_neg (by simp [g1])]
      have hb' : thrB x = false := by unfold thrB; simp [g1]
      simp (disch := omega) only [q.1, q.2, hl, g1, ht, hb', zeroT, r0_find_through, r1_find_through, r2_find_through, r3_find_through, k2_find_through, r4_find_through, k3_find_through, k1_find_through, k0_find_through, c_find_through, Z0, Z1, Z2, Z3, Z4, Z5, Z6, Z7, Z8, Z9, Z10, resAll, Nat.reduceAdd, Nat.reduceEqDiff, Nat.reduceLeDiff, Nat.reduceMul, ↓reduceIte, reduceCtorEq, Nat.reduceBEq, aoper, Nat.reduceLT, Int.reduceEq, Int.reduceLT, Int.reduceLE]
  · rw [atI_none q] at hz; cases hz
end Go.Proofs.YtidmcpkbcphpiaaGreat
namespace Go.Proofs.YtidmcpkbcphpiaaGreat
open Go Go.Hai
set_option maxRecDepth 20000
set_option linter.unusedSimpArgs false
set_option maxHeartbeats 8000000
attribute [local irreducible] Hai.Ends EndsR EndsO EndsD AHeap.grow
def r0_find_Slot : List AOper := [(.mk (some 3) none (.box 5 (.tmp 0))), (.mk (some 5) none (.box 1 (.tmp 2))), (.mk (some 6) none (.mv (.const (.int .i64 0)))), (.mk (some 7) none (.mv (.const (.int .i64 0))))]
def r1_find_Slot : List AOper := [(.mk (some 13) none (.load true 5 (.tmp 3))), (.mk (some 14) none (.call 14 [(.tmp 13)])), (.mk (some 15) none (.un .not (.tmp 14))), (.mk (some 16) none (.mv (.tmp 15))), (.mk (some 17) (some (16, false)) (.mv (.tmp 1))), (.mk (some 18) (some (16, false)) (.fldA 0 (.tmp 3))), (.mk (some 19) (some (16, false)) (.fldA 0 (.tmp 18))), (.mk (some 20) (some (16, false)) (.load false 1 (.tmp 19))), (.mk (some 21) (some (16, false)) (.bin .sub (.tmp 20) (.const (.int .i64 1)))), (.mk (some 22) (some (16, false)) (.call 86 [(.tmp 17), (.const (.int .i64 0)), (.tmp 21)])), (.mk (some 23) (some (16, false)) (.un .not (.tmp 22))), (.mk (some 24) none (.pick (.tmp 16) (.const (.bool true)) (.tmp 23))), (.mk (some 25) none (.mv (.tmp 24))), (.mk (some 26) (some (25, false)) (.load true 1 (.tmp 5))), (.mk (some 27) (some (25, false)) (.call 87 [(.tmp 26)])), (.mk (some 28) (some (25, false)) (.un .not (.tmp 27))), (.mk (some 29) none (.pick (.tmp 25) (.const (.bool true)) (.tmp 28)))]
def r2_find_Slot : List AOper := [(.mk (some 6) none (.mv (.const (.int .i64 0)))), (.mk (some 7) none (.mv (.const (.int .i64 1))))]
def k1_find_Slot : ACode := (.cond (.tmp 29) (.seq (.reg r2_find_Slot) .ret) .skip)
def r3_find_Slot : List AOper := [(.mk (some 30) none (.fldA 4 (.tmp 3))), (.mk (some 31) none (.load false 1 (.tmp 30))), (.mk (some 32) none (.mv (.tmp 1))), (.mk (some 33) none (.bin .add (.const (.int .i64 2)) (.tmp 32))), (.mk (some 34) none (.idxA 13 (.tmp 31) (.tmp 33))), (.mk (some 35) none (.load true 13 (.tmp 34))), (.mk (some 8) none (.alloc [(.int .i64 0), (.int .i64 0), (.int .i64 0), (.int .i64 0), (.int .i64 0), (.int .i64 0), (.int .i64 0), (.bool false), (.int .u64 0), (.int .u64 0), (.int .u64 0), (.int .u64 0), (.int .u64 0)] 13)), (.mk none none (.store 13 (.tmp 8) (.tmp 35))), (.mk (some 9) none (.mv (.const (.bool true))))]
def r4_find_Slot : List AOper := [(.mk (some 10) none (.mv (.const (.int .i64 0))))]
def r5_find_Slot : List AOper := [(.mk (some 36) none (.fldA 0 (.tmp 5))), (.mk (some 37) none (.load false 1 (.tmp 36))), (.mk (some 38) none (.lenS (.tmp 37))), (.mk (some 39) none (.mv (.const (.int .i64 0))))]
def r6_find_Slot : List AOper := [(.mk (some 40) none (.bin .lss (.tmp 39) (.tmp 38)))]
def r7_find_Slot : List AOper := [(.mk (some 41) none (.mv (.tmp 39))), (.mk (some 42) none (.idxA 1 (.tmp 37) (.tmp 39))), (.mk (some 43) none (.load false 1 (.tmp 42))), (.mk (some 11) none (.mv (.tmp 41))), (.mk (some 12) none (.mv (.tmp 43)))]
def r8_find_Slot : List AOper := [(.mk (some 44) none (.mv (.tmp 11))), (.mk (some 45) none (.bin .gtr (.tmp 44) (.const (.int .i64 0))))]
def r9_find_Slot : List AOper := [(.mk (some 47) none (.load true 5 (.tmp 3))), (.mk (some 48) none (.mv (.tmp 10))), (.mk (some 49) none (.call 88 [(.tmp 47), (.tmp 48)])), (.mk (some 46) none (.mv (.tmp 49))), (.mk (some 50) none (.ext (.tmp 46) 0)), (.mk (some 51) none (.ext (.tmp 46) 1)), (.mk none none (.store 13 (.tmp 8) (.tmp 50))), (.mk (some 9) none (.mv (.tmp 51)))]
def k9_find_Slot : ACode := (.cond (.tmp 45) (.reg r9_find_Slot) .skip)
def r10_find_Slot : List AOper := [(.mk (some 52) none (.mv (.tmp 9))), (.mk (some 53) none (.un .not (.tmp 52))), (.mk (some 54) none (.mv (.tmp 53))), (.mk (some 55) (some (54, false)) (.load true 13 (.tmp 8))), (.mk (some 56) (some (54, false)) (.mv (.tmp 12))), (.mk (some 57) (some (54, false)) (.call 89 [(.tmp 55), (.tmp 56)])), (.mk (some 58) (some (54, false)) (.bin .lss (.tmp 57) (.const (.int .i64 0)))), (.mk (some 59) none (.pick (.tmp 54) (.const (.bool true)) (.tmp 58)))]
def r11_find_Slot : List AOper := [(.mk (some 6) none (.mv (.const (.int .i64 0)))), (.mk (some 7) none (.mv (.const (.int .i64 3))))]
def k11_find_Slot : ACode := (.cond (.tmp 59) (.seq (.reg r11_find_Slot) .ret) .skip)
def r12_find_Slot : List AOper := [(.mk (some 60) none (.load true 13 (.tmp 8))), (.mk (some 61) none (.mv (.tmp 12))), (.mk (some 62) none (.call 89 [(.tmp 60), (.tmp 61)])), (.mk (some 10) none (.mv (.tmp 62)))]
def k12_find_Slot : ACode := (.reg r12_find_Slot)
def k10_find_Slot : ACode := (.seq (.seq (.reg r10_find_Slot) k11_find_Slot) k12_find_Slot)
def k8_find_Slot : ACode := (.seq (.seq (.reg r8_find_Slot) k9_find_Slot) k10_find_Slot)
def r13_find_Slot : List AOper := [(.mk (some 63) none (.bin .add (.tmp 39) (.const (.int .i64 1)))), (.mk (some 39) none (.mv (.tmp 63)))]
def k13_find_Slot : ACode := (.reg r13_find_Slot)
def k7_find_Slot : ACode := (.seq (.block 1 (.seq (.reg r7_find_Slot) k8_find_Slot)) k13_find_Slot)
def k6_find_Slot : ACode := (.seq (.cond (.tmp 40) .skip (.exit 0)) k7_find_Slot)
def b0_find_Slot : ACode := (.seq (.reg r6_find_Slot) k6_find_Slot)
def k5_find_Slot : ACode := (.block 0 (.loop b0_find_Slot))
def r14_find_Slot : List AOper := [(.mk (some 64) none (.mv (.tmp 10))), (.mk (some 6) none (.mv (.tmp 64))), (.mk (some 7) none (.mv (.const (.int .i64 0))))]
def k14_find_Slot : ACode := (.seq (.reg r14_find_Slot) .ret)
def k4_find_Slot : ACode := (.seq (.seq (.reg r5_find_Slot) k5_find_Slot) k14_find_Slot)
def k3_find_Slot : ACode := (.seq (.reg r4_find_Slot) k4_find_Slot)
def k2_find_Slot : ACode := (.seq (.reg r3_find_Slot) k3_find_Slot)
def k0_find_Slot : ACode := (.seq (.seq (.reg r1_find_Slot) k1_find_Slot) k2_find_Slot)
def c_find_Slot : ACode := (.seq (.reg r0_find_Slot) k0_find_Slot)
theorem e_find_Slot : ofProg Tryz.prog 25 = some ⟨65, [(.tmp 6), (.tmp 7)], c_find_Slot⟩ := by kernel_rfl

theorem markTo_in {h : List Bool} {base : Int} : ∀ {m : Nat} {g : List Bool}, markTo h base m = some g → ∀ k : Nat, k < m → base + k < h.length := by
  intro m
  induction m with
  | zero => intro g _ k hk; omega
  | succ m ih =>
    intro g hg k hk
    simp only [markTo] at hg
    split at hg
    · cases hg
    · next g' hg' =>
      split at hg
      · cases hg
      · next hlt =>
        by_cases e : k < m
        · exact ih hg' k e
        · have : k = m := by omega
          subst this
          rw [markTo_length hg'] at hlt
          omega
def NodeIn (S : StD) (t : ThingD) : Prop := t.type = 2 ∧ ∃ i : Nat, S.th[i]? = some t
structure GoodF (S : StD) : Prop where
  geo : goodGeo S.threads S.slots S.things
  sl : (S.sl.length : Int) = S.slots
  th : (S.th.length : Int) = S.things
  caps : capsB S = true
  things : thingsB S = true
  nodes : nodesB S = true
theorem goodF {S : StD} (h : goodB S = true) : GoodF S := by
  unfold goodB at h
  simp only [Bool.and_eq_true, decide_eq_true_eq] at h
  exact ⟨h.1.1.1.1.1.1.1.1, h.1.1.1.1.1.1.1.2, h.1.1.1.1.1.1.2, h.1.1.1.1.1.2, h.1.1.1.1.2, h.1.1.1.2⟩
theorem GoodF.node {S : StD} (h : GoodF S) {t : ThingD} (ht : NodeIn S t) : (1 ≤ t.bits ∧ t.bits ≤ 4) ∧ 0 ≤ t.base ∧ t.base ≤ 96 - pw t.bits ∧ ∀ n : Int, 0 ≤ n → n < pw t.bits → t.base + n < S.sl.length := by
  obtain ⟨ht2, i, hi⟩ := ht
  have hg := thGood_of h.things i t hi
  have hn := thGood_node hg ht2
  refine ⟨hn.1, hn.2.1, hn.2.2, fun n h0 h1 => ?_⟩
  have hnb := h.nodes
  have hlt := (List.getElem?_eq_some_iff.1 hi).1
  unfold nodesB at hnb
  split at hnb
  · cases hnb
  · next g hg' =>
    cases hs : nodesTo S (i + 1) with
    | none => rw [nodesTo_none hs _ (by omega)] at hg'; cases hg'
    | some g1 =>
      simp only [nodesTo] at hs
      split at hs
      · cases hs
      · next g2 hg2 =>
        rw [hi] at hs
        simp only [if_pos ht2] at hs
        have := markTo_in hs n.toNat (by omega)
        rw [nodesTo_length hg2] at this
        omega
theorem GoodF.link {S : StD} (h : GoodF S) {i : Nat} {x : SlotD} (hx : S.sl[i]? = some x) (h2 : x.type = 2) : ∃ t, atI S.th x.thing = some t ∧ S.th[x.thing.toNat]? = some t ∧ 0 ≤ x.thing ∧ x.thing < S.th.length ∧ NodeIn S t := by
  have hs := all_get h.caps hx
  have hnn : capNone x = false := by
    unfold capNone eq4
    rw [h2]; rfl
  unfold slotB at hs
  rw [hnn] at hs
  simp only [Bool.and_eq_true, Bool.false_or] at hs
  by_cases q : 0 ≤ x.thing ∧ x.thing < S.th.length
  · obtain ⟨t, e1, e2⟩ := atI_some q.1 q.2
    rw [e1] at hs
    have h3 := hs.2
    simp only [Bool.and_eq_true, decide_eq_true_eq] at h3
    exact ⟨t, e1, e2, q.1, q.2, by rw [h3.2, h2], _, e2⟩
  · rw [atI_none q] at hs
    cases hs.2
theorem GoodF.root {S : StD} (h : GoodF S) {n : Int} (h0 : 0 ≤ n) (h1 : n ≤ S.threads - 1) : ∃ t, S.th[(2 + n).toNat]? = some t ∧ 2 + n < S.th.length ∧ NodeIn S t := by
  obtain ⟨g1, g2, g3, g4⟩ := h.geo
  have h3 := h.th
  have hlt : (2 + n).toNat < S.th.length := by omega
  refine ⟨S.th[(2 + n).toNat], List.getElem?_eq_getElem hlt, by omega, ?_, _, List.getElem?_eq_getElem hlt⟩
  have ht := allTo_true (List.getElem?_eq_getElem hlt) _ hlt h.things
  unfold thingB at ht
  simp only [Bool.and_eq_true] at ht
  have hr : isRootB S (2 + n).toNat = true := by unfold isRootB; simp; omega
  have h4 := ht.1.2
  rw [hr] at h4
  simp only [Bool.true_and, Bool.not_not] at h4
  unfold rootEq eq13 at h4
  simp only [Bool.and_eq_true, beq_iff_eq] at h4
  exact h4.1

def stepI (t : ThingD) (n : Int) : Int := if n < pw t.bits then t.base + n else -1
def thrTz (S : StD) (z : Int) : ThingD := match atI S.sl z with | some x => thrT S x | none => zeroT
def thrBz (S : StD) (z : Int) : Bool := match atI S.sl z with | some x => thrB x | none => false
def stepTo (S : StD) (t0 : ThingD) (l : List Int) : Nat → Option (ThingD × Int)
  | 0 => some (t0, 0)
  | i + 1 => match stepTo S t0 l i with
    | none => none
    | some (t, z) => match l[i]? with
      | none => some (t, z)
      | some n => if i = 0 then (if 0 ≤ stepI t n then some (t, stepI t n) else none)
        else (if thrBz S z = true ∧ 0 ≤ stepI (thrTz S z) n then some (thrTz S z, stepI (thrTz S z) n) else none)
theorem stepTo_none {S : StD} {t0 : ThingD} {l : List Int} {k : Nat} (hk : stepTo S t0 l k = none) : ∀ m, k ≤ m → stepTo S t0 l m = none := by
  intro m
  induction m with
  | zero => intro hm; have : k = 0 := by omega
            subst this; exact hk
  | succ m ih =>
    intro hm
    by_cases e : k = m + 1
    · subst e; exact hk
    · simp only [stepTo, ih (by omega)]
def rootT (S : StD) (thread : Int) : ThingD := match S.th[(2 + thread).toNat]? with | some t => t | none => zeroT
def slotF (S : StD) (thread : Int) (l : List Int) : Int × Int :=
  if goodB S = true ∧ (0 ≤ thread ∧ thread ≤ S.threads - 1) ∧ pathB l = true then (match stepTo S (rootT S thread) l l.length with | some (_, z) => (z, 0) | none => (0, 3)) else (0, 1)

theorem firstI_nonneg {α : Type} {p : α → Bool} : ∀ {l : List α} {k i : Nat} {x : α}, l[i]? = some x → p x = true → 0 ≤ firstI p l k := by
  intro l
  induction l with
  | nil => intro k i x h; simp at h
  | cons a l ih =>
    intro k i x hx hp
    simp only [firstI]
    split
    · omega
    · next hne =>
      cases i with
      | zero => simp at hx; subst hx; exact absurd hp hne
      | succ i => exact ih (i := i) (by simpa using hx) hp
theorem path_in {l : List Int} (h : pathB l = true) {i : Nat} {n : Int} (hn : l[i]? = some n) : 0 ≤ n ∧ n ≤ 15 := by
  unfold pathB at h
  simp only [Bool.and_eq_true, Bool.not_eq_true', decide_eq_false_iff_not] at h
  cases ho : oddB n with
  | true => exact absurd (firstI_nonneg hn ho) h.2
  | false =>
    unfold oddB at ho
    simp at ho
    omega
theorem find_Slot_ok (d : Nat) (σ : AHeap) (S : StD) (a1 : Option Addr) (f1 : Nat) (a2 : Option Addr) (f2 : Nat) (thread : Int) (l : List Int) (a : Option Addr) (f : Nat) (hd : σ.dead = []) (h1 : SlS σ a1 S.sl) (h2 : SlT σ a2 S.th) (h3 : SlI σ a l) :
    acall (ofProg Tryz.prog) 1000 (d + S.th.length + 9) 25 [stV S a1 f1 a2 f2, .int .i64 thread, .agg [.slice a l.length f].toArray] σ = some (.tuple [i64 (slotF S thread l).1, i64 (slotF S thread l).2].toArray, σ) := by
  refine acall_flat e_find_Slot (by simp) rfl ?_
  have hgood := fun L => state_Good_ok d (σ.fresh.grow L) S a1 f1 a2 f2 (by rw [grow_dead]; exact hd) (h1.fresh.grow L) (h2.fresh.grow L)
  cases c1 : goodB S with
  | false =>
    have hs : slotF S thread l = (0, 1) := by unfold slotF; rw [if_neg (by simp [c1])]
    simp (disch := omega) only [hgood, c1, hs, r0_find_Slot, r1_find_Slot, r2_find_Slot, k1_find_Slot, r3_find_Slot, r4_find_Slot, r5_find_Slot, r6_find_Slot, r7_find_Slot, r8_find_Slot, r9_find_Slot, k9_find_Slot, r10_find_Slot, r11_find_Slot, k11_find_Slot, r12_find_Slot, k12_find_Slot, k10_find_Slot, k8_find_Slot, r13_find_Slot, k13_find_Slot, k7_find_Slot, k6_find_Slot, k5_find_Slot, r14_find_Slot, k14_find_Slot, k4_find_Slot, k3_find_Slot, k2_find_Slot, k0_find_Slot, c_find_Slot, Z0, Z1, Z2, Z3, Z4, Z5, Z6, Z7, Z8, Z9, Z10, resAll, Nat.reduceAdd, Nat.reduceEqDiff, Nat.reduceLeDiff, Nat.reduceMul, ↓reduceIte, reduceCtorEq, Nat.reduceBEq, aoper, Nat.reduceLT, Int.reduceEq, Int.reduceLT, Int.reduceLE]
  | true =>
    have G := goodF c1
    obtain ⟨⟨b1, b1'⟩, ⟨b2, b2'⟩, b3, b4, b4'⟩ := G.geo
    have G2 := G.sl
    have G3 := G.th
    by_cases c2 : 0 ≤ thread ∧ thread ≤ S.threads - 1
    · have hpath := fun L => path_Good_ok (d + S.th.length + 4) (σ.fresh.grow L) l a f (h3.fresh.grow L)
      cases c3 : pathB l with
      | false =>
        have hs : slotF S thread l = (0, 1) := by unfold slotF; rw [if_neg (by simp [c3])]
        simp (disch := omega) only [hgood, c1, find_in_ok, c2, hpath, c3, hs, r0_find_Slot, r1_find_Slot, r2_find_Slot, k1_find_Slot, r3_find_Slot, r4_find_Slot, r5_find_Slot, r6_find_Slot, r7_find_Slot, r8_find_Slot, r9_find_Slot, k9_find_Slot, r10_find_Slot, r11_find_Slot, k11_find_Slot, r12_find_Slot, k12_find_Slot, k10_find_Slot, k8_find_Slot, r13_find_Slot, k13_find_Slot, k7_find_Slot, k6_find_Slot, k5_find_Slot, r14_find_Slot, k14_find_Slot, k4_find_Slot, k3_find_Slot, k2_find_Slot, k0_find_Slot, c_find_Slot, Z0, Z1, Z2, Z3, Z4, Z5, Z6, Z7, Z8, Z9, Z10, resAll, Nat.reduceAdd, Nat.reduceEqDiff, Nat.reduceLeDiff, Nat.reduceMul, ↓reduceIte, reduceCtorEq, Nat.reduceBEq, aoper, Nat.reduceLT, Int.reduceEq, Int.reduceLT, Int.reduceLE]
      | true =>
        obtain ⟨t0, r1, r2, r3⟩ := G.root c2.1 c2.2
        have hrt : rootT S thread = t0 := by unfold rootT; rw [r1]
        have hs : slotF S thread l = (match stepTo S t0 l l.length with | some (_, z) => (z, 0) | none => (0, 3)) := by unfold slotF; rw [if_pos ⟨c1, c2, c3⟩, hrt]
        have hll : l.length ≤ 3 := by unfold pathB at c3; simp at c3; omega
        have hodd : ∀ (i : Nat) (n : Int), l[i]? = some n → 0 ≤ n ∧ n ≤ 15 := by
          intro i n hn
          exact path_in c3 hn
        obtain ⟨bt, rfl, hbt⟩ := h2.fresh.at (i := (2 + thread).toNat) (by omega)
        have hl0 : ∀ L, (σ.fresh.grow L).loadN bt ((2 + thread).toNat * 13) 13 = some (thingL t0) := fun L => by
          rw [load_old _ _ _ _ hbt.1]; exact hbt.2 _ _ r1 0 13 (by omega)
        have hth0 : 0 ≤ 2 + thread := by omega
        simp (disch := omega) only [hgood, c1, find_in_ok, c2, hpath, c3, hl0, r2, hth0, r0_find_Slot, r1_find_Slot, r2_find_Slot, k1_find_Slot, r3_find_Slot, r4_find_Slot, r5_find_Slot, r6_find_Slot, r7_find_Slot, r8_find_Slot, r9_find_Slot, k9_find_Slot, r10_find_Slot, r11_find_Slot, k11_find_Slot, r12_find_Slot, k12_find_Slot, k10_find_Slot, k8_find_Slot, r13_find_Slot, k13_find_Slot, k7_find_Slot, k6_find_Slot, k5_find_Slot, r14_find_Slot, k14_find_Slot, k4_find_Slot, k3_find_Slot, k2_find_Slot, k0_find_Slot, c_find_Slot, Z0, Z1, Z2, Z3, Z4, Z5, Z6, Z7, Z8, Z9, Z10, resAll, Nat.reduceAdd, Nat.reduceEqDiff, Nat.reduceLeDiff, Nat.reduceMul, ↓reduceIte, reduceCtorEq, Nat.reduceBEq, aoper, Nat.reduceLT, Int.reduceEq, Int.reduceLT, Int.reduceLE]
        generalize hσ1 : σ.fresh.grow _ = σ1
        have e1n : σ1.n = σ.n + 3 := by rw [← hσ1, grow_n]; rfl
        have e1l : σ1.low = σ.n := by rw [← hσ1, grow_low]; rfl
        have e1k : Keeps σ.fresh σ1 := by rw [← hσ1]; exact Keeps.self _ _
        have e1b : ∀ o n, σ1.loadN σ.fresh.n o n = sliceL (stL S a1 f1 (some ⟨bt, 0, none⟩) f2) o n := fun o n => by rw [← hσ1, ld_0]
        have e1h : σ1.t.get (σ.fresh.n + 2) = some (rowOf (thingL t0, 13)) := by rw [← hσ1]; exact grow_new _ _ 2 rfl
        have hfn : σ.fresh.n = σ.n := rfl
        refine ends_loop (fun i t τ => tget t 37 = .slice a l.length f ∧ tget t 38 = i64 l.length ∧ tget t 39 = i64 i ∧ tget t 3 = here σ.fresh.n 0 ∧ tget t 8 = here (σ.fresh.n + 2) 0 ∧ tget t 9 = .bool true ∧ Mod (σ.fresh.n + 2) σ1 τ ∧
            ∃ tt z, tget t 10 = i64 z ∧ stepTo S t0 l i = some (tt, z) ∧ NodeIn S tt ∧ τ.t.get (σ.fresh.n + 2) = some (rowOf (thingL tt, 13)) ∧ (i = 0 ∨ 0 ≤ z ∧ z < S.sl.length))
          l.length (by omega) ⟨?_, ?_, ?_, ?_, ?_, ?_, Mod.refl _ _, t0, 0, ?_, rfl, r3, e1h, .inl rfl⟩ ?_
        iterate 7 simp (disch := omega) only [Int.natCast_zero, Int.ofNat_zero, r0_find_Slot, r1_find_Slot, r2_find_Slot, k1_find_Slot, r3_find_Slot, r4_find_Slot, r5_find_Slot, r6_find_Slot, r7_find_Slot, r8_find_Slot, r9_find_Slot, k9_find_Slot, r10_find_Slot, r11_find_Slot, k11_find_Slot, r12_find_Slot, k12_find_Slot, k10_find_Slot, k8_find_Slot, r13_find_Slot, k13_find_Slot, k7_find_Slot, k6_find_Slot, k5_find_Slot, r14_find_Slot, k14_find_Slot, k4_find_Slot, k3_find_Slot, k2_find_Slot, k0_find_Slot, c_find_Slot, Z0, Z1, Z2, Z3, Z4, Z5, Z6, Z7, Z8, Z9, Z10, resAll, Nat.reduceAdd, Nat.reduceEqDiff, Nat.reduceLeDiff, Nat.reduceMul, ↓reduceIte, reduceCtorEq, Nat.reduceBEq, aoper, Nat.reduceLT, Int.reduceEq, Int.reduceLT, Int.reduceLE]
        rintro i t τ hi ⟨t37, t38, t39, t3, t8, t9, hmd, tt, z, t10, hst, hnt, hrow, hz⟩
        rw [← grow_nil τ]
        have hmn := hmd.n
        have hlow : τ.low ≤ τ.n := by rw [hmd.low]; omega
        by_cases hlt : i < l.length
        · obtain ⟨b, rfl, hb⟩ := h3.fresh.at hlt
          have hx : l[i]? = some l[i] := List.getElem?_eq_getElem hlt
          generalize l[i] = n at hx
          have hn := hodd i n hx
          have hbn := hb.1
          have hl1 : σ1.loadN b i 1 = some [i64 n] := by
            have := hb.2 i n hx 0 1 (by omega)
            rw [Nat.mul_one, Nat.add_zero] at this
            rw [e1k.load _ _ hbn]; exact this
          have hl : ∀ L, (τ.grow L).loadN b i 1 = some [i64 n] := fun L => by rw [(hmd.grow L).load _ _ (by omega) (by omega)]; exact hl1
          have hlt' : (i : Int) < (l.length : Int) := by omega
          have hcast : ((i + 1 : Nat) : Int) = (i : Int) + 1 := by omega
          have hbox : ∀ L o n, (τ.grow L).loadN σ.fresh.n o n = sliceL (stL S a1 f1 (some ⟨bt, 0, none⟩) f2) o n := fun L o n => by rw [(hmd.grow L).load _ _ (by omega) (by omega)]; exact e1b o n
          have hfit : ∀ L, (τ.grow L).t.get (σ.fresh.n + 2) = some (rowOf (thingL tt, 13)) := fun L => by rw [grow_old _ _ (by omega)]; exact hrow
          have hrl : ∀ L, (τ.grow L).loadN (σ.fresh.n + 2) 0 13 = some (thingL tt) := fun L => by rw [load_row (hfit L) (by simp)]; rfl
          by_cases g0 : i = 0
          · have g0' : ¬ (0 : Int) < (i : Int) := by omega
            obtain ⟨q1, q2, q3, q4⟩ := G.node hnt
            have hp := pw_le (b := tt.bits) (by omega) (by omega)
            have hstep := fun L => find_step_ok (d + S.th.length + 7) (τ.grow L) tt n (by omega) (by omega) hn.1
            by_cases g1 : n < pw tt.bits
            · have hsi : stepI tt n = tt.base + n := by unfold stepI; rw [if_pos g1]
              have hss : stepTo S t0 l (i + 1) = some (tt, tt.base + n) := by simp only [stepTo, hst, hx, if_pos g0, hsi]; rw [if_pos (by omega)]
              have g2 : ¬ tt.base + n < 0 := by omega
              simp (disch := omega) only [t37, t38, t39, t3, t8, t9, t10, hl, hlt', hlt, hcast, Int.toNat_natCast, Nat.mul_one, g0', hrl, hstep, g1, g2, hmd.grow, hss, r0_find_Slot, r1_find_Slot, r2_find_Slot, k1_find_Slot, r3_find_Slot, r4_find_Slot, r5_find_Slot, r6_find_Slot, r7_find_Slot, r8_find_Slot, r9_find_Slot, k9_find_Slot, r10_find_Slot, r11_find_Slot, k11_find_Slot, r12_find_Slot, k12_find_Slot, k10_find_Slot, k8_find_Slot, r13_find_Slot, k13_find_Slot, k7_find_Slot, k6_find_Slot, k5_find_Slot, r14_find_Slot, k14_find_Slot, k4_find_Slot, k3_find_Slot, k2_find_Slot, k0_find_Slot, b0_find_Slot, Z0, Z1, Z2, Z3, Z4, Z5, Z6, Z7, Z8, Z9, Z10, resAll, Nat.reduceAdd, Nat.reduceEqDiff, Nat.reduceLeDiff, Nat.reduceMul, ↓reduceIte, reduceCtorEq, Nat.reduceBEq, aoper, Nat.reduceLT, Int.reduceEq, Int.reduceLT, Int.reduceLE]
              exact ⟨tt, tt.base + n, rfl, rfl, hnt, hfit _, .inr ⟨by omega, q4 n hn.1 g1⟩⟩
            · have hsi : stepI tt n = -1 := by unfold stepI; rw [if_neg g1]
              have hno : stepTo S t0 l (i + 1) = none := by simp only [stepTo, hst, hx, if_pos g0, hsi]; rw [if_neg (by omega)]
              rw [stepTo_none hno _ (by omega)] at hs
              simp (disch := omega) only [t37, t38, t39, t3, t8, t9, t10, hl, hlt', Int.toNat_natCast, Nat.mul_one, g0', hrl, hstep, g1, hs, hmd.low, e1l, r0_find_Slot, r1_find_Slot, r2_find_Slot, k1_find_Slot, r3_find_Slot, r4_find_Slot, r5_find_Slot, r6_find_Slot, r7_find_Slot, r8_find_Slot, r9_find_Slot, k9_find_Slot, r10_find_Slot, r11_find_Slot, k11_find_Slot, r12_find_Slot, k12_find_Slot, k10_find_Slot, k8_find_Slot, r13_find_Slot, k13_find_Slot, k7_find_Slot, k6_find_Slot, k5_find_Slot, r14_find_Slot, k14_find_Slot, k4_find_Slot, k3_find_Slot, k2_find_Slot, k0_find_Slot, b0_find_Slot, Z0, Z1, Z2, Z3, Z4, Z5, Z6, Z7, Z8, Z9, Z10, resAll, Nat.reduceAdd, Nat.reduceEqDiff, Nat.reduceLeDiff, Nat.reduceMul, ↓reduceIte, reduceCtorEq, Nat.reduceBEq, aoper, Nat.reduceLT, Int.reduceEq, Int.reduceLT, Int.reduceLE]
          · have g0' : (0 : Int) < (i : Int) := by omega
            obtain ⟨x, x1, x2⟩ := atI_some (l := S.sl) (z := z) (by omega) (by omega)
            have h1τ : SlS (τ.grow []) a1 S.sl := h1.fresh.mod e1k (by omega) (hmd.grow [])
            have h2τ : SlT (τ.grow []) (some ⟨bt, 0, none⟩) S.th := h2.fresh.mod e1k (by omega) (hmd.grow [])
            have hthr := find_through_ok (d + S.th.length + 3) (τ.grow []) S a1 f1 (some ⟨bt, 0, none⟩) f2 z x h1τ h2τ x1 (fun h => by obtain ⟨_, _, _, u1, u2, _⟩ := G.link x2 h; exact ⟨u1, u2⟩)
            obtain ⟨τ', s1, s2, s3, s4⟩ := Mod.store (o := 0) (vs := thingL (thrT S x)) (hfit []) (by rw [grow_low, hmd.low, e1l]; omega) (by simp) rfl
            rw [st13] at s2
            have hrl' : ∀ L, (τ'.grow L).loadN (σ.fresh.n + 2) 0 13 = some (thingL (thrT S x)) := fun L => by
              rw [load_row (l := thingL (thrT S x)) (e := 13) (by rw [grow_old _ _ (by rw [s4, grow_n]; omega)]; exact s2) (by simp)]; rfl
            have hrl0 := hrl' []
            rw [grow_nil] at hrl0
            have htz : thrTz S z = thrT S x := by unfold thrTz; rw [x1]
            have hbz : thrBz S z = thrB x := by unfold thrBz; rw [x1]
            cases g3 : thrB x with
            | false =>
              have hno : stepTo S t0 l (i + 1) = none := by simp only [stepTo, hst, hx, if_neg g0, hbz, g3]; rfl
              rw [stepTo_none hno _ (by omega)] at hs
              simp (disch := omega) only [t37, t38, t39, t3, t8, t9, t10, hl, hlt', Int.toNat_natCast, Nat.mul_one, g0', hbox, hthr, g3, s1, hs, s3.low, hmd.low, e1l, r0_find_Slot, r1_find_Slot, r2_find_Slot, k1_find_Slot, r3_find_Slot, r4_find_Slot, r5_find_Slot, r6_find_Slot, r7_find_Slot, r8_find_Slot, r9_find_Slot, k9_find_Slot, r10_find_Slot, r11_find_Slot, k11_find_Slot, r12_find_Slot, k12_find_Slot, k10_find_Slot, k8_find_Slot, r13_find_Slot, k13_find_Slot, k7_find_Slot, k6_find_Slot, k5_find_Slot, r14_find_Slot, k14_find_Slot, k4_find_Slot, k3_find_Slot, k2_find_Slot, k0_find_Slot, b0_find_Slot, Z0, Z1, Z2, Z3, Z4, Z5, Z6, Z7, Z8, Z9, Z10, resAll, Nat.reduceAdd, Nat.reduceEqDiff, Nat.reduceLeDiff, Nat.reduceMul, ↓reduceIte, reduceCtorEq, Nat.reduceBEq, aoper, Nat.reduceLT, Int.reduceEq, Int.reduceLT, Int.reduceLE]
            | true =>
              have g3' := g3
              unfold thrB at g3'
              simp only [Bool.and_eq_true, decide_eq_true_eq] at g3'
              obtain ⟨y, y1, y2, _, _, y5⟩ := G.link x2 g3'.1
              have hty : thrT S x = y := by unfold thrT; rw [if_pos g3', y1]
              rw [hty] at hthr s1 s2 hrl0 htz
              obtain ⟨q1, q2, q3, q4⟩ := G.node y5
              have hp := pw_le (b := y.bits) (by omega) (by omega)
              have hstep := find_step_ok (d + S.th.length + 7) τ' y n (by omega) (by omega) hn.1
              by_cases g1 : n < pw y.bits
              · have hsi : stepI y n = y.base + n := by unfold stepI; rw [if_pos g1]
                have hss : stepTo S t0 l (i + 1) = some (y, y.base + n) := by simp only [stepTo, hst, hx, if_neg g0, hbz, g3, htz, hsi]; rw [if_pos ⟨trivial, by omega⟩]
                have g2 : ¬ y.base + n < 0 := by omega
                have hm' := (hmd.grow []).trans s3
                simp (disch := omega) only [t37, t38, t39, t3, t8, t9, t10, hl, hlt', hlt, hcast, Int.toNat_natCast, Nat.mul_one, g0', hbox, hthr, g3, s1, hrl0, hstep, g1, g2, hm', hss, r0_find_Slot, r1_find_Slot, r2_find_Slot, k1_find_Slot, r3_find_Slot, r4_find_Slot, r5_find_Slot, r6_find_Slot, r7_find_Slot, r8_find_Slot, r9_find_Slot, k9_find_Slot, r10_find_Slot, r11_find_Slot, k11_find_Slot, r12_find_Slot, k12_find_Slot, k10_find_Slot, k8_find_Slot, r13_find_Slot, k13_find_Slot, k7_find_Slot, k6_find_Slot, k5_find_Slot, r14_find_Slot, k14_find_Slot, k4_find_Slot, k3_find_Slot, k2_find_Slot, k0_find_Slot, b0_find_Slot, Z0, Z1, Z2, Z3, Z4, Z5, Z6, Z7, Z8, Z9, Z10, resAll, Nat.reduceAdd, Nat.reduceEqDiff, Nat.reduceLeDiff, Nat.reduceMul, ↓reduceIte, reduceCtorEq, Nat.reduceBEq, aoper, Nat.reduceLT, Int.reduceEq, Int.reduceLT, Int.reduceLE]
                exact ⟨y, y.base + n, rfl, rfl, y5, s2, .inr ⟨by omega, q4 n hn.1 g1⟩⟩
              · have hsi : stepI y n = -1 := by unfold stepI; rw [if_neg g1]
                have hno : stepTo S t0 l (i + 1) = none := by simp only [stepTo, hst, hx, if_neg g0, hbz, g3, htz, hsi]; rw [if_neg (by omega)]
                rw [stepTo_none hno _ (by omega)] at hs
                simp (disch := omega) only [t37, t38, t39, t3, t8, t9, t10, hl, hlt', Int.toNat_natCast, Nat.mul_one, g0', hbox, hthr, g3, s1, hrl0, hstep, g1, hs, s3.low, hmd.low, e1l, r0_find_Slot, r1_find_Slot, r2_find_Slot, k1_find_Slot, r3_find_Slot, r4_find_Slot, r5_find_Slot, r6_find_Slot, r7_find_Slot, r8_find_Slot, r9_find_Slot, k9_find_Slot, r10_find_Slot, r11_find_Slot, k11_find_Slot, r12_find_Slot, k12_find_Slot, k10_find_Slot, k8_find_Slot, r13_find_Slot, k13_find_Slot, k7_find_Slot, k6_find_Slot, k5_find_Slot, r14_find_Slot, k14_find_Slot, k4_find_Slot, k3_find_Slot, k2_find_Slot, k0_find_Slot, b0_find_Slot, Z0, Z1, Z2, Z3, Z4, Z5, Z6, Z7, Z8, Z9, Z10, resAll, Nat.reduceAdd, Nat.reduceEqDiff, Nat.reduceLeDiff, Nat.reduceMul, ↓reduceIte, reduceCtorEq, Nat.reduceBEq, aoper, Nat.reduceLT, Int.reduceEq, Int.reduceLT, Int.reduceLE]
        · have hlt' : ¬ (i : Int) < (l.length : Int) := by omega
          have hii : i = l.length := by omega
          rw [hii] at hst
          rw [hst] at hs
          simp (disch := omega) only [t37, t38, t39, t10, hlt', hs, hmd.low, e1l, r0_find_Slot, r1_find_Slot, r2_find_Slot, k1_find_Slot, r3_find_Slot, r4_find_Slot, r5_find_Slot, r6_find_Slot, r7_find_Slot, r8_find_Slot, r9_find_Slot, k9_find_Slot, r10_find_Slot, r11_find_Slot, k11_find_Slot, r12_find_Slot, k12_find_Slot, k10_find_Slot, k8_find_Slot, r13_find_Slot, k13_find_Slot, k7_find_Slot, k6_find_Slot, k5_find_Slot, r14_find_Slot, k14_find_Slot, k4_find_Slot, k3_find_Slot, k2_find_Slot, k0_find_Slot, b0_find_Slot, Z0, Z1, Z2, Z3, Z4, Z5, Z6, Z7, Z8, Z9, Z10, resAll, Nat.reduceAdd, Nat.reduceEqDiff, Nat.reduceLeDiff, Nat.reduceMul, ↓reduceIte, reduceCtorEq, Nat.reduceBEq, aoper, Nat.reduceLT, Int.reduceEq, Int.reduceLT, Int.reduceLE]
    · have hs : slotF S thread l = (0, 1) := by unfold slotF; rw [if_neg (by intro h; exact c2 h.2.1)]
      simp (disch := omega) only [hgood, c1, find_in_ok, c2, hs, r0_find_Slot, r1_find_Slot, r2_find_Slot, k1_find_Slot, r3_find_Slot, r4_find_Slot, r5_find_Slot, r6_find_Slot, r7_find_Slot, r8_find_Slot, r9_find_Slot, k9_find_Slot, r10_find_Slot, r11_find_Slot, k11_find_Slot, r12_find_Slot, k12_find_Slot, k10_find_Slot, k8_find_Slot, r13_find_Slot, k13_find_Slot, k7_find_Slot, k6_find_Slot, k5_find_Slot, r14_find_Slot, k14_find_Slot, k4_find_Slot, k3_find_Slot, k2_find_Slot, k0_find_Slot, c_find_Slot, Z0, Z1, Z2, Z3, Z4, Z5, Z6, Z7, Z8, Z9, Z10, resAll, Nat.reduceAdd, Nat.reduceEqDiff, Nat.reduceLeDiff, Nat.reduceMul, ↓reduceIte, reduceCtorEq, Nat.reduceBEq, aoper, Nat.reduceLT, Int.reduceEq, Int.reduceLT, Int.reduceLE]
end Go.Proofs.YtidmcpkbcphpiaaGreat
namespace Go.Proofs.YtidmcpkbcphpiaaGreat
open Go Go.Hai
set_option maxRecDepth 20000
set_option linter.unusedSimpArgs false
set_option maxHeartbeats 8000000
attribute [local irreducible] Hai.Ends EndsR EndsO EndsD EndsX AHeap.grow
def r0_find_Cap : List AOper := [(.mk (some 3) none (.box 5 (.tmp 0))), (.mk (some 5) none (.box 1 (.tmp 2))), (.mk (some 6) none (.mv (.const (.int .i64 0)))), (.mk (some 7) none (.alloc [(.int .i64 0), (.int .i64 0), (.int .i64 0), (.int .i64 0)] 4)), (.mk (some 8) none (.mv (.const (.int .i64 0))))]
def r1_find_Cap : List AOper := [(.mk (some 12) none (.load true 5 (.tmp 3))), (.mk (some 13) none (.mv (.tmp 1))), (.mk (some 14) none (.load true 1 (.tmp 5))), (.mk (some 15) none (.call 25 [(.tmp 12), (.tmp 13), (.tmp 14)])), (.mk (some 11) none (.mv (.tmp 15))), (.mk (some 16) none (.ext (.tmp 11) 0)), (.mk (some 17) none (.ext (.tmp 11) 1)), (.mk (some 9) none (.mv (.tmp 16))), (.mk (some 10) none (.mv (.tmp 17)))]
def r2_find_Cap : List AOper := [(.mk (some 19) none (.mv (.tmp 10))), (.mk (some 20) none (.bin .neq (.tmp 19) (.const (.int .i64 0)))), (.mk (some 18) none (.mv (.tmp 20)))]
def r3_find_Cap : List AOper := [(.mk (some 21) none (.build [(.int .i64 0), (.int .i64 0), (.int .i64 0), (.int .i64 0)] [])), (.mk (some 22) none (.mv (.tmp 10))), (.mk (some 6) none (.mv (.const (.int .i64 0)))), (.mk none none (.store 4 (.tmp 7) (.tmp 21))), (.mk (some 8) none (.mv (.tmp 22)))]
def r4_find_Cap : List AOper := [(.mk (some 24) none (.fldA 3 (.tmp 3))), (.mk (some 25) none (.load false 1 (.tmp 24))), (.mk (some 26) none (.mv (.tmp 9))), (.mk (some 27) none (.idxA 5 (.tmp 25) (.tmp 26))), (.mk (some 28) none (.fldA 0 (.tmp 27))), (.mk (some 29) none (.load true 4 (.tmp 28))), (.mk (some 30) none (.call 38 [(.tmp 29)])), (.mk (some 23) none (.mv (.tmp 30)))]
def r5_find_Cap : List AOper := [(.mk (some 31) none (.build [(.int .i64 0), (.int .i64 0), (.int .i64 0), (.int .i64 0)] [])), (.mk (some 6) none (.mv (.const (.int .i64 0)))), (.mk none none (.store 4 (.tmp 7) (.tmp 31))), (.mk (some 8) none (.mv (.const (.int .i64 4))))]
def k3_find_Cap : ACode := (.cond (.tmp 23) (.seq (.reg r5_find_Cap) .ret) .skip)
def k2_find_Cap : ACode := (.cond (.tmp 18) (.seq (.reg r3_find_Cap) .ret) (.seq (.reg r4_find_Cap) k3_find_Cap))
def r6_find_Cap : List AOper := [(.mk (some 32) none (.mv (.tmp 9))), (.mk (some 33) none (.fldA 3 (.tmp 3))), (.mk (some 34) none (.load false 1 (.tmp 33))), (.mk (some 35) none (.mv (.tmp 9))), (.mk (some 36) none (.idxA 5 (.tmp 34) (.tmp 35))), (.mk (some 37) none (.fldA 0 (.tmp 36))), (.mk (some 38) none (.load true 4 (.tmp 37))), (.mk (some 6) none (.mv (.tmp 32))), (.mk none none (.store 4 (.tmp 7) (.tmp 38))), (.mk (some 8) none (.mv (.const (.int .i64 0))))]
def k4_find_Cap : ACode := (.seq (.drw r6_find_Cap [0, 0, 2, 0, 14, 30, 62, 1, 255, 511]) .ret)
def k1_find_Cap : ACode := (.seq (.block 0 (.seq (.reg r2_find_Cap) k2_find_Cap)) k4_find_Cap)
def k0_find_Cap : ACode := (.seq (.reg r1_find_Cap) k1_find_Cap)
def c_find_Cap : ACode := (.seq (.reg r0_find_Cap) k0_find_Cap)
theorem e_find_Cap : ofProg Tryz.prog 28 = some ⟨39, [(.tmp 6), (.cell 7 true 4), (.tmp 8)], c_find_Cap⟩ := by kernel_rfl
def r0_find_Empty : List AOper := [(.mk (some 3) none (.box 5 (.tmp 0))), (.mk (some 5) none (.box 1 (.tmp 2))), (.mk (some 6) none (.mv (.const (.int .i64 0)))), (.mk (some 7) none (.mv (.const (.int .i64 0))))]
def r1_find_Empty : List AOper := [(.mk (some 11) none (.load true 5 (.tmp 3))), (.mk (some 12) none (.mv (.tmp 1))), (.mk (some 13) none (.load true 1 (.tmp 5))), (.mk (some 14) none (.call 25 [(.tmp 11), (.tmp 12), (.tmp 13)])), (.mk (some 10) none (.mv (.tmp 14))), (.mk (some 15) none (.ext (.tmp 10) 0)), (.mk (some 16) none (.ext (.tmp 10) 1)), (.mk (some 8) none (.mv (.tmp 15))), (.mk (some 9) none (.mv (.tmp 16)))]
def r2_find_Empty : List AOper := [(.mk (some 18) none (.mv (.tmp 9))), (.mk (some 19) none (.bin .neq (.tmp 18) (.const (.int .i64 0)))), (.mk (some 17) none (.mv (.tmp 19)))]
def r3_find_Empty : List AOper := [(.mk (some 20) none (.mv (.tmp 9))), (.mk (some 6) none (.mv (.const (.int .i64 0)))), (.mk (some 7) none (.mv (.tmp 20)))]
def r4_find_Empty : List AOper := [(.mk (some 22) none (.fldA 3 (.tmp 3))), (.mk (some 23) none (.load false 1 (.tmp 22))), (.mk (some 24) none (.mv (.tmp 8))), (.mk (some 25) none (.idxA 5 (.tmp 23) (.tmp 24))), (.mk (some 26) none (.fldA 0 (.tmp 25))), (.mk (some 27) none (.load true 4 (.tmp 26))), (.mk (some 28) none (.call 38 [(.tmp 27)])), (.mk (some 29) none (.un .not (.tmp 28))), (.mk (some 21) none (.mv (.tmp 29)))]
def r5_find_Empty : List AOper := [(.mk (some 6) none (.mv (.const (.int .i64 0)))), (.mk (some 7) none (.mv (.const (.int .i64 5))))]
def k3_find_Empty : ACode := (.cond (.tmp 21) (.seq (.reg r5_find_Empty) .ret) .skip)
def k2_find_Empty : ACode := (.cond (.tmp 17) (.seq (.reg r3_find_Empty) .ret) (.seq (.reg r4_find_Empty) k3_find_Empty))
def r6_find_Empty : List AOper := [(.mk (some 30) none (.mv (.tmp 8))), (.mk (some 6) none (.mv (.tmp 30))), (.mk (some 7) none (.mv (.const (.int .i64 0))))]
def k4_find_Empty : ACode := (.seq (.reg r6_find_Empty) .ret)
def k1_find_Empty : ACode := (.seq (.block 0 (.seq (.reg r2_find_Empty) k2_find_Empty)) k4_find_Empty)
def k0_find_Empty : ACode := (.seq (.reg r1_find_Empty) k1_find_Empty)
def c_find_Empty : ACode := (.seq (.reg r0_find_Empty) k0_find_Empty)
theorem e_find_Empty : ofProg Tryz.prog 30 = some ⟨31, [(.tmp 6), (.tmp 7)], c_find_Empty⟩ := by kernel_rfl

theorem stepTo_in {S : StD} (G : GoodF S) {t0 : ThingD} (h0 : NodeIn S t0) {l : List Int} (hl : ∀ (i : Nat) (n : Int), l[i]? = some n → 0 ≤ n) : ∀ {i : Nat} {t : ThingD} {z : Int}, i ≤ l.length → stepTo S t0 l i = some (t, z) → NodeIn S t ∧ (i = 0 ∨ 0 ≤ z ∧ z < S.sl.length) := by
  intro i
  induction i with
  | zero => intro t z _ h; simp only [stepTo, Option.some.injEq, Prod.mk.injEq] at h; exact ⟨h.1 ▸ h0, .inl rfl⟩
  | succ i ih =>
    intro t z hi h
    have hx : l[i]? = some l[i] := List.getElem?_eq_getElem (by omega)
    have hn := hl i _ hx
    generalize l[i] = n at hx hn
    have fin : ∀ t', NodeIn S t' → 0 ≤ stepI t' n → 0 ≤ stepI t' n ∧ stepI t' n < S.sl.length := fun t' ht' hs => by
      obtain ⟨_, q2, _, q4⟩ := G.node ht'
      refine ⟨hs, ?_⟩
      unfold stepI at hs ⊢
      split at hs
      · next hlt => rw [if_pos hlt]; exact q4 n hn hlt
      · omega
    simp only [stepTo] at h
    split at h
    · cases h
    · next t1 z1 h1 =>
      obtain ⟨i1, i2⟩ := ih (by omega) h1
      rw [hx] at h
      simp only at h
      split at h
      · split at h
        · next hs =>
          simp only [Option.some.injEq, Prod.mk.injEq] at h
          rw [← h.1, ← h.2]
          exact ⟨i1, .inr (fin _ i1 hs)⟩
        · cases h
      · next hne =>
        split at h
        · next hs =>
          simp only [Option.some.injEq, Prod.mk.injEq] at h
          have hz := i2.resolve_left hne
          obtain ⟨x, x1, x2⟩ := atI_some (l := S.sl) hz.1 hz.2
          have hb : thrB x = true := by have := hs.1; unfold thrBz at this; rw [x1] at this; exact this
          have hb' := hb
          unfold thrB at hb'
          simp only [Bool.and_eq_true, decide_eq_true_eq] at hb'
          obtain ⟨y, y1, _, _, _, y5⟩ := G.link x2 hb'.1
          have ht : thrTz S z1 = y := by
            unfold thrTz
            rw [x1]
            show thrT S x = y
            unfold thrT
            rw [if_pos hb', y1]
          rw [ht] at h hs
          rw [← h.1, ← h.2]
          exact ⟨y5, .inr (fin _ y5 hs.2)⟩
        · cases h
theorem slotF_in {S : StD} {thread : Int} {l : List Int} (h : (slotF S thread l).2 = 0) : 0 ≤ (slotF S thread l).1 ∧ (slotF S thread l).1 < S.sl.length := by
  unfold slotF at h ⊢
  split at h
  · next hc =>
    rw [if_pos hc]
    have G := goodF hc.1
    obtain ⟨t0, r1, r2, r3⟩ := G.root hc.2.1.1 hc.2.1.2
    have hrt : rootT S thread = t0 := by unfold rootT; rw [r1]
    rw [hrt] at h ⊢
    cases hs : stepTo S t0 l l.length with
    | none => rw [hs] at h; simp at h
    | some p =>
      obtain ⟨t, z⟩ := p
      have := stepTo_in G r3 (fun i n hn => (path_in hc.2.2 hn).1) (Nat.le_refl _) hs
      have hl : l.length ≠ 0 := by have := hc.2.2; unfold pathB at this; simp at this; omega
      exact this.2.resolve_left hl
  · simp at h
def slotAt (S : StD) (z : Int) : SlotD := match atI S.sl z with | some x => x | none => ⟨0, 0, 0, 0, 0⟩
def emptyF (S : StD) (thread : Int) (l : List Int) : Int × Int :=
  if (slotF S thread l).2 = 0 then (if capNone (slotAt S (slotF S thread l).1) = true then ((slotF S thread l).1, 0) else (0, 5)) else (0, (slotF S thread l).2)
def capF (S : StD) (thread : Int) (l : List Int) : Int × SlotD × Int :=
  if (slotF S thread l).2 = 0 then (if capNone (slotAt S (slotF S thread l).1) = true then (0, ⟨0, 0, 0, 0, 0⟩, 4) else ((slotF S thread l).1, slotAt S (slotF S thread l).1, 0)) else (0, ⟨0, 0, 0, 0, 0⟩, (slotF S thread l).2)
theorem find_Empty_ok (d : Nat) (σ : AHeap) (S : StD) (a1 : Option Addr) (f1 : Nat) (a2 : Option Addr) (f2 : Nat) (thread : Int) (l : List Int) (a : Option Addr) (f : Nat) (hd : σ.dead = []) (h1 : SlS σ a1 S.sl) (h2 : SlT σ a2 S.th) (h3 : SlI σ a l) :
    acall (ofProg Tryz.prog) 1000 (d + S.th.length + 10) 30 [stV S a1 f1 a2 f2, .int .i64 thread, .agg [.slice a l.length f].toArray] σ = some (.tuple [i64 (emptyF S thread l).1, i64 (emptyF S thread l).2].toArray, σ) := by
  refine acall_flat e_find_Empty (by simp) rfl ?_
  have hslot := fun L => find_Slot_ok d (σ.fresh.grow L) S a1 f1 a2 f2 thread l a f (by rw [grow_dead]; exact hd) (h1.fresh.grow L) (h2.fresh.grow L) (h3.fresh.grow L)
  by_cases c1 : (slotF S thread l).2 = 0
  · obtain ⟨q1, q2⟩ := slotF_in c1
    obtain ⟨x, x1, x2⟩ := atI_some q1 q2
    obtain ⟨b, rfl, hb⟩ := h1.fresh.at (i := (slotF S thread l).1.toNat) (by omega)
    have hl : ∀ L, (σ.fresh.grow L).loadN b ((slotF S thread l).1.toNat * 5) 4 = some (capL x) := fun L => by
      rw [load_old _ _ _ _ hb.1]; exact hb.2 _ _ x2 0 4 (by omega)
    have hsa : slotAt S (slotF S thread l).1 = x := by unfold slotAt; rw [x1]
    cases c2 : capNone x with
    | true =>
      have he : emptyF S thread l = ((slotF S thread l).1, 0) := by unfold emptyF; rw [if_pos c1, hsa, c2]; rfl
      simp (disch := omega) only [hslot, eq_true c1, q1, q2, hl, cap_None_ok, c2, he, r0_find_Empty, r1_find_Empty, r2_find_Empty, r3_find_Empty, r4_find_Empty, r5_find_Empty, k3_find_Empty, k2_find_Empty, r6_find_Empty, k4_find_Empty, k1_find_Empty, k0_find_Empty, c_find_Empty, Z0, Z1, Z2, Z3, Z4, Z5, Z6, Z7, Z8, Z9, Z10, resAll, Nat.reduceAdd, Nat.reduceEqDiff, Nat.reduceLeDiff, Nat.reduceMul, ↓reduceIte, reduceCtorEq, Nat.reduceBEq, aoper, Nat.reduceLT, Int.reduceEq, Int.reduceLT, Int.reduceLE]
    | false =>
      have he : emptyF S thread l = (0, 5) := by unfold emptyF; rw [if_pos c1, hsa, c2]; rfl
      simp (disch := omega) only [hslot, eq_true c1, q1, q2, hl, cap_None_ok, c2, he, r0_find_Empty, r1_find_Empty, r2_find_Empty, r3_find_Empty, r4_find_Empty, r5_find_Empty, k3_find_Empty, k2_find_Empty, r6_find_Empty, k4_find_Empty, k1_find_Empty, k0_find_Empty, c_find_Empty, Z0, Z1, Z2, Z3, Z4, Z5, Z6, Z7, Z8, Z9, Z10, resAll, Nat.reduceAdd, Nat.reduceEqDiff, Nat.reduceLeDiff, Nat.reduceMul, ↓reduceIte, reduceCtorEq, Nat.reduceBEq, aoper, Nat.reduceLT, Int.reduceEq, Int.reduceLT, Int.reduceLE]
  · have he : emptyF S thread l = (0, (slotF S thread l).2) := by unfold emptyF; rw [if_neg c1]
    simp (disch := omega) only [hslot, c1, he, r0_find_Empty, r1_find_Empty, r2_find_Empty, r3_find_Empty, r4_find_Empty, r5_find_Empty, k3_find_Empty, k2_find_Empty, r6_find_Empty, k4_find_Empty, k1_find_Empty, k0_find_Empty, c_find_Empty, Z0, Z1, Z2, Z3, Z4, Z5, Z6, Z7, Z8, Z9, Z10, resAll, Nat.reduceAdd, Nat.reduceEqDiff, Nat.reduceLeDiff, Nat.reduceMul, ↓reduceIte, reduceCtorEq, Nat.reduceBEq, aoper, Nat.reduceLT, Int.reduceEq, Int.reduceLT, Int.reduceLE]
theorem find_Cap_ok (d : Nat) (σ : AHeap) (S : StD) (a1 : Option Addr) (f1 : Nat) (a2 : Option Addr) (f2 : Nat) (thread : Int) (l : List Int) (a : Option Addr) (f : Nat) (hd : σ.dead = []) (h1 : SlS σ a1 S.sl) (h2 : SlT σ a2 S.th) (h3 : SlI σ a l) :
    acall (ofProg Tryz.prog) 1000 (d + S.th.length + 10) 28 [stV S a1 f1 a2 f2, .int .i64 thread, .agg [.slice a l.length f].toArray] σ = some (.tuple [i64 (capF S thread l).1, capV (capF S thread l).2.1, i64 (capF S thread l).2.2].toArray, σ) := by
  refine acall_flat e_find_Cap (by simp) rfl ?_
  have hslot := fun L => find_Slot_ok d (σ.fresh.grow L) S a1 f1 a2 f2 thread l a f (by rw [grow_dead]; exact hd) (h1.fresh.grow L) (h2.fresh.grow L) (h3.fresh.grow L)
  by_cases c1 : (slotF S thread l).2 = 0
  · obtain ⟨q1, q2⟩ := slotF_in c1
    obtain ⟨x, x1, x2⟩ := atI_some q1 q2
    obtain ⟨b, rfl, hb⟩ := h1.fresh.at (i := (slotF S thread l).1.toNat) (by omega)
    have hl : ∀ L, (σ.fresh.grow L).loadN b ((slotF S thread l).1.toNat * 5) 4 = some (capL x) := fun L => by
      rw [load_old _ _ _ _ hb.1]; exact hb.2 _ _ x2 0 4 (by omega)
    have hsa : slotAt S (slotF S thread l).1 = x := by unfold slotAt; rw [x1]
    cases c2 : capNone x with
    | true =>
      have he : capF S thread l = (0, ⟨0, 0, 0, 0, 0⟩, 4) := by unfold capF; rw [if_pos c1, hsa, c2]; rfl
      simp (disch := omega) only [hslot, eq_true c1, q1, q2, hl, cap_None_ok, c2, he, r0_find_Cap, r1_find_Cap, r2_find_Cap, r3_find_Cap, r4_find_Cap, r5_find_Cap, k3_find_Cap, k2_find_Cap, r6_find_Cap, k4_find_Cap, k1_find_Cap, k0_find_Cap, c_find_Cap, Z0, Z1, Z2, Z3, Z4, Z5, Z6, Z7, Z8, Z9, Z10, resAll, Nat.reduceAdd, Nat.reduceEqDiff, Nat.reduceLeDiff, Nat.reduceMul, ↓reduceIte, reduceCtorEq, Nat.reduceBEq, aoper, Nat.reduceLT, Int.reduceEq, Int.reduceLT, Int.reduceLE]
    | false =>
      have he : capF S thread l = ((slotF S thread l).1, x, 0) := by unfold capF; rw [if_pos c1, hsa, c2]; rfl
      simp (disch := omega) only [hslot, eq_true c1, q1, q2, hl, cap_None_ok, c2, he, r0_find_Cap, r1_find_Cap, r2_find_Cap, r3_find_Cap, r4_find_Cap, r5_find_Cap, k3_find_Cap, k2_find_Cap, r6_find_Cap, k4_find_Cap, k1_find_Cap, k0_find_Cap, c_find_Cap, Z0, Z1, Z2, Z3, Z4, Z5, Z6, Z7, Z8, Z9, Z10, resAll, Nat.reduceAdd, Nat.reduceEqDiff, Nat.reduceLeDiff, Nat.reduceMul, ↓reduceIte, reduceCtorEq, Nat.reduceBEq, aoper, Nat.reduceLT, Int.reduceEq, Int.reduceLT, Int.reduceLE]
      rw [ends_drw0 (by kernel_rfl)]
      simp (disch := omega) only [hslot, eq_true c1, q1, q2, hl, cap_None_ok, c2, he, x_nil, x_1, kontX_grow fresh_le, stX_2 fresh_le, r0_find_Cap, r1_find_Cap, r2_find_Cap, r3_find_Cap, r4_find_Cap, r5_find_Cap, k3_find_Cap, k2_find_Cap, r6_find_Cap, k4_find_Cap, k1_find_Cap, k0_find_Cap, c_find_Cap, Z0, Z1, Z2, Z3, Z4, Z5, Z6, Z7, Z8, Z9, Z10, resAll, Nat.reduceAdd, Nat.reduceEqDiff, Nat.reduceLeDiff, Nat.reduceMul, ↓reduceIte, reduceCtorEq, Nat.reduceBEq, aoper, Nat.reduceLT, Int.reduceEq, Int.reduceLT, Int.reduceLE]
  · have he : capF S thread l = (0, ⟨0, 0, 0, 0, 0⟩, (slotF S thread l).2) := by unfold capF; rw [if_neg c1]
    simp (disch := omega) only [hslot, c1, he, r0_find_Cap, r1_find_Cap, r2_find_Cap, r3_find_Cap, r4_find_Cap, r5_find_Cap, k3_find_Cap, k2_find_Cap, r6_find_Cap, k4_find_Cap, k1_find_Cap, k0_find_Cap, c_find_Cap, Z0, Z1, Z2, Z3, Z4, Z5, Z6, Z7, Z8, Z9, Z10, resAll, Nat.reduceAdd, Nat.reduceEqDiff, Nat.reduceLeDiff, Nat.reduceMul, ↓reduceIte, reduceCtorEq, Nat.reduceBEq, aoper, Nat.reduceLT, Int.reduceEq, Int.reduceLT, Int.reduceLE]
end Go.Proofs.YtidmcpkbcphpiaaGreat
namespace Go.Proofs.YtidmcpkbcphpiaaGreat
open Go Go.Hai
set_option maxRecDepth 20000
set_option linter.unusedSimpArgs false
set_option maxHeartbeats 8000000
attribute [local irreducible] Hai.Ends EndsR EndsO EndsD EndsX AHeap.grow
def r0_internal_stringslite_IndexByte : List AOper := [(.mk (some 4) none (.mv (.const (.int .i64 0))))]
def r1_internal_stringslite_IndexByte : List AOper := [(.mk (some 5) none (.mv (.tmp 0))), (.mk (some 6) none (.mv (.tmp 1))), (.mk (some 7) none (.idxB (.tmp 5) (.tmp 6))), (.mk (some 4) none (.mv (.tmp 7)))]
def k0_internal_stringslite_IndexByte : ACode := (.seq (.reg r1_internal_stringslite_IndexByte) .ret)
def c_internal_stringslite_IndexByte : ACode := (.seq (.reg r0_internal_stringslite_IndexByte) k0_internal_stringslite_IndexByte)
theorem e_internal_stringslite_IndexByte : ofProg Tryz.prog 238 = some ⟨8, [(.tmp 4)], c_internal_stringslite_IndexByte⟩ := by kernel_rfl
def r0_internal_stringslite_Index : List AOper := [(.mk (some 4) none (.mv (.const (.int .i64 0))))]
def r1_internal_stringslite_Index : List AOper := [(.mk (some 14) none (.mv (.tmp 1))), (.mk (some 15) none (.lenStr (.tmp 14))), (.mk (some 5) none (.mv (.tmp 15)))]
def r2_internal_stringslite_Index : List AOper := [(.mk (some 17) none (.mv (.tmp 5))), (.mk (some 18) none (.bin .eql (.tmp 17) (.const (.int .i64 0)))), (.mk (some 19) none (.mv (.tmp 18))), (.mk (some 20) (some (19, false)) (.mv (.tmp 1))), (.mk (some 21) (some (19, false)) (.mv (.tmp 0))), (.mk (some 22) (some (19, false)) (.bin .eql (.tmp 20) (.tmp 21))), (.mk (some 23) none (.pick (.tmp 19) (.const (.bool true)) (.tmp 22))), (.mk (some 16) none (.mv (.tmp 23)))]
def r3_internal_stringslite_Index : List AOper := [(.mk (some 4) none (.mv (.const (.int .i64 0))))]
def r4_internal_stringslite_Index : List AOper := [(.mk (some 25) none (.mv (.tmp 5))), (.mk (some 26) none (.bin .eql (.tmp 25) (.const (.int .i64 1)))), (.mk (some 24) none (.mv (.tmp 26)))]
def r5_internal_stringslite_Index : List AOper := [(.mk (some 27) none (.mv (.tmp 0))), (.mk (some 28) none (.mv (.tmp 1))), (.mk (some 29) none (.idxS (.tmp 28) (.const (.int .i64 0)))), (.mk (some 30) none (.call 238 [(.tmp 27), (.tmp 29)])), (.mk (some 4) none (.mv (.tmp 30)))]
def r6_internal_stringslite_Index : List AOper := [(.mk (some 32) none (.mv (.tmp 5))), (.mk (some 33) none (.mv (.tmp 0))), (.mk (some 34) none (.lenStr (.tmp 33))), (.mk (some 35) none (.bin .geq (.tmp 32) (.tmp 34))), (.mk (some 31) none (.mv (.tmp 35)))]
def r7_internal_stringslite_Index : List AOper := [(.mk (some 4) none (.mv (.const (.int .i64 (-1)))))]
def r8_internal_stringslite_Index : List AOper := [(.mk (some 37) none (.mv (.tmp 5))), (.mk (some 38) none .bad), (.mk (some 39) none (.bin .leq (.tmp 37) (.tmp 38))), (.mk (some 40) none (.mv (.tmp 39))), (.mk (some 41) (some (40, true)) (.mv (.tmp 0))), (.mk (some 42) (some (40, true)) (.lenStr (.tmp 41))), (.mk (some 43) (some (40, true)) (.bin .leq (.tmp 42) (.const (.int .i64 64)))), (.mk (some 44) none (.pick (.tmp 40) (.tmp 43) (.const (.bool false)))), (.mk (some 36) none (.mv (.tmp 44)))]
def r9_internal_stringslite_Index : List AOper := [(.mk (some 45) none (.mv (.tmp 0))), (.mk (some 46) none (.mv (.tmp 1))), (.mk (some 47) none (.call 239 [(.tmp 45), (.tmp 46)])), (.mk (some 4) none (.mv (.tmp 47)))]
def k5_internal_stringslite_Index : ACode := (.cond (.tmp 36) (.seq (.reg r9_internal_stringslite_Index) .ret) .skip)
def k4_internal_stringslite_Index : ACode := (.cond (.tmp 31) (.seq (.reg r7_internal_stringslite_Index) .ret) (.seq (.reg r8_internal_stringslite_Index) k5_internal_stringslite_Index))
def k3_internal_stringslite_Index : ACode := (.cond (.tmp 24) (.seq (.reg r5_internal_stringslite_Index) .ret) (.seq (.reg r6_internal_stringslite_Index) k4_internal_stringslite_Index))
def k2_internal_stringslite_Index : ACode := (.cond (.tmp 16) (.seq (.reg r3_internal_stringslite_Index) .ret) (.seq (.reg r4_internal_stringslite_Index) k3_internal_stringslite_Index))
def r10_internal_stringslite_Index : List AOper := [(.mk (some 48) none (.mv (.tmp 1))), (.mk (some 49) none (.idxS (.tmp 48) (.const (.int .i64 0)))), (.mk (some 6) none (.mv (.tmp 49)))]
def r11_internal_stringslite_Index : List AOper := [(.mk (some 50) none (.mv (.tmp 1))), (.mk (some 51) none (.idxS (.tmp 50) (.const (.int .i64 1)))), (.mk (some 7) none (.mv (.tmp 51)))]
def r12_internal_stringslite_Index : List AOper := [(.mk (some 8) none (.mv (.const (.int .i64 0))))]
def r13_internal_stringslite_Index : List AOper := [(.mk (some 52) none (.mv (.tmp 0))), (.mk (some 53) none (.lenStr (.tmp 52))), (.mk (some 54) none (.mv (.tmp 5))), (.mk (some 55) none (.bin .sub (.tmp 53) (.tmp 54))), (.mk (some 56) none (.bin .add (.tmp 55) (.const (.int .i64 1)))), (.mk (some 9) none (.mv (.tmp 56)))]
def r14_internal_stringslite_Index : List AOper := [(.mk (some 10) none (.mv (.const (.int .i64 0))))]
def r15_internal_stringslite_Index : List AOper := [(.mk (some 57) none (.mv (.tmp 8))), (.mk (some 58) none (.mv (.tmp 9))), (.mk (some 59) none (.bin .lss (.tmp 57) (.tmp 58)))]
def k12_internal_stringslite_Index : ACode := (.cond (.tmp 59) .skip (.exit 1))
def r16_internal_stringslite_Index : List AOper := [(.mk (some 60) none (.mv (.tmp 0))), (.mk (some 61) none (.mv (.tmp 8))), (.mk (some 62) none (.idxS (.tmp 60) (.tmp 61))), (.mk (some 63) none (.mv (.tmp 6))), (.mk (some 64) none (.bin .neq (.tmp 62) (.tmp 63)))]
def r17_internal_stringslite_Index : List AOper := [(.mk (some 65) none (.mv (.tmp 0))), (.mk (some 66) none (.mv (.tmp 8))), (.mk (some 67) none (.bin .add (.tmp 66) (.const (.int .i64 1)))), (.mk (some 68) none (.mv (.tmp 9))), (.mk (some 69) none (.slStr (.tmp 65) (some (.tmp 67)) (some (.tmp 68)))), (.mk (some 70) none (.mv (.tmp 6))), (.mk (some 71) none (.call 238 [(.tmp 69), (.tmp 70)])), (.mk (some 11) none (.mv (.tmp 71)))]
def r18_internal_stringslite_Index : List AOper := [(.mk (some 72) none (.mv (.tmp 11))), (.mk (some 73) none (.bin .lss (.tmp 72) (.const (.int .i64 0))))]
def r19_internal_stringslite_Index : List AOper := [(.mk (some 4) none (.mv (.const (.int .i64 (-1)))))]
def k16_internal_stringslite_Index : ACode := (.cond (.tmp 73) (.seq (.reg r19_internal_stringslite_Index) .ret) .skip)
def r20_internal_stringslite_Index : List AOper := [(.mk (some 74) none (.mv (.tmp 8))), (.mk (some 75) none (.mv (.tmp 11))), (.mk (some 76) none (.bin .add (.tmp 75) (.const (.int .i64 1)))), (.mk (some 77) none (.bin .add (.tmp 74) (.tmp 76))), (.mk (some 8) none (.mv (.tmp 77)))]
def k17_internal_stringslite_Index : ACode := (.reg r20_internal_stringslite_Index)
def k15_internal_stringslite_Index : ACode := (.seq (.seq (.reg r18_internal_stringslite_Index) k16_internal_stringslite_Index) k17_internal_stringslite_Index)
def k14_internal_stringslite_Index : ACode := (.cond (.tmp 64) (.seq (.reg r17_internal_stringslite_Index) k15_internal_stringslite_Index) .skip)
def r21_internal_stringslite_Index : List AOper := [(.mk (some 78) none (.mv (.tmp 0))), (.mk (some 79) none (.mv (.tmp 8))), (.mk (some 80) none (.bin .add (.tmp 79) (.const (.int .i64 1)))), (.mk (some 81) none (.idxS (.tmp 78) (.tmp 80))), (.mk (some 82) none (.mv (.tmp 7))), (.mk (some 83) none (.bin .eql (.tmp 81) (.tmp 82))), (.mk (some 84) none (.mv (.tmp 83))), (.mk (some 85) (some (84, true)) (.mv (.tmp 0))), (.mk (some 86) (some (84, true)) (.mv (.tmp 8))), (.mk (some 87) (some (84, true)) (.mv (.tmp 8))), (.mk (some 88) (some (84, true)) (.mv (.tmp 5))), (.mk (some 89) (some (84, true)) (.bin .add (.tmp 87) (.tmp 88))), (.mk (some 90) (some (84, true)) (.slStr (.tmp 85) (some (.tmp 86)) (some (.tmp 89)))), (.mk (some 91) (some (84, true)) (.mv (.tmp 1))), (.mk (some 92) (some (84, true)) (.bin .eql (.tmp 90) (.tmp 91))), (.mk (some 93) none (.pick (.tmp 84) (.tmp 92) (.const (.bool false))))]
def r22_internal_stringslite_Index : List AOper := [(.mk (some 94) none (.mv (.tmp 8))), (.mk (some 4) none (.mv (.tmp 94)))]
def k19_internal_stringslite_Index : ACode := (.cond (.tmp 93) (.seq (.reg r22_internal_stringslite_Index) .ret) .skip)
def r23_internal_stringslite_Index : List AOper := [(.mk (some 95) none (.mv (.tmp 8))), (.mk (some 96) none (.bin .add (.tmp 95) (.const (.int .i64 1)))), (.mk (some 8) none (.mv (.tmp 96)))]
def r24_internal_stringslite_Index : List AOper := [(.mk (some 97) none (.mv (.tmp 10))), (.mk (some 98) none (.bin .add (.tmp 97) (.const (.int .i64 1)))), (.mk (some 10) none (.mv (.tmp 98)))]
def r25_internal_stringslite_Index : List AOper := [(.mk (some 99) none (.mv (.tmp 5))), (.mk (some 100) none .bad), (.mk (some 101) none (.bin .leq (.tmp 99) (.tmp 100))), (.mk (some 102) none (.mv (.tmp 101))), (.mk (some 103) (some (102, true)) (.mv (.tmp 10))), (.mk (some 104) (some (102, true)) (.mv (.tmp 8))), (.mk (some 105) (some (102, true)) (.call 240 [(.tmp 104)])), (.mk (some 106) (some (102, true)) (.bin .gtr (.tmp 103) (.tmp 105))), (.mk (some 107) none (.pick (.tmp 102) (.tmp 106) (.const (.bool false))))]
def r26_internal_stringslite_Index : List AOper := [(.mk (some 108) none (.mv (.tmp 0))), (.mk (some 109) none (.mv (.tmp 8))), (.mk (some 110) none (.slStr (.tmp 108) (some (.tmp 109)) none)), (.mk (some 111) none (.mv (.tmp 1))), (.mk (some 112) none (.call 239 [(.tmp 110), (.tmp 111)])), (.mk (some 12) none (.mv (.tmp 112)))]
def r27_internal_stringslite_Index : List AOper := [(.mk (some 113) none (.mv (.tmp 12))), (.mk (some 114) none (.bin .geq (.tmp 113) (.const (.int .i64 0))))]
def r28_internal_stringslite_Index : List AOper := [(.mk (some 115) none (.mv (.tmp 12))), (.mk (some 116) none (.mv (.tmp 8))), (.mk (some 117) none (.bin .add (.tmp 115) (.tmp 116))), (.mk (some 4) none (.mv (.tmp 117)))]
def k25_internal_stringslite_Index : ACode := (.cond (.tmp 114) (.seq (.reg r28_internal_stringslite_Index) .ret) .skip)
def r29_internal_stringslite_Index : List AOper := [(.mk (some 4) none (.mv (.const (.int .i64 (-1)))))]
def k26_internal_stringslite_Index : ACode := (.seq (.reg r29_internal_stringslite_Index) .ret)
def k24_internal_stringslite_Index : ACode := (.seq (.seq (.reg r27_internal_stringslite_Index) k25_internal_stringslite_Index) k26_internal_stringslite_Index)
def r30_internal_stringslite_Index : List AOper := [(.mk (some 118) none (.mv (.tmp 5))), (.mk (some 119) none .bad), (.mk (some 120) none (.bin .gtr (.tmp 118) (.tmp 119))), (.mk (some 121) none (.mv (.tmp 120))), (.mk (some 122) (some (121, true)) (.mv (.tmp 10))), (.mk (some 123) (some (121, true)) (.mv (.tmp 8))), (.mk (some 124) (some (121, true)) (.bin .shr (.tmp 123) (.const (.int .u64 4)))), (.mk (some 125) (some (121, true)) (.bin .add (.const (.int .i64 4)) (.tmp 124))), (.mk (some 126) (some (121, true)) (.bin .geq (.tmp 122) (.tmp 125))), (.mk (some 127) none (.pick (.tmp 121) (.tmp 126) (.const (.bool false)))), (.mk (some 128) none (.mv (.tmp 127))), (.mk (some 129) (some (128, true)) (.mv (.tmp 8))), (.mk (some 130) (some (128, true)) (.mv (.tmp 9))), (.mk (some 131) (some (128, true)) (.bin .lss (.tmp 129) (.tmp 130))), (.mk (some 132) none (.pick (.tmp 128) (.tmp 131) (.const (.bool false))))]
def r31_internal_stringslite_Index : List AOper := [(.mk (some 133) none (.mv (.tmp 0))), (.mk (some 134) none (.mv (.tmp 8))), (.mk (some 135) none (.slStr (.tmp 133) (some (.tmp 134)) none)), (.mk (some 136) none (.mv (.tmp 1))), (.mk (some 137) none (.call 241 [(.tmp 135), (.tmp 136)])), (.mk (some 13) none (.mv (.tmp 137)))]
def r32_internal_stringslite_Index : List AOper := [(.mk (some 138) none (.mv (.tmp 13))), (.mk (some 139) none (.bin .lss (.tmp 138) (.const (.int .i64 0))))]
def r33_internal_stringslite_Index : List AOper := [(.mk (some 4) none (.mv (.const (.int .i64 (-1)))))]
def k29_internal_stringslite_Index : ACode := (.cond (.tmp 139) (.seq (.reg r33_internal_stringslite_Index) .ret) .skip)
def r34_internal_stringslite_Index : List AOper := [(.mk (some 140) none (.mv (.tmp 8))), (.mk (some 141) none (.mv (.tmp 13))), (.mk (some 142) none (.bin .add (.tmp 140) (.tmp 141))), (.mk (some 4) none (.mv (.tmp 142)))]
def k30_internal_stringslite_Index : ACode := (.seq (.reg r34_internal_stringslite_Index) .ret)
def k28_internal_stringslite_Index : ACode := (.seq (.seq (.reg r32_internal_stringslite_Index) k29_internal_stringslite_Index) k30_internal_stringslite_Index)
def k27_internal_stringslite_Index : ACode := (.cond (.tmp 132) (.seq (.reg r31_internal_stringslite_Index) k28_internal_stringslite_Index) .skip)
def k23_internal_stringslite_Index : ACode := (.cond (.tmp 107) (.seq (.reg r26_internal_stringslite_Index) k24_internal_stringslite_Index) (.seq (.reg r30_internal_stringslite_Index) k27_internal_stringslite_Index))
def k22_internal_stringslite_Index : ACode := (.seq (.reg r25_internal_stringslite_Index) k23_internal_stringslite_Index)
def k21_internal_stringslite_Index : ACode := (.seq (.reg r24_internal_stringslite_Index) k22_internal_stringslite_Index)
def k20_internal_stringslite_Index : ACode := (.seq (.reg r23_internal_stringslite_Index) k21_internal_stringslite_Index)
def k18_internal_stringslite_Index : ACode := (.seq (.seq (.reg r21_internal_stringslite_Index) k19_internal_stringslite_Index) k20_internal_stringslite_Index)
def k13_internal_stringslite_Index : ACode := (.block 2 (.seq (.seq (.reg r16_internal_stringslite_Index) k14_internal_stringslite_Index) k18_internal_stringslite_Index))
def b0_internal_stringslite_Index : ACode := (.seq (.seq (.reg r15_internal_stringslite_Index) k12_internal_stringslite_Index) k13_internal_stringslite_Index)
def r35_internal_stringslite_Index : List AOper := [(.mk (some 4) none (.mv (.const (.int .i64 (-1)))))]
def k31_internal_stringslite_Index : ACode := (.seq (.reg r35_internal_stringslite_Index) .ret)
def k11_internal_stringslite_Index : ACode := (.seq (.block 1 (.loop b0_internal_stringslite_Index)) k31_internal_stringslite_Index)
def k10_internal_stringslite_Index : ACode := (.seq (.reg r14_internal_stringslite_Index) k11_internal_stringslite_Index)
def k9_internal_stringslite_Index : ACode := (.seq (.reg r13_internal_stringslite_Index) k10_internal_stringslite_Index)
def k8_internal_stringslite_Index : ACode := (.seq (.reg r12_internal_stringslite_Index) k9_internal_stringslite_Index)
def k7_internal_stringslite_Index : ACode := (.seq (.reg r11_internal_stringslite_Index) k8_internal_stringslite_Index)
def k6_internal_stringslite_Index : ACode := (.seq (.reg r10_internal_stringslite_Index) k7_internal_stringslite_Index)
def k1_internal_stringslite_Index : ACode := (.seq (.block 0 (.seq (.reg r2_internal_stringslite_Index) k2_internal_stringslite_Index)) k6_internal_stringslite_Index)
def k0_internal_stringslite_Index : ACode := (.seq (.reg r1_internal_stringslite_Index) k1_internal_stringslite_Index)
def c_internal_stringslite_Index : ACode := (.seq (.reg r0_internal_stringslite_Index) k0_internal_stringslite_Index)
theorem e_internal_stringslite_Index : ofProg Tryz.prog 217 = some ⟨143, [(.tmp 4)], c_internal_stringslite_Index⟩ := by kernel_rfl
def r0_strings_Index : List AOper := [(.mk (some 4) none (.mv (.const (.int .i64 0))))]
def r1_strings_Index : List AOper := [(.mk (some 5) none (.mv (.tmp 0))), (.mk (some 6) none (.mv (.tmp 1))), (.mk (some 7) none (.call 217 [(.tmp 5), (.tmp 6)])), (.mk (some 4) none (.mv (.tmp 7)))]
def k0_strings_Index : ACode := (.seq (.reg r1_strings_Index) .ret)
def c_strings_Index : ACode := (.seq (.reg r0_strings_Index) k0_strings_Index)
theorem e_strings_Index : ofProg Tryz.prog 173 = some ⟨8, [(.tmp 4)], c_strings_Index⟩ := by kernel_rfl
def r0_strings_Contains : List AOper := [(.mk (some 4) none (.mv (.const (.bool false))))]
def r1_strings_Contains : List AOper := [(.mk (some 5) none (.mv (.tmp 0))), (.mk (some 6) none (.mv (.tmp 1))), (.mk (some 7) none (.call 173 [(.tmp 5), (.tmp 6)])), (.mk (some 8) none (.bin .geq (.tmp 7) (.const (.int .i64 0)))), (.mk (some 4) none (.mv (.tmp 8)))]
def k0_strings_Contains : ACode := (.seq (.reg r1_strings_Contains) .ret)
def c_strings_Contains : ACode := (.seq (.reg r0_strings_Contains) k0_strings_Contains)
theorem e_strings_Contains : ofProg Tryz.prog 108 = some ⟨9, [(.tmp 4)], c_strings_Contains⟩ := by kernel_rfl

theorem bin_eqlS {a b : ByteArray} : abinA .eql (.string a) (.string b) = some (.bool (a.toList == b.toList)) := rfl
theorem bin_neqS {a b : ByteArray} : abinA .neq (.string a) (.string b) = some (.bool (!(a.toList == b.toList))) := rfl
def lenStQ (x : Value) (σ : AHeap) (K : Kt) : Prop := match x with | .string s => K (.int .i64 s.size) σ | _ => False
theorem lenStQ_s {s : ByteArray} {σ : AHeap} {K : Kt} : lenStQ (.string s) σ K = K (.int .i64 s.size) σ := rfl
theorem o_lenStr {σ : AHeap} {t : Tmps} {K : Kt} {x : Operand} : EndsO (aop σ t (.lenStr x)) K = lenStQ (ev t x) σ K := by
  simp only [aop, lenStQ]
  cases ev t x <;> simp [EndsO]
def idxSO (x i : Value) : Option Value := match x, i with
  | .string s, .int _ i => if 0 ≤ i then (match s[i.toNat]? with | some c => some (.int .u8 c.toNat) | none => none) else none
  | _, _ => none
theorem o_idxS {σ : AHeap} {t : Tmps} {K : Kt} {x i : Operand} : EndsO (aop σ t (.idxS x i)) K = valQ (idxSO (ev t x) (ev t i)) σ K := by
  simp only [aop, idxSO]
  cases ev t x with
  | string s => cases ev t i with
    | int k z =>
      simp only
      by_cases h : 0 ≤ z
      · simp only [if_pos h]
        cases s[z.toNat]? <;> simp [EndsO, valQ]
      · simp only [if_neg h]; simp [EndsO, valQ]
    | _ => simp [EndsO, valQ]
  | _ => simp [EndsO, valQ]
def idxBO (x c : Value) : Option Value := match x, c with
  | .string s, .int .u8 c => some (.int .i64 (firstIdx s c.toNat.toUInt8))
  | _, _ => none
theorem o_idxB {σ : AHeap} {t : Tmps} {K : Kt} {x i : Operand} : EndsO (aop σ t (.idxB x i)) K = valQ (idxBO (ev t x) (ev t i)) σ K := by
  simp only [aop, idxBO]
  cases ev t x with
  | string s => cases ev t i with
    | int k z => cases k <;> simp [EndsO, valQ]
    | _ => simp [EndsO, valQ]
  | _ => simp [EndsO, valQ]
def slSO (x : Value) (lo hi : Option Value) : Option Value := match x with
  | .string s => match bound hi s.size s.size with
    | some h => (match bound lo 0 h with | some k => some (.string (s.extract k h)) | none => none)
    | none => none
  | _ => none
theorem o_slStr {σ : AHeap} {t : Tmps} {K : Kt} {x : Operand} {lo hi : Option Operand} : EndsO (aop σ t (.slStr x lo hi)) K = valQ (slSO (ev t x) (lo.map (ev t)) (hi.map (ev t))) σ K := by
  simp only [aop, slSO]
  cases ev t x with
  | string s =>
    simp only
    cases bound (hi.map (ev t)) s.size s.size with
    | none => simp [EndsO, valQ]
    | some h =>
      simp only
      cases bound (lo.map (ev t)) 0 h <;> simp [EndsO, valQ]
  | _ => simp [EndsO, valQ]
abbrev one8 (c : UInt8) : ByteArray := ⟨#[c]⟩
theorem IndexByte_ok (d : Nat) (σ : AHeap) (s : ByteArray) (c : Int) : acall (ofProg Tryz.prog) 1000 (d + 1) 238 [.string s, .int .u8 c] σ = some (i64 (firstIdx s c.toNat.toUInt8), σ) := by
  refine acall_flat e_internal_stringslite_IndexByte (by simp) rfl ?_
  have h : idxBO (.string s) (.int .u8 c) = some (i64 (firstIdx s c.toNat.toUInt8)) := rfl
  simp (disch := omega) only [o_idxB, h, r0_internal_stringslite_IndexByte, r1_internal_stringslite_IndexByte, k0_internal_stringslite_IndexByte, c_internal_stringslite_IndexByte, Z0, Z1, Z2, Z3, Z4, Z5, Z6, Z7, Z8, Z9, Z10, resAll, Nat.reduceAdd, Nat.reduceEqDiff, Nat.reduceLeDiff, Nat.reduceMul, ↓reduceIte, reduceCtorEq, Nat.reduceBEq, aoper, Nat.reduceLT, Int.reduceEq, Int.reduceLT, Int.reduceLE]
theorem Index_ok (d : Nat) (σ : AHeap) (s : ByteArray) (c : UInt8) (hs : ((one8 c).toList == s.toList) = false) : acall (ofProg Tryz.prog) 1000 (d + 2) 217 [.string s, .string (one8 c)] σ = some (i64 (firstIdx s c), σ) := by
  refine acall_flat e_internal_stringslite_Index (by simp) rfl ?_
  have h1 : (((one8 c).size : Nat) : Int) = 1 := rfl
  have h2 : idxSO (.string (one8 c)) (.int .i64 0) = some (.int .u8 c.toNat) := rfl
  have h3 : ((c.toNat : Int).toNat).toUInt8 = c := by simp
  simp (disch := omega) only [o_lenStr, lenStQ_s, o_idxS, bin_eqlS, h1, h2, h3, hs, IndexByte_ok, r0_internal_stringslite_Index, r1_internal_stringslite_Index, r2_internal_stringslite_Index, r3_internal_stringslite_Index, r4_internal_stringslite_Index, r5_internal_stringslite_Index, r6_internal_stringslite_Index, r7_internal_stringslite_Index, r8_internal_stringslite_Index, r9_internal_stringslite_Index, k5_internal_stringslite_Index, k4_internal_stringslite_Index, k3_internal_stringslite_Index, k2_internal_stringslite_Index, r10_internal_stringslite_Index, r11_internal_stringslite_Index, r12_internal_stringslite_Index, r13_internal_stringslite_Index, r14_internal_stringslite_Index, r15_internal_stringslite_Index, k12_internal_stringslite_Index, r16_internal_stringslite_Index, r17_internal_stringslite_Index, r18_internal_stringslite_Index, r19_internal_stringslite_Index, k16_internal_stringslite_Index, r20_internal_stringslite_Index, k17_internal_stringslite_Index, k15_internal_stringslite_Index, k14_internal_stringslite_Index, r21_internal_stringslite_Index, r22_internal_stringslite_Index, k19_internal_stringslite_Index, r23_internal_stringslite_Index, r24_internal_stringslite_Index, r25_internal_stringslite_Index, r26_internal_stringslite_Index, r27_internal_stringslite_Index, r28_internal_stringslite_Index, k25_internal_stringslite_Index, r29_internal_stringslite_Index, k26_internal_stringslite_Index, k24_internal_stringslite_Index, r30_internal_stringslite_Index, r31_internal_stringslite_Index, r32_internal_stringslite_Index, r33_internal_stringslite_Index, k29_internal_stringslite_Index, r34_internal_stringslite_Index, k30_internal_stringslite_Index, k28_internal_stringslite_Index, k27_internal_stringslite_Index, k23_internal_stringslite_Index, k22_internal_stringslite_Index, k21_internal_stringslite_Index, k20_internal_stringslite_Index, k18_internal_stringslite_Index, k13_internal_stringslite_Index, r35_internal_stringslite_Index, k31_internal_stringslite_Index, k11_internal_stringslite_Index, k10_internal_stringslite_Index, k9_internal_stringslite_Index, k8_internal_stringslite_Index, k7_internal_stringslite_Index, k6_internal_stringslite_Index, k1_internal_stringslite_Index, k0_internal_stringslite_Index, c_internal_stringslite_Index, Z0, Z1, Z2, Z3, Z4, Z5, Z6, Z7, Z8, Z9, Z10, resAll, Nat.reduceAdd, Nat.reduceEqDiff, Nat.reduceLeDiff, Nat.reduceMul, ↓reduceIte, reduceCtorEq, Nat.reduceBEq, aoper, Nat.reduceLT, Int.reduceEq, Int.reduceLT, Int.reduceLE]
theorem Contains_ok (d : Nat) (σ : AHeap) (s : ByteArray) (c : UInt8) (hs : ((one8 c).toList == s.toList) = false) : acall (ofProg Tryz.prog) 1000 (d + 4) 108 [.string s, .string (one8 c)] σ = some (.bool (decide (0 ≤ firstIdx s c)), σ) := by
  have hx : ∀ τ, acall (ofProg Tryz.prog) 1000 (d + 3) 173 [.string s, .string (one8 c)] τ = some (i64 (firstIdx s c), τ) := fun τ => by
    refine acall_flat e_strings_Index (by simp) rfl ?_
    have hi := fun L => Index_ok d (τ.fresh.grow L) s c hs
    simp (disch := omega) only [hi, r0_strings_Index, r1_strings_Index, k0_strings_Index, c_strings_Index, Z0, Z1, Z2, Z3, Z4, Z5, Z6, Z7, Z8, Z9, Z10, resAll, Nat.reduceAdd, Nat.reduceEqDiff, Nat.reduceLeDiff, Nat.reduceMul, ↓reduceIte, reduceCtorEq, Nat.reduceBEq, aoper, Nat.reduceLT, Int.reduceEq, Int.reduceLT, Int.reduceLE]
  refine acall_flat e_strings_Contains (by simp) rfl ?_
  simp (disch := omega) only [hx, r0_strings_Contains, r1_strings_Contains, k0_strings_Contains, c_strings_Contains, Z0, Z1, Z2, Z3, Z4, Z5, Z6, Z7, Z8, Z9, Z10, resAll, Nat.reduceAdd, Nat.reduceEqDiff, Nat.reduceLeDiff, Nat.reduceMul, ↓reduceIte, reduceCtorEq, Nat.reduceBEq, aoper, Nat.reduceLT, Int.reduceEq, Int.reduceLT, Int.reduceLE]
end Go.Proofs.YtidmcpkbcphpiaaGreat
namespace Go.Proofs.YtidmcpkbcphpiaaGreat
open Go Go.Hai
set_option maxRecDepth 20000
set_option linter.unusedSimpArgs false
set_option maxHeartbeats 8000000
attribute [local irreducible] Hai.Ends EndsR EndsO EndsD EndsX AHeap.grow
def r0_internal_stringslite_Cut : List AOper := [(.mk (some 4) none (.mv (.const (.string ⟨#[]⟩)))), (.mk (some 5) none (.mv (.const (.string ⟨#[]⟩)))), (.mk (some 6) none (.mv (.const (.bool false))))]
def r1_internal_stringslite_Cut : List AOper := [(.mk (some 8) none (.mv (.tmp 0))), (.mk (some 9) none (.mv (.tmp 1))), (.mk (some 10) none (.call 217 [(.tmp 8), (.tmp 9)])), (.mk (some 7) none (.mv (.tmp 10)))]
def r2_internal_stringslite_Cut : List AOper := [(.mk (some 11) none (.mv (.tmp 7))), (.mk (some 12) none (.bin .geq (.tmp 11) (.const (.int .i64 0))))]
def r3_internal_stringslite_Cut : List AOper := [(.mk (some 13) none (.mv (.tmp 0))), (.mk (some 14) none (.mv (.tmp 7))), (.mk (some 15) none (.slStr (.tmp 13) none (some (.tmp 14)))), (.mk (some 16) none (.mv (.tmp 0))), (.mk (some 17) none (.mv (.tmp 7))), (.mk (some 18) none (.mv (.tmp 1))), (.mk (some 19) none (.lenStr (.tmp 18))), (.mk (some 20) none (.bin .add (.tmp 17) (.tmp 19))), (.mk (some 21) none (.slStr (.tmp 16) (some (.tmp 20)) none)), (.mk (some 4) none (.mv (.tmp 15))), (.mk (some 5) none (.mv (.tmp 21))), (.mk (some 6) none (.mv (.const (.bool true))))]
def k2_internal_stringslite_Cut : ACode := (.cond (.tmp 12) (.seq (.drw r3_internal_stringslite_Cut [0, 0, 3, 0, 0, 0, 32, 112, 248, 7, 1023, 2047]) .ret) .skip)
def k1_internal_stringslite_Cut : ACode := (.seq (.reg r2_internal_stringslite_Cut) k2_internal_stringslite_Cut)
def r4_internal_stringslite_Cut : List AOper := [(.mk (some 22) none (.mv (.tmp 0))), (.mk (some 4) none (.mv (.tmp 22))), (.mk (some 5) none (.mv (.const (.string ⟨#[]⟩)))), (.mk (some 6) none (.mv (.const (.bool false))))]
def k3_internal_stringslite_Cut : ACode := (.seq (.reg r4_internal_stringslite_Cut) .ret)
def k0_internal_stringslite_Cut : ACode := (.seq (.seq (.reg r1_internal_stringslite_Cut) k1_internal_stringslite_Cut) k3_internal_stringslite_Cut)
def c_internal_stringslite_Cut : ACode := (.seq (.reg r0_internal_stringslite_Cut) k0_internal_stringslite_Cut)
theorem e_internal_stringslite_Cut : ofProg Tryz.prog 216 = some ⟨23, [(.tmp 4), (.tmp 5), (.tmp 6)], c_internal_stringslite_Cut⟩ := by kernel_rfl
def r0_strings_Cut : List AOper := [(.mk (some 4) none (.mv (.const (.string ⟨#[]⟩)))), (.mk (some 5) none (.mv (.const (.string ⟨#[]⟩)))), (.mk (some 6) none (.mv (.const (.bool false))))]
def r1_strings_Cut : List AOper := [(.mk (some 7) none (.mv (.tmp 0))), (.mk (some 8) none (.mv (.tmp 1))), (.mk (some 9) none (.call 216 [(.tmp 7), (.tmp 8)])), (.mk (some 10) none (.ext (.tmp 9) 0)), (.mk (some 11) none (.ext (.tmp 9) 1)), (.mk (some 12) none (.ext (.tmp 9) 2)), (.mk (some 4) none (.mv (.tmp 10))), (.mk (some 5) none (.mv (.tmp 11))), (.mk (some 6) none (.mv (.tmp 12)))]
def k0_strings_Cut : ACode := (.seq (.reg r1_strings_Cut) .ret)
def c_strings_Cut : ACode := (.seq (.reg r0_strings_Cut) k0_strings_Cut)
theorem e_strings_Cut : ofProg Tryz.prog 172 = some ⟨13, [(.tmp 4), (.tmp 5), (.tmp 6)], c_strings_Cut⟩ := by kernel_rfl
def r0_call_fields : List AOper := [(.mk (some 2) none (.mv (.const (.string ⟨#[]⟩)))), (.mk (some 3) none (.mv (.const (.string ⟨#[]⟩))))]
def r1_call_fields : List AOper := [(.mk (some 5) none (.buildSl [(.string ⟨#[]⟩), (.string ⟨#[]⟩), (.string ⟨#[]⟩), (.string ⟨#[]⟩), (.string ⟨#[]⟩), (.string ⟨#[]⟩), (.string ⟨#[]⟩), (.string ⟨#[]⟩), (.string ⟨#[]⟩), (.string ⟨#[]⟩), (.string ⟨#[]⟩), (.string ⟨#[]⟩), (.string ⟨#[]⟩), (.string ⟨#[]⟩)] 1 14 [(0, (1, (.const (.string ⟨#[]⟩)))), (1, (1, (.const (.string ⟨#[109, 97, 107, 101, 32, 65, 66, 88, 89]⟩)))), (2, (1, (.const (.string ⟨#[99, 111, 112, 121, 32, 65, 66, 88]⟩)))), (3, (1, (.const (.string ⟨#[109, 105, 110, 116, 32, 65, 66, 88, 89]⟩)))), (4, (1, (.const (.string ⟨#[109, 111, 118, 101, 32, 65, 66]⟩)))), (5, (1, (.const (.string ⟨#[100, 101, 108, 101, 116, 101, 32, 65]⟩)))), (6, (1, (.const (.string ⟨#[114, 101, 118, 111, 107, 101, 32, 65]⟩)))), (7, (1, (.const (.string ⟨#[115, 101, 110, 100, 32, 65, 98, 87]⟩)))), (8, (1, (.const (.string ⟨#[114, 101, 99, 118, 32, 65, 98]⟩)))), (9, (1, (.const (.string ⟨#[114, 105, 110, 103, 32, 65]⟩)))), (10, (1, (.const (.string ⟨#[112, 111, 108, 108, 32, 65]⟩)))), (11, (1, (.const (.string ⟨#[119, 114, 105, 116, 101, 32, 65, 88, 87]⟩)))), (12, (1, (.const (.string ⟨#[114, 101, 97, 100, 32, 65, 88]⟩)))), (13, (1, (.const (.string ⟨#[116, 101, 108, 108, 32, 65]⟩))))])), (.mk (some 4) none (.mv (.tmp 5)))]
def r2_call_fields : List AOper := [(.mk (some 6) none (.mv (.tmp 0))), (.mk (some 7) none (.bin .lss (.tmp 6) (.const (.int .i64 1)))), (.mk (some 8) none (.mv (.tmp 7))), (.mk (some 9) (some (8, false)) (.mv (.tmp 0))), (.mk (some 10) (some (8, false)) (.bin .gtr (.tmp 9) (.const (.int .i64 13)))), (.mk (some 11) none (.pick (.tmp 8) (.const (.bool true)) (.tmp 10)))]
def r3_call_fields : List AOper := [(.mk (some 2) none (.mv (.const (.string ⟨#[]⟩)))), (.mk (some 3) none (.mv (.const (.string ⟨#[]⟩))))]
def k2_call_fields : ACode := (.cond (.tmp 11) (.seq (.reg r3_call_fields) .ret) .skip)
def r4_call_fields : List AOper := [(.mk (some 13) none (.mv (.tmp 4))), (.mk (some 14) none (.mv (.tmp 0))), (.mk (some 15) none (.idxA 1 (.tmp 13) (.tmp 14))), (.mk (some 16) none (.load false 1 (.tmp 15))), (.mk (some 17) none (.call 172 [(.tmp 16), (.const (.string ⟨#[32]⟩))])), (.mk (some 12) none (.mv (.tmp 17))), (.mk (some 18) none (.ext (.tmp 12) 0)), (.mk (some 19) none (.ext (.tmp 12) 1)), (.mk (some 20) none (.ext (.tmp 12) 2)), (.mk (some 2) none (.mv (.tmp 18))), (.mk (some 3) none (.mv (.tmp 19)))]
def r5_call_fields : List AOper := [(.mk (some 21) none (.mv (.tmp 2))), (.mk (some 22) none (.mv (.tmp 3))), (.mk (some 2) none (.mv (.tmp 21))), (.mk (some 3) none (.mv (.tmp 22)))]
def k4_call_fields : ACode := (.seq (.reg r5_call_fields) .ret)
def k3_call_fields : ACode := (.seq (.reg r4_call_fields) k4_call_fields)
def k1_call_fields : ACode := (.seq (.seq (.reg r2_call_fields) k2_call_fields) k3_call_fields)
def k0_call_fields : ACode := (.seq (.reg r1_call_fields) k1_call_fields)
def c_call_fields : ACode := (.seq (.reg r0_call_fields) k0_call_fields)
theorem e_call_fields : ofProg Tryz.prog 107 = some ⟨23, [(.tmp 2), (.tmp 3)], c_call_fields⟩ := by kernel_rfl
def r0_call_numbers : List AOper := [(.mk (some 1) none (.box 6 (.tmp 0))), (.mk (some 2) none (.mv (.const (.bool false))))]
def r1_call_numbers : List AOper := [(.mk (some 3) none (.fldA 0 (.tmp 1))), (.mk (some 4) none (.load false 1 (.tmp 3)))]
def r2_call_numbers : List AOper := [(.mk (some 6) none (.bin .eql (.tmp 4) (.const (.int .i64 1)))), (.mk (some 5) none (.mv (.tmp 6)))]
def r3_call_numbers : List AOper := [(.mk (some 7) none (.fldA 3 (.tmp 1))), (.mk (some 8) none (.load false 1 (.tmp 7))), (.mk (some 9) none (.call 175 [(.tmp 8), (.const (.int .i64 1)), (.const (.int .i64 5))])), (.mk (some 10) none (.mv (.tmp 9))), (.mk (some 11) (some (10, true)) (.fldA 4 (.tmp 1))), (.mk (some 12) (some (10, true)) (.load false 1 (.tmp 11))), (.mk (some 13) (some (10, true)) (.call 175 [(.tmp 12), (.const (.int .i64 0)), (.const (.int .i64 4096))])), (.mk (some 14) none (.pick (.tmp 10) (.tmp 13) (.const (.bool false)))), (.mk (some 2) none (.mv (.tmp 14)))]
def r4_call_numbers : List AOper := [(.mk (some 16) none (.bin .eql (.tmp 4) (.const (.int .i64 2)))), (.mk (some 15) none (.mv (.tmp 16)))]
def r5_call_numbers : List AOper := [(.mk (some 17) none (.fldA 3 (.tmp 1))), (.mk (some 18) none (.load false 1 (.tmp 17))), (.mk (some 19) none (.call 176 [(.tmp 18)])), (.mk (some 20) none (.mv (.tmp 19))), (.mk (some 21) (some (20, true)) (.fldA 4 (.tmp 1))), (.mk (some 22) (some (20, true)) (.load false 1 (.tmp 21))), (.mk (some 23) (some (20, true)) (.bin .eql (.tmp 22) (.const (.int .i64 0)))), (.mk (some 24) none (.pick (.tmp 20) (.tmp 23) (.const (.bool false)))), (.mk (some 2) none (.mv (.tmp 24)))]
def r6_call_numbers : List AOper := [(.mk (some 26) none (.bin .eql (.tmp 4) (.const (.int .i64 3)))), (.mk (some 25) none (.mv (.tmp 26)))]
def r7_call_numbers : List AOper := [(.mk (some 27) none (.fldA 3 (.tmp 1))), (.mk (some 28) none (.load false 1 (.tmp 27))), (.mk (some 29) none (.call 176 [(.tmp 28)])), (.mk (some 30) none (.mv (.tmp 29))), (.mk (some 31) (some (30, true)) (.fldA 4 (.tmp 1))), (.mk (some 32) (some (30, true)) (.load false 1 (.tmp 31))), (.mk (some 33) (some (30, true)) (.call 175 [(.tmp 32), (.const (.int .i64 1)), (.const (.int .i64 65535))])), (.mk (some 34) none (.pick (.tmp 30) (.tmp 33) (.const (.bool false)))), (.mk (some 2) none (.mv (.tmp 34)))]
def r8_call_numbers : List AOper := [(.mk (some 36) none (.bin .eql (.tmp 4) (.const (.int .i64 11)))), (.mk (some 35) none (.mv (.tmp 36)))]
def r9_call_numbers : List AOper := [(.mk (some 37) none (.bin .eql (.tmp 4) (.const (.int .i64 12)))), (.mk (some 35) none (.mv (.tmp 37)))]
def k5_call_numbers : ACode := (.cond (.tmp 35) .skip (.reg r9_call_numbers))
def r10_call_numbers : List AOper := [(.mk (some 38) none (.fldA 3 (.tmp 1))), (.mk (some 39) none (.load false 1 (.tmp 38))), (.mk (some 40) none (.call 175 [(.tmp 39), (.const (.int .i64 0)), (.const (.int .i64 3))])), (.mk (some 41) none (.mv (.tmp 40))), (.mk (some 42) (some (41, true)) (.fldA 4 (.tmp 1))), (.mk (some 43) (some (41, true)) (.load false 1 (.tmp 42))), (.mk (some 44) (some (41, true)) (.bin .eql (.tmp 43) (.const (.int .i64 0)))), (.mk (some 45) none (.pick (.tmp 41) (.tmp 44) (.const (.bool false)))), (.mk (some 2) none (.mv (.tmp 45)))]
def k6_call_numbers : ACode := (.cond (.tmp 35) (.seq (.reg r10_call_numbers) .ret) .skip)
def k4_call_numbers : ACode := (.cond (.tmp 25) (.seq (.reg r7_call_numbers) .ret) (.seq (.seq (.reg r8_call_numbers) k5_call_numbers) k6_call_numbers))
def k3_call_numbers : ACode := (.cond (.tmp 15) (.seq (.reg r5_call_numbers) .ret) (.seq (.reg r6_call_numbers) k4_call_numbers))
def k2_call_numbers : ACode := (.cond (.tmp 5) (.seq (.reg r3_call_numbers) .ret) (.seq (.reg r4_call_numbers) k3_call_numbers))
def k1_call_numbers : ACode := (.block 0 (.seq (.reg r2_call_numbers) k2_call_numbers))
def r11_call_numbers : List AOper := [(.mk (some 46) none (.fldA 3 (.tmp 1))), (.mk (some 47) none (.load false 1 (.tmp 46))), (.mk (some 48) none (.bin .eql (.tmp 47) (.const (.int .i64 0)))), (.mk (some 49) none (.mv (.tmp 48))), (.mk (some 50) (some (49, true)) (.fldA 4 (.tmp 1))), (.mk (some 51) (some (49, true)) (.load false 1 (.tmp 50))), (.mk (some 52) (some (49, true)) (.bin .eql (.tmp 51) (.const (.int .i64 0)))), (.mk (some 53) none (.pick (.tmp 49) (.tmp 52) (.const (.bool false)))), (.mk (some 2) none (.mv (.tmp 53)))]
def k7_call_numbers : ACode := (.seq (.reg r11_call_numbers) .ret)
def k0_call_numbers : ACode := (.seq (.seq (.reg r1_call_numbers) k1_call_numbers) k7_call_numbers)
def c_call_numbers : ACode := (.seq (.reg r0_call_numbers) k0_call_numbers)
theorem e_call_numbers : ofProg Tryz.prog 110 = some ⟨54, [(.tmp 2)], c_call_numbers⟩ := by kernel_rfl
def r0_call_Good : List AOper := [(.mk (some 1) none (.box 6 (.tmp 0))), (.mk (some 2) none (.mv (.const (.bool false))))]
def r1_call_Good : List AOper := [(.mk (some 7) none (.fldA 0 (.tmp 1))), (.mk (some 8) none (.load false 1 (.tmp 7))), (.mk (some 9) none (.call 107 [(.tmp 8)])), (.mk (some 6) none (.mv (.tmp 9))), (.mk (some 10) none (.ext (.tmp 6) 0)), (.mk (some 11) none (.ext (.tmp 6) 1)), (.mk (some 3) none (.mv (.tmp 10))), (.mk (some 4) none (.mv (.tmp 11)))]
def r2_call_Good : List AOper := [(.mk (some 12) none (.fldA 2 (.tmp 1))), (.mk (some 13) none (.fldA 0 (.tmp 12))), (.mk (some 14) none (.load false 1 (.tmp 13))), (.mk (some 15) none (.lenS (.tmp 14))), (.mk (some 16) none (.bin .eql (.tmp 15) (.const (.int .i64 0)))), (.mk (some 17) none (.mv (.tmp 16))), (.mk (some 18) (some (17, true)) (.mv (.tmp 4))), (.mk (some 19) (some (17, true)) (.call 108 [(.tmp 18), (.const (.string ⟨#[66]⟩))])), (.mk (some 20) (some (17, true)) (.un .not (.tmp 19))), (.mk (some 21) none (.pick (.tmp 17) (.tmp 20) (.const (.bool false)))), (.mk (some 22) none (.mv (.tmp 21))), (.mk (some 23) (some (22, false)) (.fldA 2 (.tmp 1))), (.mk (some 24) (some (22, false)) (.load true 1 (.tmp 23))), (.mk (some 25) (some (22, false)) (.call 87 [(.tmp 24)])), (.mk (some 26) (some (22, false)) (.mv (.tmp 25))), (.mk (some 27) (some (26, true)) (.mv (.tmp 4))), (.mk (some 28) (some (26, true)) (.call 109 [(.tmp 27), (.const (.string ⟨#[66, 98]⟩))])), (.mk (some 29) (some (22, false)) (.pick (.tmp 26) (.tmp 28) (.const (.bool false)))), (.mk (some 30) none (.pick (.tmp 22) (.const (.bool true)) (.tmp 29))), (.mk (some 5) none (.mv (.tmp 30)))]
def r3_call_Good : List AOper := [(.mk (some 31) none (.mv (.tmp 4))), (.mk (some 32) none (.bin .neq (.tmp 31) (.const (.string ⟨#[]⟩)))), (.mk (some 33) none (.mv (.tmp 32))), (.mk (some 34) (some (33, true)) (.fldA 1 (.tmp 1))), (.mk (some 35) (some (33, true)) (.load true 1 (.tmp 34))), (.mk (some 36) (some (33, true)) (.call 87 [(.tmp 35)])), (.mk (some 37) none (.pick (.tmp 33) (.tmp 36) (.const (.bool false)))), (.mk (some 38) none (.mv (.tmp 37))), (.mk (some 39) (some (38, true)) (.mv (.tmp 5))), (.mk (some 40) none (.pick (.tmp 38) (.tmp 39) (.const (.bool false)))), (.mk (some 41) none (.mv (.tmp 40))), (.mk (some 42) (some (41, true)) (.load true 6 (.tmp 1))), (.mk (some 43) (some (41, true)) (.call 110 [(.tmp 42)])), (.mk (some 44) none (.pick (.tmp 41) (.tmp 43) (.const (.bool false)))), (.mk (some 45) none (.mv (.tmp 44))), (.mk (some 46) (some (45, true)) (.fldA 5 (.tmp 1))), (.mk (some 47) (some (45, true)) (.load false 1 (.tmp 46))), (.mk (some 48) (some (45, true)) (.bin .eql (.tmp 47) (.const (.int .u64 0)))), (.mk (some 49) (some (45, true)) (.mv (.tmp 48))), (.mk (some 50) (some (49, false)) (.mv (.tmp 4))), (.mk (some 51) (some (49, false)) (.call 108 [(.tmp 50), (.const (.string ⟨#[87]⟩))])), (.mk (some 52) (some (45, true)) (.pick (.tmp 49) (.const (.bool true)) (.tmp 51))), (.mk (some 53) none (.pick (.tmp 45) (.tmp 52) (.const (.bool false)))), (.mk (some 2) none (.mv (.tmp 53)))]
def k2_call_Good : ACode := (.seq (.reg r3_call_Good) .ret)
def k1_call_Good : ACode := (.seq (.reg r2_call_Good) k2_call_Good)
def k0_call_Good : ACode := (.seq (.reg r1_call_Good) k1_call_Good)
def c_call_Good : ACode := (.seq (.reg r0_call_Good) k0_call_Good)
theorem e_call_Good : ofProg Tryz.prog 47 = some ⟨54, [(.tmp 2)], c_call_Good⟩ := by kernel_rfl

theorem Cut1_ok (d : Nat) (σ : AHeap) (s b a : ByteArray) (i : Int) (hs : ((one8 32).toList == s.toList) = false) (hi : firstIdx s 32 = i) (h0 : 0 ≤ i) (h1 : i ≤ 1000)
    (hb : slSO (.string s) none (some (i64 i)) = some (.string b)) (ha : slSO (.string s) (some (i64 (i + 1))) none = some (.string a)) :
    acall (ofProg Tryz.prog) 1000 (d + 3) 216 [.string s, .string (one8 32)] σ = some (.tuple [.string b, .string a, .bool true].toArray, σ) := by
  refine acall_flat e_internal_stringslite_Cut (by simp) rfl ?_
  have hx := fun L => Index_ok d (σ.fresh.grow L) s 32 hs
  have h2 : (((one8 32).size : Nat) : Int) = 1 := rfl
  simp (disch := omega) only [hx, hi, h0, r0_internal_stringslite_Cut, r1_internal_stringslite_Cut, r2_internal_stringslite_Cut, r3_internal_stringslite_Cut, k2_internal_stringslite_Cut, k1_internal_stringslite_Cut, r4_internal_stringslite_Cut, k3_internal_stringslite_Cut, k0_internal_stringslite_Cut, c_internal_stringslite_Cut, Z0, Z1, Z2, Z3, Z4, Z5, Z6, Z7, Z8, Z9, Z10, resAll, Nat.reduceAdd, Nat.reduceEqDiff, Nat.reduceLeDiff, Nat.reduceMul, ↓reduceIte, reduceCtorEq, Nat.reduceBEq, aoper, Nat.reduceLT, Int.reduceEq, Int.reduceLT, Int.reduceLE]
  refine ends_drw ?_
  simp (disch := omega) only [o_slStr, o_lenStr, lenStQ_s, h2, Option.map_some, Option.map_none, hb, ha, r0_internal_stringslite_Cut, r1_internal_stringslite_Cut, r2_internal_stringslite_Cut, r3_internal_stringslite_Cut, k2_internal_stringslite_Cut, k1_internal_stringslite_Cut, r4_internal_stringslite_Cut, k3_internal_stringslite_Cut, k0_internal_stringslite_Cut, c_internal_stringslite_Cut, Z0, Z1, Z2, Z3, Z4, Z5, Z6, Z7, Z8, Z9, Z10, resAll, Nat.reduceAdd, Nat.reduceEqDiff, Nat.reduceLeDiff, Nat.reduceMul, ↓reduceIte, reduceCtorEq, Nat.reduceBEq, aoper, Nat.reduceLT, Int.reduceEq, Int.reduceLT, Int.reduceLE]
theorem Cut_ok (d : Nat) (σ : AHeap) (s b a : ByteArray) (i : Int) (hs : ((one8 32).toList == s.toList) = false) (hi : firstIdx s 32 = i) (h0 : 0 ≤ i) (h1 : i ≤ 1000)
    (hb : slSO (.string s) none (some (i64 i)) = some (.string b)) (ha : slSO (.string s) (some (i64 (i + 1))) none = some (.string a)) :
    acall (ofProg Tryz.prog) 1000 (d + 4) 172 [.string s, .string (one8 32)] σ = some (.tuple [.string b, .string a, .bool true].toArray, σ) := by
  refine acall_flat e_strings_Cut (by simp) rfl ?_
  have hx := fun L => Cut1_ok d (σ.fresh.grow L) s b a i hs hi h0 h1 hb ha
  simp (disch := omega) only [hx, r0_strings_Cut, r1_strings_Cut, k0_strings_Cut, c_strings_Cut, Z0, Z1, Z2, Z3, Z4, Z5, Z6, Z7, Z8, Z9, Z10, resAll, Nat.reduceAdd, Nat.reduceEqDiff, Nat.reduceLeDiff, Nat.reduceMul, ↓reduceIte, reduceCtorEq, Nat.reduceBEq, aoper, Nat.reduceLT, Int.reduceEq, Int.reduceLT, Int.reduceLE]
abbrev sSend : ByteArray := ⟨#[115, 101, 110, 100, 32, 65, 98, 87]⟩
abbrev sRecv : ByteArray := ⟨#[114, 101, 99, 118, 32, 65, 98]⟩
abbrev lSend : ByteArray := ⟨#[65, 98, 87]⟩
abbrev lRecv : ByteArray := ⟨#[65, 98]⟩
theorem sl14_7 {x0 x1 x2 x3 x4 x5 x6 x7 x8 x9 x10 x11 x12 x13 : Value} : sliceL [x0, x1, x2, x3, x4, x5, x6, x7, x8, x9, x10, x11, x12, x13] 7 1 = some [x7] := rfl
theorem sl14_8 {x0 x1 x2 x3 x4 x5 x6 x7 x8 x9 x10 x11 x12 x13 : Value} : sliceL [x0, x1, x2, x3, x4, x5, x6, x7, x8, x9, x10, x11, x12, x13] 8 1 = some [x8] := rfl
theorem isCell_s {s : ByteArray} : isCell (.string s) = true := rfl
theorem cells_s {s : ByteArray} : (Value.string s).cells.toList = [.string s] := rfl
theorem fields7_ok (d : Nat) (σ : AHeap) : acall (ofProg Tryz.prog) 1000 (d + 5) 107 [.int .i64 7] σ = some (.tuple [.string ⟨#[115, 101, 110, 100]⟩, .string lSend].toArray, σ) := by
  refine acall_flat e_call_fields (by simp) rfl ?_
  have hc := fun L => Cut_ok d (σ.fresh.grow L) sSend ⟨#[115, 101, 110, 100]⟩ lSend 4 (by decide +kernel) (by decide +kernel) (by decide) (by decide) rfl rfl
  have e7 : (7 : Int).toNat = 7 := rfl
  simp (disch := omega) only [isCell_s, cells_s, sl14_7, hc, e7, Nat.beq_refl, r0_call_fields, r1_call_fields, r2_call_fields, r3_call_fields, k2_call_fields, r4_call_fields, r5_call_fields, k4_call_fields, k3_call_fields, k1_call_fields, k0_call_fields, c_call_fields, Z0, Z1, Z2, Z3, Z4, Z5, Z6, Z7, Z8, Z9, Z10, resAll, Nat.reduceAdd, Nat.reduceEqDiff, Nat.reduceLeDiff, Nat.reduceMul, ↓reduceIte, reduceCtorEq, Nat.reduceBEq, aoper, Nat.reduceLT, Int.reduceEq, Int.reduceLT, Int.reduceLE]
theorem fields8_ok (d : Nat) (σ : AHeap) : acall (ofProg Tryz.prog) 1000 (d + 5) 107 [.int .i64 8] σ = some (.tuple [.string ⟨#[114, 101, 99, 118]⟩, .string lRecv].toArray, σ) := by
  refine acall_flat e_call_fields (by simp) rfl ?_
  have hc := fun L => Cut_ok d (σ.fresh.grow L) sRecv ⟨#[114, 101, 99, 118]⟩ lRecv 4 (by decide +kernel) (by decide +kernel) (by decide) (by decide) rfl rfl
  have e8 : (8 : Int).toNat = 8 := rfl
  simp (disch := omega) only [isCell_s, cells_s, sl14_8, hc, e8, Nat.beq_refl, r0_call_fields, r1_call_fields, r2_call_fields, r3_call_fields, k2_call_fields, r4_call_fields, r5_call_fields, k4_call_fields, k3_call_fields, k1_call_fields, k0_call_fields, c_call_fields, Z0, Z1, Z2, Z3, Z4, Z5, Z6, Z7, Z8, Z9, Z10, resAll, Nat.reduceAdd, Nat.reduceEqDiff, Nat.reduceLeDiff, Nat.reduceMul, ↓reduceIte, reduceCtorEq, Nat.reduceBEq, aoper, Nat.reduceLT, Int.reduceEq, Int.reduceLT, Int.reduceLE]
abbrev callL (op : Int) (aA : Option Addr) (nA fA : Nat) (aB : Option Addr) (nB fB : Nat) (X Y W : Int) : List Value := [i64 op, .slice aA nA fA, .slice aB nB fB, i64 X, i64 Y, u64 W]
abbrev callV (op : Int) (aA : Option Addr) (nA fA : Nat) (aB : Option Addr) (nB fB : Nat) (X Y W : Int) : Value := .agg (callL op aA nA fA aB nB fB X Y W).toArray
theorem numbers_ok (d : Nat) (σ : AHeap) (op X Y W : Int) (aA : Option Addr) (nA fA : Nat) (aB : Option Addr) (nB fB : Nat) (h : op = 7 ∨ op = 8) :
    acall (ofProg Tryz.prog) 1000 (d + 1) 110 [callV op aA nA fA aB nB fB X Y W] σ = some (.bool (decide (X = 0) && decide (Y = 0)), σ) := by
  refine acall_flat e_call_numbers (by simp) rfl ?_
  have n1 : ¬ op = 1 := by omega
  have n2 : ¬ op = 2 := by omega
  have n3 : ¬ op = 3 := by omega
  have n4 : ¬ op = 11 := by omega
  have n5 : ¬ op = 12 := by omega
  by_cases x : X = 0
  · by_cases y : Y = 0
    · simp (disch := omega) only [sl6_0, sl6_3, sl6_4, n1, n2, n3, n4, n5, eq_true x, eq_true y, r0_call_numbers, r1_call_numbers, r2_call_numbers, r3_call_numbers, r4_call_numbers, r5_call_numbers, r6_call_numbers, r7_call_numbers, r8_call_numbers, r9_call_numbers, k5_call_numbers, r10_call_numbers, k6_call_numbers, k4_call_numbers, k3_call_numbers, k2_call_numbers, k1_call_numbers, r11_call_numbers, k7_call_numbers, k0_call_numbers, c_call_numbers, Z0, Z1, Z2, Z3, Z4, Z5, Z6, Z7, Z8, Z9, Z10, resAll, Nat.reduceAdd, Nat.reduceEqDiff, Nat.reduceLeDiff, Nat.reduceMul, ↓reduceIte, reduceCtorEq, Nat.reduceBEq, aoper, Nat.reduceLT, Int.reduceEq, Int.reduceLT, Int.reduceLE]
    · simp (disch := omega) only [sl6_0, sl6_3, sl6_4, n1, n2, n3, n4, n5, eq_true x, y, r0_call_numbers, r1_call_numbers, r2_call_numbers, r3_call_numbers, r4_call_numbers, r5_call_numbers, r6_call_numbers, r7_call_numbers, r8_call_numbers, r9_call_numbers, k5_call_numbers, r10_call_numbers, k6_call_numbers, k4_call_numbers, k3_call_numbers, k2_call_numbers, k1_call_numbers, r11_call_numbers, k7_call_numbers, k0_call_numbers, c_call_numbers, Z0, Z1, Z2, Z3, Z4, Z5, Z6, Z7, Z8, Z9, Z10, resAll, Nat.reduceAdd, Nat.reduceEqDiff, Nat.reduceLeDiff, Nat.reduceMul, ↓reduceIte, reduceCtorEq, Nat.reduceBEq, aoper, Nat.reduceLT, Int.reduceEq, Int.reduceLT, Int.reduceLE]
  · simp (disch := omega) only [sl6_0, sl6_3, sl6_4, n1, n2, n3, n4, n5, x, r0_call_numbers, r1_call_numbers, r2_call_numbers, r3_call_numbers, r4_call_numbers, r5_call_numbers, r6_call_numbers, r7_call_numbers, r8_call_numbers, r9_call_numbers, k5_call_numbers, r10_call_numbers, k6_call_numbers, k4_call_numbers, k3_call_numbers, k2_call_numbers, k1_call_numbers, r11_call_numbers, k7_call_numbers, k0_call_numbers, c_call_numbers, Z0, Z1, Z2, Z3, Z4, Z5, Z6, Z7, Z8, Z9, Z10, resAll, Nat.reduceAdd, Nat.reduceEqDiff, Nat.reduceLeDiff, Nat.reduceMul, ↓reduceIte, reduceCtorEq, Nat.reduceBEq, aoper, Nat.reduceLT, Int.reduceEq, Int.reduceLT, Int.reduceLE]
theorem callGood7_ok (d : Nat) (σ : AHeap) (l : List Int) (X Y W : Int) (aA : Option Addr) (fA : Nat) (aB : Option Addr) (fB : Nat) (h1 : SlI σ aA l) :
    acall (ofProg Tryz.prog) 1000 (d + 6) 47 [callV 7 aA l.length fA aB 0 fB X Y W] σ = some (.bool (pathB l && (decide (X = 0) && decide (Y = 0))), σ) := by
  refine acall_flat e_call_Good (by simp) rfl ?_
  have hp := fun L => path_Good_ok (d + 1) (σ.fresh.grow L) l aA fA (h1.fresh.grow L)
  have hB := fun L => Contains_ok (d + 1) (σ.fresh.grow L) lSend 66 (by decide +kernel)
  have hW := fun L => Contains_ok (d + 1) (σ.fresh.grow L) lSend 87 (by decide +kernel)
  have eB : decide (0 ≤ firstIdx lSend 66) = false := by decide +kernel
  have eW : decide (0 ≤ firstIdx lSend 87) = true := by decide +kernel
  have eN : (lSend.toList == (⟨#[]⟩ : ByteArray).toList) = false := by decide +kernel
  have hf := fun L => fields7_ok d (σ.fresh.grow L)
  have hn := fun L => numbers_ok (d + 4) (σ.fresh.grow L) 7 X Y W aA l.length fA aB 0 fB (.inl rfl)
  simp only [eB] at hB
  simp only [eW] at hW
  have z0 : ((0 : Nat) : Int) = 0 := rfl
  cases c1 : pathB l with
  | false => simp (disch := omega) only [sl6_all, sl6_0, sl6_1, sl6_2, sl6_5, hf, hB, hp, c1, bin_neqS, eN, z0, r0_call_Good, r1_call_Good, r2_call_Good, r3_call_Good, k2_call_Good, k1_call_Good, k0_call_Good, c_call_Good, Z0, Z1, Z2, Z3, Z4, Z5, Z6, Z7, Z8, Z9, Z10, resAll, Nat.reduceAdd, Nat.reduceEqDiff, Nat.reduceLeDiff, Nat.reduceMul, ↓reduceIte, reduceCtorEq, Nat.reduceBEq, aoper, Nat.reduceLT, Int.reduceEq, Int.reduceLT, Int.reduceLE]
  | true =>
    cases c2 : (decide (X = 0) && decide (Y = 0)) with
    | false => simp (disch := omega) only [sl6_all, sl6_0, sl6_1, sl6_2, sl6_5, hf, hB, hp, c1, bin_neqS, eN, hn, c2, z0, r0_call_Good, r1_call_Good, r2_call_Good, r3_call_Good, k2_call_Good, k1_call_Good, k0_call_Good, c_call_Good, Z0, Z1, Z2, Z3, Z4, Z5, Z6, Z7, Z8, Z9, Z10, resAll, Nat.reduceAdd, Nat.reduceEqDiff, Nat.reduceLeDiff, Nat.reduceMul, ↓reduceIte, reduceCtorEq, Nat.reduceBEq, aoper, Nat.reduceLT, Int.reduceEq, Int.reduceLT, Int.reduceLE]
    | true =>
      by_cases w : W = 0
      · simp (disch := omega) only [sl6_all, sl6_0, sl6_1, sl6_2, sl6_5, hf, hB, hp, c1, bin_neqS, eN, hn, c2, eq_true w, z0, r0_call_Good, r1_call_Good, r2_call_Good, r3_call_Good, k2_call_Good, k1_call_Good, k0_call_Good, c_call_Good, Z0, Z1, Z2, Z3, Z4, Z5, Z6, Z7, Z8, Z9, Z10, resAll, Nat.reduceAdd, Nat.reduceEqDiff, Nat.reduceLeDiff, Nat.reduceMul, ↓reduceIte, reduceCtorEq, Nat.reduceBEq, aoper, Nat.reduceLT, Int.reduceEq, Int.reduceLT, Int.reduceLE]
      · simp (disch := omega) only [sl6_all, sl6_0, sl6_1, sl6_2, sl6_5, hf, hB, hp, c1, bin_neqS, eN, hn, c2, w, hW, z0, r0_call_Good, r1_call_Good, r2_call_Good, r3_call_Good, k2_call_Good, k1_call_Good, k0_call_Good, c_call_Good, Z0, Z1, Z2, Z3, Z4, Z5, Z6, Z7, Z8, Z9, Z10, resAll, Nat.reduceAdd, Nat.reduceEqDiff, Nat.reduceLeDiff, Nat.reduceMul, ↓reduceIte, reduceCtorEq, Nat.reduceBEq, aoper, Nat.reduceLT, Int.reduceEq, Int.reduceLT, Int.reduceLE]
theorem callGood8_ok (d : Nat) (σ : AHeap) (l : List Int) (aA : Option Addr) (fA : Nat) (aB : Option Addr) (fB : Nat) (h1 : SlI σ aA l) :
    acall (ofProg Tryz.prog) 1000 (d + 6) 47 [callV 8 aA l.length fA aB 0 fB 0 0 0] σ = some (.bool (pathB l), σ) := by
  refine acall_flat e_call_Good (by simp) rfl ?_
  have hp := fun L => path_Good_ok (d + 1) (σ.fresh.grow L) l aA fA (h1.fresh.grow L)
  have hB := fun L => Contains_ok (d + 1) (σ.fresh.grow L) lRecv 66 (by decide +kernel)
  have eB : decide (0 ≤ firstIdx lRecv 66) = false := by decide +kernel
  have eN : (lRecv.toList == (⟨#[]⟩ : ByteArray).toList) = false := by decide +kernel
  have hf := fun L => fields8_ok d (σ.fresh.grow L)
  have hn := fun L => numbers_ok (d + 4) (σ.fresh.grow L) 8 0 0 0 aA l.length fA aB 0 fB (.inr rfl)
  simp only [eB] at hB
  have z0 : ((0 : Nat) : Int) = 0 := rfl
  cases c1 : pathB l with
  | false => simp (disch := omega) only [sl6_all, sl6_0, sl6_1, sl6_2, sl6_5, hf, hB, hp, c1, bin_neqS, eN, z0, r0_call_Good, r1_call_Good, r2_call_Good, r3_call_Good, k2_call_Good, k1_call_Good, k0_call_Good, c_call_Good, Z0, Z1, Z2, Z3, Z4, Z5, Z6, Z7, Z8, Z9, Z10, resAll, Nat.reduceAdd, Nat.reduceEqDiff, Nat.reduceLeDiff, Nat.reduceMul, ↓reduceIte, reduceCtorEq, Nat.reduceBEq, aoper, Nat.reduceLT, Int.reduceEq, Int.reduceLT, Int.reduceLE]
  | true => simp (disch := omega) only [sl6_all, sl6_0, sl6_1, sl6_2, sl6_5, hf, hB, hp, c1, bin_neqS, eN, hn, z0, r0_call_Good, r1_call_Good, r2_call_Good, r3_call_Good, k2_call_Good, k1_call_Good, k0_call_Good, c_call_Good, Z0, Z1, Z2, Z3, Z4, Z5, Z6, Z7, Z8, Z9, Z10, resAll, Nat.reduceAdd, Nat.reduceEqDiff, Nat.reduceLeDiff, Nat.reduceMul, ↓reduceIte, reduceCtorEq, Nat.reduceBEq, aoper, Nat.reduceLT, Int.reduceEq, Int.reduceLT, Int.reduceLE]
end Go.Proofs.YtidmcpkbcphpiaaGreat
