/-
  What the function Slot of the package find answers. No condition but what it says.
-/
import Derived.Test.YtphbidcbepnihaaT15
namespace Go.Proofs.Ytphbidcbepnihaa
open Go Go.Hai
set_option maxRecDepth 20000
set_option linter.unusedSimpArgs false
set_option maxHeartbeats 8000000
attribute [local irreducible] Hai.Ends EndsR EndsO EndsD AHeap.grow
def r0_find_Slot : List AOper := [(.mk (some 3) none (.box 5 (.tmp 0))), (.mk (some 5) none (.box 1 (.tmp 2))), (.mk (some 6) none (.mv (.const (.int .i64 0)))), (.mk (some 7) none (.mv (.const (.int .i64 0))))]
def r1_find_Slot : List AOper := [(.mk (some 13) none (.load true 5 (.tmp 3))), (.mk (some 14) none (.call 10 [(.tmp 13)])), (.mk (some 15) none (.un .not (.tmp 14))), (.mk (some 16) none (.mv (.tmp 15))), (.mk (some 17) (some (16, false)) (.mv (.tmp 1))), (.mk (some 18) (some (16, false)) (.fldA 0 (.tmp 3))), (.mk (some 19) (some (16, false)) (.fldA 0 (.tmp 18))), (.mk (some 20) (some (16, false)) (.load false 1 (.tmp 19))), (.mk (some 21) (some (16, false)) (.bin .sub (.tmp 20) (.const (.int .i64 1)))), (.mk (some 22) (some (16, false)) (.call 37 [(.tmp 17), (.const (.int .i64 0)), (.tmp 21)])), (.mk (some 23) (some (16, false)) (.un .not (.tmp 22))), (.mk (some 24) none (.pick (.tmp 16) (.const (.bool true)) (.tmp 23))), (.mk (some 25) none (.mv (.tmp 24))), (.mk (some 26) (some (25, false)) (.load true 1 (.tmp 5))), (.mk (some 27) (some (25, false)) (.call 20 [(.tmp 26)])), (.mk (some 28) (some (25, false)) (.un .not (.tmp 27))), (.mk (some 29) none (.pick (.tmp 25) (.const (.bool true)) (.tmp 28)))]
def r2_find_Slot : List AOper := [(.mk (some 6) none (.mv (.const (.int .i64 0)))), (.mk (some 7) none (.mv (.const (.int .i64 1))))]
def k1_find_Slot : ACode := (.cond (.tmp 29) (.seq (.reg r2_find_Slot) .ret) .skip)
def r3_find_Slot : List AOper := [(.mk (some 30) none (.fldA 4 (.tmp 3))), (.mk (some 31) none (.load false 1 (.tmp 30))), (.mk (some 32) none (.mv (.tmp 1))), (.mk (some 33) none (.bin .add (.const (.int .i64 2)) (.tmp 32))), (.mk (some 34) none (.idxA 13 (.tmp 31) (.tmp 33))), (.mk (some 35) none (.load true 13 (.tmp 34))), (.mk (some 8) none (.alloc [(.int .i64 0), (.int .i64 0), (.int .i64 0), (.int .i64 0), (.int .i64 0), (.int .i64 0), (.int .i64 0), (.bool false), (.int .u64 0), (.int .u64 0), (.int .u64 0), (.int .u64 0), (.int .u64 0)] 13)), (.mk none none (.store 13 (.tmp 8) (.tmp 35))), (.mk (some 9) none (.mv (.const (.bool true))))]
def r4_find_Slot : List AOper := [(.mk (some 10) none (.mv (.const (.int .i64 0))))]
def r5_find_Slot : List AOper := [(.mk (some 36) none (.fldA 0 (.tmp 5))), (.mk (some 37) none (.load false 1 (.tmp 36))), (.mk (some 38) none (.lenS (.tmp 37))), (.mk (some 39) none (.mv (.const (.int .i64 0))))]
def r6_find_Slot : List AOper := [(.mk (some 40) none (.bin .lss (.tmp 39) (.tmp 38)))]
def r7_find_Slot : List AOper := [(.mk (some 41) none (.mv (.tmp 39))), (.mk (some 42) none (.idxA 1 (.tmp 37) (.tmp 39))), (.mk (some 43) none (.load false 1 (.tmp 42))), (.mk (some 11) none (.mv (.tmp 41))), (.mk (some 12) none (.mv (.tmp 43)))]
def r8_find_Slot : List AOper := [(.mk (some 44) none (.mv (.tmp 11))), (.mk (some 45) none (.bin .gtr (.tmp 44) (.const (.int .i64 0))))]
def r9_find_Slot : List AOper := [(.mk (some 47) none (.load true 5 (.tmp 3))), (.mk (some 48) none (.mv (.tmp 10))), (.mk (some 49) none (.call 38 [(.tmp 47), (.tmp 48)])), (.mk (some 46) none (.mv (.tmp 49))), (.mk (some 50) none (.ext (.tmp 46) 0)), (.mk (some 51) none (.ext (.tmp 46) 1)), (.mk none none (.store 13 (.tmp 8) (.tmp 50))), (.mk (some 9) none (.mv (.tmp 51)))]
def k9_find_Slot : ACode := (.cond (.tmp 45) (.reg r9_find_Slot) .skip)
def r10_find_Slot : List AOper := [(.mk (some 52) none (.mv (.tmp 9))), (.mk (some 53) none (.un .not (.tmp 52))), (.mk (some 54) none (.mv (.tmp 53))), (.mk (some 55) (some (54, false)) (.load true 13 (.tmp 8))), (.mk (some 56) (some (54, false)) (.mv (.tmp 12))), (.mk (some 57) (some (54, false)) (.call 39 [(.tmp 55), (.tmp 56)])), (.mk (some 58) (some (54, false)) (.bin .lss (.tmp 57) (.const (.int .i64 0)))), (.mk (some 59) none (.pick (.tmp 54) (.const (.bool true)) (.tmp 58)))]
def r11_find_Slot : List AOper := [(.mk (some 6) none (.mv (.const (.int .i64 0)))), (.mk (some 7) none (.mv (.const (.int .i64 3))))]
def k11_find_Slot : ACode := (.cond (.tmp 59) (.seq (.reg r11_find_Slot) .ret) .skip)
def r12_find_Slot : List AOper := [(.mk (some 60) none (.load true 13 (.tmp 8))), (.mk (some 61) none (.mv (.tmp 12))), (.mk (some 62) none (.call 39 [(.tmp 60), (.tmp 61)])), (.mk (some 10) none (.mv (.tmp 62)))]
def k12_find_Slot : ACode := (.reg r12_find_Slot)
def k10_find_Slot : ACode := (.seq (.seq (.reg r10_find_Slot) k11_find_Slot) k12_find_Slot)
def k8_find_Slot : ACode := (.seq (.seq (.reg r8_find_Slot) k9_find_Slot) k10_find_Slot)
def r13_find_Slot : List AOper := [(.mk (some 63) none (.bin .add (.tmp 39) (.const (.int .i64 1)))), (.mk (some 39) none (.mv (.tmp 63)))]
def k13_find_Slot : ACode := (.reg r13_find_Slot)
def k7_find_Slot : ACode := (.seq (.block 1 (.seq (.reg r7_find_Slot) k8_find_Slot)) k13_find_Slot)
def k6_find_Slot : ACode := (.seq (.cond (.tmp 40) .skip (.exit 0)) k7_find_Slot)
def b0_find_Slot : ACode := (.seq (.reg r6_find_Slot) k6_find_Slot)
def k5_find_Slot : ACode := (.block 0 (.loop b0_find_Slot))
def r14_find_Slot : List AOper := [(.mk (some 64) none (.mv (.tmp 10))), (.mk (some 6) none (.mv (.tmp 64))), (.mk (some 7) none (.mv (.const (.int .i64 0))))]
def k14_find_Slot : ACode := (.seq (.reg r14_find_Slot) .ret)
def k4_find_Slot : ACode := (.seq (.seq (.reg r5_find_Slot) k5_find_Slot) k14_find_Slot)
def k3_find_Slot : ACode := (.seq (.reg r4_find_Slot) k4_find_Slot)
def k2_find_Slot : ACode := (.seq (.reg r3_find_Slot) k3_find_Slot)
def k0_find_Slot : ACode := (.seq (.seq (.reg r1_find_Slot) k1_find_Slot) k2_find_Slot)
def c_find_Slot : ACode := (.seq (.reg r0_find_Slot) k0_find_Slot)
theorem e_find_Slot : ofProg Try.prog 11 = some ⟨65, [(.tmp 6), (.tmp 7)], c_find_Slot⟩ := by kernel_rfl

theorem markTo_in {h : List Bool} {base : Int} : ∀ {m : Nat} {g : List Bool}, markTo h base m = some g → ∀ k : Nat, k < m → base + k < h.length := by
  intro m
  induction m with
  | zero => intro g _ k hk; omega
  | succ m ih =>
    intro g hg k hk
    simp only [markTo] at hg
    split at hg
    · cases hg
    · next g' hg' =>
      split at hg
      · cases hg
      · next hlt =>
        by_cases e : k < m
        · exact ih hg' k e
        · have : k = m := by omega
          subst this
          rw [markTo_length hg'] at hlt
          omega
def NodeIn (S : StD) (t : ThingD) : Prop := t.type = 2 ∧ ∃ i : Nat, S.th[i]? = some t
structure GoodF (S : StD) : Prop where
  geo : goodGeo S.threads S.slots S.things
  sl : (S.sl.length : Int) = S.slots
  th : (S.th.length : Int) = S.things
  caps : capsB S = true
  things : thingsB S = true
  nodes : nodesB S = true
theorem goodF {S : StD} (h : goodB S = true) : GoodF S := by
  unfold goodB at h
  simp only [Bool.and_eq_true, decide_eq_true_eq] at h
  exact ⟨h.1.1.1.1.1.1.1.1, h.1.1.1.1.1.1.1.2, h.1.1.1.1.1.1.2, h.1.1.1.1.1.2, h.1.1.1.1.2, h.1.1.1.2⟩
theorem GoodF.node {S : StD} (h : GoodF S) {t : ThingD} (ht : NodeIn S t) : (1 ≤ t.bits ∧ t.bits ≤ 4) ∧ 0 ≤ t.base ∧ t.base ≤ 96 - pw t.bits ∧ ∀ n : Int, 0 ≤ n → n < pw t.bits → t.base + n < S.sl.length := by
  obtain ⟨ht2, i, hi⟩ := ht
  have hg := thGood_of h.things i t hi
  have hn := thGood_node hg ht2
  refine ⟨hn.1, hn.2.1, hn.2.2, fun n h0 h1 => ?_⟩
  have hnb := h.nodes
  have hlt := (List.getElem?_eq_some_iff.1 hi).1
  unfold nodesB at hnb
  split at hnb
  · cases hnb
  · next g hg' =>
    cases hs : nodesTo S (i + 1) with
    | none => rw [nodesTo_none hs _ (by omega)] at hg'; cases hg'
    | some g1 =>
      simp only [nodesTo] at hs
      split at hs
      · cases hs
      · next g2 hg2 =>
        rw [hi] at hs
        simp only [if_pos ht2] at hs
        have := markTo_in hs n.toNat (by omega)
        rw [nodesTo_length hg2] at this
        omega
theorem GoodF.link {S : StD} (h : GoodF S) {i : Nat} {x : SlotD} (hx : S.sl[i]? = some x) (h2 : x.type = 2) : ∃ t, atI S.th x.thing = some t ∧ S.th[x.thing.toNat]? = some t ∧ 0 ≤ x.thing ∧ x.thing < S.th.length ∧ NodeIn S t := by
  have hs := all_get h.caps hx
  have hnn : capNone x = false := by
    unfold capNone eq4
    rw [h2]; rfl
  unfold slotB at hs
  rw [hnn] at hs
  simp only [Bool.and_eq_true, Bool.false_or] at hs
  by_cases q : 0 ≤ x.thing ∧ x.thing < S.th.length
  · obtain ⟨t, e1, e2⟩ := atI_some q.1 q.2
    rw [e1] at hs
    have h3 := hs.2
    simp only [Bool.and_eq_true, decide_eq_true_eq] at h3
    exact ⟨t, e1, e2, q.1, q.2, by rw [h3.2, h2], _, e2⟩
  · rw [atI_none q] at hs
    cases hs.2
theorem GoodF.root {S : StD} (h : GoodF S) {n : Int} (h0 : 0 ≤ n) (h1 : n ≤ S.threads - 1) : ∃ t, S.th[(2 + n).toNat]? = some t ∧ 2 + n < S.th.length ∧ NodeIn S t := by
  obtain ⟨g1, g2, g3, g4⟩ := h.geo
  have h3 := h.th
  have hlt : (2 + n).toNat < S.th.length := by omega
  refine ⟨S.th[(2 + n).toNat], List.getElem?_eq_getElem hlt, by omega, ?_, _, List.getElem?_eq_getElem hlt⟩
  have ht := allTo_true (List.getElem?_eq_getElem hlt) _ hlt h.things
  unfold thingB at ht
  simp only [Bool.and_eq_true] at ht
  have hr : isRootB S (2 + n).toNat = true := by unfold isRootB; simp; omega
  have h4 := ht.1.2
  rw [hr] at h4
  simp only [Bool.true_and, Bool.not_not] at h4
  unfold rootEq eq13 at h4
  simp only [Bool.and_eq_true, beq_iff_eq] at h4
  exact h4.1

def stepI (t : ThingD) (n : Int) : Int := if n < pw t.bits then t.base + n else -1
def thrTz (S : StD) (z : Int) : ThingD := match atI S.sl z with | some x => thrT S x | none => zeroT
def thrBz (S : StD) (z : Int) : Bool := match atI S.sl z with | some x => thrB x | none => false
def stepTo (S : StD) (t0 : ThingD) (l : List Int) : Nat → Option (ThingD × Int)
  | 0 => some (t0, 0)
  | i + 1 => match stepTo S t0 l i with
    | none => none
    | some (t, z) => match l[i]? with
      | none => some (t, z)
      | some n => if i = 0 then (if 0 ≤ stepI t n then some (t, stepI t n) else none)
        else (if thrBz S z = true ∧ 0 ≤ stepI (thrTz S z) n then some (thrTz S z, stepI (thrTz S z) n) else none)
theorem stepTo_none {S : StD} {t0 : ThingD} {l : List Int} {k : Nat} (hk : stepTo S t0 l k = none) : ∀ m, k ≤ m → stepTo S t0 l m = none := by
  intro m
  induction m with
  | zero => intro hm; have : k = 0 := by omega
            subst this; exact hk
  | succ m ih =>
    intro hm
    by_cases e : k = m + 1
    · subst e; exact hk
    · simp only [stepTo, ih (by omega)]
def rootT (S : StD) (thread : Int) : ThingD := match S.th[(2 + thread).toNat]? with | some t => t | none => zeroT
def slotF (S : StD) (thread : Int) (l : List Int) : Int × Int :=
  if goodB S = true ∧ (0 ≤ thread ∧ thread ≤ S.threads - 1) ∧ pathB l = true then (match stepTo S (rootT S thread) l l.length with | some (_, z) => (z, 0) | none => (0, 3)) else (0, 1)

theorem firstI_nonneg {α : Type} {p : α → Bool} : ∀ {l : List α} {k i : Nat} {x : α}, l[i]? = some x → p x = true → 0 ≤ firstI p l k := by
  intro l
  induction l with
  | nil => intro k i x h; simp at h
  | cons a l ih =>
    intro k i x hx hp
    simp only [firstI]
    split
    · omega
    · next hne =>
      cases i with
      | zero => simp at hx; subst hx; exact absurd hp hne
      | succ i => exact ih (i := i) (by simpa using hx) hp
theorem path_in {l : List Int} (h : pathB l = true) {i : Nat} {n : Int} (hn : l[i]? = some n) : 0 ≤ n ∧ n ≤ 15 := by
  unfold pathB at h
  simp only [Bool.and_eq_true, Bool.not_eq_true', decide_eq_false_iff_not] at h
  cases ho : oddB n with
  | true => exact absurd (firstI_nonneg hn ho) h.2
  | false =>
    unfold oddB at ho
    simp at ho
    omega
theorem find_Slot_ok (d : Nat) (σ : AHeap) (S : StD) (a1 : Option Addr) (f1 : Nat) (a2 : Option Addr) (f2 : Nat) (thread : Int) (l : List Int) (a : Option Addr) (f : Nat) (hd : σ.dead = []) (h1 : SlS σ a1 S.sl) (h2 : SlT σ a2 S.th) (h3 : SlI σ a l) :
    acall (ofProg Try.prog) 1000 (d + S.th.length + 9) 11 [stV S a1 f1 a2 f2, .int .i64 thread, .agg [.slice a l.length f].toArray] σ = some (.tuple [i64 (slotF S thread l).1, i64 (slotF S thread l).2].toArray, σ) := by
  refine acall_flat e_find_Slot (by simp) rfl ?_
  have hgood := fun L => state_Good_ok d (σ.fresh.grow L) S a1 f1 a2 f2 (by rw [grow_dead]; exact hd) (h1.fresh.grow L) (h2.fresh.grow L)
  cases c1 : goodB S with
  | false =>
    have hs : slotF S thread l = (0, 1) := by unfold slotF; rw [if_neg (by simp [c1])]
    simp (disch := omega) only [hgood, c1, hs, r0_find_Slot, r1_find_Slot, r2_find_Slot, k1_find_Slot, r3_find_Slot, r4_find_Slot, r5_find_Slot, r6_find_Slot, r7_find_Slot, r8_find_Slot, r9_find_Slot, k9_find_Slot, r10_find_Slot, r11_find_Slot, k11_find_Slot, r12_find_Slot, k12_find_Slot, k10_find_Slot, k8_find_Slot, r13_find_Slot, k13_find_Slot, k7_find_Slot, k6_find_Slot, k5_find_Slot, r14_find_Slot, k14_find_Slot, k4_find_Slot, k3_find_Slot, k2_find_Slot, k0_find_Slot, c_find_Slot, Za, Zb, Zc, Zd, Ze, Zf, Zg, Zh, Zi, Zj, Zk, Zl, Zm, Zn, Zo, Zp, Zq, Zr, Zs, Zt, Zu, Zv, Zw, Zx, Zy, Zz, ZA, ZB, ZC, ZD, ZE, ZF, ZG, ZH, ZI, ZJ, ZK, ZL, ZM, ZN, ZO, ZP, ZQ, ZR, ZS, ZT, ZU, ZV, ZW, ZX, ZY, ZZ, Z0, Z1, Z2, tget_ins, Z3, Z4, Z5, Z6, Z7, Z8, Z9, Ya, Yb, Yc, Yd, Ye, Yf, Yg, Yh, Yi, Yj, resAll, Yk, Yl, Ym, Yn, Yo, Yp, Yq, Yr, Ys, Yt, List.map_cons, List.map_nil, List.all_cons, List.all_nil, List.nil_append, List.cons_append, List.length_nil, List.length_cons, Nat.reduceAdd, Nat.reduceEqDiff, Nat.reduceLeDiff, Nat.zero_add, Nat.add_zero, Nat.reduceMul, ↓reduceIte, decide_true, decide_false, decide_eq_true_eq, Bool.not_true, Bool.not_false, Bool.and_true, Bool.and_self, Bool.and_false, Bool.false_and, Bool.true_and, Bool.or_true, Bool.true_or, Bool.or_false, Bool.false_or, Bool.not_eq_true', decide_eq_false_iff_not, Bool.false_eq_true, reduceCtorEq, and_self, and_true, true_and, false_and, and_false, not_true_eq_false, not_false_eq_true, Nat.reduceBEq, Yu, Yv, Yw, Yx, Yy, Yz, YA, YB, YC, YD, YE, YF, YG, YH, YI, YJ, YK, YL, YM, YN, YO, YP, YQ, YR, YS, YT, YU, YV, YW, YX, YY, YZ, Y0, Y1, Y2, Y3, Y4, Y5, Y6, Y7, Y8, Y9, Xa, Xb, Xc, Xd, Xe, Xf, Xg, Xh Xi, Xj Xi, Xk Xi, Xl Xi, Xm Xi, Xn Xi, Xo, Xp, aoper, Xq, Xr, Xs, Xt, Xu, Xv, Xw, Xx, Xy, Xz, XA, XB, XC, XD, XE, XF, XG, XH, XI, XJ, XK, XL, XM, XN, XO, XP, XQ, XR, XS, XT, XU, XV Xi, XW, List.set_cons_zero, List.set_cons_succ, Nat.reduceLT, Int.reduceEq, Int.reduceLT, Int.reduceLE, XX, XY, XZ, X0, X1, X2, X3, X4, X5, X6, X7, X8, X9, Va, Vb, Vc, Vd, Ve, Vf, Vg, Vh, Vi, Vj, Vk, Vl, Vm, Vn, Vo, Vp, Vq, Vr, Vs, Vt, Vu, Vv, Vw, Vx]
  | true =>
    have G := goodF c1
    obtain ⟨⟨b1, b1'⟩, ⟨b2, b2'⟩, b3, b4, b4'⟩ := G.geo
    have G2 := G.sl
    have G3 := G.th
    by_cases c2 : 0 ≤ thread ∧ thread ≤ S.threads - 1
    · have hpath := fun L => path_Good_ok (d + S.th.length + 4) (σ.fresh.grow L) l a f (h3.fresh.grow L)
      cases c3 : pathB l with
      | false =>
        have hs : slotF S thread l = (0, 1) := by unfold slotF; rw [if_neg (by simp [c3])]
        simp (disch := omega) only [hgood, c1, find_in_ok, c2, hpath, c3, hs, r0_find_Slot, r1_find_Slot, r2_find_Slot, k1_find_Slot, r3_find_Slot, r4_find_Slot, r5_find_Slot, r6_find_Slot, r7_find_Slot, r8_find_Slot, r9_find_Slot, k9_find_Slot, r10_find_Slot, r11_find_Slot, k11_find_Slot, r12_find_Slot, k12_find_Slot, k10_find_Slot, k8_find_Slot, r13_find_Slot, k13_find_Slot, k7_find_Slot, k6_find_Slot, k5_find_Slot, r14_find_Slot, k14_find_Slot, k4_find_Slot, k3_find_Slot, k2_find_Slot, k0_find_Slot, c_find_Slot, Za, Zb, Zc, Zd, Ze, Zf, Zg, Zh, Zi, Zj, Zk, Zl, Zm, Zn, Zo, Zp, Zq, Zr, Zs, Zt, Zu, Zv, Zw, Zx, Zy, Zz, ZA, ZB, ZC, ZD, ZE, ZF, ZG, ZH, ZI, ZJ, ZK, ZL, ZM, ZN, ZO, ZP, ZQ, ZR, ZS, ZT, ZU, ZV, ZW, ZX, ZY, ZZ, Z0, Z1, Z2, tget_ins, Z3, Z4, Z5, Z6, Z7, Z8, Z9, Ya, Yb, Yc, Yd, Ye, Yf, Yg, Yh, Yi, Yj, resAll, Yk, Yl, Ym, Yn, Yo, Yp, Yq, Yr, Ys, Yt, List.map_cons, List.map_nil, List.all_cons, List.all_nil, List.nil_append, List.cons_append, List.length_nil, List.length_cons, Nat.reduceAdd, Nat.reduceEqDiff, Nat.reduceLeDiff, Nat.zero_add, Nat.add_zero, Nat.reduceMul, ↓reduceIte, decide_true, decide_false, decide_eq_true_eq, Bool.not_true, Bool.not_false, Bool.and_true, Bool.and_self, Bool.and_false, Bool.false_and, Bool.true_and, Bool.or_true, Bool.true_or, Bool.or_false, Bool.false_or, Bool.not_eq_true', decide_eq_false_iff_not, Bool.false_eq_true, reduceCtorEq, and_self, and_true, true_and, false_and, and_false, not_true_eq_false, not_false_eq_true, Nat.reduceBEq, Yu, Yv, Yw, Yx, Yy, Yz, YA, YB, YC, YD, YE, YF, YG, YH, YI, YJ, YK, YL, YM, YN, YO, YP, YQ, YR, YS, YT, YU, YV, YW, YX, YY, YZ, Y0, Y1, Y2, Y3, Y4, Y5, Y6, Y7, Y8, Y9, Xa, Xb, Xc, Xd, Xe, Xf, Xg, Xh Xi, Xj Xi, Xk Xi, Xl Xi, Xm Xi, Xn Xi, Xo, Xp, aoper, Xq, Xr, Xs, Xt, Xu, Xv, Xw, Xx, Xy, Xz, XA, XB, XC, XD, XE, XF, XG, XH, XI, XJ, XK, XL, XM, XN, XO, XP, XQ, XR, XS, XT, XU, XV Xi, XW, List.set_cons_zero, List.set_cons_succ, Nat.reduceLT, Int.reduceEq, Int.reduceLT, Int.reduceLE, XX, XY, XZ, X0, X1, X2, X3, X4, X5, X6, X7, X8, X9, Va, Vb, Vc, Vd, Ve, Vf, Vg, Vh, Vi, Vj, Vk, Vl, Vm, Vn, Vo, Vp, Vq, Vr, Vs, Vt, Vu, Vv, Vw, Vx]
      | true =>
        obtain ⟨t0, r1, r2, r3⟩ := G.root c2.1 c2.2
        have hrt : rootT S thread = t0 := by unfold rootT; rw [r1]
        have hs : slotF S thread l = (match stepTo S t0 l l.length with | some (_, z) => (z, 0) | none => (0, 3)) := by unfold slotF; rw [if_pos ⟨c1, c2, c3⟩, hrt]
        have hll : l.length ≤ 3 := by unfold pathB at c3; simp at c3; omega
        have hodd : ∀ (i : Nat) (n : Int), l[i]? = some n → 0 ≤ n ∧ n ≤ 15 := by
          intro i n hn
          exact path_in c3 hn
        obtain ⟨bt, rfl, hbt⟩ := h2.fresh.at (i := (2 + thread).toNat) (by omega)
        have hl0 : ∀ L, (σ.fresh.grow L).loadN bt ((2 + thread).toNat * 13) 13 = some (thingL t0) := fun L => by
          rw [load_old _ _ _ _ hbt.1]; exact hbt.2 _ _ r1 0 13 (by omega)
        have hth0 : 0 ≤ 2 + thread := by omega
        simp (disch := omega) only [hgood, c1, find_in_ok, c2, hpath, c3, hl0, r2, hth0, r0_find_Slot, r1_find_Slot, r2_find_Slot, k1_find_Slot, r3_find_Slot, r4_find_Slot, r5_find_Slot, r6_find_Slot, r7_find_Slot, r8_find_Slot, r9_find_Slot, k9_find_Slot, r10_find_Slot, r11_find_Slot, k11_find_Slot, r12_find_Slot, k12_find_Slot, k10_find_Slot, k8_find_Slot, r13_find_Slot, k13_find_Slot, k7_find_Slot, k6_find_Slot, k5_find_Slot, r14_find_Slot, k14_find_Slot, k4_find_Slot, k3_find_Slot, k2_find_Slot, k0_find_Slot, c_find_Slot, Za, Zb, Zc, Zd, Ze, Zf, Zg, Zh, Zi, Zj, Zk, Zl, Zm, Zn, Zo, Zp, Zq, Zr, Zs, Zt, Zu, Zv, Zw, Zx, Zy, Zz, ZA, ZB, ZC, ZD, ZE, ZF, ZG, ZH, ZI, ZJ, ZK, ZL, ZM, ZN, ZO, ZP, ZQ, ZR, ZS, ZT, ZU, ZV, ZW, ZX, ZY, ZZ, Z0, Z1, Z2, tget_ins, Z3, Z4, Z5, Z6, Z7, Z8, Z9, Ya, Yb, Yc, Yd, Ye, Yf, Yg, Yh, Yi, Yj, resAll, Yk, Yl, Ym, Yn, Yo, Yp, Yq, Yr, Ys, Yt, List.map_cons, List.map_nil, List.all_cons, List.all_nil, List.nil_append, List.cons_append, List.length_nil, List.length_cons, Nat.reduceAdd, Nat.reduceEqDiff, Nat.reduceLeDiff, Nat.zero_add, Nat.add_zero, Nat.reduceMul, ↓reduceIte, decide_true, decide_false, decide_eq_true_eq, Bool.not_true, Bool.not_false, Bool.and_true, Bool.and_self, Bool.and_false, Bool.false_and, Bool.true_and, Bool.or_true, Bool.true_or, Bool.or_false, Bool.false_or, Bool.not_eq_true', decide_eq_false_iff_not, Bool.false_eq_true, reduceCtorEq, and_self, and_true, true_and, false_and, and_false, not_true_eq_false, not_false_eq_true, Nat.reduceBEq, Yu, Yv, Yw, Yx, Yy, Yz, YA, YB, YC, YD, YE, YF, YG, YH, YI, YJ, YK, YL, YM, YN, YO, YP, YQ, YR, YS, YT, YU, YV, YW, YX, YY, YZ, Y0, Y1, Y2, Y3, Y4, Y5, Y6, Y7, Y8, Y9, Xa, Xb, Xc, Xd, Xe, Xf, Xg, Xh Xi, Xj Xi, Xk Xi, Xl Xi, Xm Xi, Xn Xi, Xo, Xp, aoper, Xq, Xr, Xs, Xt, Xu, Xv, Xw, Xx, Xy, Xz, XA, XB, XC, XD, XE, XF, XG, XH, XI, XJ, XK, XL, XM, XN, XO, XP, XQ, XR, XS, XT, XU, XV Xi, XW, List.set_cons_zero, List.set_cons_succ, Nat.reduceLT, Int.reduceEq, Int.reduceLT, Int.reduceLE, XX, XY, XZ, X0, X1, X2, X3, X4, X5, X6, X7, X8, X9, Va, Vb, Vc, Vd, Ve, Vf, Vg, Vh, Vi, Vj, Vk, Vl, Vm, Vn, Vo, Vp, Vq, Vr, Vs, Vt, Vu, Vv, Vw, Vx]
        generalize hσ1 : σ.fresh.grow _ = σ1
        have e1n : σ1.n = σ.n + 3 := by rw [← hσ1, grow_n]; rfl
        have e1l : σ1.low = σ.n := by rw [← hσ1, Yk]; rfl
        have e1k : Keeps σ.fresh σ1 := by rw [← hσ1]; exact Keeps.self _ _
        have e1b : ∀ o n, σ1.loadN σ.fresh.n o n = sliceL (stL S a1 f1 (some ⟨bt, 0, none⟩) f2) o n := fun o n => by rw [← hσ1, Xb]
        have e1h : σ1.t.get (σ.fresh.n + 2) = some (rowOf (thingL t0, 13)) := by rw [← hσ1]; exact grow_new _ _ 2 rfl
        have hfn : σ.fresh.n = σ.n := rfl
        refine ends_loop (fun i t τ => tget t 37 = .slice a l.length f ∧ tget t 38 = i64 l.length ∧ tget t 39 = i64 i ∧ tget t 3 = here σ.fresh.n 0 ∧ tget t 8 = here (σ.fresh.n + 2) 0 ∧ tget t 9 = .bool true ∧ Mod (σ.fresh.n + 2) σ1 τ ∧
            ∃ tt z, tget t 10 = i64 z ∧ stepTo S t0 l i = some (tt, z) ∧ NodeIn S tt ∧ τ.t.get (σ.fresh.n + 2) = some (rowOf (thingL tt, 13)) ∧ (i = 0 ∨ 0 ≤ z ∧ z < S.sl.length))
          l.length (by omega) ⟨?_, ?_, ?_, ?_, ?_, ?_, Mod.refl _ _, t0, 0, ?_, rfl, r3, e1h, .inl rfl⟩ ?_
        iterate 7 simp (disch := omega) only [Int.natCast_zero, Int.ofNat_zero, r0_find_Slot, r1_find_Slot, r2_find_Slot, k1_find_Slot, r3_find_Slot, r4_find_Slot, r5_find_Slot, r6_find_Slot, r7_find_Slot, r8_find_Slot, r9_find_Slot, k9_find_Slot, r10_find_Slot, r11_find_Slot, k11_find_Slot, r12_find_Slot, k12_find_Slot, k10_find_Slot, k8_find_Slot, r13_find_Slot, k13_find_Slot, k7_find_Slot, k6_find_Slot, k5_find_Slot, r14_find_Slot, k14_find_Slot, k4_find_Slot, k3_find_Slot, k2_find_Slot, k0_find_Slot, c_find_Slot, Za, Zb, Zc, Zd, Ze, Zf, Zg, Zh, Zi, Zj, Zk, Zl, Zm, Zn, Zo, Zp, Zq, Zr, Zs, Zt, Zu, Zv, Zw, Zx, Zy, Zz, ZA, ZB, ZC, ZD, ZE, ZF, ZG, ZH, ZI, ZJ, ZK, ZL, ZM, ZN, ZO, ZP, ZQ, ZR, ZS, ZT, ZU, ZV, ZW, ZX, ZY, ZZ, Z0, Z1, Z2, tget_ins, Z3, Z4, Z5, Z6, Z7, Z8, Z9, Ya, Yb, Yc, Yd, Ye, Yf, Yg, Yh, Yi, Yj, resAll, Yk, Yl, Ym, Yn, Yo, Yp, Yq, Yr, Ys, Yt, List.map_cons, List.map_nil, List.all_cons, List.all_nil, List.nil_append, List.cons_append, List.length_nil, List.length_cons, Nat.reduceAdd, Nat.reduceEqDiff, Nat.reduceLeDiff, Nat.zero_add, Nat.add_zero, Nat.reduceMul, ↓reduceIte, decide_true, decide_false, decide_eq_true_eq, Bool.not_true, Bool.not_false, Bool.and_true, Bool.and_self, Bool.and_false, Bool.false_and, Bool.true_and, Bool.or_true, Bool.true_or, Bool.or_false, Bool.false_or, Bool.not_eq_true', decide_eq_false_iff_not, Bool.false_eq_true, reduceCtorEq, and_self, and_true, true_and, false_and, and_false, not_true_eq_false, not_false_eq_true, Nat.reduceBEq, Yu, Yv, Yw, Yx, Yy, Yz, YA, YB, YC, YD, YE, YF, YG, YH, YI, YJ, YK, YL, YM, YN, YO, YP, YQ, YR, YS, YT, YU, YV, YW, YX, YY, YZ, Y0, Y1, Y2, Y3, Y4, Y5, Y6, Y7, Y8, Y9, Xa, Xb, Xc, Xd, Xe, Xf, Xg, Xh Xi, Xj Xi, Xk Xi, Xl Xi, Xm Xi, Xn Xi, Xo, Xp, aoper, Xq, Xr, Xs, Xt, Xu, Xv, Xw, Xx, Xy, Xz, XA, XB, XC, XD, XE, XF, XG, XH, XI, XJ, XK, XL, XM, XN, XO, XP, XQ, XR, XS, XT, XU, XV Xi, XW, List.set_cons_zero, List.set_cons_succ, Nat.reduceLT, Int.reduceEq, Int.reduceLT, Int.reduceLE, XX, XY, XZ, X0, X1, X2, X3, X4, X5, X6, X7, X8, X9, Va, Vb, Vc, Vd, Ve, Vf, Vg, Vh, Vi, Vj, Vk, Vl, Vm, Vn, Vo, Vp, Vq, Vr, Vs, Vt, Vu, Vv, Vw, Vx]
        rintro i t τ hi ⟨t37, t38, t39, t3, t8, t9, hmd, tt, z, t10, hst, hnt, hrow, hz⟩
        rw [← grow_nil τ]
        have hmn := hmd.n
        have hlow : τ.low ≤ τ.n := by rw [hmd.low]; omega
        by_cases hlt : i < l.length
        · obtain ⟨b, rfl, hb⟩ := h3.fresh.at hlt
          have hx : l[i]? = some l[i] := List.getElem?_eq_getElem hlt
          generalize l[i] = n at hx
          have hn := hodd i n hx
          have hbn := hb.1
          have hl1 : σ1.loadN b i 1 = some [i64 n] := by
            have := hb.2 i n hx 0 1 (by omega)
            rw [Nat.mul_one, Nat.add_zero] at this
            rw [e1k.load _ _ hbn]; exact this
          have hl : ∀ L, (τ.grow L).loadN b i 1 = some [i64 n] := fun L => by rw [(hmd.grow L).load _ _ (by omega) (by omega)]; exact hl1
          have hlt' : (i : Int) < (l.length : Int) := by omega
          have hcast : ((i + 1 : Nat) : Int) = (i : Int) + 1 := by omega
          have hbox : ∀ L o n, (τ.grow L).loadN σ.fresh.n o n = sliceL (stL S a1 f1 (some ⟨bt, 0, none⟩) f2) o n := fun L o n => by rw [(hmd.grow L).load _ _ (by omega) (by omega)]; exact e1b o n
          have hfit : ∀ L, (τ.grow L).t.get (σ.fresh.n + 2) = some (rowOf (thingL tt, 13)) := fun L => by rw [grow_old _ _ (by omega)]; exact hrow
          have hrl : ∀ L, (τ.grow L).loadN (σ.fresh.n + 2) 0 13 = some (thingL tt) := fun L => by rw [load_row (hfit L) (by simp)]; rfl
          by_cases g0 : i = 0
          · have g0' : ¬ (0 : Int) < (i : Int) := by omega
            obtain ⟨q1, q2, q3, q4⟩ := G.node hnt
            have hp := pw_le (b := tt.bits) (by omega) (by omega)
            have hstep := fun L => find_step_ok (d + S.th.length + 7) (τ.grow L) tt n (by omega) (by omega) hn.1
            by_cases g1 : n < pw tt.bits
            · have hsi : stepI tt n = tt.base + n := by unfold stepI; rw [if_pos g1]
              have hss : stepTo S t0 l (i + 1) = some (tt, tt.base + n) := by simp only [stepTo, hst, hx, if_pos g0, hsi]; rw [if_pos (by omega)]
              have g2 : ¬ tt.base + n < 0 := by omega
              simp (disch := omega) only [t37, t38, t39, t3, t8, t9, t10, hl, hlt', hlt, hcast, Int.toNat_natCast, Nat.mul_one, g0', hrl, hstep, g1, g2, hmd.grow, hss, r0_find_Slot, r1_find_Slot, r2_find_Slot, k1_find_Slot, r3_find_Slot, r4_find_Slot, r5_find_Slot, r6_find_Slot, r7_find_Slot, r8_find_Slot, r9_find_Slot, k9_find_Slot, r10_find_Slot, r11_find_Slot, k11_find_Slot, r12_find_Slot, k12_find_Slot, k10_find_Slot, k8_find_Slot, r13_find_Slot, k13_find_Slot, k7_find_Slot, k6_find_Slot, k5_find_Slot, r14_find_Slot, k14_find_Slot, k4_find_Slot, k3_find_Slot, k2_find_Slot, k0_find_Slot, b0_find_Slot, Za, Zb, Zc, Zd, Ze, Zf, Zg, Zh, Zi, Zj, Zk, Zl, Zm, Zn, Zo, Zp, Zq, Zr, Zs, Zt, Zu, Zv, Zw, Zx, Zy, Zz, ZA, ZB, ZC, ZD, ZE, ZF, ZG, ZH, ZI, ZJ, ZK, ZL, ZM, ZN, ZO, ZP, ZQ, ZR, ZS, ZT, ZU, ZV, ZW, ZX, ZY, ZZ, Z0, Z1, Z2, tget_ins, Z3, Z4, Z5, Z6, Z7, Z8, Z9, Ya, Yb, Yc, Yd, Ye, Yf, Yg, Yh, Yi, Yj, resAll, Yk, Yl, Ym, Yn, Yo, Yp, Yq, Yr, Ys, Yt, List.map_cons, List.map_nil, List.all_cons, List.all_nil, List.nil_append, List.cons_append, List.length_nil, List.length_cons, Nat.reduceAdd, Nat.reduceEqDiff, Nat.reduceLeDiff, Nat.zero_add, Nat.add_zero, Nat.reduceMul, ↓reduceIte, decide_true, decide_false, decide_eq_true_eq, Bool.not_true, Bool.not_false, Bool.and_true, Bool.and_self, Bool.and_false, Bool.false_and, Bool.true_and, Bool.or_true, Bool.true_or, Bool.or_false, Bool.false_or, Bool.not_eq_true', decide_eq_false_iff_not, Bool.false_eq_true, reduceCtorEq, and_self, and_true, true_and, false_and, and_false, not_true_eq_false, not_false_eq_true, Nat.reduceBEq, Yu, Yv, Yw, Yx, Yy, Yz, YA, YB, YC, YD, YE, YF, YG, YH, YI, YJ, YK, YL, YM, YN, YO, YP, YQ, YR, YS, YT, YU, YV, YW, YX, YY, YZ, Y0, Y1, Y2, Y3, Y4, Y5, Y6, Y7, Y8, Y9, Xa, Xb, Xc, Xd, Xe, Xf, Xg, Xh Xi, Xj Xi, Xk Xi, Xl Xi, Xm Xi, Xn Xi, Xo, Xp, aoper, Xq, Xr, Xs, Xt, Xu, Xv, Xw, Xx, Xy, Xz, XA, XB, XC, XD, XE, XF, XG, XH, XI, XJ, XK, XL, XM, XN, XO, XP, XQ, XR, XS, XT, XU, XV Xi, XW, List.set_cons_zero, List.set_cons_succ, Nat.reduceLT, Int.reduceEq, Int.reduceLT, Int.reduceLE, XX, XY, XZ, X0, X1, X2, X3, X4, X5, X6, X7, X8, X9, Va, Vb, Vc, Vd, Ve, Vf, Vg, Vh, Vi, Vj, Vk, Vl, Vm, Vn, Vo, Vp, Vq, Vr, Vs, Vt, Vu, Vv, Vw, Vx]
              exact ⟨tt, tt.base + n, rfl, rfl, hnt, hfit _, .inr ⟨by omega, q4 n hn.1 g1⟩⟩
            · have hsi : stepI tt n = -1 := by unfold stepI; rw [if_neg g1]
              have hno : stepTo S t0 l (i + 1) = none := by simp only [stepTo, hst, hx, if_pos g0, hsi]; rw [if_neg (by omega)]
              rw [stepTo_none hno _ (by omega)] at hs
              simp (disch := omega) only [t37, t38, t39, t3, t8, t9, t10, hl, hlt', Int.toNat_natCast, Nat.mul_one, g0', hrl, hstep, g1, hs, hmd.low, e1l, r0_find_Slot, r1_find_Slot, r2_find_Slot, k1_find_Slot, r3_find_Slot, r4_find_Slot, r5_find_Slot, r6_find_Slot, r7_find_Slot, r8_find_Slot, r9_find_Slot, k9_find_Slot, r10_find_Slot, r11_find_Slot, k11_find_Slot, r12_find_Slot, k12_find_Slot, k10_find_Slot, k8_find_Slot, r13_find_Slot, k13_find_Slot, k7_find_Slot, k6_find_Slot, k5_find_Slot, r14_find_Slot, k14_find_Slot, k4_find_Slot, k3_find_Slot, k2_find_Slot, k0_find_Slot, b0_find_Slot, Za, Zb, Zc, Zd, Ze, Zf, Zg, Zh, Zi, Zj, Zk, Zl, Zm, Zn, Zo, Zp, Zq, Zr, Zs, Zt, Zu, Zv, Zw, Zx, Zy, Zz, ZA, ZB, ZC, ZD, ZE, ZF, ZG, ZH, ZI, ZJ, ZK, ZL, ZM, ZN, ZO, ZP, ZQ, ZR, ZS, ZT, ZU, ZV, ZW, ZX, ZY, ZZ, Z0, Z1, Z2, tget_ins, Z3, Z4, Z5, Z6, Z7, Z8, Z9, Ya, Yb, Yc, Yd, Ye, Yf, Yg, Yh, Yi, Yj, resAll, Yk, Yl, Ym, Yn, Yo, Yp, Yq, Yr, Ys, Yt, List.map_cons, List.map_nil, List.all_cons, List.all_nil, List.nil_append, List.cons_append, List.length_nil, List.length_cons, Nat.reduceAdd, Nat.reduceEqDiff, Nat.reduceLeDiff, Nat.zero_add, Nat.add_zero, Nat.reduceMul, ↓reduceIte, decide_true, decide_false, decide_eq_true_eq, Bool.not_true, Bool.not_false, Bool.and_true, Bool.and_self, Bool.and_false, Bool.false_and, Bool.true_and, Bool.or_true, Bool.true_or, Bool.or_false, Bool.false_or, Bool.not_eq_true', decide_eq_false_iff_not, Bool.false_eq_true, reduceCtorEq, and_self, and_true, true_and, false_and, and_false, not_true_eq_false, not_false_eq_true, Nat.reduceBEq, Yu, Yv, Yw, Yx, Yy, Yz, YA, YB, YC, YD, YE, YF, YG, YH, YI, YJ, YK, YL, YM, YN, YO, YP, YQ, YR, YS, YT, YU, YV, YW, YX, YY, YZ, Y0, Y1, Y2, Y3, Y4, Y5, Y6, Y7, Y8, Y9, Xa, Xb, Xc, Xd, Xe, Xf, Xg, Xh Xi, Xj Xi, Xk Xi, Xl Xi, Xm Xi, Xn Xi, Xo, Xp, aoper, Xq, Xr, Xs, Xt, Xu, Xv, Xw, Xx, Xy, Xz, XA, XB, XC, XD, XE, XF, XG, XH, XI, XJ, XK, XL, XM, XN, XO, XP, XQ, XR, XS, XT, XU, XV Xi, XW, List.set_cons_zero, List.set_cons_succ, Nat.reduceLT, Int.reduceEq, Int.reduceLT, Int.reduceLE, XX, XY, XZ, X0, X1, X2, X3, X4, X5, X6, X7, X8, X9, Va, Vb, Vc, Vd, Ve, Vf, Vg, Vh, Vi, Vj, Vk, Vl, Vm, Vn, Vo, Vp, Vq, Vr, Vs, Vt, Vu, Vv, Vw, Vx]
          · have g0' : (0 : Int) < (i : Int) := by omega
            obtain ⟨x, x1, x2⟩ := atI_some (l := S.sl) (z := z) (by omega) (by omega)
            have h1τ : SlS (τ.grow []) a1 S.sl := h1.fresh.mod e1k (by omega) (hmd.grow [])
            have h2τ : SlT (τ.grow []) (some ⟨bt, 0, none⟩) S.th := h2.fresh.mod e1k (by omega) (hmd.grow [])
            have hthr := find_through_ok (d + S.th.length + 3) (τ.grow []) S a1 f1 (some ⟨bt, 0, none⟩) f2 z x h1τ h2τ x1 (fun h => by obtain ⟨_, _, _, u1, u2, _⟩ := G.link x2 h; exact ⟨u1, u2⟩)
            obtain ⟨τ', s1, s2, s3, s4⟩ := Mod.store (o := 0) (vs := thingL (thrT S x)) (hfit []) (by rw [Yk, hmd.low, e1l]; omega) (by simp) rfl
            rw [Y9] at s2
            have hrl' : ∀ L, (τ'.grow L).loadN (σ.fresh.n + 2) 0 13 = some (thingL (thrT S x)) := fun L => by
              rw [load_row (l := thingL (thrT S x)) (e := 13) (by rw [grow_old _ _ (by rw [s4, grow_n]; omega)]; exact s2) (by simp)]; rfl
            have hrl0 := hrl' []
            rw [grow_nil] at hrl0
            have htz : thrTz S z = thrT S x := by unfold thrTz; rw [x1]
            have hbz : thrBz S z = thrB x := by unfold thrBz; rw [x1]
            cases g3 : thrB x with
            | false =>
              have hno : stepTo S t0 l (i + 1) = none := by simp only [stepTo, hst, hx, if_neg g0, hbz, g3]; rfl
              rw [stepTo_none hno _ (by omega)] at hs
              simp (disch := omega) only [t37, t38, t39, t3, t8, t9, t10, hl, hlt', Int.toNat_natCast, Nat.mul_one, g0', hbox, hthr, g3, s1, hs, s3.low, hmd.low, e1l, r0_find_Slot, r1_find_Slot, r2_find_Slot, k1_find_Slot, r3_find_Slot, r4_find_Slot, r5_find_Slot, r6_find_Slot, r7_find_Slot, r8_find_Slot, r9_find_Slot, k9_find_Slot, r10_find_Slot, r11_find_Slot, k11_find_Slot, r12_find_Slot, k12_find_Slot, k10_find_Slot, k8_find_Slot, r13_find_Slot, k13_find_Slot, k7_find_Slot, k6_find_Slot, k5_find_Slot, r14_find_Slot, k14_find_Slot, k4_find_Slot, k3_find_Slot, k2_find_Slot, k0_find_Slot, b0_find_Slot, Za, Zb, Zc, Zd, Ze, Zf, Zg, Zh, Zi, Zj, Zk, Zl, Zm, Zn, Zo, Zp, Zq, Zr, Zs, Zt, Zu, Zv, Zw, Zx, Zy, Zz, ZA, ZB, ZC, ZD, ZE, ZF, ZG, ZH, ZI, ZJ, ZK, ZL, ZM, ZN, ZO, ZP, ZQ, ZR, ZS, ZT, ZU, ZV, ZW, ZX, ZY, ZZ, Z0, Z1, Z2, tget_ins, Z3, Z4, Z5, Z6, Z7, Z8, Z9, Ya, Yb, Yc, Yd, Ye, Yf, Yg, Yh, Yi, Yj, resAll, Yk, Yl, Ym, Yn, Yo, Yp, Yq, Yr, Ys, Yt, List.map_cons, List.map_nil, List.all_cons, List.all_nil, List.nil_append, List.cons_append, List.length_nil, List.length_cons, Nat.reduceAdd, Nat.reduceEqDiff, Nat.reduceLeDiff, Nat.zero_add, Nat.add_zero, Nat.reduceMul, ↓reduceIte, decide_true, decide_false, decide_eq_true_eq, Bool.not_true, Bool.not_false, Bool.and_true, Bool.and_self, Bool.and_false, Bool.false_and, Bool.true_and, Bool.or_true, Bool.true_or, Bool.or_false, Bool.false_or, Bool.not_eq_true', decide_eq_false_iff_not, Bool.false_eq_true, reduceCtorEq, and_self, and_true, true_and, false_and, and_false, not_true_eq_false, not_false_eq_true, Nat.reduceBEq, Yu, Yv, Yw, Yx, Yy, Yz, YA, YB, YC, YD, YE, YF, YG, YH, YI, YJ, YK, YL, YM, YN, YO, YP, YQ, YR, YS, YT, YU, YV, YW, YX, YY, YZ, Y0, Y1, Y2, Y3, Y4, Y5, Y6, Y7, Y8, Y9, Xa, Xb, Xc, Xd, Xe, Xf, Xg, Xh Xi, Xj Xi, Xk Xi, Xl Xi, Xm Xi, Xn Xi, Xo, Xp, aoper, Xq, Xr, Xs, Xt, Xu, Xv, Xw, Xx, Xy, Xz, XA, XB, XC, XD, XE, XF, XG, XH, XI, XJ, XK, XL, XM, XN, XO, XP, XQ, XR, XS, XT, XU, XV Xi, XW, List.set_cons_zero, List.set_cons_succ, Nat.reduceLT, Int.reduceEq, Int.reduceLT, Int.reduceLE, XX, XY, XZ, X0, X1, X2, X3, X4, X5, X6, X7, X8, X9, Va, Vb, Vc, Vd, Ve, Vf, Vg, Vh, Vi, Vj, Vk, Vl, Vm, Vn, Vo, Vp, Vq, Vr, Vs, Vt, Vu, Vv, Vw, Vx]
            | true =>
              have g3' := g3
              unfold thrB at g3'
              simp only [Bool.and_eq_true, decide_eq_true_eq] at g3'
              obtain ⟨y, y1, y2, _, _, y5⟩ := G.link x2 g3'.1
              have hty : thrT S x = y := by unfold thrT; rw [if_pos g3', y1]
              rw [hty] at hthr s1 s2 hrl0 htz
              obtain ⟨q1, q2, q3, q4⟩ := G.node y5
              have hp := pw_le (b := y.bits) (by omega) (by omega)
              have hstep := find_step_ok (d + S.th.length + 7) τ' y n (by omega) (by omega) hn.1
              by_cases g1 : n < pw y.bits
              · have hsi : stepI y n = y.base + n := by unfold stepI; rw [if_pos g1]
                have hss : stepTo S t0 l (i + 1) = some (y, y.base + n) := by simp only [stepTo, hst, hx, if_neg g0, hbz, g3, htz, hsi]; rw [if_pos ⟨trivial, by omega⟩]
                have g2 : ¬ y.base + n < 0 := by omega
                have hm' := (hmd.grow []).trans s3
                simp (disch := omega) only [t37, t38, t39, t3, t8, t9, t10, hl, hlt', hlt, hcast, Int.toNat_natCast, Nat.mul_one, g0', hbox, hthr, g3, s1, hrl0, hstep, g1, g2, hm', hss, r0_find_Slot, r1_find_Slot, r2_find_Slot, k1_find_Slot, r3_find_Slot, r4_find_Slot, r5_find_Slot, r6_find_Slot, r7_find_Slot, r8_find_Slot, r9_find_Slot, k9_find_Slot, r10_find_Slot, r11_find_Slot, k11_find_Slot, r12_find_Slot, k12_find_Slot, k10_find_Slot, k8_find_Slot, r13_find_Slot, k13_find_Slot, k7_find_Slot, k6_find_Slot, k5_find_Slot, r14_find_Slot, k14_find_Slot, k4_find_Slot, k3_find_Slot, k2_find_Slot, k0_find_Slot, b0_find_Slot, Za, Zb, Zc, Zd, Ze, Zf, Zg, Zh, Zi, Zj, Zk, Zl, Zm, Zn, Zo, Zp, Zq, Zr, Zs, Zt, Zu, Zv, Zw, Zx, Zy, Zz, ZA, ZB, ZC, ZD, ZE, ZF, ZG, ZH, ZI, ZJ, ZK, ZL, ZM, ZN, ZO, ZP, ZQ, ZR, ZS, ZT, ZU, ZV, ZW, ZX, ZY, ZZ, Z0, Z1, Z2, tget_ins, Z3, Z4, Z5, Z6, Z7, Z8, Z9, Ya, Yb, Yc, Yd, Ye, Yf, Yg, Yh, Yi, Yj, resAll, Yk, Yl, Ym, Yn, Yo, Yp, Yq, Yr, Ys, Yt, List.map_cons, List.map_nil, List.all_cons, List.all_nil, List.nil_append, List.cons_append, List.length_nil, List.length_cons, Nat.reduceAdd, Nat.reduceEqDiff, Nat.reduceLeDiff, Nat.zero_add, Nat.add_zero, Nat.reduceMul, ↓reduceIte, decide_true, decide_false, decide_eq_true_eq, Bool.not_true, Bool.not_false, Bool.and_true, Bool.and_self, Bool.and_false, Bool.false_and, Bool.true_and, Bool.or_true, Bool.true_or, Bool.or_false, Bool.false_or, Bool.not_eq_true', decide_eq_false_iff_not, Bool.false_eq_true, reduceCtorEq, and_self, and_true, true_and, false_and, and_false, not_true_eq_false, not_false_eq_true, Nat.reduceBEq, Yu, Yv, Yw, Yx, Yy, Yz, YA, YB, YC, YD, YE, YF, YG, YH, YI, YJ, YK, YL, YM, YN, YO, YP, YQ, YR, YS, YT, YU, YV, YW, YX, YY, YZ, Y0, Y1, Y2, Y3, Y4, Y5, Y6, Y7, Y8, Y9, Xa, Xb, Xc, Xd, Xe, Xf, Xg, Xh Xi, Xj Xi, Xk Xi, Xl Xi, Xm Xi, Xn Xi, Xo, Xp, aoper, Xq, Xr, Xs, Xt, Xu, Xv, Xw, Xx, Xy, Xz, XA, XB, XC, XD, XE, XF, XG, XH, XI, XJ, XK, XL, XM, XN, XO, XP, XQ, XR, XS, XT, XU, XV Xi, XW, List.set_cons_zero, List.set_cons_succ, Nat.reduceLT, Int.reduceEq, Int.reduceLT, Int.reduceLE, XX, XY, XZ, X0, X1, X2, X3, X4, X5, X6, X7, X8, X9, Va, Vb, Vc, Vd, Ve, Vf, Vg, Vh, Vi, Vj, Vk, Vl, Vm, Vn, Vo, Vp, Vq, Vr, Vs, Vt, Vu, Vv, Vw, Vx]
                exact ⟨y, y.base + n, rfl, rfl, y5, s2, .inr ⟨by omega, q4 n hn.1 g1⟩⟩
              · have hsi : stepI y n = -1 := by unfold stepI; rw [if_neg g1]
                have hno : stepTo S t0 l (i + 1) = none := by simp only [stepTo, hst, hx, if_neg g0, hbz, g3, htz, hsi]; rw [if_neg (by omega)]
                rw [stepTo_none hno _ (by omega)] at hs
                simp (disch := omega) only [t37, t38, t39, t3, t8, t9, t10, hl, hlt', Int.toNat_natCast, Nat.mul_one, g0', hbox, hthr, g3, s1, hrl0, hstep, g1, hs, s3.low, hmd.low, e1l, r0_find_Slot, r1_find_Slot, r2_find_Slot, k1_find_Slot, r3_find_Slot, r4_find_Slot, r5_find_Slot, r6_find_Slot, r7_find_Slot, r8_find_Slot, r9_find_Slot, k9_find_Slot, r10_find_Slot, r11_find_Slot, k11_find_Slot, r12_find_Slot, k12_find_Slot, k10_find_Slot, k8_find_Slot, r13_find_Slot, k13_find_Slot, k7_find_Slot, k6_find_Slot, k5_find_Slot, r14_find_Slot, k14_find_Slot, k4_find_Slot, k3_find_Slot, k2_find_Slot, k0_find_Slot, b0_find_Slot, Za, Zb, Zc, Zd, Ze, Zf, Zg, Zh, Zi, Zj, Zk, Zl, Zm, Zn, Zo, Zp, Zq, Zr, Zs, Zt, Zu, Zv, Zw, Zx, Zy, Zz, ZA, ZB, ZC, ZD, ZE, ZF, ZG, ZH, ZI, ZJ, ZK, ZL, ZM, ZN, ZO, ZP, ZQ, ZR, ZS, ZT, ZU, ZV, ZW, ZX, ZY, ZZ, Z0, Z1, Z2, tget_ins, Z3, Z4, Z5, Z6, Z7, Z8, Z9, Ya, Yb, Yc, Yd, Ye, Yf, Yg, Yh, Yi, Yj, resAll, Yk, Yl, Ym, Yn, Yo, Yp, Yq, Yr, Ys, Yt, List.map_cons, List.map_nil, List.all_cons, List.all_nil, List.nil_append, List.cons_append, List.length_nil, List.length_cons, Nat.reduceAdd, Nat.reduceEqDiff, Nat.reduceLeDiff, Nat.zero_add, Nat.add_zero, Nat.reduceMul, ↓reduceIte, decide_true, decide_false, decide_eq_true_eq, Bool.not_true, Bool.not_false, Bool.and_true, Bool.and_self, Bool.and_false, Bool.false_and, Bool.true_and, Bool.or_true, Bool.true_or, Bool.or_false, Bool.false_or, Bool.not_eq_true', decide_eq_false_iff_not, Bool.false_eq_true, reduceCtorEq, and_self, and_true, true_and, false_and, and_false, not_true_eq_false, not_false_eq_true, Nat.reduceBEq, Yu, Yv, Yw, Yx, Yy, Yz, YA, YB, YC, YD, YE, YF, YG, YH, YI, YJ, YK, YL, YM, YN, YO, YP, YQ, YR, YS, YT, YU, YV, YW, YX, YY, YZ, Y0, Y1, Y2, Y3, Y4, Y5, Y6, Y7, Y8, Y9, Xa, Xb, Xc, Xd, Xe, Xf, Xg, Xh Xi, Xj Xi, Xk Xi, Xl Xi, Xm Xi, Xn Xi, Xo, Xp, aoper, Xq, Xr, Xs, Xt, Xu, Xv, Xw, Xx, Xy, Xz, XA, XB, XC, XD, XE, XF, XG, XH, XI, XJ, XK, XL, XM, XN, XO, XP, XQ, XR, XS, XT, XU, XV Xi, XW, List.set_cons_zero, List.set_cons_succ, Nat.reduceLT, Int.reduceEq, Int.reduceLT, Int.reduceLE, XX, XY, XZ, X0, X1, X2, X3, X4, X5, X6, X7, X8, X9, Va, Vb, Vc, Vd, Ve, Vf, Vg, Vh, Vi, Vj, Vk, Vl, Vm, Vn, Vo, Vp, Vq, Vr, Vs, Vt, Vu, Vv, Vw, Vx]
        · have hlt' : ¬ (i : Int) < (l.length : Int) := by omega
          have hii : i = l.length := by omega
          rw [hii] at hst
          rw [hst] at hs
          simp (disch := omega) only [t37, t38, t39, t10, hlt', hs, hmd.low, e1l, r0_find_Slot, r1_find_Slot, r2_find_Slot, k1_find_Slot, r3_find_Slot, r4_find_Slot, r5_find_Slot, r6_find_Slot, r7_find_Slot, r8_find_Slot, r9_find_Slot, k9_find_Slot, r10_find_Slot, r11_find_Slot, k11_find_Slot, r12_find_Slot, k12_find_Slot, k10_find_Slot, k8_find_Slot, r13_find_Slot, k13_find_Slot, k7_find_Slot, k6_find_Slot, k5_find_Slot, r14_find_Slot, k14_find_Slot, k4_find_Slot, k3_find_Slot, k2_find_Slot, k0_find_Slot, b0_find_Slot, Za, Zb, Zc, Zd, Ze, Zf, Zg, Zh, Zi, Zj, Zk, Zl, Zm, Zn, Zo, Zp, Zq, Zr, Zs, Zt, Zu, Zv, Zw, Zx, Zy, Zz, ZA, ZB, ZC, ZD, ZE, ZF, ZG, ZH, ZI, ZJ, ZK, ZL, ZM, ZN, ZO, ZP, ZQ, ZR, ZS, ZT, ZU, ZV, ZW, ZX, ZY, ZZ, Z0, Z1, Z2, tget_ins, Z3, Z4, Z5, Z6, Z7, Z8, Z9, Ya, Yb, Yc, Yd, Ye, Yf, Yg, Yh, Yi, Yj, resAll, Yk, Yl, Ym, Yn, Yo, Yp, Yq, Yr, Ys, Yt, List.map_cons, List.map_nil, List.all_cons, List.all_nil, List.nil_append, List.cons_append, List.length_nil, List.length_cons, Nat.reduceAdd, Nat.reduceEqDiff, Nat.reduceLeDiff, Nat.zero_add, Nat.add_zero, Nat.reduceMul, ↓reduceIte, decide_true, decide_false, decide_eq_true_eq, Bool.not_true, Bool.not_false, Bool.and_true, Bool.and_self, Bool.and_false, Bool.false_and, Bool.true_and, Bool.or_true, Bool.true_or, Bool.or_false, Bool.false_or, Bool.not_eq_true', decide_eq_false_iff_not, Bool.false_eq_true, reduceCtorEq, and_self, and_true, true_and, false_and, and_false, not_true_eq_false, not_false_eq_true, Nat.reduceBEq, Yu, Yv, Yw, Yx, Yy, Yz, YA, YB, YC, YD, YE, YF, YG, YH, YI, YJ, YK, YL, YM, YN, YO, YP, YQ, YR, YS, YT, YU, YV, YW, YX, YY, YZ, Y0, Y1, Y2, Y3, Y4, Y5, Y6, Y7, Y8, Y9, Xa, Xb, Xc, Xd, Xe, Xf, Xg, Xh Xi, Xj Xi, Xk Xi, Xl Xi, Xm Xi, Xn Xi, Xo, Xp, aoper, Xq, Xr, Xs, Xt, Xu, Xv, Xw, Xx, Xy, Xz, XA, XB, XC, XD, XE, XF, XG, XH, XI, XJ, XK, XL, XM, XN, XO, XP, XQ, XR, XS, XT, XU, XV Xi, XW, List.set_cons_zero, List.set_cons_succ, Nat.reduceLT, Int.reduceEq, Int.reduceLT, Int.reduceLE, XX, XY, XZ, X0, X1, X2, X3, X4, X5, X6, X7, X8, X9, Va, Vb, Vc, Vd, Ve, Vf, Vg, Vh, Vi, Vj, Vk, Vl, Vm, Vn, Vo, Vp, Vq, Vr, Vs, Vt, Vu, Vv, Vw, Vx]
    · have hs : slotF S thread l = (0, 1) := by unfold slotF; rw [if_neg (by intro h; exact c2 h.2.1)]
      simp (disch := omega) only [hgood, c1, find_in_ok, c2, hs, r0_find_Slot, r1_find_Slot, r2_find_Slot, k1_find_Slot, r3_find_Slot, r4_find_Slot, r5_find_Slot, r6_find_Slot, r7_find_Slot, r8_find_Slot, r9_find_Slot, k9_find_Slot, r10_find_Slot, r11_find_Slot, k11_find_Slot, r12_find_Slot, k12_find_Slot, k10_find_Slot, k8_find_Slot, r13_find_Slot, k13_find_Slot, k7_find_Slot, k6_find_Slot, k5_find_Slot, r14_find_Slot, k14_find_Slot, k4_find_Slot, k3_find_Slot, k2_find_Slot, k0_find_Slot, c_find_Slot, Za, Zb, Zc, Zd, Ze, Zf, Zg, Zh, Zi, Zj, Zk, Zl, Zm, Zn, Zo, Zp, Zq, Zr, Zs, Zt, Zu, Zv, Zw, Zx, Zy, Zz, ZA, ZB, ZC, ZD, ZE, ZF, ZG, ZH, ZI, ZJ, ZK, ZL, ZM, ZN, ZO, ZP, ZQ, ZR, ZS, ZT, ZU, ZV, ZW, ZX, ZY, ZZ, Z0, Z1, Z2, tget_ins, Z3, Z4, Z5, Z6, Z7, Z8, Z9, Ya, Yb, Yc, Yd, Ye, Yf, Yg, Yh, Yi, Yj, resAll, Yk, Yl, Ym, Yn, Yo, Yp, Yq, Yr, Ys, Yt, List.map_cons, List.map_nil, List.all_cons, List.all_nil, List.nil_append, List.cons_append, List.length_nil, List.length_cons, Nat.reduceAdd, Nat.reduceEqDiff, Nat.reduceLeDiff, Nat.zero_add, Nat.add_zero, Nat.reduceMul, ↓reduceIte, decide_true, decide_false, decide_eq_true_eq, Bool.not_true, Bool.not_false, Bool.and_true, Bool.and_self, Bool.and_false, Bool.false_and, Bool.true_and, Bool.or_true, Bool.true_or, Bool.or_false, Bool.false_or, Bool.not_eq_true', decide_eq_false_iff_not, Bool.false_eq_true, reduceCtorEq, and_self, and_true, true_and, false_and, and_false, not_true_eq_false, not_false_eq_true, Nat.reduceBEq, Yu, Yv, Yw, Yx, Yy, Yz, YA, YB, YC, YD, YE, YF, YG, YH, YI, YJ, YK, YL, YM, YN, YO, YP, YQ, YR, YS, YT, YU, YV, YW, YX, YY, YZ, Y0, Y1, Y2, Y3, Y4, Y5, Y6, Y7, Y8, Y9, Xa, Xb, Xc, Xd, Xe, Xf, Xg, Xh Xi, Xj Xi, Xk Xi, Xl Xi, Xm Xi, Xn Xi, Xo, Xp, aoper, Xq, Xr, Xs, Xt, Xu, Xv, Xw, Xx, Xy, Xz, XA, XB, XC, XD, XE, XF, XG, XH, XI, XJ, XK, XL, XM, XN, XO, XP, XQ, XR, XS, XT, XU, XV Xi, XW, List.set_cons_zero, List.set_cons_succ, Nat.reduceLT, Int.reduceEq, Int.reduceLT, Int.reduceLE, XX, XY, XZ, X0, X1, X2, X3, X4, X5, X6, X7, X8, X9, Va, Vb, Vc, Vd, Ve, Vf, Vg, Vh, Vi, Vj, Vk, Vl, Vm, Vn, Vo, Vp, Vq, Vr, Vs, Vt, Vu, Vv, Vw, Vx]
end Go.Proofs.Ytphbidcbepnihaa
