/-
  What the functions Cap and Empty of the package find answer. No condition but what they say.
-/
import Derived.Test.YtphbidcbepnihaaT16
namespace Go.Proofs.Ytphbidcbepnihaa
open Go Go.Hai
set_option maxRecDepth 20000
set_option linter.unusedSimpArgs false
set_option maxHeartbeats 8000000
attribute [local irreducible] Hai.Ends EndsR EndsO EndsD EndsX AHeap.grow
def r0_find_Cap : List AOper := [(.mk (some 3) none (.box 5 (.tmp 0))), (.mk (some 5) none (.box 1 (.tmp 2))), (.mk (some 6) none (.mv (.const (.int .i64 0)))), (.mk (some 7) none (.alloc [(.int .i64 0), (.int .i64 0), (.int .i64 0), (.int .i64 0)] 4)), (.mk (some 8) none (.mv (.const (.int .i64 0))))]
def r1_find_Cap : List AOper := [(.mk (some 12) none (.load true 5 (.tmp 3))), (.mk (some 13) none (.mv (.tmp 1))), (.mk (some 14) none (.load true 1 (.tmp 5))), (.mk (some 15) none (.call 11 [(.tmp 12), (.tmp 13), (.tmp 14)])), (.mk (some 11) none (.mv (.tmp 15))), (.mk (some 16) none (.ext (.tmp 11) 0)), (.mk (some 17) none (.ext (.tmp 11) 1)), (.mk (some 9) none (.mv (.tmp 16))), (.mk (some 10) none (.mv (.tmp 17)))]
def r2_find_Cap : List AOper := [(.mk (some 19) none (.mv (.tmp 10))), (.mk (some 20) none (.bin .neq (.tmp 19) (.const (.int .i64 0)))), (.mk (some 18) none (.mv (.tmp 20)))]
def r3_find_Cap : List AOper := [(.mk (some 21) none (.build [(.int .i64 0), (.int .i64 0), (.int .i64 0), (.int .i64 0)] [])), (.mk (some 22) none (.mv (.tmp 10))), (.mk (some 6) none (.mv (.const (.int .i64 0)))), (.mk none none (.store 4 (.tmp 7) (.tmp 21))), (.mk (some 8) none (.mv (.tmp 22)))]
def r4_find_Cap : List AOper := [(.mk (some 24) none (.fldA 3 (.tmp 3))), (.mk (some 25) none (.load false 1 (.tmp 24))), (.mk (some 26) none (.mv (.tmp 9))), (.mk (some 27) none (.idxA 5 (.tmp 25) (.tmp 26))), (.mk (some 28) none (.fldA 0 (.tmp 27))), (.mk (some 29) none (.load true 4 (.tmp 28))), (.mk (some 30) none (.call 40 [(.tmp 29)])), (.mk (some 23) none (.mv (.tmp 30)))]
def r5_find_Cap : List AOper := [(.mk (some 31) none (.build [(.int .i64 0), (.int .i64 0), (.int .i64 0), (.int .i64 0)] [])), (.mk (some 6) none (.mv (.const (.int .i64 0)))), (.mk none none (.store 4 (.tmp 7) (.tmp 31))), (.mk (some 8) none (.mv (.const (.int .i64 4))))]
def k3_find_Cap : ACode := (.cond (.tmp 23) (.seq (.reg r5_find_Cap) .ret) .skip)
def k2_find_Cap : ACode := (.cond (.tmp 18) (.seq (.reg r3_find_Cap) .ret) (.seq (.reg r4_find_Cap) k3_find_Cap))
def r6_find_Cap : List AOper := [(.mk (some 32) none (.mv (.tmp 9))), (.mk (some 33) none (.fldA 3 (.tmp 3))), (.mk (some 34) none (.load false 1 (.tmp 33))), (.mk (some 35) none (.mv (.tmp 9))), (.mk (some 36) none (.idxA 5 (.tmp 34) (.tmp 35))), (.mk (some 37) none (.fldA 0 (.tmp 36))), (.mk (some 38) none (.load true 4 (.tmp 37))), (.mk (some 6) none (.mv (.tmp 32))), (.mk none none (.store 4 (.tmp 7) (.tmp 38))), (.mk (some 8) none (.mv (.const (.int .i64 0))))]
def k4_find_Cap : ACode := (.seq (.drw r6_find_Cap [0, 0, 2, 0, 14, 30, 62, 1, 255, 511]) .ret)
def k1_find_Cap : ACode := (.seq (.block 0 (.seq (.reg r2_find_Cap) k2_find_Cap)) k4_find_Cap)
def k0_find_Cap : ACode := (.seq (.reg r1_find_Cap) k1_find_Cap)
def c_find_Cap : ACode := (.seq (.reg r0_find_Cap) k0_find_Cap)
theorem e_find_Cap : ofProg Try.prog 12 = some ⟨39, [(.tmp 6), (.cell 7 true 4), (.tmp 8)], c_find_Cap⟩ := by kernel_rfl
def r0_find_Empty : List AOper := [(.mk (some 3) none (.box 5 (.tmp 0))), (.mk (some 5) none (.box 1 (.tmp 2))), (.mk (some 6) none (.mv (.const (.int .i64 0)))), (.mk (some 7) none (.mv (.const (.int .i64 0))))]
def r1_find_Empty : List AOper := [(.mk (some 11) none (.load true 5 (.tmp 3))), (.mk (some 12) none (.mv (.tmp 1))), (.mk (some 13) none (.load true 1 (.tmp 5))), (.mk (some 14) none (.call 11 [(.tmp 11), (.tmp 12), (.tmp 13)])), (.mk (some 10) none (.mv (.tmp 14))), (.mk (some 15) none (.ext (.tmp 10) 0)), (.mk (some 16) none (.ext (.tmp 10) 1)), (.mk (some 8) none (.mv (.tmp 15))), (.mk (some 9) none (.mv (.tmp 16)))]
def r2_find_Empty : List AOper := [(.mk (some 18) none (.mv (.tmp 9))), (.mk (some 19) none (.bin .neq (.tmp 18) (.const (.int .i64 0)))), (.mk (some 17) none (.mv (.tmp 19)))]
def r3_find_Empty : List AOper := [(.mk (some 20) none (.mv (.tmp 9))), (.mk (some 6) none (.mv (.const (.int .i64 0)))), (.mk (some 7) none (.mv (.tmp 20)))]
def r4_find_Empty : List AOper := [(.mk (some 22) none (.fldA 3 (.tmp 3))), (.mk (some 23) none (.load false 1 (.tmp 22))), (.mk (some 24) none (.mv (.tmp 8))), (.mk (some 25) none (.idxA 5 (.tmp 23) (.tmp 24))), (.mk (some 26) none (.fldA 0 (.tmp 25))), (.mk (some 27) none (.load true 4 (.tmp 26))), (.mk (some 28) none (.call 40 [(.tmp 27)])), (.mk (some 29) none (.un .not (.tmp 28))), (.mk (some 21) none (.mv (.tmp 29)))]
def r5_find_Empty : List AOper := [(.mk (some 6) none (.mv (.const (.int .i64 0)))), (.mk (some 7) none (.mv (.const (.int .i64 5))))]
def k3_find_Empty : ACode := (.cond (.tmp 21) (.seq (.reg r5_find_Empty) .ret) .skip)
def k2_find_Empty : ACode := (.cond (.tmp 17) (.seq (.reg r3_find_Empty) .ret) (.seq (.reg r4_find_Empty) k3_find_Empty))
def r6_find_Empty : List AOper := [(.mk (some 30) none (.mv (.tmp 8))), (.mk (some 6) none (.mv (.tmp 30))), (.mk (some 7) none (.mv (.const (.int .i64 0))))]
def k4_find_Empty : ACode := (.seq (.reg r6_find_Empty) .ret)
def k1_find_Empty : ACode := (.seq (.block 0 (.seq (.reg r2_find_Empty) k2_find_Empty)) k4_find_Empty)
def k0_find_Empty : ACode := (.seq (.reg r1_find_Empty) k1_find_Empty)
def c_find_Empty : ACode := (.seq (.reg r0_find_Empty) k0_find_Empty)
theorem e_find_Empty : ofProg Try.prog 13 = some ⟨31, [(.tmp 6), (.tmp 7)], c_find_Empty⟩ := by kernel_rfl

theorem stepTo_in {S : StD} (G : GoodF S) {t0 : ThingD} (h0 : NodeIn S t0) {l : List Int} (hl : ∀ (i : Nat) (n : Int), l[i]? = some n → 0 ≤ n) : ∀ {i : Nat} {t : ThingD} {z : Int}, i ≤ l.length → stepTo S t0 l i = some (t, z) → NodeIn S t ∧ (i = 0 ∨ 0 ≤ z ∧ z < S.sl.length) := by
  intro i
  induction i with
  | zero => intro t z _ h; simp only [stepTo, Option.some.injEq, Prod.mk.injEq] at h; exact ⟨h.1 ▸ h0, .inl rfl⟩
  | succ i ih =>
    intro t z hi h
    have hx : l[i]? = some l[i] := List.getElem?_eq_getElem (by omega)
    have hn := hl i _ hx
    generalize l[i] = n at hx hn
    have fin : ∀ t', NodeIn S t' → 0 ≤ stepI t' n → 0 ≤ stepI t' n ∧ stepI t' n < S.sl.length := fun t' ht' hs => by
      obtain ⟨_, q2, _, q4⟩ := G.node ht'
      refine ⟨hs, ?_⟩
      unfold stepI at hs ⊢
      split at hs
      · next hlt => rw [if_pos hlt]; exact q4 n hn hlt
      · omega
    simp only [stepTo] at h
    split at h
    · cases h
    · next t1 z1 h1 =>
      obtain ⟨i1, i2⟩ := ih (by omega) h1
      rw [hx] at h
      simp only at h
      split at h
      · split at h
        · next hs =>
          simp only [Option.some.injEq, Prod.mk.injEq] at h
          rw [← h.1, ← h.2]
          exact ⟨i1, .inr (fin _ i1 hs)⟩
        · cases h
      · next hne =>
        split at h
        · next hs =>
          simp only [Option.some.injEq, Prod.mk.injEq] at h
          have hz := i2.resolve_left hne
          obtain ⟨x, x1, x2⟩ := atI_some (l := S.sl) hz.1 hz.2
          have hb : thrB x = true := by have := hs.1; unfold thrBz at this; rw [x1] at this; exact this
          have hb' := hb
          unfold thrB at hb'
          simp only [Bool.and_eq_true, decide_eq_true_eq] at hb'
          obtain ⟨y, y1, _, _, _, y5⟩ := G.link x2 hb'.1
          have ht : thrTz S z1 = y := by
            unfold thrTz
            rw [x1]
            show thrT S x = y
            unfold thrT
            rw [if_pos hb', y1]
          rw [ht] at h hs
          rw [← h.1, ← h.2]
          exact ⟨y5, .inr (fin _ y5 hs.2)⟩
        · cases h
theorem slotF_in {S : StD} {thread : Int} {l : List Int} (h : (slotF S thread l).2 = 0) : 0 ≤ (slotF S thread l).1 ∧ (slotF S thread l).1 < S.sl.length := by
  unfold slotF at h ⊢
  split at h
  · next hc =>
    rw [if_pos hc]
    have G := goodF hc.1
    obtain ⟨t0, r1, r2, r3⟩ := G.root hc.2.1.1 hc.2.1.2
    have hrt : rootT S thread = t0 := by unfold rootT; rw [r1]
    rw [hrt] at h ⊢
    cases hs : stepTo S t0 l l.length with
    | none => rw [hs] at h; simp at h
    | some p =>
      obtain ⟨t, z⟩ := p
      have := stepTo_in G r3 (fun i n hn => (path_in hc.2.2 hn).1) (Nat.le_refl _) hs
      have hl : l.length ≠ 0 := by have := hc.2.2; unfold pathB at this; simp at this; omega
      exact this.2.resolve_left hl
  · simp at h
def slotAt (S : StD) (z : Int) : SlotD := match atI S.sl z with | some x => x | none => ⟨0, 0, 0, 0, 0⟩
def emptyF (S : StD) (thread : Int) (l : List Int) : Int × Int :=
  if (slotF S thread l).2 = 0 then (if capNone (slotAt S (slotF S thread l).1) = true then ((slotF S thread l).1, 0) else (0, 5)) else (0, (slotF S thread l).2)
def capF (S : StD) (thread : Int) (l : List Int) : Int × SlotD × Int :=
  if (slotF S thread l).2 = 0 then (if capNone (slotAt S (slotF S thread l).1) = true then (0, ⟨0, 0, 0, 0, 0⟩, 4) else ((slotF S thread l).1, slotAt S (slotF S thread l).1, 0)) else (0, ⟨0, 0, 0, 0, 0⟩, (slotF S thread l).2)
theorem find_Empty_ok (d : Nat) (σ : AHeap) (S : StD) (a1 : Option Addr) (f1 : Nat) (a2 : Option Addr) (f2 : Nat) (thread : Int) (l : List Int) (a : Option Addr) (f : Nat) (hd : σ.dead = []) (h1 : SlS σ a1 S.sl) (h2 : SlT σ a2 S.th) (h3 : SlI σ a l) :
    acall (ofProg Try.prog) 1000 (d + S.th.length + 10) 13 [stV S a1 f1 a2 f2, .int .i64 thread, .agg [.slice a l.length f].toArray] σ = some (.tuple [i64 (emptyF S thread l).1, i64 (emptyF S thread l).2].toArray, σ) := by
  refine acall_flat e_find_Empty (by simp) rfl ?_
  have hslot := fun L => find_Slot_ok d (σ.fresh.grow L) S a1 f1 a2 f2 thread l a f (by rw [grow_dead]; exact hd) (h1.fresh.grow L) (h2.fresh.grow L) (h3.fresh.grow L)
  by_cases c1 : (slotF S thread l).2 = 0
  · obtain ⟨q1, q2⟩ := slotF_in c1
    obtain ⟨x, x1, x2⟩ := atI_some q1 q2
    obtain ⟨b, rfl, hb⟩ := h1.fresh.at (i := (slotF S thread l).1.toNat) (by omega)
    have hl : ∀ L, (σ.fresh.grow L).loadN b ((slotF S thread l).1.toNat * 5) 4 = some (capL x) := fun L => by
      rw [load_old _ _ _ _ hb.1]; exact hb.2 _ _ x2 0 4 (by omega)
    have hsa : slotAt S (slotF S thread l).1 = x := by unfold slotAt; rw [x1]
    cases c2 : capNone x with
    | true =>
      have he : emptyF S thread l = ((slotF S thread l).1, 0) := by unfold emptyF; rw [if_pos c1, hsa, c2]; rfl
      simp (disch := omega) only [hslot, eq_true c1, q1, q2, hl, cap_None_ok, c2, he, r0_find_Empty, r1_find_Empty, r2_find_Empty, r3_find_Empty, r4_find_Empty, r5_find_Empty, k3_find_Empty, k2_find_Empty, r6_find_Empty, k4_find_Empty, k1_find_Empty, k0_find_Empty, c_find_Empty, Za, Zb, Zc, Zd, Ze, Zf, Zg, Zh, Zi, Zj, Zk, Zl, Zm, Zn, Zo, Zp, Zq, Zr, Zs, Zt, Zu, Zv, Zw, Zx, Zy, Zz, ZA, ZB, ZC, ZD, ZE, ZF, ZG, ZH, ZI, ZJ, ZK, ZL, ZM, ZN, ZO, ZP, ZQ, ZR, ZS, ZT, ZU, ZV, ZW, ZX, ZY, ZZ, Z0, Z1, Z2, tget_ins, Z3, Z4, Z5, Z6, Z7, Z8, Z9, Ya, Yb, Yc, Yd, Ye, Yf, Yg, Yh, Yi, Yj, resAll, Yk, Yl, Ym, Yn, Yo, Yp, Yq, Yr, Ys, Yt, List.map_cons, List.map_nil, List.all_cons, List.all_nil, List.nil_append, List.cons_append, List.length_nil, List.length_cons, Nat.reduceAdd, Nat.reduceEqDiff, Nat.reduceLeDiff, Nat.zero_add, Nat.add_zero, Nat.reduceMul, ↓reduceIte, decide_true, decide_false, decide_eq_true_eq, Bool.not_true, Bool.not_false, Bool.and_true, Bool.and_self, Bool.and_false, Bool.false_and, Bool.true_and, Bool.or_true, Bool.true_or, Bool.or_false, Bool.false_or, Bool.not_eq_true', decide_eq_false_iff_not, Bool.false_eq_true, reduceCtorEq, and_self, and_true, true_and, false_and, and_false, not_true_eq_false, not_false_eq_true, Nat.reduceBEq, Yu, Yv, Yw, Yx, Yy, Yz, YA, YB, YC, YD, YE, YF, YG, YH, YI, YJ, YK, YL, YM, YN, YO, YP, YQ, YR, YS, YT, YU, YV, YW, YX, YY, YZ, Y0, Y1, Y2, Y3, Y4, Y5, Y6, Y7, Y8, Y9, Xa, Xb, Xc, Xd, Xe, Xf, Xg, Xh Xi, Xj Xi, Xk Xi, Xl Xi, Xm Xi, Xn Xi, Xo, Xp, aoper, Xq, Xr, Xs, Xt, Xu, Xv, Xw, Xx, Xy, Xz, XA, XB, XC, XD, XE, XF, XG, XH, XI, XJ, XK, XL, XM, XN, XO, XP, XQ, XR, XS, XT, XU, XV Xi, XW, List.set_cons_zero, List.set_cons_succ, Nat.reduceLT, Int.reduceEq, Int.reduceLT, Int.reduceLE, XX, XY, XZ, X0, X1, X2, X3, X4, X5, X6, X7, X8, X9, Va, Vb, Vc, Vd, Ve, Vf, Vg, Vh, Vi, Vj, Vk, Vl, Vm, Vn, Vo, Vp, Vq, Vr, Vs, Vt, Vu, Vv, Vw, Vx]
    | false =>
      have he : emptyF S thread l = (0, 5) := by unfold emptyF; rw [if_pos c1, hsa, c2]; rfl
      simp (disch := omega) only [hslot, eq_true c1, q1, q2, hl, cap_None_ok, c2, he, r0_find_Empty, r1_find_Empty, r2_find_Empty, r3_find_Empty, r4_find_Empty, r5_find_Empty, k3_find_Empty, k2_find_Empty, r6_find_Empty, k4_find_Empty, k1_find_Empty, k0_find_Empty, c_find_Empty, Za, Zb, Zc, Zd, Ze, Zf, Zg, Zh, Zi, Zj, Zk, Zl, Zm, Zn, Zo, Zp, Zq, Zr, Zs, Zt, Zu, Zv, Zw, Zx, Zy, Zz, ZA, ZB, ZC, ZD, ZE, ZF, ZG, ZH, ZI, ZJ, ZK, ZL, ZM, ZN, ZO, ZP, ZQ, ZR, ZS, ZT, ZU, ZV, ZW, ZX, ZY, ZZ, Z0, Z1, Z2, tget_ins, Z3, Z4, Z5, Z6, Z7, Z8, Z9, Ya, Yb, Yc, Yd, Ye, Yf, Yg, Yh, Yi, Yj, resAll, Yk, Yl, Ym, Yn, Yo, Yp, Yq, Yr, Ys, Yt, List.map_cons, List.map_nil, List.all_cons, List.all_nil, List.nil_append, List.cons_append, List.length_nil, List.length_cons, Nat.reduceAdd, Nat.reduceEqDiff, Nat.reduceLeDiff, Nat.zero_add, Nat.add_zero, Nat.reduceMul, ↓reduceIte, decide_true, decide_false, decide_eq_true_eq, Bool.not_true, Bool.not_false, Bool.and_true, Bool.and_self, Bool.and_false, Bool.false_and, Bool.true_and, Bool.or_true, Bool.true_or, Bool.or_false, Bool.false_or, Bool.not_eq_true', decide_eq_false_iff_not, Bool.false_eq_true, reduceCtorEq, and_self, and_true, true_and, false_and, and_false, not_true_eq_false, not_false_eq_true, Nat.reduceBEq, Yu, Yv, Yw, Yx, Yy, Yz, YA, YB, YC, YD, YE, YF, YG, YH, YI, YJ, YK, YL, YM, YN, YO, YP, YQ, YR, YS, YT, YU, YV, YW, YX, YY, YZ, Y0, Y1, Y2, Y3, Y4, Y5, Y6, Y7, Y8, Y9, Xa, Xb, Xc, Xd, Xe, Xf, Xg, Xh Xi, Xj Xi, Xk Xi, Xl Xi, Xm Xi, Xn Xi, Xo, Xp, aoper, Xq, Xr, Xs, Xt, Xu, Xv, Xw, Xx, Xy, Xz, XA, XB, XC, XD, XE, XF, XG, XH, XI, XJ, XK, XL, XM, XN, XO, XP, XQ, XR, XS, XT, XU, XV Xi, XW, List.set_cons_zero, List.set_cons_succ, Nat.reduceLT, Int.reduceEq, Int.reduceLT, Int.reduceLE, XX, XY, XZ, X0, X1, X2, X3, X4, X5, X6, X7, X8, X9, Va, Vb, Vc, Vd, Ve, Vf, Vg, Vh, Vi, Vj, Vk, Vl, Vm, Vn, Vo, Vp, Vq, Vr, Vs, Vt, Vu, Vv, Vw, Vx]
  · have he : emptyF S thread l = (0, (slotF S thread l).2) := by unfold emptyF; rw [if_neg c1]
    simp (disch := omega) only [hslot, c1, he, r0_find_Empty, r1_find_Empty, r2_find_Empty, r3_find_Empty, r4_find_Empty, r5_find_Empty, k3_find_Empty, k2_find_Empty, r6_find_Empty, k4_find_Empty, k1_find_Empty, k0_find_Empty, c_find_Empty, Za, Zb, Zc, Zd, Ze, Zf, Zg, Zh, Zi, Zj, Zk, Zl, Zm, Zn, Zo, Zp, Zq, Zr, Zs, Zt, Zu, Zv, Zw, Zx, Zy, Zz, ZA, ZB, ZC, ZD, ZE, ZF, ZG, ZH, ZI, ZJ, ZK, ZL, ZM, ZN, ZO, ZP, ZQ, ZR, ZS, ZT, ZU, ZV, ZW, ZX, ZY, ZZ, Z0, Z1, Z2, tget_ins, Z3, Z4, Z5, Z6, Z7, Z8, Z9, Ya, Yb, Yc, Yd, Ye, Yf, Yg, Yh, Yi, Yj, resAll, Yk, Yl, Ym, Yn, Yo, Yp, Yq, Yr, Ys, Yt, List.map_cons, List.map_nil, List.all_cons, List.all_nil, List.nil_append, List.cons_append, List.length_nil, List.length_cons, Nat.reduceAdd, Nat.reduceEqDiff, Nat.reduceLeDiff, Nat.zero_add, Nat.add_zero, Nat.reduceMul, ↓reduceIte, decide_true, decide_false, decide_eq_true_eq, Bool.not_true, Bool.not_false, Bool.and_true, Bool.and_self, Bool.and_false, Bool.false_and, Bool.true_and, Bool.or_true, Bool.true_or, Bool.or_false, Bool.false_or, Bool.not_eq_true', decide_eq_false_iff_not, Bool.false_eq_true, reduceCtorEq, and_self, and_true, true_and, false_and, and_false, not_true_eq_false, not_false_eq_true, Nat.reduceBEq, Yu, Yv, Yw, Yx, Yy, Yz, YA, YB, YC, YD, YE, YF, YG, YH, YI, YJ, YK, YL, YM, YN, YO, YP, YQ, YR, YS, YT, YU, YV, YW, YX, YY, YZ, Y0, Y1, Y2, Y3, Y4, Y5, Y6, Y7, Y8, Y9, Xa, Xb, Xc, Xd, Xe, Xf, Xg, Xh Xi, Xj Xi, Xk Xi, Xl Xi, Xm Xi, Xn Xi, Xo, Xp, aoper, Xq, Xr, Xs, Xt, Xu, Xv, Xw, Xx, Xy, Xz, XA, XB, XC, XD, XE, XF, XG, XH, XI, XJ, XK, XL, XM, XN, XO, XP, XQ, XR, XS, XT, XU, XV Xi, XW, List.set_cons_zero, List.set_cons_succ, Nat.reduceLT, Int.reduceEq, Int.reduceLT, Int.reduceLE, XX, XY, XZ, X0, X1, X2, X3, X4, X5, X6, X7, X8, X9, Va, Vb, Vc, Vd, Ve, Vf, Vg, Vh, Vi, Vj, Vk, Vl, Vm, Vn, Vo, Vp, Vq, Vr, Vs, Vt, Vu, Vv, Vw, Vx]
theorem find_Cap_ok (d : Nat) (σ : AHeap) (S : StD) (a1 : Option Addr) (f1 : Nat) (a2 : Option Addr) (f2 : Nat) (thread : Int) (l : List Int) (a : Option Addr) (f : Nat) (hd : σ.dead = []) (h1 : SlS σ a1 S.sl) (h2 : SlT σ a2 S.th) (h3 : SlI σ a l) :
    acall (ofProg Try.prog) 1000 (d + S.th.length + 10) 12 [stV S a1 f1 a2 f2, .int .i64 thread, .agg [.slice a l.length f].toArray] σ = some (.tuple [i64 (capF S thread l).1, capV (capF S thread l).2.1, i64 (capF S thread l).2.2].toArray, σ) := by
  refine acall_flat e_find_Cap (by simp) rfl ?_
  have hslot := fun L => find_Slot_ok d (σ.fresh.grow L) S a1 f1 a2 f2 thread l a f (by rw [grow_dead]; exact hd) (h1.fresh.grow L) (h2.fresh.grow L) (h3.fresh.grow L)
  by_cases c1 : (slotF S thread l).2 = 0
  · obtain ⟨q1, q2⟩ := slotF_in c1
    obtain ⟨x, x1, x2⟩ := atI_some q1 q2
    obtain ⟨b, rfl, hb⟩ := h1.fresh.at (i := (slotF S thread l).1.toNat) (by omega)
    have hl : ∀ L, (σ.fresh.grow L).loadN b ((slotF S thread l).1.toNat * 5) 4 = some (capL x) := fun L => by
      rw [load_old _ _ _ _ hb.1]; exact hb.2 _ _ x2 0 4 (by omega)
    have hsa : slotAt S (slotF S thread l).1 = x := by unfold slotAt; rw [x1]
    cases c2 : capNone x with
    | true =>
      have he : capF S thread l = (0, ⟨0, 0, 0, 0, 0⟩, 4) := by unfold capF; rw [if_pos c1, hsa, c2]; rfl
      simp (disch := omega) only [hslot, eq_true c1, q1, q2, hl, cap_None_ok, c2, he, r0_find_Cap, r1_find_Cap, r2_find_Cap, r3_find_Cap, r4_find_Cap, r5_find_Cap, k3_find_Cap, k2_find_Cap, r6_find_Cap, k4_find_Cap, k1_find_Cap, k0_find_Cap, c_find_Cap, Za, Zb, Zc, Zd, Ze, Zf, Zg, Zh, Zi, Zj, Zk, Zl, Zm, Zn, Zo, Zp, Zq, Zr, Zs, Zt, Zu, Zv, Zw, Zx, Zy, Zz, ZA, ZB, ZC, ZD, ZE, ZF, ZG, ZH, ZI, ZJ, ZK, ZL, ZM, ZN, ZO, ZP, ZQ, ZR, ZS, ZT, ZU, ZV, ZW, ZX, ZY, ZZ, Z0, Z1, Z2, tget_ins, Z3, Z4, Z5, Z6, Z7, Z8, Z9, Ya, Yb, Yc, Yd, Ye, Yf, Yg, Yh, Yi, Yj, resAll, Yk, Yl, Ym, Yn, Yo, Yp, Yq, Yr, Ys, Yt, List.map_cons, List.map_nil, List.all_cons, List.all_nil, List.nil_append, List.cons_append, List.length_nil, List.length_cons, Nat.reduceAdd, Nat.reduceEqDiff, Nat.reduceLeDiff, Nat.zero_add, Nat.add_zero, Nat.reduceMul, ↓reduceIte, decide_true, decide_false, decide_eq_true_eq, Bool.not_true, Bool.not_false, Bool.and_true, Bool.and_self, Bool.and_false, Bool.false_and, Bool.true_and, Bool.or_true, Bool.true_or, Bool.or_false, Bool.false_or, Bool.not_eq_true', decide_eq_false_iff_not, Bool.false_eq_true, reduceCtorEq, and_self, and_true, true_and, false_and, and_false, not_true_eq_false, not_false_eq_true, Nat.reduceBEq, Yu, Yv, Yw, Yx, Yy, Yz, YA, YB, YC, YD, YE, YF, YG, YH, YI, YJ, YK, YL, YM, YN, YO, YP, YQ, YR, YS, YT, YU, YV, YW, YX, YY, YZ, Y0, Y1, Y2, Y3, Y4, Y5, Y6, Y7, Y8, Y9, Xa, Xb, Xc, Xd, Xe, Xf, Xg, Xh Xi, Xj Xi, Xk Xi, Xl Xi, Xm Xi, Xn Xi, Xo, Xp, aoper, Xq, Xr, Xs, Xt, Xu, Xv, Xw, Xx, Xy, Xz, XA, XB, XC, XD, XE, XF, XG, XH, XI, XJ, XK, XL, XM, XN, XO, XP, XQ, XR, XS, XT, XU, XV Xi, XW, List.set_cons_zero, List.set_cons_succ, Nat.reduceLT, Int.reduceEq, Int.reduceLT, Int.reduceLE, XX, XY, XZ, X0, X1, X2, X3, X4, X5, X6, X7, X8, X9, Va, Vb, Vc, Vd, Ve, Vf, Vg, Vh, Vi, Vj, Vk, Vl, Vm, Vn, Vo, Vp, Vq, Vr, Vs, Vt, Vu, Vv, Vw, Vx]
    | false =>
      have he : capF S thread l = ((slotF S thread l).1, x, 0) := by unfold capF; rw [if_pos c1, hsa, c2]; rfl
      simp (disch := omega) only [hslot, eq_true c1, q1, q2, hl, cap_None_ok, c2, he, r0_find_Cap, r1_find_Cap, r2_find_Cap, r3_find_Cap, r4_find_Cap, r5_find_Cap, k3_find_Cap, k2_find_Cap, r6_find_Cap, k4_find_Cap, k1_find_Cap, k0_find_Cap, c_find_Cap, Za, Zb, Zc, Zd, Ze, Zf, Zg, Zh, Zi, Zj, Zk, Zl, Zm, Zn, Zo, Zp, Zq, Zr, Zs, Zt, Zu, Zv, Zw, Zx, Zy, Zz, ZA, ZB, ZC, ZD, ZE, ZF, ZG, ZH, ZI, ZJ, ZK, ZL, ZM, ZN, ZO, ZP, ZQ, ZR, ZS, ZT, ZU, ZV, ZW, ZX, ZY, ZZ, Z0, Z1, Z2, tget_ins, Z3, Z4, Z5, Z6, Z7, Z8, Z9, Ya, Yb, Yc, Yd, Ye, Yf, Yg, Yh, Yi, Yj, resAll, Yk, Yl, Ym, Yn, Yo, Yp, Yq, Yr, Ys, Yt, List.map_cons, List.map_nil, List.all_cons, List.all_nil, List.nil_append, List.cons_append, List.length_nil, List.length_cons, Nat.reduceAdd, Nat.reduceEqDiff, Nat.reduceLeDiff, Nat.zero_add, Nat.add_zero, Nat.reduceMul, ↓reduceIte, decide_true, decide_false, decide_eq_true_eq, Bool.not_true, Bool.not_false, Bool.and_true, Bool.and_self, Bool.and_false, Bool.false_and, Bool.true_and, Bool.or_true, Bool.true_or, Bool.or_false, Bool.false_or, Bool.not_eq_true', decide_eq_false_iff_not, Bool.false_eq_true, reduceCtorEq, and_self, and_true, true_and, false_and, and_false, not_true_eq_false, not_false_eq_true, Nat.reduceBEq, Yu, Yv, Yw, Yx, Yy, Yz, YA, YB, YC, YD, YE, YF, YG, YH, YI, YJ, YK, YL, YM, YN, YO, YP, YQ, YR, YS, YT, YU, YV, YW, YX, YY, YZ, Y0, Y1, Y2, Y3, Y4, Y5, Y6, Y7, Y8, Y9, Xa, Xb, Xc, Xd, Xe, Xf, Xg, Xh Xi, Xj Xi, Xk Xi, Xl Xi, Xm Xi, Xn Xi, Xo, Xp, aoper, Xq, Xr, Xs, Xt, Xu, Xv, Xw, Xx, Xy, Xz, XA, XB, XC, XD, XE, XF, XG, XH, XI, XJ, XK, XL, XM, XN, XO, XP, XQ, XR, XS, XT, XU, XV Xi, XW, List.set_cons_zero, List.set_cons_succ, Nat.reduceLT, Int.reduceEq, Int.reduceLT, Int.reduceLE, XX, XY, XZ, X0, X1, X2, X3, X4, X5, X6, X7, X8, X9, Va, Vb, Vc, Vd, Ve, Vf, Vg, Vh, Vi, Vj, Vk, Vl, Vm, Vn, Vo, Vp, Vq, Vr, Vs, Vt, Vu, Vv, Vw, Vx]
      rw [ends_drw0 (by kernel_rfl)]
      simp (disch := omega) only [hslot, eq_true c1, q1, q2, hl, cap_None_ok, c2, he, x_nil, x_1, kontX_grow Xi, stX_2 Xi, r0_find_Cap, r1_find_Cap, r2_find_Cap, r3_find_Cap, r4_find_Cap, r5_find_Cap, k3_find_Cap, k2_find_Cap, r6_find_Cap, k4_find_Cap, k1_find_Cap, k0_find_Cap, c_find_Cap, Za, Zb, Zc, Zd, Ze, Zf, Zg, Zh, Zi, Zj, Zk, Zl, Zm, Zn, Zo, Zp, Zq, Zr, Zs, Zt, Zu, Zv, Zw, Zx, Zy, Zz, ZA, ZB, ZC, ZD, ZE, ZF, ZG, ZH, ZI, ZJ, ZK, ZL, ZM, ZN, ZO, ZP, ZQ, ZR, ZS, ZT, ZU, ZV, ZW, ZX, ZY, ZZ, Z0, Z1, Z2, tget_ins, Z3, Z4, Z5, Z6, Z7, Z8, Z9, Ya, Yb, Yc, Yd, Ye, Yf, Yg, Yh, Yi, Yj, resAll, Yk, Yl, Ym, Yn, Yo, Yp, Yq, Yr, Ys, Yt, List.map_cons, List.map_nil, List.all_cons, List.all_nil, List.nil_append, List.cons_append, List.length_nil, List.length_cons, Nat.reduceAdd, Nat.reduceEqDiff, Nat.reduceLeDiff, Nat.zero_add, Nat.add_zero, Nat.reduceMul, ↓reduceIte, decide_true, decide_false, decide_eq_true_eq, Bool.not_true, Bool.not_false, Bool.and_true, Bool.and_self, Bool.and_false, Bool.false_and, Bool.true_and, Bool.or_true, Bool.true_or, Bool.or_false, Bool.false_or, Bool.not_eq_true', decide_eq_false_iff_not, Bool.false_eq_true, reduceCtorEq, and_self, and_true, true_and, false_and, and_false, not_true_eq_false, not_false_eq_true, Nat.reduceBEq, Yu, Yv, Yw, Yx, Yy, Yz, YA, YB, YC, YD, YE, YF, YG, YH, YI, YJ, YK, YL, YM, YN, YO, YP, YQ, YR, YS, YT, YU, YV, YW, YX, YY, YZ, Y0, Y1, Y2, Y3, Y4, Y5, Y6, Y7, Y8, Y9, Xa, Xb, Xc, Xd, Xe, Xf, Xg, Xh Xi, Xj Xi, Xk Xi, Xl Xi, Xm Xi, Xn Xi, Xo, Xp, aoper, Xq, Xr, Xs, Xt, Xu, Xv, Xw, Xx, Xy, Xz, XA, XB, XC, XD, XE, XF, XG, XH, XI, XJ, XK, XL, XM, XN, XO, XP, XQ, XR, XS, XT, XU, XV Xi, XW, List.set_cons_zero, List.set_cons_succ, Nat.reduceLT, Int.reduceEq, Int.reduceLT, Int.reduceLE, XX, XY, XZ, X0, X1, X2, X3, X4, X5, X6, X7, X8, X9, Va, Vb, Vc, Vd, Ve, Vf, Vg, Vh, Vi, Vj, Vk, Vl, Vm, Vn, Vo, Vp, Vq, Vr, Vs, Vt, Vu, Vv, Vw, Vx]
  · have he : capF S thread l = (0, ⟨0, 0, 0, 0, 0⟩, (slotF S thread l).2) := by unfold capF; rw [if_neg c1]
    simp (disch := omega) only [hslot, c1, he, r0_find_Cap, r1_find_Cap, r2_find_Cap, r3_find_Cap, r4_find_Cap, r5_find_Cap, k3_find_Cap, k2_find_Cap, r6_find_Cap, k4_find_Cap, k1_find_Cap, k0_find_Cap, c_find_Cap, Za, Zb, Zc, Zd, Ze, Zf, Zg, Zh, Zi, Zj, Zk, Zl, Zm, Zn, Zo, Zp, Zq, Zr, Zs, Zt, Zu, Zv, Zw, Zx, Zy, Zz, ZA, ZB, ZC, ZD, ZE, ZF, ZG, ZH, ZI, ZJ, ZK, ZL, ZM, ZN, ZO, ZP, ZQ, ZR, ZS, ZT, ZU, ZV, ZW, ZX, ZY, ZZ, Z0, Z1, Z2, tget_ins, Z3, Z4, Z5, Z6, Z7, Z8, Z9, Ya, Yb, Yc, Yd, Ye, Yf, Yg, Yh, Yi, Yj, resAll, Yk, Yl, Ym, Yn, Yo, Yp, Yq, Yr, Ys, Yt, List.map_cons, List.map_nil, List.all_cons, List.all_nil, List.nil_append, List.cons_append, List.length_nil, List.length_cons, Nat.reduceAdd, Nat.reduceEqDiff, Nat.reduceLeDiff, Nat.zero_add, Nat.add_zero, Nat.reduceMul, ↓reduceIte, decide_true, decide_false, decide_eq_true_eq, Bool.not_true, Bool.not_false, Bool.and_true, Bool.and_self, Bool.and_false, Bool.false_and, Bool.true_and, Bool.or_true, Bool.true_or, Bool.or_false, Bool.false_or, Bool.not_eq_true', decide_eq_false_iff_not, Bool.false_eq_true, reduceCtorEq, and_self, and_true, true_and, false_and, and_false, not_true_eq_false, not_false_eq_true, Nat.reduceBEq, Yu, Yv, Yw, Yx, Yy, Yz, YA, YB, YC, YD, YE, YF, YG, YH, YI, YJ, YK, YL, YM, YN, YO, YP, YQ, YR, YS, YT, YU, YV, YW, YX, YY, YZ, Y0, Y1, Y2, Y3, Y4, Y5, Y6, Y7, Y8, Y9, Xa, Xb, Xc, Xd, Xe, Xf, Xg, Xh Xi, Xj Xi, Xk Xi, Xl Xi, Xm Xi, Xn Xi, Xo, Xp, aoper, Xq, Xr, Xs, Xt, Xu, Xv, Xw, Xx, Xy, Xz, XA, XB, XC, XD, XE, XF, XG, XH, XI, XJ, XK, XL, XM, XN, XO, XP, XQ, XR, XS, XT, XU, XV Xi, XW, List.set_cons_zero, List.set_cons_succ, Nat.reduceLT, Int.reduceEq, Int.reduceLT, Int.reduceLE, XX, XY, XZ, X0, X1, X2, X3, X4, X5, X6, X7, X8, X9, Va, Vb, Vc, Vd, Ve, Vf, Vg, Vh, Vi, Vj, Vk, Vl, Vm, Vn, Vo, Vp, Vq, Vr, Vs, Vt, Vu, Vv, Vw, Vx]
end Go.Proofs.Ytphbidcbepnihaa
