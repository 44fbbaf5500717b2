/-
  What the function Forest of the package state answers. No condition but what it says.
-/
import Derived.Test.YtphbidcbepnihaaT10
namespace Go.Proofs.Ytphbidcbepnihaa
open Go Go.Hai
set_option maxRecDepth 20000
set_option linter.unusedSimpArgs false
set_option maxHeartbeats 4000000
attribute [local irreducible] Hai.Ends EndsR EndsO EndsD AHeap.grow
def r0_state_Forest : List AOper := [(.mk (some 1) none (.box 5 (.tmp 0))), (.mk (some 2) none (.alloc [(.slice none 0 0)] 1))]
def r1_state_Forest : List AOper := [(.mk (some 3) none (.alloc [(.slice none 0 0)] 1))]
def r2_state_Forest : List AOper := [(.mk (some 6) none (.fldA 3 (.tmp 1))), (.mk (some 7) none (.load false 1 (.tmp 6))), (.mk (some 8) none (.lenS (.tmp 7))), (.mk (some 9) none (.mv (.const (.int .i64 0))))]
def r3_state_Forest : List AOper := [(.mk (some 10) none (.bin .lss (.tmp 9) (.tmp 8)))]
def r4_state_Forest : List AOper := [(.mk (some 11) none (.idxA 5 (.tmp 7) (.tmp 9))), (.mk (some 12) none (.load true 5 (.tmp 11))), (.mk (some 5) none (.alloc [(.int .i64 0), (.int .i64 0), (.int .i64 0), (.int .i64 0), (.int .i64 0)] 5)), (.mk none none (.store 5 (.tmp 5) (.tmp 12)))]
def r5_state_Forest : List AOper := [(.mk (some 13) none (.fldA 0 (.tmp 5))), (.mk (some 14) none (.load true 4 (.tmp 13))), (.mk (some 15) none (.call 40 [(.tmp 14)]))]
def r6_state_Forest : List AOper := [(.mk (some 16) none (.fldA 4 (.tmp 5))), (.mk none none (.store 1 (.tmp 16) (.const (.int .i64 (-2)))))]
def k6_state_Forest : ACode := (.cond (.tmp 15) (.reg r6_state_Forest) .skip)
def r7_state_Forest : List AOper := [(.mk (some 17) none (.fldA 0 (.tmp 3))), (.mk (some 18) none (.load false 1 (.tmp 17))), (.mk (some 19) none (.fldA 4 (.tmp 5))), (.mk (some 20) none (.load false 1 (.tmp 19))), (.mk (some 21) none (.buildSl [(.int .i64 0)] 1 1 [(0, (1, (.tmp 20)))])), (.mk (some 22) none (.app 1 8 (.tmp 18) (.tmp 21))), (.mk (some 23) none (.fldA 0 (.tmp 3))), (.mk none none (.store 1 (.tmp 23) (.tmp 22)))]
def k7_state_Forest : ACode := (.reg r7_state_Forest)
def k5_state_Forest : ACode := (.seq (.seq (.reg r5_state_Forest) k6_state_Forest) k7_state_Forest)
def r8_state_Forest : List AOper := [(.mk (some 24) none (.bin .add (.tmp 9) (.const (.int .i64 1)))), (.mk (some 9) none (.mv (.tmp 24)))]
def k8_state_Forest : ACode := (.reg r8_state_Forest)
def k4_state_Forest : ACode := (.seq (.block 1 (.seq (.reg r4_state_Forest) k5_state_Forest)) k8_state_Forest)
def k3_state_Forest : ACode := (.seq (.cond (.tmp 10) .skip (.exit 0)) k4_state_Forest)
def b0_state_Forest : ACode := (.seq (.reg r3_state_Forest) k3_state_Forest)
def k2_state_Forest : ACode := (.block 0 (.loop b0_state_Forest))
def r9_state_Forest : List AOper := [(.mk (some 25) none (.load true 1 (.tmp 3))), (.mk none none (.store 1 (.tmp 2) (.tmp 25)))]
def k9_state_Forest : ACode := (.seq (.reg r9_state_Forest) .ret)
def k1_state_Forest : ACode := (.seq (.seq (.reg r2_state_Forest) k2_state_Forest) k9_state_Forest)
def k0_state_Forest : ACode := (.seq (.reg r1_state_Forest) k1_state_Forest)
def c_state_Forest : ACode := (.seq (.reg r0_state_Forest) k0_state_Forest)
theorem e_state_Forest : ofProg Try.prog 35 = some ⟨26, [(.cell 2 true 1)], c_state_Forest⟩ := by kernel_rfl

def upOf (x : SlotD) : Int := if capNone x then -2 else x.up
def upL (S : StD) : List Int := S.sl.map upOf
theorem upL_length (S : StD) : (upL S).length = S.sl.length := by simp [upL]
theorem upL_take {S : StD} {i : Nat} {x : SlotD} (hx : S.sl[i]? = some x) : (upL S).take (i + 1) = (upL S).take i ++ [upOf x] := by
  rw [List.take_add_one]
  simp [upL, hx]
theorem state_Forest_ok (d : Nat) (σ : AHeap) (S : StD) (a1 : Option Addr) (f1 : Nat) (a2 : Option Addr) (f2 : Nat) (hd : σ.dead = []) (hlo : σ.low ≤ σ.n) (h1 : SlS σ a1 S.sl) (hn0 : 0 < S.sl.length) (hn : S.sl.length < 1000) :
    ∃ a f τ, acall (ofProg Try.prog) 1000 (d + 2) 35 [stV S a1 f1 a2 f2] σ = some (.agg [.slice a (upL S).length f].toArray, τ) ∧ SlI τ a (upL S) ∧ Keeps σ τ := by
  suffices hs : Hai.Ends (acode (acall (ofProg Try.prog) 1000 (d + 1)) 1000 c_state_Forest (Tr.of [stV S a1 f1 a2 f2]) (σ.fresh.grow [])) (finA σ.n [.cell 2 true 1] fun v τ => ∃ a f, v = .agg [.slice a (upL S).length f].toArray ∧ SlI τ a (upL S) ∧ Keeps σ.fresh τ) by
    obtain ⟨v, τ', e, τ, ⟨a, f, rfl, g1, g2⟩, g3⟩ := acall_addr e_state_Forest (by simp) hlo hs
    rcases g3 with ⟨g3, _⟩ | rfl
    · obtain ⟨b, rfl, _⟩ := g1.resolve_left (fun e => by have := upL_length S; rw [e] at this; simp at this; omega)
      cases g3
    · exact ⟨a, f, _, e, g1.setLow _, g2.back⟩
  simp (disch := omega) only [r0_state_Forest, r1_state_Forest, r2_state_Forest, r3_state_Forest, r4_state_Forest, r5_state_Forest, r6_state_Forest, k6_state_Forest, r7_state_Forest, k7_state_Forest, k5_state_Forest, r8_state_Forest, k8_state_Forest, k4_state_Forest, k3_state_Forest, k2_state_Forest, r9_state_Forest, k9_state_Forest, k1_state_Forest, k0_state_Forest, c_state_Forest, Za, Zb, Zc, Zd, Ze, Zf, Zg, Zh, Zi, Zj, Zk, Zl, Zm, Zn, Zo, Zp, Zq, Zr, Zs, Zt, Zu, Zv, Zw, Zx, Zy, Zz, ZA, ZB, ZC, ZD, ZE, ZF, ZG, ZH, ZI, ZJ, ZK, ZL, ZM, ZN, ZO, ZP, ZQ, ZR, ZS, ZT, ZU, ZV, ZW, ZX, ZY, ZZ, Z0, Z1, Z2, tget_ins, Z3, Z4, Z5, Z6, Z7, Z8, Z9, Ya, Yb, Yc, Yd, Ye, Yf, Yg, Yh, Yi, Yj, resAll, Yk, Yl, Ym, Yn, Yo, Yp, Yq, Yr, Ys, Yt, List.map_cons, List.map_nil, List.all_cons, List.all_nil, List.nil_append, List.cons_append, List.length_nil, List.length_cons, Nat.reduceAdd, Nat.reduceEqDiff, Nat.reduceLeDiff, Nat.zero_add, Nat.add_zero, Nat.reduceMul, ↓reduceIte, decide_true, decide_false, decide_eq_true_eq, Bool.not_true, Bool.not_false, Bool.and_true, Bool.and_self, Bool.and_false, Bool.false_and, Bool.true_and, Bool.or_true, Bool.true_or, Bool.or_false, Bool.false_or, Bool.not_eq_true', decide_eq_false_iff_not, Bool.false_eq_true, reduceCtorEq, and_self, and_true, true_and, false_and, and_false, not_true_eq_false, not_false_eq_true, Nat.reduceBEq, Yu, Yv, Yw, Yx, Yy, Yz, YA, YB, YC, YD, YE, YF, YG, YH, YI, YJ, YK, YL, YM, YN, YO, YP, YQ, YR, YS, YT, YU, YV, YW, YX, YY, YZ, Y0, Y1, Y2, Y3, Y4, Y5, Y6, Y7, Y8, Y9, Xa, Xb, Xc, Xd, Xe, Xf, Xg, Xh Xi, Xj Xi, Xk Xi, Xl Xi, Xm Xi, Xn Xi, Xo, Xp, aoper, Xq, Xr, Xs, Xt, Xu, Xv, Xw, Xx, Xy, Xz, XA, XB, XC, XD, XE, XF, XG, XH, XI, XJ, XK, XL, XM, XN, XO, XP, XQ, XR, XS, XT, XU, XV Xi, XW, List.set_cons_zero, List.set_cons_succ, Nat.reduceLT, Int.reduceEq, Int.reduceLT, Int.reduceLE, XX, XY, XZ, X0, X1, X2, X3, X4, X5, X6, X7, X8, X9, Va, Vb, Vc, Vd, Ve, Vf, Vg, Vh, Vi, Vj, Vk, Vl, Vm, Vn, Vo, Vp, Vq, Vr, Vs, Vt, Vu, Vv, Vw, Vx]
  generalize hσ1 : σ.fresh.grow _ = σ1
  have e1n : σ1.n = σ.n + 3 := by rw [← hσ1, grow_n]; rfl
  have e1l : σ1.low = σ.n := by rw [← hσ1, Yk]; rfl
  have e1d : σ1.dead = [] := by rw [← hσ1, grow_dead]; exact hd
  have e1k : Keeps σ.fresh σ1 := by rw [← hσ1]; exact Keeps.self _ _
  have e1b : ∀ o n, σ1.loadN σ.fresh.n o n = sliceL (stL S a1 f1 a2 f2) o n := fun o n => by rw [← hσ1, Xb]
  have e1r : σ1.t.get (σ.fresh.n + 1) = some (rowOf ([.slice none 0 0], 1)) := by rw [← hσ1]; exact grow_new _ _ 1 rfl
  have e1h : σ1.t.get (σ.fresh.n + 2) = some (rowOf ([.slice none 0 0], 1)) := by rw [← hσ1]; exact grow_new _ _ 2 rfl
  have hfn : σ.fresh.n = σ.n := rfl
  refine ends_loop (fun i t τ => tget t 7 = .slice a1 S.sl.length f1 ∧ tget t 8 = i64 S.sl.length ∧ tget t 9 = i64 i ∧ tget t 3 = here (σ.fresh.n + 2) 0 ∧ tget t 2 = here (σ.fresh.n + 1) 0 ∧ Mod (σ.fresh.n + 2) σ1 τ ∧
      ∃ v, τ.t.get (σ.fresh.n + 2) = some (rowOf ([v], 1)) ∧ OutP (σ.n + 3) τ v ((upL S).take i))
    S.sl.length hn ⟨?_, ?_, ?_, ?_, ?_, Mod.refl _ _, _, e1h, OutP.nil _ _⟩ ?_
  iterate 5 simp (disch := omega) only [Int.natCast_zero, Int.ofNat_zero, r0_state_Forest, r1_state_Forest, r2_state_Forest, r3_state_Forest, r4_state_Forest, r5_state_Forest, r6_state_Forest, k6_state_Forest, r7_state_Forest, k7_state_Forest, k5_state_Forest, r8_state_Forest, k8_state_Forest, k4_state_Forest, k3_state_Forest, k2_state_Forest, r9_state_Forest, k9_state_Forest, k1_state_Forest, k0_state_Forest, c_state_Forest, Za, Zb, Zc, Zd, Ze, Zf, Zg, Zh, Zi, Zj, Zk, Zl, Zm, Zn, Zo, Zp, Zq, Zr, Zs, Zt, Zu, Zv, Zw, Zx, Zy, Zz, ZA, ZB, ZC, ZD, ZE, ZF, ZG, ZH, ZI, ZJ, ZK, ZL, ZM, ZN, ZO, ZP, ZQ, ZR, ZS, ZT, ZU, ZV, ZW, ZX, ZY, ZZ, Z0, Z1, Z2, tget_ins, Z3, Z4, Z5, Z6, Z7, Z8, Z9, Ya, Yb, Yc, Yd, Ye, Yf, Yg, Yh, Yi, Yj, resAll, Yk, Yl, Ym, Yn, Yo, Yp, Yq, Yr, Ys, Yt, List.map_cons, List.map_nil, List.all_cons, List.all_nil, List.nil_append, List.cons_append, List.length_nil, List.length_cons, Nat.reduceAdd, Nat.reduceEqDiff, Nat.reduceLeDiff, Nat.zero_add, Nat.add_zero, Nat.reduceMul, ↓reduceIte, decide_true, decide_false, decide_eq_true_eq, Bool.not_true, Bool.not_false, Bool.and_true, Bool.and_self, Bool.and_false, Bool.false_and, Bool.true_and, Bool.or_true, Bool.true_or, Bool.or_false, Bool.false_or, Bool.not_eq_true', decide_eq_false_iff_not, Bool.false_eq_true, reduceCtorEq, and_self, and_true, true_and, false_and, and_false, not_true_eq_false, not_false_eq_true, Nat.reduceBEq, Yu, Yv, Yw, Yx, Yy, Yz, YA, YB, YC, YD, YE, YF, YG, YH, YI, YJ, YK, YL, YM, YN, YO, YP, YQ, YR, YS, YT, YU, YV, YW, YX, YY, YZ, Y0, Y1, Y2, Y3, Y4, Y5, Y6, Y7, Y8, Y9, Xa, Xb, Xc, Xd, Xe, Xf, Xg, Xh Xi, Xj Xi, Xk Xi, Xl Xi, Xm Xi, Xn Xi, Xo, Xp, aoper, Xq, Xr, Xs, Xt, Xu, Xv, Xw, Xx, Xy, Xz, XA, XB, XC, XD, XE, XF, XG, XH, XI, XJ, XK, XL, XM, XN, XO, XP, XQ, XR, XS, XT, XU, XV Xi, XW, List.set_cons_zero, List.set_cons_succ, Nat.reduceLT, Int.reduceEq, Int.reduceLT, Int.reduceLE, XX, XY, XZ, X0, X1, X2, X3, X4, X5, X6, X7, X8, X9, Va, Vb, Vc, Vd, Ve, Vf, Vg, Vh, Vi, Vj, Vk, Vl, Vm, Vn, Vo, Vp, Vq, Vr, Vs, Vt, Vu, Vv, Vw, Vx]
  rintro i t τ hi ⟨t7, t8, t9, t3, t2, hmd, v, hrow, hout⟩
  rw [← grow_nil τ]
  have hmn := hmd.n
  have hlow : τ.low ≤ τ.n := by rw [hmd.low]; omega
  have hv : ∀ L, (τ.grow L).loadN (σ.fresh.n + 2) 0 1 = some [v] := fun L => by rw [load_old _ _ _ _ (by omega), load_row hrow (by simp)]; rfl
  have hfit : ∀ L, (τ.grow L).t.get (σ.fresh.n + 2) = some (rowOf ([v], 1)) := fun L => by rw [grow_old _ _ (by omega)]; exact hrow
  by_cases hlt : i < S.sl.length
  · obtain ⟨b, rfl, hb⟩ := h1.fresh.at hlt
    have hx : S.sl[i]? = some S.sl[i] := List.getElem?_eq_getElem hlt
    generalize S.sl[i] = x at hx
    have hbn := hb.1
    have hl0 : σ1.loadN b (i * 5) 5 = some (slotL x) := by rw [e1k.load _ _ hbn]; exact hb.2 i x hx 0 5 (by omega)
    have hl : ∀ L, (τ.grow L).loadN b (i * 5) 5 = some (slotL x) := fun L => by rw [(hmd.grow L).load _ _ (by omega) (by omega)]; exact hl0
    have hlt' : (i : Int) < (S.sl.length : Int) := by omega
    have hcast : ((i + 1 : Nat) : Int) = (i : Int) + 1 := by omega
    have hul := upL_length S
    have step : ∀ (r : List Value) (z : Int), upOf x = z → ∃ a' n' f' τ' τ'', appOp (τ.grow [(r, 5), ([i64 z], 1)]) 1 8 v (.slice (some ⟨τ.n + 1, 0, none⟩) 1 1) = some (.slice a' n' f', τ') ∧ τ'.storeN (σ.fresh.n + 2) 0 [.slice a' n' f'] = some τ'' ∧
        Mod (σ.fresh.n + 2) σ1 τ'' ∧ τ''.t.get (σ.fresh.n + 2) = some (rowOf ([.slice a' n' f'], 1)) ∧ OutP (σ.n + 3) τ'' (.slice a' n' f') ((upL S).take (i + 1)) := by
      intro r z hz
      obtain ⟨v', τ', he, ho', hd', hl', hr', hrd⟩ := app_step (base := σ.n + 3) (fx := 1) (bx := τ.n + 1) (z := z) (by rw [grow_dead, hmd.dead, e1d]) (by rw [Yk, hmd.low, e1l]; omega) (by rw [grow_n]; omega) (hout.keeps (Keeps.self _ [(r, 5), ([i64 z], 1)])) (by rw [Xc]; rfl) (by rw [List.length_take]; omega)
      obtain ⟨a', f', rfl⟩ := ho'.shape
      have hrow' : τ'.t.get (σ.fresh.n + 2) = some (rowOf ([v], 1)) := by rw [hr' _ (by omega)]; exact hfit _
      have hn' := hrd.1
      rw [grow_n] at hn'
      obtain ⟨τ'', s1, s2, s3, s4⟩ := Mod.store (o := 0) (vs := [.slice a' ((upL S).take i ++ [z]).length f']) hrow' (by rw [hl', Yk, hmd.low, e1l]; omega) (by simp) rfl
      refine ⟨a', _, f', τ', τ'', he, s1, ?_, s2, ?_⟩
      · refine Mod.trans ⟨?_, ?_, ?_, ?_⟩ s3
        · omega
        · rw [hl', Yk, hmd.low]
        · rw [hd', e1d]
        · intro c hc hne
          rw [hr' c (by omega), grow_old _ _ (by omega)]; exact hmd.row c hc hne
      · have : (upL S).take (i + 1) = (upL S).take i ++ [z] := by rw [upL_take hx, hz]
        rw [this]
        exact ho'.mod s3 (by omega)
    cases g1 : capNone x with
    | true =>
      obtain ⟨a', n', f', τ', τ'', he, hs, q1, q2, q3⟩ := step [i64 x.type, i64 x.thing, i64 x.rights, i64 x.badge, i64 (-2)] (-2) (by unfold upOf; rw [g1]; rfl)
      simp (disch := omega) only [t7, t8, t9, t3, t2, hl, hv, hlt', hlt, hcast, cap_None_ok, Int.toNat_natCast, Xh hlow, g1, he, hs, q1, r0_state_Forest, r1_state_Forest, r2_state_Forest, r3_state_Forest, r4_state_Forest, r5_state_Forest, r6_state_Forest, k6_state_Forest, r7_state_Forest, k7_state_Forest, k5_state_Forest, r8_state_Forest, k8_state_Forest, k4_state_Forest, k3_state_Forest, k2_state_Forest, r9_state_Forest, k9_state_Forest, k1_state_Forest, k0_state_Forest, b0_state_Forest, Za, Zb, Zc, Zd, Ze, Zf, Zg, Zh, Zi, Zj, Zk, Zl, Zm, Zn, Zo, Zp, Zq, Zr, Zs, Zt, Zu, Zv, Zw, Zx, Zy, Zz, ZA, ZB, ZC, ZD, ZE, ZF, ZG, ZH, ZI, ZJ, ZK, ZL, ZM, ZN, ZO, ZP, ZQ, ZR, ZS, ZT, ZU, ZV, ZW, ZX, ZY, ZZ, Z0, Z1, Z2, tget_ins, Z3, Z4, Z5, Z6, Z7, Z8, Z9, Ya, Yb, Yc, Yd, Ye, Yf, Yg, Yh, Yi, Yj, resAll, Yk, Yl, Ym, Yn, Yo, Yp, Yq, Yr, Ys, Yt, List.map_cons, List.map_nil, List.all_cons, List.all_nil, List.nil_append, List.cons_append, List.length_nil, List.length_cons, Nat.reduceAdd, Nat.reduceEqDiff, Nat.reduceLeDiff, Nat.zero_add, Nat.add_zero, Nat.reduceMul, ↓reduceIte, decide_true, decide_false, decide_eq_true_eq, Bool.not_true, Bool.not_false, Bool.and_true, Bool.and_self, Bool.and_false, Bool.false_and, Bool.true_and, Bool.or_true, Bool.true_or, Bool.or_false, Bool.false_or, Bool.not_eq_true', decide_eq_false_iff_not, Bool.false_eq_true, reduceCtorEq, and_self, and_true, true_and, false_and, and_false, not_true_eq_false, not_false_eq_true, Nat.reduceBEq, Yu, Yv, Yw, Yx, Yy, Yz, YA, YB, YC, YD, YE, YF, YG, YH, YI, YJ, YK, YL, YM, YN, YO, YP, YQ, YR, YS, YT, YU, YV, YW, YX, YY, YZ, Y0, Y1, Y2, Y3, Y4, Y5, Y6, Y7, Y8, Y9, Xa, Xb, Xc, Xd, Xe, Xf, Xg, Xh Xi, Xj Xi, Xk Xi, Xl Xi, Xm Xi, Xn Xi, Xo, Xp, aoper, Xq, Xr, Xs, Xt, Xu, Xv, Xw, Xx, Xy, Xz, XA, XB, XC, XD, XE, XF, XG, XH, XI, XJ, XK, XL, XM, XN, XO, XP, XQ, XR, XS, XT, XU, XV Xi, XW, List.set_cons_zero, List.set_cons_succ, Nat.reduceLT, Int.reduceEq, Int.reduceLT, Int.reduceLE, XX, XY, XZ, X0, X1, X2, X3, X4, X5, X6, X7, X8, X9, Va, Vb, Vc, Vd, Ve, Vf, Vg, Vh, Vi, Vj, Vk, Vl, Vm, Vn, Vo, Vp, Vq, Vr, Vs, Vt, Vu, Vv, Vw, Vx]
      exact ⟨_, q2, q3⟩
    | false =>
      obtain ⟨a', n', f', τ', τ'', he, hs, q1, q2, q3⟩ := step (slotL x) x.up (by unfold upOf; rw [g1]; rfl)
      simp (disch := omega) only [t7, t8, t9, t3, t2, hl, hv, hlt', hlt, hcast, cap_None_ok, Int.toNat_natCast, Xh hlow, g1, he, hs, q1, r0_state_Forest, r1_state_Forest, r2_state_Forest, r3_state_Forest, r4_state_Forest, r5_state_Forest, r6_state_Forest, k6_state_Forest, r7_state_Forest, k7_state_Forest, k5_state_Forest, r8_state_Forest, k8_state_Forest, k4_state_Forest, k3_state_Forest, k2_state_Forest, r9_state_Forest, k9_state_Forest, k1_state_Forest, k0_state_Forest, b0_state_Forest, Za, Zb, Zc, Zd, Ze, Zf, Zg, Zh, Zi, Zj, Zk, Zl, Zm, Zn, Zo, Zp, Zq, Zr, Zs, Zt, Zu, Zv, Zw, Zx, Zy, Zz, ZA, ZB, ZC, ZD, ZE, ZF, ZG, ZH, ZI, ZJ, ZK, ZL, ZM, ZN, ZO, ZP, ZQ, ZR, ZS, ZT, ZU, ZV, ZW, ZX, ZY, ZZ, Z0, Z1, Z2, tget_ins, Z3, Z4, Z5, Z6, Z7, Z8, Z9, Ya, Yb, Yc, Yd, Ye, Yf, Yg, Yh, Yi, Yj, resAll, Yk, Yl, Ym, Yn, Yo, Yp, Yq, Yr, Ys, Yt, List.map_cons, List.map_nil, List.all_cons, List.all_nil, List.nil_append, List.cons_append, List.length_nil, List.length_cons, Nat.reduceAdd, Nat.reduceEqDiff, Nat.reduceLeDiff, Nat.zero_add, Nat.add_zero, Nat.reduceMul, ↓reduceIte, decide_true, decide_false, decide_eq_true_eq, Bool.not_true, Bool.not_false, Bool.and_true, Bool.and_self, Bool.and_false, Bool.false_and, Bool.true_and, Bool.or_true, Bool.true_or, Bool.or_false, Bool.false_or, Bool.not_eq_true', decide_eq_false_iff_not, Bool.false_eq_true, reduceCtorEq, and_self, and_true, true_and, false_and, and_false, not_true_eq_false, not_false_eq_true, Nat.reduceBEq, Yu, Yv, Yw, Yx, Yy, Yz, YA, YB, YC, YD, YE, YF, YG, YH, YI, YJ, YK, YL, YM, YN, YO, YP, YQ, YR, YS, YT, YU, YV, YW, YX, YY, YZ, Y0, Y1, Y2, Y3, Y4, Y5, Y6, Y7, Y8, Y9, Xa, Xb, Xc, Xd, Xe, Xf, Xg, Xh Xi, Xj Xi, Xk Xi, Xl Xi, Xm Xi, Xn Xi, Xo, Xp, aoper, Xq, Xr, Xs, Xt, Xu, Xv, Xw, Xx, Xy, Xz, XA, XB, XC, XD, XE, XF, XG, XH, XI, XJ, XK, XL, XM, XN, XO, XP, XQ, XR, XS, XT, XU, XV Xi, XW, List.set_cons_zero, List.set_cons_succ, Nat.reduceLT, Int.reduceEq, Int.reduceLT, Int.reduceLE, XX, XY, XZ, X0, X1, X2, X3, X4, X5, X6, X7, X8, X9, Va, Vb, Vc, Vd, Ve, Vf, Vg, Vh, Vi, Vj, Vk, Vl, Vm, Vn, Vo, Vp, Vq, Vr, Vs, Vt, Vu, Vv, Vw, Vx]
      exact ⟨_, q2, q3⟩
  · have hlt' : ¬ (i : Int) < (S.sl.length : Int) := by omega
    have hii : i = S.sl.length := by omega
    have hul := upL_length S
    rw [hii, ← hul, List.take_length] at hout
    have hdead : τ.dead = [] := by rw [hmd.dead, e1d]
    obtain ⟨a, f, rfl⟩ := hout.shape
    have hrow2 : (τ.grow []).t.get (σ.fresh.n + 1) = some (rowOf ([.slice none 0 0], 1)) := by rw [grow_nil, hmd.row _ (by omega) (by omega)]; exact e1r
    obtain ⟨τ'', s1, s2, s3, s4⟩ := Mod.store (o := 0) (vs := [.slice a (upL S).length f]) hrow2 (by rw [Yk, hmd.low, e1l]; omega) (by simp) rfl
    have hld : τ''.loadN (σ.fresh.n + 1) 0 1 = some [.slice a (upL S).length f] := by rw [load_row s2 (by simp [setAll])]; rfl
    simp (disch := omega) only [t7, t8, t9, t3, t2, hlt', hv, s1, hld, r0_state_Forest, r1_state_Forest, r2_state_Forest, r3_state_Forest, r4_state_Forest, r5_state_Forest, r6_state_Forest, k6_state_Forest, r7_state_Forest, k7_state_Forest, k5_state_Forest, r8_state_Forest, k8_state_Forest, k4_state_Forest, k3_state_Forest, k2_state_Forest, r9_state_Forest, k9_state_Forest, k1_state_Forest, k0_state_Forest, b0_state_Forest, Za, Zb, Zc, Zd, Ze, Zf, Zg, Zh, Zi, Zj, Zk, Zl, Zm, Zn, Zo, Zp, Zq, Zr, Zs, Zt, Zu, Zv, Zw, Zx, Zy, Zz, ZA, ZB, ZC, ZD, ZE, ZF, ZG, ZH, ZI, ZJ, ZK, ZL, ZM, ZN, ZO, ZP, ZQ, ZR, ZS, ZT, ZU, ZV, ZW, ZX, ZY, ZZ, Z0, Z1, Z2, tget_ins, Z3, Z4, Z5, Z6, Z7, Z8, Z9, Ya, Yb, Yc, Yd, Ye, Yf, Yg, Yh, Yi, Yj, resAll, Yk, Yl, Ym, Yn, Yo, Yp, Yq, Yr, Ys, Yt, List.map_cons, List.map_nil, List.all_cons, List.all_nil, List.nil_append, List.cons_append, List.length_nil, List.length_cons, Nat.reduceAdd, Nat.reduceEqDiff, Nat.reduceLeDiff, Nat.zero_add, Nat.add_zero, Nat.reduceMul, ↓reduceIte, decide_true, decide_false, decide_eq_true_eq, Bool.not_true, Bool.not_false, Bool.and_true, Bool.and_self, Bool.and_false, Bool.false_and, Bool.true_and, Bool.or_true, Bool.true_or, Bool.or_false, Bool.false_or, Bool.not_eq_true', decide_eq_false_iff_not, Bool.false_eq_true, reduceCtorEq, and_self, and_true, true_and, false_and, and_false, not_true_eq_false, not_false_eq_true, Nat.reduceBEq, Yu, Yv, Yw, Yx, Yy, Yz, YA, YB, YC, YD, YE, YF, YG, YH, YI, YJ, YK, YL, YM, YN, YO, YP, YQ, YR, YS, YT, YU, YV, YW, YX, YY, YZ, Y0, Y1, Y2, Y3, Y4, Y5, Y6, Y7, Y8, Y9, Xa, Xb, Xc, Xd, Xe, Xf, Xg, Xh Xi, Xj Xi, Xk Xi, Xl Xi, Xm Xi, Xn Xi, Xo, Xp, aoper, Xq, Xr, Xs, Xt, Xu, Xv, Xw, Xx, Xy, Xz, XA, XB, XC, XD, XE, XF, XG, XH, XI, XJ, XK, XL, XM, XN, XO, XP, XQ, XR, XS, XT, XU, XV Xi, XW, List.set_cons_zero, List.set_cons_succ, Nat.reduceLT, Int.reduceEq, Int.reduceLT, Int.reduceLE, XX, XY, XZ, X0, X1, X2, X3, X4, X5, X6, X7, X8, X9, Va, Vb, Vc, Vd, Ve, Vf, Vg, Vh, Vi, Vj, Vk, Vl, Vm, Vn, Vo, Vp, Vq, Vr, Vs, Vt, Vu, Vv, Vw, Vx]
    have hb1 : σ.fresh.n + 1 < σ.n + 3 := by omega
    obtain ⟨a', f', e', hsl⟩ := ((hout.keeps (Keeps.self _ [])).mod s3 hb1).sl (by rw [s3.dead, grow_dead]; exact hdead)
    have ea : a' = a := by simpa using (Value.slice.inj e').1.symm
    subst ea
    have hke : Keeps σ.fresh τ'' := by
      refine ⟨?_, ?_, ?_, ?_⟩
      · rw [s4, grow_n]; omega
      · rw [s3.low, Yk, hmd.low, e1l]; rfl
      · rw [s3.dead, grow_dead, hdead]; exact hd.symm
      · intro c hc
        rw [s3.row c (by rw [grow_n]; omega) (by omega), grow_old _ _ (by omega), hmd.row c (by omega) (by omega), e1k.row c hc]
    exact ⟨⟨a', f, rfl, hsl, hke⟩, by rw [s3.low, Yk, hmd.low, e1l]⟩
end Go.Proofs.Ytphbidcbepnihaa
