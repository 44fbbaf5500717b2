/-
  What the function within of the package state makes of its map. Its conditions: each thing may be so; the node is there; the map has things that are there, each once.
-/
import Derived.Test.YtphbidcbepnihaaT8
namespace Go.Proofs.Ytphbidcbepnihaa
open Go Go.Hai
set_option maxRecDepth 20000
set_option linter.unusedSimpArgs false
set_option maxHeartbeats 4000000
attribute [local irreducible] Hai.Ends EndsR EndsO EndsD AHeap.grow
def r0_state_within : List AOper := [(.mk (some 3) none (.box 5 (.tmp 0)))]
def r1_state_within : List AOper := [(.mk (some 8) none (.mv (.tmp 2))), (.mk (some 9) none (.mv (.tmp 1))), (.mk (some 10) none (.lookup .i64 (.bool false) (.tmp 8) (.tmp 9) false))]
def k1_state_within : ACode := (.cond (.tmp 10) .ret .skip)
def r2_state_within : List AOper := [(.mk (some 11) none (.mv (.tmp 2))), (.mk (some 12) none (.mv (.tmp 1))), (.mk none none (.mupd .i64 (.tmp 11) (.tmp 12) (.const (.bool true))))]
def r3_state_within : List AOper := [(.mk (some 13) none (.fldA 3 (.tmp 3))), (.mk (some 14) none (.load false 1 (.tmp 13))), (.mk (some 15) none (.lenS (.tmp 14))), (.mk (some 16) none (.mv (.const (.int .i64 0))))]
def r4_state_within : List AOper := [(.mk (some 17) none (.bin .lss (.tmp 16) (.tmp 15)))]
def r5_state_within : List AOper := [(.mk (some 18) none (.mv (.tmp 16))), (.mk (some 19) none (.idxA 5 (.tmp 14) (.tmp 16))), (.mk (some 20) none (.load true 5 (.tmp 19))), (.mk (some 7) none (.alloc [(.int .i64 0), (.int .i64 0), (.int .i64 0), (.int .i64 0), (.int .i64 0)] 5)), (.mk (some 6) none (.mv (.tmp 18))), (.mk none none (.store 5 (.tmp 7) (.tmp 20)))]
def r6_state_within : List AOper := [(.mk (some 21) none (.fldA 0 (.tmp 7))), (.mk (some 22) none (.fldA 0 (.tmp 21))), (.mk (some 23) none (.load false 1 (.tmp 22))), (.mk (some 24) none (.bin .eql (.tmp 23) (.const (.int .i64 2)))), (.mk (some 25) none (.mv (.tmp 24))), (.mk (some 26) (some (25, true)) (.fldA 4 (.tmp 3))), (.mk (some 27) (some (25, true)) (.load false 1 (.tmp 26))), (.mk (some 28) (some (25, true)) (.mv (.tmp 1))), (.mk (some 29) (some (25, true)) (.idxA 13 (.tmp 27) (.tmp 28))), (.mk (some 30) (some (25, true)) (.load true 13 (.tmp 29))), (.mk (some 31) (some (25, true)) (.mv (.tmp 6))), (.mk (some 32) (some (25, true)) (.call 80 [(.tmp 30), (.tmp 31)])), (.mk (some 33) none (.pick (.tmp 25) (.tmp 32) (.const (.bool false)))), (.mk (some 34) none (.mv (.tmp 33))), (.mk (some 35) (some (34, true)) (.load true 5 (.tmp 3))), (.mk (some 36) (some (34, true)) (.fldA 0 (.tmp 7))), (.mk (some 37) (some (34, true)) (.fldA 1 (.tmp 36))), (.mk (some 38) (some (34, true)) (.load false 1 (.tmp 37))), (.mk (some 39) (some (34, true)) (.call 60 [(.tmp 35), (.tmp 38)])), (.mk (some 40) none (.pick (.tmp 34) (.tmp 39) (.const (.bool false))))]
def r7_state_within : List AOper := [(.mk (some 41) none (.load true 5 (.tmp 3))), (.mk (some 42) none (.fldA 0 (.tmp 7))), (.mk (some 43) none (.fldA 1 (.tmp 42))), (.mk (some 44) none (.load false 1 (.tmp 43))), (.mk (some 45) none (.mv (.tmp 2))), (.mk (some 46) none (.call 92 [(.tmp 41), (.tmp 44), (.tmp 45)]))]
def k8_state_within : ACode := (.cond (.tmp 40) (.reg r7_state_within) .skip)
def k7_state_within : ACode := (.seq (.reg r6_state_within) k8_state_within)
def r8_state_within : List AOper := [(.mk (some 47) none (.bin .add (.tmp 16) (.const (.int .i64 1)))), (.mk (some 16) none (.mv (.tmp 47)))]
def k9_state_within : ACode := (.reg r8_state_within)
def k6_state_within : ACode := (.seq (.block 1 (.seq (.reg r5_state_within) k7_state_within)) k9_state_within)
def k5_state_within : ACode := (.seq (.cond (.tmp 17) .skip (.exit 0)) k6_state_within)
def b0_state_within : ACode := (.seq (.reg r4_state_within) k5_state_within)
def k4_state_within : ACode := (.block 0 (.loop b0_state_within))
def k3_state_within : ACode := (.seq (.reg r3_state_within) k4_state_within)
def k2_state_within : ACode := (.seq (.reg r2_state_within) k3_state_within)
def k0_state_within : ACode := (.seq (.seq (.reg r1_state_within) k1_state_within) k2_state_within)
def c_state_within : ACode := (.seq (.reg r0_state_within) k0_state_within)
theorem e_state_within : ofProg Try.prog 92 = some ⟨48, [], c_state_within⟩ := by kernel_rfl

def goesB (S : StD) (node : Int) (j : Nat) (x : SlotD) : Bool := decide (x.type = 2) && (match atI S.th node with | some t => hasB t j | none => false) && thereB S x.thing
def wTo (S : StD) (rec' : Int → List Int → List Int) (node : Int) (V : List Int) : Nat → List Int
  | 0 => V
  | j + 1 => match S.sl[j]? with
    | some x => if goesB S node j x then rec' x.thing (wTo S rec' node V j) else wTo S rec' node V j
    | none => wTo S rec' node V j
def wIn (S : StD) : Nat → Int → List Int → List Int
  | 0, _, V => V
  | k + 1, node, V => if V.contains node then V else wTo S (wIn S k) node (V ++ [node]) S.sl.length
def Vis (S : StD) (V : List Int) : Prop := V.Nodup ∧ ∀ n ∈ V, thereB S n = true
theorem there_some {S : StD} {n : Int} (h : thereB S n = true) : ∃ t, atI S.th n = some t ∧ S.th[n.toNat]? = some t ∧ 0 ≤ n ∧ n < S.th.length := by
  by_cases q : 0 ≤ n ∧ n < S.th.length
  · obtain ⟨t, e1, e2⟩ := atI_some q.1 q.2
    exact ⟨t, e1, e2, q.1, q.2⟩
  · unfold thereB at h
    rw [atI_none q] at h
    cases h
theorem Vis.few {S : StD} {V : List Int} (h : Vis S V) : V.length ≤ S.th.length := Hai.few _ V h.1 fun x hx => by
  obtain ⟨t, _, _, h1, h2⟩ := there_some (h.2 x hx)
  exact ⟨h1, h2⟩
theorem Vis.snoc {S : StD} {V : List Int} (h : Vis S V) {n : Int} (hn : thereB S n = true) (hc : V.contains n = false) : Vis S (V ++ [n]) := by
  refine ⟨?_, fun x hx => ?_⟩
  · rw [List.nodup_append]
    refine ⟨h.1, by simp, fun a ha b hb => ?_⟩
    simp at hb
    subst hb
    rintro rfl
    rw [List.contains_iff_mem.2 ha] at hc
    cases hc
  · rcases List.mem_append.1 hx with hx | hx
    · exact h.2 x hx
    · simp at hx; subst hx; exact hn

theorem state_within_ok (S : StD) (a1 : Option Addr) (f1 : Nat) (a2 : Option Addr) (f2 : Nat) (hn : S.sl.length < 1000) (hT : ∀ (i : Nat) (x : ThingD), S.th[i]? = some x → nodeOk x) (d m : Nat) :
    ∀ (k : Nat) (σ : AHeap) (node : Int) (V : List Int), SlS σ a1 S.sl → SlT σ a2 S.th → m < σ.n → σ.low ≤ σ.n → MapHas σ m V → Vis S V → thereB S node = true → S.th.length < k + V.length →
    ∃ τ, acall (ofProg Try.prog) 1000 (d + k + 2) 92 [stV S a1 f1 a2 f2, .int .i64 node, .map (some m)] σ = some (.tuple #[], τ) ∧ MapHas τ m (wIn S k node V) ∧ WM m σ τ ∧ Vis S (wIn S k node V) ∧ V.length ≤ (wIn S k node V).length := by
  intro k
  induction k with
  | zero => intro σ node V _ _ _ _ _ hV _ hk; have := hV.few; omega
  | succ k ih =>
    intro σ node V h1 h2 hmn hlo hmap hV hnode hk
    obtain ⟨nt, n1, n2, n3, n4⟩ := there_some hnode
    have hmapg : ∀ L, MapHas (σ.fresh.grow L) m V := fun L => hmap.keeps (grow_old σ.fresh L hmn)
    have hlk := fun L n => lkO_ok (hmapg L) n
    cases hc : V.contains node with
    | true =>
      have hw : wIn S (k + 1) node V = V := by simp only [wIn, hc, if_true]
      rw [hw]
      refine ⟨σ, ?_, hmap, WM.refl _ _, hV, Nat.le_refl _⟩
      refine acall_flat e_state_within (by simp) rfl ?_
      simp (disch := omega) only [hlk, hc, r0_state_within, r1_state_within, k1_state_within, r2_state_within, r3_state_within, r4_state_within, r5_state_within, r6_state_within, r7_state_within, k8_state_within, k7_state_within, r8_state_within, k9_state_within, k6_state_within, k5_state_within, k4_state_within, k3_state_within, k2_state_within, k0_state_within, c_state_within, Za, Zb, Zc, Zd, Ze, Zf, Zg, Zh, Zi, Zj, Zk, Zl, Zm, Zn, Zo, Zp, Zq, Zr, Zs, Zt, Zu, Zv, Zw, Zx, Zy, Zz, ZA, ZB, ZC, ZD, ZE, ZF, ZG, ZH, ZI, ZJ, ZK, ZL, ZM, ZN, ZO, ZP, ZQ, ZR, ZS, ZT, ZU, ZV, ZW, ZX, ZY, ZZ, Z0, Z1, Z2, tget_ins, Z3, Z4, Z5, Z6, Z7, Z8, Z9, Ya, Yb, Yc, Yd, Ye, Yf, Yg, Yh, Yi, Yj, resAll, Yk, Yl, Ym, Yn, Yo, Yp, Yq, Yr, Ys, Yt, List.map_cons, List.map_nil, List.all_cons, List.all_nil, List.nil_append, List.cons_append, List.length_nil, List.length_cons, Nat.reduceAdd, Nat.reduceEqDiff, Nat.reduceLeDiff, Nat.zero_add, Nat.add_zero, Nat.reduceMul, ↓reduceIte, decide_true, decide_false, decide_eq_true_eq, Bool.not_true, Bool.not_false, Bool.and_true, Bool.and_self, Bool.and_false, Bool.false_and, Bool.true_and, Bool.or_true, Bool.true_or, Bool.or_false, Bool.false_or, Bool.not_eq_true', decide_eq_false_iff_not, Bool.false_eq_true, reduceCtorEq, and_self, and_true, true_and, false_and, and_false, not_true_eq_false, not_false_eq_true, Nat.reduceBEq, Yu, Yv, Yw, Yx, Yy, Yz, YA, YB, YC, YD, YE, YF, YG, YH, YI, YJ, YK, YL, YM, YN, YO, YP, YQ, YR, YS, YT, YU, YV, YW, YX, YY, YZ, Y0, Y1, Y2, Y3, Y4, Y5, Y6, Y7, Y8, Y9, Xa, Xb, Xc, Xd, Xe, Xf, Xg, Xh Xi, Xj Xi, Xk Xi, Xl Xi, Xm Xi, Xn Xi, Xo, Xp, aoper, Xq, Xr, Xs, Xt, Xu, Xv, Xw, Xx, Xy, Xz, XA, XB, XC, XD, XE, XF, XG, XH, XI, XJ, XK, XL, XM, XN, XO, XP, XQ, XR, XS, XT, XU, XV Xi, XW, List.set_cons_zero, List.set_cons_succ, Nat.reduceLT, Int.reduceEq, Int.reduceLT, Int.reduceLE, XX, XY, XZ, X0, X1, X2, X3, X4, X5, X6, X7, X8, X9, Va, Vb, Vc, Vd, Ve, Vf, Vg, Vh, Vi, Vj, Vk, Vl, Vm, Vn, Vo, Vp, Vq, Vr, Vs, Vt, Vu, Vv, Vw, Vx]
      rfl
    | false =>
      have hw : wIn S (k + 1) node V = wTo S (wIn S k) node (V ++ [node]) S.sl.length := by simp only [wIn, hc]; rfl
      rw [hw]
      have hV0 := hV.snoc hnode hc
      have hl0 : (V ++ [node]).length = V.length + 1 := by simp
      suffices hs : Hai.Ends (acode (acall (ofProg Try.prog) 1000 (d + k + 2)) 1000 c_state_within (Tr.of [stV S a1 f1 a2 f2, .int .i64 node, .map (some m)]) (σ.fresh.grow []))
          (finE [] fun v τ => v = .tuple #[] ∧ MapHas τ m (wTo S (wIn S k) node (V ++ [node]) S.sl.length) ∧ WM m σ.fresh τ ∧ Vis S (wTo S (wIn S k) node (V ++ [node]) S.sl.length) ∧ V.length ≤ (wTo S (wIn S k) node (V ++ [node]) S.sl.length).length ∧ τ.low = m) by
        obtain ⟨v, τ', e, τ, ⟨rfl, r1, r2, r3, r4, r5⟩, g⟩ := acall_eff e_state_within (by simp) hs
        rcases g with ⟨g1, _, _⟩ | rfl
        · omega
        · refine ⟨_, e, r1, ⟨r2.n, .inr (by rw [r5]; rfl), r2.dead, r2.row⟩, r3, r4⟩
      obtain ⟨τ1, u1, u2, u3, u4, u5⟩ := muO_ok (hmapg [(stL S a1 f1 a2 f2, 5)]) hc
      simp (disch := omega) only [hlk, hc, u1, r0_state_within, r1_state_within, r2_state_within, r3_state_within, r4_state_within, r5_state_within, r6_state_within, r7_state_within, r8_state_within, k0_state_within, k1_state_within, k2_state_within, c_state_within, Za, Zb, Zc, Zd, Ze, Zf, Zg, Zh, Zi, Zj, Zk, Zl, Zm, Zn, Zo, Zp, Zq, Zr, Zs, Zt, Zu, Zv, Zw, Zx, Zy, Zz, ZA, ZB, ZC, ZD, ZE, ZF, ZG, ZH, ZI, ZJ, ZK, ZL, ZM, ZN, ZO, ZP, ZQ, ZR, ZS, ZT, ZU, ZV, ZW, ZX, ZY, ZZ, Z0, Z1, Z2, tget_ins, Z3, Z4, Z5, Z6, Z7, Z8, Z9, Ya, Yb, Yc, Yd, Ye, Yf, Yg, Yh, Yi, Yj, resAll, Yk, Yl, Ym, Yn, Yo, Yp, Yq, Yr, Ys, Yt, List.map_cons, List.map_nil, List.all_cons, List.all_nil, List.nil_append, List.cons_append, List.length_nil, List.length_cons, Nat.reduceAdd, Nat.reduceEqDiff, Nat.reduceLeDiff, Nat.zero_add, Nat.add_zero, Nat.reduceMul, ↓reduceIte, decide_true, decide_false, decide_eq_true_eq, Bool.not_true, Bool.not_false, Bool.and_true, Bool.and_self, Bool.and_false, Bool.false_and, Bool.true_and, Bool.or_true, Bool.true_or, Bool.or_false, Bool.false_or, Bool.not_eq_true', decide_eq_false_iff_not, Bool.false_eq_true, reduceCtorEq, and_self, and_true, true_and, false_and, and_false, not_true_eq_false, not_false_eq_true, Nat.reduceBEq, Yu, Yv, Yw, Yx, Yy, Yz, YA, YB, YC, YD, YE, YF, YG, YH, YI, YJ, YK, YL, YM, YN, YO, YP, YQ, YR, YS, YT, YU, YV, YW, YX, YY, YZ, Y0, Y1, Y2, Y3, Y4, Y5, Y6, Y7, Y8, Y9, Xa, Xb, Xc, Xd, Xe, Xf, Xg, Xh Xi, Xj Xi, Xk Xi, Xl Xi, Xm Xi, Xn Xi, Xo, Xp, aoper, Xq, Xr, Xs, Xt, Xu, Xv, Xw, Xx, Xy, Xz, XA, XB, XC, XD, XE, XF, XG, XH, XI, XJ, XK, XL, XM, XN, XO, XP, XQ, XR, XS, XT, XU, XV Xi, XW, List.set_cons_zero, List.set_cons_succ, Nat.reduceLT, Int.reduceEq, Int.reduceLT, Int.reduceLE, XX, XY, XZ, X0, X1, X2, X3, X4, X5, X6, X7, X8, X9, Va, Vb, Vc, Vd, Ve, Vf, Vg, Vh, Vi, Vj, Vk, Vl, Vm, Vn, Vo, Vp, Vq, Vr, Vs, Vt, Vu, Vv, Vw, Vx]
      have hm1 : minN σ.n m = m := by rw [minN_min]; omega
      rw [Yk, Yl, hm1] at u5
      rw [← grow_nil τ1]
      have hlow1 : τ1.low ≤ τ1.n := by rw [u5, u4, grow_n]; exact Nat.le_trans (Nat.le_of_lt hmn) (Nat.le_add_right _ _)
      have hfn : σ.fresh.n = σ.n := rfl
      have hbx : ∀ τ, WM m (σ.fresh.grow [(stL S a1 f1 a2 f2, 5)]) τ → ∀ L o n, (τ.grow L).loadN σ.fresh.n o n = sliceL (stL S a1 f1 a2 f2) o n := fun τ w L o n => by
        rw [(w.grow L).load _ _ (by rw [grow_n]; simp) (by omega), Xb]
      have hbox := hbx τ1 u3
      simp (disch := omega) only [hbox, r0_state_within, r1_state_within, r2_state_within, r3_state_within, r4_state_within, r5_state_within, r6_state_within, r7_state_within, r8_state_within, k3_state_within, Za, Zb, Zc, Zd, Ze, Zf, Zg, Zh, Zi, Zj, Zk, Zl, Zm, Zn, Zo, Zp, Zq, Zr, Zs, Zt, Zu, Zv, Zw, Zx, Zy, Zz, ZA, ZB, ZC, ZD, ZE, ZF, ZG, ZH, ZI, ZJ, ZK, ZL, ZM, ZN, ZO, ZP, ZQ, ZR, ZS, ZT, ZU, ZV, ZW, ZX, ZY, ZZ, Z0, Z1, Z2, tget_ins, Z3, Z4, Z5, Z6, Z7, Z8, Z9, Ya, Yb, Yc, Yd, Ye, Yf, Yg, Yh, Yi, Yj, resAll, Yk, Yl, Ym, Yn, Yo, Yp, Yq, Yr, Ys, Yt, List.map_cons, List.map_nil, List.all_cons, List.all_nil, List.nil_append, List.cons_append, List.length_nil, List.length_cons, Nat.reduceAdd, Nat.reduceEqDiff, Nat.reduceLeDiff, Nat.zero_add, Nat.add_zero, Nat.reduceMul, ↓reduceIte, decide_true, decide_false, decide_eq_true_eq, Bool.not_true, Bool.not_false, Bool.and_true, Bool.and_self, Bool.and_false, Bool.false_and, Bool.true_and, Bool.or_true, Bool.true_or, Bool.or_false, Bool.false_or, Bool.not_eq_true', decide_eq_false_iff_not, Bool.false_eq_true, reduceCtorEq, and_self, and_true, true_and, false_and, and_false, not_true_eq_false, not_false_eq_true, Nat.reduceBEq, Yu, Yv, Yw, Yx, Yy, Yz, YA, YB, YC, YD, YE, YF, YG, YH, YI, YJ, YK, YL, YM, YN, YO, YP, YQ, YR, YS, YT, YU, YV, YW, YX, YY, YZ, Y0, Y1, Y2, Y3, Y4, Y5, Y6, Y7, Y8, Y9, Xa, Xb, Xc, Xd, Xe, Xf, Xg, Xh Xi, Xj Xi, Xk Xi, Xl Xi, Xm Xi, Xn Xi, Xo, Xp, aoper, Xq, Xr, Xs, Xt, Xu, Xv, Xw, Xx, Xy, Xz, XA, XB, XC, XD, XE, XF, XG, XH, XI, XJ, XK, XL, XM, XN, XO, XP, XQ, XR, XS, XT, XU, XV Xi, XW, List.set_cons_zero, List.set_cons_succ, Nat.reduceLT, Int.reduceEq, Int.reduceLT, Int.reduceLE, XX, XY, XZ, X0, X1, X2, X3, X4, X5, X6, X7, X8, X9, Va, Vb, Vc, Vd, Ve, Vf, Vg, Vh, Vi, Vj, Vk, Vl, Vm, Vn, Vo, Vp, Vq, Vr, Vs, Vt, Vu, Vv, Vw, Vx]
      simp only [k4_state_within, Zf]
      refine ends_loop (fun j t τ => tget t 14 = .slice a1 S.sl.length f1 ∧ tget t 15 = i64 S.sl.length ∧ tget t 16 = i64 j ∧ tget t 3 = here σ.fresh.n 0 ∧ tget t 1 = i64 node ∧ tget t 2 = .map (some m) ∧
          WM m (σ.fresh.grow [(stL S a1 f1 a2 f2, 5)]) τ ∧ τ.low = m ∧ MapHas τ m (wTo S (wIn S k) node (V ++ [node]) j) ∧ Vis S (wTo S (wIn S k) node (V ++ [node]) j) ∧ V.length + 1 ≤ (wTo S (wIn S k) node (V ++ [node]) j).length)
        S.sl.length hn ⟨?_, ?_, ?_, ?_, ?_, ?_, u3.grow [], by rw [Yk]; exact u5, by rw [grow_nil]; exact u2, hV0, by rw [wTo, hl0]; exact Nat.le_refl _⟩ ?_
      iterate 6 simp (disch := omega) only [Int.natCast_zero, Int.ofNat_zero, r0_state_within, r1_state_within, k1_state_within, r2_state_within, r3_state_within, r4_state_within, r5_state_within, r6_state_within, r7_state_within, k8_state_within, k7_state_within, r8_state_within, k9_state_within, k6_state_within, k5_state_within, k4_state_within, k3_state_within, k2_state_within, k0_state_within, c_state_within, Za, Zb, Zc, Zd, Ze, Zf, Zg, Zh, Zi, Zj, Zk, Zl, Zm, Zn, Zo, Zp, Zq, Zr, Zs, Zt, Zu, Zv, Zw, Zx, Zy, Zz, ZA, ZB, ZC, ZD, ZE, ZF, ZG, ZH, ZI, ZJ, ZK, ZL, ZM, ZN, ZO, ZP, ZQ, ZR, ZS, ZT, ZU, ZV, ZW, ZX, ZY, ZZ, Z0, Z1, Z2, tget_ins, Z3, Z4, Z5, Z6, Z7, Z8, Z9, Ya, Yb, Yc, Yd, Ye, Yf, Yg, Yh, Yi, Yj, resAll, Yk, Yl, Ym, Yn, Yo, Yp, Yq, Yr, Ys, Yt, List.map_cons, List.map_nil, List.all_cons, List.all_nil, List.nil_append, List.cons_append, List.length_nil, List.length_cons, Nat.reduceAdd, Nat.reduceEqDiff, Nat.reduceLeDiff, Nat.zero_add, Nat.add_zero, Nat.reduceMul, ↓reduceIte, decide_true, decide_false, decide_eq_true_eq, Bool.not_true, Bool.not_false, Bool.and_true, Bool.and_self, Bool.and_false, Bool.false_and, Bool.true_and, Bool.or_true, Bool.true_or, Bool.or_false, Bool.false_or, Bool.not_eq_true', decide_eq_false_iff_not, Bool.false_eq_true, reduceCtorEq, and_self, and_true, true_and, false_and, and_false, not_true_eq_false, not_false_eq_true, Nat.reduceBEq, Yu, Yv, Yw, Yx, Yy, Yz, YA, YB, YC, YD, YE, YF, YG, YH, YI, YJ, YK, YL, YM, YN, YO, YP, YQ, YR, YS, YT, YU, YV, YW, YX, YY, YZ, Y0, Y1, Y2, Y3, Y4, Y5, Y6, Y7, Y8, Y9, Xa, Xb, Xc, Xd, Xe, Xf, Xg, Xh Xi, Xj Xi, Xk Xi, Xl Xi, Xm Xi, Xn Xi, Xo, Xp, aoper, Xq, Xr, Xs, Xt, Xu, Xv, Xw, Xx, Xy, Xz, XA, XB, XC, XD, XE, XF, XG, XH, XI, XJ, XK, XL, XM, XN, XO, XP, XQ, XR, XS, XT, XU, XV Xi, XW, List.set_cons_zero, List.set_cons_succ, Nat.reduceLT, Int.reduceEq, Int.reduceLT, Int.reduceLE, XX, XY, XZ, X0, X1, X2, X3, X4, X5, X6, X7, X8, X9, Va, Vb, Vc, Vd, Ve, Vf, Vg, Vh, Vi, Vj, Vk, Vl, Vm, Vn, Vo, Vp, Vq, Vr, Vs, Vt, Vu, Vv, Vw, Vx]
      rintro j t τ hj ⟨t14, t15, t16, t3, t1, t2, hwm, hlo', hmap', hvis, hlen⟩
      rw [← grow_nil τ]
      have hlow : τ.low ≤ τ.n := by have := hwm.n; rw [grow_n] at this; omega
      have hboxt := hbx τ hwm
      have h1τ : SlS τ a1 S.sl := (h1.fresh.grow _).wm (hmapg _) hwm
      have h2τ : SlT τ a2 S.th := (h2.fresh.grow _).wm (hmapg _) hwm
      by_cases hlt : j < S.sl.length
      · obtain ⟨b, rfl, hb⟩ := h1τ.at hlt
        have hx : S.sl[j]? = some S.sl[j] := List.getElem?_eq_getElem hlt
        generalize S.sl[j] = x at hx
        have hl := fun L => hb.ld0 (Keeps.refl τ) hx L 5 (by omega)
        simp only [List.take_succ_cons, List.take_zero] at hl
        have hlt' : (j : Int) < (S.sl.length : Int) := by omega
        have hcast : ((j + 1 : Nat) : Int) = (j : Int) + 1 := by omega
        obtain ⟨b2, rfl, hb2⟩ := h2τ.at (i := node.toNat) (by omega)
        have hl2 := fun L => hb2.ld0 (Keeps.refl τ) n2 L 13 (by omega)
        simp only [List.take_succ_cons, List.take_zero] at hl2
        have hhas := fun L => state_has_ok (d + k + 1) (τ.grow L) nt j (hT _ nt n2)
        have hth := fun L n => state_there_ok (d + k + 1) (τ.grow L) S (some ⟨b, 0, none⟩) f1 (some ⟨b2, 0, none⟩) f2 n (h2τ.grow L)
        have hmg : ∀ L, MapHas (τ.grow L) m (wTo S (wIn S k) node (V ++ [node]) j) := fun L => hmap'.keeps (grow_old τ L (by have := hwm.n; rw [grow_n] at this; omega))
        have hg : goesB S node j x = (decide (x.type = 2) && hasB nt j && thereB S x.thing) := by unfold goesB; rw [n1]
        cases hgo : goesB S node j x with
        | false =>
          have hw' : wTo S (wIn S k) node (V ++ [node]) (j + 1) = wTo S (wIn S k) node (V ++ [node]) j := by simp [wTo, hx, hgo]
          rw [hg] at hgo
          have ins := fun L => And.intro (hwm.grow L) (And.intro (hmg L) (And.intro hvis hlen))
          by_cases g1 : x.type = 2
          · cases g2 : hasB nt j with
            | false => simp (disch := omega) only [t14, t15, t16, t3, t1, t2, hboxt, hl, hl2, hlt', hlt, hcast, n3, n4, Int.toNat_natCast, hhas, Xh hlow, eq_true g1, g2, hw', hlo', hwm.grow, hmg, hvis, hlen, r0_state_within, r1_state_within, k1_state_within, r2_state_within, r3_state_within, r4_state_within, r5_state_within, r6_state_within, r7_state_within, k8_state_within, k7_state_within, r8_state_within, k9_state_within, k6_state_within, k5_state_within, k4_state_within, k3_state_within, k2_state_within, k0_state_within, b0_state_within, Za, Zb, Zc, Zd, Ze, Zf, Zg, Zh, Zi, Zj, Zk, Zl, Zm, Zn, Zo, Zp, Zq, Zr, Zs, Zt, Zu, Zv, Zw, Zx, Zy, Zz, ZA, ZB, ZC, ZD, ZE, ZF, ZG, ZH, ZI, ZJ, ZK, ZL, ZM, ZN, ZO, ZP, ZQ, ZR, ZS, ZT, ZU, ZV, ZW, ZX, ZY, ZZ, Z0, Z1, Z2, tget_ins, Z3, Z4, Z5, Z6, Z7, Z8, Z9, Ya, Yb, Yc, Yd, Ye, Yf, Yg, Yh, Yi, Yj, resAll, Yk, Yl, Ym, Yn, Yo, Yp, Yq, Yr, Ys, Yt, List.map_cons, List.map_nil, List.all_cons, List.all_nil, List.nil_append, List.cons_append, List.length_nil, List.length_cons, Nat.reduceAdd, Nat.reduceEqDiff, Nat.reduceLeDiff, Nat.zero_add, Nat.add_zero, Nat.reduceMul, ↓reduceIte, decide_true, decide_false, decide_eq_true_eq, Bool.not_true, Bool.not_false, Bool.and_true, Bool.and_self, Bool.and_false, Bool.false_and, Bool.true_and, Bool.or_true, Bool.true_or, Bool.or_false, Bool.false_or, Bool.not_eq_true', decide_eq_false_iff_not, Bool.false_eq_true, reduceCtorEq, and_self, and_true, true_and, false_and, and_false, not_true_eq_false, not_false_eq_true, Nat.reduceBEq, Yu, Yv, Yw, Yx, Yy, Yz, YA, YB, YC, YD, YE, YF, YG, YH, YI, YJ, YK, YL, YM, YN, YO, YP, YQ, YR, YS, YT, YU, YV, YW, YX, YY, YZ, Y0, Y1, Y2, Y3, Y4, Y5, Y6, Y7, Y8, Y9, Xa, Xb, Xc, Xd, Xe, Xf, Xg, Xh Xi, Xj Xi, Xk Xi, Xl Xi, Xm Xi, Xn Xi, Xo, Xp, aoper, Xq, Xr, Xs, Xt, Xu, Xv, Xw, Xx, Xy, Xz, XA, XB, XC, XD, XE, XF, XG, XH, XI, XJ, XK, XL, XM, XN, XO, XP, XQ, XR, XS, XT, XU, XV Xi, XW, List.set_cons_zero, List.set_cons_succ, Nat.reduceLT, Int.reduceEq, Int.reduceLT, Int.reduceLE, XX, XY, XZ, X0, X1, X2, X3, X4, X5, X6, X7, X8, X9, Va, Vb, Vc, Vd, Ve, Vf, Vg, Vh, Vi, Vj, Vk, Vl, Vm, Vn, Vo, Vp, Vq, Vr, Vs, Vt, Vu, Vv, Vw, Vx]
            | true =>
              have g3 : thereB S x.thing = false := by rw [g2] at hgo; simpa [g1] using hgo
              simp (disch := omega) only [t14, t15, t16, t3, t1, t2, hboxt, hl, hl2, hlt', hlt, hcast, n3, n4, Int.toNat_natCast, hhas, hth, Xh hlow, eq_true g1, g2, g3, hw', hlo', hwm.grow, hmg, hvis, hlen, r0_state_within, r1_state_within, k1_state_within, r2_state_within, r3_state_within, r4_state_within, r5_state_within, r6_state_within, r7_state_within, k8_state_within, k7_state_within, r8_state_within, k9_state_within, k6_state_within, k5_state_within, k4_state_within, k3_state_within, k2_state_within, k0_state_within, b0_state_within, Za, Zb, Zc, Zd, Ze, Zf, Zg, Zh, Zi, Zj, Zk, Zl, Zm, Zn, Zo, Zp, Zq, Zr, Zs, Zt, Zu, Zv, Zw, Zx, Zy, Zz, ZA, ZB, ZC, ZD, ZE, ZF, ZG, ZH, ZI, ZJ, ZK, ZL, ZM, ZN, ZO, ZP, ZQ, ZR, ZS, ZT, ZU, ZV, ZW, ZX, ZY, ZZ, Z0, Z1, Z2, tget_ins, Z3, Z4, Z5, Z6, Z7, Z8, Z9, Ya, Yb, Yc, Yd, Ye, Yf, Yg, Yh, Yi, Yj, resAll, Yk, Yl, Ym, Yn, Yo, Yp, Yq, Yr, Ys, Yt, List.map_cons, List.map_nil, List.all_cons, List.all_nil, List.nil_append, List.cons_append, List.length_nil, List.length_cons, Nat.reduceAdd, Nat.reduceEqDiff, Nat.reduceLeDiff, Nat.zero_add, Nat.add_zero, Nat.reduceMul, ↓reduceIte, decide_true, decide_false, decide_eq_true_eq, Bool.not_true, Bool.not_false, Bool.and_true, Bool.and_self, Bool.and_false, Bool.false_and, Bool.true_and, Bool.or_true, Bool.true_or, Bool.or_false, Bool.false_or, Bool.not_eq_true', decide_eq_false_iff_not, Bool.false_eq_true, reduceCtorEq, and_self, and_true, true_and, false_and, and_false, not_true_eq_false, not_false_eq_true, Nat.reduceBEq, Yu, Yv, Yw, Yx, Yy, Yz, YA, YB, YC, YD, YE, YF, YG, YH, YI, YJ, YK, YL, YM, YN, YO, YP, YQ, YR, YS, YT, YU, YV, YW, YX, YY, YZ, Y0, Y1, Y2, Y3, Y4, Y5, Y6, Y7, Y8, Y9, Xa, Xb, Xc, Xd, Xe, Xf, Xg, Xh Xi, Xj Xi, Xk Xi, Xl Xi, Xm Xi, Xn Xi, Xo, Xp, aoper, Xq, Xr, Xs, Xt, Xu, Xv, Xw, Xx, Xy, Xz, XA, XB, XC, XD, XE, XF, XG, XH, XI, XJ, XK, XL, XM, XN, XO, XP, XQ, XR, XS, XT, XU, XV Xi, XW, List.set_cons_zero, List.set_cons_succ, Nat.reduceLT, Int.reduceEq, Int.reduceLT, Int.reduceLE, XX, XY, XZ, X0, X1, X2, X3, X4, X5, X6, X7, X8, X9, Va, Vb, Vc, Vd, Ve, Vf, Vg, Vh, Vi, Vj, Vk, Vl, Vm, Vn, Vo, Vp, Vq, Vr, Vs, Vt, Vu, Vv, Vw, Vx]
          · simp (disch := omega) only [t14, t15, t16, t3, t1, t2, hboxt, hl, hlt', hlt, hcast, Int.toNat_natCast, Xh hlow, g1, hw', hlo', hwm.grow, hmg, hvis, hlen, r0_state_within, r1_state_within, k1_state_within, r2_state_within, r3_state_within, r4_state_within, r5_state_within, r6_state_within, r7_state_within, k8_state_within, k7_state_within, r8_state_within, k9_state_within, k6_state_within, k5_state_within, k4_state_within, k3_state_within, k2_state_within, k0_state_within, b0_state_within, Za, Zb, Zc, Zd, Ze, Zf, Zg, Zh, Zi, Zj, Zk, Zl, Zm, Zn, Zo, Zp, Zq, Zr, Zs, Zt, Zu, Zv, Zw, Zx, Zy, Zz, ZA, ZB, ZC, ZD, ZE, ZF, ZG, ZH, ZI, ZJ, ZK, ZL, ZM, ZN, ZO, ZP, ZQ, ZR, ZS, ZT, ZU, ZV, ZW, ZX, ZY, ZZ, Z0, Z1, Z2, tget_ins, Z3, Z4, Z5, Z6, Z7, Z8, Z9, Ya, Yb, Yc, Yd, Ye, Yf, Yg, Yh, Yi, Yj, resAll, Yk, Yl, Ym, Yn, Yo, Yp, Yq, Yr, Ys, Yt, List.map_cons, List.map_nil, List.all_cons, List.all_nil, List.nil_append, List.cons_append, List.length_nil, List.length_cons, Nat.reduceAdd, Nat.reduceEqDiff, Nat.reduceLeDiff, Nat.zero_add, Nat.add_zero, Nat.reduceMul, ↓reduceIte, decide_true, decide_false, decide_eq_true_eq, Bool.not_true, Bool.not_false, Bool.and_true, Bool.and_self, Bool.and_false, Bool.false_and, Bool.true_and, Bool.or_true, Bool.true_or, Bool.or_false, Bool.false_or, Bool.not_eq_true', decide_eq_false_iff_not, Bool.false_eq_true, reduceCtorEq, and_self, and_true, true_and, false_and, and_false, not_true_eq_false, not_false_eq_true, Nat.reduceBEq, Yu, Yv, Yw, Yx, Yy, Yz, YA, YB, YC, YD, YE, YF, YG, YH, YI, YJ, YK, YL, YM, YN, YO, YP, YQ, YR, YS, YT, YU, YV, YW, YX, YY, YZ, Y0, Y1, Y2, Y3, Y4, Y5, Y6, Y7, Y8, Y9, Xa, Xb, Xc, Xd, Xe, Xf, Xg, Xh Xi, Xj Xi, Xk Xi, Xl Xi, Xm Xi, Xn Xi, Xo, Xp, aoper, Xq, Xr, Xs, Xt, Xu, Xv, Xw, Xx, Xy, Xz, XA, XB, XC, XD, XE, XF, XG, XH, XI, XJ, XK, XL, XM, XN, XO, XP, XQ, XR, XS, XT, XU, XV Xi, XW, List.set_cons_zero, List.set_cons_succ, Nat.reduceLT, Int.reduceEq, Int.reduceLT, Int.reduceLE, XX, XY, XZ, X0, X1, X2, X3, X4, X5, X6, X7, X8, X9, Va, Vb, Vc, Vd, Ve, Vf, Vg, Vh, Vi, Vj, Vk, Vl, Vm, Vn, Vo, Vp, Vq, Vr, Vs, Vt, Vu, Vv, Vw, Vx]
        | true =>
          have hw' : wTo S (wIn S k) node (V ++ [node]) (j + 1) = wIn S k x.thing (wTo S (wIn S k) node (V ++ [node]) j) := by simp [wTo, hx, hgo]
          rw [hg] at hgo
          simp only [Bool.and_eq_true, decide_eq_true_eq] at hgo
          obtain ⟨⟨g1, g2⟩, g3⟩ := hgo
          obtain ⟨υ, e, v1, v2, v3, v4⟩ := ih (τ.grow [(slotL x, 5)]) x.thing (wTo S (wIn S k) node (V ++ [node]) j) (h1τ.grow _) (h2τ.grow _) (by rw [grow_n]; have := hwm.n; rw [grow_n] at this; omega) (low_grow hlow _) (hmg _) hvis g3 (by omega)
          have w' := (hwm.grow [(slotL x, 5)]).trans v2
          have lo' : υ.low = m := by
            have := v2.low
            rw [Yk, hlo', minN_min] at this
            omega
          have v5 := Nat.le_trans hlen v4
          simp (disch := omega) only [t14, t15, t16, t3, t1, t2, hboxt, hl, hl2, hlt', hlt, hcast, n3, n4, Int.toNat_natCast, hhas, hth, Xh hlow, eq_true g1, g2, g3, e, hw', lo', w', v1, v3, v5, r0_state_within, r1_state_within, k1_state_within, r2_state_within, r3_state_within, r4_state_within, r5_state_within, r6_state_within, r7_state_within, k8_state_within, k7_state_within, r8_state_within, k9_state_within, k6_state_within, k5_state_within, k4_state_within, k3_state_within, k2_state_within, k0_state_within, b0_state_within, Za, Zb, Zc, Zd, Ze, Zf, Zg, Zh, Zi, Zj, Zk, Zl, Zm, Zn, Zo, Zp, Zq, Zr, Zs, Zt, Zu, Zv, Zw, Zx, Zy, Zz, ZA, ZB, ZC, ZD, ZE, ZF, ZG, ZH, ZI, ZJ, ZK, ZL, ZM, ZN, ZO, ZP, ZQ, ZR, ZS, ZT, ZU, ZV, ZW, ZX, ZY, ZZ, Z0, Z1, Z2, tget_ins, Z3, Z4, Z5, Z6, Z7, Z8, Z9, Ya, Yb, Yc, Yd, Ye, Yf, Yg, Yh, Yi, Yj, resAll, Yk, Yl, Ym, Yn, Yo, Yp, Yq, Yr, Ys, Yt, List.map_cons, List.map_nil, List.all_cons, List.all_nil, List.nil_append, List.cons_append, List.length_nil, List.length_cons, Nat.reduceAdd, Nat.reduceEqDiff, Nat.reduceLeDiff, Nat.zero_add, Nat.add_zero, Nat.reduceMul, ↓reduceIte, decide_true, decide_false, decide_eq_true_eq, Bool.not_true, Bool.not_false, Bool.and_true, Bool.and_self, Bool.and_false, Bool.false_and, Bool.true_and, Bool.or_true, Bool.true_or, Bool.or_false, Bool.false_or, Bool.not_eq_true', decide_eq_false_iff_not, Bool.false_eq_true, reduceCtorEq, and_self, and_true, true_and, false_and, and_false, not_true_eq_false, not_false_eq_true, Nat.reduceBEq, Yu, Yv, Yw, Yx, Yy, Yz, YA, YB, YC, YD, YE, YF, YG, YH, YI, YJ, YK, YL, YM, YN, YO, YP, YQ, YR, YS, YT, YU, YV, YW, YX, YY, YZ, Y0, Y1, Y2, Y3, Y4, Y5, Y6, Y7, Y8, Y9, Xa, Xb, Xc, Xd, Xe, Xf, Xg, Xh Xi, Xj Xi, Xk Xi, Xl Xi, Xm Xi, Xn Xi, Xo, Xp, aoper, Xq, Xr, Xs, Xt, Xu, Xv, Xw, Xx, Xy, Xz, XA, XB, XC, XD, XE, XF, XG, XH, XI, XJ, XK, XL, XM, XN, XO, XP, XQ, XR, XS, XT, XU, XV Xi, XW, List.set_cons_zero, List.set_cons_succ, Nat.reduceLT, Int.reduceEq, Int.reduceLT, Int.reduceLE, XX, XY, XZ, X0, X1, X2, X3, X4, X5, X6, X7, X8, X9, Va, Vb, Vc, Vd, Ve, Vf, Vg, Vh, Vi, Vj, Vk, Vl, Vm, Vn, Vo, Vp, Vq, Vr, Vs, Vt, Vu, Vv, Vw, Vx]
      · have hlt' : ¬ (j : Int) < (S.sl.length : Int) := by omega
        have hjj : j = S.sl.length := by omega
        subst hjj
        have hwf : WM m σ.fresh τ := (Keeps.self σ.fresh [(stL S a1 f1 a2 f2, 5)]).wm.trans hwm
        simp (disch := omega) only [t14, t15, t16, hlt', r0_state_within, r1_state_within, k1_state_within, r2_state_within, r3_state_within, r4_state_within, r5_state_within, r6_state_within, r7_state_within, k8_state_within, k7_state_within, r8_state_within, k9_state_within, k6_state_within, k5_state_within, k4_state_within, k3_state_within, k2_state_within, k0_state_within, b0_state_within, Za, Zb, Zc, Zd, Ze, Zf, Zg, Zh, Zi, Zj, Zk, Zl, Zm, Zn, Zo, Zp, Zq, Zr, Zs, Zt, Zu, Zv, Zw, Zx, Zy, Zz, ZA, ZB, ZC, ZD, ZE, ZF, ZG, ZH, ZI, ZJ, ZK, ZL, ZM, ZN, ZO, ZP, ZQ, ZR, ZS, ZT, ZU, ZV, ZW, ZX, ZY, ZZ, Z0, Z1, Z2, tget_ins, Z3, Z4, Z5, Z6, Z7, Z8, Z9, Ya, Yb, Yc, Yd, Ye, Yf, Yg, Yh, Yi, Yj, resAll, Yk, Yl, Ym, Yn, Yo, Yp, Yq, Yr, Ys, Yt, List.map_cons, List.map_nil, List.all_cons, List.all_nil, List.nil_append, List.cons_append, List.length_nil, List.length_cons, Nat.reduceAdd, Nat.reduceEqDiff, Nat.reduceLeDiff, Nat.zero_add, Nat.add_zero, Nat.reduceMul, ↓reduceIte, decide_true, decide_false, decide_eq_true_eq, Bool.not_true, Bool.not_false, Bool.and_true, Bool.and_self, Bool.and_false, Bool.false_and, Bool.true_and, Bool.or_true, Bool.true_or, Bool.or_false, Bool.false_or, Bool.not_eq_true', decide_eq_false_iff_not, Bool.false_eq_true, reduceCtorEq, and_self, and_true, true_and, false_and, and_false, not_true_eq_false, not_false_eq_true, Nat.reduceBEq, Yu, Yv, Yw, Yx, Yy, Yz, YA, YB, YC, YD, YE, YF, YG, YH, YI, YJ, YK, YL, YM, YN, YO, YP, YQ, YR, YS, YT, YU, YV, YW, YX, YY, YZ, Y0, Y1, Y2, Y3, Y4, Y5, Y6, Y7, Y8, Y9, Xa, Xb, Xc, Xd, Xe, Xf, Xg, Xh Xi, Xj Xi, Xk Xi, Xl Xi, Xm Xi, Xn Xi, Xo, Xp, aoper, Xq, Xr, Xs, Xt, Xu, Xv, Xw, Xx, Xy, Xz, XA, XB, XC, XD, XE, XF, XG, XH, XI, XJ, XK, XL, XM, XN, XO, XP, XQ, XR, XS, XT, XU, XV Xi, XW, List.set_cons_zero, List.set_cons_succ, Nat.reduceLT, Int.reduceEq, Int.reduceLT, Int.reduceLE, XX, XY, XZ, X0, X1, X2, X3, X4, X5, X6, X7, X8, X9, Va, Vb, Vc, Vd, Ve, Vf, Vg, Vh, Vi, Vj, Vk, Vl, Vm, Vn, Vo, Vp, Vq, Vr, Vs, Vt, Vu, Vv, Vw, Vx]
        rw [grow_nil]
        exact ⟨rfl, hmap', hwf, hvis, by omega, hlo'⟩
end Go.Proofs.Ytphbidcbepnihaa
