/-
  The abstract interpreter: each operation of its form does what the machine's does (3). No proof of the program stands here.
-/
import Derived.Test.YtphbidcbepnihaaH8
import Derived.Laws.Append
namespace Go.Hai
open Go

section
variable {P : Program}

theorem abin_run {w : World} {op : BinOp} {xt : TypeId} {X Y : Operand} {a b r : Value} (h : abin op a b = some r) :
    (do eqGuard op xt X Y a b; binOp op xt a b : Sem Value).run P w = .ok r w ∧ flat r = true := by
  unfold abin at h
  split at h
  · next k n k' m =>
    have hgd : (eqGuard op xt X Y (.int k n) (.int k' m)).run P w = .ok () w := by cases op <;> simp [eqGuard]
    simp only [Sem.run_bind, hgd, Result.andThen_ok]
    clear hgd
    cases op <;> simp only at h
    case shl =>
      split at h
      · cases h
      · next hn => cases h; exact ⟨by simp only [binOp, Op.shift, if_neg hn, Sem.run_pure], rfl⟩
    case shr =>
      split at h
      · cases h
      · next hn => cases h; exact ⟨by simp only [binOp, Op.shift, if_neg hn, Sem.run_pure], rfl⟩
    case quo =>
      split at h
      · next hk =>
        subst hk
        split at h
        · cases h
        · next hn => cases h; exact ⟨by simp only [binOp, Op.intDiv, if_neg hn, Sem.run_pure, ne_eq, not_true_eq_false, if_false], rfl⟩
      · cases h
    case rem =>
      split at h
      · next hk =>
        subst hk
        split at h
        · cases h
        · next hn => cases h; exact ⟨by simp only [binOp, Op.intDiv, if_neg hn, Sem.run_pure, ne_eq, not_true_eq_false, if_false], rfl⟩
      · cases h
    all_goals
      split at h
      · next hk =>
        subst hk
        cases h
        exact ⟨by simp only [binOp, Op.intArith, Op.intBits, Op.intCmp, Sem.run_pure, ne_eq, not_true_eq_false, if_false], rfl⟩
      · cases h
  · next s s' =>
    have hgd : (eqGuard op xt X Y (.string s) (.string s')).run P w = .ok () w := by cases op <;> simp [eqGuard]
    simp only [Sem.run_bind, hgd, Result.andThen_ok]
    cases op <;> simp only at h <;> first
      | (cases h; done)
      | (cases h; exact ⟨by simp only [binOp, Op.stringOp, Sem.run_pure], rfl⟩)
  · cases h

theorem abin_flat {op : BinOp} {a b r : Value} (h : abin op a b = some r) : flat a = true ∧ flat b = true := by
  unfold abin at h
  split at h
  · exact ⟨rfl, rfl⟩
  · exact ⟨rfl, rfl⟩
  · cases h

theorem abinA_abin [Rho] {ρ : Ren} {op : BinOp} {a b r a' b' : Value} (h : abinA op a b = some r) (ha : VR ρ a a') (hb : VR ρ b b') : abin op a' b' = some r := by
  unfold abinA at h
  split at h
  · split at h
    · next hz =>
      rw [isZero_eq hz] at hb
      rw [sym_eq ha, int_eq hb]
      cases op <;> first | (cases h; rfl) | cases h
    · cases h
  · obtain ⟨f1, f2⟩ := abin_flat h
    rw [flat_eq f1 ha, flat_eq f2 hb]
    exact h

theorem ok_bin' [Rho] {op : BinOp} {xt yt : TypeId} {x y : Operand} (hx1 : okX x = true ∧ okX y = true) : OpOk P (.binOp op xt x y yt) (.bin op x y) := by
  intro o σ t η ρ w v σ' ho hs hx ha
  simp only [aop] at ha
  split at ha
  · next r hr =>
    cases ha
    have hr' := abinA_abin hr (hx x hx1.1) (hx y hx1.2)
    obtain ⟨q1, q2⟩ := abin_run (P := P) (w := w) (xt := xt) (X := x) (Y := y) hr'
    refine done_pure hs (u := v) ?_ (.flat q2)
    simp only [execOp, ho]
    simp only [Sem.run_bind] at q1 ⊢
    rw [q1]
    simp
  · cases ha

theorem run_eqlB [Rho] {w : World} {xt : TypeId} (ht : P.underlying xt = some .bool) (a b : Bool) : (binOp .eql xt (.bool a) (.bool b)).run P w = .ok (.bool (a == b)) w ∧ (binOp .neq xt (.bool a) (.bool b)).run P w = .ok (.bool (!(a == b))) w := by
  have q : ∀ d, (Op.equalIn (d + 1) xt (.bool a) (.bool b)).run P w = .ok (a == b) w := fun d => by simp [Op.equalIn, run_und ht]
  constructor <;> simp [binOp, Op.equal, Op.maxDepth, q]

theorem ok_eqB [Rho] {op : BinOp} {xt yt : TypeId} {x y : Operand} (hx1 : okX x = true ∧ okX y = true) (ht : P.underlying xt = some .bool) (ho' : (op == .eql || op == .neq) = true) :
    OpOk P (.binOp op xt x y yt) (.eqB (op == .neq) x y) := by
  intro o σ t η ρ w v σ' ho hs hx ha
  simp only [aop] at ha
  split at ha
  · next a b e1 e2 =>
    cases ha
    have hv := hx x hx1.1
    have hv' := hx y hx1.2
    rw [e1] at hv; rw [e2] at hv'
    have f1 := bool_eq hv
    have f2 := bool_eq hv'
    have hgd : (eqGuard op xt x y (.bool a) (.bool b)).run P w = .ok () w := by cases op <;> simp [eqGuard]
    obtain ⟨q1, q2⟩ := run_eqlB (P := P) (w := w) ht a b
    cases op <;> simp at ho'
    · exact done_pure hs (u := .bool (a == b)) (by simp only [execOp, ho, f1, f2, Sem.run_bind, hgd, Result.andThen_ok, q1, Sem.run_pure]) (.flat rfl)
    · exact done_pure hs (u := .bool (!(a == b))) (by simp only [execOp, ho, f1, f2, Sem.run_bind, hgd, Result.andThen_ok, q2, Sem.run_pure]) (.flat rfl)
  · cases ha

theorem ok_eqNil [Rho] {op : BinOp} {xt yt : TypeId} {x y : Operand} {e : TypeId} (hx1 : okX x = true ∧ okX y = true) (ht : P.underlying xt = some (.slice e)) (hn : isNilX y = true) (ho' : (op == .eql || op == .neq) = true) :
    OpOk P (.binOp op xt x y yt) (.eqNil (op == .neq) x) := by
  have hy : y = .const (.slice none 0 0) := by
    unfold isNilX at hn
    split at hn
    · rfl
    · cases hn
  subst hy
  intro o σ t η ρ w v σ' ho hs hx ha
  simp only [aop] at ha
  split at ha
  · next a l f e1 =>
    cases ha
    have hv := hx x hx1.1
    rw [e1] at hv
    have f2 : η (.const (.slice none 0 0)) = .slice none 0 0 := flat_eq (v := .slice none 0 0) rfl (hx _ hx1.2)
    have key : ∃ a' l' c', η x = .slice a' l' c' ∧ a'.isNone = a.isNone := by
      rcases hv.sl_inv with ⟨rfl, _, _, h⟩ | ⟨_, _, rfl, _, _, h⟩ | ⟨_, _, _, _, _, rfl, _, _, _, _, _, h⟩
      · exact ⟨_, _, _, h, rfl⟩
      · exact ⟨_, _, _, h, rfl⟩
      · exact ⟨_, _, _, h, rfl⟩
    obtain ⟨a', l', c', f1, hn'⟩ := key
    rw [← hn']
    have q : ∀ d, (Op.equalIn (d + 1) xt (.slice a' l' c') (.slice none 0 0)).run P w = .ok a'.isNone w := by
      intro d
      cases a' <;> simp [Op.equalIn, run_und ht]
    cases op <;> simp at ho'
    · exact done_pure hs (u := .bool a'.isNone) (by simp [execOp, ho, f1, f2, eqGuard, binOp, Op.equal, Op.maxDepth, q]) (.flat rfl)
    · exact done_pure hs (u := .bool (!a'.isNone)) (by simp [execOp, ho, f1, f2, eqGuard, binOp, Op.equal, Op.maxDepth, q]) (.flat rfl)
  · cases ha

theorem ok_len [Rho] {ty : TypeId} {x : Operand} {a : AOp} (hx1 : okX x = true) (hc : compLen P ty x = some a) (o : Oper) (σ : AHeap) (t : Tmps) (η : Operand → Value) (ρ : Ren) (w : World) (v : Value) (σ' : AHeap)
    (ho : o.op = .call { callee := .builtin .len, args := #[x], argTypes := #[ty] }) (hs : Sim ρ σ w)
    (hx : ∀ x, okX x = true → VR ρ (ev t x) (η x)) (ha : aop σ t a = some (v, σ')) : ∃ u w' ρ', Runs P o η w u w' ∧ VR ρ' v u ∧ Post ρ σ w ρ' σ' w' := by
  unfold compLen at hc
  split at hc
  · next e ht =>
    cases hc
    simp only [aop] at ha
    split at ha
    · next a l f e1 =>
      cases ha
      have hv := hx x hx1
      rw [e1] at hv
      have key : ∃ a' c', η x = .slice a' l c' := by
        rcases hv.sl_inv with ⟨_, h1, _, h⟩ | ⟨_, _, _, h1, _, h⟩ | ⟨_, _, _, _, _, _, _, _, _, _, _, h⟩
        · subst h1; exact ⟨_, _, h⟩
        · subst h1; exact ⟨_, _, h⟩
        · exact ⟨_, _, h⟩
      obtain ⟨a', c', f1⟩ := key
      exact done_pure hs (u := .int .i64 l) (by simp [execOp, ho, resolve, invoke, builtin, Builtin.len_, f1, run_und ht, goInt]) (.flat rfl)
    · cases ha
  · next ht =>
    cases hc
    simp only [aop] at ha
    split at ha
    · next s e1 =>
      cases ha
      have hv := hx x hx1
      rw [e1] at hv
      exact done_pure hs (u := .int .i64 s.size) (by simp [execOp, ho, resolve, invoke, builtin, Builtin.len_, str_eq hv, run_und ht, goInt]) (.flat rfl)
    · cases ha
  · cases hc

theorem find_idxB (fn : Func) (h : fn.name = "internal/bytealg.IndexByteString") : Extern.find fn = some Extern.BytealgIndexByte.indexByte := by
  unfold Extern.find
  rw [h]
  kernel_rfl
theorem findNext_idxB (fn : Func) (h : fn.name = "internal/bytealg.IndexByteString") (h2 : fn.origin = "") : Extern.findNext fn = none := by
  unfold Extern.findNext
  rw [h, h2]
  kernel_rfl
theorem ok_idxB [Rho] {f : FuncId} {x y : Operand} (hI : isIdxB P f = true) (hx1 : okX x = true ∧ okX y = true) (o : Oper) (σ : AHeap) (t : Tmps) (η : Operand → Value) (ρ : Ren) (w : World) (v : Value) (σ' : AHeap) (ts : Array TypeId)
    (ho : o.op = .call { callee := .value (.func f), args := #[x, y], argTypes := ts }) (hs : Sim ρ σ w)
    (hx : ∀ x, okX x = true → VR ρ (ev t x) (η x)) (ha : aop σ t (.idxB x y) = some (v, σ')) : ∃ u w' ρ', Runs P o η w u w' ∧ VR ρ' v u ∧ Post ρ σ w ρ' σ' w' := by
  simp only [aop] at ha
  split at ha
  · next s c e1 e2 =>
    cases ha
    have hv := hx x hx1.1
    have hv' := hx y hx1.2
    rw [e1] at hv; rw [e2] at hv'
    unfold isIdxB at hI
    split at hI
    · next fn hf =>
      simp only [Bool.and_eq_true, beq_iff_eq] at hI
      obtain ⟨hb, hn, ho'⟩ := hI
      have hfn : η (.func f) = .func (.func f) #[] #[] := flat_eq (v := .func (.func f) #[] #[]) rfl (hx (.func f) rfl)
      have hr : (execOp η o).run P w = (callFunc f #[η x, η y]).run P w := by simp [execOp, ho, resolve, hfn, Deferred.ofValue, invoke]
      refine done_pure hs (u := .int .i64 (firstIdx s c.toNat.toUInt8)) ?_ (.flat rfl)
      rw [hr, run_callFunc_extern hf (by rw [hn]; decide) hb (findNext_idxB fn hn ho') (find_idxB fn hn), str_eq hv, int_eq hv', run_indexByte_string]
      rfl
    · cases hI
  · cases ha
theorem ok_max [Rho] {x y : Operand} (hx1 : okX x = true ∧ okX y = true) (o : Oper) (σ : AHeap) (t : Tmps) (η : Operand → Value) (ρ : Ren) (w : World) (v : Value) (σ' : AHeap) (ts : Array TypeId)
    (ho : o.op = .call { callee := .builtin .max, args := #[x, y], argTypes := ts }) (hs : Sim ρ σ w)
    (hx : ∀ x, okX x = true → VR ρ (ev t x) (η x)) (ha : aop σ t (.max2 x y) = some (v, σ')) : ∃ u w' ρ', Runs P o η w u w' ∧ VR ρ' v u ∧ Post ρ σ w ρ' σ' w' := by
  simp only [aop] at ha
  split at ha
  · next k n k' m e1 e2 =>
    split at ha
    · next hk =>
      subst hk
      cases ha
      have hv := hx x hx1.1
      have hv' := hx y hx1.2
      rw [e1] at hv; rw [e2] at hv'
      exact done_pure hs (u := .int k (if n < m then m else n)) (by simp [execOp, ho, resolve, invoke, builtin, Builtin.max_, Builtin.max2, int_eq hv, int_eq hv']) (.flat rfl)
    · cases ha
  · cases ha
end
end Go.Hai
