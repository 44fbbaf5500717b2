/-
  The abstract interpreter: one operation in a frame, calls too; operations one behind the other. No proof of the program stands here.
-/
import Derived.Test.YtphbidcbepnihaaH12
import Derived.Tactics
import Derived.LoopN
import Derived.Orders
namespace Go.Hai
open Go

structure TR [Rho] (ρ : Ren) (N : Nat) (t : Tmps) (a : Act) : Prop where
  size : a.tmps.size = N
  defers : a.defers = []
  val : ∀ i, VR ρ (tget t i) (a.tmps.getD i undef)

theorem TR.mono [Rho] {ρ ρ' : Ren} {N : Nat} {t : Tmps} {a : Act} (hle : ρ.le ρ') (h : TR ρ N t a) : TR ρ' N t a := ⟨h.size, h.defers, fun i => (h.val i).mono hle⟩
theorem TR.ev [Rho] {ρ : Ren} {N : Nat} {t : Tmps} {a : Act} (h : TR ρ N t a) (x : Operand) (hx : okX x = true) : VR ρ (ev t x) (a.eval x) := by
  cases x with
  | tmp i => exact h.val i
  | const v => exact .flat hx
  | func f => exact .flat rfl
  | global g => cases hx

theorem tget_ins (t : Tmps) (d : Nat) (v : Value) (i : Nat) : tget (t.ins d v) i = if d = i then v else tget t i := by
  unfold tget
  rw [Tr.get_ins]
  by_cases h : d = i
  · rw [if_pos h, if_pos h]
  · rw [if_neg h, if_neg h]

theorem TR.put [Rho] {ρ : Ren} {N : Nat} {t : Tmps} {a : Act} {d : Option Nat} {v u : Value} (h : TR ρ N t a) (hd : compDst N d = true) (hv : VR ρ v u) : TR ρ N (setD t d v) (a.put d u) := by
  cases d with
  | none => exact h
  | some d =>
    have hd : d < N := by simpa [compDst, Nat.blt_eq] using hd
    refine ⟨by simp [Act.put, h.size], h.defers, fun i => ?_⟩
    simp only [setD, Act.put, tget_ins]
    by_cases hi : d = i
    · subst hi
      have : d < a.tmps.size := by rw [h.size]; exact hd
      simp [this, Array.getD]
      exact hv
    · rw [if_neg hi]
      have e := h.val i
      have : (a.tmps.setIfInBounds d u).getD i undef = a.tmps.getD i undef := by
        simp only [Array.getD_eq_getD_getElem?]
        rw [Array.getElem?_setIfInBounds_ne hi]
      rw [this]
      exact e

theorem VR.bool_iff [Rho] {ρ : Ren} {v u : Value} (h : VR ρ v u) (b : Bool) : v = .bool b ↔ u = .bool b := by
  constructor
  · rintro rfl; exact flat_eq rfl h
  · rintro rfl; cases h; rfl

theorem wants_eq [Rho] {ops : List Oper} {o : Oper} {g : Option (Nat × Bool)} {t : Tmps} {tmps : Array Value} (hg : compGuard ops o.guard = some g) {ρ : Ren}
    (hv : ∀ j w, g = some (j, w) → VR ρ (tget t j) (tmps.getD j undef)) : Region.wanted o (yielded ops.toArray tmps) = wants t g := by
  unfold Region.wanted
  cases hgd : o.guard with
  | none => rw [hgd] at hg; simp only [compGuard] at hg; cases hg; rfl
  | some p =>
    obtain ⟨j, w⟩ := p
    rw [hgd] at hg
    simp only [compGuard] at hg
    split at hg
    · next o' ho' =>
      split at hg
      · next d hd =>
        cases hg
        simp only [wants]
        have hvd := hv d w rfl
        have hy : yielded ops.toArray tmps j = match tmps[d]? with | some (.bool b) => some b | _ => none := by
          have e : ((ops.toArray[j]?).bind (·.dst)).bind (tmps[·]?) = tmps[d]? := by simp [ho', hd]
          unfold yielded
          rw [e]
          cases tmps[d]? with
          | none => rfl
          | some u => cases u <;> rfl
        rw [hy]
        have hget : tmps.getD d undef = (tmps[d]?).getD undef := by simp [Array.getD_eq_getD_getElem?]
        rw [hget] at hvd
        cases htd : tmps[d]? with
        | none =>
          rw [htd] at hvd
          simp only [Option.getD_none] at hvd
          have : ∀ b, tget t d ≠ .bool b := fun b e => by
            have := (hvd.bool_iff b).1 e
            simp [undef] at this
          cases ht : tget t d with
          | bool b => exact absurd ht (this b)
          | _ => rfl
        | some u =>
          rw [htd] at hvd
          simp only [Option.getD_some] at hvd
          cases ht : tget t d with
          | bool b =>
            have := (hvd.bool_iff b).1 ht
            subst this
            simp
          | _ =>
            have hnb : ∀ b, u ≠ .bool b := fun b e => by
              have := (hvd.bool_iff b).2 e
              rw [ht] at this; cases this
            cases u <;> first | rfl | exact absurd rfl (hnb _)
      · cases hg
    · cases hg

/- what is known of calls -/
def CallOk [Rho] (P : Program) (call : CallF) : Prop :=
  ∀ (f : FuncId) (args : List Value) (r : Value) (σ σ' : AHeap), call f args σ = some (r, σ') →
    Ext σ σ' ∧ (∃ fn, P.funcs[f]? = some fn ∧ fn.body.isNone = false ∧ (fn.name == "runtime.NumGoroutine") = false) ∧
    ∀ (ρ : Ren) (w : World) (us : List Value), Sim ρ σ w → VRs ρ args us → Calls P f us.toArray w fun e w' => ∃ u ρ', e = .returned u ∧ VR ρ' r u ∧ Post ρ σ w ρ' σ' w'

theorem ext_aoper [Rho] {P : Program} {call : CallF} (hcall : CallOk P call) {op : AOp} {t : Tmps} {σ σ' : AHeap} {v : Value} (h : aoper call op t σ = some (v, σ')) : Ext σ σ' := by
  unfold aoper at h
  split at h
  · exact (hcall _ _ _ _ _ h).1
  · split at h
    · exact (hcall _ _ _ _ _ h).1
    · cases h
  · exact ext_aop _ h

/- one operation -/
theorem oper_ok [Rho] {P : Program} {call : CallF} (hcall : CallOk P call) {N : Nat} {all : List Oper} {o : Oper} {ao : AOper} (hc : compOper P N all o = some ao) {σ σ' : AHeap} {t : Tmps} {a : Act} {ρ : Ren} {w : World} {v : Value}
    (hs : Sim ρ σ w) (η : Operand → Value) (hη : ∀ x ∈ o.op.operands, a.eval x = η x) (hx : ∀ x, okX x = true → VR ρ (ev t x) (η x)) (ha : aoper call ao.op t σ = some (v, σ'))
    {K : Act → World → Prop} {Q : Exit → Act → World → Prop} (hK : ∀ u w' ρ', VR ρ' v u → Post ρ σ w ρ' σ' w' → K (a.put o.dst u) w') : o.wp P a w K Q := by
  have hsel : ∀ cs b, o.op ≠ .select cs b := by
    intro cs b he
    unfold compOper at hc
    split at hc
    · obtain ⟨_, hc⟩ := chk_some hc
      cases hc
      rw [he] at ha
      simp only [aoper, aop] at ha
      cases ha
    · cases hc
  have hcongr : execOp a.eval o = execOp η o := execOp_congr o hsel hη
  unfold Oper.wp
  rw [hcongr]
  have finish : ∀ (f : FuncId) (args us : List Value), call f args σ = some (v, σ') → VRs ρ args us → ((execOp η o).run P w = (callFunc f us.toArray).run P w) →
      o.upon P a K Q ((execOp η o).run P w) := by
    intro f args us h hv he
    obtain ⟨_, ⟨fn, h1, h2, h3⟩, h4⟩ := hcall _ _ _ _ _ h
    have hr : (callFunc f us.toArray).run P w = .ok (.enter f us.toArray) w := by
      simp only [callFunc, Sem.run_bind, run_program, Result.andThen_ok, h1, h2, h3, Bool.false_eq_true, if_false, Sem.run_pure]
    rw [he, hr, Oper.upon_enter]
    refine (h4 ρ w us hs hv).mono ?_
    rintro e w' ⟨u, ρ', rfl, hvu, hp⟩
    exact hK u w' ρ' hvu hp
  have plain : aop σ t ao.op = some (v, σ') → o.upon P a K Q ((execOp η o).run P w) := by
    intro h
    obtain ⟨u, w', ρ', hr, hv, hp⟩ := aop_ok hc hs hx h
    cases hr with
    | val hr => rw [hr, Oper.upon_value]; exact hK _ _ _ hv hp
    | skip hr => rw [hr, Oper.upon_skip]; exact hK _ _ _ hv hp
  -- which form is it?
  have hop : compOp' P o.op = ao.op := by
    unfold compOper at hc
    split at hc
    · obtain ⟨_, hc⟩ := chk_some hc
      cases hc; rfl
    · cases hc
  -- a call's own form
  have hcl : isCallA ao.op = true → ∃ callee args tys, o.op = .call { callee := callee, args := args, argTypes := tys } ∧ okXs args.toList = true ∧
      ((∃ f, callee = .value (.func f) ∧ ao.op = .call f args.toList) ∨ (∃ x, callee = .value (.tmp x) ∧ ao.op = .callV (.tmp x) args.toList)) := by
    intro hA
    unfold compOp' at hop
    split at hop
    · next a' hca =>
      split at hop
      · rw [← hop] at hA; cases hA
      · next hq =>
        subst hop
        rw [hA] at hq
        cases ho : o.op <;> rw [ho] at hq hca <;> try (simp [isCallOp] at hq; done)
        rename_i c
        replace hca : compCall P c = some ao.op := hca
        obtain ⟨callee, args, argTypes⟩ := c
        unfold compCall at hca
        obtain ⟨hx1, hca⟩ := chk_some hca
        simp only at hx1 hca
        refine ⟨callee, args, argTypes, rfl, hx1, ?_⟩
        split at hca
        · simp only [Option.some.injEq] at hca
          unfold compFun at hca
          split at hca
          · exfalso; split at hca <;> (rw [← hca] at hA; cases hA)
          · exact .inl ⟨_, rfl, hca.symm⟩
        · simp only [Option.some.injEq] at hca; exact .inr ⟨_, rfl, hca.symm⟩
        · exfalso
          split at hca
          · unfold compLen at hca; split at hca <;> first | (cases hca; done) | (simp only [Option.some.injEq] at hca; rw [← hca] at hA; cases hA)
          · cases hca
        · exfalso
          split at hca
          · unfold compMax at hca; split at hca <;> first | (cases hca; done) | (simp only [Option.some.injEq] at hca; rw [← hca] at hA; cases hA)
          · cases hca
        · exfalso
          split at hca
          · unfold compApp at hca
            split at hca
            · split at hca
              · obtain ⟨_, hca⟩ := chk_some hca
                simp only [Option.some.injEq] at hca; rw [← hca] at hA; cases hA
              · cases hca
            · cases hca
          · cases hca
        · cases hca
    · rw [← hop] at hA; cases hA
  unfold aoper at ha
  split at ha
  · next f xs hao =>
    obtain ⟨callee, args, tys, ho, hx1, h⟩ := hcl (by rw [hao]; rfl)
    rcases h with ⟨g, rfl, h⟩ | ⟨y, _, h⟩
    · rw [hao] at h; cases h
      have hv := hx_list hx hx1
      refine finish f _ _ ha hv ?_
      have hf : η (.func f) = .func (.func f) #[] #[] := flat_eq (v := .func (.func f) #[] #[]) rfl (hx (.func f) rfl)
      have e : (args.map η) = (args.toList.map η).toArray := by apply Array.ext'; simp
      simp [execOp, ho, resolve, hf, Deferred.ofValue, invoke, e]
    · rw [hao] at h; cases h
  · next x xs hao =>
    obtain ⟨callee, args, tys, ho, hx1, h⟩ := hcl (by rw [hao]; rfl)
    rcases h with ⟨g, _, h⟩ | ⟨y, rfl, h⟩
    · rw [hao] at h; cases h
    · rw [hao] at h; cases h
      split at ha
      · next f first cap hfn =>
        have hv := hx_list hx hx1
        have hvf := hx (.tmp y) rfl
        rw [hfn] at hvf
        obtain ⟨first', cap', hf, hv1, hv2⟩ := hvf.fn_inv
        refine finish f _ (first'.toList ++ (args.toList.map η ++ cap'.toList)) ha (hv1.append (hv.append hv2)) ?_
        have e : first' ++ args.map η ++ cap' = (first'.toList ++ (args.toList.map η ++ cap'.toList)).toArray := by apply Array.ext'; simp
        simp [execOp, ho, resolve, hf, Deferred.ofValue, invoke, e]
      · cases ha
  · exact plain ha

theorem compOper_inv [Rho] {P : Program} {N : Nat} {all : List Oper} {o : Oper} {ao : AOper} (hc : compOper P N all o = some ao) : ao.dst = o.dst ∧ compGuard all o.guard = some ao.guard ∧ compDst N o.dst = true := by
  unfold compOper at hc
  split at hc
  · next g hg =>
    obtain ⟨h, hc⟩ := chk_some hc
    cases hc; exact ⟨rfl, hg, h⟩
  · cases hc

theorem ext_runOps [Rho] {P : Program} {call : CallF} (hcall : CallOk P call) : ∀ (l : List AOper) (t : Tmps) (σ : AHeap) (t' : Tmps) (σ' : AHeap), runOps call l t σ = some (t', σ') → Ext σ σ' := by
  intro l
  induction l with
  | nil => intro t σ t' σ' h; simp only [runOps] at h; cases h; exact Ext.refl _
  | cons o l ih =>
    intro t σ t' σ' h
    simp only [runOps] at h
    split at h
    · split at h
      · next v σ₁ h1 => exact (ext_aoper hcall h1).trans (ih _ _ _ _ h)
      · cases h
    · exact ih _ _ _ _ h

theorem compOps_cons {P : Program} {N : Nat} {all : List Oper} {o : Oper} {os : List Oper} {l : List AOper} (h : compOps P N all (o :: os) = some l) : ∃ a l', compOper P N all o = some a ∧ compOps P N all os = some l' ∧ l = a :: l' := by
  simp only [compOps] at h
  split at h
  · next a l' h1 h2 => cases h; exact ⟨a, l', h1, h2, rfl⟩
  · cases h

theorem runOps_ok [Rho] {P : Program} {call : CallF} (hcall : CallOk P call) {N : Nat} {all : List Oper} {Q : Exit → Act → World → Prop} : ∀ (os : List Oper) (l : List AOper) (t : Tmps) (σ : AHeap) (a : Act) (ρ : Ren) (w : World) (t' : Tmps) (σ' : AHeap),
    compOps P N all os = some l → runOps call l t σ = some (t', σ') → Sim ρ σ w → TR ρ N t a →
    (∀ a' w' ρ', TR ρ' N t' a' → Post ρ σ w ρ' σ' w' → Q .normal a' w') → wpList P all.toArray Q os a w := by
  intro os
  induction os with
  | nil =>
    intro l t σ a ρ w t' σ' hc hr hs ht hQ
    simp only [compOps] at hc; cases hc
    simp only [runOps] at hr; cases hr
    exact hQ a w ρ ht (.refl hs)
  | cons o os ih =>
    intro l t σ a ρ w t' σ' hc hr hs ht hQ
    obtain ⟨ao, l', h1, h2, rfl⟩ := compOps_cons hc
    obtain ⟨hd, hg, hN⟩ := compOper_inv h1
    have hw := wants_eq (ops := all) (t := t) (tmps := a.tmps) hg (ρ := ρ) (fun j w _ => ht.val j)
    simp only [runOps] at hr
    simp only [wpList, hw]
    split at hr
    · next hwt =>
      rw [if_pos hwt]
      split at hr
      · next v σ₁ hv =>
        refine .inl (oper_ok hcall h1 hs a.eval (fun _ _ => rfl) (fun x hx => ht.ev x hx) hv ?_)
        intro u w₁ ρ₁ hvu hp
        have hext := ext_aoper hcall hv
        refine ih l' (setD t ao.dst v) σ₁ (a.put o.dst u) ρ₁ w₁ t' σ' h2 hr hp.sim ?_ ?_
        · rw [hd]; exact (ht.mono hp.ren).put hN hvu
        · intro a' w' ρ' ht' hp'
          exact hQ a' w' ρ' ht' (hp.trans hs hext (ext_runOps hcall _ _ _ _ _ hr) hp')
      · cases hr
    · next hwt =>
      rw [if_neg hwt]
      refine ih l' (setD t ao.dst undef) σ (a.put o.dst undef) ρ w t' σ' h2 hr hs ?_ hQ
      rw [hd]; exact ht.put hN (.flat rfl)
end Go.Hai
