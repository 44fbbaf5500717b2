/-
  The abstract interpreter: code, and a function's call. No proof of the program stands here.
-/
import Derived.Test.YtphbidcbepnihaaH19
namespace Go.Hai
open Go

def exOf : AEx → Exit
  | .normal => .normal
  | .exit i => .exit i
  | .ret => .ret

theorem ext_iter [Rho] {body : Tmps → AHeap → Option (AEx × Tmps × AHeap)} (hb : ∀ t σ e t' σ', body t σ = some (e, t', σ') → Ext σ σ') : ∀ (n : Nat) (t : Tmps) (σ : AHeap) (e : AEx) (t' : Tmps) (σ' : AHeap), iter body n t σ = some (e, t', σ') → Ext σ σ' := by
  intro n
  induction n with
  | zero => intro t σ e t' σ' h; cases h
  | succ n ih =>
    intro t σ e t' σ' h
    simp only [iter] at h
    split at h
    · next t1 σ1 h1 => exact (hb _ _ _ _ _ h1).trans (ih _ _ _ _ _ h)
    · next i t1 σ1 h1 => cases h; exact hb _ _ _ _ _ h1
    · next t1 σ1 h1 => cases h; exact hb _ _ _ _ _ h1
    · cases h

theorem ext_acode [Rho] {P : Program} {call : CallF} (hcall : CallOk P call) {fuel : Nat} : ∀ (c : ACode) (t : Tmps) (σ : AHeap) (e : AEx) (t' : Tmps) (σ' : AHeap), acode call fuel c t σ = some (e, t', σ') → Ext σ σ' := by
  intro c
  induction c with
  | skip => intro t σ e t' σ' h; simp only [acode] at h; cases h; exact Ext.refl _
  | reg ops =>
    intro t σ e t' σ' h
    simp only [acode] at h
    split at h
    · next h1 => cases h; exact ext_runOps hcall _ _ _ _ _ h1
    · cases h
  | drw ops bef =>
    intro t σ e t' σ' h
    simp only [acode] at h
    split at h
    · next h1 =>
      split at h
      · cases h; exact ext_runDraw hcall h1
      · cases h
    · cases h
  | seq a b iha ihb =>
    intro t σ e t' σ' h
    simp only [acode] at h
    split at h
    · next h1 => exact (iha _ _ _ _ _ h1).trans (ihb _ _ _ _ _ h)
    · next h1 => cases h; exact iha _ _ _ _ _ h1
    · next h1 => cases h; exact iha _ _ _ _ _ h1
    · cases h
  | cond c a b iha ihb =>
    intro t σ e t' σ' h
    simp only [acode] at h
    split at h
    · exact iha _ _ _ _ _ h
    · exact ihb _ _ _ _ _ h
    · cases h
  | block id a ih =>
    intro t σ e t' σ' h
    simp only [acode] at h
    split at h
    · next h1 => split at h <;> (cases h; exact ih _ _ _ _ _ h1)
    · next h1 => cases h; exact ih _ _ _ _ _ h1
    · next h1 => cases h; exact ih _ _ _ _ _ h1
    · cases h
  | loop a ih => intro t σ e t' σ' h; exact ext_iter ih fuel t σ e t' σ' h
  | exit i => intro t σ e t' σ' h; simp only [acode] at h; cases h; exact Ext.refl _
  | ret => intro t σ e t' σ' h; simp only [acode] at h; cases h; exact Ext.refl _
  | bad => intro t σ e t' σ' h; cases h

/- what a walk of a piece of code gives -/
def CodeOk [Rho] (P : Program) (N : Nat) (c : Code) (run : Tmps → AHeap → Option (AEx × Tmps × AHeap)) : Prop :=
  ∀ (t : Tmps) (σ : AHeap) (a : Act) (ρ : Ren) (w : World) (e : AEx) (t' : Tmps) (σ' : AHeap) (Q : Exit → Act → World → Prop), run t σ = some (e, t', σ') → Sim ρ σ w → TR ρ N t a →
    (∀ a' w' ρ', TR ρ' N t' a' → Post ρ σ w ρ' σ' w' → Q (exOf e) a' w') → c.wp P Q a w

theorem iter_ok [Rho] {P : Program} {N : Nat} {c : Code} {body : Tmps → AHeap → Option (AEx × Tmps × AHeap)} (hb : CodeOk P N c body) (he : ∀ t σ e t' σ', body t σ = some (e, t', σ') → Ext σ σ') {Q : Exit → Act → World → Prop} :
    ∀ (n : Nat) (t : Tmps) (σ : AHeap) (a : Act) (ρ : Ren) (w : World) (e : AEx) (t' : Tmps) (σ' : AHeap), iter body n t σ = some (e, t', σ') → Sim ρ σ w → TR ρ N t a →
    (∀ a' w' ρ', TR ρ' N t' a' → Post ρ σ w ρ' σ' w' → Q (exOf e) a' w') → Code.rounds P c Q n a w := by
  intro n
  induction n with
  | zero => intro t σ a ρ w e t' σ' h; cases h
  | succ n ih =>
    intro t σ a ρ w e t' σ' h hs ht hQ
    rw [rounds_succ]
    simp only [iter] at h
    split at h
    · next t1 σ1 h1 =>
      refine hb t σ a ρ w _ _ _ _ h1 hs ht fun a1 w1 ρ1 ht1 hp1 => ?_
      exact ih _ _ _ _ _ _ _ _ h hp1.sim ht1 fun a2 w2 ρ2 ht2 hp2 => hQ a2 w2 ρ2 ht2 (hp1.trans hs (he _ _ _ _ _ h1) (ext_iter he _ _ _ _ _ _ h) hp2)
    · next i t1 σ1 h1 => cases h; exact hb t σ a ρ w _ _ _ _ h1 hs ht hQ
    · next t1 σ1 h1 => cases h; exact hb t σ a ρ w _ _ _ _ h1 hs ht hQ
    · cases h

theorem acode_ok [Rho] {P : Program} {call : CallF} (hcall : CallOk P call) {fuel N : Nat} : ∀ (c : Code) (ac : ACode), compCode P N c = some ac → CodeOk P N c (acode call fuel ac) := by
  intro c
  induction c with
  | skip =>
    intro ac hc t σ a ρ w e t' σ' Q h hs ht hQ
    simp only [compCode] at hc; cases hc
    simp only [acode] at h; cases h
    exact wp_skip (hQ a w ρ ht (.refl hs))
  | region id ops draw =>
    intro ac hc t σ a ρ w e t' σ' Q h hs ht hQ
    cases draw with
    | false =>
      simp only [compCode] at hc
      split at hc
      · next l hl =>
        cases hc
        simp only [acode] at h
        split at h
        · next t1 σ1 h1 =>
          cases h
          have := runOps_ok hcall ops.toList l t σ a ρ w _ _ hl h1 hs ht hQ
          exact wp_region_list (by simpa using this)
        · cases h
      · cases hc
    | true =>
      simp only [compCode] at hc
      split at hc
      · next l hl =>
        obtain ⟨hok, hc⟩ := chk_some hc
        simp only [Bool.and_eq_true] at hok
        cases hc
        simp only [acode] at h
        split at h
        · next t1 σ1 ks h1 =>
          split at h
          · next hd => cases h; exact runDraw_ok hcall hl hok.1 hok.2 h1 hd hs ht hQ id
          · cases h
        · cases h
      · cases hc
  | seq x y ihx ihy =>
    intro ac hc t σ a ρ w e t' σ' Q h hs ht hQ
    simp only [compCode] at hc
    split at hc
    · next ax ay hx hy =>
      cases hc
      simp only [acode] at h
      refine wp_seq ?_
      split at h
      · next t1 σ1 h1 =>
        refine ihx _ hx t σ a ρ w _ _ _ _ h1 hs ht fun a1 w1 ρ1 ht1 hp1 => ?_
        exact ihy _ hy _ _ _ _ _ _ _ _ _ h hp1.sim ht1 fun a2 w2 ρ2 ht2 hp2 => hQ a2 w2 ρ2 ht2 (hp1.trans hs (ext_acode hcall _ _ _ _ _ _ h1) (ext_acode hcall _ _ _ _ _ _ h) hp2)
      · next i t1 σ1 h1 => cases h; exact ihx _ hx t σ a ρ w _ _ _ _ h1 hs ht hQ
      · next t1 σ1 h1 => cases h; exact ihx _ hx t σ a ρ w _ _ _ _ h1 hs ht hQ
      · cases h
    · cases hc
  | cond x y z ihy ihz =>
    intro ac hc t σ a ρ w e t' σ' Q h hs ht hQ
    simp only [compCode] at hc
    split at hc
    · next ay az hy hz =>
      obtain ⟨hx, hc⟩ := chk_some hc
      cases hc
      simp only [acode] at h
      have hev := ht.ev x hx
      split at h
      · next hb => rw [hb] at hev; exact wp_cond_true (flat_eq rfl hev) (ihy _ hy t σ a ρ w _ _ _ _ h hs ht hQ)
      · next hb => rw [hb] at hev; exact wp_cond_false (flat_eq rfl hev) (ihz _ hz t σ a ρ w _ _ _ _ h hs ht hQ)
      · cases h
    · cases hc
  | block id x ih =>
    intro ac hc t σ a ρ w e t' σ' Q h hs ht hQ
    simp only [compCode] at hc
    split at hc
    · next ax hx =>
      cases hc
      simp only [acode] at h
      refine wp_block ?_
      split at h
      · next i t1 σ1 h1 =>
        refine ih _ hx t σ a ρ w _ _ _ _ h1 hs ht fun a1 w1 ρ1 ht1 hp1 => ?_
        split at h
        · next hi =>
          cases h
          have := Nat.eq_of_beq_eq_true hi
          subst this
          simp only [exOf, Exit.inBlock, if_true]
          exact hQ a1 w1 ρ1 ht1 hp1
        · next hi =>
          cases h
          have : ¬ i = id := fun e => hi (by rw [e]; exact Nat.beq_refl _)
          simp only [exOf, Exit.inBlock, if_neg this]
          exact hQ a1 w1 ρ1 ht1 hp1
      · next t1 σ1 h1 => cases h; exact ih _ hx t σ a ρ w _ _ _ _ h1 hs ht hQ
      · next t1 σ1 h1 => cases h; exact ih _ hx t σ a ρ w _ _ _ _ h1 hs ht hQ
      · cases h
    · cases hc
  | loop x ih =>
    intro ac hc t σ a ρ w e t' σ' Q h hs ht hQ
    simp only [compCode] at hc
    split at hc
    · next ax hx =>
      cases hc
      simp only [acode] at h
      exact wp_loop_rounds fuel (iter_ok (ih _ hx) (ext_acode hcall _) fuel t σ a ρ w _ _ _ h hs ht hQ)
    · cases hc
  | exit i =>
    intro ac hc t σ a ρ w e t' σ' Q h hs ht hQ
    simp only [compCode] at hc; cases hc
    simp only [acode] at h; cases h
    exact wp_exit (hQ a w ρ ht (.refl hs))
  | ret =>
    intro ac hc t σ a ρ w e t' σ' Q h hs ht hQ
    simp only [compCode] at hc; cases hc
    simp only [acode] at h; cases h
    exact wp_ret (hQ a w ρ ht (.refl hs))
  | _ =>
    intro ac hc t σ a ρ w e t' σ' Q h hs ht hQ
    simp only [compCode] at hc; cases hc
    simp only [acode] at h; cases h

/- the results -/
def resSem (tmps : Array Value) : ResultVar → Sem Value
  | .tmp t => pure (tmps.getD t undef)
  | .cell a t => do loadVar t (← asAddr (tmps.getD a undef))

theorem resAll_ok [Rho] {P : Program} {N : Nat} {t : Tmps} {σ : AHeap} {a : Act} {ρ : Ren} {w : World} (hs : Sim ρ σ w) (ht : TR ρ N t a) : ∀ (rs : List ResultVar) (ars : List ARes) (vs : List Value), compRes P rs = some ars → resAll t σ ars = some vs →
    ∃ us, (rs.mapM (resSem a.tmps)).run P w = .ok us w ∧ VRs ρ vs us := by
  intro rs
  induction rs with
  | nil =>
    intro ars vs hc h
    simp only [compRes] at hc; cases hc
    simp only [resAll] at h; cases h
    exact ⟨[], by simp, .nil⟩
  | cons r rs ih =>
    intro ars vs hc h
    cases r with
    | tmp x =>
      simp only [compRes] at hc
      split at hc
      · next l hl =>
        cases hc
        simp only [resAll, resOne] at h
        split at h
        · next vs' hvs =>
          cases h
          obtain ⟨us, h1, h2⟩ := ih _ _ hl hvs
          exact ⟨_ :: us, by simp [resSem, h1], .cons (ht.val x) h2⟩
        · cases h
      · cases hc
    | cell x ty =>
      simp only [compRes] at hc
      split at hc
      · next l g n hl hg hn =>
        obtain ⟨h1, hc⟩ := chk_some hc
        cases hc
        simp only [resAll] at h
        split at h
        · next v hv =>
          split at h
          · next vs' hvs =>
            cases h
            obtain ⟨us, h3, h4⟩ := ih _ _ hl hvs
            simp only [resOne] at hv
            split at hv
            · next b o sp hp =>
              split at hv
              · next cs hcs =>
                have hvx := ht.val x
                rw [hp] at hvx
                obtain ⟨L, hL, he⟩ := hvx.ptr_inv
                obtain ⟨u, r1, r2, r3⟩ := run_loadVar hs hg hn h1 hL hcs
                have hu : VR ρ v u := by
                  split at hv
                  · next hg' => cases hv; exact r2 hg'
                  · next hg' =>
                    obtain ⟨v', e1, e2⟩ := r3 (by simpa using hg')
                    subst e1
                    simp at hv; subst hv; exact e2
                exact ⟨u :: us, by simp [resSem, he, asAddr, r1, h3], .cons hu h4⟩
              · cases hv
            · cases hv
          · cases h
        · cases h
      · cases hc

theorem results_eq (fn : Func) (tmps : Array Value) : results fn tmps = (do let vs ← fn.results.toList.mapM (resSem tmps); pure (if h : vs.toArray.size = 1 then vs.toArray[0] else .tuple vs.toArray)) := by
  have e : results fn tmps = (do let vs ← fn.results.mapM (resSem tmps); pure (if h : vs.size = 1 then vs[0] else .tuple vs)) := by
    unfold results
    congr 1
  rw [e, Array.mapM_eq_mapM_toList]
  simp

theorem acall_ok [Rho] {P : Program} {E : FuncId → Option AFn} {fuel : Nat} (hE : ∀ f af, E f = some af → ∃ fn, P.funcs[f]? = some fn ∧ compFn P fn = some af) : ∀ d, CallOk P (acall E fuel d) := by
  intro d
  induction d with
  | zero => intro f args r σ σ' h; cases h
  | succ d ih =>
    intro f args r σ σ' h
    simp only [acall] at h
    split at h
    · cases h
    next af haf =>
    split at h
    case isFalse => cases h
    next hlen =>
    have hlen := Nat.le_of_ble_eq_true hlen
    obtain ⟨fn, hf, hcomp⟩ := hE f af haf
    unfold compFn at hcomp
    split at hcomp
    · cases hcomp
    next c hbody =>
    split at hcomp
    case h_2 => cases hcomp
    next ac ars hcode hres =>
    obtain ⟨hname, hcomp⟩ := chk_some hcomp
    simp only [Option.some.injEq] at hcomp
    subst hcomp
    simp only at h hlen
    -- both ways of coming home
    have fin : ∀ (e : AEx) (t1 : Tmps) (σ1 : AHeap) (vs : List Value), (e = .normal ∨ e = .ret) → acode (acall E fuel d) fuel ac (Tr.of args) { σ with low := σ.n } = some (e, t1, σ1) → resAll t1 σ1 ars = some vs →
        (r, σ') = (if (Nat.beq σ1.low σ.n && Hai.flat (one vs)) = true then (one vs, σ) else (one vs, { σ1 with low := minN σ.low σ1.low })) →
        Ext σ σ' ∧ (∃ fn, P.funcs[f]? = some fn ∧ fn.body.isNone = false ∧ (fn.name == "runtime.NumGoroutine") = false) ∧
        ∀ (ρ : Ren) (w : World) (us : List Value), Sim ρ σ w → VRs ρ args us → Calls P f us.toArray w fun e w' => ∃ u ρ', e = .returned u ∧ VR ρ' r u ∧ Post ρ σ w ρ' σ' w' := by
      intro e t1 σ1 vs he hrun hvs hr
      have hext := ext_acode ih _ _ _ _ _ _ hrun
      refine ⟨?_, ⟨fn, hf, by simp [hbody], by simpa using hname⟩, ?_⟩
      · split at hr
        · cases hr; exact Ext.refl _
        · cases hr; exact scope_ext hext
      · intro ρ w us hs hargs
        refine calls_of_wp hf hbody ?_
        have hs' : Sim ρ { σ with low := σ.n } w := sim_low.2 hs
        have ht : TR ρ fn.ntmps (Tr.of args) { tmps := us.toArray ++ Array.replicate (fn.ntmps - us.toArray.size) undef, defers := [] } := by
          have hl := hargs.length
          refine ⟨by simp; omega, rfl, fun i => ?_⟩
          have e1 : tget (Tr.of args) i = (args[i]?).getD undef := by
            unfold tget
            rw [Tr.get_of]
            cases args[i]? <;> rfl
          rw [e1]
          simp only [Array.getD_eq_getD_getElem?]
          by_cases hi : i < args.length
          · obtain ⟨u, hu, hv⟩ := hargs.get1 (List.getElem?_eq_getElem hi)
            rw [List.getElem?_eq_getElem hi]
            rw [Array.getElem?_append_left (by simp; omega)]
            simp only [List.getElem?_toArray, hu, Option.getD_some]
            exact hv
          · have : (us.toArray ++ Array.replicate (fn.ntmps - us.toArray.size) undef)[i]?.getD undef = undef := by
              rw [Array.getElem?_append_right (by simp; omega)]
              cases hq : (Array.replicate (fn.ntmps - us.toArray.size) undef)[i - us.toArray.size]? with
              | none => rfl
              | some x =>
                rw [Array.getElem?_replicate] at hq
                split at hq
                · cases hq; rfl
                · cases hq
            rw [this, List.getElem?_eq_none (by omega)]
            exact .flat rfl
        refine acode_ok ih c ac hcode _ _ _ ρ w e t1 σ1 _ hrun hs' ht fun a1 w1 ρ1 ht1 hp1 => ?_
        obtain ⟨ws, h1, h2⟩ := resAll_ok hp1.sim ht1 fn.results.toList ars vs hres hvs
        have hval : ∃ u, (results fn a1.tmps).run P w1 = .ok u w1 ∧ VR ρ1 (one vs) u := by
          rw [results_eq]
          simp only [Sem.run_bind, h1, Result.andThen_ok, Sem.run_pure]
          refine ⟨_, rfl, ?_⟩
          cases h2 with
          | nil => exact .flat rfl
          | cons hv hs2 =>
            cases hs2 with
            | nil => exact hv
            | cons hv' hs3 =>
              simp only [List.size_toArray, List.length_cons, one]
              exact VR.of_tup (.cons hv (.cons hv' hs3))
        obtain ⟨u, hu1, hu2⟩ := hval
        have hpost : ∃ ρ', VR ρ' r u ∧ Post ρ σ w ρ' σ' w1 := by
          split at hr
          · next hq =>
            simp only [Bool.and_eq_true] at hq
            have hlow := Nat.eq_of_beq_eq_true hq.1
            cases hr
            have hnot : ∀ B, ¬ Touch ρ { σ with low := σ.n } σ1.low B := by
              rintro B ⟨b, M, q1, _, q3, _⟩
              have := hs.dom b M q1
              omega
            have hfr : ∀ B, B < w.heap.size → w1.heap[B]? = w.heap[B]? := fun B hB => hp1.frame B hB (hnot B)
            have hue : u = one vs := flat_eq hq.2 hu2
            rw [hue]
            exact ⟨ρ, .flat hq.2, ⟨sim_still hs hp1.size hfr, Ren.le_refl _, fun b L h => .inl h, hp1.size, fun B hB _ => hfr B hB, hp1.io⟩⟩
          · cases hr
            refine ⟨ρ1, hu2, ⟨sim_low.2 hp1.sim, hp1.ren, fun b L h => (hp1.new b L h).imp id fun ⟨q1, q2⟩ => ⟨q1, q2.imp id fun q => q.low (minN_le_right _ _)⟩, hp1.size, fun B hB ht => hp1.frame B hB fun q => ht (q.low (minN_le_right _ _)), hp1.io⟩⟩
        obtain ⟨ρ', g1, g2⟩ := hpost
        rcases he with rfl | rfl
        · exact ⟨ht1.defers, u, hu1, u, ρ', rfl, g1, g2⟩
        · exact ⟨ht1.defers, u, hu1, u, ρ', rfl, g1, g2⟩
    split at h
    · cases h
    · next e1 t1 σ1 hne hrun =>
      split at h
      · next vs hvs =>
        simp only [Option.some.injEq] at h
        cases e1 with
        | normal => exact fin .normal t1 σ1 vs (.inl rfl) hrun hvs h.symm
        | ret => exact fin .ret t1 σ1 vs (.inr rfl) hrun hvs h.symm
        | exit i => exact absurd rfl (hne i)
      · cases h
    · cases h
end Go.Hai
