/-
  The abstract interpreter: a region whose order is open: in whatever order its operations are carried out, the same comes of it (3). No proof of the program stands here.
-/
import Derived.Test.YtidmcpkbcphpiaaGreatRV1
namespace Go.Hai
open Go
def keepT (t : Tmps) : List Nat → Tmps
  | [] => .tip
  | i :: l => (keepT t l).ins i (tget t i)
theorem keepT_get [Rho] (t : Tmps) : ∀ (l : List Nat) (i : Nat), tget (keepT t l) i = if i ∈ l then tget t i else undef := by
  intro l
  induction l with
  | nil => intro i; simp [keepT, tget, Tr.get_tip]
  | cons j l ih =>
    intro i
    simp only [keepT, tget_ins, ih, List.mem_cons]
    by_cases h : j = i
    · subst h; simp
    · rw [if_neg h]
      have : i ≠ j := fun e => h e.symm
      simp [this]
theorem mem_tmpsOf {l : List Operand} {i : Nat} (h : Operand.tmp i ∈ l) : i ∈ tmpsOf l := by
  unfold tmpsOf
  rw [List.mem_filterMap]
  exact ⟨.tmp i, h, rfl⟩
theorem load_same {σ σ' : AHeap} {b o n : Nat} (hg : σ'.t.get b = σ.t.get b) (ha : ∀ cs len es top rw fam, σ.t.get b = some (.row cs len es top rw fam) → σ'.alive fam = σ.alive fam) : σ'.loadN b o n = σ.loadN b o n := by
  unfold AHeap.loadN AHeap.row?
  rw [hg]
  cases hb : σ.t.get b with
  | none => rfl
  | some x => cases x with
    | obj _ => rfl
    | row cs len es top rw' fam => simp only [ha _ _ _ _ _ _ hb]
namespace Road
variable {P : Program} {call : CallF} {N : Nat} (R : Road P call N)
def add (L : Nat → Bool) (j : Nat) : Nat → Bool := fun i => if i = j then true else L i
theorem add_same (L : Nat → Bool) (j : Nat) : add L j j = true := by simp [add]
theorem add_other {L : Nat → Bool} {i j : Nat} (h : i ≠ j) : add L j i = L i := by simp [add, h]
theorem cur_between {L : Nat → Bool} {i₁ i₂ j : Nat} (h₁ : R.Cur L i₁) (h₂ : R.Cur L i₂) (h : i₁ ≤ j) (h' : j ≤ i₂) : R.Cur L j :=
  ⟨Nat.le_trans h' h₂.1, fun k hk he => h₂.2.1 k (by omega) he, fun k hk hn he => h₁.2.2 k (by omega) hn he⟩
theorem near [Rho] {L : Nat → Bool} (h : ∃ i, R.Cur L i) (j : Nat) : ∃ i, R.Cur L i ∧ (i = j ∨ (j < i ∧ ∀ c, R.Cur L c → i ≤ c) ∨ (i < j ∧ ∀ c, R.Cur L c → c ≤ i)) := by
  by_cases hj : R.Cur L j
  · exact ⟨j, hj, .inl rfl⟩
  · obtain ⟨i, hi⟩ := h
    by_cases hlt : i < j
    · -- the greatest one
      have : ∀ d i, R.n - i = d → R.Cur L i → i < j → ∃ m, R.Cur L m ∧ (m < j ∧ ∀ c, R.Cur L c → c ≤ m) := by
        intro d
        induction d using Nat.strongRecOn with
        | _ d ih =>
          intro i hd hi hlt
          by_cases hc : ∃ c, R.Cur L c ∧ i < c
          · obtain ⟨c, hc, hic⟩ := hc
            have hcj : c < j := by
              rcases Nat.lt_or_ge c j with h | h
              · exact h
              · exact absurd (R.cur_between hi hc (Nat.le_of_lt hlt) h) hj
            exact ih (R.n - c) (by have := hc.1; omega) c rfl hc hcj
          · refine ⟨i, hi, hlt, fun c hc' => ?_⟩
            rcases Nat.lt_or_ge i c with h | h
            · exact absurd ⟨c, hc', h⟩ hc
            · exact h
      obtain ⟨m, h1, h2⟩ := this _ i rfl hi hlt
      exact ⟨m, h1, .inr (.inr h2)⟩
    · have hgt : j < i := by
        rcases Nat.lt_or_ge j i with h | h
        · exact h
        · have : i = j := by omega
          subst this; exact absurd hi hj
      have : ∀ i, R.Cur L i → j < i → ∃ m, R.Cur L m ∧ (j < m ∧ ∀ c, R.Cur L c → m ≤ c) := by
        intro i
        induction i using Nat.strongRecOn with
        | _ i ih =>
          intro hi hgt
          by_cases hc : ∃ c, R.Cur L c ∧ c < i
          · obtain ⟨c, hc, hci⟩ := hc
            have hcj : j < c := by
              rcases Nat.lt_or_ge j c with h | h
              · exact h
              · exact absurd (R.cur_between hc hi h (Nat.le_of_lt hgt)) hj
            exact ih c hci hc hcj
          · refine ⟨i, hi, hgt, fun c hc' => ?_⟩
            rcases Nat.lt_or_ge c i with h | h
            · exact absurd ⟨c, hc', h⟩ hc
            · exact h
      obtain ⟨m, h1, h2⟩ := this i hi hgt
      exact ⟨m, h1, .inr (.inl h2)⟩
theorem cur_of [Rho] {L : Nat → Bool} (hc : R.Closed L) {j : Nat} (hj : j < R.n) (hL : L j = false) (hr : R.Ready L j) (hk : ∀ k, k < R.n → k ≠ j → isEff (R.K k) = true → mixes (R.K k) (R.K j) = false ∧ mixes (R.K j) (R.K k) = false) : R.Cur L j := by
  refine ⟨Nat.le_of_lt hj, fun k hkj he => ?_, fun k hjk hkn he => ?_⟩
  · obtain ⟨m1, m2⟩ := hk k (by omega) (by omega) he
    rcases R.order k j hkj hj (.inl he) with h | h | h
    · exact R.ahead hc j k hj (by omega) hr h
    · rw [m1] at h; cases h
    · rw [m2] at h; cases h
  · by_cases hkj : k = j
    · subst hkj; exact hL
    · obtain ⟨m1, m2⟩ := hk k hkn hkj he
      rcases R.order j k (by omega) hkn (.inr he) with h | h | h
      · cases hLk : L k with
        | false => rfl
        | true =>
          have := R.ahead hc k j hkn hj (R.closed_ready hc hLk) h
          rw [hL] at this; cases this
      · rw [m2] at h; cases h
      · rw [m1] at h; cases h
theorem add_closed [Rho] {L : Nat → Bool} (hc : R.Closed L) {j : Nat} (hr : R.Ready L j) : R.Closed (add L j) := by
  intro i o hi ho e he hb
  by_cases hij : i = j
  · subst hij
    have := hr o ho e he hb
    by_cases hej : e.on = i
    · rw [hej, add_same]
    · rw [add_other hej, this]
  · rw [add_other hij] at hi
    have := hc i o hi ho e he hb
    by_cases hej : e.on = j
    · rw [hej, add_same]
    · rw [add_other hej, this]
theorem cur_add [Rho] {L : Nat → Bool} {j : Nat} (hk : isEff (R.K j) = false) (i : Nat) : R.Cur (add L j) i ↔ R.Cur L i := by
  have hne : ∀ k, isEff (R.K k) = true → k ≠ j := fun k h e => by rw [e, hk] at h; cases h
  constructor
  · rintro ⟨h1, h2, h3⟩
    exact ⟨h1, fun k hk he => by have := h2 k hk he; rwa [add_other (hne k he)] at this, fun k h hn he => by have := h3 k h hn he; rwa [add_other (hne k he)] at this⟩
  · rintro ⟨h1, h2, h3⟩
    exact ⟨h1, fun k hk he => by rw [add_other (hne k he)]; exact h2 k hk he, fun k h hn he => by rw [add_other (hne k he)]; exact h3 k h hn he⟩
theorem tmp_add [Rho] {L : Nat → Bool} {a : Act} {ρ ρ' : Ren} {j k : Nat} {o : Oper} {ao : AOper} {u : Value} (hj : j < R.n) (ho : R.ops[j]? = some o) (hao : R.l[j]? = some ao) (hd : ao.dst = o.dst) (hN : compDst N o.dst = true)
    (hcl : R.Closed L) (hL : L j = false) (hr : R.Ready L j) (hsize : a.tmps.size = N) (htmp : ∀ τ, ∃ k val, R.Last L τ k val ∧ VR (res ρ k) val (a.tmps.getD τ undef)) (hle : ρ.le ρ')
    (hv : VR (res ρ' k) (R.V j) u) (hk : ∀ c, R.Cur (add L j) c → k ≤ max (R.S (j + 1)).n (R.S c).n)
    (hcur : ∀ c', R.Cur (add L j) c' → ∃ c, R.Cur L c ∧ (R.S c).n ≤ (R.S c').n) :
    ∀ τ, ∃ k val, R.Last (add L j) τ k val ∧ VR (res ρ' k) val ((a.put o.dst u).tmps.getD τ undef) := by
  intro τ
  by_cases hdt : o.dst = some τ
  · refine ⟨k, R.V j, .inl ⟨j, ao, hj, hao, add_same _ _, by rw [hd, hdt], ?_, rfl, hk⟩, ?_⟩
    · intro i' a' h1 h2 h3
      rcases Nat.lt_or_ge j i' with h | h
      · have hi' : i' < R.n := by have := (List.getElem?_eq_some_iff.1 h1).1; rw [R.hl] at this; exact this
        obtain ⟨o', _, ho', _⟩ := R.opAt hi'
        rw [add_other (by omega)] at h2
        have hb := R.pairs j i' o o' ao a' h ho ho' hao h1 (.inl (meets_of (τ := τ) (by rw [hd, hdt]) (by unfold namesOf; rw [h3]; simp)))
        have := R.ahead hcl i' j hi' hj (R.closed_ready hcl h2) hb
        rw [hL] at this; cases this
      · exact h
    · have : τ < N := by rw [hdt] at hN; simpa [compDst, Nat.blt_eq] using hN
      have e : (a.put o.dst u).tmps.getD τ undef = u := by
        rw [hdt]
        simp [Act.put, Array.getD, hsize, this]
      rw [e]; exact hv
  · have e : (a.put o.dst u).tmps.getD τ undef = a.tmps.getD τ undef := by
      cases hdd : o.dst with
      | none => rfl
      | some d =>
        have hne : d ≠ τ := fun h => hdt (by rw [hdd, h])
        simp only [Act.put, Array.getD_eq_getD_getElem?]
        rw [Array.getElem?_setIfInBounds_ne hne]
    rw [e]
    obtain ⟨k', val, hlast, hv'⟩ := htmp τ
    refine ⟨k', val, ?_, hv'.mono (res_mono hle (Nat.le_refl _))⟩
    rcases hlast with ⟨i, ai, h1, h2, h3, h4, h5, h6, h7⟩ | ⟨h1, h2, h3⟩
    · have hij : i ≠ j := by rintro rfl; rw [hL] at h3; cases h3
      refine .inl ⟨i, ai, h1, h2, by rw [add_other hij]; exact h3, h4, ?_, h6, ?_⟩
      · intro i' a' g1 g2 g3
        by_cases hi' : i' = j
        · subst hi'; rw [hao] at g1; cases g1; rw [hd] at g3; exact absurd g3 hdt
        · rw [add_other hi'] at g2; exact h5 i' a' g1 g2 g3
      · intro c' hc'
        obtain ⟨c, hc, hcc⟩ := hcur c' hc'
        have := h7 c hc
        omega
    · refine .inr ⟨fun i ai g1 g2 => ?_, h2, h3⟩
      by_cases hi : i = j
      · subst hi; rw [hao] at g1; cases g1; rw [hd]; exact hdt
      · rw [add_other hi] at g2; exact h1 i ai g1 g2
theorem run_at [Rho] (hcall : CallOk P call) {ρ0 : Ren} {w0 : World} {L : Nat → Bool} {a : Act} {ρ : Ren} {w : World} (I : R.Inv ρ0 w0 L a ρ w) {j i : Nat} {o : Oper} {ao : AOper} {v : Value} {τ : AHeap} (hj : j < R.n) (ho : R.ops[j]? = some o) (hao : R.l[j]? = some ao)
    (hL : L j = false) (hr : R.Ready L j) (hi : R.Cur L i) (hx : ∀ k, (∀ c, R.Cur L c → k ≤ max (R.S j).n (R.S c).n) → (res ρ k).le (res ρ (R.S i).n))
    (hv : aoper call ao.op (R.T j) { R.S i with low := (R.S i).n } = some (v, τ)) {K : Act → World → Prop} {Q : Exit → Act → World → Prop}
    (hK : ∀ u w' ρ', VR ρ' v u → Post (res ρ (R.S i).n) { R.S i with low := (R.S i).n } w ρ' τ w' → K (a.put o.dst u) w') : o.wp P a w K Q := by
  let nm := tmpsOf (opXs ao.op) ++ tmpsOf o.op.operands.toList
  have hsub : ∀ x ∈ nm, x ∈ namesOf o ao := fun x hx => by
    unfold namesOf
    simp only [List.mem_append]
    exact .inr (.inr (by simpa [nm] using hx))
  let t' := keepT (R.T j) nm
  let η : Operand → Value := fun x => match x with | .tmp i => if i ∈ nm then a.tmps.getD i undef else undef | x => a.eval x
  have hval : ∀ x ∈ nm, VR (res ρ (R.S i).n) (tget (R.T j) x) (a.tmps.getD x undef) := fun x hxn => by
    obtain ⟨k, h1, h2⟩ := R.tmp_at I hj ho hao hL hr (hsub x hxn) hcall
    exact h1.mono (hx k h2)
  have hvx : ∀ x, okX x = true → VR (res ρ (R.S i).n) (ev t' x) (η x) := by
    intro x hox
    cases x with
    | tmp y =>
      simp only [ev, t', keepT_get, η]
      by_cases hy : y ∈ nm
      · rw [if_pos hy, if_pos hy]; exact hval y hy
      · rw [if_neg hy, if_neg hy]; exact .flat rfl
    | const v => exact .flat hox
    | func f => exact .flat rfl
    | global g => cases hox
  have hη : ∀ x ∈ o.op.operands, a.eval x = η x := by
    intro x hxo
    cases x with
    | tmp y =>
      have : y ∈ nm := by simp only [nm, List.mem_append]; exact .inr (mem_tmpsOf (by simpa using hxo))
      simp only [η, if_pos this]; rfl
    | _ => rfl
  have hv' : aoper call ao.op t' { R.S i with low := (R.S i).n } = some (v, τ) := by
    rw [← hv]
    refine aoper_congr fun x hxo => ev_congr fun y hy => ?_
    subst hy
    have : y ∈ nm := by simp only [nm, List.mem_append]; exact .inl (mem_tmpsOf hxo)
    simp only [t', keepT_get, if_pos this]
  exact oper_ok hcall (R.hcomp j o ao ho hao) (sim_low.2 (I.heap i hi)) η hη hvx hv' hK
end Road
end Go.Hai
namespace Go.Hai
open Go
theorem res_eq {ρ : Ren} {s : Nat} (h : ∀ b M, ρ b = some M → b < s) : res ρ s = ρ := by
  funext b
  unfold res
  split
  · rfl
  · next hb =>
    cases he : ρ b with
    | none => rfl
    | some M => exact absurd (h b M he) hb
theorem kind_pure {op : AOp} {t : Tmps} {σ : AHeap} {b : Bool} (h : kindOf op t σ b = .pure) : pureOp op = true := by
  unfold kindOf at h
  split at h
  · next hp => exact hp
  · split at h
    · split at h
      · split at h
        · split at h <;> cases h
        · cases h
      · cases h
    · split at h
      · split at h
        · split at h <;> cases h
        · cases h
      · cases h
theorem kind_load {op : AOp} {t : Tmps} {σ : AHeap} {b : Bool} {c : Nat} (h : kindOf op t σ b = .load c) :
    ∃ g n y o s, op = .load g n (.tmp y) ∧ tget t y = .pointer (some ⟨c, o, s⟩) ∧ c < σ.n ∧ famOk c (σ.t.get c) = true ∧ b = true := by
  unfold kindOf at h
  split at h
  · cases h
  · split at h
    · next hb =>
      split at h
      · split at h
        · next he =>
          split at h
          · next hc =>
            cases h
            simp only [Bool.and_eq_true] at hc
            exact ⟨_, _, _, _, _, rfl, he, by simpa [Nat.blt_eq] using hc.1, hc.2, hb⟩
          · cases h
        · cases h
      · cases h
    · split at h
      · split at h
        · split at h <;> cases h
        · cases h
      · cases h
theorem kind_eff {op : AOp} {t : Tmps} {σ : AHeap} {b : Bool} {c : Nat} (h : kindOf op t σ b = .eff (some c)) :
    ∃ n a x o s cs len es top rw, op = .store n a x ∧ ev t a = .pointer (some ⟨c, o, s⟩) ∧ σ.t.get c = some (.row cs len es top rw none) := by
  unfold kindOf at h
  split at h
  · cases h
  · split at h
    · split at h
      · split at h
        · split at h <;> cases h
        · cases h
      · cases h
    · split at h
      · split at h
        · next he =>
          split at h
          · next hg => cases h; exact ⟨_, _, _, _, _, _, _, _, _, _, rfl, he, hg⟩
          · cases h
        · cases h
      · cases h
theorem eff_other [Rho] {call : CallF} {o : AOper} {t t' : Tmps} {σ σ' : AHeap} {v : Value} {c : Nat} (h : StepR call o t σ v t' σ' (.eff (some c))) : (∀ b, b ≠ c → σ'.t.get b = σ.t.get b) ∧ σ'.dead = σ.dead := by
  obtain ⟨_, ⟨_, τ, hv, rfl, hk⟩ | ⟨_, _, _, hk⟩⟩ := h
  · obtain ⟨n, a, x, off, s, cs, len, es, top, rw', ho, he, hg⟩ := kind_eff hk.symm
    rw [ho] at hv
    simp only [aoper, aop, he] at hv
    split at hv
    · split at hv
      · next τ' hst =>
        cases hv
        obtain ⟨cs', len', es', top', fam', hg', _, _, _, rfl⟩ := storeN_inv hst
        have hg2 : σ.t.get c = some (.row cs' len' es' top' true fam') := hg'
        rw [hg] at hg2
        cases hg2
        exact ⟨fun b hb => by simp only [AHeap.wrote, Tr.get_ins]; rw [if_neg (Ne.symm hb)], rfl⟩
      · cases hv
    · cases hv
  · cases hk
namespace Road
variable {P : Program} {call : CallF} {N : Nat} (R : Road P call N)
theorem same_between [Rho] (hcall : CallOk P call) {b lo : Nat} (hb : b < (R.S lo).n) : ∀ hi, lo ≤ hi → hi ≤ R.n → (∀ k, lo ≤ k → k < hi → isEff (R.K k) = true → ∃ c, R.K k = .eff (some c) ∧ c ≠ b) →
    (R.S hi).t.get b = (R.S lo).t.get b ∧ (∀ fam : Option (Nat × Nat), (∀ p, fam = some p → p.2 ≤ b) → (R.S hi).alive fam = (R.S lo).alive fam) := by
  intro hi
  induction hi with
  | zero => intro h _ _; obtain rfl : lo = 0 := (by omega); exact ⟨rfl, fun _ _ => rfl⟩
  | succ hi ih =>
    intro h hn hk
    by_cases he : lo = hi + 1
    · subst he; exact ⟨rfl, fun _ _ => rfl⟩
    · obtain ⟨e1, e2⟩ := ih (by omega) (by omega) fun k h1 h2 => hk k h1 (by omega)
      obtain ⟨o, a, _, ha⟩ := R.opAt (j := hi) (by omega)
      have hst := R.steps hi a ha
      have hbh : b < (R.S hi).n := Nat.lt_of_lt_of_le hb (R.Smono hcall (by omega) (by omega)).n
      by_cases hef : isEff (R.K hi) = true
      · obtain ⟨c, hc, hcb⟩ := hk hi (by omega) (by omega) hef
        rw [hc] at hst
        obtain ⟨q1, q2⟩ := eff_other hst
        refine ⟨by rw [q1 b (Ne.symm hcb), e1], fun fam hf => ?_⟩
        rw [← e2 fam hf]
        cases fam with
        | none => rfl
        | some p => simp only [AHeap.alive, q2]
      · have hag := step_ag hcall hst (by simpa using hef)
        exact ⟨by rw [hag.get b hbh, e1], fun fam hf => by rw [hag.alive hbh hf, e2 fam hf]⟩
theorem dom_at [Rho] (hcall : CallOk P call) {ρ0 : Ren} {w0 : World} {L : Nat → Bool} {a : Act} {ρ : Ren} {w : World} (I : R.Inv ρ0 w0 L a ρ w) {i : Nat} (hi : R.Cur L i)
    (hq : ∀ k, i ≤ k → k < R.n → L k = true → R.K k = .quiet → False) : ∀ b M, ρ b = some M → b < (R.S i).n := by
  intro b M hb
  rcases I.own b M hb with h | ⟨j, hj, hLj, h1, h2⟩
  · exact Nat.lt_of_lt_of_le (I.dom0 b M h) (R.Smono hcall (Nat.zero_le _) hi.1).n
  · rcases Nat.lt_or_ge j i with h | h
    · exact Nat.lt_of_lt_of_le h2 (R.Smono hcall (by omega) hi.1).n
    · exfalso
      obtain ⟨o, ao, _, hao⟩ := R.opAt hj
      have hst := R.steps j ao hao
      have hne : isEff (R.K j) = false := by
        cases he : isEff (R.K j) with
        | false => rfl
        | true => have := hi.2.2 j h hj he; rw [hLj] at this; cases this
      have hsame : (R.K j = .pure ∨ ∃ c, R.K j = .load c) → (R.S (j + 1)).n = (R.S j).n := by
        intro hk
        obtain ⟨_, ⟨_, τ, hv, hS, hkd⟩ | ⟨_, _, hS, _⟩⟩ := hst
        · rw [hS]
          show τ.n = _
          rcases hk with hk | ⟨c, hk⟩
          · rw [hk] at hkd
            obtain ⟨rfl, _⟩ := aoper_pure (kind_pure hkd.symm) hv
            rfl
          · rw [hk] at hkd
            obtain ⟨g, n, y, off, s, ho, he, _, _, _⟩ := kind_load hkd.symm
            rw [ho] at hv
            simp only [aoper, aop, ev, he] at hv
            split at hv
            · split at hv
              · simp only [Option.some.injEq, Prod.mk.injEq] at hv; rw [← hv.2]
              · split at hv
                · simp only [Option.some.injEq, Prod.mk.injEq] at hv; rw [← hv.2]
                · cases hv
            · cases hv
        · rw [hS]
      cases hk : R.K j with
      | pure => have := hsame (.inl hk); omega
      | load c => have := hsame (.inr ⟨c, hk⟩); omega
      | quiet => exact hq j h hj hLj hk
      | eff c => rw [hk] at hne; simp [isEff] at hne
theorem touch_back [Rho] (hcall : CallOk P call) {ρ0 : Ren} {w0 : World} {L : Nat → Bool} {a : Act} {ρ : Ren} {w : World} (I : R.Inv ρ0 w0 L a ρ w) {i low B : Nat} (hi : i ≤ R.n) (hl : (R.S R.n).low ≤ low)
    (h : Touch ρ { R.S i with low := (R.S i).n } low B) (hbi : ∀ b M, ρ0 b = some M → b < (R.S 0).n) : Touch ρ0 (R.S 0) (R.S R.n).low B ∨ w0.heap.size ≤ B := by
  obtain ⟨b, M, h1, rfl, h3, h4⟩ := h
  by_cases h0 : ρ0 b = some M
  · refine .inl ⟨b, M, h0, rfl, Nat.le_trans hl h3, ?_⟩
    cases hr : ro ((R.S 0).t.get b) with
    | false => rfl
    | true =>
      have := (R.Smono hcall (Nat.zero_le i) hi).ro b (hbi b M h0) hr
      have h4' : ro ((R.S i).t.get b) = false := h4
      rw [this, hr] at h4'; cases h4'
  · rcases I.new b M h1 with h | ⟨_, h | h⟩
    · exact absurd h h0
    · exact .inr h
    · exact .inl h
end Road
end Go.Hai
namespace Go.Hai
open Go
namespace Road
variable {P : Program} {call : CallF} {N : Nat} (R : Road P call N)
theorem add_still [Rho] (hcall : CallOk P call) {ρ0 : Ren} {w0 : World} {L : Nat → Bool} {a : Act} {ρ : Ren} {w : World} (I : R.Inv ρ0 w0 L a ρ w) {j i : Nat} {o : Oper} {ao : AOper} (hj : j < R.n) (ho : R.ops[j]? = some o) (hao : R.l[j]? = some ao)
    (hL : L j = false) (hr : R.Ready L j) (hk : isEff (R.K j) = false) (hi : R.Cur L i) (hnear : i = j ∨ (j < i ∧ ∀ c, R.Cur L c → i ≤ c) ∨ (i < j ∧ ∀ c, R.Cur L c → c ≤ i))
    {ρ' : Ren} {w' : World} {u : Value} {m : Nat} (hm : m = (R.S i).n ∨ (i = j ∧ m = (R.S (j + 1)).n)) (hsim : i = j → Sim ρ' (R.S (j + 1)) w')
    (hdom : ∀ b M, ρ' b = some M → b < m) (hv : VR ρ' (R.V j) u) (hre : (res ρ (R.S i).n).le ρ')
    (hnew : ∀ b M, ρ' b = some M → res ρ (R.S i).n b = some M ∨ ((R.S i).n ≤ b ∧ w.heap.size ≤ M.blk)) (hsz : w.heap.size ≤ w'.heap.size) (hfr : ∀ B, B < w.heap.size → w'.heap[B]? = w.heap[B]?) (hio : SameIO w w') :
    ∃ ρ'', R.Inv ρ0 w0 (add L j) (a.put o.dst u) ρ'' w' := by
  have hdst := compOper_inv (R.hcomp j o ao ho hao)
  -- no name of the new ones was given
  have hfree : ∀ b, (R.S i).n ≤ b → b < m → ρ b = none := by
    intro b h1 h2
    cases hb : ρ b with
    | none => rfl
    | some M =>
      exfalso
      rcases hm with hm | ⟨rfl, hm⟩
      · omega
      · rcases I.own b M hb with h | ⟨k, hkn, hLk, g1, g2⟩
        · have := I.dom0 b M h
          have := (R.Smono hcall (Nat.zero_le i) hi.1).n
          omega
        · have hki : k ≠ i := by rintro rfl; rw [hL] at hLk; cases hLk
          rcases Nat.lt_or_gt_of_ne hki with h | h
          · have := (R.Smono hcall (show k + 1 ≤ i by omega) hi.1).n; omega
          · have := (R.Smono hcall (show i + 1 ≤ k by omega) (by omega)).n; omega
  let ρ'' : Ren := fun b => match ρ b with | some M => some M | none => ρ' b
  have hle : ρ.le ρ'' := fun b M h => by simp only [ρ'', h]
  have hle' : ρ'.le ρ'' := by
    intro b M h
    rcases hnew b M h with g | ⟨g, _⟩
    · exact hle b M (res_some g).2
    · simp only [ρ'', hfree b g (hdom b M h)]; exact h
  have hcase : ∀ b M, ρ'' b = some M → ρ b = some M ∨ (ρ b = none ∧ ρ' b = some M ∧ (R.S i).n ≤ b ∧ b < m ∧ w.heap.size ≤ M.blk) := by
    intro b M h
    simp only [ρ''] at h
    cases hb : ρ b with
    | some M' => rw [hb] at h; exact .inl h
    | none =>
      rw [hb] at h
      simp only at h
      rcases hnew b M h with g | ⟨g, g'⟩
      · rw [(res_some g).2] at hb; cases hb
      · exact .inr ⟨rfl, h, g, hdom b M h, g'⟩
  have hcur := fun c => R.cur_add (L := L) hk c
  refine ⟨ρ'', ?_, ?_, R.add_closed I.closed hr, ?_, ?_, I.dom0, ?_, ?_, Ren.le_trans I.le hle, ?_, Nat.le_trans I.sizew hsz, ?_, hio.1.trans I.io.1, hio.2.trans I.io.2⟩
  · cases o.dst <;> simp [Act.put, I.size]
  · cases o.dst <;> exact I.defers
  · refine R.tmp_add (k := m) hj ho hao hdst.1 hdst.2.2 I.closed hL hr I.size I.tmp hle (hv.mono fun b M h => res_of (hdom b M h) (hle' b M h)) ?_ (fun c hc => ⟨c, (hcur c).1 hc, Nat.le_refl _⟩)
    intro c hc
    replace hc := (hcur c).1 hc
    rcases hm with hm | ⟨_, hm⟩
    · rcases hnear with h | ⟨_, h⟩ | ⟨h, _⟩
      · subst h
        have := (R.Smono hcall (show i ≤ i + 1 by omega) (by omega)).n
        omega
      · have := (R.Smono hcall (h c hc) hc.1).n
        omega
      · have := (R.Smono hcall (show i ≤ j + 1 by omega) (by omega)).n
        omega
    · omega
  · intro b M h
    rcases hcase b M h with g | ⟨_, g1, g2, g3, _⟩
    · rcases I.own b M g with q | ⟨k, q1, q2, q3, q4⟩
      · exact .inl q
      · refine .inr ⟨k, q1, ?_, q3, q4⟩
        by_cases hkj : k = j
        · rw [hkj, add_same]
        · rw [add_other hkj, q2]
    · rcases hm with hm | ⟨rfl, hm⟩
      · omega
      · exact .inr ⟨i, hj, add_same _ _, g2, by omega⟩
  · obtain ⟨c, hc⟩ := I.cur; exact ⟨c, (hcur c).2 hc⟩
  · intro c hc
    replace hc := (hcur c).1 hc
    have hX := sim_still (I.heap c hc) hsz hfr
    by_cases hsame : ∀ b, b < (R.S c).n → ρ'' b = ρ b
    · have : res ρ'' (R.S c).n = res ρ (R.S c).n := by
        funext b; unfold res; split
        · next hb => exact hsame b hb
        · rfl
      rw [this]; exact hX
    · -- there are new ones, and they count at c
      have hij : i = j ∧ m = (R.S (j + 1)).n := by
        rcases hm with hm | hm
        · exfalso
          apply hsame
          intro b _
          cases hb : ρ'' b with
          | none =>
            cases hb2 : ρ b with
            | none => rfl
            | some M => rw [hle b M hb2] at hb; cases hb
          | some M =>
            rcases hcase b M hb with g | ⟨_, _, g2, g3, _⟩
            · rw [g]
            · omega
        · exact hm
      obtain ⟨rfl, hm'⟩ := hij
      have hci : i + 1 ≤ c := by
        rcases Nat.lt_or_ge i c with h | h
        · exact h
        · exfalso
          apply hsame
          intro b hb
          cases hbb : ρ'' b with
          | none =>
            cases hb2 : ρ b with
            | none => rfl
            | some M => rw [hle b M hb2] at hbb; cases hbb
          | some M =>
            rcases hcase b M hbb with g | ⟨_, _, g2, _⟩
            · rw [g]
            · have := (R.Smono hcall h hi.1).n; omega
      have hag := R.ag hcall hci hc.1 fun k h1 h2 => by
        cases he : isEff (R.K k) with
        | false => rfl
        | true =>
          have q1 := hc.2.1 k h2 he
          have q2 := hi.2.2 k (by omega) (by have := hc.1; omega) he
          rw [q1] at q2; cases q2
      have hY := sim_ag hag (hsim rfl)
      refine sim_union hX hY (res_mono hle (Nat.le_refl _)) (fun b M h => res_of (Nat.lt_of_lt_of_le (by rw [← hm']; exact hdom b M h) hag.n) (hle' b M h)) ?_ ?_
      · intro b M h
        obtain ⟨h1, h2⟩ := res_some h
        rcases hcase b M h2 with g | ⟨_, g, _⟩
        · exact .inl (res_of h1 g)
        · exact .inr g
      · intro b b' M M' h1 _ h3 h4 hB
        have hlt := (I.heap c hc).lt b M h1
        rcases hnew b' M' h3 with g | ⟨_, g⟩
        · obtain ⟨g1, g2⟩ := res_some g
          have := (R.Smono hcall (show i ≤ c by omega) hc.1).n
          rw [res_of (by omega) g2] at h4; cases h4
        · omega
  · intro b M h
    rcases hcase b M h with g | ⟨_, _, g2, _, g4⟩
    · exact I.new b M g
    · exact .inr ⟨Nat.le_trans (R.Smono hcall (Nat.zero_le i) hi.1).n g2, .inl (Nat.le_trans I.sizew g4)⟩
  · intro B hB ht
    rw [hfr B (Nat.lt_of_lt_of_le hB I.sizew), I.frame B hB ht]
theorem step [Rho] (hcall : CallOk P call) {ρ0 : Ren} {w0 : World} {L : Nat → Bool} {a : Act} {ρ : Ren} {w : World} (I : R.Inv ρ0 w0 L a ρ w) {j : Nat} (hj : j < R.n) (hL : L j = false) (hr : R.Ready L j)
    {K : Act → World → Prop} {Q : Exit → Act → World → Prop} (hK : ∀ a' ρ' w', R.Inv ρ0 w0 (add L j) a' ρ' w' → K a' w') : wpOp P R.ops.toArray Q j K a w := by
  obtain ⟨o, ao, ho, hao⟩ := R.opAt hj
  have hcomp := R.hcomp j o ao ho hao
  obtain ⟨hd, hg, hN⟩ := compOper_inv hcomp
  obtain ⟨hT, hst⟩ := R.steps j ao hao
  have hSj := R.Smono hcall (Nat.le_succ j) hj
  have hlow : (R.S R.n).low ≤ (R.S (j + 1)).low := (R.Smono hcall (show j + 1 ≤ R.n from hj) (Nat.le_refl _)).low
  have hw : Region.wanted o (yielded R.ops.toArray a.tmps) = wants (R.T j) ao.guard := by
    refine wants_eq (ρ := ρ) hg fun g x hgx => ?_
    obtain ⟨k, h1, _⟩ := R.tmp_at I hj ho hao hL hr (τ := g) (by unfold namesOf; rw [hgx]; simp) hcall
    exact h1.mono (res_le _ _)
  unfold wpOp
  simp only [List.getElem?_toArray, ho, hw]
  rcases hst with ⟨hwt, τ, hv, hS, hkd⟩ | ⟨hwt, hV, hS, hkd⟩
  · rw [if_pos hwt]
    refine .inl ?_
    have hτn : (R.S (j + 1)).n = τ.n := by rw [hS]
    have hτlow : (R.S (j + 1)).low ≤ τ.low := by rw [hS]; exact minN_le_right _ _
    by_cases hef : isEff (R.K j) = true
    · -- it changes something: all else that makes or reads stands in an order with it
      have hne : ∀ k : AKind, isEff k = true → ∃ c, k = .eff c := fun k h => by cases k <;> first | exact ⟨_, rfl⟩ | simp [isEff] at h
      obtain ⟨c0, hc0⟩ := hne _ hef
      have hcurj : R.Cur L j := R.cur_of I.closed hj hL hr fun k _ _ he => by
        obtain ⟨c, hc⟩ := hne _ he
        rw [hc, hc0]; constructor <;> cases c <;> cases c0 <;> rfl
      have hdomρ := R.dom_at hcall I hcurj fun k hjk hkn hLk hq => by
        have hkj : k ≠ j := by rintro rfl; rw [hL] at hLk; cases hLk
        rcases R.order j k (by omega) hkn (.inl hef) with h | h | h
        · have := R.ahead I.closed k j hkn hj (R.closed_ready I.closed hLk) h
          rw [hL] at this; cases this
        · rw [hc0, hq] at h; cases c0 <;> cases h
        · rw [hc0, hq] at h; cases h
      have hres := res_eq hdomρ
      refine R.run_at hcall I hj ho hao hL hr hcurj (fun k hk => res_mono (Ren.le_refl _) (by have := hk j hcurj; omega)) hv ?_
      intro u w' ρ' hvu hp
      rw [hres] at hp
      refine hK _ ρ' w' ?_
      have hdom' : ∀ b M, ρ' b = some M → b < (R.S (j + 1)).n := fun b M h => by rw [hτn]; exact hp.sim.dom b M h
      have hsim1 : Sim ρ' (R.S (j + 1)) w' := by rw [hS]; exact sim_low.2 hp.sim
      have hback : ∀ B, Touch ρ { R.S j with low := (R.S j).n } τ.low B → Touch ρ0 (R.S 0) (R.S R.n).low B ∨ w0.heap.size ≤ B := fun B h =>
        R.touch_back hcall I (Nat.le_of_lt hj) (Nat.le_trans hlow hτlow) h I.dom0
      have hcur1 : ∀ c, R.Cur (add L j) c → j + 1 ≤ c := fun c hc => by
        rcases Nat.lt_or_ge j c with h | h
        · exact h
        · have := hc.2.2 j h hj hef; rw [add_same] at this; cases this
      refine ⟨?_, ?_, R.add_closed I.closed hr, ?_, ?_, I.dom0, ?_, ?_, Ren.le_trans I.le hp.ren, ?_, Nat.le_trans I.sizew hp.size, ?_, hp.io.1.trans I.io.1, hp.io.2.trans I.io.2⟩
      · cases o.dst <;> simp [Act.put, I.size]
      · cases o.dst <;> exact I.defers
      · refine R.tmp_add (k := (R.S (j + 1)).n) hj ho hao hd hN I.closed hL hr I.size I.tmp hp.ren (by rw [res_eq hdom']; exact hvu) (fun c _ => by omega) fun c hc => ⟨j, hcurj, ?_⟩
        exact (R.Smono hcall (by have := hcur1 c hc; omega) hc.1).n
      · intro b M h
        rcases hp.new b M h with g | ⟨g, _⟩
        · rcases I.own b M g with q | ⟨k, q1, q2, q3, q4⟩
          · exact .inl q
          · refine .inr ⟨k, q1, ?_, q3, q4⟩
            by_cases hkj : k = j
            · rw [hkj, add_same]
            · rw [add_other hkj, q2]
        · exact .inr ⟨j, hj, add_same _ _, g, hdom' b M h⟩
      · refine ⟨j + 1, hj, fun k hk he => ?_, fun k hk hkn he => ?_⟩
        · by_cases hkj : k = j
          · rw [hkj, add_same]
          · rw [add_other hkj]; exact hcurj.2.1 k (by omega) he
        · rw [add_other (by omega)]; exact hcurj.2.2 k (by omega) hkn he
      · intro c hc
        have hci := hcur1 c hc
        have hag := R.ag hcall hci hc.1 fun k h1 h2 => by
          cases he : isEff (R.K k) with
          | false => rfl
          | true =>
            have q1 := hc.2.1 k h2 he
            rw [add_other (by omega)] at q1
            have q2 := hcurj.2.2 k (by omega) (by have := hc.1; omega) he
            rw [q1] at q2; cases q2
        rw [res_eq fun b M h => Nat.lt_of_lt_of_le (hdom' b M h) hag.n]
        exact sim_ag hag hsim1
      · intro b M h
        rcases hp.new b M h with g | ⟨g, g'⟩
        · exact I.new b M g
        · refine .inr ⟨Nat.le_trans (R.Smono hcall (Nat.zero_le j) (Nat.le_of_lt hj)).n g, ?_⟩
          rcases g' with g' | g'
          · exact .inl (Nat.le_trans I.sizew g')
          · exact (hback _ g').symm
      · intro B hB ht
        rw [hp.frame B (Nat.lt_of_lt_of_le hB I.sizew) (fun t => (hback B t).elim ht (fun h => by omega)), I.frame B hB ht]
    · -- it changes nothing that was there
      have hef : isEff (R.K j) = false := by simpa using hef
      obtain ⟨i, hi, hnear⟩ := R.near I.cur j
      -- beside it, what changes something and stands in no order with it
      have hmix : ∀ k, k < R.n → isEff (R.K k) = true → ((j < k ∧ L k = true) ∨ (k < j ∧ L k = false)) → mixes (R.K k) (R.K j) = true ∨ mixes (R.K j) (R.K k) = true := by
        intro k hkn he h
        rcases h with ⟨h, hLk⟩ | ⟨h, hLk⟩
        · rcases R.order j k h hkn (.inr he) with g | g | g
          · have := R.ahead I.closed k j hkn hj (R.closed_ready I.closed hLk) g
            rw [hL] at this; cases this
          · exact .inr g
          · exact .inl g
        · rcases R.order k j h hj (.inl he) with g | g | g
          · have := R.ahead I.closed j k hj hkn hr g
            rw [hLk] at this; cases this
          · exact .inl g
          · exact .inr g
      -- the last place that stands has all that was made
      have domi : i < j → (∀ c, R.Cur L c → c ≤ i) → ∀ b M, ρ b = some M → b < (R.S i).n := by
        intro hlt hmax b M hb
        refine R.dom_at hcall I hi (fun k hik hkn hLk hq => ?_) b M hb
        have hieff : isEff (R.K i) = true := by
          cases hie : isEff (R.K i) with
          | true => rfl
          | false =>
            have : R.Cur L (i + 1) := ⟨by omega, fun k hk he => by
              by_cases hki : k = i
              · rw [hki, hie] at he; cases he
              · exact hi.2.1 k (by omega) he, fun k hk hkn he => hi.2.2 k (by omega) hkn he⟩
            have := hmax _ this; omega
        have hLi := hi.2.2 i (Nat.le_refl _) (by omega) hieff
        have hki : k ≠ i := by rintro rfl; rw [hLi] at hLk; cases hLk
        rcases R.order i k (by omega) hkn (.inl hieff) with g | g | g
        · have := R.ahead I.closed k i hkn (by omega) (R.closed_ready I.closed hLk) g
          rw [hLi] at this; cases this
        · rw [hq] at g
          cases hKi : R.K i with
          | eff c => rw [hKi] at g; cases c <;> cases g
          | _ => rw [hKi] at g; cases g
        · rw [hq] at g; cases g
      -- the same result, where the heap stands
      have hrun : ∃ τ', aoper call ao.op (R.T j) { R.S i with low := (R.S i).n } = some (R.V j, τ') ∧ τ'.low = (R.S i).n ∧ ((i ≠ j ∧ τ'.n = (R.S i).n) ∨ (i = j ∧ τ' = τ)) := by
        by_cases hij : i = j
        · subst hij
          refine ⟨τ, hv, ?_, .inr ⟨rfl, rfl⟩⟩
          rw [hkd] at hef
          rcases kind_still hef with hp | hp
          · obtain ⟨rfl, _⟩ := aoper_pure hp hv; rfl
          · exact Nat.eq_of_beq_eq_true hp
        · cases hkj : R.K j with
          | pure =>
            rw [hkj] at hkd
            exact ⟨_, (aoper_pure (kind_pure hkd.symm) hv).2 _, rfl, .inl ⟨hij, rfl⟩⟩
          | load b =>
            rw [hkj] at hkd
            obtain ⟨g, n, y, off, s, hop, hpt, hbn, hfam, _⟩ := kind_load hkd.symm
            -- the row is the same there and here
            have hbi : b < (R.S i).n := by
              rcases hnear with h | ⟨h, _⟩ | ⟨h, hmax⟩
              · exact absurd h hij
              · exact Nat.lt_of_lt_of_le hbn (R.Smono hcall (Nat.le_of_lt h) hi.1).n
              · obtain ⟨k, q1, q2⟩ := R.tmp_at I hj ho hao hL hr (τ := y) (by unfold namesOf; rw [hop]; simp [opXs, tmpsOf]) hcall
                rw [hpt] at q1
                obtain ⟨M, hM, _⟩ := q1.ptr_inv
                exact domi h hmax b M (res_some hM).2
            have hbetween : ∀ lo hi', (lo = i ∧ hi' = j ∨ lo = j ∧ hi' = i) → lo ≤ hi' → ∀ k, lo ≤ k → k < hi' → isEff (R.K k) = true → ∃ c, R.K k = .eff (some c) ∧ c ≠ b := by
              intro lo hi' hlh hle k h1 h2 he
              have hkn : k < R.n := by have := hi.1; rcases hlh with ⟨_, h⟩ | ⟨_, h⟩ <;> omega
              have hm : mixes (R.K k) (R.K j) = true ∨ mixes (R.K j) (R.K k) = true := by
                refine hmix k hkn he ?_
                rcases hlh with ⟨rfl, rfl⟩ | ⟨rfl, rfl⟩
                · exact .inr ⟨h2, hi.2.2 k h1 hkn he⟩
                · have hkj' : k ≠ lo := by rintro rfl; rw [hkj] at he; cases he
                  exact .inl ⟨by omega, hi.2.1 k h2 he⟩
              rw [hkj] at hm
              cases hKk : R.K k with
              | eff c =>
                rw [hKk] at hm
                cases c with
                | some c =>
                  refine ⟨c, rfl, ?_⟩
                  rcases hm with hm | hm
                  · rintro rfl; simp [mixes] at hm
                  · cases hm
                | none => rcases hm with hm | hm <;> cases hm
              | _ => rw [hKk] at he; simp [isEff] at he
            have hsame : (R.S i).t.get b = (R.S j).t.get b ∧ ∀ fam : Option (Nat × Nat), (∀ p, fam = some p → p.2 ≤ b) → (R.S i).alive fam = (R.S j).alive fam := by
              rcases Nat.lt_or_ge i j with h | h
              · obtain ⟨q1, q2⟩ := R.same_between hcall hbi j (by omega) (by omega) (hbetween i j (.inl ⟨rfl, rfl⟩) (by omega))
                exact ⟨q1.symm, fun fam hf => (q2 fam hf).symm⟩
              · exact R.same_between hcall hbn i h hi.1 (hbetween j i (.inr ⟨rfl, rfl⟩) h)
            have hload : ∀ o' n', AHeap.loadN { R.S i with low := (R.S i).n } b o' n' = AHeap.loadN { R.S j with low := (R.S j).n } b o' n' := fun o' n' => by
              refine load_same (σ := { R.S j with low := (R.S j).n }) (σ' := { R.S i with low := (R.S i).n }) hsame.1 fun cs len es top rw' fam hgb => ?_
              have hgb' : (R.S j).t.get b = some (.row cs len es top rw' fam) := hgb
              refine hsame.2 fam fun p hp => ?_
              subst hp
              rw [hgb'] at hfam
              exact Nat.le_of_ble_eq_true hfam
            rw [hop] at hv ⊢
            have hl2 := hload off n
            have hpt' : ev (R.T j) (.tmp y) = .pointer (some ⟨b, off, s⟩) := hpt
            revert hv
            generalize hsi : ({ R.S i with low := (R.S i).n } : AHeap) = si at hl2 ⊢
            generalize hsj : ({ R.S j with low := (R.S j).n } : AHeap) = sj at hl2 ⊢
            intro hv
            have hlo : si.low = (R.S i).n ∧ si.n = (R.S i).n := by rw [← hsi]; exact ⟨rfl, rfl⟩
            have hr2 : aoper call (.load g n (.tmp y)) (R.T j) si = some (R.V j, si) := by
              simp only [aoper, aop, hpt', hl2] at hv ⊢
              cases hll : sj.loadN b off n with
              | none => rw [hll] at hv; cases hv
              | some vs =>
                rw [hll] at hv
                cases g with
                | true => simp only [if_true, Option.some.injEq, Prod.mk.injEq] at hv ⊢; exact ⟨hv.1, trivial⟩
                | false =>
                  simp only [Bool.false_eq_true, if_false] at hv ⊢
                  split at hv
                  · simp only [Option.some.injEq, Prod.mk.injEq] at hv ⊢; exact ⟨hv.1, trivial⟩
                  · cases hv
            exact ⟨si, hr2, hlo.1, .inl ⟨hij, hlo.2⟩⟩
          | quiet =>
            exfalso
            have : R.Cur L j := R.cur_of I.closed hj hL hr fun k _ _ he => by
              rw [hkj]
              cases hKk : R.K k with
              | eff c => constructor <;> cases c <;> rfl
              | _ => rw [hKk] at he; simp [isEff] at he
            rcases hnear with h | ⟨h, h'⟩ | ⟨h, h'⟩
            · exact hij h
            · have := h' j this; omega
            · have := h' j this; omega
          | eff c => rw [hkj] at hef; simp [isEff] at hef
      obtain ⟨τ', hv', hlow', hn'⟩ := hrun
      have hx : ∀ k, (∀ c, R.Cur L c → k ≤ max (R.S j).n (R.S c).n) → (res ρ k).le (res ρ (R.S i).n) := by
        intro k hk
        rcases hnear with h | ⟨h, _⟩ | ⟨h, hmax⟩
        · subst h; exact res_mono (Ren.le_refl _) (by have := hk i hi; omega)
        · exact res_mono (Ren.le_refl _) (by have := hk i hi; have := (R.Smono hcall (Nat.le_of_lt h) hi.1).n; omega)
        · intro b M hb
          have := (res_some hb).2
          exact res_of (domi h hmax b M this) this
      refine R.run_at hcall I hj ho hao hL hr hi hx hv' ?_
      intro u w' ρ' hvu hp
      have hnot : ∀ B, ¬ Touch (res ρ (R.S i).n) { R.S i with low := (R.S i).n } τ'.low B := by
        rintro B ⟨b, M, h1, _, h3, _⟩
        have := (res_some h1).1
        omega
      obtain ⟨ρ'', hInv⟩ := R.add_still hcall I hj ho hao hL hr hef hi hnear (ρ' := ρ') (w' := w') (u := u) (m := τ'.n)
        (by rcases hn' with ⟨_, h⟩ | ⟨rfl, rfl⟩
            · exact .inl h
            · exact .inr ⟨rfl, hτn.symm⟩)
        (by
          rintro rfl
          rcases hn' with ⟨h, _⟩ | ⟨_, rfl⟩
          · exact absurd rfl h
          · rw [hS]; exact sim_low.2 hp.sim)
        (fun b M h => hp.sim.dom b M h) hvu hp.ren
        (fun b M h => (hp.new b M h).imp id fun ⟨g, g'⟩ => ⟨g, g'.resolve_right (hnot _)⟩) hp.size (fun B hB => hp.frame B hB (hnot B)) hp.io
      exact hK _ ρ'' w' hInv
  · rw [if_neg (by rw [hwt]; simp)]
    have hef : isEff (R.K j) = false := by rw [hkd]; rfl
    obtain ⟨i, hi, hnear⟩ := R.near I.cur j
    obtain ⟨ρ'', hInv⟩ := R.add_still hcall I hj ho hao hL hr hef hi hnear (ρ' := res ρ (R.S i).n) (w' := w) (u := undef) (m := (R.S i).n) (.inl rfl)
      (by rintro rfl; rw [hS]; exact I.heap i hi) (fun b M h => (res_some h).1) (by rw [hV]; exact .flat rfl) (Ren.le_refl _) (fun b M h => .inl h) (Nat.le_refl _) (fun B _ => rfl) ⟨rfl, rfl⟩
    exact hK _ ρ'' w hInv
end Road
end Go.Hai
namespace Go.Hai
open Go
theorem compOps_get [Rho] {P : Program} {N : Nat} {all : List Oper} : ∀ (os : List Oper) (l : List AOper), compOps P N all os = some l → l.length = os.length ∧ ∀ (j : Nat) (o : Oper) (a : AOper), os[j]? = some o → l[j]? = some a → compOper P N all o = some a := by
  intro os
  induction os with
  | nil => intro l h; simp only [compOps] at h; cases h; exact ⟨rfl, fun j o a h => by simp at h⟩
  | cons o os ih =>
    intro l h
    obtain ⟨a, l', h1, h2, rfl⟩ := compOps_cons h
    obtain ⟨q1, q2⟩ := ih l' h2
    refine ⟨by simp [q1], fun j o' a' ho ha => ?_⟩
    cases j with
    | zero => simp at ho ha; subst ho; subst ha; exact h1
    | succ j => exact q2 j o' a' (by simpa using ho) (by simpa using ha)
theorem road_of [Rho] {P : Program} {call : CallF} {N : Nat} {ops : List Oper} {l : List AOper} {bef : List Nat} {t t' : Tmps} {σ σ' : AHeap} {ks : List AKind} (hc : compOps P N ops ops = some l) (ho : orderOk ops l bef = true)
    (hr : runDraw call l t σ = some (t', σ', ks)) (hd : drawOk (risks (marks l bef) 0) ks = true) : ∃ R : Road P call N, R.ops = ops ∧ R.T 0 = t ∧ R.S 0 = σ ∧ R.T R.n = t' ∧ R.S R.n = σ' := by
  obtain ⟨hl, hb, htab, hpair⟩ := orderOk_inv ho
  obtain ⟨T, S, V, K, e1, e2, e3, e4, e5, e6, e7⟩ := trace_of l t σ t' σ' ks hr
  refine ⟨{ ops := ops, l := l, bef := bef, T := T, S := S, V := V, K := K, hl := hl, hcomp := (compOps_get ops l hc).2, back := fun j o h => (htab j o h).1, table := fun j o h => (htab j o h).2, pairs := hpair, steps := e7, order := ?_ }, rfl, e1, e2, ?_, ?_⟩
  · intro i j hij hj he
    have hbi : bef[i]? = some (bef.getD i 0) := by rw [List.getD_eq_getElem?_getD, List.getElem?_eq_getElem (by omega)]; rfl
    have hbj : bef[j]? = some (bef.getD j 0) := by rw [List.getD_eq_getElem?_getD, List.getElem?_eq_getElem (by omega)]; rfl
    cases ht : Nat.testBit (bef.getD j 0) i with
    | true => exact .inl rfl
    | false =>
      have hli : l[i]? = some (l[i]'(by omega)) := List.getElem?_eq_getElem _
      have hlj : l[j]? = some (l[j]'(by omega)) := List.getElem?_eq_getElem _
      have hmi : (marks l bef)[i]? = some (bef.getD i 0, mayEff (l[i]'(by omega)).op) := by unfold marks; rw [List.getElem?_zipWith, hli, hbi]
      have hmj : (marks l bef)[j]? = some (bef.getD j 0, mayEff (l[j]'(by omega)).op) := by unfold marks; rw [List.getElem?_zipWith, hlj, hbj]
      have hmay : (mayEff (l[i]'(by omega)).op || mayEff (l[j]'(by omega)).op) = true := by
        rcases he with he | he
        · rw [eff_may (e7 i _ hli) he]; rfl
        · rw [eff_may (e7 j _ hlj) he, Bool.or_true]
      have hmem := mem_risks (marks l bef) 0 i j _ _ _ _ hij hmi hmj hmay (by rw [Nat.zero_add]; exact ht)
      have := drawOk_get ks _ hd _ hmem
      rw [Nat.zero_add, Nat.zero_add] at this
      simp only [e6 i (by omega), e6 j (by omega), pairB, Bool.or_eq_true, Bool.and_eq_true, Bool.not_eq_true'] at this
      rcases this with (⟨h1, h2⟩ | h) | h
      · rcases he with he | he
        · rw [h1] at he; cases he
        · rw [h2] at he; cases he
      · exact .inr (.inl h)
      · exact .inr (.inr h)
  · show T ops.length = t'
    rw [← hl, e3]
  · show S ops.length = σ'
    rw [← hl, e4]
theorem count_add [Rho] {L : Nat → Bool} {j : Nat} (hL : L j = false) : ∀ (l : List Nat), (l.filter fun k => !(Road.add L j k)).length ≤ (l.filter fun k => !(L k)).length ∧ (j ∈ l → (l.filter fun k => !(Road.add L j k)).length < (l.filter fun k => !(L k)).length) := by
  intro l
  induction l with
  | nil => simp
  | cons x l ih =>
    by_cases hx : x = j
    · subst hx
      simp only [List.filter_cons, Road.add_same, hL, Bool.not_true, Bool.not_false, if_true, Bool.false_eq_true, if_false, List.length_cons]
      exact ⟨by omega, fun _ => by omega⟩
    · simp only [List.filter_cons, Road.add_other hx]
      cases L x
      · simp only [Bool.not_false, if_true, List.length_cons, List.mem_cons]
        exact ⟨by omega, fun h => by have := ih.2 (h.resolve_left fun h => hx h.symm); omega⟩
      · simp only [Bool.not_true, Bool.false_eq_true, if_false, List.mem_cons]
        exact ⟨by omega, fun h => ih.2 (h.resolve_left fun h => hx h.symm)⟩
namespace Road
variable {P : Program} {call : CallF} {N : Nat} (R : Road P call N)
theorem inv_init [Rho] (hcall : CallOk P call) {ρ : Ren} {w : World} {a : Act} (hs : Sim ρ (R.S 0) w) (ht : TR ρ N (R.T 0) a) : R.Inv ρ w (fun _ => false) a ρ w where
  size := ht.size
  defers := ht.defers
  closed := fun j o h => by cases h
  tmp := fun τ => ⟨(R.S 0).n, tget (R.T 0) τ, .inr ⟨fun i a _ h => (by cases h), rfl, rfl⟩, by rw [res_eq hs.dom]; exact ht.val τ⟩
  own := fun b M h => .inl h
  dom0 := hs.dom
  cur := ⟨0, Nat.zero_le _, fun j h => by omega, fun j _ _ _ => rfl⟩
  heap := fun i hi => by
    have hag := R.ag hcall (Nat.zero_le i) hi.1 fun k _ hk => by
      cases he : isEff (R.K k) with
      | false => rfl
      | true => have := hi.2.1 k hk he; cases this
    rw [res_eq fun b M h => Nat.lt_of_lt_of_le (hs.dom b M h) hag.n]
    exact sim_ag hag hs
  le := Ren.le_refl _
  new := fun b M h => .inl h
  sizew := Nat.le_refl _
  frame := fun B _ _ => rfl
  io := ⟨rfl, rfl⟩
theorem inv_end [Rho] (hcall : CallOk P call) {ρ0 ρ : Ren} {w0 w : World} {L : Nat → Bool} {a : Act} (I : R.Inv ρ0 w0 L a ρ w) (hall : ∀ j, j < R.n → L j = true) : TR ρ N (R.T R.n) a ∧ Post ρ0 (R.S 0) w0 ρ (R.S R.n) w := by
  have hcur : R.Cur L R.n := ⟨Nat.le_refl _, fun j hj _ => hall j hj, fun j h1 h2 _ => by omega⟩
  have hdom : ∀ b M, ρ b = some M → b < (R.S R.n).n := by
    intro b M h
    rcases I.own b M h with h | ⟨j, hj, _, _, h⟩
    · exact Nat.lt_of_lt_of_le (I.dom0 b M h) (R.Smono hcall (Nat.zero_le _) (Nat.le_refl _)).n
    · exact Nat.lt_of_lt_of_le h (R.Smono hcall (show j + 1 ≤ R.n from hj) (Nat.le_refl _)).n
  refine ⟨⟨I.size, I.defers, fun τ => ?_⟩, ⟨?_, I.le, I.new, I.sizew, I.frame, I.io⟩⟩
  · obtain ⟨k, val, hlast, hv⟩ := I.tmp τ
    replace hv : VR ρ val (a.tmps.getD τ undef) := hv.mono (res_le _ _)
    rcases hlast with ⟨i, ai, hi, hai, hLi, hd, hmax, rfl, hk⟩ | ⟨hno, rfl, rfl⟩
    · rcases R.T_get (j := R.n) (τ := τ) (Nat.le_refl _) with ⟨i', a', h1, h2, h3, h4, h5⟩ | ⟨h1, h2⟩
      · have e1 := hmax i' a' h2 (hall i' h1) h3
        have e2 := h4 i ai hi hai hd
        have : i = i' := by omega
        subst this
        rw [h5]; exact hv
      · exact absurd hd (h1 i ai hi hai)
    · rcases R.T_get (j := R.n) (τ := τ) (Nat.le_refl _) with ⟨i', a', h1, h2, h3, h4, h5⟩ | ⟨h1, h2⟩
      · exact absurd h3 (hno i' a' h2 (hall i' h1))
      · rw [h2]; exact hv
  · have := I.heap R.n hcur
    rwa [res_eq hdom] at this
theorem all_of_ready [Rho] {L : Nat → Bool} {listed : Array Bool} (hl : ∀ j, j < R.n → listed[j]? = some (L j)) (hr : Region.ready .any R.ops.toArray listed = []) : ∀ j, j < R.n → L j = true := by
  intro j
  induction j using Nat.strongRecOn with
  | _ j ih =>
    intro hj
    cases hL : L j with
    | true => rfl
    | false =>
      exfalso
      obtain ⟨o, _, ho, _⟩ := R.opAt hj
      have : j ∈ Region.ready .any R.ops.toArray listed := by
        unfold Region.ready
        rw [List.mem_filter]
        have hj' : j < R.ops.length := hj
        refine ⟨by simpa using hj', ?_⟩
        have e1 : listed.getD j true = false := by simp [Array.getD_eq_getD_getElem?, hl j hj, hL]
        have e2 : R.ops.toArray[j]? = some o := by simpa using ho
        rw [e1, e2]
        simp only [Bool.not_false, Bool.true_and, Option.map_some, Option.getD_some]
        rw [Array.all_eq_true']
        intro e he
        cases hb : Region.binds .any e with
        | false => rfl
        | true =>
          have hlt := R.back j o ho e (by simpa using he) hb
          have := ih e.on hlt (by omega)
          simp [Array.getD_eq_getD_getElem?, hl e.on (by omega), this]
      rw [hr] at this
      cases this
theorem any_ok [Rho] (hcall : CallOk P call) {ρ0 : Ren} {w0 : World} {Q : Exit → Act → World → Prop} (hQ : ∀ a' w' ρ', TR ρ' N (R.T R.n) a' → Post ρ0 (R.S 0) w0 ρ' (R.S R.n) w' → Q .normal a' w') :
    ∀ (fuel : Nat) (listed : Array Bool) (L : Nat → Bool) (a : Act) (ρ : Ren) (w : World), R.Inv ρ0 w0 L a ρ w → listed.size = R.n → (∀ j, j < R.n → listed[j]? = some (L j)) →
      ((List.range R.n).filter fun k => !(L k)).length ≤ fuel → wpAny P .any R.ops.toArray Q fuel listed a w := by
  intro fuel
  induction fuel with
  | zero =>
    intro listed L a ρ w I hsz hl hc
    have hnil : ((List.range R.n).filter fun k => !(L k)) = [] := List.eq_nil_of_length_eq_zero (by omega)
    have hall : ∀ j, j < R.n → L j = true := by
      intro j hj
      have := List.filter_eq_nil_iff.1 hnil j (by simpa using hj)
      simpa using this
    simp only [wpAny]
    refine ⟨?_, ?_⟩
    · unfold Region.ready
      rw [List.filter_eq_nil_iff]
      intro j hj
      have hj : j < R.n := by have := List.mem_range.1 hj; simpa [Road.n] using this
      simp [Array.getD_eq_getD_getElem?, hl j hj, hall j hj]
    · obtain ⟨h1, h2⟩ := R.inv_end hcall I hall
      exact hQ a w ρ h1 h2
  | succ fuel ih =>
    intro listed L a ρ w I hsz hl hc
    simp only [wpAny]
    refine ⟨fun hr => ?_, fun j hj => ?_⟩
    · obtain ⟨h1, h2⟩ := R.inv_end hcall I (R.all_of_ready hl hr)
      exact hQ a w ρ h1 h2
    · unfold Region.ready at hj
      rw [List.mem_filter] at hj
      obtain ⟨hj1, hj2⟩ := hj
      have hjn : j < R.n := by have := List.mem_range.1 hj1; simpa [Road.n] using this
      obtain ⟨o, _, ho, _⟩ := R.opAt hjn
      have e2 : R.ops.toArray[j]? = some o := by simpa using ho
      rw [e2] at hj2
      simp only [Array.getD_eq_getD_getElem?, hl j hjn, Option.getD_some, Option.map_some, Bool.and_eq_true, Bool.not_eq_true'] at hj2
      obtain ⟨hL, hr⟩ := hj2
      have hready : R.Ready L j := by
        intro o' ho' e he hb
        rw [ho] at ho'; cases ho'
        rw [Array.all_eq_true'] at hr
        have := hr e (by simpa using he)
        rw [hb] at this
        have hlt := R.back j o ho e he hb
        simpa [Array.getD_eq_getD_getElem?, hl e.on (by omega)] using this
      refine R.step hcall I hjn hL hready fun a' ρ' w' I' => ?_
      refine ih _ (add L j) a' ρ' w' I' (by simpa using hsz) ?_ ?_
      · intro k hk
        by_cases hkj : k = j
        · subst hkj
          rw [add_same]
          simp [hsz, hk]
        · rw [add_other hkj, Array.getElem?_setIfInBounds_ne (fun h => hkj h.symm)]
          exact hl k hk
      · have := (count_add hL (List.range R.n)).2 (by simpa using hjn)
        omega
end Road
theorem runDraw_ok [Rho] {P : Program} {call : CallF} (hcall : CallOk P call) {N : Nat} {ops : Array Oper} {l : List AOper} {bef : List Nat} {t t' : Tmps} {σ σ' : AHeap} {ks : List AKind} (hc : compOps P N ops.toList ops.toList = some l) (ho : orderOk ops.toList l bef = true)
    (hm : P.follows .mixedOrders = true) (hr : runDraw call l t σ = some (t', σ', ks)) (hd : drawOk (risks (marks l bef) 0) ks = true) {ρ : Ren} {w : World} {a : Act} (hs : Sim ρ σ w) (ht : TR ρ N t a)
    {Q : Exit → Act → World → Prop} (hQ : ∀ a' w' ρ', TR ρ' N t' a' → Post ρ σ w ρ' σ' w' → Q .normal a' w') (id : Nat) : (Code.region id ops true).wp P Q a w := by
  obtain ⟨R, e1, rfl, rfl, rfl, rfl⟩ := road_of hc ho hr hd
  refine wp_region_any hm ?_
  have hn : R.n = ops.size := by show R.ops.length = _; rw [e1]; simp
  have e : ops = R.ops.toArray := by rw [e1]
  rw [e]
  have hs' : Sim ρ (R.S 0) { w with drawn := w.drawn + 1 } := sim_drew (w := w) rfl hs
  have := R.any_ok hcall (ρ0 := ρ) (w0 := { w with drawn := w.drawn + 1 }) (Q := Q) (fun a' w' ρ' h1 h2 => hQ a' w' ρ' h1 ⟨h2.sim, h2.ren, h2.new, h2.size, h2.frame, h2.io⟩)
    R.ops.toArray.size (Array.replicate R.ops.toArray.size false) (fun _ => false) a ρ _ (R.inv_init hcall hs' ht) (by simp [Road.n]) (fun j hj => by
      have : j < R.ops.length := hj
      simp [this]) (by
      refine Nat.le_trans (List.length_filter_le _ _) ?_
      simp [Road.n])
  exact this
end Go.Hai
namespace Go.Hai
open Go
def exOf : AEx → Exit
  | .normal => .normal
  | .exit i => .exit i
  | .ret => .ret
theorem ext_iter [Rho] {body : Tmps → AHeap → Option (AEx × Tmps × AHeap)} (hb : ∀ t σ e t' σ', body t σ = some (e, t', σ') → Ext σ σ') : ∀ (n : Nat) (t : Tmps) (σ : AHeap) (e : AEx) (t' : Tmps) (σ' : AHeap), iter body n t σ = some (e, t', σ') → Ext σ σ' := by
  intro n
  induction n with
  | zero => intro t σ e t' σ' h; cases h
  | succ n ih =>
    intro t σ e t' σ' h
    simp only [iter] at h
    split at h
    · next t1 σ1 h1 => exact (hb _ _ _ _ _ h1).trans (ih _ _ _ _ _ h)
    · next i t1 σ1 h1 => cases h; exact hb _ _ _ _ _ h1
    · next t1 σ1 h1 => cases h; exact hb _ _ _ _ _ h1
    · cases h
theorem ext_acode [Rho] {P : Program} {call : CallF} (hcall : CallOk P call) {fuel : Nat} : ∀ (c : ACode) (t : Tmps) (σ : AHeap) (e : AEx) (t' : Tmps) (σ' : AHeap), acode call fuel c t σ = some (e, t', σ') → Ext σ σ' := by
  intro c
  induction c with
  | skip => intro t σ e t' σ' h; simp only [acode] at h; cases h; exact Ext.refl _
  | reg ops =>
    intro t σ e t' σ' h
    simp only [acode] at h
    split at h
    · next h1 => cases h; exact ext_runOps hcall _ _ _ _ _ h1
    · cases h
  | drw ops bef =>
    intro t σ e t' σ' h
    simp only [acode] at h
    split at h
    · next h1 =>
      split at h
      · cases h; exact ext_runDraw hcall h1
      · cases h
    · cases h
  | seq a b iha ihb =>
    intro t σ e t' σ' h
    simp only [acode] at h
    split at h
    · next h1 => exact (iha _ _ _ _ _ h1).trans (ihb _ _ _ _ _ h)
    · next h1 => cases h; exact iha _ _ _ _ _ h1
    · next h1 => cases h; exact iha _ _ _ _ _ h1
    · cases h
  | cond c a b iha ihb =>
    intro t σ e t' σ' h
    simp only [acode] at h
    split at h
    · exact iha _ _ _ _ _ h
    · exact ihb _ _ _ _ _ h
    · cases h
  | block id a ih =>
    intro t σ e t' σ' h
    simp only [acode] at h
    split at h
    · next h1 => split at h <;> (cases h; exact ih _ _ _ _ _ h1)
    · next h1 => cases h; exact ih _ _ _ _ _ h1
    · next h1 => cases h; exact ih _ _ _ _ _ h1
    · cases h
  | loop a ih => intro t σ e t' σ' h; exact ext_iter ih fuel t σ e t' σ' h
  | exit i => intro t σ e t' σ' h; simp only [acode] at h; cases h; exact Ext.refl _
  | ret => intro t σ e t' σ' h; simp only [acode] at h; cases h; exact Ext.refl _
  | bad => intro t σ e t' σ' h; cases h
def CodeOk [Rho] (P : Program) (N : Nat) (c : Code) (run : Tmps → AHeap → Option (AEx × Tmps × AHeap)) : Prop :=
  ∀ (t : Tmps) (σ : AHeap) (a : Act) (ρ : Ren) (w : World) (e : AEx) (t' : Tmps) (σ' : AHeap) (Q : Exit → Act → World → Prop), run t σ = some (e, t', σ') → Sim ρ σ w → TR ρ N t a →
    (∀ a' w' ρ', TR ρ' N t' a' → Post ρ σ w ρ' σ' w' → Q (exOf e) a' w') → c.wp P Q a w
theorem iter_ok [Rho] {P : Program} {N : Nat} {c : Code} {body : Tmps → AHeap → Option (AEx × Tmps × AHeap)} (hb : CodeOk P N c body) (he : ∀ t σ e t' σ', body t σ = some (e, t', σ') → Ext σ σ') {Q : Exit → Act → World → Prop} :
    ∀ (n : Nat) (t : Tmps) (σ : AHeap) (a : Act) (ρ : Ren) (w : World) (e : AEx) (t' : Tmps) (σ' : AHeap), iter body n t σ = some (e, t', σ') → Sim ρ σ w → TR ρ N t a →
    (∀ a' w' ρ', TR ρ' N t' a' → Post ρ σ w ρ' σ' w' → Q (exOf e) a' w') → Code.rounds P c Q n a w := by
  intro n
  induction n with
  | zero => intro t σ a ρ w e t' σ' h; cases h
  | succ n ih =>
    intro t σ a ρ w e t' σ' h hs ht hQ
    rw [rounds_succ]
    simp only [iter] at h
    split at h
    · next t1 σ1 h1 =>
      refine hb t σ a ρ w _ _ _ _ h1 hs ht fun a1 w1 ρ1 ht1 hp1 => ?_
      exact ih _ _ _ _ _ _ _ _ h hp1.sim ht1 fun a2 w2 ρ2 ht2 hp2 => hQ a2 w2 ρ2 ht2 (hp1.trans hs (he _ _ _ _ _ h1) (ext_iter he _ _ _ _ _ _ h) hp2)
    · next i t1 σ1 h1 => cases h; exact hb t σ a ρ w _ _ _ _ h1 hs ht hQ
    · next t1 σ1 h1 => cases h; exact hb t σ a ρ w _ _ _ _ h1 hs ht hQ
    · cases h
theorem acode_ok [Rho] {P : Program} {call : CallF} (hcall : CallOk P call) {fuel N : Nat} : ∀ (c : Code) (ac : ACode), compCode P N c = some ac → CodeOk P N c (acode call fuel ac) := by
  intro c
  induction c with
  | skip =>
    intro ac hc t σ a ρ w e t' σ' Q h hs ht hQ
    simp only [compCode] at hc; cases hc
    simp only [acode] at h; cases h
    exact wp_skip (hQ a w ρ ht (.refl hs))
  | region id ops draw =>
    intro ac hc t σ a ρ w e t' σ' Q h hs ht hQ
    cases draw with
    | false =>
      simp only [compCode] at hc
      split at hc
      · next l hl =>
        cases hc
        simp only [acode] at h
        split at h
        · next t1 σ1 h1 =>
          cases h
          have := runOps_ok hcall ops.toList l t σ a ρ w _ _ hl h1 hs ht hQ
          exact wp_region_list (by simpa using this)
        · cases h
      · cases hc
    | true =>
      simp only [compCode] at hc
      split at hc
      · next l hl =>
        obtain ⟨hok, hc⟩ := chk_some hc
        simp only [Bool.and_eq_true] at hok
        cases hc
        simp only [acode] at h
        split at h
        · next t1 σ1 ks h1 =>
          split at h
          · next hd => cases h; exact runDraw_ok hcall hl hok.1 hok.2 h1 hd hs ht hQ id
          · cases h
        · cases h
      · cases hc
  | seq x y ihx ihy =>
    intro ac hc t σ a ρ w e t' σ' Q h hs ht hQ
    simp only [compCode] at hc
    split at hc
    · next ax ay hx hy =>
      cases hc
      simp only [acode] at h
      refine wp_seq ?_
      split at h
      · next t1 σ1 h1 =>
        refine ihx _ hx t σ a ρ w _ _ _ _ h1 hs ht fun a1 w1 ρ1 ht1 hp1 => ?_
        exact ihy _ hy _ _ _ _ _ _ _ _ _ h hp1.sim ht1 fun a2 w2 ρ2 ht2 hp2 => hQ a2 w2 ρ2 ht2 (hp1.trans hs (ext_acode hcall _ _ _ _ _ _ h1) (ext_acode hcall _ _ _ _ _ _ h) hp2)
      · next i t1 σ1 h1 => cases h; exact ihx _ hx t σ a ρ w _ _ _ _ h1 hs ht hQ
      · next t1 σ1 h1 => cases h; exact ihx _ hx t σ a ρ w _ _ _ _ h1 hs ht hQ
      · cases h
    · cases hc
  | cond x y z ihy ihz =>
    intro ac hc t σ a ρ w e t' σ' Q h hs ht hQ
    simp only [compCode] at hc
    split at hc
    · next ay az hy hz =>
      obtain ⟨hx, hc⟩ := chk_some hc
      cases hc
      simp only [acode] at h
      have hev := ht.ev x hx
      split at h
      · next hb => rw [hb] at hev; exact wp_cond_true (flat_eq rfl hev) (ihy _ hy t σ a ρ w _ _ _ _ h hs ht hQ)
      · next hb => rw [hb] at hev; exact wp_cond_false (flat_eq rfl hev) (ihz _ hz t σ a ρ w _ _ _ _ h hs ht hQ)
      · cases h
    · cases hc
  | block id x ih =>
    intro ac hc t σ a ρ w e t' σ' Q h hs ht hQ
    simp only [compCode] at hc
    split at hc
    · next ax hx =>
      cases hc
      simp only [acode] at h
      refine wp_block ?_
      split at h
      · next i t1 σ1 h1 =>
        refine ih _ hx t σ a ρ w _ _ _ _ h1 hs ht fun a1 w1 ρ1 ht1 hp1 => ?_
        split at h
        · next hi =>
          cases h
          have := Nat.eq_of_beq_eq_true hi
          subst this
          simp only [exOf, Exit.inBlock, if_true]
          exact hQ a1 w1 ρ1 ht1 hp1
        · next hi =>
          cases h
          have : ¬ i = id := fun e => hi (by rw [e]; exact Nat.beq_refl _)
          simp only [exOf, Exit.inBlock, if_neg this]
          exact hQ a1 w1 ρ1 ht1 hp1
      · next t1 σ1 h1 => cases h; exact ih _ hx t σ a ρ w _ _ _ _ h1 hs ht hQ
      · next t1 σ1 h1 => cases h; exact ih _ hx t σ a ρ w _ _ _ _ h1 hs ht hQ
      · cases h
    · cases hc
  | loop x ih =>
    intro ac hc t σ a ρ w e t' σ' Q h hs ht hQ
    simp only [compCode] at hc
    split at hc
    · next ax hx =>
      cases hc
      simp only [acode] at h
      exact wp_loop_rounds fuel (iter_ok (ih _ hx) (ext_acode hcall _) fuel t σ a ρ w _ _ _ h hs ht hQ)
    · cases hc
  | exit i =>
    intro ac hc t σ a ρ w e t' σ' Q h hs ht hQ
    simp only [compCode] at hc; cases hc
    simp only [acode] at h; cases h
    exact wp_exit (hQ a w ρ ht (.refl hs))
  | ret =>
    intro ac hc t σ a ρ w e t' σ' Q h hs ht hQ
    simp only [compCode] at hc; cases hc
    simp only [acode] at h; cases h
    exact wp_ret (hQ a w ρ ht (.refl hs))
  | _ =>
    intro ac hc t σ a ρ w e t' σ' Q h hs ht hQ
    simp only [compCode] at hc; cases hc
    simp only [acode] at h; cases h
def resSem (tmps : Array Value) : ResultVar → Sem Value
  | .tmp t => pure (tmps.getD t undef)
  | .cell a t => do loadVar t (← asAddr (tmps.getD a undef))
theorem resAll_ok [Rho] {P : Program} {N : Nat} {t : Tmps} {σ : AHeap} {a : Act} {ρ : Ren} {w : World} (hs : Sim ρ σ w) (ht : TR ρ N t a) : ∀ (rs : List ResultVar) (ars : List ARes) (vs : List Value), compRes P rs = some ars → resAll t σ ars = some vs →
    ∃ us, (rs.mapM (resSem a.tmps)).run P w = .ok us w ∧ VRs ρ vs us := by
  intro rs
  induction rs with
  | nil =>
    intro ars vs hc h
    simp only [compRes] at hc; cases hc
    simp only [resAll] at h; cases h
    exact ⟨[], by simp, .nil⟩
  | cons r rs ih =>
    intro ars vs hc h
    cases r with
    | tmp x =>
      simp only [compRes] at hc
      split at hc
      · next l hl =>
        cases hc
        simp only [resAll, resOne] at h
        split at h
        · next vs' hvs =>
          cases h
          obtain ⟨us, h1, h2⟩ := ih _ _ hl hvs
          exact ⟨_ :: us, by simp [resSem, h1], .cons (ht.val x) h2⟩
        · cases h
      · cases hc
    | cell x ty =>
      simp only [compRes] at hc
      split at hc
      · next l g n hl hg hn =>
        obtain ⟨h1, hc⟩ := chk_some hc
        cases hc
        simp only [resAll] at h
        split at h
        · next v hv =>
          split at h
          · next vs' hvs =>
            cases h
            obtain ⟨us, h3, h4⟩ := ih _ _ hl hvs
            simp only [resOne] at hv
            split at hv
            · next b o sp hp =>
              split at hv
              · next cs hcs =>
                have hvx := ht.val x
                rw [hp] at hvx
                obtain ⟨L, hL, he⟩ := hvx.ptr_inv
                obtain ⟨u, r1, r2, r3⟩ := run_loadVar hs hg hn h1 hL hcs
                have hu : VR ρ v u := by
                  split at hv
                  · next hg' => cases hv; exact r2 hg'
                  · next hg' =>
                    obtain ⟨v', e1, e2⟩ := r3 (by simpa using hg')
                    subst e1
                    simp at hv; subst hv; exact e2
                exact ⟨u :: us, by simp [resSem, he, asAddr, r1, h3], .cons hu h4⟩
              · cases hv
            · cases hv
          · cases h
        · cases h
      · cases hc
theorem results_eq (fn : Func) (tmps : Array Value) : results fn tmps = (do let vs ← fn.results.toList.mapM (resSem tmps); pure (if h : vs.toArray.size = 1 then vs.toArray[0] else .tuple vs.toArray)) := by
  have e : results fn tmps = (do let vs ← fn.results.mapM (resSem tmps); pure (if h : vs.size = 1 then vs[0] else .tuple vs)) := by
    unfold results
    congr 1
  rw [e, Array.mapM_eq_mapM_toList]
  simp
theorem acall_ok [Rho] [Frn] {P : Program} {E : FuncId → Option AFn} {fuel : Nat} (hE : ∀ f af, E f = some af → ∃ fn, P.funcs[f]? = some fn ∧ compFn P fn = some af) (hF : CallOk P Frn.val) : ∀ d, CallOk P (acall E fuel d) := by
  intro d
  induction d with
  | zero => intro f args r σ σ' h; cases h
  | succ d ih =>
    intro f args r σ σ' h
    simp only [acall] at h
    split at h
    · exact hF f args r σ σ' h
    next af haf =>
    split at h
    case isFalse => cases h
    next hlen =>
    have hlen := Nat.le_of_ble_eq_true hlen
    obtain ⟨fn, hf, hcomp⟩ := hE f af haf
    unfold compFn at hcomp
    split at hcomp
    · cases hcomp
    next c hbody =>
    split at hcomp
    case h_2 => cases hcomp
    next ac ars hcode hres =>
    obtain ⟨hname, hcomp⟩ := chk_some hcomp
    simp only [Option.some.injEq] at hcomp
    subst hcomp
    simp only at h hlen
    -- both ways of coming home
    have fin : ∀ (e : AEx) (t1 : Tmps) (σ1 : AHeap) (vs : List Value), (e = .normal ∨ e = .ret) → acode (acall E fuel d) fuel ac (Tr.of args) { σ with low := σ.n } = some (e, t1, σ1) → resAll t1 σ1 ars = some vs →
        (r, σ') = (if (Nat.beq σ1.low σ.n && Hai.flat (one vs)) = true then (one vs, σ) else (one vs, { σ1 with low := minN σ.low σ1.low })) →
        Ext σ σ' ∧ (∃ fn, P.funcs[f]? = some fn ∧ fn.body.isNone = false ∧ (fn.name == "runtime.NumGoroutine") = false) ∧
        ∀ (ρ : Ren) (w : World) (us : List Value), Sim ρ σ w → VRs ρ args us → Calls P f us.toArray w fun e w' => ∃ u ρ', e = .returned u ∧ VR ρ' r u ∧ Post ρ σ w ρ' σ' w' := by
      intro e t1 σ1 vs he hrun hvs hr
      have hext := ext_acode ih _ _ _ _ _ _ hrun
      refine ⟨?_, ⟨fn, hf, by simp [hbody], by simpa using hname⟩, ?_⟩
      · split at hr
        · cases hr; exact Ext.refl _
        · cases hr; exact scope_ext hext
      · intro ρ w us hs hargs
        refine calls_of_wp hf hbody ?_
        have hs' : Sim ρ { σ with low := σ.n } w := sim_low.2 hs
        have ht : TR ρ fn.ntmps (Tr.of args) { tmps := us.toArray ++ Array.replicate (fn.ntmps - us.toArray.size) undef, defers := [] } := by
          have hl := hargs.length
          refine ⟨by simp; omega, rfl, fun i => ?_⟩
          have e1 : tget (Tr.of args) i = (args[i]?).getD undef := by
            unfold tget
            rw [Tr.get_of]
            cases args[i]? <;> rfl
          rw [e1]
          simp only [Array.getD_eq_getD_getElem?]
          by_cases hi : i < args.length
          · obtain ⟨u, hu, hv⟩ := hargs.get1 (List.getElem?_eq_getElem hi)
            rw [List.getElem?_eq_getElem hi]
            rw [Array.getElem?_append_left (by simp; omega)]
            simp only [List.getElem?_toArray, hu, Option.getD_some]
            exact hv
          · have : (us.toArray ++ Array.replicate (fn.ntmps - us.toArray.size) undef)[i]?.getD undef = undef := by
              rw [Array.getElem?_append_right (by simp; omega)]
              cases hq : (Array.replicate (fn.ntmps - us.toArray.size) undef)[i - us.toArray.size]? with
              | none => rfl
              | some x =>
                rw [Array.getElem?_replicate] at hq
                split at hq
                · cases hq; rfl
                · cases hq
            rw [this, List.getElem?_eq_none (by omega)]
            exact .flat rfl
        refine acode_ok ih c ac hcode _ _ _ ρ w e t1 σ1 _ hrun hs' ht fun a1 w1 ρ1 ht1 hp1 => ?_
        obtain ⟨ws, h1, h2⟩ := resAll_ok hp1.sim ht1 fn.results.toList ars vs hres hvs
        have hval : ∃ u, (results fn a1.tmps).run P w1 = .ok u w1 ∧ VR ρ1 (one vs) u := by
          rw [results_eq]
          simp only [Sem.run_bind, h1, Result.andThen_ok, Sem.run_pure]
          refine ⟨_, rfl, ?_⟩
          cases h2 with
          | nil => exact .flat rfl
          | cons hv hs2 =>
            cases hs2 with
            | nil => exact hv
            | cons hv' hs3 =>
              simp only [List.size_toArray, List.length_cons, one]
              exact VR.of_tup (.cons hv (.cons hv' hs3))
        obtain ⟨u, hu1, hu2⟩ := hval
        have hpost : ∃ ρ', VR ρ' r u ∧ Post ρ σ w ρ' σ' w1 := by
          split at hr
          · next hq =>
            simp only [Bool.and_eq_true] at hq
            have hlow := Nat.eq_of_beq_eq_true hq.1
            cases hr
            have hnot : ∀ B, ¬ Touch ρ { σ with low := σ.n } σ1.low B := by
              rintro B ⟨b, M, q1, _, q3, _⟩
              have := hs.dom b M q1
              omega
            have hfr : ∀ B, B < w.heap.size → w1.heap[B]? = w.heap[B]? := fun B hB => hp1.frame B hB (hnot B)
            have hue : u = one vs := flat_eq hq.2 hu2
            rw [hue]
            exact ⟨ρ, .flat hq.2, ⟨sim_still hs hp1.size hfr, Ren.le_refl _, fun b L h => .inl h, hp1.size, fun B hB _ => hfr B hB, hp1.io⟩⟩
          · cases hr
            refine ⟨ρ1, hu2, ⟨sim_low.2 hp1.sim, hp1.ren, fun b L h => (hp1.new b L h).imp id fun ⟨q1, q2⟩ => ⟨q1, q2.imp id fun q => q.low (minN_le_right _ _)⟩, hp1.size, fun B hB ht => hp1.frame B hB fun q => ht (q.low (minN_le_right _ _)), hp1.io⟩⟩
        obtain ⟨ρ', g1, g2⟩ := hpost
        rcases he with rfl | rfl
        · exact ⟨ht1.defers, u, hu1, u, ρ', rfl, g1, g2⟩
        · exact ⟨ht1.defers, u, hu1, u, ρ', rfl, g1, g2⟩
    split at h
    · cases h
    · next e1 t1 σ1 hne hrun =>
      split at h
      · next vs hvs =>
        simp only [Option.some.injEq] at h
        cases e1 with
        | normal => exact fin .normal t1 σ1 vs (.inl rfl) hrun hvs h.symm
        | ret => exact fin .ret t1 σ1 vs (.inr rfl) hrun hvs h.symm
        | exit i => exact absurd rfl (hne i)
      · cases h
    · cases h
end Go.Hai
namespace Go.Hai
open Go
theorem Tr.insP_same {α : Type} (x y : α) : ∀ (p : Pth) (t : Tr α), Tr.insP y p (Tr.insP x p t) = Tr.insP y p t := by
  intro p
  induction p with
  | z => intro t; cases t <;> rfl
  | l p ih => intro t; cases t with
    | tip => simp only [Tr.insP, ih]
    | node v l r => simp only [Tr.insP, ih]
  | r p ih => intro t; cases t with
    | tip => simp only [Tr.insP, ih]
    | node v l r => simp only [Tr.insP, ih]
theorem Tr.insP_comm {α : Type} (x y : α) : ∀ (p q : Pth) (t : Tr α), p ≠ q → Tr.insP y q (Tr.insP x p t) = Tr.insP x p (Tr.insP y q t) := by
  intro p
  induction p with
  | z => intro q t h; cases q with
    | z => exact absurd rfl h
    | _ => cases t <;> simp only [Tr.insP]
  | l p ih => intro q t h; cases q with
    | l q =>
      have : p ≠ q := fun e => h (by rw [e])
      cases t <;> simp only [Tr.insP, ih _ _ this]
    | _ => cases t <;> simp only [Tr.insP]
  | r p ih => intro q t h; cases q with
    | r q =>
      have : p ≠ q := fun e => h (by rw [e])
      cases t <;> simp only [Tr.insP, ih _ _ this]
    | _ => cases t <;> simp only [Tr.insP]
theorem Tr.ins_same {α : Type} (t : Tr α) (i : Nat) (x y : α) : (t.ins i x).ins i y = t.ins i y := Tr.insP_same _ _ _ _
theorem Tr.ins_comm {α : Type} (t : Tr α) {i j : Nat} (x y : α) (h : i ≠ j) : (t.ins i x).ins j y = (t.ins j y).ins i x := Tr.insP_comm _ _ _ _ _ fun e => h (pth_inj e)
theorem Tr.put_ins_lt {α : Type} (y : α) : ∀ (l : List α) (t : Tr α) (i j : Nat), j < i → (t.put i l).ins j y = (t.ins j y).put i l := by
  intro l
  induction l with
  | nil => intro t i j _; rfl
  | cons x l ih =>
    intro t i j h
    simp only [Tr.put]
    rw [ih _ _ _ (by omega), Tr.ins_comm _ _ _ (by omega)]
theorem Tr.put_ins {α : Type} (y : α) : ∀ (l : List α) (t : Tr α) (i k : Nat), k < l.length → (t.put i l).ins (i + k) y = t.put i (l.set k y) := by
  intro l
  induction l with
  | nil => intro t i k h; simp at h
  | cons x l ih =>
    intro t i k h
    cases k with
    | zero =>
      simp only [Tr.put, List.set_cons_zero, Nat.add_zero]
      rw [Tr.put_ins_lt _ _ _ _ _ (by omega), Tr.ins_same]
    | succ k =>
      simp only [Tr.put, List.set_cons_succ]
      have := ih (t.ins i x) (i + 1) k (by simpa using h)
      rw [show i + (k + 1) = i + 1 + k by omega, this]
theorem Tr.put_snoc {α : Type} (y : α) : ∀ (l : List α) (t : Tr α) (i : Nat), (t.put i l).ins (i + l.length) y = t.put i (l ++ [y]) := by
  intro l
  induction l with
  | nil => intro t i; rfl
  | cons x l ih =>
    intro t i
    simp only [Tr.put, List.cons_append, List.length_cons]
    rw [show i + (l.length + 1) = i + 1 + l.length by omega, ih]
def setAll : List Value → Nat → List Value → List Value
  | l, _, [] => l
  | l, o, v :: vs => setAll (l.set o v) (o + 1) vs
theorem setAll_length : ∀ (vs l : List Value) (o : Nat), (setAll l o vs).length = l.length := by
  intro vs
  induction vs with
  | nil => intro l o; rfl
  | cons v vs ih => intro l o; simp only [setAll, ih, List.length_set]
theorem Tr.of_put : ∀ (vs l : List Value) (o : Nat), o + vs.length ≤ l.length → (Tr.of l).put o vs = Tr.of (setAll l o vs) := by
  intro vs
  induction vs with
  | nil => intro l o _; rfl
  | cons v vs ih =>
    intro l o h
    simp only [List.length_cons] at h
    simp only [Tr.put, setAll]
    have := Tr.put_ins v l Tr.tip 0 o (by omega)
    rw [Nat.zero_add] at this
    rw [← ih (l.set o v) (o + 1) (by simp; omega)]
    unfold Tr.of
    rw [this]
theorem cellsFrom_of : ∀ (n : Nat) (l : List Value) (o : Nat), o + n ≤ l.length → cellsFrom (Tr.of l) o n = some ((l.drop o).take n) := by
  intro n
  induction n with
  | zero => intro l o h; simp [cellsFrom]
  | succ n ih =>
    intro l o h
    unfold cellsFrom
    have ho : o < l.length := by omega
    rw [Tr.get_of, List.getElem?_eq_getElem ho, ih l (o + 1) (by omega)]
    simp only
    rw [List.drop_eq_getElem_cons ho, List.take_succ_cons]
def rowOf (r : List Value × Nat) : AObj := .row (Tr.of r.1) r.1.length r.2 true true none
def AHeap.grow (σ : AHeap) (L : List (List Value × Nat)) : AHeap := { t := σ.t.put σ.n (L.map rowOf), n := σ.n + L.length, nf := σ.nf, dead := σ.dead, low := σ.low }
theorem grow_nil (σ : AHeap) : σ.grow [] = σ := by cases σ; rfl
theorem grow_n (σ : AHeap) (L : List (List Value × Nat)) : (σ.grow L).n = σ.n + L.length := rfl
theorem grow_low (σ : AHeap) (L : List (List Value × Nat)) : (σ.grow L).low = σ.low := rfl
theorem grow_dead (σ : AHeap) (L : List (List Value × Nat)) : (σ.grow L).dead = σ.dead := rfl
theorem grow_old (σ : AHeap) (L : List (List Value × Nat)) {b : Nat} (h : b < σ.n) : (σ.grow L).t.get b = σ.t.get b := by
  show (σ.t.put σ.n _).get b = _
  rw [Tr.get_put, if_neg (by omega)]
theorem grow_new (σ : AHeap) (L : List (List Value × Nat)) (k : Nat) {r : List Value × Nat} (h : L[k]? = some r) : (σ.grow L).t.get (σ.n + k) = some (rowOf r) := by
  have hk : k < L.length := (List.getElem?_eq_some_iff.1 h).1
  show (σ.t.put σ.n _).get _ = _
  rw [Tr.get_put, if_pos (by simp; omega)]
  simp [h]
theorem newRow_grow (σ : AHeap) (L : List (List Value × Nat)) (cs : List Value) (es : Nat) : (σ.grow L).newRow cs es = σ.grow (L ++ [(cs, es)]) := by
  unfold AHeap.newRow AHeap.push AHeap.grow
  have := Tr.put_snoc (AObj.row (Tr.of cs) cs.length es true true none) (L.map rowOf) σ.t σ.n
  simp only [List.length_map] at this
  simp only [this, List.map_append, List.length_append, List.map_cons, List.map_nil, List.length_cons, List.length_nil, rowOf]
  rfl
theorem load_new (σ : AHeap) (L : List (List Value × Nat)) (k o n : Nat) {r : List Value × Nat} (h : L[k]? = some r) (hl : o + n ≤ r.1.length) : (σ.grow L).loadN (σ.n + k) o n = some ((r.1.drop o).take n) := by
  unfold AHeap.loadN AHeap.row?
  rw [grow_new σ L k h]
  simp only [rowOf, AHeap.alive, if_true]
  rw [if_pos (Nat.ble_eq_true_of_le hl), cellsFrom_of _ _ _ hl]
theorem load_old (σ : AHeap) (L : List (List Value × Nat)) {b : Nat} (o n : Nat) (h : b < σ.n) : (σ.grow L).loadN b o n = σ.loadN b o n := by
  unfold AHeap.loadN AHeap.row?
  rw [grow_old σ L h]
  rfl
theorem store_new (σ : AHeap) (L : List (List Value × Nat)) (k o : Nat) (vs : List Value) {r : List Value × Nat} (hlow : σ.low ≤ σ.n) (h : L[k]? = some r) (hl : o + vs.length ≤ r.1.length) (hc : vs.all isCell = true) :
    (σ.grow L).storeN (σ.n + k) o vs = some (σ.grow (L.set k (setAll r.1 o vs, r.2))) := by
  have hk : k < L.length := (List.getElem?_eq_some_iff.1 h).1
  unfold AHeap.storeN
  rw [grow_new σ L k h]
  simp only [rowOf, AHeap.alive, Bool.true_and]
  rw [if_pos (by rw [Nat.ble_eq_true_of_le hl, hc]; rfl)]
  unfold AHeap.wrote
  rw [Tr.of_put vs r.1 o hl]
  have := Tr.put_ins (rowOf (setAll r.1 o vs, r.2)) (L.map rowOf) σ.t σ.n k (by simpa using hk)
  simp only [rowOf, setAll_length] at this
  have e2 : lowOf none (σ.grow L).low (σ.n + k) = σ.low := by
    show minN σ.low (σ.n + k) = _
    unfold minN
    rw [if_pos (Nat.ble_eq_true_of_le (by omega))]
  rw [e2]
  show some (AHeap.mk ((σ.t.put σ.n (L.map rowOf)).ins (σ.n + k) _) _ _ _ _) = _
  rw [this]
  simp only [AHeap.grow, kill, List.length_set]
  rw [List.map_set]
  simp only [rowOf, setAll_length]
theorem tget_of (l : List Value) (j : Nat) : tget (Tr.of l) j = l[j]?.getD undef := by
  unfold tget
  rw [Tr.get_of]
  cases l[j]? <;> rfl
def Ends (x : Option (AEx × Tmps × AHeap)) (Q : AEx → Tmps → AHeap → Prop) : Prop := match x with | some p => Q p.1 p.2.1 p.2.2 | none => False
def EndsR (x : Option (Tmps × AHeap)) (Q : Tmps → AHeap → Prop) : Prop := match x with | some p => Q p.1 p.2 | none => False
def EndsO (x : Option (Value × AHeap)) (Q : Value → AHeap → Prop) : Prop := match x with | some p => Q p.1 p.2 | none => False
theorem endsO_some (v : Value) (σ : AHeap) (Q : Value → AHeap → Prop) : EndsO (some (v, σ)) Q = Q v σ := rfl
theorem Ends.mono {x : Option (AEx × Tmps × AHeap)} {Q R : AEx → Tmps → AHeap → Prop} (h : Ends x Q) (hi : ∀ e t σ, Q e t σ → R e t σ) : Ends x R := by
  cases x with
  | none => exact h
  | some p => exact hi _ _ _ h
def seqQ (call : CallF) (fuel : Nat) (b : ACode) (Q : AEx → Tmps → AHeap → Prop) : AEx → Tmps → AHeap → Prop
  | .normal, t, σ => Ends (acode call fuel b t σ) Q
  | .exit i, t, σ => Q (.exit i) t σ
  | .ret, t, σ => Q .ret t σ
def blockQ (id : Nat) (Q : AEx → Tmps → AHeap → Prop) : AEx → Tmps → AHeap → Prop
  | .normal, t, σ => Q .normal t σ
  | .exit i, t, σ => if i = id then Q .normal t σ else Q (.exit i) t σ
  | .ret, t, σ => Q .ret t σ
section
variable {call : CallF} {fuel : Nat} {t : Tmps} {σ : AHeap} {Q : AEx → Tmps → AHeap → Prop}
theorem ends_skip : Ends (acode call fuel .skip t σ) Q = Q .normal t σ := rfl
theorem ends_ret : Ends (acode call fuel .ret t σ) Q = Q .ret t σ := rfl
theorem ends_exit {i : Nat} : Ends (acode call fuel (.exit i) t σ) Q = Q (.exit i) t σ := rfl
theorem ends_seq {a b : ACode} : Ends (acode call fuel (.seq a b) t σ) Q = Ends (acode call fuel a t σ) (seqQ call fuel b Q) := by
  simp only [acode]
  cases acode call fuel a t σ with
  | none => rfl
  | some p => obtain ⟨e, t', σ'⟩ := p; cases e <;> rfl
theorem ends_block {i : Nat} {a : ACode} : Ends (acode call fuel (.block i a) t σ) Q = Ends (acode call fuel a t σ) (blockQ i Q) := by
  simp only [acode]
  cases acode call fuel a t σ with
  | none => rfl
  | some p =>
    obtain ⟨e, t', σ'⟩ := p
    cases e with
    | exit j =>
      by_cases h : j = i
      · subst h; simp [Ends, blockQ]
      · simp [Ends, blockQ, h, nbeq h]
    | _ => rfl
theorem ends_reg {ops : List AOper} : Ends (acode call fuel (.reg ops) t σ) Q = EndsR (runOps call ops t σ) (Q .normal) := by
  simp only [acode]
  cases runOps call ops t σ <;> rfl
theorem seqQ_normal {b : ACode} : seqQ call fuel b Q .normal t σ = Ends (acode call fuel b t σ) Q := rfl
theorem seqQ_exit {b : ACode} {i : Nat} : seqQ call fuel b Q (.exit i) t σ = Q (.exit i) t σ := rfl
theorem seqQ_ret {b : ACode} : seqQ call fuel b Q .ret t σ = Q .ret t σ := rfl
theorem blockQ_normal {i : Nat} : blockQ i Q .normal t σ = Q .normal t σ := rfl
theorem blockQ_exit {i j : Nat} : blockQ i Q (.exit j) t σ = if j = i then Q .normal t σ else Q (.exit j) t σ := rfl
theorem blockQ_ret {i : Nat} : blockQ i Q .ret t σ = Q .ret t σ := rfl
end
theorem run_nil {call : CallF} {t : Tmps} {σ : AHeap} {Q : Tmps → AHeap → Prop} : EndsR (runOps call [] t σ) Q = Q t σ := rfl
theorem run_one {call : CallF} {t : Tmps} {σ : AHeap} {Q : Tmps → AHeap → Prop} {d : Option Nat} {op : AOp} {os : List AOper} :
    EndsR (runOps call (.mk d none op :: os) t σ) Q = EndsO (aoper call op t σ) fun v σ' => EndsR (runOps call os (setD t d v) σ') Q := by
  simp only [runOps, wants, if_true]
  cases aoper call op t σ <;> rfl
theorem iter_inv {body : Tmps → AHeap → Option (AEx × Tmps × AHeap)} {Q : AEx → Tmps → AHeap → Prop} (I : Nat → Tmps → AHeap → Prop) (n : Nat)
    (hstep : ∀ i t σ, i ≤ n → I i t σ → Ends (body t σ) fun e t' σ' => match e with | .normal => i < n ∧ I (i + 1) t' σ' | e => Q e t' σ') :
    ∀ (f i : Nat) (t : Tmps) (σ : AHeap), i ≤ n → n < i + f → I i t σ → Ends (iter body f t σ) Q := by
  intro f
  induction f with
  | zero => intro i t σ h1 h2 _; omega
  | succ f ih =>
    intro i t σ h1 h2 hI
    have hs := hstep i t σ h1 hI
    simp only [iter]
    cases hb : body t σ with
    | none => rw [hb] at hs; exact hs
    | some p =>
      obtain ⟨e, t', σ'⟩ := p
      rw [hb] at hs
      cases e with
      | normal => obtain ⟨h3, h4⟩ := hs; exact ih (i + 1) t' σ' (by omega) (by omega) h4
      | _ => exact hs
def loopQ (n i : Nat) (I : Nat → Tmps → AHeap → Prop) (Q : AEx → Tmps → AHeap → Prop) : AEx → Tmps → AHeap → Prop
  | .normal, t, σ => i < n ∧ I (i + 1) t σ
  | .exit j, t, σ => Q (.exit j) t σ
  | .ret, t, σ => Q .ret t σ
theorem ends_loop {call : CallF} {fuel : Nat} {t : Tmps} {σ : AHeap} {Q : AEx → Tmps → AHeap → Prop} {a : ACode} (I : Nat → Tmps → AHeap → Prop) (n : Nat) (hn : n < fuel) (h0 : I 0 t σ)
    (hstep : ∀ i t σ, i ≤ n → I i t σ → Ends (acode call fuel a t σ) (loopQ n i I Q)) : Ends (acode call fuel (.loop a) t σ) Q := by
  simp only [acode]
  refine iter_inv I n (fun i t σ hi hI => (hstep i t σ hi hI).mono fun e t' σ' h => ?_) fuel 0 t σ (Nat.zero_le _) (by omega) h0
  cases e <;> exact h
theorem loopQ_normal {n i : Nat} {I : Nat → Tmps → AHeap → Prop} {Q : AEx → Tmps → AHeap → Prop} {t : Tmps} {σ : AHeap} : loopQ n i I Q .normal t σ = (i < n ∧ I (i + 1) t σ) := rfl
theorem loopQ_exit {n i j : Nat} {I : Nat → Tmps → AHeap → Prop} {Q : AEx → Tmps → AHeap → Prop} {t : Tmps} {σ : AHeap} : loopQ n i I Q (.exit j) t σ = Q (.exit j) t σ := rfl
theorem loopQ_ret {n i : Nat} {I : Nat → Tmps → AHeap → Prop} {Q : AEx → Tmps → AHeap → Prop} {t : Tmps} {σ : AHeap} : loopQ n i I Q .ret t σ = Q .ret t σ := rfl
def finQ (m : Nat) (res : List ARes) (r : Value) : AEx → Tmps → AHeap → Prop
  | .exit _, _, _ => False
  | _, t, σ => (match resAll t σ res with | some vs => one vs = r | none => False) ∧ σ.low = m
theorem finQ_ret {m : Nat} {res : List ARes} {r : Value} {t : Tmps} {σ : AHeap} : finQ m res r .ret t σ = ((match resAll t σ res with | some vs => one vs = r | none => False) ∧ σ.low = m) := rfl
def AHeap.fresh (σ : AHeap) : AHeap := { σ with low := σ.n }
theorem acall_flat [Frn] {E : FuncId → Option AFn} {fuel d : Nat} {f : FuncId} {N : Nat} {res : List ARes} {c : ACode} {args : List Value} {σ : AHeap} {r : Value} (hE : E f = some ⟨N, res, c⟩) (hl : args.length ≤ N) (hr : flat r = true)
    (h : Ends (acode (acall E fuel d) fuel c (Tr.of args) (σ.fresh.grow [])) (finQ σ.n res r)) : acall E fuel (d + 1) f args σ = some (r, σ) := by
  rw [grow_nil] at h
  simp only [acall, hE]
  rw [if_pos (Nat.ble_eq_true_of_le hl)]
  unfold AHeap.fresh at h
  cases hx : acode (acall E fuel d) fuel c (Tr.of args) { σ with low := σ.n } with
  | none => rw [hx] at h; exact h.elim
  | some p =>
    obtain ⟨e, t, τ⟩ := p
    rw [hx] at h
    cases e with
    | exit i => exact h.elim
    | normal =>
      obtain ⟨h1, h2⟩ := h
      simp only at h1 h2 ⊢
      cases hv : resAll t τ res with
      | none => rw [hv] at h1; exact h1.elim
      | some vs => rw [hv] at h1; simp only at h1 ⊢; simp [h1, hr, h2]
    | ret =>
      obtain ⟨h1, h2⟩ := h
      simp only at h1 h2 ⊢
      cases hv : resAll t τ res with
      | none => rw [hv] at h1; exact h1.elim
      | some vs => rw [hv] at h1; simp only at h1 ⊢; simp [h1, hr, h2]
end Go.Hai
namespace Go.Hai
open Go
theorem wrap64 {n : Int} (h1 : -9223372036854775808 ≤ n) (h2 : n ≤ 9223372036854775807) : IntKind.i64.wrap n = n := by
  simp [IntKind.wrap, IntKind.bits, IntKind.signed]
  omega
section
variable {k : IntKind} {a b : Int}
theorem bin_lss : abinA .lss (.int k a) (.int k b) = some (.bool (decide (a < b))) := by simp [abinA, abin]
theorem bin_leq : abinA .leq (.int k a) (.int k b) = some (.bool (decide (a ≤ b))) := by simp [abinA, abin]
theorem bin_gtr : abinA .gtr (.int k a) (.int k b) = some (.bool (decide (b < a))) := by simp [abinA, abin]
theorem bin_geq : abinA .geq (.int k a) (.int k b) = some (.bool (decide (b ≤ a))) := by simp [abinA, abin]
theorem bin_eql : abinA .eql (.int k a) (.int k b) = some (.bool (decide (a = b))) := by
  simp only [abinA, abin, if_true]
  congr 2
theorem bin_neq : abinA .neq (.int k a) (.int k b) = some (.bool (!decide (a = b))) := by
  simp only [abinA, abin, if_true]
  congr 2
theorem bin_add (h1 : -9223372036854775808 ≤ a + b) (h2 : a + b ≤ 9223372036854775807) : abinA .add (.int .i64 a) (.int .i64 b) = some (.int .i64 (a + b)) := by simp [abinA, abin, wrap64 h1 h2]
theorem bin_sub (h1 : -9223372036854775808 ≤ a - b) (h2 : a - b ≤ 9223372036854775807) : abinA .sub (.int .i64 a) (.int .i64 b) = some (.int .i64 (a - b)) := by simp [abinA, abin, wrap64 h1 h2]
theorem bin_mul (h1 : -9223372036854775808 ≤ a * b) (h2 : a * b ≤ 9223372036854775807) : abinA .mul (.int .i64 a) (.int .i64 b) = some (.int .i64 (a * b)) := by simp [abinA, abin, wrap64 h1 h2]
theorem bin_rem (h : b ≠ 0) : abinA .rem (.int .i64 a) (.int .i64 b) = some (.int .i64 (a.tmod b)) := by simp [abinA, abin, h]
end
theorem un_not {b : Bool} : aun .not (.bool b) = some (.bool !b) := rfl
def kont (call : CallF) (os : List AOper) (t : Tmps) (Q : Tmps → AHeap → Prop) (d : Option Nat) (v : Value) (σ : AHeap) : Prop := EndsR (runOps call os (setD t d v) σ) Q
theorem kont_run {call : CallF} {os : List AOper} {t : Tmps} {Q : Tmps → AHeap → Prop} {d : Option Nat} {v : Value} {σ : AHeap} : kont call os t Q d v σ = EndsR (runOps call os (setD t d v) σ) Q := rfl
theorem run_1 {call : CallF} {t : Tmps} {σ : AHeap} {Q : Tmps → AHeap → Prop} {d : Option Nat} {op : AOp} {os : List AOper} :
    EndsR (runOps call (.mk d none op :: os) t σ) Q = EndsO (aoper call op t σ) (kont call os t Q d) := run_one
abbrev Kt := Value → AHeap → Prop
def isB (c : Value) : Bool := match c with | .bool _ => true | _ => false
def isT (c : Value) : Bool := match c with | .bool b => b | _ => false
def isF (c : Value) : Bool := match c with | .bool b => !b | _ => false
def pickV (c a b : Value) : Value := match c with | .bool true => a | .bool false => b | _ => undef
def wantsV (c : Value) (w : Bool) : Bool := match c with | .bool b => b == w | _ => false
theorem isB_bool {b : Bool} : isB (.bool b) = true := rfl
theorem isT_bool {b : Bool} : isT (.bool b) = b := rfl
theorem isF_bool {b : Bool} : isF (.bool b) = !b := rfl
theorem pickV_t {a b : Value} : pickV (.bool true) a b = a := rfl
theorem pickV_f {a b : Value} : pickV (.bool false) a b = b := rfl
theorem wantsV_t {b : Bool} : wantsV (.bool b) true = b := by cases b <;> rfl
theorem wantsV_f {b : Bool} : wantsV (.bool b) false = !b := by cases b <;> rfl
theorem wantsV_u {w : Bool} : wantsV undef w = false := rfl
theorem run_g {call : CallF} {t : Tmps} {σ : AHeap} {Q : Tmps → AHeap → Prop} {d : Option Nat} {j : Nat} {w : Bool} {op : AOp} {os : List AOper} :
    EndsR (runOps call (.mk d (some (j, w)) op :: os) t σ) Q = if wantsV (tget t j) w = true then EndsO (aoper call op t σ) (kont call os t Q d) else EndsR (runOps call os (setD t d undef) σ) Q := by
  have : wants t (some (j, w)) = wantsV (tget t j) w := rfl
  simp only [runOps, this]
  split
  · cases aoper call op t σ <;> rfl
  · rfl
def valQ (x : Option Value) (σ : AHeap) (K : Kt) : Prop := match x with | some v => K v σ | none => False
def fldQ (x : Value) (off : Nat) (σ : AHeap) (K : Kt) : Prop := match x with | .pointer (some ⟨b, o, _⟩) => K (here b (o + off)) σ | _ => False
def ld1Q (x : Option (List Value)) (σ : AHeap) (K : Kt) : Prop := match x with | some [v] => K v σ | _ => False
def ldNQ (x : Option (List Value)) (σ : AHeap) (K : Kt) : Prop := match x with | some vs => K (.agg vs.toArray) σ | none => False
def pLd1 (x : Value) (n : Nat) (σ : AHeap) (K : Kt) : Prop := match x with | .pointer (some ⟨b, o, _⟩) => ld1Q (σ.loadN b o n) σ K | _ => False
def pLdN (x : Value) (n : Nat) (σ : AHeap) (K : Kt) : Prop := match x with | .pointer (some ⟨b, o, _⟩) => ldNQ (σ.loadN b o n) σ K | _ => False
def heapQ (x : Option AHeap) (K : Kt) : Prop := match x with | some σ => K undef σ | none => False
def pSt (x : Value) (n : Nat) (vs : List Value) (σ : AHeap) (K : Kt) : Prop := match x with | .pointer (some ⟨b, o, _⟩) => (if vs.length = n then heapQ (σ.storeN b o vs) K else False) | _ => False
def lenSQ (x : Value) (σ : AHeap) (K : Kt) : Prop := match x with | .slice _ l _ => K (.int .i64 l) σ | _ => False
def idxQ (x i : Value) (sz : Nat) (σ : AHeap) (K : Kt) : Prop := match x, i with
  | .slice (some ⟨b, o, _⟩) l _, .int _ z => if 0 ≤ z ∧ z < l then K (here b (o + z.toNat * sz)) σ else False
  | _, _ => False
def nthQ (l : List Value) (i : Nat) (σ : AHeap) (K : Kt) : Prop := match l[i]? with | some v => K v σ | none => False
def extQ (x : Value) (i : Nat) (σ : AHeap) (K : Kt) : Prop := match x with | .tuple vs => nthQ vs.toList i σ K | _ => False
def fld1Q (x : Value) (i : Nat) (σ : AHeap) (K : Kt) : Prop := match x with | .agg vs => nthQ vs.toList i σ K | _ => False
def eqQ (x : Option Bool) (neg : Bool) (σ : AHeap) (K : Kt) : Prop := match x with | some r => K (.bool (if neg then !r else r)) σ | none => False
def eqSQ (neg : Bool) (ls : List (Nat × Nat)) (x y : Value) (σ : AHeap) (K : Kt) : Prop := match x, y with | .agg xs, .agg ys => eqQ (eqLsA xs.toList ys.toList ls) neg σ K | _, _ => False
section
variable {σ : AHeap} {t : Tmps} {K : Kt}
theorem valQ_some {v : Value} : valQ (some v) σ K = K v σ := rfl
theorem fldQ_here {b o off : Nat} : fldQ (here b o) off σ K = K (here b (o + off)) σ := rfl
theorem pLd1_here {b o n : Nat} : pLd1 (here b o) n σ K = ld1Q (σ.loadN b o n) σ K := rfl
theorem pLdN_here {b o n : Nat} : pLdN (here b o) n σ K = ldNQ (σ.loadN b o n) σ K := rfl
theorem ld1Q_some {v : Value} : ld1Q (some [v]) σ K = K v σ := rfl
theorem ldNQ_some {vs : List Value} : ldNQ (some vs) σ K = K (.agg vs.toArray) σ := rfl
theorem pSt_here {b o n : Nat} {vs : List Value} : pSt (here b o) n vs σ K = if vs.length = n then heapQ (σ.storeN b o vs) K else False := rfl
theorem heapQ_some : heapQ (some σ) K = K undef σ := rfl
theorem lenSQ_sl {a : Option Addr} {l f : Nat} : lenSQ (.slice a l f) σ K = K (.int .i64 l) σ := rfl
theorem idxQ_ok {b o l f : Nat} {s : Option Nat} {k : IntKind} {z : Int} {sz : Nat} (h0 : 0 ≤ z) (h1 : z < l) : idxQ (.slice (some ⟨b, o, s⟩) l f) (.int k z) sz σ K = K (here b (o + z.toNat * sz)) σ := by
  show (if 0 ≤ z ∧ z < l then _ else False) = _
  rw [if_pos ⟨h0, h1⟩]
theorem extQ_tup {l : List Value} {i : Nat} : extQ (.tuple l.toArray) i σ K = nthQ l i σ K := rfl
theorem extQ_lit {l : Array Value} {i : Nat} : extQ (.tuple l) i σ K = nthQ l.toList i σ K := rfl
theorem fld1Q_agg {l : List Value} {i : Nat} : fld1Q (.agg l.toArray) i σ K = nthQ l i σ K := rfl
theorem nthQ_0 {v : Value} {l : List Value} : nthQ (v :: l) 0 σ K = K v σ := rfl
theorem nthQ_1 {u v : Value} {l : List Value} : nthQ (u :: v :: l) 1 σ K = K v σ := rfl
theorem nthQ_2 {u u' v : Value} {l : List Value} : nthQ (u :: u' :: v :: l) 2 σ K = K v σ := rfl
theorem eqQ_some {r neg : Bool} : eqQ (some r) neg σ K = K (.bool (if neg then !r else r)) σ := rfl
theorem eqSQ_agg {neg : Bool} {ls : List (Nat × Nat)} {xs ys : List Value} : eqSQ neg ls (.agg xs.toArray) (.agg ys.toArray) σ K = eqQ (eqLsA xs ys ls) neg σ K := rfl
theorem o_mv {x : Operand} : EndsO (aop σ t (.mv x)) K = K (ev t x) σ := rfl
theorem o_pick {c a b : Operand} : EndsO (aop σ t (.pick c a b)) K = if isB (ev t c) = true then K (pickV (ev t c) (ev t a) (ev t b)) σ else False := by
  simp only [aop]
  cases ev t c with
  | bool r => cases r <;> rfl
  | _ => rfl
theorem o_bin {op : BinOp} {x y : Operand} : EndsO (aop σ t (.bin op x y)) K = valQ (abinA op (ev t x) (ev t y)) σ K := by
  simp only [aop]
  cases abinA op (ev t x) (ev t y) <;> rfl
theorem o_un {op : UnOp} {x : Operand} : EndsO (aop σ t (.un op x)) K = valQ (aun op (ev t x)) σ K := by
  simp only [aop]
  cases aun op (ev t x) <;> rfl
theorem o_alloc {z : List Value} {es : Nat} {L : List (List Value × Nat)} : EndsO (aop (σ.grow L) t (.alloc z es)) K = K (here (σ.n + L.length) 0) (σ.grow (L ++ [(z, es)])) := by
  simp only [aop, newRow_grow]; rfl
theorem o_box {x : Operand} {es : Nat} {L : List (List Value × Nat)} : EndsO (aop (σ.grow L) t (.box es x)) K = if (ev t x).cells.toList.all isCell = true then K (here (σ.n + L.length) 0) (σ.grow (L ++ [((ev t x).cells.toList, es)])) else False := by
  simp only [aop, newRow_grow]
  split <;> rfl
theorem o_fldA {x : Operand} {off : Nat} : EndsO (aop σ t (.fldA off x)) K = fldQ (ev t x) off σ K := by
  simp only [aop, fldQ]
  cases ev t x with
  | pointer a => cases a <;> rfl
  | _ => rfl
theorem o_load1 {n : Nat} {x : Operand} : EndsO (aop σ t (.load false n x)) K = pLd1 (ev t x) n σ K := by
  simp only [aop, pLd1, ld1Q]
  cases ev t x with
  | pointer a => cases a with
    | none => rfl
    | some p =>
      obtain ⟨b, o, s⟩ := p
      simp only
      cases σ.loadN b o n with
      | none => rfl
      | some vs => cases vs with
        | nil => rfl
        | cons v l => cases l <;> rfl
  | _ => rfl
theorem o_loadN {n : Nat} {x : Operand} : EndsO (aop σ t (.load true n x)) K = pLdN (ev t x) n σ K := by
  simp only [aop, pLdN, ldNQ]
  cases ev t x with
  | pointer a => cases a with
    | none => rfl
    | some p =>
      obtain ⟨b, o, s⟩ := p
      simp only
      cases σ.loadN b o n <;> rfl
  | _ => rfl
theorem o_store {n : Nat} {a x : Operand} : EndsO (aop σ t (.store n a x)) K = pSt (ev t a) n (ev t x).cells.toList σ K := by
  simp only [aop, pSt, heapQ]
  cases ev t a with
  | pointer p => cases p with
    | none => rfl
    | some p =>
      obtain ⟨b, o, s⟩ := p
      simp only
      by_cases h : (ev t x).cells.toList.length = n
      · subst h
        simp only [Nat.beq_refl, if_true]
        cases σ.storeN b o (ev t x).cells.toList <;> rfl
      · rw [if_neg h, nbeq h]; rfl
  | _ => rfl
theorem o_lenS {x : Operand} : EndsO (aop σ t (.lenS x)) K = lenSQ (ev t x) σ K := by
  simp only [aop, lenSQ]
  cases ev t x <;> rfl
theorem o_idxA {sz : Nat} {x i : Operand} : EndsO (aop σ t (.idxA sz x i)) K = idxQ (ev t x) (ev t i) sz σ K := by
  simp only [aop, idxQ]
  cases ev t x with
  | slice a l f => cases a with
    | none => rfl
    | some p =>
      obtain ⟨b, o, s⟩ := p
      cases ev t i with
      | int k z => simp only; split <;> rfl
      | _ => rfl
  | _ => rfl
theorem o_ext {x : Operand} {i : Nat} : EndsO (aop σ t (.ext x i)) K = extQ (ev t x) i σ K := by
  simp only [aop, extQ, nthQ]
  cases ev t x with
  | tuple vs => simp only; cases vs.toList[i]? <;> rfl
  | _ => rfl
theorem o_fld1 {off n : Nat} {x : Operand} : EndsO (aop σ t (.fld false off n x)) K = fld1Q (ev t x) off σ K := by
  simp only [aop, fld1Q, nthQ]
  cases ev t x with
  | agg vs => simp only [Bool.false_eq_true, if_false]; cases vs.toList[off]? <;> rfl
  | _ => rfl
theorem o_build {z : List Value} {ps : List (Nat × Nat × Operand)} : EndsO (aop σ t (.build z ps)) K = ldNQ (fillL t z ps) σ K := by
  simp only [aop, ldNQ]
  cases fillL t z ps <;> rfl
theorem o_eqS {neg : Bool} {ls : List (Nat × Nat)} {x y : Operand} : EndsO (aop σ t (.eqS neg ls x y)) K = eqSQ neg ls (ev t x) (ev t y) σ K := by
  simp only [aop, eqSQ, eqQ]
  cases ev t x with
  | agg xs => cases ev t y with
    | agg ys => cases h : eqLsA xs.toList ys.toList ls <;> simp only [h] <;> rfl
    | _ => rfl
  | _ => rfl
end
theorem o_call {call : CallF} {σ : AHeap} {t : Tmps} {K : Kt} {f : FuncId} {xs : List Operand} : EndsO (aoper call (.call f xs) t σ) K = EndsO (call f (xs.map (ev t)) σ) K := rfl
theorem ends_cond' {call : CallF} {fuel : Nat} {t : Tmps} {σ : AHeap} {Q : AEx → Tmps → AHeap → Prop} {c : Operand} {a b : ACode} :
    Ends (acode call fuel (.cond c a b) t σ) Q = if isT (ev t c) = true then Ends (acode call fuel a t σ) Q else if isF (ev t c) = true then Ends (acode call fuel b t σ) Q else False := by
  simp only [acode]
  cases ev t c with
  | bool r => cases r <;> rfl
  | _ => rfl
def lget : List Value → Nat → Value
  | [], _ => undef
  | v :: _, 0 => v
  | _ :: l, i + 1 => lget l i
theorem tget_lget (l : List Value) (j : Nat) : tget (Tr.of l) j = lget l j := by
  rw [tget_of]
  induction l generalizing j with
  | nil => rfl
  | cons v l ih => cases j with
    | zero => rfl
    | succ j => exact ih j
theorem lget_0 {v : Value} {l : List Value} : lget (v :: l) 0 = v := rfl
theorem lget_1 {a v : Value} {l : List Value} : lget (a :: v :: l) 1 = v := rfl
theorem lget_2 {a b v : Value} {l : List Value} : lget (a :: b :: v :: l) 2 = v := rfl
theorem lget_3 {a b c v : Value} {l : List Value} : lget (a :: b :: c :: v :: l) 3 = v := rfl
theorem lget_4 {a b c d v : Value} {l : List Value} : lget (a :: b :: c :: d :: v :: l) 4 = v := rfl
theorem ev_tmp (t : Tmps) (i : Nat) : ev t (.tmp i) = tget t i := rfl
theorem ev_const (t : Tmps) (v : Value) : ev t (.const v) = v := rfl
theorem setD_some (t : Tmps) (i : Nat) (v : Value) : setD t (some i) v = t.ins i v := rfl
theorem setD_none (t : Tmps) (v : Value) : setD t none v = t := rfl
def sliceL (l : List Value) (o n : Nat) : Option (List Value) := if o + n ≤ l.length then some ((l.drop o).take n) else none
theorem sl1_0_1 {x0 : Value} : sliceL [x0] 0 1 = some [x0] := rfl
theorem st1 {x0 y0 : Value} : setAll [x0] 0 [y0] = [y0] := rfl
theorem ln1 {x0 : Value} : List.length [x0] = 1 := rfl
theorem sl3_0_1 {x0 x1 x2 : Value} : sliceL [x0, x1, x2] 0 1 = some [x0] := rfl
theorem sl3_1_1 {x0 x1 x2 : Value} : sliceL [x0, x1, x2] 1 1 = some [x1] := rfl
theorem sl3_2_1 {x0 x1 x2 : Value} : sliceL [x0, x1, x2] 2 1 = some [x2] := rfl
theorem sl3_0_3 {x0 x1 x2 : Value} : sliceL [x0, x1, x2] 0 3 = some [x0, x1, x2] := rfl
theorem st3 {x0 x1 x2 y0 y1 y2 : Value} : setAll [x0, x1, x2] 0 [y0, y1, y2] = [y0, y1, y2] := rfl
theorem ln3 {x0 x1 x2 : Value} : List.length [x0, x1, x2] = 3 := rfl
theorem sl4_0_1 {x0 x1 x2 x3 : Value} : sliceL [x0, x1, x2, x3] 0 1 = some [x0] := rfl
theorem sl4_1_1 {x0 x1 x2 x3 : Value} : sliceL [x0, x1, x2, x3] 1 1 = some [x1] := rfl
theorem sl4_2_1 {x0 x1 x2 x3 : Value} : sliceL [x0, x1, x2, x3] 2 1 = some [x2] := rfl
theorem sl4_3_1 {x0 x1 x2 x3 : Value} : sliceL [x0, x1, x2, x3] 3 1 = some [x3] := rfl
theorem sl4_0_4 {x0 x1 x2 x3 : Value} : sliceL [x0, x1, x2, x3] 0 4 = some [x0, x1, x2, x3] := rfl
theorem st4 {x0 x1 x2 x3 y0 y1 y2 y3 : Value} : setAll [x0, x1, x2, x3] 0 [y0, y1, y2, y3] = [y0, y1, y2, y3] := rfl
theorem ln4 {x0 x1 x2 x3 : Value} : List.length [x0, x1, x2, x3] = 4 := rfl
theorem sl5_0_1 {x0 x1 x2 x3 x4 : Value} : sliceL [x0, x1, x2, x3, x4] 0 1 = some [x0] := rfl
theorem sl5_1_1 {x0 x1 x2 x3 x4 : Value} : sliceL [x0, x1, x2, x3, x4] 1 1 = some [x1] := rfl
theorem sl5_2_1 {x0 x1 x2 x3 x4 : Value} : sliceL [x0, x1, x2, x3, x4] 2 1 = some [x2] := rfl
theorem sl5_3_1 {x0 x1 x2 x3 x4 : Value} : sliceL [x0, x1, x2, x3, x4] 3 1 = some [x3] := rfl
theorem sl5_4_1 {x0 x1 x2 x3 x4 : Value} : sliceL [x0, x1, x2, x3, x4] 4 1 = some [x4] := rfl
theorem sl5_0_5 {x0 x1 x2 x3 x4 : Value} : sliceL [x0, x1, x2, x3, x4] 0 5 = some [x0, x1, x2, x3, x4] := rfl
theorem sl5_0_3 {x0 x1 x2 x3 x4 : Value} : sliceL [x0, x1, x2, x3, x4] 0 3 = some [x0, x1, x2] := rfl
theorem sl5_0_4 {x0 x1 x2 x3 x4 : Value} : sliceL [x0, x1, x2, x3, x4] 0 4 = some [x0, x1, x2, x3] := rfl
theorem st5 {x0 x1 x2 x3 x4 y0 y1 y2 y3 y4 : Value} : setAll [x0, x1, x2, x3, x4] 0 [y0, y1, y2, y3, y4] = [y0, y1, y2, y3, y4] := rfl
theorem ln5 {x0 x1 x2 x3 x4 : Value} : List.length [x0, x1, x2, x3, x4] = 5 := rfl
theorem sl13_0_1 {x0 x1 x2 x3 x4 x5 x6 x7 x8 x9 x10 x11 x12 : Value} : sliceL [x0, x1, x2, x3, x4, x5, x6, x7, x8, x9, x10, x11, x12] 0 1 = some [x0] := rfl
theorem sl13_1_1 {x0 x1 x2 x3 x4 x5 x6 x7 x8 x9 x10 x11 x12 : Value} : sliceL [x0, x1, x2, x3, x4, x5, x6, x7, x8, x9, x10, x11, x12] 1 1 = some [x1] := rfl
theorem sl13_2_1 {x0 x1 x2 x3 x4 x5 x6 x7 x8 x9 x10 x11 x12 : Value} : sliceL [x0, x1, x2, x3, x4, x5, x6, x7, x8, x9, x10, x11, x12] 2 1 = some [x2] := rfl
theorem sl13_3_1 {x0 x1 x2 x3 x4 x5 x6 x7 x8 x9 x10 x11 x12 : Value} : sliceL [x0, x1, x2, x3, x4, x5, x6, x7, x8, x9, x10, x11, x12] 3 1 = some [x3] := rfl
theorem sl13_4_1 {x0 x1 x2 x3 x4 x5 x6 x7 x8 x9 x10 x11 x12 : Value} : sliceL [x0, x1, x2, x3, x4, x5, x6, x7, x8, x9, x10, x11, x12] 4 1 = some [x4] := rfl
theorem sl13_5_1 {x0 x1 x2 x3 x4 x5 x6 x7 x8 x9 x10 x11 x12 : Value} : sliceL [x0, x1, x2, x3, x4, x5, x6, x7, x8, x9, x10, x11, x12] 5 1 = some [x5] := rfl
theorem sl13_6_1 {x0 x1 x2 x3 x4 x5 x6 x7 x8 x9 x10 x11 x12 : Value} : sliceL [x0, x1, x2, x3, x4, x5, x6, x7, x8, x9, x10, x11, x12] 6 1 = some [x6] := rfl
theorem sl13_7_1 {x0 x1 x2 x3 x4 x5 x6 x7 x8 x9 x10 x11 x12 : Value} : sliceL [x0, x1, x2, x3, x4, x5, x6, x7, x8, x9, x10, x11, x12] 7 1 = some [x7] := rfl
theorem sl13_8_1 {x0 x1 x2 x3 x4 x5 x6 x7 x8 x9 x10 x11 x12 : Value} : sliceL [x0, x1, x2, x3, x4, x5, x6, x7, x8, x9, x10, x11, x12] 8 1 = some [x8] := rfl
theorem sl13_9_1 {x0 x1 x2 x3 x4 x5 x6 x7 x8 x9 x10 x11 x12 : Value} : sliceL [x0, x1, x2, x3, x4, x5, x6, x7, x8, x9, x10, x11, x12] 9 1 = some [x9] := rfl
theorem sl13_10_1 {x0 x1 x2 x3 x4 x5 x6 x7 x8 x9 x10 x11 x12 : Value} : sliceL [x0, x1, x2, x3, x4, x5, x6, x7, x8, x9, x10, x11, x12] 10 1 = some [x10] := rfl
theorem sl13_11_1 {x0 x1 x2 x3 x4 x5 x6 x7 x8 x9 x10 x11 x12 : Value} : sliceL [x0, x1, x2, x3, x4, x5, x6, x7, x8, x9, x10, x11, x12] 11 1 = some [x11] := rfl
theorem sl13_12_1 {x0 x1 x2 x3 x4 x5 x6 x7 x8 x9 x10 x11 x12 : Value} : sliceL [x0, x1, x2, x3, x4, x5, x6, x7, x8, x9, x10, x11, x12] 12 1 = some [x12] := rfl
theorem sl13_0_13 {x0 x1 x2 x3 x4 x5 x6 x7 x8 x9 x10 x11 x12 : Value} : sliceL [x0, x1, x2, x3, x4, x5, x6, x7, x8, x9, x10, x11, x12] 0 13 = some [x0, x1, x2, x3, x4, x5, x6, x7, x8, x9, x10, x11, x12] := rfl
theorem sl13_9_4 {x0 x1 x2 x3 x4 x5 x6 x7 x8 x9 x10 x11 x12 : Value} : sliceL [x0, x1, x2, x3, x4, x5, x6, x7, x8, x9, x10, x11, x12] 9 4 = some [x9, x10, x11, x12] := rfl
theorem st13 {x0 x1 x2 x3 x4 x5 x6 x7 x8 x9 x10 x11 x12 y0 y1 y2 y3 y4 y5 y6 y7 y8 y9 y10 y11 y12 : Value} : setAll [x0, x1, x2, x3, x4, x5, x6, x7, x8, x9, x10, x11, x12] 0 [y0, y1, y2, y3, y4, y5, y6, y7, y8, y9, y10, y11, y12] = [y0, y1, y2, y3, y4, y5, y6, y7, y8, y9, y10, y11, y12] := rfl
theorem ln13 {x0 x1 x2 x3 x4 x5 x6 x7 x8 x9 x10 x11 x12 : Value} : List.length [x0, x1, x2, x3, x4, x5, x6, x7, x8, x9, x10, x11, x12] = 13 := rfl
def rowAt : List (List Value × Nat) → Nat → Option (List Value × Nat)
  | [], _ => none
  | r :: _, 0 => some r
  | _ :: l, i + 1 => rowAt l i
theorem rowAt_eq : ∀ (L : List (List Value × Nat)) (k : Nat), rowAt L k = L[k]?
  | [], _ => rfl
  | _ :: _, 0 => rfl
  | _ :: l, k + 1 => rowAt_eq l k
def setRow : List (List Value × Nat) → Nat → List Value × Nat → List (List Value × Nat)
  | [], _, _ => []
  | _ :: l, 0, r => r :: l
  | x :: l, i + 1, r => x :: setRow l i r
theorem setRow_eq : ∀ (L : List (List Value × Nat)) (k : Nat) (r : List Value × Nat), setRow L k r = L.set k r
  | [], _, _ => rfl
  | _ :: _, 0, _ => rfl
  | x :: l, k + 1, r => by simp only [setRow, List.set_cons_succ, setRow_eq l k r]
def ldR (x : Option (List Value × Nat)) (d : Option (List Value)) (o n : Nat) : Option (List Value) := match x with | some r => sliceL r.1 o n | none => d
theorem load_at (σ : AHeap) (L : List (List Value × Nat)) (k o n : Nat) : (σ.grow L).loadN (σ.n + k) o n = ldR (rowAt L k) ((σ.grow L).loadN (σ.n + k) o n) o n := by
  rw [rowAt_eq]
  cases h : L[k]? with
  | none => rfl
  | some r =>
    show _ = sliceL r.1 o n
    unfold sliceL
    split
    · next hl => exact load_new σ L k o n h hl
    · next hl =>
      unfold AHeap.loadN AHeap.row?
      rw [grow_new σ L k h]
      simp only [rowOf, AHeap.alive, if_true]
      rw [if_neg]
      intro hb
      exact hl (Nat.le_of_ble_eq_true hb)
theorem ld_0 {σ : AHeap} { r : List Value} { e : Nat} {l : List (List Value × Nat)} {o n : Nat} : (σ.grow ((r, e) :: l)).loadN (σ.n) o n = sliceL r o n := load_at σ _ 0 o n
theorem ld_1 {σ : AHeap} {a0 r : List Value} {b0 e : Nat} {l : List (List Value × Nat)} {o n : Nat} : (σ.grow ((a0, b0) :: (r, e) :: l)).loadN (σ.n + 1) o n = sliceL r o n := load_at σ _ 1 o n
theorem ld_2 {σ : AHeap} {a0 a1 r : List Value} {b0 b1 e : Nat} {l : List (List Value × Nat)} {o n : Nat} : (σ.grow ((a0, b0) :: (a1, b1) :: (r, e) :: l)).loadN (σ.n + 2) o n = sliceL r o n := load_at σ _ 2 o n
theorem ld_3 {σ : AHeap} {a0 a1 a2 r : List Value} {b0 b1 b2 e : Nat} {l : List (List Value × Nat)} {o n : Nat} : (σ.grow ((a0, b0) :: (a1, b1) :: (a2, b2) :: (r, e) :: l)).loadN (σ.n + 3) o n = sliceL r o n := load_at σ _ 3 o n
theorem ld_4 {σ : AHeap} {a0 a1 a2 a3 r : List Value} {b0 b1 b2 b3 e : Nat} {l : List (List Value × Nat)} {o n : Nat} : (σ.grow ((a0, b0) :: (a1, b1) :: (a2, b2) :: (a3, b3) :: (r, e) :: l)).loadN (σ.n + 4) o n = sliceL r o n := load_at σ _ 4 o n
theorem ld_5 {σ : AHeap} {a0 a1 a2 a3 a4 r : List Value} {b0 b1 b2 b3 b4 e : Nat} {l : List (List Value × Nat)} {o n : Nat} : (σ.grow ((a0, b0) :: (a1, b1) :: (a2, b2) :: (a3, b3) :: (a4, b4) :: (r, e) :: l)).loadN (σ.n + 5) o n = sliceL r o n := load_at σ _ 5 o n
def stR (σ : AHeap) (L : List (List Value × Nat)) (k : Nat) (x : Option (List Value × Nat)) (d : Option AHeap) (o : Nat) (vs : List Value) : Option AHeap := match x with
  | some r => if o + vs.length ≤ r.1.length ∧ vs.all isCell = true then some (σ.grow (setRow L k (setAll r.1 o vs, r.2))) else d
  | none => d
theorem store_at {σ : AHeap} (hlow : σ.low ≤ σ.n) (L : List (List Value × Nat)) (k o : Nat) (vs : List Value) : (σ.grow L).storeN (σ.n + k) o vs = stR σ L k (rowAt L k) ((σ.grow L).storeN (σ.n + k) o vs) o vs := by
  rw [rowAt_eq]
  cases h : L[k]? with
  | none => rfl
  | some r =>
    unfold stR
    simp only
    split
    · next hl => rw [setRow_eq]; exact store_new σ L k o vs hlow h hl.1 hl.2
    · rfl
theorem sto_0 {σ : AHeap} (hlow : σ.low ≤ σ.n) { r : List Value} { e : Nat} {l : List (List Value × Nat)} {o : Nat} {vs : List Value} : (σ.grow ((r, e) :: l)).storeN (σ.n) o vs =
    if o + vs.length ≤ r.length ∧ vs.all isCell = true then some (σ.grow ((setAll r o vs, e) :: l)) else (σ.grow ((r, e) :: l)).storeN (σ.n) o vs := store_at hlow _ 0 o vs
theorem sto_1 {σ : AHeap} (hlow : σ.low ≤ σ.n) {a0 r : List Value} {b0 e : Nat} {l : List (List Value × Nat)} {o : Nat} {vs : List Value} : (σ.grow ((a0, b0) :: (r, e) :: l)).storeN (σ.n + 1) o vs =
    if o + vs.length ≤ r.length ∧ vs.all isCell = true then some (σ.grow ((a0, b0) :: (setAll r o vs, e) :: l)) else (σ.grow ((a0, b0) :: (r, e) :: l)).storeN (σ.n + 1) o vs := store_at hlow _ 1 o vs
theorem sto_2 {σ : AHeap} (hlow : σ.low ≤ σ.n) {a0 a1 r : List Value} {b0 b1 e : Nat} {l : List (List Value × Nat)} {o : Nat} {vs : List Value} : (σ.grow ((a0, b0) :: (a1, b1) :: (r, e) :: l)).storeN (σ.n + 2) o vs =
    if o + vs.length ≤ r.length ∧ vs.all isCell = true then some (σ.grow ((a0, b0) :: (a1, b1) :: (setAll r o vs, e) :: l)) else (σ.grow ((a0, b0) :: (a1, b1) :: (r, e) :: l)).storeN (σ.n + 2) o vs := store_at hlow _ 2 o vs
theorem sto_3 {σ : AHeap} (hlow : σ.low ≤ σ.n) {a0 a1 a2 r : List Value} {b0 b1 b2 e : Nat} {l : List (List Value × Nat)} {o : Nat} {vs : List Value} : (σ.grow ((a0, b0) :: (a1, b1) :: (a2, b2) :: (r, e) :: l)).storeN (σ.n + 3) o vs =
    if o + vs.length ≤ r.length ∧ vs.all isCell = true then some (σ.grow ((a0, b0) :: (a1, b1) :: (a2, b2) :: (setAll r o vs, e) :: l)) else (σ.grow ((a0, b0) :: (a1, b1) :: (a2, b2) :: (r, e) :: l)).storeN (σ.n + 3) o vs := store_at hlow _ 3 o vs
theorem sto_4 {σ : AHeap} (hlow : σ.low ≤ σ.n) {a0 a1 a2 a3 r : List Value} {b0 b1 b2 b3 e : Nat} {l : List (List Value × Nat)} {o : Nat} {vs : List Value} : (σ.grow ((a0, b0) :: (a1, b1) :: (a2, b2) :: (a3, b3) :: (r, e) :: l)).storeN (σ.n + 4) o vs =
    if o + vs.length ≤ r.length ∧ vs.all isCell = true then some (σ.grow ((a0, b0) :: (a1, b1) :: (a2, b2) :: (a3, b3) :: (setAll r o vs, e) :: l)) else (σ.grow ((a0, b0) :: (a1, b1) :: (a2, b2) :: (a3, b3) :: (r, e) :: l)).storeN (σ.n + 4) o vs := store_at hlow _ 4 o vs
theorem sto_5 {σ : AHeap} (hlow : σ.low ≤ σ.n) {a0 a1 a2 a3 a4 r : List Value} {b0 b1 b2 b3 b4 e : Nat} {l : List (List Value × Nat)} {o : Nat} {vs : List Value} : (σ.grow ((a0, b0) :: (a1, b1) :: (a2, b2) :: (a3, b3) :: (a4, b4) :: (r, e) :: l)).storeN (σ.n + 5) o vs =
    if o + vs.length ≤ r.length ∧ vs.all isCell = true then some (σ.grow ((a0, b0) :: (a1, b1) :: (a2, b2) :: (a3, b3) :: (a4, b4) :: (setAll r o vs, e) :: l)) else (σ.grow ((a0, b0) :: (a1, b1) :: (a2, b2) :: (a3, b3) :: (a4, b4) :: (r, e) :: l)).storeN (σ.n + 5) o vs := store_at hlow _ 5 o vs
theorem isCell_int {k : IntKind} {n : Int} : isCell (.int k n) = true := rfl
theorem isCell_bool {b : Bool} : isCell (.bool b) = true := rfl
theorem isCell_here {b o : Nat} : isCell (here b o) = true := rfl
theorem isCell_sl {a : Option Addr} {l f : Nat} : isCell (.slice a l f) = true := rfl
theorem cells_agg {l : List Value} : (Value.agg l.toArray).cells.toList = l := by simp [Value.cells]
theorem cells_int {k : IntKind} {n : Int} : (Value.int k n).cells.toList = [.int k n] := rfl
theorem cells_bool {b : Bool} : (Value.bool b).cells.toList = [.bool b] := rfl
theorem cells_sl {a : Option Addr} {l f : Nat} : (Value.slice a l f).cells.toList = [.slice a l f] := rfl
theorem fresh_low {σ : AHeap} : σ.fresh.low = σ.n := rfl
theorem fresh_le {σ : AHeap} : σ.fresh.low ≤ σ.fresh.n := Nat.le_refl _
end Go.Hai
namespace Go.Hai
open Go
def AHeap.setLow (σ : AHeap) (m : Nat) : AHeap := { σ with low := m }
theorem setLow_load {σ : AHeap} {m b o n : Nat} : (σ.setLow m).loadN b o n = σ.loadN b o n := rfl
def EndsD (call : CallF) (ops : List AOper) (t : Tmps) (σ : AHeap) (Q : Tmps → AHeap → Prop) : Prop := match runDraw call ops t σ with
  | some p => p.2.2.all (fun k => !(isEff k)) = true ∧ p.2.2.length = ops.length ∧ Q p.1 p.2.1
  | none => False
def kontD (call : CallF) (op : AOp) (os : List AOper) (t : Tmps) (σ : AHeap) (Q : Tmps → AHeap → Prop) (d : Option Nat) (v : Value) (σ' : AHeap) : Prop :=
  isEff (kindOf op t σ (Nat.beq σ'.low σ.n)) = false ∧ EndsD call os (setD t d v) { σ' with low := minN σ.low σ'.low } Q
section
variable {call : CallF} {os : List AOper} {t : Tmps} {σ : AHeap} {Q : Tmps → AHeap → Prop} {d : Option Nat} {op : AOp}
theorem d_nil : EndsD call [] t σ Q = Q t σ := by simp [EndsD, runDraw]
theorem d_some {g : Option (Nat × Bool)} (hw : wants t g = true) : EndsD call (.mk d g op :: os) t σ Q = EndsO (aoper call op t (σ.setLow σ.n)) (kontD call op os t σ Q d) := by
  unfold EndsD
  simp only [runDraw, hw, if_true]
  show _ = EndsO (aoper call op t { σ with low := σ.n }) _
  cases aoper call op t { σ with low := σ.n } with
  | none => rfl
  | some p =>
    obtain ⟨v, σ'⟩ := p
    simp only [EndsO, kontD, EndsD]
    cases runDraw call os (setD t d v) { σ' with low := minN σ.low σ'.low } with
    | none => simp
    | some q => simp [and_assoc]
theorem d_1 : EndsD call (.mk d none op :: os) t σ Q = EndsO (aoper call op t (σ.setLow σ.n)) (kontD call op os t σ Q d) := d_some rfl
theorem d_g {j : Nat} {w : Bool} : EndsD call (.mk d (some (j, w)) op :: os) t σ Q =
    if wantsV (tget t j) w = true then EndsO (aoper call op t (σ.setLow σ.n)) (kontD call op os t σ Q d) else EndsD call os (setD t d undef) σ Q := by
  have e : wants t (some (j, w)) = wantsV (tget t j) w := rfl
  by_cases h : wantsV (tget t j) w = true
  · rw [if_pos h]; exact d_some (e.trans h)
  · rw [if_neg h]
    unfold EndsD
    simp only [runDraw, e, h, Bool.false_eq_true, if_false]
    cases runDraw call os (setD t d undef) σ with
    | none => rfl
    | some q => simp [isEff]
theorem kindOf_still (o : AOp) (t : Tmps) (σ : AHeap) : isEff (kindOf o t σ true) = false := by
  unfold kindOf
  split
  · rfl
  · simp only [if_true]
    split
    · split
      · split <;> rfl
      · rfl
    · rfl
theorem kontD_ok (h : σ.low ≤ σ.n) {v : Value} : kontD call op os t σ Q d v (σ.setLow σ.n) = EndsD call os (setD t d v) σ Q := by
  unfold kontD
  have e1 : Nat.beq (σ.setLow σ.n).low σ.n = true := Nat.beq_refl _
  have e2 : ({ σ.setLow σ.n with low := minN σ.low (σ.setLow σ.n).low } : AHeap) = σ := by
    have e3 : minN σ.low σ.n = σ.low := by unfold minN; rw [if_pos (Nat.ble_eq_true_of_le h)]
    show AHeap.mk σ.t σ.n σ.nf σ.dead (minN σ.low σ.n) = σ
    rw [e3]
  rw [e1, e2, kindOf_still]
  simp
theorem low_grow (h : σ.low ≤ σ.n) (L : List (List Value × Nat)) : (σ.grow L).low ≤ (σ.grow L).n := by
  rw [grow_low, grow_n]; omega
theorem kontD_grow (h : σ.low ≤ σ.n) {L : List (List Value × Nat)} {v : Value} : kontD call op os t (σ.grow L) Q d v ((σ.grow L).setLow (σ.grow L).n) = EndsD call os (setD t d v) (σ.grow L) Q := kontD_ok (low_grow h L)
end
theorem pairRow_lt (i : Nat) (mi : Bool) : ∀ (l : List (Nat × Bool)) (j : Nat) (p : Nat × Nat), p ∈ pairRow i mi l j → p.1 = i ∧ p.2 < j + l.length := by
  intro l
  induction l with
  | nil => intro j p h; cases h
  | cons q l ih =>
    intro j p h
    replace h : p ∈ (Bool.rec (pairRow i mi l (j + 1)) (Bool.rec ((i, j) :: pairRow i mi l (j + 1)) (pairRow i mi l (j + 1)) (Nat.testBit q.1 i)) (mi || q.2) : List (Nat × Nat)) := h
    have hi : p ∈ pairRow i mi l (j + 1) → p.1 = i ∧ p.2 < j + (q :: l).length := fun h => by
      have := ih _ _ h
      simp only [List.length_cons]
      omega
    cases hm : (mi || q.2) with
    | false => rw [hm] at h; exact hi h
    | true =>
      rw [hm] at h
      cases hb : Nat.testBit q.1 i with
      | true => rw [hb] at h; exact hi h
      | false =>
        rw [hb] at h
        rcases List.mem_cons.1 h with h | h
        · subst h; simp only [List.length_cons]; exact ⟨trivial, by omega⟩
        · exact hi h
theorem risks_lt : ∀ (l : List (Nat × Bool)) (i : Nat) (p : Nat × Nat), p ∈ risks l i → p.1 < i + l.length ∧ p.2 < i + l.length := by
  intro l
  induction l with
  | nil => intro i p h; cases h
  | cons q l ih =>
    intro i p h
    replace h : p ∈ pairRow i q.2 l (i + 1) ++ risks l (i + 1) := h
    simp only [List.length_cons]
    rcases List.mem_append.1 h with h | h
    · have := pairRow_lt _ _ _ _ _ h; omega
    · have := ih _ _ h; omega
theorem drawOk_all (ks : List AKind) (hk : ks.all (fun k => !(isEff k)) = true) : ∀ (rk : List (Nat × Nat)), (∀ p ∈ rk, p.1 < ks.length ∧ p.2 < ks.length) → drawOk rk ks = true := by
  intro rk
  induction rk with
  | nil => intro _; rfl
  | cons q rk ih =>
    intro h
    show (Bool.rec false (drawOk rk ks) (pairB ks[q.1]? ks[q.2]?) : Bool) = true
    obtain ⟨h1, h2⟩ := h q (by simp)
    have hall := List.all_eq_true.1 hk
    have e1 := hall ks[q.1] (List.getElem_mem h1)
    have e2 := hall ks[q.2] (List.getElem_mem h2)
    rw [List.getElem?_eq_getElem h1, List.getElem?_eq_getElem h2]
    have : pairB (some ks[q.1]) (some ks[q.2]) = true := by simp only [pairB, e1, e2]; rfl
    rw [this]
    exact ih fun p hp => h p (by simp [hp])
theorem ends_drw {call : CallF} {fuel : Nat} {ops : List AOper} {bef : List Nat} {t : Tmps} {σ : AHeap} {Q : AEx → Tmps → AHeap → Prop} (h : EndsD call ops t σ (Q .normal)) : Ends (acode call fuel (.drw ops bef) t σ) Q := by
  simp only [acode]
  unfold EndsD at h
  cases hr : runDraw call ops t σ with
  | none => rw [hr] at h; exact h
  | some p =>
    obtain ⟨t', σ', ks⟩ := p
    rw [hr] at h
    obtain ⟨h1, h2, h3⟩ := h
    simp only at h1 h2 h3 ⊢
    rw [if_pos]
    · exact h3
    · refine drawOk_all ks h1 _ fun p hp => ?_
      have := risks_lt _ _ _ hp
      have hl : (marks ops bef).length ≤ ops.length := by unfold marks; rw [List.length_zipWith]; omega
      omega
structure Keeps (σ τ : AHeap) : Prop where
  n : σ.n ≤ τ.n
  low : τ.low = σ.low
  dead : τ.dead = σ.dead
  row : ∀ b, b < σ.n → τ.t.get b = σ.t.get b
theorem Keeps.refl (σ : AHeap) : Keeps σ σ := ⟨Nat.le_refl _, rfl, rfl, fun _ _ => rfl⟩
theorem Keeps.grow {σ τ : AHeap} (h : Keeps σ τ) (L : List (List Value × Nat)) : Keeps σ (τ.grow L) :=
  ⟨by rw [grow_n]; have := h.n; omega, h.low, h.dead, fun b hb => by rw [grow_old _ _ (Nat.lt_of_lt_of_le hb h.n), h.row b hb]⟩
theorem Keeps.self (σ : AHeap) (L : List (List Value × Nat)) : Keeps σ (σ.grow L) := (Keeps.refl σ).grow L
theorem Keeps.trans {σ τ υ : AHeap} (h : Keeps σ τ) (h' : Keeps τ υ) : Keeps σ υ :=
  ⟨Nat.le_trans h.n h'.n, h'.low.trans h.low, h'.dead.trans h.dead, fun b hb => (h'.row b (Nat.lt_of_lt_of_le hb h.n)).trans (h.row b hb)⟩
theorem Keeps.load {σ τ : AHeap} (h : Keeps σ τ) {b : Nat} (o n : Nat) (hb : b < σ.n) : τ.loadN b o n = σ.loadN b o n := by
  unfold AHeap.loadN AHeap.row? AHeap.alive
  rw [h.row b hb, h.dead]
theorem Keeps.loadG {σ τ : AHeap} (h : Keeps σ τ) (L : List (List Value × Nat)) {b : Nat} (o n : Nat) (hb : b < σ.n) : (τ.grow L).loadN b o n = σ.loadN b o n := (h.grow L).load o n hb
theorem Keeps.own {σ τ : AHeap} {L : List (List Value × Nat)} (h : Keeps (σ.grow L) τ) (k : Nat) {r : List Value} {e : Nat} (hk : rowAt L k = some (r, e)) (M : List (List Value × Nat)) (o n : Nat) :
    (τ.grow M).loadN (σ.n + k) o n = sliceL r o n := by
  have hk' : L[k]? = some (r, e) := by rw [← rowAt_eq]; exact hk
  have hlt : k < L.length := (List.getElem?_eq_some_iff.1 hk').1
  rw [h.loadG M o n (by rw [grow_n]; omega), load_at, hk]
  rfl
theorem Keeps.own0 {σ τ : AHeap} {L : List (List Value × Nat)} (h : Keeps (σ.grow L) τ) {r : List Value} {e : Nat} (hk : rowAt L 0 = some (r, e)) (M : List (List Value × Nat)) (o n : Nat) :
    (τ.grow M).loadN σ.n o n = sliceL r o n := h.own 0 hk M o n
def SlAt {α : Type} (cells : α → List Value) (es : Nat) (σ : AHeap) (b : Nat) (l : List α) : Prop :=
  b < σ.n ∧ ∀ (i : Nat) (x : α), l[i]? = some x → ∀ o n, o + n ≤ es → σ.loadN b (i * es + o) n = some (((cells x).drop o).take n)
def SlP {α : Type} (cells : α → List Value) (es : Nat) (σ : AHeap) (a : Option Addr) (l : List α) : Prop := l = [] ∨ ∃ b, a = some ⟨b, 0, none⟩ ∧ SlAt cells es σ b l
section
variable {α : Type} {cells : α → List Value} {es : Nat} {σ τ : AHeap} {a : Option Addr} {l : List α}
theorem SlAt.keeps {b : Nat} (h : SlAt cells es σ b l) (k : Keeps σ τ) : SlAt cells es τ b l :=
  ⟨Nat.lt_of_lt_of_le h.1 k.n, fun i x hx o n ho => by rw [k.load _ _ h.1]; exact h.2 i x hx o n ho⟩
theorem SlP.keeps (h : SlP cells es σ a l) (k : Keeps σ τ) : SlP cells es τ a l := h.imp id fun ⟨b, e, hb⟩ => ⟨b, e, hb.keeps k⟩
theorem SlP.grow (h : SlP cells es σ a l) (L : List (List Value × Nat)) : SlP cells es (σ.grow L) a l := h.keeps (Keeps.self σ L)
theorem SlP.fresh (h : SlP cells es σ a l) : SlP cells es σ.fresh a l := h.imp id fun ⟨b, e, hb⟩ => ⟨b, e, hb⟩
theorem SlP.setLow (h : SlP cells es σ a l) (m : Nat) : SlP cells es (σ.setLow m) a l := h.imp id fun ⟨b, e, hb⟩ => ⟨b, e, hb⟩
theorem SlP.at (h : SlP cells es σ a l) {i : Nat} (hi : i < l.length) : ∃ b, a = some ⟨b, 0, none⟩ ∧ SlAt cells es σ b l := h.resolve_left fun e => by subst e; simp at hi
end
end Go.Hai
namespace Go.Hai
open Go
structure SlotD where
  (type thing rights badge up : Int)
structure ThingD where
  (type bits base size used frm badge : Int)
  full : Bool
  (word d0 d1 d2 d3 : Int)
structure StD where
  (threads slots things : Int)
  sl : List SlotD
  th : List ThingD
abbrev i64 (n : Int) : Value := .int .i64 n
abbrev u64 (n : Int) : Value := .int .u64 n
abbrev capL (x : SlotD) : List Value := [i64 x.type, i64 x.thing, i64 x.rights, i64 x.badge]
abbrev slotL (x : SlotD) : List Value := [i64 x.type, i64 x.thing, i64 x.rights, i64 x.badge, i64 x.up]
abbrev thingL (t : ThingD) : List Value := [i64 t.type, i64 t.bits, i64 t.base, i64 t.size, i64 t.used, i64 t.frm, i64 t.badge, .bool t.full, u64 t.word, u64 t.d0, u64 t.d1, u64 t.d2, u64 t.d3]
abbrev capV (x : SlotD) : Value := .agg (capL x).toArray
abbrev thingV (t : ThingD) : Value := .agg (thingL t).toArray
abbrev geoV (S : StD) : Value := .agg [i64 S.threads, i64 S.slots, i64 S.things].toArray
abbrev stL (S : StD) (a1 : Option Addr) (f1 : Nat) (a2 : Option Addr) (f2 : Nat) : List Value := [i64 S.threads, i64 S.slots, i64 S.things, .slice a1 S.sl.length f1, .slice a2 S.th.length f2]
abbrev stV (S : StD) (a1 : Option Addr) (f1 : Nat) (a2 : Option Addr) (f2 : Nat) : Value := .agg (stL S a1 f1 a2 f2).toArray
abbrev SlS := @SlP SlotD slotL 5
abbrev SlT := @SlP ThingD thingL 13
def eq4 (a b c d a' b' c' d' : Int) : Bool := a == a' && (b == b' && (c == c' && d == d'))
theorem eqCap {a b c d a' b' c' d' : Int} : eqLsA [i64 a, i64 b, i64 c, i64 d] [i64 a', i64 b', i64 c', i64 d'] [(0, 0), (1, 0), (2, 0), (3, 0)] = some (eq4 a b c d a' b' c' d') := by
  simp [eqLsA, eqScalA, eqScal, eq4]
theorem fillL_nil {t : Tmps} {z : List Value} : fillL t z [] = some z := rfl
def fill1 (t : Tmps) (z : List Value) (o : Nat) (vs : List Value) (ps : List (Nat × Nat × Operand)) : Option (List Value) := match vs with
  | [v] => if o < z.length then fillL t (z.set o v) ps else none
  | _ => none
theorem fillL_1 {t : Tmps} {z : List Value} {o : Nat} {x : Operand} {ps : List (Nat × Nat × Operand)} : fillL t z ((o, 1, x) :: ps) = fill1 t z o (ev t x).cells.toList ps := by
  simp only [fillL, fill1]
  cases h : (ev t x).cells.toList with
  | nil => rfl
  | cons v l => cases l with
    | cons u l => rfl
    | nil =>
      simp only [List.length_singleton, Nat.beq_refl, Bool.true_and]
      by_cases ho : o < z.length
      · rw [if_pos ho, if_pos (Nat.ble_eq_true_of_le (by omega))]
        congr 1
        unfold putAt
        simp only [List.length_singleton, List.singleton_append]
        rw [List.set_eq_take_append_cons_drop, if_pos ho]
      · rw [if_neg ho, if_neg (fun hb => ho (by have := Nat.le_of_ble_eq_true hb; omega))]
theorem fill1_one {t : Tmps} {z : List Value} {o : Nat} {v : Value} {ps : List (Nat × Nat × Operand)} : fill1 t z o [v] ps = if o < z.length then fillL t (z.set o v) ps else none := rfl
def fill4 (t : Tmps) (z : List Value) (o : Nat) (vs : List Value) (ps : List (Nat × Nat × Operand)) : Option (List Value) := if Nat.beq vs.length 4 && Nat.ble (o + 4) z.length then fillL t (putAt z o vs) ps else none
theorem fillL_4 {t : Tmps} {z : List Value} {o : Nat} {x : Operand} {ps : List (Nat × Nat × Operand)} : fillL t z ((o, 4, x) :: ps) = fill4 t z o (ev t x).cells.toList ps := rfl
theorem fill4_13 {t : Tmps} {x0 x1 x2 x3 x4 x5 x6 x7 x8 x9 x10 x11 x12 a b c d : Value} : fill4 t [x0, x1, x2, x3, x4, x5, x6, x7, x8, x9, x10, x11, x12] 9 [a, b, c, d] [] = some [x0, x1, x2, x3, x4, x5, x6, x7, x8, a, b, c, d] := rfl
def eq13 (a b c d e f g : Int) (h : Bool) (i j k l m a' b' c' d' e' f' g' : Int) (h' : Bool) (i' j' k' l' m' : Int) : Bool :=
  a == a' && (b == b' && (c == c' && (d == d' && (e == e' && (f == f' && (g == g' && (h == h' && (i == i' && (j == j' && (k == k' && (l == l' && m == m')))))))))))
theorem eqThing {a b c d e f g a' b' c' d' e' f' g' i j k l m i' j' k' l' m' : Int} {h h' : Bool} :
    eqLsA [i64 a, i64 b, i64 c, i64 d, i64 e, i64 f, i64 g, .bool h, u64 i, u64 j, u64 k, u64 l, u64 m] [i64 a', i64 b', i64 c', i64 d', i64 e', i64 f', i64 g', .bool h', u64 i', u64 j', u64 k', u64 l', u64 m']
      [(0, 0), (1, 0), (2, 0), (3, 0), (4, 0), (5, 0), (6, 0), (7, 1), (8, 0), (9, 0), (10, 0), (11, 0), (12, 0)] =
    some (eq13 a b c d e f g h i j k l m a' b' c' d' e' f' g' h' i' j' k' l' m') := by
  simp [eqLsA, eqScalA, eqScal, eq13]
def aggO (x : Option (List Value)) : Option Value := match x with | some vs => some (.agg vs.toArray) | none => none
theorem aggO_some {vs : List Value} : aggO (some vs) = some (.agg vs.toArray) := rfl
def resC (x : Value) (n : Nat) (σ : AHeap) : Option Value := match x with | .pointer (some ⟨b, o, _⟩) => aggO (σ.loadN b o n) | _ => none
theorem resC_here {b o n : Nat} {σ : AHeap} : resC (here b o) n σ = aggO (σ.loadN b o n) := rfl
theorem resOne_tmp {t : Tmps} {σ : AHeap} {i : Nat} : resOne t σ (.tmp i) = some (tget t i) := rfl
theorem resOne_cell {t : Tmps} {σ : AHeap} {i n : Nat} : resOne t σ (.cell i true n) = resC (tget t i) n σ := by
  simp only [resOne, resC, aggO]
  cases tget t i with
  | pointer a => cases a with
    | none => rfl
    | some p =>
      obtain ⟨b, o, s⟩ := p
      simp only
      cases σ.loadN b o n <;> rfl
  | _ => rfl
theorem one_1 {v : Value} : one [v] = v := rfl
theorem one_2 {u v : Value} : one [u, v] = .tuple [u, v].toArray := rfl
theorem one_3 {u v x : Value} : one [u, v, x] = .tuple [u, v, x].toArray := rfl
def pw (b : Int) : Int := ((2 ^ b.toNat : Nat) : Int)
theorem pw_le {b : Int} (h0 : 0 ≤ b) (h1 : b ≤ 4) : 1 ≤ pw b ∧ pw b ≤ 16 := by
  obtain ⟨n, rfl⟩ := Int.eq_ofNat_of_zero_le h0
  have : n = 0 ∨ n = 1 ∨ n = 2 ∨ n = 3 ∨ n = 4 := by omega
  rcases this with h | h | h | h | h <;> subst h <;> decide
theorem bin_shl {b : Int} (h0 : 0 ≤ b) (h1 : b ≤ 4) : abinA .shl (.int .i64 1) (.int .i64 b) = some (.int .i64 (pw b)) := by
  obtain ⟨n, rfl⟩ := Int.eq_ofNat_of_zero_le h0
  have : n = 0 ∨ n = 1 ∨ n = 2 ∨ n = 3 ∨ n = 4 := by omega
  rcases this with h | h | h | h | h <;> subst h <;> rfl
def andNotI (a b : Int) : Int := IntKind.i64.wrap (BitVec.ofInt 64 a &&& ~~~BitVec.ofInt 64 b).toNat
theorem bin_andNot {a b : Int} : abinA .andNot (.int .i64 a) (.int .i64 b) = some (.int .i64 (andNotI a b)) := by
  have h : abinA .andNot (.int .i64 a) (.int .i64 b) = some (.int .i64 (IntKind.i64.wrap (BitVec.ofInt 64 a &&& ~~~BitVec.ofInt 64 b).toNat)) := rfl
  rw [h]; unfold andNotI; rfl
def atI {α : Type} (l : List α) (z : Int) : Option α := if 0 ≤ z then l[z.toNat]? else none
theorem atI_some {α : Type} {l : List α} {z : Int} (h0 : 0 ≤ z) (h1 : z < l.length) : ∃ x, atI l z = some x ∧ l[z.toNat]? = some x := by
  have h : z.toNat < l.length := by omega
  exact ⟨l[z.toNat], by unfold atI; rw [if_pos h0, List.getElem?_eq_getElem h], List.getElem?_eq_getElem h⟩
theorem atI_none {α : Type} {l : List α} {z : Int} (h : ¬ (0 ≤ z ∧ z < l.length)) : atI l z = none := by
  unfold atI
  split
  · exact List.getElem?_eq_none (by omega)
  · rfl
theorem SlAt.ld {α : Type} {cells : α → List Value} {es : Nat} {σ τ : AHeap} {b i : Nat} {l : List α} {x : α} (h : SlAt cells es σ b l) (k : Keeps σ τ) (hx : l[i]? = some x) (L : List (List Value × Nat)) (o n : Nat) (ho : o + n ≤ es) :
    (τ.grow L).loadN b (i * es + o) n = some (((cells x).drop o).take n) := by
  rw [k.loadG L _ _ h.1]; exact h.2 i x hx o n ho
theorem SlAt.ld0 {α : Type} {cells : α → List Value} {es : Nat} {σ τ : AHeap} {b i : Nat} {l : List α} {x : α} (h : SlAt cells es σ b l) (k : Keeps σ τ) (hx : l[i]? = some x) (L : List (List Value × Nat)) (n : Nat) (ho : n ≤ es) :
    (τ.grow L).loadN b (i * es) n = some ((cells x).take n) := h.ld k hx L 0 n (by omega)
theorem fresh_keeps (σ : AHeap) : Keeps σ.fresh σ.fresh := Keeps.refl _
end Go.Hai
namespace Go.Hai
open Go
abbrev intL (z : Int) : List Value := [i64 z]
abbrev SlI := @SlP Int intL 1
def OutP (base : Nat) (τ : AHeap) (v : Value) (l : List Int) : Prop :=
  (v = .slice none 0 0 ∧ l = []) ∨
  ∃ b cs fam, v = .slice (some ⟨b, 0, none⟩) l.length 1 ∧ (base ≤ b ∧ l ≠ [] ∧ ∀ p, fam = some p → base ≤ p.2 ∧ p.2 ≤ b) ∧ b < τ.n ∧ τ.t.get b = some (.row cs l.length 1 true true fam) ∧ ∀ i z, l[i]? = some z → cs.get i = some (i64 z)
theorem OutP.nil (base : Nat) (τ : AHeap) : OutP base τ (.slice none 0 0) [] := .inl ⟨rfl, rfl⟩
theorem OutP.keeps {base : Nat} {σ τ : AHeap} {v : Value} {l : List Int} (h : OutP base σ v l) (k : Keeps σ τ) : OutP base τ v l := by
  rcases h with h | ⟨b, cs, fam, h1, h2, h3, h4, h5⟩
  · exact .inl h
  · exact .inr ⟨b, cs, fam, h1, h2, Nat.lt_of_lt_of_le h3 k.n, by rw [k.row b h3]; exact h4, h5⟩
theorem OutP.shape {base : Nat} {τ : AHeap} {v : Value} {l : List Int} (h : OutP base τ v l) : ∃ a f, v = .slice a l.length f := by
  rcases h with ⟨rfl, rfl⟩ | ⟨b, cs, fam, rfl, _⟩
  · exact ⟨_, _, rfl⟩
  · exact ⟨_, _, rfl⟩
theorem OutP.isCell {base : Nat} {τ : AHeap} {v : Value} {l : List Int} (h : OutP base τ v l) : Hai.isCell v = true := by
  obtain ⟨a, f, rfl⟩ := h.shape; rfl
def Liv (m : Nat) (τ : AHeap) : Prop := ∀ p ∈ τ.dead, p.2 < m
theorem Liv.nil {m : Nat} {τ : AHeap} (h : τ.dead = []) : Liv m τ := fun p hp => by rw [h] at hp; cases hp
theorem Liv.of {m m' : Nat} {σ τ : AHeap} (h : Liv m σ) (e : τ.dead = σ.dead) (hm : m ≤ m') : Liv m' τ := fun p hp => Nat.lt_of_lt_of_le (h p (by rw [← e]; exact hp)) hm
theorem Liv.gr {σ : AHeap} (h : Liv σ.n σ) (L : List (List Value × Nat)) : Liv (σ.grow L).n (σ.grow L) := h.of rfl (by rw [grow_n]; omega)
theorem Liv.keeps {σ τ : AHeap} (h : Liv σ.n σ) (k : Keeps σ τ) : Liv τ.n τ := h.of k.dead k.n
theorem inDead_no {p : Nat × Nat} : ∀ {l : List (Nat × Nat)}, (∀ q ∈ l, q.2 < p.2) → inDead p l = false := by
  intro l
  induction l with
  | nil => intro _; rfl
  | cons q l ih =>
    intro h
    have hq := h q (by simp)
    have : Nat.beq p.2 q.2 = false := by
      cases hx : Nat.beq p.2 q.2 with
      | false => rfl
      | true => have := Nat.eq_of_beq_eq_true hx; omega
    simp only [inDead, this, Bool.and_false, Bool.false_or]
    exact ih fun r hr => h r (by simp [hr])
theorem alive_liv {m : Nat} {τ : AHeap} (hd : Liv m τ) {fam : Option (Nat × Nat)} (hf : ∀ p, fam = some p → m ≤ p.2) : τ.alive fam = true := by
  cases fam with
  | none => rfl
  | some p =>
    have := hf p rfl
    simp only [AHeap.alive, inDead_no (p := p) fun q hq => Nat.lt_of_lt_of_le (hd q hq) this, Bool.not_false]
theorem cellsFrom_ints {cs : Tr Value} : ∀ (n o : Nat) (l : List Int), (∀ i z, l[i]? = some z → cs.get (o + i) = some (i64 z)) → n ≤ l.length → cellsFrom cs o n = some ((l.take n).map i64) := by
  intro n
  induction n with
  | zero => intro o l _ _; rfl
  | succ n ih =>
    intro o l h hl
    cases l with
    | nil => simp at hl
    | cons z l =>
      have h0 := h 0 z rfl
      unfold cellsFrom
      rw [Nat.add_zero] at h0
      rw [h0, ih (o + 1) l (fun i x hx => by have := h (i + 1) x hx; rw [show o + 1 + i = o + (i + 1) by omega]; exact this) (by simpa using hl)]
      rfl
def Reads (σ τ : AHeap) : Prop := σ.n ≤ τ.n ∧ ∀ b o n, b < σ.n → τ.loadN b o n = σ.loadN b o n
theorem Reads.refl (σ : AHeap) : Reads σ σ := ⟨Nat.le_refl _, fun _ _ _ _ => rfl⟩
theorem Reads.trans {σ τ υ : AHeap} (h : Reads σ τ) (h' : Reads τ υ) : Reads σ υ := ⟨Nat.le_trans h.1 h'.1, fun b o n hb => (h'.2 b o n (Nat.lt_of_lt_of_le hb h.1)).trans (h.2 b o n hb)⟩
theorem Keeps.reads {σ τ : AHeap} (h : Keeps σ τ) : Reads σ τ := ⟨h.n, fun _ o n hb => h.load o n hb⟩
theorem app_step {base : Nat} {τ : AHeap} {v : Value} {l : List Int} {z : Int} {bx fx : Nat} (hd : Liv base τ) (hlow : τ.low ≤ base) (hbase : base ≤ τ.n) (ho : OutP base τ v l) (hx : τ.loadN bx 0 1 = some [i64 z]) (hl : l.length < 1000) :
    ∃ v' τ', appOp τ 1 8 v (.slice (some ⟨bx, 0, none⟩) 1 fx) = some (v', τ') ∧ OutP base τ' v' (l ++ [z]) ∧ τ'.dead = τ.dead ∧ τ'.low = τ.low ∧ (∀ b, b < base → τ'.t.get b = τ.t.get b) ∧ Reads τ τ' := by
  have hsrc : srcCells τ 1 (.slice (some ⟨bx, 0, none⟩) 1 fx) = some (1, [i64 z]) := by simp only [srcCells, Nat.one_mul, hx]
  have hlow' : minN τ.low τ.n = τ.low := by unfold minN; rw [if_pos (Nat.ble_eq_true_of_le (by omega))]
  have push_row : ∀ (σ : AHeap) (r : AObj) (b : Nat), b < σ.n → (σ.push r).t.get b = σ.t.get b := fun σ r b hb => by
    show (σ.t.ins σ.n r).get b = _
    rw [Tr.get_ins, if_neg (by omega)]
  rcases ho with ⟨rfl, rfl⟩ | ⟨b, cs, fam, rfl, h2, h3, h4, h5⟩
  · refine ⟨.slice (some ⟨τ.n, 0, none⟩) 1 1, τ.newRow [i64 z] 1, ?_, ?_, rfl, rfl, fun b hb => push_row τ _ b (by omega), ?_, ?_⟩
    · simp only [appOp, hsrc]; rfl
    · refine .inr ⟨τ.n, Tr.of [i64 z], none, rfl, ⟨hbase, by simp, fun p hp => by cases hp⟩, Nat.lt_succ_self _, ?_, ?_⟩
      · show (τ.t.ins τ.n _).get τ.n = _
        rw [Tr.get_ins, if_pos rfl]; rfl
      · intro i y hy
        rw [Tr.get_of]
        cases i with
        | zero => simp at hy; subst hy; rfl
        | succ i => simp at hy
    · exact Nat.le_succ _
    · intro b o n hb
      have : (τ.newRow [i64 z] 1).t.get b = τ.t.get b := push_row τ _ b hb
      unfold AHeap.loadN AHeap.row?
      rw [this]; rfl
  · have htie : base ≤ (tieP τ b fam).2 := by
      cases fam with
      | none => exact h2.1
      | some p => exact (h2.2.2 p rfl).1
    have htib : (tieP τ b fam).2 ≤ b := by
      cases fam with
      | none => exact Nat.le_refl _
      | some p => exact (h2.2.2 p rfl).2
    have hal := alive_liv hd fun p hp => (h2.2.2 p hp).1
    replace h2 := h2.1
    have hdn : inDead (tieP τ b fam) τ.dead = false := inDead_no fun q hq => Nat.lt_of_lt_of_le (hd q hq) htie
    have hb1 : Nat.ble ((l.length + 1) * 8) 140737488355328 = true := Nat.ble_eq_true_of_le (by omega)
    have hb2 : Nat.ble (l.length + 1) 140737488355328 = true := Nat.ble_eq_true_of_le (by omega)
    have hin : ∀ c, c < τ.n → ((τ.tie b cs l.length 1 fam).push (.row (cs.put l.length [i64 z]) (l.length + 1) 1 true true (some (tieP τ b fam)))).t.get c = if b = c then some (.row cs l.length 1 false true (some (tieP τ b fam))) else τ.t.get c := fun c hc => by
      rw [push_row _ _ _ (show c < (τ.tie b cs l.length 1 fam).n from hc)]
      show (τ.t.ins b _).get c = _
      rw [Tr.get_ins]
    refine ⟨.slice (some ⟨τ.n, 0, none⟩) (l.length + 1) 1, (τ.tie b cs l.length 1 fam).push (.row (cs.put l.length [i64 z]) (l.length + 1) 1 true true (some (tieP τ b fam))), ?_, ?_, rfl, ?_, ?_, ?_, ?_⟩
    · simp only [appOp, hsrc]
      rw [if_neg (by decide), if_neg (by rw [hb1, hb2]; decide), if_neg (by decide)]
      simp only [h4]
      rw [if_pos (by rw [hal, hdn]; simp)]
      rfl
    · refine .inr ⟨τ.n, cs.put l.length [i64 z], some (tieP τ b fam), by simp, ⟨hbase, by simp, fun p hp => by cases hp; exact ⟨htie, Nat.le_trans htib (Nat.le_of_lt h3)⟩⟩, Nat.lt_succ_self _, ?_, ?_⟩
      · show ((τ.tie b cs l.length 1 fam).t.ins τ.n _).get τ.n = _
        rw [Tr.get_ins, if_pos rfl]; simp
      · intro i y hy
        rw [Tr.get_put]
        by_cases hi : i < l.length
        · rw [if_neg (by omega)]
          rw [List.getElem?_append_left hi] at hy
          exact h5 i y hy
        · have hi' : i = l.length := by
            have := (List.getElem?_eq_some_iff.1 hy).1
            simp at this; omega
          subst hi'
          rw [if_pos (by simp)]
          simp at hy ⊢
          exact hy
    · show minN τ.low b = τ.low
      unfold minN; rw [if_pos (Nat.ble_eq_true_of_le (by omega))]
    · intro c hc
      rw [hin c (by omega), if_neg (by omega)]
    · exact Nat.le_succ _
    · intro c o n hc
      unfold AHeap.loadN AHeap.row?
      rw [hin c hc]
      by_cases hbc : b = c
      · subst hbc
        rw [if_pos rfl, h4]
        simp only
        have e2 : ((τ.tie b cs l.length 1 fam).push (.row (cs.put l.length [i64 z]) (l.length + 1) 1 true true (some (tieP τ b fam)))).alive (some (tieP τ b fam)) = true := alive_liv (show Liv base ((τ.tie b cs l.length 1 fam).push _) from hd) fun p hp => by cases hp; exact htie
        rw [hal, e2]
      · rw [if_neg hbc]
        have : ∀ fam', ((τ.tie b cs l.length 1 fam).push (.row (cs.put l.length [i64 z]) (l.length + 1) 1 true true (some (tieP τ b fam)))).alive fam' = τ.alive fam' := fun fam' => by
          cases fam' <;> rfl
        simp only [this]
theorem o_app {σ : AHeap} {t : Tmps} {K : Kt} {sz by_ : Nat} {s x : Operand} : EndsO (aop σ t (.app sz by_ s x)) K = EndsO (appOp σ sz by_ (ev t s) (ev t x)) K := rfl
def bslQ (x : Option (List Value)) (σ : AHeap) (L : List (List Value × Nat)) (sz len : Nat) (K : Kt) : Prop := match x with
  | some cs => if cs.all isCell = true then K (.slice (some ⟨σ.n + L.length, 0, none⟩) len (if Nat.beq len 0 then 0 else 1)) (σ.grow (L ++ [(cs, sz)])) else False
  | none => False
theorem bslQ_some {cs : List Value} {σ : AHeap} {L : List (List Value × Nat)} {sz len : Nat} {K : Kt} : bslQ (some cs) σ L sz len K = if cs.all isCell = true then K (.slice (some ⟨σ.n + L.length, 0, none⟩) len (if Nat.beq len 0 then 0 else 1)) (σ.grow (L ++ [(cs, sz)])) else False := rfl
theorem o_buildSl {σ : AHeap} {t : Tmps} {K : Kt} {z : List Value} {sz len : Nat} {ps : List (Nat × Nat × Operand)} {L : List (List Value × Nat)} :
    EndsO (aop (σ.grow L) t (.buildSl z sz len ps)) K = bslQ (fillL t z ps) σ L sz len K := by
  simp only [aop, bslQ, newRow_grow]
  cases fillL t z ps with
  | none => rfl
  | some cs => simp only; split <;> rfl
theorem OutP.sl {base : Nat} {τ : AHeap} {v : Value} {l : List Int} (h : OutP base τ v l) (hd : Liv base τ) : ∃ a f, v = .slice a l.length f ∧ SlI τ a l := by
  rcases h with ⟨rfl, rfl⟩ | ⟨b, cs, fam, rfl, h2, h3, h4, h5⟩
  · exact ⟨none, 0, rfl, .inl rfl⟩
  · refine ⟨_, 1, rfl, .inr ⟨b, rfl, h3, fun i x hx o n hon => ?_⟩⟩
    have hi := (List.getElem?_eq_some_iff.1 hx).1
    unfold AHeap.loadN AHeap.row?
    rw [h4]
    simp only [alive_liv hd fun p hp => (h2.2.2 p hp).1, if_true]
    rw [if_pos (Nat.ble_eq_true_of_le (by omega))]
    have hon' : (o = 0 ∧ n ≤ 1) ∨ (o = 1 ∧ n = 0) := by omega
    rcases hon' with ⟨rfl, hn⟩ | ⟨rfl, rfl⟩
    · have : n = 0 ∨ n = 1 := by omega
      rcases this with rfl | rfl
      · rfl
      · simp only [cellsFrom, Nat.mul_one, Nat.add_zero, h5 i x hx]; rfl
    · rfl
def finA (m : Nat) (res : List ARes) (R : Value → AHeap → Prop) : AEx → Tmps → AHeap → Prop
  | .exit _, _, _ => False
  | _, t, σ => (match resAll t σ res with | some vs => R (one vs) σ | none => False) ∧ σ.low = m
theorem finA_ret {m : Nat} {res : List ARes} {R : Value → AHeap → Prop} {t : Tmps} {σ : AHeap} : finA m res R .ret t σ = ((match resAll t σ res with | some vs => R (one vs) σ | none => False) ∧ σ.low = m) := rfl
theorem acall_addr [Frn] {E : FuncId → Option AFn} {fuel d : Nat} {f : FuncId} {N : Nat} {res : List ARes} {c : ACode} {args : List Value} {σ : AHeap} {R : Value → AHeap → Prop} (hE : E f = some ⟨N, res, c⟩) (hl : args.length ≤ N) (hlow : σ.low ≤ σ.n)
    (h : Ends (acode (acall E fuel d) fuel c (Tr.of args) (σ.fresh.grow [])) (finA σ.n res R)) :
    ∃ v τ', acall E fuel (d + 1) f args σ = some (v, τ') ∧ ∃ τ, R v τ ∧ ((flat v = true ∧ τ' = σ) ∨ τ' = τ.setLow σ.low) := by
  rw [grow_nil] at h
  simp only [acall, hE]
  rw [if_pos (Nat.ble_eq_true_of_le hl)]
  unfold AHeap.fresh at h
  have hm : minN σ.low σ.n = σ.low := by unfold minN; rw [if_pos (Nat.ble_eq_true_of_le hlow)]
  have fin : ∀ (t : Tmps) (τ : AHeap), ((match resAll t τ res with | some vs => R (one vs) τ | none => False) ∧ τ.low = σ.n) →
      ∃ v τ', (match resAll t τ res with | some vs => some (if (Nat.beq τ.low σ.n && flat (one vs)) = true then (one vs, σ) else (one vs, { τ with low := minN σ.low τ.low })) | none => none) = some (v, τ') ∧ ∃ τ, R v τ ∧ ((flat v = true ∧ τ' = σ) ∨ τ' = τ.setLow σ.low) := by
    rintro t τ ⟨h1, h2⟩
    cases hv : resAll t τ res with
    | none => rw [hv] at h1; exact h1.elim
    | some vs =>
      rw [hv] at h1
      simp only at h1 ⊢
      rw [h2, hm, Nat.beq_refl]
      cases hf : flat (one vs) with
      | true => exact ⟨one vs, σ, by simp, τ, h1, .inl ⟨hf, rfl⟩⟩
      | false => exact ⟨one vs, τ.setLow σ.low, by simp [AHeap.setLow], τ, h1, .inr rfl⟩
  cases hx : acode (acall E fuel d) fuel c (Tr.of args) { σ with low := σ.n } with
  | none => rw [hx] at h; exact h.elim
  | some p =>
    obtain ⟨e, t, τ⟩ := p
    rw [hx] at h
    cases e with
    | exit i => exact h.elim
    | normal => exact fin t τ h
    | ret => exact fin t τ h
theorem OutP.setLow {base : Nat} {τ : AHeap} {v : Value} {l : List Int} (h : OutP base τ v l) (m : Nat) : OutP base (τ.setLow m) v l := h
theorem OutP.flat {base : Nat} {τ σ : AHeap} {v : Value} {l : List Int} (h : OutP base τ v l) (hf : flat v = true) : OutP base σ v l := by
  rcases h with h | ⟨b, cs, fam, rfl, _⟩
  · exact .inl h
  · cases hf
theorem OutP.le {base base' : Nat} {τ : AHeap} {v : Value} {l : List Int} (h : OutP base τ v l) (hb : base' ≤ base) : OutP base' τ v l := by
  rcases h with h | ⟨b, cs, fam, h1, h2, h⟩
  · exact .inl h
  · exact .inr ⟨b, cs, fam, h1, ⟨Nat.le_trans hb h2.1, h2.2.1, fun p hp => ⟨Nat.le_trans hb (h2.2.2 p hp).1, (h2.2.2 p hp).2⟩⟩, h⟩
theorem Keeps.app {σ τ τ' : AHeap} (h : Keeps σ τ) (hr : Reads τ τ') (hd : τ'.dead = τ.dead) (hl : τ'.low = τ.low) (hb : ∀ b, b < σ.n → τ'.t.get b = τ.t.get b) : Keeps σ τ' :=
  ⟨Nat.le_trans h.n hr.1, hl.trans h.low, hd.trans h.dead, fun b hb' => (hb b hb').trans (h.row b hb')⟩
theorem Keeps.cut {σ τ : AHeap} {L : List (List Value × Nat)} (h : Keeps (σ.grow L) τ) : Keeps σ τ := (Keeps.self σ L).trans h
theorem Keeps.back {σ τ : AHeap} (h : Keeps σ.fresh τ) : Keeps σ (τ.setLow σ.low) := ⟨h.n, rfl, h.dead, h.row⟩
end Go.Hai
namespace Go.Hai
open Go
theorem load_row {τ : AHeap} {b : Nat} {l : List Value} {e o n : Nat} (h : τ.t.get b = some (rowOf (l, e))) (hl : o + n ≤ l.length) : τ.loadN b o n = some ((l.drop o).take n) := by
  unfold AHeap.loadN AHeap.row?
  rw [h]
  simp only [rowOf, AHeap.alive, if_true]
  rw [if_pos (Nat.ble_eq_true_of_le hl), cellsFrom_of _ _ _ hl]
theorem store_row {τ : AHeap} {b : Nat} {l vs : List Value} {e o : Nat} (h : τ.t.get b = some (rowOf (l, e))) (hlow : τ.low ≤ b) (hl : o + vs.length ≤ l.length) (hc : vs.all isCell = true) :
    ∃ τ', τ.storeN b o vs = some τ' ∧ τ'.t.get b = some (rowOf (setAll l o vs, e)) ∧ (∀ c, c ≠ b → τ'.t.get c = τ.t.get c) ∧ τ'.n = τ.n ∧ τ'.low = τ.low ∧ τ'.dead = τ.dead := by
  refine ⟨τ.wrote b (.row ((Tr.of l).put o vs) l.length e true true none) none, ?_, ?_, ?_, rfl, ?_, rfl⟩
  · unfold AHeap.storeN
    rw [h]
    simp only [rowOf, AHeap.alive, Bool.true_and]
    rw [if_pos (by rw [Nat.ble_eq_true_of_le hl, hc]; rfl)]
  · show (τ.t.ins b _).get b = _
    rw [Tr.get_ins, if_pos rfl, Tr.of_put _ _ _ hl]
    simp only [rowOf, setAll_length]
  · intro c hcb
    show (τ.t.ins b _).get c = _
    rw [Tr.get_ins, if_neg (fun e => hcb e.symm)]
  · show minN τ.low b = τ.low
    unfold minN; rw [if_pos (Nat.ble_eq_true_of_le hlow)]
def hadL (h : List Bool) : List Value := h.map .bool
theorem hadL_length (h : List Bool) : (hadL h).length = h.length := by simp [hadL]
theorem hadL_set (h : List Bool) (o : Nat) (r : Bool) : setAll (hadL h) o [.bool r] = hadL (h.set o r) := by simp [setAll, hadL, List.map_set]
theorem hadL_at {h : List Bool} {o : Nat} {r : Bool} (hr : h[o]? = some r) : ((hadL h).drop o).take 1 = [.bool r] := by
  have ho := (List.getElem?_eq_some_iff.1 hr).1
  have hl : (hadL h)[o]? = some (.bool r) := by simp [hadL, hr]
  have ho' : o < (hadL h).length := by rw [hadL_length]; exact ho
  rw [List.drop_eq_getElem_cons ho', List.take_succ_cons, List.take_zero]
  rw [List.getElem?_eq_getElem ho'] at hl
  simpa using hl
def mkQ (l c : Value) (z : List Value) (bytes : Nat) (σ : AHeap) (L : List (List Value × Nat)) (K : Kt) : Prop := match l, c with
  | .int .i64 a, .int .i64 b =>
    if 0 ≤ a ∧ a ≤ b ∧ b * bytes ≤ 140737488355328 ∧ b ≤ 140737488355328 then
      K (.slice (some ⟨σ.n + L.length, 0, none⟩) a.toNat (if b = 0 then 0 else 1)) (σ.grow (L ++ [((List.replicate a.toNat z).flatten, z.length)]))
    else False
  | _, _ => False
theorem o_mkSl {σ : AHeap} {t : Tmps} {K : Kt} {z : List Value} {bytes : Nat} {l c : Operand} {L : List (List Value × Nat)} :
    EndsO (aop (σ.grow L) t (.mkSl z bytes l c)) K = mkQ (ev t l) (ev t c) z bytes σ L K := by
  simp only [aop, mkQ, newRow_grow, grow_n]
  generalize ev t l = v
  generalize ev t c = u
  cases v with
  | int k a => cases k with
    | i64 => cases u with
      | int k b => cases k with
        | i64 =>
          by_cases h : 0 ≤ a ∧ a ≤ b ∧ b * bytes ≤ 140737488355328 ∧ b ≤ 140737488355328
          · simp only [if_pos h]; rfl
          · simp only [if_neg h]; rfl
        | _ => rfl
      | _ => rfl
    | _ => rfl
  | _ => rfl
theorem mkQ_bools {σ : AHeap} {L : List (List Value × Nat)} {K : Kt} {n : Nat} (h0 : 0 < n) (h1 : n < 1000) :
    mkQ (.int .i64 (n : Int)) (.int .i64 (n : Int)) [.bool false] 1 σ L K = K (.slice (some ⟨σ.n + L.length, 0, none⟩) n 1) (σ.grow (L ++ [(hadL (List.replicate n false), 1)])) := by
  unfold mkQ
  simp only
  rw [if_pos (by omega), if_neg (by omega)]
  have : (List.replicate (n : Int).toNat [Value.bool false]).flatten = hadL (List.replicate n false) := by
    simp [hadL, List.flatten_replicate_singleton]
  rw [this]
  rfl
structure Mod (hb : Nat) (σ τ : AHeap) : Prop where
  n : σ.n ≤ τ.n
  low : τ.low = σ.low
  dead : τ.dead = σ.dead
  row : ∀ b, b < σ.n → b ≠ hb → τ.t.get b = σ.t.get b
theorem Keeps.mod {hb : Nat} {σ τ : AHeap} (h : Keeps σ τ) : Mod hb σ τ := ⟨h.n, h.low, h.dead, fun b hb _ => h.row b hb⟩
theorem Mod.refl (hb : Nat) (σ : AHeap) : Mod hb σ σ := (Keeps.refl σ).mod
theorem Mod.trans {hb : Nat} {σ τ υ : AHeap} (h : Mod hb σ τ) (h' : Mod hb τ υ) : Mod hb σ υ :=
  ⟨Nat.le_trans h.n h'.n, h'.low.trans h.low, h'.dead.trans h.dead, fun b h1 h2 => (h'.row b (Nat.lt_of_lt_of_le h1 h.n) h2).trans (h.row b h1 h2)⟩
theorem Mod.grow {hb : Nat} {σ τ : AHeap} (h : Mod hb σ τ) (L : List (List Value × Nat)) : Mod hb σ (τ.grow L) := h.trans (Keeps.self τ L).mod
theorem Mod.load {hb : Nat} {σ τ : AHeap} (h : Mod hb σ τ) {b : Nat} (o n : Nat) (h1 : b < σ.n) (h2 : b ≠ hb) : τ.loadN b o n = σ.loadN b o n := by
  unfold AHeap.loadN AHeap.row? AHeap.alive
  rw [h.row b h1 h2, h.dead]
theorem SlP.mod {α : Type} {cells : α → List Value} {es hb : Nat} {ρ σ τ : AHeap} {a : Option Addr} {l : List α} (h : SlP cells es ρ a l) (k : Keeps ρ σ) (hn : ρ.n ≤ hb) (m : Mod hb σ τ) : SlP cells es τ a l := by
  rcases h with h | ⟨b, e, hb'⟩
  · exact .inl h
  · have h1 := Nat.lt_of_lt_of_le hb'.1 k.n
    refine .inr ⟨b, e, Nat.lt_of_lt_of_le h1 m.n, fun i x hx o n ho => ?_⟩
    rw [m.load _ _ h1 (by have := hb'.1; omega), k.load _ _ hb'.1]
    exact hb'.2 i x hx o n ho
theorem Mod.store {τ : AHeap} {b : Nat} {l vs : List Value} {e o : Nat} (h : τ.t.get b = some (rowOf (l, e))) (hlow : τ.low ≤ b) (hl : o + vs.length ≤ l.length) (hc : vs.all isCell = true) :
    ∃ τ', τ.storeN b o vs = some τ' ∧ τ'.t.get b = some (rowOf (setAll l o vs, e)) ∧ Mod b τ τ' ∧ τ'.n = τ.n := by
  obtain ⟨τ', h1, h2, h3, h4, h5, h6⟩ := store_row h hlow hl hc
  exact ⟨τ', h1, h2, ⟨Nat.le_of_eq h4.symm, h5, h6, fun c _ hc => h3 c hc⟩, h4⟩
theorem o_mkFn {σ : AHeap} {t : Tmps} {K : Kt} {f : FuncId} {first cap : List Operand} : EndsO (aop σ t (.mkFn f first cap)) K = K (.func (.func f) (first.map (ev t)).toArray (cap.map (ev t)).toArray) σ := rfl
def cvQ (x : Value) (vs : List Value) (call : CallF) (σ : AHeap) (K : Kt) : Prop := match x with | .func (.func f) first cap => EndsO (call f (first.toList ++ (vs ++ cap.toList)) σ) K | _ => False
theorem cvQ_fn {f : FuncId} {a b vs : List Value} {call : CallF} {σ : AHeap} {K : Kt} : cvQ (.func (.func f) a.toArray b.toArray) vs call σ K = EndsO (call f (a ++ (vs ++ b)) σ) K := rfl
theorem o_callV {call : CallF} {σ : AHeap} {t : Tmps} {K : Kt} {x : Operand} {xs : List Operand} : EndsO (aoper call (.callV x xs) t σ) K = cvQ (ev t x) (xs.map (ev t)) call σ K := by
  simp only [aoper, cvQ]
  cases ev t x with
  | func f a b => cases f <;> rfl
  | _ => rfl
def firstI {α : Type} (p : α → Bool) : List α → Nat → Int
  | [], _ => -1
  | x :: l, i => if p x then i else firstI p l (i + 1)
theorem firstI_at {α : Type} {p : α → Bool} : ∀ {l : List α} {i k : Nat} {x : α}, (∀ (j : Nat) (y : α), j < i → l[j]? = some y → p y = false) → l[i]? = some x → p x = true → firstI p l k = ((k + i : Nat) : Int) := by
  intro l
  induction l with
  | nil => intro i k x _ h; simp at h
  | cons a l ih =>
    intro i k x hj hx hp
    cases i with
    | zero => simp at hx; subst hx; simp [firstI, hp]
    | succ i =>
      have h0 := hj 0 a (by omega) rfl
      simp only [firstI, h0, Bool.false_eq_true, if_false]
      rw [ih (i := i) (k := k + 1) (x := x) (fun j y h1 h2 => hj (j + 1) y (by omega) (by simpa using h2)) (by simpa using hx) hp]
      congr 1; omega
theorem firstI_none {α : Type} {p : α → Bool} : ∀ {l : List α} {k : Nat}, (∀ (j : Nat) (y : α), l[j]? = some y → p y = false) → firstI p l k = -1 := by
  intro l
  induction l with
  | nil => intro k _; rfl
  | cons a l ih =>
    intro k hj
    have h0 := hj 0 a rfl
    simp only [firstI, h0, Bool.false_eq_true, if_false]
    exact ih fun j y h => hj (j + 1) y (by simpa using h)
end Go.Hai
namespace Go.Hai
open Go
def MapHas (τ : AHeap) (m : Nat) (V : List Int) : Prop := ∃ es c, τ.t.get m = some (.obj (.map es c)) ∧ es.toList.map (fun e => (e.key, e.val)) = V.map (fun n => (i64 n, Value.bool true))
structure WM (m : Nat) (σ τ : AHeap) : Prop where
  n : σ.n ≤ τ.n
  low : τ.low = σ.low ∨ τ.low = minN σ.low m
  dead : τ.dead = σ.dead
  row : ∀ b, b < σ.n → b ≠ m → τ.t.get b = σ.t.get b
theorem minN_le (a b : Nat) : minN a b ≤ a ∧ minN a b ≤ b := by
  unfold minN
  split
  · next h => exact ⟨Nat.le_refl _, Nat.le_of_ble_eq_true h⟩
  · next h => exact ⟨by have : ¬ a ≤ b := fun e => h (Nat.ble_eq_true_of_le e); omega, Nat.le_refl _⟩
theorem minN_min (a b : Nat) : minN a b = min a b := by
  have := minN_le a b
  unfold minN at *
  split
  · next h => have := Nat.le_of_ble_eq_true h; omega
  · next h => have : ¬ a ≤ b := fun e => h (Nat.ble_eq_true_of_le e); omega
theorem WM.refl (m : Nat) (σ : AHeap) : WM m σ σ := ⟨Nat.le_refl _, .inl rfl, rfl, fun _ _ _ => rfl⟩
theorem WM.trans {m : Nat} {σ τ υ : AHeap} (h : WM m σ τ) (h' : WM m τ υ) : WM m σ υ := by
  refine ⟨Nat.le_trans h.n h'.n, ?_, h'.dead.trans h.dead, fun b h1 h2 => (h'.row b (Nat.lt_of_lt_of_le h1 h.n) h2).trans (h.row b h1 h2)⟩
  have a := h.low
  have b := h'.low
  rw [minN_min] at *
  rcases a with a | a <;> rcases b with b | b <;> rw [a] at b <;> omega
theorem Keeps.wm {m : Nat} {σ τ : AHeap} (h : Keeps σ τ) : WM m σ τ := ⟨h.n, .inl h.low, h.dead, fun b hb _ => h.row b hb⟩
theorem WM.grow {m : Nat} {σ τ : AHeap} (h : WM m σ τ) (L : List (List Value × Nat)) : WM m σ (τ.grow L) := h.trans (Keeps.self τ L).wm
theorem WM.load {m : Nat} {σ τ : AHeap} (h : WM m σ τ) {b : Nat} (o n : Nat) (h1 : b < σ.n) (h2 : b ≠ m) : τ.loadN b o n = σ.loadN b o n := by
  unfold AHeap.loadN AHeap.row? AHeap.alive
  rw [h.row b h1 h2, h.dead]
theorem MapHas.load {σ : AHeap} {m : Nat} {V : List Int} (h : MapHas σ m V) (o n : Nat) : σ.loadN m o n = none := by
  obtain ⟨es, c, h1, _⟩ := h
  unfold AHeap.loadN AHeap.row?
  rw [h1]
theorem MapHas.keeps {σ τ : AHeap} {m : Nat} {V : List Int} (h : MapHas σ m V) (hk : τ.t.get m = σ.t.get m) : MapHas τ m V := by
  obtain ⟨es, c, h1, h2⟩ := h
  exact ⟨es, c, hk.trans h1, h2⟩
theorem SlP.wm {α : Type} {cells : α → List Value} {es m : Nat} {σ τ : AHeap} {a : Option Addr} {l : List α} {V : List Int} (h : SlP cells es σ a l) (hm : MapHas σ m V) (w : WM m σ τ) : SlP cells es τ a l := by
  cases l with
  | nil => exact .inl rfl
  | cons x l =>
    obtain ⟨b, e, hb⟩ := h.resolve_left (by simp)
    have hne : b ≠ m := by
      rintro rfl
      have := hb.2 0 x rfl 0 0 (by omega)
      rw [hm.load] at this
      cases this
    exact .inr ⟨b, e, Nat.lt_of_lt_of_le hb.1 w.n, fun i y hy o n ho => by rw [w.load _ _ hb.1 hne]; exact hb.2 i y hy o n ho⟩
theorem findNow_ints (n : Int) : ∀ (es : List MapEntry) (V : List Int) (i : Nat), es.map (fun e => (e.key, e.val)) = V.map (fun n => (i64 n, Value.bool true)) →
    (V.contains n = true → ∃ j, Instr.findNow (.int .i64) (.int .i64 n) es i = some (some (j, .bool true))) ∧ (V.contains n = false → Instr.findNow (.int .i64) (.int .i64 n) es i = some none) := by
  intro es
  induction es with
  | nil =>
    intro V i h
    cases V with
    | nil => exact ⟨fun h => by simp at h, fun _ => rfl⟩
    | cons v V => simp at h
  | cons e es ih =>
    intro V i h
    cases V with
    | nil => simp at h
    | cons v V =>
      simp only [List.map_cons, List.cons.injEq, Prod.mk.injEq] at h
      obtain ⟨⟨h1, h2⟩, h3⟩ := h
      have hs : Instr.sameNow (.int .i64) (.int .i64 n) e.key = some (n == v) := by rw [h1]; simp [Instr.sameNow]
      simp only [Instr.findNow, hs, List.contains_cons]
      cases hnv : (n == v) with
      | true => exact ⟨fun _ => ⟨i, by rw [h2]⟩, fun h => by simp at h⟩
      | false => simpa using ih V (i + 1) h3
def lkO (σ : AHeap) (k : IntKind) (z x i : Value) (ok : Bool) : Option (Value × AHeap) := match x, i with
  | .map (some b), .int k' i => match asMap (σ.t.get b) with
    | some (es, _) => if k = k' then (match Instr.findNow (.int k) (.int k i) es.toList 0 with
      | some (some (_, v)) => if scal v then some (if ok then .tuple #[v, .bool true] else v, σ) else none
      | some none => some (if ok then .tuple #[z, .bool false] else z, σ)
      | none => none) else none
    | none => none
  | _, _ => none
theorem o_lookup {σ : AHeap} {t : Tmps} {K : Kt} {k : IntKind} {z : Value} {x i : Operand} {ok : Bool} : EndsO (aop σ t (.lookup k z x i ok)) K = EndsO (lkO σ k z (ev t x) (ev t i) ok) K := rfl
theorem lkO_ok {σ : AHeap} {m : Nat} {V : List Int} (h : MapHas σ m V) (n : Int) : lkO σ .i64 (.bool false) (.map (some m)) (.int .i64 n) false = some (.bool (V.contains n), σ) := by
  obtain ⟨es, c, h1, h2⟩ := h
  have := findNow_ints n es.toList V 0 h2
  simp only [lkO, h1, asMap, if_true]
  cases hc : V.contains n with
  | true => obtain ⟨j, hj⟩ := this.1 hc; simp [hj, scal]
  | false => simp [this.2 hc]
def muO (σ : AHeap) (k : IntKind) (x i v : Value) : Option (Value × AHeap) := match x, i with
  | .map (some b), .int k' i => match asMap (σ.t.get b) with
    | some (es, c) =>
      if k = k' ∧ scal v = true then
        (match Instr.findNow (.int k) (.int k i) es.toList 0 with
        | some none => some (undef, { σ with t := σ.t.ins b (.obj (.map (es.push { key := .int k i, val := v, born := c }) (c + 1))), low := minN σ.low b })
        | some (some (j, _)) => some (undef, { σ with t := σ.t.ins b (.obj (.map (es.modify j fun e => { e with key := .int k i, val := v }) c)), low := minN σ.low b })
        | none => none)
      else none
    | none => none
  | _, _ => none
theorem o_mupd {σ : AHeap} {t : Tmps} {K : Kt} {k : IntKind} {m i v : Operand} : EndsO (aop σ t (.mupd k m i v)) K = EndsO (muO σ k (ev t m) (ev t i) (ev t v)) K := rfl
theorem muO_ok {σ : AHeap} {m : Nat} {V : List Int} (h : MapHas σ m V) {n : Int} (hn : V.contains n = false) :
    ∃ τ, muO σ .i64 (.map (some m)) (.int .i64 n) (.bool true) = some (undef, τ) ∧ MapHas τ m (V ++ [n]) ∧ WM m σ τ ∧ τ.n = σ.n ∧ τ.low = minN σ.low m := by
  obtain ⟨es, c, h1, h2⟩ := h
  have := (findNow_ints n es.toList V 0 h2).2 hn
  refine ⟨{ σ with t := σ.t.ins m (.obj (.map (es.push { key := .int .i64 n, val := .bool true, born := c }) (c + 1))), low := minN σ.low m }, ?_, ?_, ?_, rfl, rfl⟩
  · simp only [muO, h1, asMap, this, scal, and_self, if_true]
  · refine ⟨es.push { key := .int .i64 n, val := .bool true, born := c }, c + 1, ?_, ?_⟩
    · show (σ.t.ins m _).get m = _
      rw [Tr.get_ins, if_pos rfl]
    · simp [h2]
  · refine ⟨Nat.le_refl _, .inr rfl, rfl, fun b _ hb => ?_⟩
    show (σ.t.ins m _).get b = _
    rw [Tr.get_ins, if_neg (fun e => hb e.symm)]
theorem o_mkMap {σ : AHeap} {t : Tmps} {K : Kt} : EndsO (aop σ t .mkMap) K = K (.map (some σ.n)) (σ.push (.obj (.map #[] 0))) := rfl
theorem mapNew (σ : AHeap) : MapHas (σ.push (.obj (.map #[] 0))) σ.n [] ∧ Keeps σ (σ.push (.obj (.map #[] 0))) := by
  refine ⟨⟨#[], 0, ?_, rfl⟩, ⟨Nat.le_succ _, rfl, rfl, fun b hb => ?_⟩⟩
  · show (σ.t.ins σ.n _).get σ.n = _
    rw [Tr.get_ins, if_pos rfl]
  · show (σ.t.ins σ.n _).get b = _
    rw [Tr.get_ins, if_neg (by omega)]
theorem few : ∀ (n : Nat) (V : List Int), V.Nodup → (∀ x ∈ V, 0 ≤ x ∧ x < n) → V.length ≤ n := by
  intro n
  induction n with
  | zero =>
    intro V _ h
    cases V with
    | nil => simp
    | cons x V => have := h x (by simp); omega
  | succ n ih =>
    intro V hV h
    have h1 := ih (V.erase n) (hV.erase _) fun x hx => by
      have h2 := h x (List.mem_of_mem_erase hx)
      have h3 : x ≠ n := fun e => by subst e; exact (hV.not_mem_erase) hx
      omega
    have h4 : V.length ≤ (V.erase n).length + 1 := by
      rw [List.length_erase]
      split <;> omega
    omega
def finE (res : List ARes) (R : Value → AHeap → Prop) : AEx → Tmps → AHeap → Prop
  | .exit _, _, _ => False
  | _, t, σ => match resAll t σ res with | some vs => R (one vs) σ | none => False
theorem finE_ret {res : List ARes} {R : Value → AHeap → Prop} {t : Tmps} {σ : AHeap} : finE res R .ret t σ = (match resAll t σ res with | some vs => R (one vs) σ | none => False) := rfl
theorem finE_normal {res : List ARes} {R : Value → AHeap → Prop} {t : Tmps} {σ : AHeap} : finE res R .normal t σ = (match resAll t σ res with | some vs => R (one vs) σ | none => False) := rfl
theorem acall_eff [Frn] {E : FuncId → Option AFn} {fuel d : Nat} {f : FuncId} {N : Nat} {res : List ARes} {c : ACode} {args : List Value} {σ : AHeap} {R : Value → AHeap → Prop} (hE : E f = some ⟨N, res, c⟩) (hl : args.length ≤ N)
    (h : Ends (acode (acall E fuel d) fuel c (Tr.of args) (σ.fresh.grow [])) (finE res R)) :
    ∃ v τ', acall E fuel (d + 1) f args σ = some (v, τ') ∧ ∃ τ, R v τ ∧ ((τ.low = σ.n ∧ flat v = true ∧ τ' = σ) ∨ τ' = τ.setLow (minN σ.low τ.low)) := by
  rw [grow_nil] at h
  simp only [acall, hE]
  rw [if_pos (Nat.ble_eq_true_of_le hl)]
  unfold AHeap.fresh at h
  have fin : ∀ (t : Tmps) (τ : AHeap), (match resAll t τ res with | some vs => R (one vs) τ | none => False) →
      ∃ v τ', (match resAll t τ res with | some vs => some (if (Nat.beq τ.low σ.n && flat (one vs)) = true then (one vs, σ) else (one vs, { τ with low := minN σ.low τ.low })) | none => none) = some (v, τ') ∧ ∃ τ, R v τ ∧ ((τ.low = σ.n ∧ flat v = true ∧ τ' = σ) ∨ τ' = τ.setLow (minN σ.low τ.low)) := by
    intro t τ h1
    cases hv : resAll t τ res with
    | none => rw [hv] at h1; exact h1.elim
    | some vs =>
      rw [hv] at h1
      simp only at h1 ⊢
      cases hf : (Nat.beq τ.low σ.n && flat (one vs)) with
      | true =>
        simp only [Bool.and_eq_true] at hf
        exact ⟨one vs, σ, by simp, τ, h1, .inl ⟨Nat.eq_of_beq_eq_true hf.1, hf.2, rfl⟩⟩
      | false => exact ⟨one vs, τ.setLow (minN σ.low τ.low), by simp [AHeap.setLow], τ, h1, .inr rfl⟩
  cases hx : acode (acall E fuel d) fuel c (Tr.of args) { σ with low := σ.n } with
  | none => rw [hx] at h; exact h.elim
  | some p =>
    obtain ⟨e, t, τ⟩ := p
    rw [hx] at h
    cases e with
    | exit i => exact h.elim
    | normal => exact fin t τ h
    | ret => exact fin t τ h
theorem OutP.mod {base hb : Nat} {σ τ : AHeap} {v : Value} {l : List Int} (h : OutP base σ v l) (m : Mod hb σ τ) (hb' : hb < base) : OutP base τ v l := by
  rcases h with h | ⟨b, cs, fam, h1, h2, h3, h4, h5⟩
  · exact .inl h
  · exact .inr ⟨b, cs, fam, h1, h2, Nat.lt_of_lt_of_le h3 m.n, by rw [m.row b h3 (by omega)]; exact h4, h5⟩
theorem st4_0 {x0 x1 x2 x3 v : Value} : setAll [x0, x1, x2, x3] 0 [v] = [v, x1, x2, x3] := rfl
theorem st4_1 {x0 x1 x2 x3 v : Value} : setAll [x0, x1, x2, x3] 1 [v] = [x0, v, x2, x3] := rfl
theorem st4_2 {x0 x1 x2 x3 v : Value} : setAll [x0, x1, x2, x3] 2 [v] = [x0, x1, v, x3] := rfl
theorem st4_3 {x0 x1 x2 x3 v : Value} : setAll [x0, x1, x2, x3] 3 [v] = [x0, x1, x2, v] := rfl
theorem st5_0 {x0 x1 x2 x3 x4 v : Value} : setAll [x0, x1, x2, x3, x4] 0 [v] = [v, x1, x2, x3, x4] := rfl
theorem st5_1 {x0 x1 x2 x3 x4 v : Value} : setAll [x0, x1, x2, x3, x4] 1 [v] = [x0, v, x2, x3, x4] := rfl
theorem st5_2 {x0 x1 x2 x3 x4 v : Value} : setAll [x0, x1, x2, x3, x4] 2 [v] = [x0, x1, v, x3, x4] := rfl
theorem st5_3 {x0 x1 x2 x3 x4 v : Value} : setAll [x0, x1, x2, x3, x4] 3 [v] = [x0, x1, x2, v, x4] := rfl
theorem st5_4 {x0 x1 x2 x3 x4 v : Value} : setAll [x0, x1, x2, x3, x4] 4 [v] = [x0, x1, x2, x3, v] := rfl
theorem st13_0 {x0 x1 x2 x3 x4 x5 x6 x7 x8 x9 x10 x11 x12 v : Value} : setAll [x0, x1, x2, x3, x4, x5, x6, x7, x8, x9, x10, x11, x12] 0 [v] = [v, x1, x2, x3, x4, x5, x6, x7, x8, x9, x10, x11, x12] := rfl
theorem st13_1 {x0 x1 x2 x3 x4 x5 x6 x7 x8 x9 x10 x11 x12 v : Value} : setAll [x0, x1, x2, x3, x4, x5, x6, x7, x8, x9, x10, x11, x12] 1 [v] = [x0, v, x2, x3, x4, x5, x6, x7, x8, x9, x10, x11, x12] := rfl
theorem st13_2 {x0 x1 x2 x3 x4 x5 x6 x7 x8 x9 x10 x11 x12 v : Value} : setAll [x0, x1, x2, x3, x4, x5, x6, x7, x8, x9, x10, x11, x12] 2 [v] = [x0, x1, v, x3, x4, x5, x6, x7, x8, x9, x10, x11, x12] := rfl
theorem st13_3 {x0 x1 x2 x3 x4 x5 x6 x7 x8 x9 x10 x11 x12 v : Value} : setAll [x0, x1, x2, x3, x4, x5, x6, x7, x8, x9, x10, x11, x12] 3 [v] = [x0, x1, x2, v, x4, x5, x6, x7, x8, x9, x10, x11, x12] := rfl
theorem st13_4 {x0 x1 x2 x3 x4 x5 x6 x7 x8 x9 x10 x11 x12 v : Value} : setAll [x0, x1, x2, x3, x4, x5, x6, x7, x8, x9, x10, x11, x12] 4 [v] = [x0, x1, x2, x3, v, x5, x6, x7, x8, x9, x10, x11, x12] := rfl
theorem st13_5 {x0 x1 x2 x3 x4 x5 x6 x7 x8 x9 x10 x11 x12 v : Value} : setAll [x0, x1, x2, x3, x4, x5, x6, x7, x8, x9, x10, x11, x12] 5 [v] = [x0, x1, x2, x3, x4, v, x6, x7, x8, x9, x10, x11, x12] := rfl
theorem st13_6 {x0 x1 x2 x3 x4 x5 x6 x7 x8 x9 x10 x11 x12 v : Value} : setAll [x0, x1, x2, x3, x4, x5, x6, x7, x8, x9, x10, x11, x12] 6 [v] = [x0, x1, x2, x3, x4, x5, v, x7, x8, x9, x10, x11, x12] := rfl
theorem st13_7 {x0 x1 x2 x3 x4 x5 x6 x7 x8 x9 x10 x11 x12 v : Value} : setAll [x0, x1, x2, x3, x4, x5, x6, x7, x8, x9, x10, x11, x12] 7 [v] = [x0, x1, x2, x3, x4, x5, x6, v, x8, x9, x10, x11, x12] := rfl
theorem st13_8 {x0 x1 x2 x3 x4 x5 x6 x7 x8 x9 x10 x11 x12 v : Value} : setAll [x0, x1, x2, x3, x4, x5, x6, x7, x8, x9, x10, x11, x12] 8 [v] = [x0, x1, x2, x3, x4, x5, x6, x7, v, x9, x10, x11, x12] := rfl
theorem st13_9 {x0 x1 x2 x3 x4 x5 x6 x7 x8 x9 x10 x11 x12 v : Value} : setAll [x0, x1, x2, x3, x4, x5, x6, x7, x8, x9, x10, x11, x12] 9 [v] = [x0, x1, x2, x3, x4, x5, x6, x7, x8, v, x10, x11, x12] := rfl
theorem st13_10 {x0 x1 x2 x3 x4 x5 x6 x7 x8 x9 x10 x11 x12 v : Value} : setAll [x0, x1, x2, x3, x4, x5, x6, x7, x8, x9, x10, x11, x12] 10 [v] = [x0, x1, x2, x3, x4, x5, x6, x7, x8, x9, v, x11, x12] := rfl
theorem st13_11 {x0 x1 x2 x3 x4 x5 x6 x7 x8 x9 x10 x11 x12 v : Value} : setAll [x0, x1, x2, x3, x4, x5, x6, x7, x8, x9, x10, x11, x12] 11 [v] = [x0, x1, x2, x3, x4, x5, x6, x7, x8, x9, x10, v, x12] := rfl
theorem st13_12 {x0 x1 x2 x3 x4 x5 x6 x7 x8 x9 x10 x11 x12 v : Value} : setAll [x0, x1, x2, x3, x4, x5, x6, x7, x8, x9, x10, x11, x12] 12 [v] = [x0, x1, x2, x3, x4, x5, x6, x7, x8, x9, x10, x11, v] := rfl
theorem ev_func (t : Tmps) (f : FuncId) : ev t (.func f) = .func (.func f) ([] : List Value).toArray ([] : List Value).toArray := rfl
end Go.Hai
namespace Go.Hai
open Go
def EndsX (call : CallF) (ops : List AOper) (t : Tmps) (σ : AHeap) (Q : Tmps → AHeap → Prop) : Prop := match runDraw call ops t σ with
  | some p => Q p.1 p.2.1
  | none => False
def kontX (call : CallF) (os : List AOper) (t : Tmps) (σ : AHeap) (Q : Tmps → AHeap → Prop) (d : Option Nat) (v : Value) (σ' : AHeap) : Prop := EndsX call os (setD t d v) { σ' with low := minN σ.low σ'.low } Q
section
variable {call : CallF} {os : List AOper} {t : Tmps} {σ : AHeap} {Q : Tmps → AHeap → Prop} {d : Option Nat} {op : AOp}
theorem x_nil : EndsX call [] t σ Q = Q t σ := rfl
theorem x_some {g : Option (Nat × Bool)} (hw : wants t g = true) : EndsX call (.mk d g op :: os) t σ Q = EndsO (aoper call op t (σ.setLow σ.n)) (kontX call os t σ Q d) := by
  unfold EndsX
  simp only [runDraw, hw, if_true]
  show _ = EndsO (aoper call op t { σ with low := σ.n }) _
  cases aoper call op t { σ with low := σ.n } with
  | none => rfl
  | some p =>
    obtain ⟨v, σ'⟩ := p
    simp only [EndsO, kontX, EndsX]
    cases runDraw call os (setD t d v) { σ' with low := minN σ.low σ'.low } <;> rfl
theorem x_1 : EndsX call (.mk d none op :: os) t σ Q = EndsO (aoper call op t (σ.setLow σ.n)) (kontX call os t σ Q d) := x_some rfl
theorem kontX_ok (h : σ.low ≤ σ.n) {v : Value} : kontX call os t σ Q d v (σ.setLow σ.n) = EndsX call os (setD t d v) σ Q := by
  unfold kontX
  have e2 : ({ σ.setLow σ.n with low := minN σ.low (σ.setLow σ.n).low } : AHeap) = σ := by
    have e3 : minN σ.low σ.n = σ.low := by unfold minN; rw [if_pos (Nat.ble_eq_true_of_le h)]
    show AHeap.mk σ.t σ.n σ.nf σ.dead (minN σ.low σ.n) = σ
    rw [e3]
  rw [e2]
theorem kontX_grow (h : σ.low ≤ σ.n) {L : List (List Value × Nat)} {v : Value} : kontX call os t (σ.grow L) Q d v ((σ.grow L).setLow (σ.grow L).n) = EndsX call os (setD t d v) (σ.grow L) Q := kontX_ok (low_grow h L)
end
theorem stX {call : CallF} {os : List AOper} {t : Tmps} {σ : AHeap} {Q : Tmps → AHeap → Prop} {d : Option Nat} (hlow : σ.low ≤ σ.n) (L : List (List Value × Nat)) (k o : Nat) (vs : List Value) {r : List Value} {e : Nat} (h : L[k]? = some (r, e)) :
    heapQ (((σ.grow L).setLow (σ.grow L).n).storeN (σ.n + k) o vs) (kontX call os t (σ.grow L) Q d) = if o + vs.length ≤ r.length ∧ vs.all isCell = true then EndsX call os (setD t d undef) (σ.grow (L.set k (setAll r o vs, e))) Q else False := by
  have hk : k < L.length := (List.getElem?_eq_some_iff.1 h).1
  have hg : ((σ.grow L).setLow (σ.grow L).n).t.get (σ.n + k) = some (rowOf (r, e)) := grow_new σ L k h
  by_cases hc : o + vs.length ≤ r.length ∧ vs.all isCell = true
  · rw [if_pos hc]
    have hs := store_new σ L k o vs hlow h hc.1 hc.2
    unfold AHeap.storeN at hs ⊢
    rw [hg]
    rw [grow_new σ L k h] at hs
    simp only [rowOf, AHeap.alive, Bool.true_and] at hs ⊢
    rw [if_pos (by rw [Nat.ble_eq_true_of_le hc.1, hc.2]; rfl)] at hs ⊢
    simp only [Option.some.injEq] at hs
    simp only [heapQ, kontX]
    rw [← hs]
    have hl1 : minN σ.low (minN (σ.n + L.length) (σ.n + k)) = σ.low := by rw [minN_min, minN_min]; omega
    have hl2 : minN σ.low (σ.n + k) = σ.low := by rw [minN_min]; omega
    have e : ({ ((σ.grow L).setLow (σ.grow L).n).wrote (σ.n + k) (.row ((Tr.of r).put o vs) r.length e true true none) none with low := minN (σ.grow L).low (((σ.grow L).setLow (σ.grow L).n).wrote (σ.n + k) (.row ((Tr.of r).put o vs) r.length e true true none) none).low } : AHeap) =
        (σ.grow L).wrote (σ.n + k) (.row ((Tr.of r).put o vs) r.length e true true none) none := by
      show AHeap.mk _ _ _ _ (minN σ.low (minN (σ.n + L.length) (σ.n + k))) = AHeap.mk _ _ _ _ (minN σ.low (σ.n + k))
      rw [hl1, hl2]
      rfl
    rw [e]
  · rw [if_neg hc]
    unfold AHeap.storeN
    rw [hg]
    simp only [rowOf, AHeap.alive, Bool.true_and]
    rw [if_neg (fun hb => hc (by simp only [Bool.and_eq_true] at hb; exact ⟨Nat.le_of_ble_eq_true hb.1, hb.2⟩))]
    rfl
theorem stX_2 {call : CallF} {os : List AOper} {t : Tmps} {σ : AHeap} {Q : Tmps → AHeap → Prop} {d : Option Nat} (hlow : σ.low ≤ σ.n) {a0 a1 r : List Value} {b0 b1 e : Nat} {l : List (List Value × Nat)} {o : Nat} {vs : List Value} :
    heapQ (((σ.grow ((a0, b0) :: (a1, b1) :: (r, e) :: l)).setLow (σ.grow ((a0, b0) :: (a1, b1) :: (r, e) :: l)).n).storeN (σ.n + 2) o vs) (kontX call os t (σ.grow ((a0, b0) :: (a1, b1) :: (r, e) :: l)) Q d) =
      if o + vs.length ≤ r.length ∧ vs.all isCell = true then EndsX call os (setD t d undef) (σ.grow ((a0, b0) :: (a1, b1) :: (setAll r o vs, e) :: l)) Q else False := stX hlow _ 2 o vs rfl
theorem ends_drw0 {call : CallF} {fuel : Nat} {ops : List AOper} {bef : List Nat} {t : Tmps} {σ : AHeap} {Q : AEx → Tmps → AHeap → Prop} (hr : risks (marks ops bef) 0 = []) : Ends (acode call fuel (.drw ops bef) t σ) Q = EndsX call ops t σ (Q .normal) := by
  simp only [acode]
  unfold EndsX Ends
  rw [hr]
  cases runDraw call ops t σ with
  | none => rfl
  | some p => obtain ⟨t', σ', ks⟩ := p; rfl
end Go.Hai
namespace Go.Hai
open Go
def flatL {α : Type} (cells : α → List Value) (l : List α) : List Value := (l.map cells).flatten
section
variable {α : Type} {cells : α → List Value} {es : Nat}
theorem flatL_length (hes : ∀ x, (cells x).length = es) : ∀ l : List α, (flatL cells l).length = l.length * es := by
  intro l
  induction l with
  | nil => simp [flatL]
  | cons a l ih =>
    unfold flatL at ih ⊢
    simp only [List.map_cons, List.flatten_cons, List.length_append, List.length_cons, hes, ih]
    rw [Nat.succ_mul]; omega
theorem flatL_drop (hes : ∀ x, (cells x).length = es) : ∀ (l : List α) (i : Nat) (x : α), l[i]? = some x → ∃ r, (flatL cells l).drop (i * es) = cells x ++ r := by
  intro l
  induction l with
  | nil => intro i x h; simp at h
  | cons a l ih =>
    intro i x h
    cases i with
    | zero => simp at h; subst h; exact ⟨flatL cells l, by simp [flatL]⟩
    | succ i =>
      obtain ⟨r, hr⟩ := ih i x (by simpa using h)
      refine ⟨r, ?_⟩
      have : flatL cells (a :: l) = cells a ++ flatL cells l := by simp [flatL]
      rw [this, Nat.succ_mul, Nat.add_comm, ← List.drop_drop]
      have h2 : (cells a ++ flatL cells l).drop es = flatL cells l := by rw [← hes a]; simp
      rw [h2, hr]
theorem flatL_get (hes : ∀ x, (cells x).length = es) {l : List α} {i r : Nat} {x : α} (hx : l[i]? = some x) (hr : r < es) : (flatL cells l)[i * es + r]? = (cells x)[r]? := by
  obtain ⟨q, hq⟩ := flatL_drop hes l i x hx
  rw [← List.getElem?_drop, hq, List.getElem?_append_left (by rw [hes]; exact hr)]
theorem cellsFrom_cat {cs : Tr Value} : ∀ (n o m : Nat) (u v : List Value), cellsFrom cs o n = some u → cellsFrom cs (o + n) m = some v → cellsFrom cs o (n + m) = some (u ++ v) := by
  intro n
  induction n with
  | zero => intro o m u v h1 h2; simp only [cellsFrom, Option.some.injEq] at h1; subst h1; simpa using h2
  | succ n ih =>
    intro o m u v h1 h2
    rw [show n + 1 + m = (n + m) + 1 by omega]
    unfold cellsFrom at h1 ⊢
    cases hg : cs.get o with
    | none => rw [hg] at h1; cases h1
    | some x =>
      rw [hg] at h1
      simp only at h1 ⊢
      cases hr : cellsFrom cs (o + 1) n with
      | none => rw [hr] at h1; cases h1
      | some r =>
        rw [hr] at h1
        simp only [Option.some.injEq] at h1
        subst h1
        rw [ih (o + 1) m r v hr (by rw [show o + 1 + n = o + (n + 1) by omega]; exact h2)]
        rfl
theorem load_cat {σ : AHeap} {b o n m : Nat} {u v : List Value} (h1 : σ.loadN b o n = some u) (h2 : σ.loadN b (o + n) m = some v) : σ.loadN b o (n + m) = some (u ++ v) := by
  unfold AHeap.loadN at *
  cases hr : σ.row? b with
  | none => rw [hr] at h1; cases h1
  | some p =>
    obtain ⟨cs, len⟩ := p
    rw [hr] at h1 h2
    simp only at h1 h2 ⊢
    split at h1
    · split at h2
      · next hb =>
        rw [if_pos (by rw [← Nat.add_assoc]; exact hb)]
        exact cellsFrom_cat n o m u v h1 h2
      · cases h2
    · cases h1
theorem SlAt.all (hes : ∀ x, (cells x).length = es) {σ : AHeap} {b : Nat} {l : List α} (h : SlAt cells es σ b l) (hl : 0 < l.length) : σ.loadN b 0 (l.length * es) = some (flatL cells l) := by
  have hx0 := List.getElem?_eq_getElem hl
  have key : ∀ i, i ≤ l.length → σ.loadN b 0 (i * es) = some (flatL cells (l.take i)) := by
    intro i
    induction i with
    | zero =>
      intro _
      have := h.2 0 _ hx0 0 0 (by omega)
      simpa [flatL] using this
    | succ i ih =>
      intro hi
      have hx : l[i]? = some l[i] := List.getElem?_eq_getElem (by omega)
      generalize l[i] = x at hx
      have h1 := ih (by omega)
      have h2 := h.2 i x hx 0 es (by omega)
      rw [Nat.add_zero, List.drop_zero, List.take_of_length_le (by rw [hes]; exact Nat.le_refl _)] at h2
      have h3 := load_cat h1 (by rw [Nat.zero_add]; exact h2)
      rw [Nat.succ_mul, h3, List.take_add_one, hx]
      simp [flatL]
  have := key l.length (Nat.le_refl _)
  rw [List.take_length] at this
  exact this
theorem SlAt_row (hes : ∀ x, (cells x).length = es) {σ : AHeap} {b : Nat} {l : List α} (hb : b < σ.n) (h : σ.t.get b = some (rowOf (flatL cells l, es))) : SlAt cells es σ b l := by
  refine ⟨hb, fun i x hx o n ho => ?_⟩
  have hi := (List.getElem?_eq_some_iff.1 hx).1
  have hm : (i + 1) * es ≤ l.length * es := Nat.mul_le_mul_right _ hi
  rw [Nat.succ_mul] at hm
  rw [load_row h (by rw [flatL_length hes]; omega)]
  obtain ⟨r, hr⟩ := flatL_drop hes l i x hx
  rw [← List.drop_drop, hr]
  have hl := hes x
  rw [List.drop_append_of_le_length (by omega), List.take_append_of_le_length (by rw [List.length_drop]; omega)]
theorem app_copy (hes : ∀ x, (cells x).length = es) {σ : AHeap} {b b' f by_ : Nat} {l : List α} (h : SlAt cells es σ b l) (hl : 0 < l.length) (hm : l.length < 1000) (hby : by_ ≤ 1000) :
    ∃ τ, appOp σ es by_ (.slice (some ⟨b', 0, none⟩) 0 0) (.slice (some ⟨b, 0, none⟩) l.length f) = some (.slice (some ⟨σ.n, 0, none⟩) l.length 1, τ) ∧ Keeps σ τ ∧ τ.n = σ.n + 1 ∧ τ.t.get σ.n = some (rowOf (flatL cells l, es)) := by
  have hsrc : srcCells σ es (.slice (some ⟨b, 0, none⟩) l.length f) = some (l.length, flatL cells l) := by simp only [srcCells, h.all hes hl]
  have hmul : l.length * by_ ≤ 1000 * 1000 := Nat.mul_le_mul (by omega) hby
  have hb1 : Nat.ble ((0 + l.length) * by_) 140737488355328 = true := Nat.ble_eq_true_of_le (by rw [Nat.zero_add]; omega)
  have hb2 : Nat.ble (0 + l.length) 140737488355328 = true := Nat.ble_eq_true_of_le (by omega)
  refine ⟨σ.newRow (flatL cells l) es, ?_, ⟨Nat.le_succ _, rfl, rfl, fun c hc => ?_⟩, rfl, ?_⟩
  · simp only [appOp, hsrc]
    rw [if_neg (by intro h0; have := Nat.eq_of_beq_eq_true h0; omega), if_neg (by rw [hb1, hb2]; decide), if_pos (by rfl), if_pos (by rfl)]
  · show (σ.t.ins σ.n _).get c = _
    rw [Tr.get_ins, if_neg (by omega)]
  · show (σ.t.ins σ.n _).get σ.n = _
    rw [Tr.get_ins, if_pos rfl]; rfl
end
end Go.Hai
namespace Go.Hai
open Go
def EndsE (call : CallF) (n : Nat) (ops : List AOper) (t : Tmps) (σ : AHeap) (Q : Tmps → AHeap → Prop) : Prop := match runDraw call ops t σ with
  | some p => (p.2.2.take n).all (fun k => !(isEff k)) = true ∧ (p.2.2.take n).length = n ∧ Q p.1 p.2.1
  | none => False
def kontE (call : CallF) (n : Nat) (op : AOp) (os : List AOper) (t : Tmps) (σ : AHeap) (Q : Tmps → AHeap → Prop) (d : Option Nat) (v : Value) (σ' : AHeap) : Prop :=
  isEff (kindOf op t σ (Nat.beq σ'.low σ.n)) = false ∧ EndsE call n os (setD t d v) { σ' with low := minN σ.low σ'.low } Q
section
variable {call : CallF} {n : Nat} {os : List AOper} {t : Tmps} {σ : AHeap} {Q : Tmps → AHeap → Prop} {d : Option Nat} {op : AOp}
theorem e_0 {ops : List AOper} : EndsE call 0 ops t σ Q = EndsX call ops t σ Q := by
  unfold EndsE EndsX
  cases runDraw call ops t σ with
  | none => rfl
  | some p => simp
theorem e_1 : EndsE call (n + 1) (.mk d none op :: os) t σ Q = EndsO (aoper call op t (σ.setLow σ.n)) (kontE call n op os t σ Q d) := by
  unfold EndsE
  simp only [runDraw, wants, if_true]
  show _ = EndsO (aoper call op t { σ with low := σ.n }) _
  cases aoper call op t { σ with low := σ.n } with
  | none => rfl
  | some p =>
    obtain ⟨v, σ'⟩ := p
    simp only [EndsO, kontE, EndsE]
    cases runDraw call os (setD t d v) { σ' with low := minN σ.low σ'.low } with
    | none => simp
    | some q => simp [and_assoc]
theorem kontE_ok (h : σ.low ≤ σ.n) {v : Value} : kontE call n op os t σ Q d v (σ.setLow σ.n) = EndsE call n os (setD t d v) σ Q := by
  unfold kontE
  have e1 : Nat.beq (σ.setLow σ.n).low σ.n = true := Nat.beq_refl _
  have e2 : ({ σ.setLow σ.n with low := minN σ.low (σ.setLow σ.n).low } : AHeap) = σ := by
    have e3 : minN σ.low σ.n = σ.low := by unfold minN; rw [if_pos (Nat.ble_eq_true_of_le h)]
    show AHeap.mk σ.t σ.n σ.nf σ.dead (minN σ.low σ.n) = σ
    rw [e3]
  rw [e1, e2, kindOf_still]
  simp
theorem kontE_grow (h : σ.low ≤ σ.n) {L : List (List Value × Nat)} {v : Value} : kontE call n op os t (σ.grow L) Q d v ((σ.grow L).setLow (σ.grow L).n) = EndsE call n os (setD t d v) (σ.grow L) Q := kontE_ok (low_grow h L)
theorem kontE_new (h : σ.low ≤ σ.n) {τ : AHeap} (hl : τ.low = σ.n) {v : Value} : kontE call n op os t σ Q d v τ = EndsE call n os (setD t d v) (τ.setLow σ.low) Q := by
  unfold kontE
  rw [hl, Nat.beq_refl, kindOf_still]
  have e3 : minN σ.low σ.n = σ.low := by unfold minN; rw [if_pos (Nat.ble_eq_true_of_le h)]
  rw [e3]
  simp [AHeap.setLow]
end
theorem drawOk_upto (ks : List AKind) (n : Nat) (hk : (ks.take n).all (fun k => !(isEff k)) = true) (hl : (ks.take n).length = n) : ∀ (rk : List (Nat × Nat)), (∀ p ∈ rk, p.1 < n ∧ p.2 < n) → drawOk rk ks = true := by
  intro rk
  induction rk with
  | nil => intro _; rfl
  | cons q rk ih =>
    intro h
    show (Bool.rec false (drawOk rk ks) (pairB ks[q.1]? ks[q.2]?) : Bool) = true
    obtain ⟨h1, h2⟩ := h q (by simp)
    have hall := List.all_eq_true.1 hk
    have g : ∀ i, i < n → ∃ k, ks[i]? = some k ∧ isEff k = false := fun i hi => by
      have hi' : i < (ks.take n).length := by omega
      have hm := hall _ (List.getElem_mem hi')
      have e : ks[i]? = some (ks.take n)[i] := by rw [← List.getElem?_eq_getElem hi', List.getElem?_take]; simp [hi]
      exact ⟨_, e, by simpa using hm⟩
    obtain ⟨k1, e1, f1⟩ := g _ h1
    obtain ⟨k2, e2, f2⟩ := g _ h2
    rw [e1, e2]
    have : pairB (some k1) (some k2) = true := by simp only [pairB, f1, f2]; rfl
    rw [this]
    exact ih fun p hp => h p (by simp [hp])
theorem ends_drwE {call : CallF} {fuel : Nat} {ops : List AOper} {bef : List Nat} {t : Tmps} {σ : AHeap} {Q : AEx → Tmps → AHeap → Prop} (n : Nat) (hr : (risks (marks ops bef) 0).all (fun p => Nat.blt p.1 n && Nat.blt p.2 n) = true)
    (h : EndsE call n ops t σ (Q .normal)) : Ends (acode call fuel (.drw ops bef) t σ) Q := by
  simp only [acode]
  unfold EndsE at h
  cases hx : runDraw call ops t σ with
  | none => rw [hx] at h; exact h
  | some p =>
    obtain ⟨t', σ', ks⟩ := p
    rw [hx] at h
    obtain ⟨h1, h2, h3⟩ := h
    simp only at h1 h2 h3 ⊢
    rw [if_pos]
    · exact h3
    · refine drawOk_upto ks n h1 h2 _ fun p hp => ?_
      have := List.all_eq_true.1 hr p hp
      simp only [Bool.and_eq_true, Nat.blt_eq] at this
      exact this
def nilO (neg : Bool) (x : Value) : Option Value := match x with | .slice a _ _ => some (.bool (if neg then !a.isNone else a.isNone)) | _ => none
theorem o_eqNil {σ : AHeap} {t : Tmps} {K : Kt} {neg : Bool} {x : Operand} : EndsO (aop σ t (.eqNil neg x)) K = valQ (nilO neg (ev t x)) σ K := by
  simp only [aop, nilO]
  cases ev t x <;> simp [EndsO, valQ]
theorem nilO_some {a : Addr} {l f : Nat} : nilO false (.slice (some a) l f) = some (.bool false) := rfl
def fill3 (t : Tmps) (z : List Value) (o : Nat) (vs : List Value) (ps : List (Nat × Nat × Operand)) : Option (List Value) := if Nat.beq vs.length 3 && Nat.ble (o + 3) z.length then fillL t (putAt z o vs) ps else none
theorem fillL_3 {t : Tmps} {z : List Value} {o : Nat} {x : Operand} {ps : List (Nat × Nat × Operand)} : fillL t z ((o, 3, x) :: ps) = fill3 t z o (ev t x).cells.toList ps := rfl
theorem fill3_5 {t : Tmps} {x0 x1 x2 x3 x4 a b c : Value} {ps : List (Nat × Nat × Operand)} : fill3 t [x0, x1, x2, x3, x4] 0 [a, b, c] ps = fillL t [a, b, c, x3, x4] ps := rfl
theorem stX_row {τ : AHeap} {b : Nat} {l vs : List Value} {e o : Nat} (h : τ.t.get b = some (rowOf (l, e))) (hlow : τ.low ≤ b) (hb : b < τ.n) (hl : o + vs.length ≤ l.length) (hc : vs.all isCell = true) :
    ∃ υ : AHeap, (∀ (call : CallF) (os : List AOper) (t : Tmps) (Q : Tmps → AHeap → Prop) (d : Option Nat), heapQ ((τ.setLow τ.n).storeN b o vs) (kontX call os t τ Q d) = EndsX call os (setD t d undef) υ Q) ∧
      υ.t.get b = some (rowOf (setAll l o vs, e)) ∧ (∀ c, c ≠ b → υ.t.get c = τ.t.get c) ∧ υ.n = τ.n ∧ υ.low = τ.low ∧ υ.dead = τ.dead := by
  refine ⟨τ.wrote b (.row ((Tr.of l).put o vs) l.length e true true none) none, ?_, ?_, ?_, rfl, ?_, rfl⟩
  · intro call os t Q d
    unfold AHeap.storeN
    rw [show (τ.setLow τ.n).t.get b = some (rowOf (l, e)) from h]
    simp only [rowOf, AHeap.alive, Bool.true_and]
    rw [if_pos (by rw [Nat.ble_eq_true_of_le hl, hc]; rfl)]
    simp only [heapQ, kontX]
    have hl1 : minN τ.low (minN τ.n b) = minN τ.low b := by simp only [minN_min]; omega
    have e : ({ (τ.setLow τ.n).wrote b (.row ((Tr.of l).put o vs) l.length e true true none) none with low := minN τ.low ((τ.setLow τ.n).wrote b (.row ((Tr.of l).put o vs) l.length e true true none) none).low } : AHeap) = τ.wrote b (.row ((Tr.of l).put o vs) l.length e true true none) none := by
      show AHeap.mk _ _ _ _ (minN τ.low (minN τ.n b)) = AHeap.mk _ _ _ _ (minN τ.low b)
      rw [hl1]; rfl
    rw [e]
  · show (τ.t.ins b _).get b = _
    rw [Tr.get_ins, if_pos rfl, Tr.of_put _ _ _ hl]
    simp only [rowOf, setAll_length]
  · intro c hcb
    show (τ.t.ins b _).get c = _
    rw [Tr.get_ins, if_neg (fun e => hcb e.symm)]
  · show minN τ.low b = τ.low
    unfold minN; rw [if_pos (Nat.ble_eq_true_of_le hlow)]
end Go.Hai
namespace Go.Hai
open Go
def AHeap.putR (τ : AHeap) (b : Nat) (l : List Value) (e : Nat) : AHeap := { τ with t := τ.t.ins b (rowOf (l, e)) }
section
variable {τ : AHeap} {b c : Nat} {l : List Value} {e o n m : Nat}
theorem putR_low : (τ.putR b l e).low = τ.low := rfl
theorem putR_n : (τ.putR b l e).n = τ.n := rfl
theorem putR_dead : (τ.putR b l e).dead = τ.dead := rfl
theorem putR_get : (τ.putR b l e).t.get b = some (rowOf (l, e)) := by
  show (τ.t.ins b _).get b = _
  rw [Tr.get_ins, if_pos rfl]
theorem putR_far (h : c ≠ b) : (τ.putR b l e).t.get c = τ.t.get c := by
  show (τ.t.ins b _).get c = _
  rw [Tr.get_ins, if_neg (fun e => h e.symm)]
theorem load_sl {τ : AHeap} {b : Nat} {l : List Value} {e : Nat} (h : τ.t.get b = some (rowOf (l, e))) (o n : Nat) : τ.loadN b o n = sliceL l o n := by
  by_cases hl : o + n ≤ l.length
  · rw [load_row h hl]; unfold sliceL; rw [if_pos hl]
  · unfold AHeap.loadN AHeap.row? sliceL
    rw [h, if_neg hl]
    simp only [rowOf, AHeap.alive, if_true]
    rw [if_neg (fun hb => hl (Nat.le_of_ble_eq_true hb))]
theorem putR_load : (τ.putR b l e).loadN b o n = sliceL l o n := load_sl putR_get o n
theorem putR_loadF (h : c ≠ b) : (τ.putR b l e).loadN c o n = τ.loadN c o n := by
  unfold AHeap.loadN AHeap.row? AHeap.alive
  rw [putR_far h]; rfl
theorem setLow_get : (τ.setLow m).t.get b = τ.t.get b := rfl
theorem setLow_n : (τ.setLow m).n = τ.n := rfl
theorem SlAt.putR {α : Type} {cells : α → List Value} {es d : Nat} {k : List α} (h : SlAt cells es τ d k) (hd : d ≠ b) : SlAt cells es (τ.putR b l e) d k :=
  ⟨h.1, fun i x hx o n ho => by rw [putR_loadF hd]; exact h.2 i x hx o n ho⟩
end
def rowSt (x : Option AObj) (σ : AHeap) (b o : Nat) (vs : List Value) : Option AHeap := match x with
  | some (.row cs len es top true fam) => if σ.alive fam && Nat.ble (o + vs.length) len && vs.all isCell then some (σ.wrote b (.row (cs.put o vs) len es top true none) fam) else none
  | _ => none
theorem st_gen {τ : AHeap} {b o : Nat} {vs : List Value} {K : Kt} : heapQ (τ.storeN b o vs) K = heapQ (rowSt (τ.t.get b) τ b o vs) K := rfl
def AHeap.putM (τ : AHeap) (b : Nat) (l : List Value) (e : Nat) : AHeap := { τ with t := τ.t.ins b (rowOf (l, e)), low := minN τ.low b }
theorem rowSt_row {τ : AHeap} {b o : Nat} {vs l : List Value} {e : Nat} {K : Kt} : heapQ (rowSt (some (rowOf (l, e))) τ b o vs) K = if o + vs.length ≤ l.length ∧ vs.all isCell = true then K undef (τ.putM b (setAll l o vs) e) else False := by
  simp only [rowSt, rowOf, AHeap.alive, Bool.true_and]
  by_cases hc : o + vs.length ≤ l.length ∧ vs.all isCell = true
  · rw [if_pos (by rw [Nat.ble_eq_true_of_le hc.1, hc.2]; rfl), if_pos hc]
    simp only [heapQ]
    have : τ.wrote b (.row ((Tr.of l).put o vs) l.length e true true none) none = τ.putM b (setAll l o vs) e := by
      show AHeap.mk (τ.t.ins b (.row ((Tr.of l).put o vs) l.length e true true none)) τ.n τ.nf τ.dead (minN τ.low b) = AHeap.mk (τ.t.ins b (rowOf (setAll l o vs, e))) τ.n τ.nf τ.dead (minN τ.low b)
      rw [Tr.of_put _ _ _ hc.1]
      simp only [rowOf, setAll_length]
    rw [this]
  · rw [if_neg hc, if_neg (fun hb => hc (by simp only [Bool.and_eq_true] at hb; exact ⟨Nat.le_of_ble_eq_true hb.1, hb.2⟩))]
    rfl
def AHeap.putM' := AHeap.putM
theorem putM_R {τ : AHeap} {b : Nat} {l : List Value} {e : Nat} : τ.putM b l e = if τ.low ≤ b then τ.putR b l e else AHeap.putM' τ b l e := by
  split
  · next h =>
    unfold AHeap.putM AHeap.putR
    have e1 : minN τ.low b = τ.low := by unfold minN; rw [if_pos (Nat.ble_eq_true_of_le h)]
    rw [e1]
  · rfl
theorem Keeps.rows {σ τ : AHeap} {L : List (List Value × Nat)} (h : Keeps (σ.grow L) τ) (k : Nat) {r : List Value × Nat} (hk : rowAt L k = some r) : τ.t.get (σ.n + k) = some (rowOf r) := by
  have hk' : L[k]? = some r := by rw [← rowAt_eq]; exact hk
  have hlt : k < L.length := (List.getElem?_eq_some_iff.1 hk').1
  rw [h.row _ (by rw [grow_n]; omega)]
  exact grow_new σ L k hk'
theorem Keeps.putR {σ τ : AHeap} (h : Keeps σ τ) {b : Nat} (hb : σ.n ≤ b) (l : List Value) (e : Nat) : Keeps σ (τ.putR b l e) :=
  ⟨h.n, h.low, h.dead, fun c hc => by rw [putR_far (by omega)]; exact h.row c hc⟩
abbrev Kk := Tmps → AHeap → List AKind → Prop
def EndsK (call : CallF) (ops : List AOper) (t : Tmps) (σ : AHeap) (Q : Kk) : Prop := match runDraw call ops t σ with
  | some p => Q p.1 p.2.1 p.2.2
  | none => False
def consK (k : AKind) (Q : Kk) : Kk := fun t σ ks => Q t σ (k :: ks)
theorem consK_app {k : AKind} {Q : Kk} {t : Tmps} {σ : AHeap} {ks : List AKind} : consK k Q t σ ks = Q t σ (k :: ks) := rfl
def kontK (call : CallF) (op : AOp) (os : List AOper) (t : Tmps) (σ : AHeap) (Q : Kk) (d : Option Nat) (v : Value) (σ' : AHeap) : Prop :=
  EndsK call os (setD t d v) { σ' with low := minN σ.low σ'.low } (consK (kindOf op t σ (Nat.beq σ'.low σ.n)) Q)
section
variable {call : CallF} {os : List AOper} {t : Tmps} {σ : AHeap} {Q : Kk} {d : Option Nat} {op : AOp}
theorem k_nil : EndsK call [] t σ Q = Q t σ [] := rfl
theorem k_1 : EndsK call (.mk d none op :: os) t σ Q = EndsO (aoper call op t (σ.setLow σ.n)) (kontK call op os t σ Q d) := by
  unfold EndsK
  simp only [runDraw, wants, if_true]
  show _ = EndsO (aoper call op t { σ with low := σ.n }) _
  cases aoper call op t { σ with low := σ.n } with
  | none => rfl
  | some p =>
    obtain ⟨v, σ'⟩ := p
    simp only [EndsO, kontK, EndsK, consK]
    cases runDraw call os (setD t d v) { σ' with low := minN σ.low σ'.low } <;> rfl
theorem kontK_ok (h : σ.low ≤ σ.n) {v : Value} : kontK call op os t σ Q d v (σ.setLow σ.n) = EndsK call os (setD t d v) σ (consK (kindOf op t σ true) Q) := by
  unfold kontK
  have e1 : Nat.beq (σ.setLow σ.n).low σ.n = true := Nat.beq_refl _
  have e2 : ({ σ.setLow σ.n with low := minN σ.low (σ.setLow σ.n).low } : AHeap) = σ := by
    have e3 : minN σ.low σ.n = σ.low := by unfold minN; rw [if_pos (Nat.ble_eq_true_of_le h)]
    show AHeap.mk σ.t σ.n σ.nf σ.dead (minN σ.low σ.n) = σ
    rw [e3]
  rw [e1, e2]
theorem kontK_new (h : σ.low ≤ σ.n) {τ : AHeap} (hl : τ.low = σ.n) {v : Value} : kontK call op os t σ Q d v τ = EndsK call os (setD t d v) (τ.setLow σ.low) (consK (kindOf op t σ true) Q) := by
  unfold kontK
  rw [hl, Nat.beq_refl]
  have e3 : minN σ.low σ.n = σ.low := by unfold minN; rw [if_pos (Nat.ble_eq_true_of_le h)]
  rw [e3]
  simp [AHeap.setLow]
def rowKind (b : Nat) (x : Option AObj) : AKind := match x with | some (.row _ _ _ _ _ none) => .eff (some b) | _ => .eff none
def stKind (x : Value) (σ : AHeap) : AKind := match x with | .pointer (some ⟨b, _, _⟩) => rowKind b (σ.t.get b) | _ => .eff none
def kontKe := kontK
def AHeap.putS (τ : AHeap) (b : Nat) (l : List Value) (e : Nat) : AHeap := (τ.setLow τ.n).putM b l e
end
def okLow (σ : AHeap) : Bool := Nat.ble σ.low σ.n
def inN (b : Nat) (σ : AHeap) : Bool := Nat.blt b σ.n
theorem okLow_of {σ : AHeap} (h : σ.low ≤ σ.n) : okLow σ = true := Nat.ble_eq_true_of_le h
theorem inN_of {b : Nat} {σ : AHeap} (h : b < σ.n) : inN b σ = true := by simpa [inN, Nat.blt_eq] using h
theorem kontK_if {call : CallF} {os : List AOper} {t : Tmps} {σ : AHeap} {Q : Kk} {d : Option Nat} {op : AOp} {v : Value} : kontK call op os t σ Q d v (σ.setLow σ.n) = if okLow σ = true then EndsK call os (setD t d v) σ (consK (kindOf op t σ true) Q) else kontKe call op os t σ Q d v (σ.setLow σ.n) := by
  split
  · next h => exact kontK_ok (Nat.le_of_ble_eq_true h)
  · rfl
def ldKind (x : Value) (σ : AHeap) : AKind := match x with
  | .pointer (some ⟨b, _, _⟩) => if Nat.blt b σ.n && famOk b (σ.t.get b) then .load b else .quiet
  | _ => .quiet
theorem kd_load {m : Bool} {n y : Nat} {t : Tmps} {σ : AHeap} : kindOf (.load m n (.tmp y)) t σ true = ldKind (tget t y) σ := rfl
theorem kd_mv {x : Operand} {t : Tmps} {σ : AHeap} {s : Bool} : kindOf (.mv x) t σ s = .pure := rfl
def famK (b : Nat) (x : Option AObj) : AKind := if famOk b x then .load b else .quiet
theorem famK_row {b : Nat} {r : List Value × Nat} : famK b (some (rowOf r)) = .load b := rfl
def ldKind' := ldKind
theorem ldKind_if {b o : Nat} {σ : AHeap} : ldKind (here b o) σ = if inN b σ = true then famK b (σ.t.get b) else ldKind' (here b o) σ := by
  split
  · next h => simp only [ldKind, here, famK]; rw [show Nat.blt b σ.n = true from h, Bool.true_and]
  · rfl
def drwQ (rk : List (Nat × Nat)) (Q : Tmps → AHeap → Prop) : Kk := fun t σ ks => drawOk rk ks = true ∧ Q t σ
theorem drwQ_app {rk : List (Nat × Nat)} {Q : Tmps → AHeap → Prop} {t : Tmps} {σ : AHeap} {ks : List AKind} : drwQ rk Q t σ ks = (drawOk rk ks = true ∧ Q t σ) := rfl
theorem ends_drwK {call : CallF} {fuel : Nat} {ops : List AOper} {bef : List Nat} {t : Tmps} {σ : AHeap} {Q : AEx → Tmps → AHeap → Prop} (rk : List (Nat × Nat)) (hr : risks (marks ops bef) 0 = rk)
    (h : EndsK call ops t σ (drwQ rk (Q .normal))) : Ends (acode call fuel (.drw ops bef) t σ) Q := by
  simp only [acode]
  unfold EndsK at h
  cases hx : runDraw call ops t σ with
  | none => rw [hx] at h; exact h
  | some p =>
    obtain ⟨t', σ', ks⟩ := p
    rw [hx] at h
    obtain ⟨h1, h2⟩ := h
    simp only at h1 h2 ⊢
    rw [hr, if_pos h1]
    exact h2
theorem drawOk_nil {ks : List AKind} : drawOk [] ks = true := rfl
theorem drawOk_cons {p : Nat × Nat} {rk : List (Nat × Nat)} {ks : List AKind} : drawOk (p :: rk) ks = (pairB ks[p.1]? ks[p.2]? && drawOk rk ks) := by
  show (Bool.rec false (drawOk rk ks) (pairB ks[p.1]? ks[p.2]?) : Bool) = _
  cases pairB ks[p.1]? ks[p.2]? <;> rfl
theorem setAll_app : ∀ (vs u v : List Value) (o : Nat), setAll (u ++ v) (u.length + o) vs = u ++ setAll v o vs := by
  intro vs
  induction vs with
  | nil => intro u v o; rfl
  | cons x vs ih =>
    intro u v o
    simp only [setAll]
    rw [List.set_append_right _ _ (by omega), show u.length + o - u.length = o by omega, show u.length + o + 1 = u.length + (o + 1) by omega, ih]
theorem setAll_whole : ∀ (vs w r : List Value), w.length = vs.length → ∀ p : List Value, setAll (p ++ (w ++ r)) p.length vs = p ++ (vs ++ r) := by
  intro vs
  induction vs with
  | nil => intro w r h p; cases w with
    | nil => rfl
    | cons _ _ => simp at h
  | cons x vs ih =>
    intro w r h p
    cases w with
    | nil => simp at h
    | cons y w =>
      simp only [setAll]
      rw [List.set_append_right _ _ (Nat.le_refl _), Nat.sub_self]
      have := ih w r (by simpa using h) (p ++ [x])
      simpa using this
theorem flatL_set {α : Type} {cells : α → List Value} {es : Nat} (hes : ∀ x, (cells x).length = es) (x : α) : ∀ (l : List α) (i : Nat), i < l.length → setAll (flatL cells l) (i * es) (cells x) = flatL cells (l.set i x) := by
  intro l
  induction l with
  | nil => intro i h; simp at h
  | cons a l ih =>
    intro i h
    have e : ∀ (y : α) (k : List α), flatL cells (y :: k) = cells y ++ flatL cells k := fun y k => by simp [flatL]
    cases i with
    | zero =>
      rw [Nat.zero_mul, List.set_cons_zero, e, e]
      have := setAll_whole (cells x) (cells a) (flatL cells l) (by rw [hes, hes]) []
      simpa using this
    | succ i =>
      rw [List.set_cons_succ, e, e, Nat.succ_mul, Nat.add_comm, ← hes a, setAll_app, hes a, ih i (by simpa using h)]
end Go.Hai
namespace Go.Hai
open Go
abbrev Ty {p : Prop} (_ : p) : Prop := p
theorem Z0 : Ty (And.intro @ends_seq (And.intro @ends_reg (And.intro @ends_skip (And.intro @ends_ret (And.intro @ends_exit (And.intro @ends_block (And.intro @ends_cond' (And.intro @seqQ_normal (And.intro @seqQ_exit (And.intro @seqQ_ret (And.intro @blockQ_normal (And.intro @blockQ_exit (And.intro @blockQ_ret (And.intro @run_nil (And.intro @run_g (And.intro @loopQ_normal (And.intro @loopQ_exit (And.intro @loopQ_ret (And.intro @finQ_ret (And.intro @endsO_some (And.intro @o_mv (And.intro @o_pick (And.intro @o_bin (And.intro @o_un (@o_alloc))))))))))))))))))))))))) := And.intro @ends_seq (And.intro @ends_reg (And.intro @ends_skip (And.intro @ends_ret (And.intro @ends_exit (And.intro @ends_block (And.intro @ends_cond' (And.intro @seqQ_normal (And.intro @seqQ_exit (And.intro @seqQ_ret (And.intro @blockQ_normal (And.intro @blockQ_exit (And.intro @blockQ_ret (And.intro @run_nil (And.intro @run_g (And.intro @loopQ_normal (And.intro @loopQ_exit (And.intro @loopQ_ret (And.intro @finQ_ret (And.intro @endsO_some (And.intro @o_mv (And.intro @o_pick (And.intro @o_bin (And.intro @o_un (@o_alloc))))))))))))))))))))))))
theorem Z1 : Ty (And.intro @o_box (And.intro @o_fldA (And.intro @o_load1 (And.intro @o_loadN (And.intro @o_store (And.intro @o_lenS (And.intro @o_idxA (And.intro @o_ext (And.intro @o_fld1 (And.intro @o_build (And.intro @o_eqS (And.intro @o_call (And.intro @valQ_some (And.intro @heapQ_some (And.intro @nthQ_0 (And.intro @nthQ_1 (And.intro @nthQ_2 (And.intro @eqQ_some (And.intro @isB_bool (And.intro @isT_bool (And.intro @isF_bool (And.intro @pickV_t (And.intro @pickV_f (And.intro @wantsV_t (@wantsV_f))))))))))))))))))))))))) := And.intro @o_box (And.intro @o_fldA (And.intro @o_load1 (And.intro @o_loadN (And.intro @o_store (And.intro @o_lenS (And.intro @o_idxA (And.intro @o_ext (And.intro @o_fld1 (And.intro @o_build (And.intro @o_eqS (And.intro @o_call (And.intro @valQ_some (And.intro @heapQ_some (And.intro @nthQ_0 (And.intro @nthQ_1 (And.intro @nthQ_2 (And.intro @eqQ_some (And.intro @isB_bool (And.intro @isT_bool (And.intro @isF_bool (And.intro @pickV_t (And.intro @pickV_f (And.intro @wantsV_t (@wantsV_f))))))))))))))))))))))))
theorem Z2 : Ty (And.intro @wantsV_u (And.intro @ev_tmp (And.intro @ev_const (And.intro @setD_some (And.intro @setD_none (And.intro @tget_ins (And.intro @tget_lget (And.intro @lget_0 (And.intro @lget_1 (And.intro @lget_2 (And.intro @lget_3 (And.intro @lget_4 (And.intro @bin_lss (And.intro @bin_leq (And.intro @bin_gtr (And.intro @bin_geq (And.intro @bin_eql (And.intro @bin_neq (And.intro @bin_add (And.intro @bin_sub (And.intro @bin_mul (And.intro @bin_rem (And.intro @un_not (And.intro @grow_low (@fresh_low))))))))))))))))))))))))) := And.intro @wantsV_u (And.intro @ev_tmp (And.intro @ev_const (And.intro @setD_some (And.intro @setD_none (And.intro @tget_ins (And.intro @tget_lget (And.intro @lget_0 (And.intro @lget_1 (And.intro @lget_2 (And.intro @lget_3 (And.intro @lget_4 (And.intro @bin_lss (And.intro @bin_leq (And.intro @bin_gtr (And.intro @bin_geq (And.intro @bin_eql (And.intro @bin_neq (And.intro @bin_add (And.intro @bin_sub (And.intro @bin_mul (And.intro @bin_rem (And.intro @un_not (And.intro @grow_low (@fresh_low))))))))))))))))))))))))
theorem Z3 : Ty (And.intro @cells_agg (And.intro @cells_int (And.intro @cells_bool (And.intro @cells_sl (And.intro @isCell_int (And.intro @isCell_bool (And.intro @isCell_here (And.intro @isCell_sl (And.intro @List.map_cons.{0, 0} (And.intro @List.map_nil.{0, 0} (And.intro @List.all_cons.{0} (And.intro @List.all_nil.{0} (And.intro @List.nil_append.{0} (And.intro @List.cons_append.{0} (And.intro @List.length_nil.{0} (And.intro @List.length_cons.{0} (And.intro @Nat.zero_add (And.intro @Nat.add_zero (And.intro @decide_true (And.intro @decide_false (And.intro @decide_eq_true_eq (And.intro @Bool.not_true (And.intro @Bool.not_false (And.intro @Bool.and_true (@Bool.and_self))))))))))))))))))))))))) := And.intro @cells_agg (And.intro @cells_int (And.intro @cells_bool (And.intro @cells_sl (And.intro @isCell_int (And.intro @isCell_bool (And.intro @isCell_here (And.intro @isCell_sl (And.intro @List.map_cons.{0, 0} (And.intro @List.map_nil.{0, 0} (And.intro @List.all_cons.{0} (And.intro @List.all_nil.{0} (And.intro @List.nil_append.{0} (And.intro @List.cons_append.{0} (And.intro @List.length_nil.{0} (And.intro @List.length_cons.{0} (And.intro @Nat.zero_add (And.intro @Nat.add_zero (And.intro @decide_true (And.intro @decide_false (And.intro @decide_eq_true_eq (And.intro @Bool.not_true (And.intro @Bool.not_false (And.intro @Bool.and_true (@Bool.and_self))))))))))))))))))))))))
theorem Z4 : Ty (And.intro @Bool.and_false (And.intro @Bool.false_and (And.intro @Bool.true_and (And.intro @Bool.or_true (And.intro @Bool.true_or (And.intro @Bool.or_false (And.intro @Bool.false_or (And.intro @Bool.not_eq_true' (And.intro @decide_eq_false_iff_not (And.intro @Bool.false_eq_true (And.intro @and_self (And.intro @and_true (And.intro @true_and (And.intro @false_and (And.intro @and_false (And.intro @not_true_eq_false (And.intro @not_false_eq_true (And.intro @sl1_0_1 (And.intro @st1 (And.intro @ln1 (And.intro @sl3_0_1 (And.intro @sl3_1_1 (And.intro @sl3_2_1 (And.intro @sl3_0_3 (@st3))))))))))))))))))))))))) := And.intro @Bool.and_false (And.intro @Bool.false_and (And.intro @Bool.true_and (And.intro @Bool.or_true (And.intro @Bool.true_or (And.intro @Bool.or_false (And.intro @Bool.false_or (And.intro @Bool.not_eq_true' (And.intro @decide_eq_false_iff_not (And.intro @Bool.false_eq_true (And.intro @and_self (And.intro @and_true (And.intro @true_and (And.intro @false_and (And.intro @and_false (And.intro @not_true_eq_false (And.intro @not_false_eq_true (And.intro @sl1_0_1 (And.intro @st1 (And.intro @ln1 (And.intro @sl3_0_1 (And.intro @sl3_1_1 (And.intro @sl3_2_1 (And.intro @sl3_0_3 (@st3))))))))))))))))))))))))
theorem Z5 : Ty (And.intro @ln3 (And.intro @sl4_0_1 (And.intro @sl4_1_1 (And.intro @sl4_2_1 (And.intro @sl4_3_1 (And.intro @sl4_0_4 (And.intro @st4 (And.intro @ln4 (And.intro @sl5_0_1 (And.intro @sl5_1_1 (And.intro @sl5_2_1 (And.intro @sl5_3_1 (And.intro @sl5_4_1 (And.intro @sl5_0_5 (And.intro @sl5_0_3 (And.intro @sl5_0_4 (And.intro @st5 (And.intro @ln5 (And.intro @sl13_0_1 (And.intro @sl13_1_1 (And.intro @sl13_2_1 (And.intro @sl13_3_1 (And.intro @sl13_4_1 (And.intro @sl13_5_1 (@sl13_6_1))))))))))))))))))))))))) := And.intro @ln3 (And.intro @sl4_0_1 (And.intro @sl4_1_1 (And.intro @sl4_2_1 (And.intro @sl4_3_1 (And.intro @sl4_0_4 (And.intro @st4 (And.intro @ln4 (And.intro @sl5_0_1 (And.intro @sl5_1_1 (And.intro @sl5_2_1 (And.intro @sl5_3_1 (And.intro @sl5_4_1 (And.intro @sl5_0_5 (And.intro @sl5_0_3 (And.intro @sl5_0_4 (And.intro @st5 (And.intro @ln5 (And.intro @sl13_0_1 (And.intro @sl13_1_1 (And.intro @sl13_2_1 (And.intro @sl13_3_1 (And.intro @sl13_4_1 (And.intro @sl13_5_1 (@sl13_6_1))))))))))))))))))))))))
theorem Z6 : Ty (And.intro @sl13_7_1 (And.intro @sl13_8_1 (And.intro @sl13_9_1 (And.intro @sl13_10_1 (And.intro @sl13_11_1 (And.intro @sl13_12_1 (And.intro @sl13_0_13 (And.intro @sl13_9_4 (And.intro @st13 (And.intro @ln13 (And.intro @ld_0 (And.intro @ld_1 (And.intro @ld_2 (And.intro @ld_3 (And.intro @ld_4 (And.intro @ld_5 (And.intro (fun (σ : AHeap) => @sto_0 (AHeap.fresh σ) fresh_le) (And.intro (fun (σ : AHeap) => @sto_1 (AHeap.fresh σ) fresh_le) (And.intro (fun (σ : AHeap) => @sto_2 (AHeap.fresh σ) fresh_le) (And.intro (fun (σ : AHeap) => @sto_3 (AHeap.fresh σ) fresh_le) (And.intro (fun (σ : AHeap) => @sto_4 (AHeap.fresh σ) fresh_le) (And.intro (fun (σ : AHeap) => @sto_5 (AHeap.fresh σ) fresh_le) (And.intro @run_1 (And.intro @kont_run (@fldQ_here))))))))))))))))))))))))) := And.intro @sl13_7_1 (And.intro @sl13_8_1 (And.intro @sl13_9_1 (And.intro @sl13_10_1 (And.intro @sl13_11_1 (And.intro @sl13_12_1 (And.intro @sl13_0_13 (And.intro @sl13_9_4 (And.intro @st13 (And.intro @ln13 (And.intro @ld_0 (And.intro @ld_1 (And.intro @ld_2 (And.intro @ld_3 (And.intro @ld_4 (And.intro @ld_5 (And.intro (fun (σ : AHeap) => @sto_0 (AHeap.fresh σ) fresh_le) (And.intro (fun (σ : AHeap) => @sto_1 (AHeap.fresh σ) fresh_le) (And.intro (fun (σ : AHeap) => @sto_2 (AHeap.fresh σ) fresh_le) (And.intro (fun (σ : AHeap) => @sto_3 (AHeap.fresh σ) fresh_le) (And.intro (fun (σ : AHeap) => @sto_4 (AHeap.fresh σ) fresh_le) (And.intro (fun (σ : AHeap) => @sto_5 (AHeap.fresh σ) fresh_le) (And.intro @run_1 (And.intro @kont_run (@fldQ_here))))))))))))))))))))))))
theorem Z7 : Ty (And.intro @pLd1_here (And.intro @pLdN_here (And.intro @ld1Q_some (And.intro @ldNQ_some (And.intro @pSt_here (And.intro @lenSQ_sl (And.intro @idxQ_ok (And.intro @extQ_tup (And.intro @extQ_lit (And.intro @fld1Q_agg (And.intro @eqSQ_agg (And.intro @eqCap (And.intro @fillL_nil (And.intro @fillL_1 (And.intro @fill1_one (And.intro @fillL_4 (And.intro @fill4_13 (And.intro @eqThing (And.intro @aggO_some (And.intro @resC_here (And.intro @resOne_tmp (And.intro @resOne_cell (And.intro @one_1 (And.intro @one_2 (@one_3))))))))))))))))))))))))) := And.intro @pLd1_here (And.intro @pLdN_here (And.intro @ld1Q_some (And.intro @ldNQ_some (And.intro @pSt_here (And.intro @lenSQ_sl (And.intro @idxQ_ok (And.intro @extQ_tup (And.intro @extQ_lit (And.intro @fld1Q_agg (And.intro @eqSQ_agg (And.intro @eqCap (And.intro @fillL_nil (And.intro @fillL_1 (And.intro @fill1_one (And.intro @fillL_4 (And.intro @fill4_13 (And.intro @eqThing (And.intro @aggO_some (And.intro @resC_here (And.intro @resOne_tmp (And.intro @resOne_cell (And.intro @one_1 (And.intro @one_2 (@one_3))))))))))))))))))))))))
theorem Z8 : Ty (And.intro @bin_shl (And.intro @bin_andNot (And.intro @d_nil (And.intro @d_1 (And.intro @d_g (And.intro (fun (call : CallF) (os : List AOper) (t : Tmps) (σ : AHeap) (Q : Tmps → AHeap → Prop) (d : Option Nat) (op : AOp) => @kontD_grow call os t (AHeap.fresh σ) Q d op fresh_le) (And.intro @setLow_load (And.intro @List.set_cons_zero.{0} (And.intro @List.set_cons_succ.{0} (And.intro @o_app (And.intro @o_buildSl (And.intro @bslQ_some (And.intro @finA_ret (And.intro @o_mkSl (And.intro @mkQ_bools (And.intro @o_mkFn (And.intro @o_callV (And.intro @cvQ_fn (And.intro @o_lookup (And.intro @o_mupd (And.intro @o_mkMap (And.intro @finE_ret (And.intro @finE_normal (And.intro @st4_0 (@st4_1))))))))))))))))))))))))) := And.intro @bin_shl (And.intro @bin_andNot (And.intro @d_nil (And.intro @d_1 (And.intro @d_g (And.intro (fun (call : CallF) (os : List AOper) (t : Tmps) (σ : AHeap) (Q : Tmps → AHeap → Prop) (d : Option Nat) (op : AOp) => @kontD_grow call os t (AHeap.fresh σ) Q d op fresh_le) (And.intro @setLow_load (And.intro @List.set_cons_zero.{0} (And.intro @List.set_cons_succ.{0} (And.intro @o_app (And.intro @o_buildSl (And.intro @bslQ_some (And.intro @finA_ret (And.intro @o_mkSl (And.intro @mkQ_bools (And.intro @o_mkFn (And.intro @o_callV (And.intro @cvQ_fn (And.intro @o_lookup (And.intro @o_mupd (And.intro @o_mkMap (And.intro @finE_ret (And.intro @finE_normal (And.intro @st4_0 (@st4_1))))))))))))))))))))))))
theorem Z9 : Ty (And.intro @st4_2 (And.intro @st4_3 (And.intro @st5_0 (And.intro @st5_1 (And.intro @st5_2 (And.intro @st5_3 (And.intro @st5_4 (And.intro @st13_0 (And.intro @st13_1 (And.intro @st13_2 (And.intro @st13_3 (And.intro @st13_4 (And.intro @st13_5 (And.intro @st13_6 (And.intro @st13_7 (And.intro @st13_8 (And.intro @st13_9 (And.intro @st13_10 (And.intro @st13_11 (And.intro @st13_12 (@ev_func))))))))))))))))))))) := And.intro @st4_2 (And.intro @st4_3 (And.intro @st5_0 (And.intro @st5_1 (And.intro @st5_2 (And.intro @st5_3 (And.intro @st5_4 (And.intro @st13_0 (And.intro @st13_1 (And.intro @st13_2 (And.intro @st13_3 (And.intro @st13_4 (And.intro @st13_5 (And.intro @st13_6 (And.intro @st13_7 (And.intro @st13_8 (And.intro @st13_9 (And.intro @st13_10 (And.intro @st13_11 (And.intro @st13_12 (@ev_func))))))))))))))))))))
end Go.Hai
namespace Go.Hai
open Go
structure Wr (W : Nat → Prop) (σ τ : AHeap) : Prop where
  n : σ.n ≤ τ.n
  dead : τ.dead = σ.dead
  low : τ.low ≤ σ.low
  row : ∀ b, b < σ.n → ¬ W b → τ.t.get b = σ.t.get b
  far : ∀ b, b < σ.n → b < τ.low → τ.t.get b = σ.t.get b
  bnd : ∀ m, m ≤ σ.low → m ≤ σ.n → (∀ b, W b → m ≤ b) → m ≤ τ.low
section
variable {W : Nat → Prop} {σ τ υ : AHeap}
theorem Wr.refl (W : Nat → Prop) (σ : AHeap) : Wr W σ σ := ⟨Nat.le_refl _, rfl, Nat.le_refl _, fun _ _ _ => rfl, fun _ _ _ => rfl, fun _ h _ _ => h⟩
theorem Keeps.wr (h : Keeps σ τ) : Wr W σ τ := ⟨h.n, h.dead, Nat.le_of_eq h.low, fun b hb _ => h.row b hb, fun b hb _ => h.row b hb, fun m hm _ _ => by rw [h.low]; exact hm⟩
theorem Wr.trans (h : Wr W σ τ) (h' : Wr W τ υ) : Wr W σ υ :=
  ⟨Nat.le_trans h.n h'.n, h'.dead.trans h.dead, Nat.le_trans h'.low h.low, fun b hb hw => (h'.row b (Nat.lt_of_lt_of_le hb h.n) hw).trans (h.row b hb hw),
    fun b hb hl => (h'.far b (Nat.lt_of_lt_of_le hb h.n) hl).trans (h.far b hb (Nat.lt_of_lt_of_le hl h'.low)), fun m h1 h2 h3 => h'.bnd m (h.bnd m h1 h2 h3) (Nat.le_trans h2 h.n) h3⟩
theorem Wr.grow (h : Wr W σ τ) (L : List (List Value × Nat)) : Wr W σ (τ.grow L) := h.trans (Keeps.self τ L).wr
theorem Wr.load (h : Wr W σ τ) {b : Nat} (o n : Nat) (hb : b < σ.n) (hw : ¬ W b) : τ.loadN b o n = σ.loadN b o n := by
  unfold AHeap.loadN AHeap.row? AHeap.alive
  rw [h.row b hb hw, h.dead]
theorem Wr.mono {V : Nat → Prop} (h : Wr W σ τ) (hv : ∀ b, W b → V b) : Wr V σ τ := ⟨h.n, h.dead, h.low, fun b hb hw => h.row b hb fun e => hw (hv b e), h.far, fun m h1 h2 h3 => h.bnd m h1 h2 fun b hb => h3 b (hv b hb)⟩
theorem Wr.cut (h : Wr (fun b => W b ∨ σ.n ≤ b) σ τ) : Wr W σ τ := ⟨h.n, h.dead, h.low, fun b hb hw => h.row b hb fun e => e.elim hw (by omega), h.far, fun m h1 h2 h3 => h.bnd m h1 h2 fun b hb => hb.elim (h3 b) (by omega)⟩
theorem putM_wr {b : Nat} {l : List Value} {e : Nat} (hb : W b) : Wr W τ (τ.putM b l e) := by
  refine ⟨Nat.le_refl _, rfl, (minN_le _ _).1, fun c _ hw => ?_, fun c _ hl => ?_, fun m h1 h2 h3 => ?_⟩
  · show (τ.t.ins b _).get c = _
    rw [Tr.get_ins, if_neg (fun he : b = c => hw (by rw [← he]; exact hb))]
  · show (τ.t.ins b _).get c = _
    have : c < minN τ.low b := hl
    have := (minN_le τ.low b).2
    rw [Tr.get_ins, if_neg (by omega)]
  · show m ≤ minN τ.low b
    rw [minN_min]; have := h3 b hb; omega
theorem Wr.back (h : Wr W σ.fresh τ) (h1 : σ.low ≤ σ.n) (h2 : ∀ b, W b → σ.low ≤ b) : Wr W σ (τ.setLow (minN σ.low τ.low)) ∧ (τ.setLow (minN σ.low τ.low)).low = σ.low := by
  have e : minN σ.low τ.low = σ.low := by
    have := h.bnd σ.low h1 h1 h2
    rw [minN_min]; omega
  rw [e]
  exact ⟨⟨h.n, h.dead, Nat.le_refl _, h.row, fun b hb hl => h.row b hb fun hw => by have := h2 b hw; have : b < σ.low := hl; omega, fun m h1 _ _ => h1⟩, rfl⟩
theorem Wr.same (h : Wr W σ.fresh τ) (hl : τ.low = σ.n) {b : Nat} (hb : b < σ.n) : τ.t.get b = σ.t.get b := h.far b hb (by omega)
theorem putM_get {b : Nat} {l : List Value} {e : Nat} : (τ.putM b l e).t.get b = some (rowOf (l, e)) := by
  show (τ.t.ins b _).get b = _
  rw [Tr.get_ins, if_pos rfl]
theorem putM_far {b c : Nat} {l : List Value} {e : Nat} (h : c ≠ b) : (τ.putM b l e).t.get c = τ.t.get c := by
  show (τ.t.ins b _).get c = _
  rw [Tr.get_ins, if_neg (fun e => h e.symm)]
theorem putM_n {b : Nat} {l : List Value} {e : Nat} : (τ.putM b l e).n = τ.n := rfl
theorem Keeps.putM {b : Nat} {l : List Value} {e : Nat} (h : Keeps σ τ) (hb : σ.n ≤ b) (hl : σ.low ≤ σ.n) : Keeps σ (τ.putM b l e) :=
  ⟨h.n, by show minN τ.low b = _; rw [h.low, minN_min]; omega, h.dead, fun c hc => by rw [putM_far (by omega)]; exact h.row c hc⟩
end
section
variable {α : Type} {cells : α → List Value} {es : Nat}
theorem flatL_cut (hes : ∀ x, (cells x).length = es) {l : List α} {i o n : Nat} {x : α} (hx : l[i]? = some x) (ho : o + n ≤ es) : sliceL (flatL cells l) (i * es + o) n = some (((cells x).drop o).take n) := by
  have hi := (List.getElem?_eq_some_iff.1 hx).1
  have hm : (i + 1) * es ≤ l.length * es := Nat.mul_le_mul_right _ hi
  rw [Nat.succ_mul] at hm
  unfold sliceL
  rw [if_pos (by rw [flatL_length hes]; omega)]
  obtain ⟨r, hr⟩ := flatL_drop hes l i x hx
  rw [← List.drop_drop, hr]
  have hl := hes x
  rw [List.drop_append_of_le_length (by omega), List.take_append_of_le_length (by rw [List.length_drop]; omega)]
theorem setAll_left : ∀ (vs u v : List Value) (o : Nat), o + vs.length ≤ u.length → setAll (u ++ v) o vs = setAll u o vs ++ v := by
  intro vs
  induction vs with
  | nil => intro u v o _; rfl
  | cons x vs ih =>
    intro u v o h
    simp only [List.length_cons] at h
    simp only [setAll]
    rw [List.set_append_left _ _ (by omega), ih _ _ _ (by rw [List.length_set]; omega)]
theorem flatL_put (hes : ∀ x, (cells x).length = es) {y : α} {o : Nat} {vs : List Value} : ∀ {l : List α} {i : Nat} {x : α}, l[i]? = some x → o + vs.length ≤ es → setAll (cells x) o vs = cells y → setAll (flatL cells l) (i * es + o) vs = flatL cells (l.set i y) := by
  intro l
  induction l with
  | nil => intro i x h; simp at h
  | cons a l ih =>
    intro i x h ho hy
    have e : ∀ (y : α) (k : List α), flatL cells (y :: k) = cells y ++ flatL cells k := fun y k => by simp [flatL]
    cases i with
    | zero =>
      simp at h
      subst h
      rw [Nat.zero_mul, Nat.zero_add, List.set_cons_zero, e, e, setAll_left _ _ _ _ (by rw [hes]; exact ho), hy]
    | succ i =>
      rw [List.set_cons_succ, e, e, Nat.succ_mul, show i * es + es + o = (cells a).length + (i * es + o) by rw [hes]; omega, setAll_app, ih (by simpa using h) ho hy]
end
end Go.Hai
namespace Go.Hai
open Go
theorem kd_call {f : FuncId} {xs : List Operand} {t : Tmps} {σ : AHeap} : kindOf (.call f xs) t σ true = .quiet := rfl
theorem pair_lq {b : Nat} : pairB (some (.load b)) (some .quiet) = true := by simp [pairB, isEff]
theorem pair_pq : pairB (some .pure) (some .quiet) = true := by simp [pairB, isEff]
theorem low_set {σ : AHeap} : (σ.setLow σ.n).low ≤ (σ.setLow σ.n).n := Nat.le_refl _
theorem kontK_call {call : CallF} {os : List AOper} {t : Tmps} {σ τ : AHeap} {Q : Kk} {d : Option Nat} {op : AOp} {v : Value} (h : σ.low ≤ σ.n) (hk : Keeps (σ.setLow σ.n) τ) : kontK call op os t σ Q d v τ = EndsK call os (setD t d v) (τ.setLow σ.low) (consK (kindOf op t σ true) Q) := kontK_new h hk.low
theorem Keeps.unset {σ τ : AHeap} {m : Nat} (h : Keeps (σ.setLow m) τ) : Keeps σ (τ.setLow σ.low) := ⟨h.n, rfl, h.dead, h.row⟩
end Go.Hai
namespace Go.Hai
open Go
theorem sl6_all {x0 x1 x2 x3 x4 x5 : Value} : sliceL [x0, x1, x2, x3, x4, x5] 0 6 = some [x0, x1, x2, x3, x4, x5] := rfl
theorem sl6_0 {x0 x1 x2 x3 x4 x5 : Value} : sliceL [x0, x1, x2, x3, x4, x5] 0 1 = some [x0] := rfl
theorem sl6_1 {x0 x1 x2 x3 x4 x5 : Value} : sliceL [x0, x1, x2, x3, x4, x5] 1 1 = some [x1] := rfl
theorem sl6_2 {x0 x1 x2 x3 x4 x5 : Value} : sliceL [x0, x1, x2, x3, x4, x5] 2 1 = some [x2] := rfl
theorem sl6_3 {x0 x1 x2 x3 x4 x5 : Value} : sliceL [x0, x1, x2, x3, x4, x5] 3 1 = some [x3] := rfl
theorem sl6_4 {x0 x1 x2 x3 x4 x5 : Value} : sliceL [x0, x1, x2, x3, x4, x5] 4 1 = some [x4] := rfl
theorem sl6_5 {x0 x1 x2 x3 x4 x5 : Value} : sliceL [x0, x1, x2, x3, x4, x5] 5 1 = some [x5] := rfl
theorem st6 {x0 x1 x2 x3 x4 x5 y0 y1 y2 y3 y4 y5 : Value} : setAll [x0, x1, x2, x3, x4, x5] 0 [y0, y1, y2, y3, y4, y5] = [y0, y1, y2, y3, y4, y5] := rfl
theorem ln6 {x0 x1 x2 x3 x4 x5 : Value} : List.length [x0, x1, x2, x3, x4, x5] = 6 := rfl
theorem Z10 : Ty (And.intro @sl6_all (And.intro @sl6_0 (And.intro @sl6_1 (And.intro @sl6_2 (And.intro @sl6_3 (And.intro @sl6_4 (And.intro @sl6_5 (And.intro @st6 (@ln6))))))))) := And.intro @sl6_all (And.intro @sl6_0 (And.intro @sl6_1 (And.intro @sl6_2 (And.intro @sl6_3 (And.intro @sl6_4 (And.intro @sl6_5 (And.intro @st6 (@ln6))))))))
end Go.Hai
namespace Go.Hai
open Go
noncomputable def pthR (f : Nat) : Nat → Pth :=
  Nat.rec (fun _ => .z) (fun _ ih i => Bool.rec (Bool.rec (.r (ih (Nat.div (Nat.sub i 1) 2))) (.l (ih (Nat.div (Nat.sub i 1) 2))) (Nat.beq (Nat.mod (Nat.sub i 1) 2) 0)) .z (Nat.beq i 0)) f
theorem pthR_eq : ∀ f i, pthR f i = pthF f i := by
  intro f
  induction f with
  | zero => intro i; rfl
  | succ f ih =>
    intro i
    show (Bool.rec (Bool.rec (.r (pthR f (Nat.div (Nat.sub i 1) 2))) (.l (pthR f (Nat.div (Nat.sub i 1) 2))) (Nat.beq (Nat.mod (Nat.sub i 1) 2) 0)) .z (Nat.beq i 0) : Pth) = _
    simp only [pthF, ih]
    cases Nat.beq i 0 <;> simp only
    cases Nat.beq (Nat.mod (Nat.sub i 1) 2) 0 <;> rfl
noncomputable def pthK (i : Nat) : Pth := pthR (Nat.succ i) i
theorem pthK_eq (i : Nat) : pthK i = pth i := pthR_eq _ _
abbrev A := Option Bool
noncomputable def getFV (p : Pth) : Tr Value → A → (Value → A) → A :=
  Pth.rec (fun t d k => Tr.rec d (fun v _ _ _ _ => Option.rec d k v) t) (fun _ ih t d k => Tr.rec d (fun _ l _ _ _ => ih l d k) t) (fun _ ih t d k => Tr.rec d (fun _ _ r _ _ => ih r d k) t) p
theorem getFV_eq : ∀ (p : Pth) (t : Tr Value) (d : A) (k : Value → A), getFV p t d k = match Tr.getP p t with | some v => k v | none => d := by
  intro p
  induction p with
  | z => intro t d k; cases t with
    | tip => rfl
    | node v l r => cases v <;> rfl
  | l p ih => intro t d k; cases t with
    | tip => rfl
    | node v l r => exact ih l d k
  | r p ih => intro t d k; cases t with
    | tip => rfl
    | node v l r => exact ih r d k
noncomputable def getKV (i : Nat) (t : Tr Value) (d : A) (k : Value → A) : A := getFV (pthK i) t d k
theorem getKV_eq (i : Nat) (t : Tr Value) (d : A) (k : Value → A) : getKV i t d k = match t.get i with | some v => k v | none => d := by unfold getKV Tr.get; rw [getFV_eq, pthK_eq]
noncomputable def insFV (x : Value) (p : Pth) : Tr Value → (Tr Value → A) → A :=
  Pth.rec (fun t k => Tr.rec (k (.node (some x) .tip .tip)) (fun _ l r _ _ => k (.node (some x) l r)) t)
    (fun _ ih t k => Tr.rec (ih .tip fun u => k (.node none u .tip)) (fun v l r _ _ => ih l fun u => k (.node v u r)) t)
    (fun _ ih t k => Tr.rec (ih .tip fun u => k (.node none .tip u)) (fun v l r _ _ => ih r fun u => k (.node v l u)) t) p
theorem insFV_eq (x : Value) : ∀ (p : Pth) (t : Tr Value) (k : Tr Value → A), insFV x p t k = k (Tr.insP x p t) := by
  intro p
  induction p with
  | z => intro t k; cases t <;> rfl
  | l p ih => intro t k; cases t with
    | tip => exact ih _ _
    | node v l r => exact ih _ _
  | r p ih => intro t k; cases t with
    | tip => exact ih _ _
    | node v l r => exact ih _ _
noncomputable def insKV (t : Tr Value) (i : Nat) (x : Value) (k : Tr Value → A) : A := insFV x (pthK i) t k
theorem insKV_eq (t : Tr Value) (i : Nat) (x : Value) (k : Tr Value → A) : insKV t i x k = k (t.ins i x) := by unfold insKV Tr.ins; rw [insFV_eq, pthK_eq]
noncomputable def putKV (l : List Value) : Tr Value → Nat → (Tr Value → A) → A :=
  List.rec (fun t _ k => k t) (fun x _ ih t i k => insKV t i x fun u => ih u (Nat.succ i) k) l
theorem putKV_eq : ∀ (l : List Value) (t : Tr Value) (i : Nat) (k : Tr Value → A), putKV l t i k = k (t.put i l) := by
  intro l
  induction l with
  | nil => intro t i k; rfl
  | cons x l ih =>
    intro t i k
    show insKV t i x (fun u => putKV l u (Nat.succ i) k) = _
    rw [insKV_eq, ih]; rfl
noncomputable def getFO (p : Pth) : Tr AObj → A → (AObj → A) → A :=
  Pth.rec (fun t d k => Tr.rec d (fun v _ _ _ _ => Option.rec d k v) t) (fun _ ih t d k => Tr.rec d (fun _ l _ _ _ => ih l d k) t) (fun _ ih t d k => Tr.rec d (fun _ _ r _ _ => ih r d k) t) p
theorem getFO_eq : ∀ (p : Pth) (t : Tr AObj) (d : A) (k : AObj → A), getFO p t d k = match Tr.getP p t with | some v => k v | none => d := by
  intro p
  induction p with
  | z => intro t d k; cases t with
    | tip => rfl
    | node v l r => cases v <;> rfl
  | l p ih => intro t d k; cases t with
    | tip => rfl
    | node v l r => exact ih l d k
  | r p ih => intro t d k; cases t with
    | tip => rfl
    | node v l r => exact ih r d k
noncomputable def getKO (i : Nat) (t : Tr AObj) (d : A) (k : AObj → A) : A := getFO (pthK i) t d k
theorem getKO_eq (i : Nat) (t : Tr AObj) (d : A) (k : AObj → A) : getKO i t d k = match t.get i with | some v => k v | none => d := by unfold getKO Tr.get; rw [getFO_eq, pthK_eq]
noncomputable def insFO (x : AObj) (p : Pth) : Tr AObj → (Tr AObj → A) → A :=
  Pth.rec (fun t k => Tr.rec (k (.node (some x) .tip .tip)) (fun _ l r _ _ => k (.node (some x) l r)) t)
    (fun _ ih t k => Tr.rec (ih .tip fun u => k (.node none u .tip)) (fun v l r _ _ => ih l fun u => k (.node v u r)) t)
    (fun _ ih t k => Tr.rec (ih .tip fun u => k (.node none .tip u)) (fun v l r _ _ => ih r fun u => k (.node v l u)) t) p
theorem insFO_eq (x : AObj) : ∀ (p : Pth) (t : Tr AObj) (k : Tr AObj → A), insFO x p t k = k (Tr.insP x p t) := by
  intro p
  induction p with
  | z => intro t k; cases t <;> rfl
  | l p ih => intro t k; cases t with
    | tip => exact ih _ _
    | node v l r => exact ih _ _
  | r p ih => intro t k; cases t with
    | tip => exact ih _ _
    | node v l r => exact ih _ _
noncomputable def insKO (t : Tr AObj) (i : Nat) (x : AObj) (k : Tr AObj → A) : A := insFO x (pthK i) t k
theorem insKO_eq (t : Tr AObj) (i : Nat) (x : AObj) (k : Tr AObj → A) : insKO t i x k = k (t.ins i x) := by unfold insKO Tr.ins; rw [insFO_eq, pthK_eq]
noncomputable def putKO (l : List AObj) : Tr AObj → Nat → (Tr AObj → A) → A :=
  List.rec (fun t _ k => k t) (fun x _ ih t i k => insKO t i x fun u => ih u (Nat.succ i) k) l
section
noncomputable def tgetK (t : Tmps) (i : Nat) (k : Value → A) : A := getKV i t (k undef) k
theorem tgetK_eq (t : Tmps) (i : Nat) (k : Value → A) : tgetK t i k = k (tget t i) := by
  unfold tgetK tget
  rw [getKV_eq]
  cases t.get i <;> rfl
noncomputable def evK (t : Tmps) (x : Operand) (k : Value → A) : A :=
  Operand.rec (fun i => tgetK t i k) (fun v => k v) (fun _ => k undef) (fun f => k (.func (.func f) #[] #[])) x
theorem evK_eq (t : Tmps) (x : Operand) (k : Value → A) : evK t x k = k (ev t x) := by
  cases x with
  | tmp i => exact tgetK_eq t i k
  | _ => rfl
noncomputable def evsK (t : Tmps) (xs : List Operand) : (List Value → A) → A :=
  List.rec (fun k => k []) (fun x _ ih k => evK t x fun v => ih fun vs => k (v :: vs)) xs
theorem evsK_eq (t : Tmps) : ∀ (xs : List Operand) (k : List Value → A), evsK t xs k = k (xs.map (ev t)) := by
  intro xs
  induction xs with
  | nil => intro k; rfl
  | cons x xs ih =>
    intro k
    show evK t x (fun v => evsK t xs fun vs => k (v :: vs)) = _
    rw [evK_eq, ih]; rfl
def intK (v : Value) (d : A) (k : IntKind → Int → A) : A := match v with | .int a b => k a b | _ => d
def boolK (v : Value) (d f t : A) : A := match v with | .bool b => Bool.casesOn b f t | _ => d
def ptrK (v : Value) (d : A) (k : Nat → Nat → A) : A := match v with | .pointer (some ⟨b, o, _⟩) => k b o | _ => d
def aggK (v : Value) (d : A) (k : List Value → A) : A := match v with | .agg cs => k cs.toList | _ => d
def cellsK (v : Value) (k : List Value → A) : A := match v with | .agg cs => k cs.toList | v => k [v]
theorem cellsK_eq (v : Value) (k : List Value → A) : cellsK v k = k v.cells.toList := by cases v <;> rfl
noncomputable def lenF (l : List Value) : Nat := List.rec 0 (fun _ _ ih => Nat.succ ih) l
theorem lenF_eq (l : List Value) : lenF l = l.length := by
  induction l with
  | nil => rfl
  | cons x l ih => show Nat.succ (lenF l) = _; rw [ih]; rfl
def cellK (v : Value) (y : A) : A := match v with | .agg _ => none | .tuple _ => none | _ => y
noncomputable def cellsB (l : List Value) (y : A) : A := List.rec y (fun x _ ih => cellK x ih) l
theorem cellsB_eq (l : List Value) (y : A) : cellsB l y = if l.all isCell then y else none := by
  induction l with
  | nil => rfl
  | cons x l ih =>
    show cellK x (cellsB l y) = _
    rw [ih]
    cases x <;> rfl
noncomputable def hasLen (l : List Value) : Nat → A → A := List.rec (fun n y => Nat.rec y (fun _ _ => none) n) (fun _ _ ih n y => Nat.rec none (fun m _ => ih m y) n) l
theorem hasLen_eq : ∀ (l : List Value) (n : Nat) (y : A), hasLen l n y = if Nat.beq l.length n then y else none := by
  intro l
  induction l with
  | nil => intro n y; cases n <;> rfl
  | cons x l ih => intro n y; cases n with
    | zero => rfl
    | succ n => exact ih n y
noncomputable def nthK (l : List Value) : Nat → (Value → A) → A := List.rec (fun _ _ => none) (fun x _ ih i k => Nat.rec (k x) (fun n _ => ih n k) i) l
theorem nthK_eq : ∀ (l : List Value) (i : Nat) (k : Value → A), nthK l i k = match l[i]? with | some v => k v | none => none := by
  intro l
  induction l with
  | nil => intro i k; rfl
  | cons x l ih => intro i k; cases i with
    | zero => rfl
    | succ i => show nthK l i k = _; rw [ih]; rfl
noncomputable def topOf (k : IntKind) : Nat := IntKind.rec 127 32767 2147483647 9223372036854775807 255 65535 4294967295 18446744073709551615 k
theorem wrap_small (k : IntKind) (n : Nat) (h : n ≤ topOf k) : k.wrap (Int.ofNat n) = Int.ofNat n := by
  cases k <;> simp only [topOf] at h <;> simp only [IntKind.wrap, IntKind.bits, IntKind.signed] <;> simp <;> omega
noncomputable def wrapK (k : IntKind) (z : Int) (f : Int → A) : A := Int.rec (fun n => Bool.rec (f (k.wrap z)) (f (.ofNat n)) (Nat.ble n (topOf k))) (fun _ => f (k.wrap z)) z
theorem wrapK_eq (k : IntKind) (z : Int) (f : Int → A) : wrapK k z f = f (k.wrap z) := by
  cases z with
  | ofNat n =>
    show (Bool.rec (f (k.wrap (.ofNat n))) (f (.ofNat n)) (Nat.ble n (topOf k)) : A) = _
    cases h : Nat.ble n (topOf k) with
    | false => rfl
    | true => rw [wrap_small k n (Nat.le_of_ble_eq_true h)]
  | negSucc n => rfl
noncomputable def addK (a b : Int) (f : Int → A) : A := Int.rec (fun m => Int.rec (fun n => f (.ofNat (Nat.add m n))) (fun _ => f (a + b)) b) (fun _ => f (a + b)) a
theorem addK_eq (a b : Int) (f : Int → A) : addK a b f = f (a + b) := by cases a <;> cases b <;> rfl
noncomputable def mulK (a b : Int) (f : Int → A) : A := Int.rec (fun m => Int.rec (fun n => f (.ofNat (Nat.mul m n))) (fun _ => f (a * b)) b) (fun _ => f (a * b)) a
theorem mulK_eq (a b : Int) (f : Int → A) : mulK a b f = f (a * b) := by cases a <;> cases b <;> rfl
noncomputable def subK (a b : Int) (f : Int → A) : A := Int.rec (fun m => Int.rec (fun n => Bool.rec (f (a - b)) (f (.ofNat (Nat.sub m n))) (Nat.ble n m)) (fun _ => f (a - b)) b) (fun _ => f (a - b)) a
theorem subK_eq (a b : Int) (f : Int → A) : subK a b f = f (a - b) := by
  cases a with
  | negSucc m => rfl
  | ofNat m => cases b with
    | negSucc n => rfl
    | ofNat n =>
      show (Bool.rec (f (Int.ofNat m - Int.ofNat n)) (f (.ofNat (Nat.sub m n))) (Nat.ble n m) : A) = _
      cases h : Nat.ble n m with
      | false => rfl
      | true =>
        have h := Nat.le_of_ble_eq_true h
        have : (Int.ofNat (Nat.sub m n)) = Int.ofNat m - Int.ofNat n := by
          show ((m - n : Nat) : Int) = (m : Int) - (n : Int)
          omega
        simp only [this]
noncomputable def eqI (a b : Int) (f t : A) : A := Int.rec (fun m => Int.rec (fun n => Bool.rec f t (Nat.beq m n)) (fun _ => f) b) (fun m => Int.rec (fun _ => f) (fun n => Bool.rec f t (Nat.beq m n)) b) a
theorem eqI_eq (a b : Int) (f t : A) : eqI a b f t = Bool.rec f t (a == b) := by
  have hb : ∀ m n : Nat, Nat.beq m n = decide (m = n) := fun m n => by
    by_cases h : m = n
    · subst h; simp
    · rw [nbeq h]; simp [h]
  cases a with
  | ofNat m => cases b with
    | ofNat n =>
      show (Bool.rec f t (Nat.beq m n) : A) = _
      rw [hb]; show _ = (Bool.rec f t (decide (Int.ofNat m = Int.ofNat n)) : A); simp only [Int.ofNat.injEq]
    | negSucc n => rfl
  | negSucc m => cases b with
    | ofNat n => rfl
    | negSucc n =>
      show (Bool.rec f t (Nat.beq m n) : A) = _
      rw [hb]; show _ = (Bool.rec f t (decide (Int.negSucc m = Int.negSucc n)) : A); simp only [Int.negSucc.injEq]
noncomputable def ltI (a b : Int) (f t : A) : A := Int.rec (fun m => Int.rec (fun n => Bool.rec f t (Nat.ble (Nat.succ m) n)) (fun _ => f) b) (fun m => Int.rec (fun _ => t) (fun n => Bool.rec f t (Nat.ble (Nat.succ n) m)) b) a
theorem ble_eq (m n : Nat) : Nat.ble m n = decide (m ≤ n) := by
  by_cases h : m ≤ n
  · rw [Nat.ble_eq_true_of_le h]; simp [h]
  · cases hb : Nat.ble m n with
    | false => simp [h]
    | true => exact absurd (Nat.le_of_ble_eq_true hb) h
theorem ltI_eq (a b : Int) (f t : A) : ltI a b f t = Bool.rec f t (decide (a < b)) := by
  cases a with
  | ofNat m => cases b with
    | ofNat n =>
      have : decide ((m : Int) < (n : Int)) = Nat.ble (Nat.succ m) n := by rw [ble_eq]; congr 1; simp only [eq_iff_iff]; omega
      show (Bool.rec f t (Nat.ble (Nat.succ m) n) : A) = (Bool.rec f t (decide ((m : Int) < (n : Int))) : A)
      rw [this]
    | negSucc n =>
      have : decide ((m : Int) < Int.negSucc n) = false := by rw [decide_eq_false_iff_not]; omega
      show f = (Bool.rec f t (decide ((m : Int) < Int.negSucc n)) : A)
      rw [this]
  | negSucc m => cases b with
    | ofNat n =>
      have : decide (Int.negSucc m < (n : Int)) = true := by rw [decide_eq_true_iff]; omega
      show t = (Bool.rec f t (decide (Int.negSucc m < (n : Int))) : A)
      rw [this]
    | negSucc n =>
      have : decide (Int.negSucc m < Int.negSucc n) = Nat.ble (Nat.succ n) m := by rw [ble_eq]; congr 1; simp only [eq_iff_iff]; omega
      show (Bool.rec f t (Nat.ble (Nat.succ n) m) : A) = (Bool.rec f t (decide (Int.negSucc m < Int.negSucc n)) : A)
      rw [this]
noncomputable def tagK (k : IntKind) : Nat := IntKind.rec 0 1 2 3 4 5 6 7 k
noncomputable def kindB (a b : IntKind) : Bool := Nat.beq (tagK a) (tagK b)
theorem kindB_eq (a b : IntKind) : kindB a b = decide (a = b) := by cases a <;> cases b <;> rfl
def boolV (b : Bool) (f : Value → A) : A := Bool.casesOn b (f (.bool false)) (f (.bool true))
theorem boolV_eq (b : Bool) (f : Value → A) : boolV b f = f (.bool b) := by cases b <;> rfl
end
end Go.Hai
namespace Go.Hai
open Go
section
def bnd (x : Option (Value × AHeap)) (k : Value → AHeap → A) : A := match x with | some p => k p.1 p.2 | none => none
def val (x : Option Value) (σ : AHeap) (k : Value → AHeap → A) : A := match x with | some v => k v σ | none => none
abbrev CallK := FuncId → List Value → AHeap → (Value → AHeap → A) → A
abbrev OpK := CallK → Tmps → AHeap → (Value → AHeap → A) → A
noncomputable def rowK (σ : AHeap) (b : Nat) (k : Tr Value → Nat → Nat → Bool → Bool → Option (Nat × Nat) → A) : A :=
  AHeap.rec (fun ht _ _ _ _ => getKO b ht none (fun ob => AObj.rec (fun cs len es top rw fam => k cs len es top rw fam) (fun _ => none) ob)) σ
theorem rowK_eq (σ : AHeap) (b : Nat) (k : Tr Value → Nat → Nat → Bool → Bool → Option (Nat × Nat) → A) :
    rowK σ b k = match σ.t.get b with | some (.row cs len es top rw fam) => k cs len es top rw fam | _ => none := by
  cases σ with
  | mk ht n nf dead low =>
    show getKO b ht none (fun ob => AObj.rec (fun cs len es top rw fam => k cs len es top rw fam) (fun _ => none) ob) = _
    rw [getKO_eq]
    cases ht.get b with
    | none => rfl
    | some o => cases o <;> rfl
noncomputable def aliveK (σ : AHeap) (fam : Option (Nat × Nat)) (y : A) : A := Option.rec y (fun p => Bool.rec none y (σ.alive (some p))) fam
theorem aliveK_eq (σ : AHeap) (fam : Option (Nat × Nat)) (y : A) : aliveK σ fam y = if σ.alive fam then y else none := by
  cases fam with
  | none => rfl
  | some p =>
    show (Bool.rec none y (σ.alive (some p)) : A) = _
    cases σ.alive (some p) <;> rfl
noncomputable def takeK (cs : Tr Value) (n : Nat) : Nat → (List Value → A) → A :=
  Nat.rec (fun _ k => k []) (fun _ ih o k => getKV o cs none fun v => ih (Nat.succ o) fun l => k (v :: l)) n
theorem takeK_eq (cs : Tr Value) : ∀ (n o : Nat) (k : List Value → A), takeK cs n o k = match cellsFrom cs o n with | some l => k l | none => none := by
  intro n
  induction n with
  | zero => intro o k; rfl
  | succ n ih =>
    intro o k
    show getKV o cs none (fun v => takeK cs n (Nat.succ o) fun l => k (v :: l)) = _
    rw [getKV_eq]
    simp only [cellsFrom]
    cases cs.get o with
    | none => rfl
    | some v =>
      show takeK cs n (o + 1) _ = _
      rw [ih]
      simp only
      cases cellsFrom cs (o + 1) n <;> rfl
noncomputable def loadK (σ : AHeap) (b o n : Nat) (k : List Value → A) : A :=
  rowK σ b fun cs len _ _ _ fam => aliveK σ fam (Bool.rec none (takeK cs n o k) (Nat.ble (Nat.add o n) len))
theorem loadK_eq (σ : AHeap) (b o n : Nat) (k : List Value → A) : loadK σ b o n k = match σ.loadN b o n with | some l => k l | none => none := by
  unfold loadK AHeap.loadN AHeap.row?
  rw [rowK_eq]
  cases hg : σ.t.get b with
  | none => rfl
  | some ob => cases ob with
    | obj _ => rfl
    | row cs len es top rw fam =>
      simp only [aliveK_eq, takeK_eq]
      cases σ.alive fam with
      | false => rfl
      | true =>
        show (Bool.rec none _ (Nat.ble (o + n) len) : A) = _
        simp only [if_true]
        cases Nat.ble (o + n) len <;> rfl
noncomputable def minK (a b : Nat) (k : Nat → A) : A := Bool.rec (k b) (k a) (Nat.ble a b)
theorem minK_eq (a b : Nat) (k : Nat → A) : minK a b k = k (minN a b) := by unfold minK minN; cases Nat.ble a b <;> rfl
noncomputable def lowK (fam : Option (Nat × Nat)) (low b : Nat) (k : Nat → A) : A := Option.rec (minK low b k) (fun p => minK low b fun l => minK l p.2 k) fam
theorem lowK_eq (fam : Option (Nat × Nat)) (low b : Nat) (k : Nat → A) : lowK fam low b k = k (lowOf fam low b) := by
  cases fam with
  | none => exact minK_eq _ _ _
  | some p => show minK low b (fun l => minK l p.2 k) = _; rw [minK_eq, minK_eq]; rfl
noncomputable def killK (fam : Option (Nat × Nat)) (dead : List (Nat × Nat)) (k : List (Nat × Nat) → A) : A := Option.rec (k dead) (fun p => k (p :: dead)) fam
theorem killK_eq (fam : Option (Nat × Nat)) (dead : List (Nat × Nat)) (k : List (Nat × Nat) → A) : killK fam dead k = k (kill fam dead) := by cases fam <;> rfl
noncomputable def storeK (σ : AHeap) (b o n : Nat) (vs : List Value) (k : AHeap → A) : A :=
  rowK σ b fun cs len es top rw fam => Bool.rec none (aliveK σ fam (Bool.rec none (cellsB vs
    (putKV vs cs o fun cs' => AHeap.rec (fun ht n nf dead low => insKO ht b (.row cs' len es top true none) fun ht' => lowK fam low b fun low' => killK fam dead fun dead' => k ⟨ht', n, nf, dead', low'⟩) σ))
    (Nat.ble (Nat.add o n) len))) rw
theorem storeK_eq (σ : AHeap) (b o : Nat) (vs : List Value) (k : AHeap → A) : storeK σ b o vs.length vs k = match σ.storeN b o vs with | some σ' => k σ' | none => none := by
  unfold storeK AHeap.storeN
  rw [rowK_eq]
  cases hg : σ.t.get b with
  | none => rfl
  | some ob => cases ob with
    | obj _ => rfl
    | row cs len es top rw fam =>
      cases rw with
      | false => rfl
      | true =>
        simp only [aliveK_eq, cellsB_eq, putKV_eq]
        cases σ.alive fam with
        | false => rfl
        | true =>
          show (Bool.rec none _ (Nat.ble (o + vs.length) len) : A) = _
          cases Nat.ble (o + vs.length) len with
          | false => rfl
          | true =>
            cases vs.all isCell with
            | false => rfl
            | true =>
              cases σ with
              | mk ht n nf dead low =>
                show insKO ht b (.row (cs.put o vs) len es top true none) (fun ht' => lowK fam low b fun low' => killK fam dead fun dead' => k ⟨ht', n, nf, dead', low'⟩) = _
                rw [insKO_eq, lowK_eq, killK_eq]; rfl
noncomputable def slowB (op : BinOp) (a : IntKind) (m : Int) (b : IntKind) (n : Int) (k : Value → A) : A := match abin op (.int a m) (.int b n) with | some v => k v | none => none
noncomputable def same (a b : IntKind) (x : A) : A := Bool.rec none x (kindB a b)
theorem same_eq (a b : IntKind) (x : A) : same a b x = if a = b then x else none := by
  unfold same; rw [kindB_eq]
  by_cases h : a = b
  · simp [h]
  · simp [h]
noncomputable def bAdd (a : IntKind) (m : Int) (b : IntKind) (n : Int) (k : Value → A) : A := same a b (addK m n fun z => wrapK a z fun z => k (.int a z))
noncomputable def bSub (a : IntKind) (m : Int) (b : IntKind) (n : Int) (k : Value → A) : A := same a b (subK m n fun z => wrapK a z fun z => k (.int a z))
noncomputable def bMul (a : IntKind) (m : Int) (b : IntKind) (n : Int) (k : Value → A) : A := same a b (mulK m n fun z => wrapK a z fun z => k (.int a z))
noncomputable def bEql (a : IntKind) (m : Int) (b : IntKind) (n : Int) (k : Value → A) : A := same a b (eqI m n (k (.bool false)) (k (.bool true)))
noncomputable def bNeq (a : IntKind) (m : Int) (b : IntKind) (n : Int) (k : Value → A) : A := same a b (eqI m n (k (.bool true)) (k (.bool false)))
noncomputable def bLss (a : IntKind) (m : Int) (b : IntKind) (n : Int) (k : Value → A) : A := same a b (ltI m n (k (.bool false)) (k (.bool true)))
noncomputable def bLeq (a : IntKind) (m : Int) (b : IntKind) (n : Int) (k : Value → A) : A := same a b (ltI n m (k (.bool true)) (k (.bool false)))
noncomputable def bGtr (a : IntKind) (m : Int) (b : IntKind) (n : Int) (k : Value → A) : A := same a b (ltI n m (k (.bool false)) (k (.bool true)))
noncomputable def bGeq (a : IntKind) (m : Int) (b : IntKind) (n : Int) (k : Value → A) : A := same a b (ltI m n (k (.bool true)) (k (.bool false)))
noncomputable def binI (op : BinOp) : IntKind → Int → IntKind → Int → (Value → A) → A :=
  BinOp.rec bAdd bSub bMul (slowB .quo) (slowB .rem) (slowB .and) (slowB .or) (slowB .xor) (slowB .shl) (slowB .shr) (slowB .andNot) bEql bNeq bLss bLeq bGtr bGeq op
theorem binI_eq (op : BinOp) (a : IntKind) (m : Int) (b : IntKind) (n : Int) (k : Value → A) : binI op a m b n k = match abin op (.int a m) (.int b n) with | some v => k v | none => none := by
  have hn : ∀ (x : Bool) (f : Value → A), (Bool.rec (f (.bool true)) (f (.bool false)) x : A) = f (.bool !x) := fun x f => by cases x <;> rfl
  have hp : ∀ (x : Bool) (f : Value → A), (Bool.rec (f (.bool false)) (f (.bool true)) x : A) = f (.bool x) := fun x f => by cases x <;> rfl
  cases op with
  | add => show bAdd a m b n k = _; unfold bAdd; rw [same_eq]; simp only [addK_eq, wrapK_eq, abin]; split <;> rfl
  | sub => show bSub a m b n k = _; unfold bSub; rw [same_eq]; simp only [subK_eq, wrapK_eq, abin]; split <;> rfl
  | mul => show bMul a m b n k = _; unfold bMul; rw [same_eq]; simp only [mulK_eq, wrapK_eq, abin]; split <;> rfl
  | eql => show bEql a m b n k = _; unfold bEql; rw [same_eq, eqI_eq, hp]; simp only [abin]; split <;> rfl
  | neq => show bNeq a m b n k = _; unfold bNeq; rw [same_eq, eqI_eq, hn]; simp only [abin]; split <;> rfl
  | lss => show bLss a m b n k = _; unfold bLss; rw [same_eq, ltI_eq, hp]; simp only [abin]; split <;> rfl
  | gtr => show bGtr a m b n k = _; unfold bGtr; rw [same_eq, ltI_eq, hp]; simp only [abin, gt_iff_lt]; split <;> rfl
  | leq =>
    show bLeq a m b n k = _; unfold bLeq; rw [same_eq, ltI_eq, hn]; simp only [abin]
    have : (!decide (n < m)) = decide (m ≤ n) := by by_cases h : n < m <;> simp [h] <;> omega
    rw [this]; split <;> rfl
  | geq =>
    show bGeq a m b n k = _; unfold bGeq; rw [same_eq, ltI_eq, hn]; simp only [abin]
    have : (!decide (m < n)) = decide (m ≥ n) := by by_cases h : m < n <;> simp [h] <;> omega
    rw [this]; split <;> rfl
  | _ => rfl
noncomputable def symB (op : BinOp) (y : Value) (k : Value → A) : A := Bool.casesOn (isZero y) none (match op with | .eql => k (.bool false) | .neq => k (.bool true) | _ => none)
noncomputable def binK (op : BinOp) (x y : Value) (k : Value → A) : A := match x with
  | .int a m => intK y none fun b n => binI op a m b n k
  | .chan (some _) => symB op y k
  | x => match abin op x y with | some v => k v | none => none
theorem binK_eq (op : BinOp) (x y : Value) (k : Value → A) : binK op x y k = match abinA op x y with | some v => k v | none => none := by
  unfold binK
  cases x with
  | int a m => cases y with
    | int b n => exact binI_eq op a m b n k
    | _ => rfl
  | chan c => cases c with
    | none => rfl
    | some i =>
      simp only [abinA, symB]
      cases isZero y with
      | false => rfl
      | true => cases op <;> rfl
  | _ => rfl
noncomputable def scal0 (a b : Value) (no yes : A) : A := match a with
  | .int ka m => (match b with | .int kb n => same ka kb (eqI m n no yes) | .chan (some _) => Bool.casesOn (isZero (.int ka m)) none no | _ => none)
  | .chan (some i) => (match b with | .chan (some j) => Bool.casesOn (Nat.beq i j) none yes | b => Bool.casesOn (isZero b) none no)
  | _ => none
noncomputable def scalK (k : Nat) (a b : Value) (no yes : A) : A :=
  Nat.rec (scal0 a b no yes)
    (fun k _ => Nat.rec (boolK a none (boolK b none yes no) (boolK b none no yes)) (fun k _ => match eqScal (Nat.succ (Nat.succ k)) a b with | some r => Bool.rec no yes r | none => none) k) k
theorem scalK_eq (k : Nat) (a b : Value) (no yes : A) : scalK k a b no yes = match eqScalA k a b with | some r => Bool.rec no yes r | none => none := by
  cases k with
  | zero =>
    show scal0 a b no yes = _
    cases a with
    | int ka m => cases b with
      | int kb n =>
        simp only [scal0, same_eq, eqI_eq, eqScalA, eqScal]
        split <;> rfl
      | chan y => cases y with
        | none => simp [scal0, eqScalA, eqScal]
        | some j => simp only [scal0, eqScalA]; cases isZero (.int ka m) <;> rfl
      | _ => simp [scal0, eqScalA, eqScal]
    | chan x => cases x with
      | none => cases b with
        | chan y => cases y <;> rfl
        | _ => rfl
      | some i => cases b with
        | chan y => cases y with
          | none => rfl
          | some j => simp only [scal0, eqScalA]; cases Nat.beq i j <;> rfl
        | int kb n => simp only [scal0, eqScalA]; cases isZero (.int kb n) <;> rfl
        | _ => rfl
    | _ => cases b with
      | chan y => cases y <;> rfl
      | _ => rfl
  | succ k =>
    cases k with
    | zero =>
      show boolK a none (boolK b none yes no) (boolK b none no yes) = _
      cases a with
      | bool x => cases b with
        | bool y => cases x <;> cases y <;> rfl
        | _ => cases x <;> rfl
      | _ => rfl
    | succ k => rfl
noncomputable def eqLsK (xs ys : List Value) (ls : List (Nat × Nat)) (f t : A) : Bool → A :=
  List.rec (fun acc => Bool.rec f t acc) (fun p _ ih acc => nthK xs p.1 fun a => nthK ys p.1 fun b => scalK p.2 a b (ih false) (ih acc)) ls
theorem eqLsK_eq (xs ys : List Value) (f t : A) : ∀ (ls : List (Nat × Nat)) (acc : Bool), eqLsK xs ys ls f t acc = match eqLsA xs ys ls with | some r => Bool.rec f t (acc && r) | none => none := by
  intro ls
  induction ls with
  | nil => intro acc; cases acc <;> rfl
  | cons p ls ih =>
    intro acc
    obtain ⟨i, k⟩ := p
    show nthK xs i (fun a => nthK ys i fun b => scalK k a b (eqLsK xs ys ls f t false) (eqLsK xs ys ls f t acc)) = _
    simp only [nthK_eq, scalK_eq, ih, eqLsA]
    cases xs[i]? with
    | none => rfl
    | some a => cases ys[i]? with
      | none => rfl
      | some b =>
        simp only
        cases eqScalA k a b with
        | none => rfl
        | some r =>
          simp only
          cases eqLsA xs ys ls with
          | none => cases r <;> rfl
          | some q => cases r <;> cases acc <;> cases q <;> rfl
noncomputable def overK (vs : List Value) : List Value → (List Value → A) → A :=
  List.rec (fun l k => k l) (fun v _ ih l k => List.rec none (fun _ tl _ => ih tl fun r => k (v :: r)) l) vs
noncomputable def walkK (vs : List Value) (o : Nat) : List Value → (List Value → A) → A :=
  Nat.rec (fun l k => overK vs l k) (fun _ ih l k => List.rec none (fun x tl _ => ih tl fun r => k (x :: r)) l) o
theorem overK_eq : ∀ (vs l : List Value) (k : List Value → A), overK vs l k = if vs.length ≤ l.length then k (vs ++ l.drop vs.length) else none := by
  intro vs
  induction vs with
  | nil => intro l k; simp; rfl
  | cons v vs ih =>
    intro l k
    cases l with
    | nil => rfl
    | cons x l =>
      show overK vs l (fun r => k (v :: r)) = _
      rw [ih]
      simp
theorem walkK_eq (vs : List Value) : ∀ (o : Nat) (l : List Value) (k : List Value → A), walkK vs o l k = if Nat.ble (o + vs.length) l.length then k (putAt l o vs) else none := by
  intro o
  induction o with
  | zero =>
    intro l k
    show overK vs l k = _
    rw [overK_eq, ble_eq]
    simp [putAt]
  | succ o ih =>
    intro l k
    cases l with
    | nil => rw [ble_eq, decide_eq_false (by simp only [List.length_nil]; omega)]; rfl
    | cons x l =>
      show walkK vs o l (fun r => k (x :: r)) = _
      rw [ih, ble_eq, ble_eq]
      have e : (decide (o + 1 + vs.length ≤ (x :: l).length)) = decide (o + vs.length ≤ l.length) := by congr 1; simp only [List.length_cons, eq_iff_iff]; omega
      rw [e]
      have e2 : putAt (x :: l) (o + 1) vs = x :: putAt l o vs := by
        simp only [putAt, List.take_succ_cons, List.cons_append]
        rw [show o + 1 + vs.length = (o + vs.length) + 1 from by omega, List.drop_succ_cons]
      rw [e2]
noncomputable def fillK (t : Tmps) (ps : List (Nat × Nat × Operand)) : List Value → (List Value → A) → A :=
  List.rec (fun z k => k z) (fun p _ ih z k => evK t p.2.2 fun v => cellsK v fun vs => hasLen vs p.2.1 (walkK vs p.1 z fun z' => ih z' k)) ps
theorem fillK_eq (t : Tmps) : ∀ (ps : List (Nat × Nat × Operand)) (z : List Value) (k : List Value → A), fillK t ps z k = match fillL t z ps with | some cs => k cs | none => none := by
  intro ps
  induction ps with
  | nil => intro z k; rfl
  | cons p ps ih =>
    intro z k
    obtain ⟨o, n, x⟩ := p
    show evK t x (fun v => cellsK v fun vs => hasLen vs n (walkK vs o z fun z' => fillK t ps z' k)) = _
    simp only [evK_eq, cellsK_eq, hasLen_eq, walkK_eq, ih, fillL]
    cases hn : Nat.beq (ev t x).cells.toList.length n with
    | false => rfl
    | true =>
      have := Nat.eq_of_beq_eq_true hn
      subst this
      simp only [if_true, Bool.true_and]
      split <;> rfl
noncomputable def oMv (x : Operand) : OpK := fun _ t σ k => evK t x fun v => k v σ
noncomputable def oPick (c a b : Operand) : OpK := fun _ t σ k => evK t c fun r => boolK r none (evK t b fun v => k v σ) (evK t a fun v => k v σ)
noncomputable def pushK (σ : AHeap) (o : AObj) (k : Value → AHeap → A) (f : Nat → Value) : A :=
  AHeap.rec (fun ht n nf dead low => insKO ht n o fun ht' => k (f n) ⟨ht', Nat.succ n, nf, dead, low⟩) σ
theorem pushK_eq (σ : AHeap) (o : AObj) (k : Value → AHeap → A) (f : Nat → Value) : pushK σ o k f = k (f σ.n) (σ.push o) := by
  cases σ with
  | mk ht n nf dead low => show insKO ht n o _ = _; rw [insKO_eq]; rfl
noncomputable def rowNew (σ : AHeap) (vs : List Value) (es : Nat) (k : Value → AHeap → A) (f : Nat → Value) : A :=
  putKV vs .tip 0 fun cs => pushK σ (.row cs (lenF vs) es true true none) k f
theorem rowNew_eq (σ : AHeap) (vs : List Value) (es : Nat) (k : Value → AHeap → A) (f : Nat → Value) : rowNew σ vs es k f = k (f σ.n) (σ.newRow vs es) := by
  unfold rowNew; rw [putKV_eq, pushK_eq, lenF_eq]; rfl
noncomputable def oAlloc (z : List Value) (es : Nat) : OpK := fun _ _ σ k => rowNew σ z es k fun n => .pointer (some ⟨n, 0, none⟩)
noncomputable def oBox (es : Nat) (x : Operand) : OpK := fun _ t σ k => evK t x fun v => cellsK v fun vs => cellsB vs (rowNew σ vs es k fun n => .pointer (some ⟨n, 0, none⟩))
noncomputable def oBuild (z : List Value) (ps : List (Nat × Nat × Operand)) : OpK := fun _ t σ k => fillK t ps z fun cs => k (.agg cs.toArray) σ
noncomputable def oBuildSl (z : List Value) (sz len : Nat) (ps : List (Nat × Nat × Operand)) : OpK := fun _ t σ k => fillK t ps z fun cs => cellsB cs (rowNew σ cs sz k fun n => .slice (some ⟨n, 0, none⟩) len (if Nat.beq len 0 then 0 else 1))
noncomputable def oneK (l : List Value) (k : Value → A) : A := List.rec none (fun v tl _ => List.rec (k v) (fun _ _ _ => none) tl) l
noncomputable def oLoad (g : Bool) (n : Nat) (x : Operand) : OpK := fun _ t σ k => evK t x fun v => ptrK v none fun b o => loadK σ b o n fun vs => Bool.rec (oneK vs fun v => k v σ) (k (.agg vs.toArray) σ) g
noncomputable def oStore (n : Nat) (a x : Operand) : OpK := fun _ t σ k => evK t a fun v => ptrK v none fun b o => evK t x fun u => cellsK u fun vs => hasLen vs n (storeK σ b o n vs fun σ' => k undef σ')
noncomputable def oNil (x : Operand) : OpK := fun _ t σ k => evK t x fun v => match v with | .pointer (some a) => k (.pointer (some a)) σ | _ => none
noncomputable def oBin (op : BinOp) (x y : Operand) : OpK := fun _ t σ k => evK t x fun a => evK t y fun b => binK op a b fun v => k v σ
noncomputable def oEqS (neg : Bool) (ls : List (Nat × Nat)) (x y : Operand) : OpK := fun _ t σ k => evK t x fun a => evK t y fun b => aggK a none fun xs => aggK b none fun ys =>
  eqLsK xs ys ls (boolV neg fun v => k v σ) (boolV (!neg) fun v => k v σ) true
noncomputable def oUn (op : UnOp) (x : Operand) : OpK := fun _ t σ k => evK t x fun v => match op, v with
    | .not, .bool b => boolV (!b) fun v => k v σ
    | op, v => val (aun op v) σ k
noncomputable def oConv (kd : IntKind) (x : Operand) : OpK := fun _ t σ k => evK t x fun v => intK v none fun _ z => wrapK kd z fun z => k (.int kd z) σ
noncomputable def oFn (f : FuncId) (first cap : List Operand) : OpK := fun _ t σ k => evsK t first fun a => evsK t cap fun b => k (.func (.func f) a.toArray b.toArray) σ
noncomputable def oMap : OpK := fun _ _ σ k => k (.map (some σ.n)) (σ.push (.obj (.map #[] 0)))
noncomputable def oMkSl (z : List Value) (bytes : Nat) (l c : Operand) : OpK := fun _ t σ k => bnd (match ev t l, ev t c with
    | .int .i64 a, .int .i64 b =>
      if 0 ≤ a ∧ a ≤ b ∧ b * bytes ≤ 140737488355328 ∧ b ≤ 140737488355328 then
        some (.slice (some ⟨σ.n, 0, none⟩) a.toNat (if b = 0 then 0 else 1), σ.newRow (List.replicate a.toNat z).flatten z.length)
      else none
    | _, _ => none) k
noncomputable def oSlS (sz : Nat) (x : Operand) (lo hi mx : Option Operand) : OpK := fun _ t σ k => val (sliceOp σ sz (ev t x) (lo.map (ev t)) (hi.map (ev t)) (mx.map (ev t))) σ k
noncomputable def oSlStr (x : Operand) (lo hi : Option Operand) : OpK := fun _ t σ k => bnd (match ev t x with
    | .string s => (match bound (hi.map (ev t)) s.size s.size with
      | some h => (match bound (lo.map (ev t)) 0 h with | some k => some (.string (s.extract k h), σ) | none => none)
      | none => none)
    | _ => none) k
noncomputable def oFldA (off : Nat) (x : Operand) : OpK := fun _ t σ k => evK t x fun v => ptrK v none fun b o => k (.pointer (some ⟨b, Nat.add o off, none⟩)) σ
noncomputable def oFld (g : Bool) (off n : Nat) (x : Operand) : OpK := fun _ t σ k => evK t x fun v => aggK v none fun l => Bool.rec (nthK l off fun u => k u σ) (k (.agg ((l.drop off).take n).toArray) σ) g
noncomputable def natK (z : Int) (k : Nat → A) : A := Int.rec (fun n => k n) (fun _ => none) z
noncomputable def oIdxA (sz : Nat) (x i : Operand) : OpK := fun _ t σ k => evK t x fun v => evK t i fun w => (match v with
    | .slice (some ⟨b, o, _⟩) l _ => intK w none fun _ z => natK z fun m => Bool.rec none (k (.pointer (some ⟨b, Nat.add o (Nat.mul m sz), none⟩)) σ) (Nat.ble (Nat.succ m) l)
    | _ => none)
noncomputable def oIdxArr (len sz : Nat) (x i : Operand) : OpK := fun _ t σ k => evK t x fun v => evK t i fun w => ptrK v none fun b o => intK w none fun _ z => natK z fun m => Bool.rec none (k (.pointer (some ⟨b, Nat.add o (Nat.mul m sz), none⟩)) σ) (Nat.ble (Nat.succ m) len)
noncomputable def oIdxS (x i : Operand) : OpK := fun _ t σ k => bnd (match ev t x, ev t i with
    | .string s, .int _ i => if 0 ≤ i then (match s[i.toNat]? with | some c => some (.int .u8 c.toNat, σ) | none => none) else none
    | _, _ => none) k
noncomputable def oExt (x : Operand) (i : Nat) : OpK := fun _ t σ k => evK t x fun v => match v with
    | .tuple vs => nthK vs.toList i fun u => k u σ
    | _ => none
noncomputable def oLenS (x : Operand) : OpK := fun _ t σ k => evK t x fun v => match v with | .slice _ l _ => k (.int .i64 (Int.ofNat l)) σ | _ => none
noncomputable def oLenStr (x : Operand) : OpK := fun _ t σ k => evK t x fun v => match v with | .string s => k (.int .i64 (Int.ofNat s.size)) σ | _ => none
noncomputable def oApp (sz bytes : Nat) (s x : Operand) : OpK := fun _ t σ k => bnd (appOp σ sz bytes (ev t s) (ev t x)) k
noncomputable def oCall (f : FuncId) (xs : List Operand) : OpK := fun call t σ k => evsK t xs fun vs => call f vs σ k
noncomputable def oCallV (x : Operand) (xs : List Operand) : OpK := fun call t σ k => evK t x fun v => match v with
    | .func (.func f) first cap => evsK t xs fun vs => call f (first.toList ++ (vs ++ cap.toList)) σ k
    | _ => none
noncomputable def oEqNil (neg : Bool) (x : Operand) : OpK := fun _ t σ k => evK t x fun v => match v with
    | .slice a _ _ => Bool.rec (boolV a.isNone fun v => k v σ) (boolV (!a.isNone) fun v => k v σ) neg
    | _ => none
noncomputable def oEqB (neg : Bool) (x y : Operand) : OpK := fun _ t σ k => evK t x fun a => evK t y fun b => boolK a none (boolK b none (boolV (Bool.rec true false neg) fun v => k v σ) (boolV (Bool.rec false true neg) fun v => k v σ))
    (boolK b none (boolV (Bool.rec false true neg) fun v => k v σ) (boolV (Bool.rec true false neg) fun v => k v σ))
noncomputable def oRest (o : AOp) : OpK := fun _ t σ k => bnd (aop σ t o) k
noncomputable def oNone : OpK := fun _ _ _ _ => none
noncomputable def aoperK (o : AOp) : OpK :=
  AOp.rec oMv oPick oAlloc oBox oBuild oBuildSl oLoad oStore oNil oBin oEqS oUn oConv oFn oMap oMkSl oSlS oSlStr oFldA oFld oIdxA oIdxArr oIdxS (fun a b c d e => oRest (.lookup a b c d e)) (fun a b c d => oRest (.mupd a b c d))
    (fun a => oRest (.rng a)) (fun a => oRest (.next a)) oExt oLenS oLenStr oApp oCall oCallV oEqNil oEqB (fun a b => oRest (.max2 a b)) (fun a b => oRest (.idxB a b)) (fun a b => oRest (.min2 a b)) (fun a b => oRest (.slA a b)) oNone o
theorem aoperK_eq {call : CallF} {callK : CallK} (hc : ∀ f args σ k, callK f args σ k = bnd (call f args σ) k) (o : AOp) (t : Tmps) (σ : AHeap) (k : Value → AHeap → A) : aoperK o callK t σ k = bnd (aoper call o t σ) k := by
  cases o with
  | mv x => show oMv x callK t σ k = _; unfold oMv; rw [evK_eq]; rfl
  | pick c a b =>
    show oPick c a b callK t σ k = _; unfold oPick; simp only [evK_eq, aoper, aop]
    cases ev t c with
    | bool r => cases r <;> rfl
    | _ => rfl
  | alloc z es => show oAlloc z es callK t σ k = _; unfold oAlloc; rw [rowNew_eq]; rfl
  | box es x =>
    show oBox es x callK t σ k = _; unfold oBox; simp only [evK_eq, cellsK_eq, cellsB_eq, rowNew_eq, aoper, aop]
    cases (ev t x).cells.toList.all isCell <;> rfl
  | build z ps => show oBuild z ps callK t σ k = _; unfold oBuild; simp only [fillK_eq, aoper, aop]; cases fillL t z ps <;> rfl
  | buildSl z s l ps =>
    show oBuildSl z s l ps callK t σ k = _; unfold oBuildSl; simp only [fillK_eq, cellsB_eq, rowNew_eq, aoper, aop]
    cases fillL t z ps with
    | none => rfl
    | some cs => simp only; cases cs.all isCell <;> rfl
  | load g n x =>
    show oLoad g n x callK t σ k = _; unfold oLoad; simp only [evK_eq, loadK_eq, aoper, aop]
    cases ev t x with
    | pointer a => cases a with
      | none => rfl
      | some a =>
        obtain ⟨b, o, s⟩ := a
        simp only [ptrK]
        cases σ.loadN b o n with
        | none => rfl
        | some vs => cases g with
          | true => rfl
          | false => cases vs with
            | nil => rfl
            | cons v tl => cases tl <;> rfl
    | _ => rfl
  | store n a x =>
    show oStore n a x callK t σ k = _; unfold oStore; simp only [evK_eq, cellsK_eq, hasLen_eq, aoper, aop]
    cases ev t a with
    | pointer p => cases p with
      | none => rfl
      | some p =>
        obtain ⟨b, o, s⟩ := p
        simp only [ptrK]
        cases hn : Nat.beq (ev t x).cells.toList.length n with
        | false => rfl
        | true =>
          have := Nat.eq_of_beq_eq_true hn
          subst this
          simp only [if_true, storeK_eq]; cases σ.storeN b o (ev t x).cells.toList <;> rfl
    | _ => rfl
  | nilck x =>
    show oNil x callK t σ k = _; unfold oNil; simp only [evK_eq, aoper, aop]
    cases ev t x with
    | pointer a => cases a <;> rfl
    | _ => rfl
  | bin op x y =>
    show oBin op x y callK t σ k = _; unfold oBin; simp only [evK_eq, binK_eq, aoper, aop]
    cases abinA op (ev t x) (ev t y) <;> rfl
  | eqS neg ls x y =>
    show oEqS neg ls x y callK t σ k = _; unfold oEqS; simp only [evK_eq, boolV_eq, eqLsK_eq, aoper, aop]
    cases ev t x with
    | agg xs => cases ev t y with
      | agg ys =>
        simp only [aggK]
        cases eqLsA xs.toList ys.toList ls with
        | none => rfl
        | some r => cases r <;> cases neg <;> rfl
      | _ => rfl
    | _ => rfl
  | un op x =>
    show oUn op x callK t σ k = _; unfold oUn; simp only [evK_eq, aoper, aop]
    cases op with
    | not => cases ev t x with
      | bool b => simp only [boolV_eq, aun, bnd]
      | _ => rfl
    | _ => simp only [val]; split <;> rename_i h <;> rw [h] <;> rfl
  | conv kd x =>
    show oConv kd x callK t σ k = _; unfold oConv; simp only [evK_eq, wrapK_eq, aoper, aop]
    cases ev t x <;> rfl
  | mkFn f a b => show oFn f a b callK t σ k = _; unfold oFn; simp only [evsK_eq, aoper, aop, bnd]
  | mkMap => rfl
  | mkSl z b l c => rfl
  | slS s x lo hi mx => show oSlS s x lo hi mx callK t σ k = _; unfold oSlS; simp only [aoper, aop, val]; split <;> rename_i h <;> rw [h] <;> rfl
  | slStr x lo hi => rfl
  | fldA off x =>
    show oFldA off x callK t σ k = _; unfold oFldA; simp only [evK_eq, aoper, aop]
    cases ev t x with
    | pointer a => cases a <;> rfl
    | _ => rfl
  | fld g off n x =>
    show oFld g off n x callK t σ k = _; unfold oFld; simp only [evK_eq, nthK_eq, aoper, aop]
    cases ev t x with
    | agg cs =>
      simp only [aggK]
      cases g with
      | true => rfl
      | false => simp only [Bool.false_eq_true, if_false]; cases cs.toList[off]? <;> rfl
    | _ => rfl
  | idxA sz x i =>
    show oIdxA sz x i callK t σ k = _; unfold oIdxA; simp only [evK_eq, aoper, aop]
    cases ev t x with
    | slice a l c => cases a with
      | none => rfl
      | some a =>
        obtain ⟨b, o, s⟩ := a
        cases ev t i with
        | int kd z =>
          simp only [intK]
          cases z with
          | negSucc m => rw [if_neg (by omega)]; rfl
          | ofNat m =>
            show (Bool.rec none _ (Nat.ble (m + 1) l) : A) = _
            cases h : Nat.ble (m + 1) l with
            | false =>
              have : ¬ (m + 1 ≤ l) := fun e => by rw [Nat.ble_eq_true_of_le e] at h; cases h
              rw [if_neg (by simp only [Int.ofNat_eq_natCast]; omega)]; rfl
            | true =>
              have := Nat.le_of_ble_eq_true h
              rw [if_pos (by simp only [Int.ofNat_eq_natCast]; omega)]; rfl
        | _ => rfl
    | _ => rfl
  | idxArr len sz x i =>
    show oIdxArr len sz x i callK t σ k = _; unfold oIdxArr; simp only [evK_eq, aoper, aop]
    cases ev t x with
    | pointer a => cases a with
      | none => rfl
      | some a =>
        obtain ⟨b, o, s⟩ := a
        simp only [ptrK]
        cases ev t i with
        | int kd z =>
          simp only [intK]
          cases z with
          | negSucc m => rw [if_neg (by omega)]; rfl
          | ofNat m =>
            show (Bool.rec none _ (Nat.ble (m + 1) len) : A) = _
            cases h : Nat.ble (m + 1) len with
            | false =>
              have : ¬ (m + 1 ≤ len) := fun e => by rw [Nat.ble_eq_true_of_le e] at h; cases h
              rw [if_neg (by simp only [Int.ofNat_eq_natCast]; omega)]; rfl
            | true =>
              have := Nat.le_of_ble_eq_true h
              rw [if_pos (by simp only [Int.ofNat_eq_natCast]; omega)]; rfl
        | _ => rfl
    | _ => rfl
  | idxS x i => rfl
  | ext x i =>
    show oExt x i callK t σ k = _; unfold oExt; simp only [evK_eq, nthK_eq, aoper, aop]
    cases ev t x with
    | tuple vs => simp only; cases vs.toList[i]? <;> rfl
    | _ => rfl
  | lenS x => show oLenS x callK t σ k = _; unfold oLenS; simp only [evK_eq, aoper, aop]; cases ev t x <;> rfl
  | lenStr x => show oLenStr x callK t σ k = _; unfold oLenStr; simp only [evK_eq, aoper, aop]; cases ev t x <;> rfl
  | app sz bytes s x => rfl
  | call f xs => show oCall f xs callK t σ k = _; unfold oCall; simp only [evsK_eq, hc, aoper]
  | callV x xs =>
    show oCallV x xs callK t σ k = _; unfold oCallV; simp only [evK_eq, evsK_eq, hc, aoper]
    cases ev t x with
    | func f a b => cases f <;> rfl
    | _ => rfl
  | eqNil neg x =>
    show oEqNil neg x callK t σ k = _; unfold oEqNil; simp only [evK_eq, boolV_eq, aoper, aop]
    cases ev t x with
    | slice a l c => cases neg <;> rfl
    | _ => rfl
  | eqB neg x y =>
    show oEqB neg x y callK t σ k = _; unfold oEqB; simp only [evK_eq, boolV_eq, aoper, aop]
    cases ev t x with
    | bool a => cases ev t y with
      | bool b => cases a <;> cases b <;> cases neg <;> rfl
      | _ => cases a <;> rfl
    | _ => rfl
  | lookup a b c d e => rfl
  | mupd a b c d => rfl
  | rng a => rfl
  | next a => rfl
  | max2 a b => rfl
  | idxB a b => rfl
  | min2 a b => rfl
  | slA a b => rfl
  | bad => rfl
end
end Go.Hai
