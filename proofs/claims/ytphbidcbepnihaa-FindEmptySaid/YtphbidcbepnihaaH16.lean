/-
  The abstract interpreter: a region whose order is open: in whatever order its operations are carried out, the same comes of it (3). No proof of the program stands here.
-/
import Derived.Test.YtphbidcbepnihaaH15
namespace Go.Hai
open Go

/- the temporaries that are named alone -/
def keepT (t : Tmps) : List Nat → Tmps
  | [] => .tip
  | i :: l => (keepT t l).ins i (tget t i)
theorem keepT_get [Rho] (t : Tmps) : ∀ (l : List Nat) (i : Nat), tget (keepT t l) i = if i ∈ l then tget t i else undef := by
  intro l
  induction l with
  | nil => intro i; simp [keepT, tget, Tr.get_tip]
  | cons j l ih =>
    intro i
    simp only [keepT, tget_ins, ih, List.mem_cons]
    by_cases h : j = i
    · subst h; simp
    · rw [if_neg h]
      have : i ≠ j := fun e => h e.symm
      simp [this]

theorem mem_tmpsOf {l : List Operand} {i : Nat} (h : Operand.tmp i ∈ l) : i ∈ tmpsOf l := by
  unfold tmpsOf
  rw [List.mem_filterMap]
  exact ⟨.tmp i, h, rfl⟩

theorem load_same {σ σ' : AHeap} {b o n : Nat} (hg : σ'.t.get b = σ.t.get b) (ha : ∀ cs len es top rw fam, σ.t.get b = some (.row cs len es top rw fam) → σ'.alive fam = σ.alive fam) : σ'.loadN b o n = σ.loadN b o n := by
  unfold AHeap.loadN AHeap.row?
  rw [hg]
  cases hb : σ.t.get b with
  | none => rfl
  | some x => cases x with
    | obj _ => rfl
    | row cs len es top rw' fam => simp only [ha _ _ _ _ _ _ hb]

namespace Road
variable {P : Program} {call : CallF} {N : Nat} (R : Road P call N)

def add (L : Nat → Bool) (j : Nat) : Nat → Bool := fun i => if i = j then true else L i
theorem add_same (L : Nat → Bool) (j : Nat) : add L j j = true := by simp [add]
theorem add_other {L : Nat → Bool} {i j : Nat} (h : i ≠ j) : add L j i = L i := by simp [add, h]

theorem cur_between {L : Nat → Bool} {i₁ i₂ j : Nat} (h₁ : R.Cur L i₁) (h₂ : R.Cur L i₂) (h : i₁ ≤ j) (h' : j ≤ i₂) : R.Cur L j :=
  ⟨Nat.le_trans h' h₂.1, fun k hk he => h₂.2.1 k (by omega) he, fun k hk hn he => h₁.2.2 k (by omega) hn he⟩

/- the nearest place that stands where the heap stands now -/
theorem near [Rho] {L : Nat → Bool} (h : ∃ i, R.Cur L i) (j : Nat) : ∃ i, R.Cur L i ∧ (i = j ∨ (j < i ∧ ∀ c, R.Cur L c → i ≤ c) ∨ (i < j ∧ ∀ c, R.Cur L c → c ≤ i)) := by
  by_cases hj : R.Cur L j
  · exact ⟨j, hj, .inl rfl⟩
  · obtain ⟨i, hi⟩ := h
    by_cases hlt : i < j
    · -- the greatest one
      have : ∀ d i, R.n - i = d → R.Cur L i → i < j → ∃ m, R.Cur L m ∧ (m < j ∧ ∀ c, R.Cur L c → c ≤ m) := by
        intro d
        induction d using Nat.strongRecOn with
        | _ d ih =>
          intro i hd hi hlt
          by_cases hc : ∃ c, R.Cur L c ∧ i < c
          · obtain ⟨c, hc, hic⟩ := hc
            have hcj : c < j := by
              rcases Nat.lt_or_ge c j with h | h
              · exact h
              · exact absurd (R.cur_between hi hc (Nat.le_of_lt hlt) h) hj
            exact ih (R.n - c) (by have := hc.1; omega) c rfl hc hcj
          · refine ⟨i, hi, hlt, fun c hc' => ?_⟩
            rcases Nat.lt_or_ge i c with h | h
            · exact absurd ⟨c, hc', h⟩ hc
            · exact h
      obtain ⟨m, h1, h2⟩ := this _ i rfl hi hlt
      exact ⟨m, h1, .inr (.inr h2)⟩
    · have hgt : j < i := by
        rcases Nat.lt_or_ge j i with h | h
        · exact h
        · have : i = j := by omega
          subst this; exact absurd hi hj
      have : ∀ i, R.Cur L i → j < i → ∃ m, R.Cur L m ∧ (j < m ∧ ∀ c, R.Cur L c → m ≤ c) := by
        intro i
        induction i using Nat.strongRecOn with
        | _ i ih =>
          intro hi hgt
          by_cases hc : ∃ c, R.Cur L c ∧ c < i
          · obtain ⟨c, hc, hci⟩ := hc
            have hcj : j < c := by
              rcases Nat.lt_or_ge j c with h | h
              · exact h
              · exact absurd (R.cur_between hc hi h (Nat.le_of_lt hgt)) hj
            exact ih c hci hc hcj
          · refine ⟨i, hi, hgt, fun c hc' => ?_⟩
            rcases Nat.lt_or_ge c i with h | h
            · exact absurd ⟨c, hc', h⟩ hc
            · exact h
      obtain ⟨m, h1, h2⟩ := this i hi hgt
      exact ⟨m, h1, .inr (.inl h2)⟩

/- an operation that changes something stands where the heap stands; so does one that is neither pure nor a reading -/
theorem cur_of [Rho] {L : Nat → Bool} (hc : R.Closed L) {j : Nat} (hj : j < R.n) (hL : L j = false) (hr : R.Ready L j) (hk : ∀ k, k < R.n → k ≠ j → isEff (R.K k) = true → mixes (R.K k) (R.K j) = false ∧ mixes (R.K j) (R.K k) = false) : R.Cur L j := by
  refine ⟨Nat.le_of_lt hj, fun k hkj he => ?_, fun k hjk hkn he => ?_⟩
  · obtain ⟨m1, m2⟩ := hk k (by omega) (by omega) he
    rcases R.order k j hkj hj (.inl he) with h | h | h
    · exact R.ahead hc j k hj (by omega) hr h
    · rw [m1] at h; cases h
    · rw [m2] at h; cases h
  · by_cases hkj : k = j
    · subst hkj; exact hL
    · obtain ⟨m1, m2⟩ := hk k hkn hkj he
      rcases R.order j k (by omega) hkn (.inr he) with h | h | h
      · cases hLk : L k with
        | false => rfl
        | true =>
          have := R.ahead hc k j hkn hj (R.closed_ready hc hLk) h
          rw [hL] at this; cases this
      · rw [m2] at h; cases h
      · rw [m1] at h; cases h

theorem add_closed [Rho] {L : Nat → Bool} (hc : R.Closed L) {j : Nat} (hr : R.Ready L j) : R.Closed (add L j) := by
  intro i o hi ho e he hb
  by_cases hij : i = j
  · subst hij
    have := hr o ho e he hb
    by_cases hej : e.on = i
    · rw [hej, add_same]
    · rw [add_other hej, this]
  · rw [add_other hij] at hi
    have := hc i o hi ho e he hb
    by_cases hej : e.on = j
    · rw [hej, add_same]
    · rw [add_other hej, this]

theorem cur_add [Rho] {L : Nat → Bool} {j : Nat} (hk : isEff (R.K j) = false) (i : Nat) : R.Cur (add L j) i ↔ R.Cur L i := by
  have hne : ∀ k, isEff (R.K k) = true → k ≠ j := fun k h e => by rw [e, hk] at h; cases h
  constructor
  · rintro ⟨h1, h2, h3⟩
    exact ⟨h1, fun k hk he => by have := h2 k hk he; rwa [add_other (hne k he)] at this, fun k h hn he => by have := h3 k h hn he; rwa [add_other (hne k he)] at this⟩
  · rintro ⟨h1, h2, h3⟩
    exact ⟨h1, fun k hk he => by rw [add_other (hne k he)]; exact h2 k hk he, fun k h hn he => by rw [add_other (hne k he)]; exact h3 k h hn he⟩

/- the temporaries behind one more operation -/
theorem tmp_add [Rho] {L : Nat → Bool} {a : Act} {ρ ρ' : Ren} {j k : Nat} {o : Oper} {ao : AOper} {u : Value} (hj : j < R.n) (ho : R.ops[j]? = some o) (hao : R.l[j]? = some ao) (hd : ao.dst = o.dst) (hN : compDst N o.dst = true)
    (hcl : R.Closed L) (hL : L j = false) (hr : R.Ready L j) (hsize : a.tmps.size = N) (htmp : ∀ τ, ∃ k val, R.Last L τ k val ∧ VR (res ρ k) val (a.tmps.getD τ undef)) (hle : ρ.le ρ')
    (hv : VR (res ρ' k) (R.V j) u) (hk : ∀ c, R.Cur (add L j) c → k ≤ max (R.S (j + 1)).n (R.S c).n)
    (hcur : ∀ c', R.Cur (add L j) c' → ∃ c, R.Cur L c ∧ (R.S c).n ≤ (R.S c').n) :
    ∀ τ, ∃ k val, R.Last (add L j) τ k val ∧ VR (res ρ' k) val ((a.put o.dst u).tmps.getD τ undef) := by
  intro τ
  by_cases hdt : o.dst = some τ
  · refine ⟨k, R.V j, .inl ⟨j, ao, hj, hao, add_same _ _, by rw [hd, hdt], ?_, rfl, hk⟩, ?_⟩
    · intro i' a' h1 h2 h3
      rcases Nat.lt_or_ge j i' with h | h
      · have hi' : i' < R.n := by have := (List.getElem?_eq_some_iff.1 h1).1; rw [R.hl] at this; exact this
        obtain ⟨o', _, ho', _⟩ := R.opAt hi'
        rw [add_other (by omega)] at h2
        have hb := R.pairs j i' o o' ao a' h ho ho' hao h1 (.inl (meets_of (τ := τ) (by rw [hd, hdt]) (by unfold namesOf; rw [h3]; simp)))
        have := R.ahead hcl i' j hi' hj (R.closed_ready hcl h2) hb
        rw [hL] at this; cases this
      · exact h
    · have : τ < N := by rw [hdt] at hN; simpa [compDst, Nat.blt_eq] using hN
      have e : (a.put o.dst u).tmps.getD τ undef = u := by
        rw [hdt]
        simp [Act.put, Array.getD, hsize, this]
      rw [e]; exact hv
  · have e : (a.put o.dst u).tmps.getD τ undef = a.tmps.getD τ undef := by
      cases hdd : o.dst with
      | none => rfl
      | some d =>
        have hne : d ≠ τ := fun h => hdt (by rw [hdd, h])
        simp only [Act.put, Array.getD_eq_getD_getElem?]
        rw [Array.getElem?_setIfInBounds_ne hne]
    rw [e]
    obtain ⟨k', val, hlast, hv'⟩ := htmp τ
    refine ⟨k', val, ?_, hv'.mono (res_mono hle (Nat.le_refl _))⟩
    rcases hlast with ⟨i, ai, h1, h2, h3, h4, h5, h6, h7⟩ | ⟨h1, h2, h3⟩
    · have hij : i ≠ j := by rintro rfl; rw [hL] at h3; cases h3
      refine .inl ⟨i, ai, h1, h2, by rw [add_other hij]; exact h3, h4, ?_, h6, ?_⟩
      · intro i' a' g1 g2 g3
        by_cases hi' : i' = j
        · subst hi'; rw [hao] at g1; cases g1; rw [hd] at g3; exact absurd g3 hdt
        · rw [add_other hi'] at g2; exact h5 i' a' g1 g2 g3
      · intro c' hc'
        obtain ⟨c, hc, hcc⟩ := hcur c' hc'
        have := h7 c hc
        omega
    · refine .inr ⟨fun i ai g1 g2 => ?_, h2, h3⟩
      by_cases hi : i = j
      · subst hi; rw [hao] at g1; cases g1; rw [hd]; exact hdt
      · rw [add_other hi] at g2; exact h1 i ai g1 g2

/- the result of an operation that is next, run where the heap stands -/
theorem run_at [Rho] (hcall : CallOk P call) {ρ0 : Ren} {w0 : World} {L : Nat → Bool} {a : Act} {ρ : Ren} {w : World} (I : R.Inv ρ0 w0 L a ρ w) {j i : Nat} {o : Oper} {ao : AOper} {v : Value} {τ : AHeap} (hj : j < R.n) (ho : R.ops[j]? = some o) (hao : R.l[j]? = some ao)
    (hL : L j = false) (hr : R.Ready L j) (hi : R.Cur L i) (hx : ∀ k, (∀ c, R.Cur L c → k ≤ max (R.S j).n (R.S c).n) → (res ρ k).le (res ρ (R.S i).n))
    (hv : aoper call ao.op (R.T j) { R.S i with low := (R.S i).n } = some (v, τ)) {K : Act → World → Prop} {Q : Exit → Act → World → Prop}
    (hK : ∀ u w' ρ', VR ρ' v u → Post (res ρ (R.S i).n) { R.S i with low := (R.S i).n } w ρ' τ w' → K (a.put o.dst u) w') : o.wp P a w K Q := by
  let nm := tmpsOf (opXs ao.op) ++ tmpsOf o.op.operands.toList
  have hsub : ∀ x ∈ nm, x ∈ namesOf o ao := fun x hx => by
    unfold namesOf
    simp only [List.mem_append]
    exact .inr (.inr (by simpa [nm] using hx))
  let t' := keepT (R.T j) nm
  let η : Operand → Value := fun x => match x with | .tmp i => if i ∈ nm then a.tmps.getD i undef else undef | x => a.eval x
  have hval : ∀ x ∈ nm, VR (res ρ (R.S i).n) (tget (R.T j) x) (a.tmps.getD x undef) := fun x hxn => by
    obtain ⟨k, h1, h2⟩ := R.tmp_at I hj ho hao hL hr (hsub x hxn) hcall
    exact h1.mono (hx k h2)
  have hvx : ∀ x, okX x = true → VR (res ρ (R.S i).n) (ev t' x) (η x) := by
    intro x hox
    cases x with
    | tmp y =>
      simp only [ev, t', keepT_get, η]
      by_cases hy : y ∈ nm
      · rw [if_pos hy, if_pos hy]; exact hval y hy
      · rw [if_neg hy, if_neg hy]; exact .flat rfl
    | const v => exact .flat hox
    | func f => exact .flat rfl
    | global g => cases hox
  have hη : ∀ x ∈ o.op.operands, a.eval x = η x := by
    intro x hxo
    cases x with
    | tmp y =>
      have : y ∈ nm := by simp only [nm, List.mem_append]; exact .inr (mem_tmpsOf (by simpa using hxo))
      simp only [η, if_pos this]; rfl
    | _ => rfl
  have hv' : aoper call ao.op t' { R.S i with low := (R.S i).n } = some (v, τ) := by
    rw [← hv]
    refine aoper_congr fun x hxo => ev_congr fun y hy => ?_
    subst hy
    have : y ∈ nm := by simp only [nm, List.mem_append]; exact .inl (mem_tmpsOf hxo)
    simp only [t', keepT_get, if_pos this]
  exact oper_ok hcall (R.hcomp j o ao ho hao) (sim_low.2 (I.heap i hi)) η hη hvx hv' hK
end Road
end Go.Hai
