/-
  The abstract interpreter: a region whose order is open: in whatever order its operations are carried out, the same comes of it (1). No proof of the program stands here.
-/
import Derived.Test.YtphbidcbepnihaaH13
namespace Go.Hai
open Go

/- ---- the abstract road, operation by operation ---- -/
def StepR (call : CallF) (o : AOper) (t : Tmps) (σ : AHeap) (v : Value) (t' : Tmps) (σ' : AHeap) (k : AKind) : Prop :=
  t' = setD t o.dst v ∧
  ((wants t o.guard = true ∧ ∃ τ, aoper call o.op t { σ with low := σ.n } = some (v, τ) ∧ σ' = { τ with low := minN σ.low τ.low } ∧ k = kindOf o.op t σ (Nat.beq τ.low σ.n)) ∨
   (wants t o.guard = false ∧ v = undef ∧ σ' = σ ∧ k = .pure))

def Traced (call : CallF) (l : List AOper) (t : Tmps) (σ : AHeap) (t' : Tmps) (σ' : AHeap) (ks : List AKind) : Prop :=
  ∃ (T : Nat → Tmps) (S : Nat → AHeap) (V : Nat → Value) (K : Nat → AKind), T 0 = t ∧ S 0 = σ ∧ T l.length = t' ∧ S l.length = σ' ∧ ks.length = l.length ∧ (∀ j, j < l.length → ks[j]? = some (K j)) ∧
      ∀ j o, l[j]? = some o → StepR call o (T j) (S j) (V j) (T (j + 1)) (S (j + 1)) (K j)
theorem trace_of {call : CallF} : ∀ (l : List AOper) (t : Tmps) (σ : AHeap) (t' : Tmps) (σ' : AHeap) (ks : List AKind), runDraw call l t σ = some (t', σ', ks) → Traced call l t σ t' σ' ks := by
  intro l
  induction l with
  | nil =>
    intro t σ t' σ' ks h
    simp only [runDraw] at h; cases h
    exact ⟨fun _ => t, fun _ => σ, fun _ => undef, fun _ => .pure, rfl, rfl, rfl, rfl, rfl, by simp, by simp⟩
  | cons o l ih =>
    intro t σ t' σ' ks h
    have fin : ∀ (v : Value) (σ₁ : AHeap) (k : AKind) (ks' : List AKind), StepR call o t σ v (setD t o.dst v) σ₁ k → runDraw call l (setD t o.dst v) σ₁ = some (t', σ', ks') → ks = k :: ks' → Traced call (o :: l) t σ t' σ' ks := by
      intro v σ₁ k ks' hst hr hks
      obtain ⟨T, S, V, K, e1, e2, e3, e4, e5, e6, e7⟩ := ih _ _ _ _ _ hr
      refine ⟨fun j => match j with | 0 => t | j + 1 => T j, fun j => match j with | 0 => σ | j + 1 => S j, fun j => match j with | 0 => v | j + 1 => V j, fun j => match j with | 0 => k | j + 1 => K j,
        rfl, rfl, e3, e4, by simp [hks, e5], ?_, ?_⟩
      · intro j hj
        cases j with
        | zero => simp [hks]
        | succ j => simp only [hks, List.getElem?_cons_succ]; exact e6 j (by simpa using hj)
      · intro j o' ho'
        cases j with
        | zero =>
          simp at ho'; subst ho'
          show StepR call o t σ v (T 0) (S 0) k
          rw [e1, e2]; exact hst
        | succ j => exact e7 j o' (by simpa using ho')
    simp only [runDraw] at h
    split at h
    · next hw =>
      split at h
      · next v τ hv =>
        split at h
        · next t1 σ1 ks1 hr => cases h; exact fin v _ _ _ ⟨rfl, .inl ⟨hw, τ, hv, rfl, rfl⟩⟩ hr rfl
        · cases h
      · cases h
    · next hw =>
      split at h
      · next t1 σ1 ks1 hr => cases h; exact fin undef _ _ _ ⟨rfl, .inr ⟨by simpa using hw, rfl, rfl, rfl⟩⟩ hr rfl
      · cases h

/- ---- agreement of two heaps on what was there ---- -/
structure Ag (σ σ' : AHeap) : Prop where
  n : σ.n ≤ σ'.n
  get : ∀ b, b < σ.n → σ'.t.get b = σ.t.get b
  dead : ∀ p ∈ σ'.dead, p ∈ σ.dead ∨ σ.n ≤ p.2
  dead' : ∀ p ∈ σ.dead, p ∈ σ'.dead
theorem Ag.refl (σ : AHeap) : Ag σ σ := ⟨Nat.le_refl _, fun _ _ => rfl, fun _ h => .inl h, fun _ h => h⟩
theorem Ag.trans {σ σ₁ σ₂ : AHeap} (h : Ag σ σ₁) (h' : Ag σ₁ σ₂) : Ag σ σ₂ where
  n := Nat.le_trans h.n h'.n
  get := fun b hb => by rw [h'.get b (Nat.lt_of_lt_of_le hb h.n), h.get b hb]
  dead := fun p hp => (h'.dead p hp).elim (fun q => h.dead p q) fun q => .inr (Nat.le_trans h.n q)
  dead' := fun p hp => h'.dead' p (h.dead' p hp)

theorem Ag.alive [Rho] {σ σ' : AHeap} (h : Ag σ σ') {fam : Option (Nat × Nat)} {b : Nat} (hb : b < σ.n) (hf : ∀ p, fam = some p → p.2 ≤ b) : σ'.alive fam = σ.alive fam := by
  cases fam with
  | none => rfl
  | some p =>
    have := hf p rfl
    cases h1 : σ.alive (some p) with
    | true =>
      rw [alive_some] at *
      intro hp
      rcases h.dead p hp with q | q
      · exact h1 q
      · omega
    | false =>
      cases h2 : σ'.alive (some p) with
      | false => rfl
      | true => rw [alive_of h.dead' h2] at h1; cases h1

/- only the low mark is another one -/
theorem sim_low [Rho] {ρ : Ren} {σ : AHeap} {w : World} {x : Nat} : Sim ρ { σ with low := x } w ↔ Sim ρ σ w := by
  constructor
  · intro h; exact ⟨h.dom, h.lt, h.some', h.row, h.obj, h.sep, h.top⟩
  · intro h; exact ⟨h.dom, h.lt, h.some', h.row, h.obj, h.sep, h.top⟩

theorem sim_ag [Rho] {ρ : Ren} {σ σ' : AHeap} {w : World} (ha : Ag σ σ') (h : Sim ρ σ w) : Sim ρ σ' w := by
  have hg : ∀ b L, ρ b = some L → σ'.t.get b = σ.t.get b := fun b L e => ha.get b (h.dom b L e)
  refine ⟨fun b L e => Nat.lt_of_lt_of_le (h.dom b L e) ha.n, h.lt, fun b L e => by rw [hg b L e]; exact h.some' b L e, ?_, ?_, ?_, ?_⟩
  · intro b L cs len es top rw' fam e g
    rw [hg b L e] at g
    obtain ⟨q1, q2, q3⟩ := h.row b L cs len es top rw' fam e g
    exact ⟨q1, q2, fun hal => q3 (by rw [← ha.alive (h.dom b L e) q2]; exact hal)⟩
  · intro b L o e g
    rw [hg b L e] at g
    exact h.obj b L o e g
  · intro b b' L L' hne e e' hB
    rw [hg b L e, hg b' L' e']
    exact shares_dead ha.dead' (h.sep b b' L L' hne e e' hB)
  · intro b b' L L' cs len es fam cs' len' es' top' rw' fam' hne e e' hB g g' hal hal'
    rw [hg b L e] at g
    rw [hg b' L' e'] at g'
    exact h.top b b' L L' _ _ _ _ _ _ _ _ _ _ hne e e' hB g g' (alive_of ha.dead' hal) (alive_of ha.dead' hal')

/- what was there is as it was -/
theorem sim_still [Rho] {ρ : Ren} {σ : AHeap} {w w' : World} (h : Sim ρ σ w) (hs : w.heap.size ≤ w'.heap.size) (hw : ∀ B, B < w.heap.size → w'.heap[B]? = w.heap[B]?) : Sim ρ σ w' := by
  refine ⟨h.dom, fun b L e => Nat.lt_of_lt_of_le (h.lt b L e) hs, h.some', ?_, ?_, h.sep, h.top⟩
  · intro b L cs len es top rw' fam e g
    obtain ⟨q1, q2, q3⟩ := h.row b L cs len es top rw' fam e g
    exact ⟨q1, q2, fun hal => (q3 hal).mono (Ren.le_refl _) (hw _ (h.lt b L e))⟩
  · intro b L o e g
    rw [hw _ (h.lt b L e)]; exact h.obj b L o e g

/- two parts of one naming -/
theorem sim_union [Rho] {ρ ρ₁ ρ₂ : Ren} {σ : AHeap} {w : World} (h₁ : Sim ρ₁ σ w) (h₂ : Sim ρ₂ σ w) (l₁ : ρ₁.le ρ) (l₂ : ρ₂.le ρ) (hall : ∀ b L, ρ b = some L → ρ₁ b = some L ∨ ρ₂ b = some L)
    (hx : ∀ b b' L L', ρ₁ b = some L → ρ₂ b = none → ρ₂ b' = some L' → ρ₁ b' = none → L.blk ≠ L'.blk) : Sim ρ σ w := by
  have each : ∀ b b' L L', ρ b = some L → ρ b' = some L' → L.blk = L'.blk → (ρ₁ b = some L ∧ ρ₁ b' = some L') ∨ (ρ₂ b = some L ∧ ρ₂ b' = some L') := by
    intro b b' L L' e e' hB
    have up : ∀ (ρ' : Ren) c M, ρ'.le ρ → ρ c = some M → ρ' c ≠ none → ρ' c = some M := by
      intro ρ' c M hl hc hn
      cases hq : ρ' c with
      | none => exact absurd hq hn
      | some M' => rw [hl c M' hq] at hc; exact hc
    rcases hall b L e with a | a
    · rcases hall b' L' e' with a' | a'
      · exact .inl ⟨a, a'⟩
      · by_cases hn : ρ₁ b' = none
        · by_cases hn2 : ρ₂ b = none
          · exact absurd hB (hx b b' L L' a hn2 a' hn)
          · exact .inr ⟨up ρ₂ b L l₂ e hn2, a'⟩
        · exact .inl ⟨a, up ρ₁ b' L' l₁ e' hn⟩
    · rcases hall b' L' e' with a' | a'
      · by_cases hn : ρ₁ b = none
        · by_cases hn2 : ρ₂ b' = none
          · exact absurd hB.symm (hx b' b L' L a' hn2 a hn)
          · exact .inr ⟨a, up ρ₂ b' L' l₂ e' hn2⟩
        · exact .inl ⟨up ρ₁ b L l₁ e hn, a'⟩
      · exact .inr ⟨a, a'⟩
  refine ⟨?_, ?_, ?_, ?_, ?_, ?_, ?_⟩
  · intro b L e; rcases hall b L e with a | a; exact h₁.dom b L a; exact h₂.dom b L a
  · intro b L e; rcases hall b L e with a | a; exact h₁.lt b L a; exact h₂.lt b L a
  · intro b L e; rcases hall b L e with a | a; exact h₁.some' b L a; exact h₂.some' b L a
  · intro b L cs len es top rw' fam e g
    rcases hall b L e with a | a
    · obtain ⟨q1, q2, q3⟩ := h₁.row b L cs len es top rw' fam a g
      exact ⟨q1, q2, fun hal => (q3 hal).mono l₁ rfl⟩
    · obtain ⟨q1, q2, q3⟩ := h₂.row b L cs len es top rw' fam a g
      exact ⟨q1, q2, fun hal => (q3 hal).mono l₂ rfl⟩
  · intro b L o e g
    rcases hall b L e with a | a
    · exact h₁.obj b L o a g
    · exact h₂.obj b L o a g
  · intro b b' L L' hne e e' hB
    rcases each b b' L L' e e' hB with ⟨a, a'⟩ | ⟨a, a'⟩
    · exact h₁.sep b b' L L' hne a a' hB
    · exact h₂.sep b b' L L' hne a a' hB
  · intro b b' L L' cs len es fam cs' len' es' top' rw' fam' hne e e' hB
    rcases each b b' L L' e e' hB with ⟨a, a'⟩ | ⟨a, a'⟩
    · exact h₁.top b b' L L' cs len es fam cs' len' es' top' rw' fam' hne a a' hB
    · exact h₂.top b b' L L' cs len es fam cs' len' es' top' rw' fam' hne a a' hB

def res (ρ : Ren) (s : Nat) : Ren := fun b => if b < s then ρ b else none
theorem res_le (ρ : Ren) (s : Nat) : (res ρ s).le ρ := by
  intro b L h; unfold res at h; split at h
  · exact h
  · cases h
theorem res_mono {ρ ρ' : Ren} {s s' : Nat} (h : ρ.le ρ') (hs : s ≤ s') : (res ρ s).le (res ρ' s') := by
  intro b L e
  unfold res at *
  split at e
  · rw [if_pos (by omega)]; exact h b L e
  · cases e
theorem res_some {ρ : Ren} {s b : Nat} {L : Loc} (h : res ρ s b = some L) : b < s ∧ ρ b = some L := by
  unfold res at h; split at h
  · next hb => exact ⟨hb, h⟩
  · cases h
theorem res_of {ρ : Ren} {s b : Nat} {L : Loc} (hb : b < s) (h : ρ b = some L) : res ρ s b = some L := by unfold res; rw [if_pos hb, h]

/- a step that changes nothing that was there -/
theorem kind_still {op : AOp} {t : Tmps} {σ : AHeap} {b : Bool} (h : isEff (kindOf op t σ b) = false) : pureOp op = true ∨ b = true := by
  unfold kindOf at h
  by_cases hp : pureOp op = true
  · exact .inl hp
  · rw [if_neg hp] at h
    cases b with
    | true => exact .inr rfl
    | false =>
      simp only [Bool.false_eq_true, if_false] at h
      split at h
      · split at h
        · split at h <;> simp [isEff] at h
        · simp [isEff] at h
      · simp [isEff] at h

theorem aoper_pure [Rho] {call : CallF} {op : AOp} {t : Tmps} {σ τ : AHeap} {v : Value} (hp : pureOp op = true) (h : aoper call op t σ = some (v, τ)) : τ = σ ∧ ∀ σ', aoper call op t σ' = some (v, σ') := by
  have e : ∀ σ', aoper call op t σ' = aop σ' t op := by intro σ'; cases op <;> first | rfl | simp [pureOp] at hp
  rw [e] at h
  obtain ⟨h1, h2⟩ := pure_aop op hp h
  exact ⟨h1, fun σ' => by rw [e]; exact h2 σ'⟩

theorem ext_ag {σ τ : AHeap} (h : Ext { σ with low := σ.n } τ) (hl : τ.low = σ.n) : Ag σ τ :=
  ⟨h.n, fun b hb => h.keep b hb (by rw [hl]; exact hb), fun p hp => (h.dead p hp).imp id fun q => by rw [hl] at q; exact q, h.dead'⟩

theorem step_ag [Rho] {P : Program} {call : CallF} (hcall : CallOk P call) {o : AOper} {t t' : Tmps} {σ σ' : AHeap} {v : Value} {k : AKind} (h : StepR call o t σ v t' σ' k) (hk : isEff k = false) : Ag σ σ' := by
  obtain ⟨_, h | h⟩ := h
  · obtain ⟨_, τ, hv, rfl, rfl⟩ := h
    have hτ : Ag σ τ := by
      rcases kind_still hk with hp | hp
      · obtain ⟨rfl, _⟩ := aoper_pure hp hv
        exact ⟨Nat.le_refl _, fun _ _ => rfl, fun _ h => .inl h, fun _ h => h⟩
      · exact ext_ag (ext_aoper hcall hv) (Nat.eq_of_beq_eq_true hp)
    exact ⟨hτ.n, hτ.get, hτ.dead, hτ.dead'⟩
  · obtain ⟨_, _, rfl, _⟩ := h
    exact Ag.refl _

theorem scope_ext [Rho] {σ τ : AHeap} (h : Ext { σ with low := σ.n } τ) : Ext σ { τ with low := minN σ.low τ.low } where
  n := h.n
  low := minN_le_left _ _
  nf := h.nf
  keep := fun b hb hl => h.keep b hb (Nat.lt_of_lt_of_le hl (minN_le_right _ _))
  ro := h.ro
  ro' := h.ro'
  dead := fun p hp => (h.dead p hp).imp id fun q => Nat.le_trans (minN_le_right _ _) q
  dead' := h.dead'

theorem step_ext [Rho] {P : Program} {call : CallF} (hcall : CallOk P call) {o : AOper} {t t' : Tmps} {σ σ' : AHeap} {v : Value} {k : AKind} (h : StepR call o t σ v t' σ' k) : Ext σ σ' := by
  obtain ⟨_, h | h⟩ := h
  · obtain ⟨_, τ, hv, rfl, _⟩ := h
    exact scope_ext (ext_aoper hcall hv)
  · obtain ⟨_, _, rfl, _⟩ := h
    exact Ext.refl _

theorem ext_runDraw [Rho] {P : Program} {call : CallF} (hcall : CallOk P call) {l : List AOper} {t : Tmps} {σ : AHeap} {t' : Tmps} {σ' : AHeap} {ks : List AKind} (h : runDraw call l t σ = some (t', σ', ks)) : Ext σ σ' := by
  obtain ⟨T, S, V, K, _, e2, _, e4, _, _, e7⟩ := trace_of l t σ t' σ' ks h
  have : ∀ j, j ≤ l.length → Ext (S 0) (S j) := by
    intro j
    induction j with
    | zero => intro _; exact Ext.refl _
    | succ j ih =>
      intro hj
      exact (ih (by omega)).trans (step_ext hcall (e7 j l[j] (List.getElem?_eq_getElem (by omega))))
  have := this l.length (Nat.le_refl _)
  rw [e2, e4] at this
  exact this

/- operations that read the same are the same -/
theorem ev_congr {t t' : Tmps} {x : Operand} (h : ∀ i, x = .tmp i → tget t i = tget t' i) : ev t x = ev t' x := by
  cases x <;> first | rfl | exact h _ rfl
theorem fillL_congr {t t' : Tmps} : ∀ (ps : List (Nat × Nat × Operand)) (z : List Value), (∀ x ∈ ps.map (·.2.2), ev t x = ev t' x) → fillL t z ps = fillL t' z ps := by
  intro ps
  induction ps with
  | nil => intro z _; rfl
  | cons p ps ih =>
    intro z h
    obtain ⟨o, n, x⟩ := p
    simp only [fillL, h x (by simp)]
    rw [ih _ (fun y hy => h y (by simp at hy ⊢; exact .inr hy))]
theorem map_congr' {t t' : Tmps} {xs : List Operand} (h : ∀ x ∈ xs, ev t x = ev t' x) : xs.map (ev t) = xs.map (ev t') := List.map_congr_left h
theorem aoper_congr [Rho] {call : CallF} {op : AOp} {t t' : Tmps} {σ : AHeap} (h : ∀ x ∈ opXs op, ev t x = ev t' x) : aoper call op t σ = aoper call op t' σ := by
  cases op with
  | build z ps => simp only [aoper, aop, fillL_congr ps z h]
  | buildSl z s l ps => simp only [aoper, aop, fillL_congr ps z h]
  | mkFn f xs ys =>
    simp only [aoper, aop, map_congr' (fun x hx => h x (by simp [opXs]; exact .inl hx)), map_congr' (fun x hx => h x (by simp [opXs]; exact .inr hx))]
  | call f xs =>
    have e : xs.map (ev t) = xs.map (ev t') := map_congr' h
    simp only [aoper, e]
  | callV x xs =>
    have e : xs.map (ev t) = xs.map (ev t') := map_congr' fun y hy => h y (List.mem_cons_of_mem _ hy)
    have e1 := h x List.mem_cons_self
    simp only [aoper, e, e1]
  | slS s x lo hi mx =>
    have e1 := h x (by simp [opXs])
    have e2 : lo.map (ev t) = lo.map (ev t') := by cases lo with | none => rfl | some y => simp [h y (by simp [opXs])]
    have e3 : hi.map (ev t) = hi.map (ev t') := by cases hi with | none => rfl | some y => simp [h y (by simp [opXs])]
    have e4 : mx.map (ev t) = mx.map (ev t') := by cases mx with | none => rfl | some y => simp [h y (by simp [opXs])]
    simp only [aoper, aop, e1, e2, e3, e4]
  | slStr x lo hi =>
    have e1 := h x (by simp [opXs])
    have e2 : lo.map (ev t) = lo.map (ev t') := by cases lo with | none => rfl | some y => simp [h y (by simp [opXs])]
    have e3 : hi.map (ev t) = hi.map (ev t') := by cases hi with | none => rfl | some y => simp [h y (by simp [opXs])]
    simp only [aoper, aop, e1, e2, e3]
  | _ => simp only [opXs, List.mem_cons, List.not_mem_nil, or_false, forall_eq_or_imp, forall_eq] at h; simp only [aoper, aop, h]
end Go.Hai
