/-
  The abstract interpreter: a region whose order is open: in whatever order its operations are carried out, the same comes of it (2). No proof of the program stands here.
-/
import Derived.Test.YtphbidcbepnihaaH14
namespace Go.Hai
open Go

/- ---- what the table of orders says ---- -/
theorem orderOk_inv {ops : List Oper} {l : List AOper} {bef : List Nat} (h : orderOk ops l bef = true) :
    l.length = ops.length ∧ bef.length = ops.length ∧
    (∀ (j : Nat) (o : Oper), ops[j]? = some o → (∀ e ∈ o.after.toList, Region.binds .any e = true → e.on < j) ∧
      ∀ k, k < ops.length → Nat.testBit (bef.getD j 0) k = true → k < j ∧ ∃ e ∈ o.after.toList, Region.binds .any e = true ∧ (e.on = k ∨ Nat.testBit (bef.getD e.on 0) k = true)) ∧
    (∀ (i j : Nat) (oi oj : Oper) (ai aj : AOper), i < j → ops[i]? = some oi → ops[j]? = some oj → l[i]? = some ai → l[j]? = some aj → (meets ai (namesOf oj aj) = true ∨ meets aj (namesOf oi ai) = true) → Nat.testBit (bef.getD j 0) i = true) := by
  unfold orderOk at h
  simp only [Bool.and_eq_true, List.all_eq_true, List.mem_range] at h
  obtain ⟨⟨h1, h2⟩, h3⟩ := h
  have h1 := Nat.eq_of_beq_eq_true h1
  have h2 := Nat.eq_of_beq_eq_true h2
  refine ⟨h1, h2, ?_, ?_⟩
  · intro j o ho
    have hj : j < ops.length := (List.getElem?_eq_some_iff.1 ho).1
    have := h3 j hj
    rw [ho, List.getElem?_eq_getElem (by omega)] at this
    simp only [Bool.and_eq_true, edgeOk, List.all_eq_true, Bool.or_eq_true, Bool.not_eq_true', List.mem_range, List.any_eq_true] at this
    obtain ⟨⟨q1, q2⟩, _⟩ := this
    refine ⟨fun e he hb => ?_, fun k hk hb => ?_⟩
    · rcases q1 e he with q | q
      · rw [hb] at q; cases q
      · simpa [Nat.blt_eq] using q
    · rcases q2 k (by omega) with q | ⟨q, e, he, hbi, q'⟩
      · rw [hb] at q; cases q
      · exact ⟨by simpa [Nat.blt_eq] using q, e, he, hbi, q'.imp Nat.eq_of_beq_eq_true id⟩
  · intro i j oi oj ai aj hij hoi hoj hai haj hm
    have hj : j < ops.length := (List.getElem?_eq_some_iff.1 hoj).1
    have := h3 j hj
    rw [hoj, haj] at this
    simp only [Bool.and_eq_true, List.all_eq_true, List.mem_range] at this
    have := this.2 i hij
    rw [hoi, hai] at this
    simp only [pairOk, Bool.or_eq_true, Bool.not_eq_true'] at this
    rcases this with q | q
    · rcases hm with hm | hm <;> simp [hm] at q
    · exact q

theorem mem_pairRow (i : Nat) (mi : Bool) : ∀ (l : List (Nat × Bool)) (j0 j bj : Nat) (mj : Bool), l[j]? = some (bj, mj) → (mi || mj) = true → Nat.testBit bj i = false → (i, j0 + j) ∈ pairRow i mi l j0 := by
  intro l
  induction l with
  | nil => intro j0 j bj mj h; simp at h
  | cons p l ih =>
    intro j0 j bj mj h hm hb
    show _ ∈ (Bool.rec (pairRow i mi l (j0 + 1)) (Bool.rec ((i, j0) :: pairRow i mi l (j0 + 1)) (pairRow i mi l (j0 + 1)) (Nat.testBit p.1 i)) (mi || p.2) : List (Nat × Nat))
    cases j with
    | zero =>
      simp at h; subst h
      rw [hm, hb]; exact List.mem_cons_self
    | succ j =>
      have := ih (j0 + 1) j bj mj (by simpa using h) hm hb
      rw [show j0 + (j + 1) = j0 + 1 + j from by omega]
      cases (mi || p.2) with
      | false => exact this
      | true => cases Nat.testBit p.1 i with
        | true => exact this
        | false => exact List.mem_cons_of_mem _ this
theorem mem_risks [Rho] : ∀ (l : List (Nat × Bool)) (i0 i j bi bj : Nat) (mi mj : Bool), i < j → l[i]? = some (bi, mi) → l[j]? = some (bj, mj) → (mi || mj) = true → Nat.testBit bj (i0 + i) = false → (i0 + i, i0 + j) ∈ risks l i0 := by
  intro l
  induction l with
  | nil => intro i0 i j bi bj mi mj _ h; simp at h
  | cons p l ih =>
    intro i0 i j bi bj mi mj hij hi hj hm hb
    show _ ∈ pairRow i0 p.2 l (i0 + 1) ++ risks l (i0 + 1)
    obtain ⟨j', rfl⟩ : ∃ j', j = j' + 1 := ⟨j - 1, by omega⟩
    rw [List.mem_append]
    cases i with
    | zero =>
      simp at hi; subst hi
      have := mem_pairRow i0 mi l (i0 + 1) j' bj mj (by simpa using hj) hm (by simpa using hb)
      exact .inl (by rw [show i0 + (j' + 1) = i0 + 1 + j' from by omega]; exact this)
    | succ i =>
      have := ih (i0 + 1) i j' bi bj mi mj (by omega) (by simpa using hi) (by simpa using hj) hm (by rw [show i0 + 1 + i = i0 + (i + 1) from by omega]; exact hb)
      exact .inr (by rw [show i0 + (j' + 1) = i0 + 1 + j' from by omega, show i0 + (i + 1) = i0 + 1 + i from by omega]; exact this)
theorem drawOk_get (ks : List AKind) : ∀ (rk : List (Nat × Nat)), drawOk rk ks = true → ∀ p ∈ rk, pairB ks[p.1]? ks[p.2]? = true := by
  intro rk
  induction rk with
  | nil => intro _ p hp; cases hp
  | cons q rk ih =>
    intro h p hp
    replace h : (Bool.rec false (drawOk rk ks) (pairB ks[q.1]? ks[q.2]?) : Bool) = true := h
    cases hq : pairB ks[q.1]? ks[q.2]? with
    | false => rw [hq] at h; cases h
    | true =>
      rw [hq] at h
      rcases List.mem_cons.1 hp with rfl | hp
      · exact hq
      · exact ih h p hp
theorem low_aop {op : AOp} {t : Tmps} {σ τ : AHeap} {v : Value} (hm : mayEff op = false) (hp : pureOp op = false) (h : aop σ t op = some (v, τ)) : τ.low = σ.low := by
  cases op <;> first | (cases hm; done) | (cases hp; done) | skip
  case alloc z es => simp only [aop, Option.some.injEq, Prod.mk.injEq] at h; rw [← h.2]; rfl
  case box es x => simp only [aop] at h; split at h <;> first | (cases h; done) | (cases h; rfl)
  case buildSl z s l ps => simp only [aop] at h; split at h <;> first | (cases h; done) | (split at h <;> first | (cases h; done) | (cases h; rfl))
  case load g n x =>
    simp only [aop] at h
    split at h <;> first | (cases h; done) | skip
    split at h <;> first | (cases h; done) | skip
    split at h
    · cases h; rfl
    · split at h <;> first | (cases h; done) | (cases h; rfl)
  case mkMap => simp only [aop] at h; cases h; rfl
  case mkSl z b l c => simp only [aop] at h; split at h <;> first | (cases h; done) | (split at h <;> first | (cases h; done) | (cases h; rfl))
  case slS s x lo hi mx => simp only [aop] at h; split at h <;> first | (cases h; done) | (cases h; rfl)
  case lookup k z x i ok =>
    simp only [aop] at h
    split at h <;> first | (cases h; done) | skip
    split at h <;> first | (cases h; done) | skip
    split at h <;> first | (cases h; done) | skip
    split at h <;> first | (cases h; done) | skip
    · split at h <;> first | (cases h; done) | (cases h; rfl)
    · cases h; rfl
  case rng x => simp only [aop] at h; split at h <;> first | (cases h; done) | (cases h; rfl)
theorem eff_may [Rho] {call : CallF} {o : AOper} {t t' : Tmps} {σ σ' : AHeap} {v : Value} {k : AKind} (h : StepR call o t σ v t' σ' k) (he : isEff k = true) : mayEff o.op = true := by
  cases hm : mayEff o.op with
  | true => rfl
  | false =>
    exfalso
    obtain ⟨_, ⟨_, τ, hv, _, rfl⟩ | ⟨_, _, _, rfl⟩⟩ := h
    · cases hp : pureOp o.op with
      | true => unfold kindOf at he; rw [hp] at he; simp [isEff] at he
      | false =>
        have ha : aop { σ with low := σ.n } t o.op = some (v, τ) := by
          have : aoper call o.op t { σ with low := σ.n } = aop { σ with low := σ.n } t o.op := by cases ho : o.op <;> first | rfl | (rw [ho] at hm; cases hm)
          rw [← this]; exact hv
        have hl : τ.low = σ.n := low_aop hm hp ha
        unfold kindOf at he
        rw [hp, hl] at he
        simp only [Nat.beq_refl, Bool.false_eq_true, if_false, if_true] at he
        split at he
        · split at he
          · split at he <;> simp [isEff] at he
          · simp [isEff] at he
        · simp [isEff] at he
    · simp [isEff] at he

/- a road of a region: what each operation saw and made -/
structure Road (P : Program) (call : CallF) (N : Nat) where
  ops : List Oper
  l : List AOper
  bef : List Nat
  T : Nat → Tmps
  S : Nat → AHeap
  V : Nat → Value
  K : Nat → AKind
  hl : l.length = ops.length
  hcomp : ∀ (j : Nat) (o : Oper) (a : AOper), ops[j]? = some o → l[j]? = some a → compOper P N ops o = some a
  back : ∀ (j : Nat) (o : Oper), ops[j]? = some o → ∀ e ∈ o.after.toList, Region.binds .any e = true → e.on < j
  table : ∀ (j : Nat) (o : Oper), ops[j]? = some o → ∀ k, k < ops.length → Nat.testBit (bef.getD j 0) k = true → k < j ∧ ∃ e ∈ o.after.toList, Region.binds .any e = true ∧ (e.on = k ∨ Nat.testBit (bef.getD e.on 0) k = true)
  pairs : ∀ (i j : Nat) (oi oj : Oper) (ai aj : AOper), i < j → ops[i]? = some oi → ops[j]? = some oj → l[i]? = some ai → l[j]? = some aj → (meets ai (namesOf oj aj) = true ∨ meets aj (namesOf oi ai) = true) → Nat.testBit (bef.getD j 0) i = true
  steps : ∀ (j : Nat) (a : AOper), l[j]? = some a → StepR call a (T j) (S j) (V j) (T (j + 1)) (S (j + 1)) (K j)
  order : ∀ i j, i < j → j < ops.length → (isEff (K i) = true ∨ isEff (K j) = true) → Nat.testBit (bef.getD j 0) i = true ∨ mixes (K i) (K j) = true ∨ mixes (K j) (K i) = true

namespace Road
variable {P : Program} {call : CallF} {N : Nat} (R : Road P call N)
def n : Nat := R.ops.length

theorem opAt {j : Nat} (hj : j < R.n) : ∃ o a, R.ops[j]? = some o ∧ R.l[j]? = some a :=
  ⟨R.ops[j], R.l[j]'(by rw [R.hl]; exact hj), List.getElem?_eq_getElem hj, List.getElem?_eq_getElem _⟩

/- what is done is closed under what must be ahead -/
def Closed (L : Nat → Bool) : Prop := ∀ (j : Nat) (o : Oper), L j = true → R.ops[j]? = some o → ∀ e ∈ o.after.toList, Region.binds .any e = true → L e.on = true
def Ready (L : Nat → Bool) (j : Nat) : Prop := ∀ (o : Oper), R.ops[j]? = some o → ∀ e ∈ o.after.toList, Region.binds .any e = true → L e.on = true

theorem ahead [Rho] {L : Nat → Bool} (hc : R.Closed L) : ∀ (j k : Nat), j < R.n → k < R.n → R.Ready L j → Nat.testBit (R.bef.getD j 0) k = true → L k = true := by
  intro j
  induction j using Nat.strongRecOn with
  | _ j ih =>
    intro k hj hk hr hb
    obtain ⟨o, a, ho, _⟩ := R.opAt hj
    obtain ⟨_, e, he, hbi, h | h⟩ := R.table j o ho k hk hb
    · rw [← h]; exact hr o ho e he hbi
    · have hlt := R.back j o ho e he hbi
      exact ih e.on hlt k (by omega) hk (fun o' ho' e' he' hb' => hc e.on o' (hr o ho e he hbi) ho' e' he' hb') h
theorem closed_ready {L : Nat → Bool} (hc : R.Closed L) {j : Nat} (hj : L j = true) : R.Ready L j := fun o ho e he hb => hc j o hj ho e he hb

theorem Smono [Rho] (hcall : CallOk P call) : ∀ {i j : Nat}, i ≤ j → j ≤ R.n → Ext (R.S i) (R.S j) := by
  intro i j hij
  induction j with
  | zero => intro _; obtain rfl : i = 0 := (by omega); exact Ext.refl _
  | succ j ih =>
    intro hj
    by_cases h : i = j + 1
    · subst h; exact Ext.refl _
    · obtain ⟨o, a, _, ha⟩ := R.opAt (j := j) (by omega)
      exact (ih (by omega) (by omega)).trans (step_ext hcall (R.steps j a ha))
theorem ag [Rho] (hcall : CallOk P call) : ∀ {i j : Nat}, i ≤ j → j ≤ R.n → (∀ k, i ≤ k → k < j → isEff (R.K k) = false) → Ag (R.S i) (R.S j) := by
  intro i j hij
  induction j with
  | zero => intro _ _; obtain rfl : i = 0 := (by omega); exact Ag.refl _
  | succ j ih =>
    intro hj hk
    by_cases h : i = j + 1
    · subst h; exact Ag.refl _
    · obtain ⟨o, a, _, ha⟩ := R.opAt (j := j) (by omega)
      exact (ih (by omega) (by omega) fun k h1 h2 => hk k h1 (by omega)).trans (step_ag hcall (R.steps j a ha) (hk j (by omega) (by omega)))

/- a place in the text that stands where the heap stands now -/
def Cur (L : Nat → Bool) (i : Nat) : Prop := i ≤ R.n ∧ (∀ j, j < i → isEff (R.K j) = true → L j = true) ∧ (∀ j, i ≤ j → j < R.n → isEff (R.K j) = true → L j = false)

/- who wrote a temporary last, and how far the names in it reach -/
def Last (L : Nat → Bool) (τ k : Nat) (val : Value) : Prop :=
  (∃ (i : Nat) (a : AOper), i < R.n ∧ R.l[i]? = some a ∧ L i = true ∧ a.dst = some τ ∧ (∀ (i' : Nat) (a' : AOper), R.l[i']? = some a' → L i' = true → a'.dst = some τ → i' ≤ i) ∧ val = R.V i ∧ (∀ c, R.Cur L c → k ≤ max (R.S (i + 1)).n (R.S c).n)) ∨
  ((∀ (i : Nat) (a : AOper), R.l[i]? = some a → L i = true → a.dst ≠ some τ) ∧ val = tget (R.T 0) τ ∧ k = (R.S 0).n)

structure Inv [Rho] (ρ0 : Ren) (w0 : World) (L : Nat → Bool) (a : Act) (ρ : Ren) (w : World) : Prop where
  size : a.tmps.size = N
  defers : a.defers = []
  closed : R.Closed L
  tmp : ∀ τ, ∃ k val, R.Last L τ k val ∧ VR (res ρ k) val (a.tmps.getD τ undef)
  own : ∀ b M, ρ b = some M → ρ0 b = some M ∨ ∃ j, j < R.n ∧ L j = true ∧ (R.S j).n ≤ b ∧ b < (R.S (j + 1)).n
  dom0 : ∀ b M, ρ0 b = some M → b < (R.S 0).n
  cur : ∃ i, R.Cur L i
  heap : ∀ i, R.Cur L i → Sim (res ρ (R.S i).n) (R.S i) w
  le : ρ0.le ρ
  new : ∀ b M, ρ b = some M → ρ0 b = some M ∨ ((R.S 0).n ≤ b ∧ (w0.heap.size ≤ M.blk ∨ Touch ρ0 (R.S 0) (R.S R.n).low M.blk))
  sizew : w0.heap.size ≤ w.heap.size
  frame : ∀ B, B < w0.heap.size → ¬ Touch ρ0 (R.S 0) (R.S R.n).low B → w.heap[B]? = w0.heap[B]?
  io : SameIO w0 w

/- the last writer ahead of a place in the text -/
theorem T_get [Rho] {j τ : Nat} (hj : j ≤ R.n) : (∃ (i : Nat) (a : AOper), i < j ∧ R.l[i]? = some a ∧ a.dst = some τ ∧ (∀ (i' : Nat) (a' : AOper), i' < j → R.l[i']? = some a' → a'.dst = some τ → i' ≤ i) ∧ tget (R.T j) τ = R.V i) ∨
    ((∀ (i : Nat) (a : AOper), i < j → R.l[i]? = some a → a.dst ≠ some τ) ∧ tget (R.T j) τ = tget (R.T 0) τ) := by
  induction j with
  | zero => exact .inr ⟨fun i a h => by omega, rfl⟩
  | succ j ih =>
    obtain ⟨o, a, _, ha⟩ := R.opAt (j := j) (by omega)
    have hT := (R.steps j a ha).1
    by_cases hd : a.dst = some τ
    · refine .inl ⟨j, a, by omega, ha, hd, fun i' a' h1 _ _ => by omega, ?_⟩
      rw [hT, hd]
      simp [setD, tget_ins]
    · have hsame : tget (R.T (j + 1)) τ = tget (R.T j) τ := by
        rw [hT]
        cases hdd : a.dst with
        | none => rfl
        | some d => simp only [setD, tget_ins]; rw [if_neg (fun h => hd (by rw [hdd, h]))]
      rcases ih (by omega) with ⟨i, b, h1, h2, h3, h4, h5⟩ | ⟨h1, h2⟩
      · refine .inl ⟨i, b, by omega, h2, h3, fun i' a' g1 g2 g3 => ?_, by rw [hsame, h5]⟩
        by_cases he : i' = j
        · subst he; rw [ha] at g2; cases g2; exact absurd g3 hd
        · exact h4 i' a' (by omega) g2 g3
      · refine .inr ⟨fun i b g1 g2 => ?_, by rw [hsame, h2]⟩
        by_cases he : i = j
        · subst he; rw [ha] at g2; cases g2; exact hd
        · exact h1 i b (by omega) g2

theorem meets_of {a : AOper} {ns : List Nat} {τ : Nat} (hd : a.dst = some τ) (hm : τ ∈ ns) : meets a ns = true := by
  unfold meets; rw [hd]
  exact List.any_eq_true.2 ⟨τ, hm, Nat.beq_refl _⟩

/- what an operation that is next reads is what stands there -/
theorem tmp_at [Rho] {ρ0 : Ren} {w0 : World} {L : Nat → Bool} {a : Act} {ρ : Ren} {w : World} (I : R.Inv ρ0 w0 L a ρ w) {j : Nat} {o : Oper} {ao : AOper} (hj : j < R.n) (ho : R.ops[j]? = some o) (hao : R.l[j]? = some ao)
    (hL : L j = false) (hr : R.Ready L j) {τ : Nat} (hm : τ ∈ namesOf o ao) (hcall : CallOk P call) : ∃ k, VR (res ρ k) (tget (R.T j) τ) (a.tmps.getD τ undef) ∧ ∀ c, R.Cur L c → k ≤ max (R.S j).n (R.S c).n := by
  -- who wrote it and is done stands ahead; who wrote it ahead is done
  have hdone : ∀ i ai, R.l[i]? = some ai → ai.dst = some τ → (L i = true ↔ i < j) := by
    intro i ai hai hd
    have hi : i < R.n := by have := (List.getElem?_eq_some_iff.1 hai).1; rw [R.hl] at this; exact this
    obtain ⟨oi, _, hoi, _⟩ := R.opAt hi
    constructor
    · intro hLi
      rcases Nat.lt_trichotomy i j with h | h | h
      · exact h
      · subst h; rw [hL] at hLi; cases hLi
      · have := R.pairs j i o oi ao ai h ho hoi hao hai (.inr (meets_of hd hm))
        have := R.ahead I.closed i j hi hj (R.closed_ready I.closed hLi) this
        rw [hL] at this; cases this
    · intro h
      exact R.ahead I.closed j i hj hi hr (R.pairs i j oi o ai ao h hoi ho hai hao (.inl (meets_of hd hm)))
  obtain ⟨k, val, hlast, hv⟩ := I.tmp τ
  have hmono : ∀ x, x ≤ j → (R.S x).n ≤ (R.S j).n := fun x hx => (R.Smono hcall hx (by omega)).n
  rcases hlast with ⟨i, ai, hi, hai, hLi, hd, hmax, rfl, hk⟩ | ⟨hno, rfl, rfl⟩
  · have hij := (hdone i ai hai hd).1 hLi
    rcases R.T_get (j := j) (τ := τ) (by omega) with ⟨i', a', h1, h2, h3, h4, h5⟩ | ⟨h1, h2⟩
    · have hLi' := (hdone i' a' h2 h3).2 h1
      have e1 := hmax i' a' h2 hLi' h3
      have e2 := h4 i ai hij hai hd
      have : i = i' := by omega
      subst this
      refine ⟨k, by rw [h5]; exact hv, fun c hc => Nat.le_trans (hk c hc) ?_⟩
      have := hmono (i + 1) (by omega)
      omega
    · exact absurd hd (h1 i ai hij hai)
  · rcases R.T_get (j := j) (τ := τ) (by omega) with ⟨i', a', h1, h2, h3, h4, h5⟩ | ⟨h1, h2⟩
    · exact absurd h3 (hno i' a' h2 ((hdone i' a' h2 h3).2 h1))
    · refine ⟨(R.S 0).n, by rw [h2]; exact hv, fun c _ => ?_⟩
      have := hmono 0 (by omega)
      omega
end Road
end Go.Hai
