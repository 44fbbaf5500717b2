/-
  The abstract interpreter over values that are not known: regions whose order is drawn; heaps that keep what was there; slices. No proof of the program stands here.
-/
import Derived.Test.YtphbidcbepnihaaS2
namespace Go.Hai
open Go

/- ---- regions whose order is drawn ---- -/
def AHeap.setLow (σ : AHeap) (m : Nat) : AHeap := { σ with low := m }
theorem XW {σ : AHeap} {m b o n : Nat} : (σ.setLow m).loadN b o n = σ.loadN b o n := rfl
def EndsD (call : CallF) (ops : List AOper) (t : Tmps) (σ : AHeap) (Q : Tmps → AHeap → Prop) : Prop := match runDraw call ops t σ with
  | some p => p.2.2.all (fun k => !(isEff k)) = true ∧ p.2.2.length = ops.length ∧ Q p.1 p.2.1
  | none => False
def kontD (call : CallF) (op : AOp) (os : List AOper) (t : Tmps) (σ : AHeap) (Q : Tmps → AHeap → Prop) (d : Option Nat) (v : Value) (σ' : AHeap) : Prop :=
  isEff (kindOf op t σ (Nat.beq σ'.low σ.n)) = false ∧ EndsD call os (setD t d v) { σ' with low := minN σ.low σ'.low } Q
section
variable {call : CallF} {os : List AOper} {t : Tmps} {σ : AHeap} {Q : Tmps → AHeap → Prop} {d : Option Nat} {op : AOp}
theorem XS : EndsD call [] t σ Q = Q t σ := by simp [EndsD, runDraw]
theorem d_some {g : Option (Nat × Bool)} (hw : wants t g = true) : EndsD call (.mk d g op :: os) t σ Q = EndsO (aoper call op t (σ.setLow σ.n)) (kontD call op os t σ Q d) := by
  unfold EndsD
  simp only [runDraw, hw, if_true]
  show _ = EndsO (aoper call op t { σ with low := σ.n }) _
  cases aoper call op t { σ with low := σ.n } with
  | none => rfl
  | some p =>
    obtain ⟨v, σ'⟩ := p
    simp only [EndsO, kontD, EndsD]
    cases runDraw call os (setD t d v) { σ' with low := minN σ.low σ'.low } with
    | none => simp
    | some q => simp [and_assoc]
theorem XT : EndsD call (.mk d none op :: os) t σ Q = EndsO (aoper call op t (σ.setLow σ.n)) (kontD call op os t σ Q d) := d_some rfl
theorem XU {j : Nat} {w : Bool} : EndsD call (.mk d (some (j, w)) op :: os) t σ Q =
    if wantsV (tget t j) w = true then EndsO (aoper call op t (σ.setLow σ.n)) (kontD call op os t σ Q d) else EndsD call os (setD t d undef) σ Q := by
  have e : wants t (some (j, w)) = wantsV (tget t j) w := rfl
  by_cases h : wantsV (tget t j) w = true
  · rw [if_pos h]; exact d_some (e.trans h)
  · rw [if_neg h]
    unfold EndsD
    simp only [runDraw, e, h, Bool.false_eq_true, if_false]
    cases runDraw call os (setD t d undef) σ with
    | none => rfl
    | some q => simp [isEff]
theorem kindOf_still (o : AOp) (t : Tmps) (σ : AHeap) : isEff (kindOf o t σ true) = false := by
  unfold kindOf
  split
  · rfl
  · simp only [if_true]
    split
    · split
      · split <;> rfl
      · rfl
    · rfl
theorem kontD_ok (h : σ.low ≤ σ.n) {v : Value} : kontD call op os t σ Q d v (σ.setLow σ.n) = EndsD call os (setD t d v) σ Q := by
  unfold kontD
  have e1 : Nat.beq (σ.setLow σ.n).low σ.n = true := Nat.beq_refl _
  have e2 : ({ σ.setLow σ.n with low := minN σ.low (σ.setLow σ.n).low } : AHeap) = σ := by
    have e3 : minN σ.low σ.n = σ.low := by unfold minN; rw [if_pos (Nat.ble_eq_true_of_le h)]
    show AHeap.mk σ.t σ.n σ.nf σ.dead (minN σ.low σ.n) = σ
    rw [e3]
  rw [e1, e2, kindOf_still]
  simp
theorem low_grow (h : σ.low ≤ σ.n) (L : List (List Value × Nat)) : (σ.grow L).low ≤ (σ.grow L).n := by
  rw [Yk, grow_n]; omega
theorem XV (h : σ.low ≤ σ.n) {L : List (List Value × Nat)} {v : Value} : kontD call op os t (σ.grow L) Q d v ((σ.grow L).setLow (σ.grow L).n) = EndsD call os (setD t d v) (σ.grow L) Q := kontD_ok (low_grow h L)
end
theorem pairRow_lt (i : Nat) (mi : Bool) : ∀ (l : List (Nat × Bool)) (j : Nat) (p : Nat × Nat), p ∈ pairRow i mi l j → p.1 = i ∧ p.2 < j + l.length := by
  intro l
  induction l with
  | nil => intro j p h; cases h
  | cons q l ih =>
    intro j p h
    replace h : p ∈ (Bool.rec (pairRow i mi l (j + 1)) (Bool.rec ((i, j) :: pairRow i mi l (j + 1)) (pairRow i mi l (j + 1)) (Nat.testBit q.1 i)) (mi || q.2) : List (Nat × Nat)) := h
    have hi : p ∈ pairRow i mi l (j + 1) → p.1 = i ∧ p.2 < j + (q :: l).length := fun h => by
      have := ih _ _ h
      simp only [List.length_cons]
      omega
    cases hm : (mi || q.2) with
    | false => rw [hm] at h; exact hi h
    | true =>
      rw [hm] at h
      cases hb : Nat.testBit q.1 i with
      | true => rw [hb] at h; exact hi h
      | false =>
        rw [hb] at h
        rcases List.mem_cons.1 h with h | h
        · subst h; simp only [List.length_cons]; exact ⟨trivial, by omega⟩
        · exact hi h
theorem risks_lt : ∀ (l : List (Nat × Bool)) (i : Nat) (p : Nat × Nat), p ∈ risks l i → p.1 < i + l.length ∧ p.2 < i + l.length := by
  intro l
  induction l with
  | nil => intro i p h; cases h
  | cons q l ih =>
    intro i p h
    replace h : p ∈ pairRow i q.2 l (i + 1) ++ risks l (i + 1) := h
    simp only [List.length_cons]
    rcases List.mem_append.1 h with h | h
    · have := pairRow_lt _ _ _ _ _ h; omega
    · have := ih _ _ h; omega
theorem drawOk_all (ks : List AKind) (hk : ks.all (fun k => !(isEff k)) = true) : ∀ (rk : List (Nat × Nat)), (∀ p ∈ rk, p.1 < ks.length ∧ p.2 < ks.length) → drawOk rk ks = true := by
  intro rk
  induction rk with
  | nil => intro _; rfl
  | cons q rk ih =>
    intro h
    show (Bool.rec false (drawOk rk ks) (pairB ks[q.1]? ks[q.2]?) : Bool) = true
    obtain ⟨h1, h2⟩ := h q (by simp)
    have hall := List.all_eq_true.1 hk
    have e1 := hall ks[q.1] (List.getElem_mem h1)
    have e2 := hall ks[q.2] (List.getElem_mem h2)
    rw [List.getElem?_eq_getElem h1, List.getElem?_eq_getElem h2]
    have : pairB (some ks[q.1]) (some ks[q.2]) = true := by simp only [pairB, e1, e2]; rfl
    rw [this]
    exact ih fun p hp => h p (by simp [hp])
theorem ends_drw {call : CallF} {fuel : Nat} {ops : List AOper} {bef : List Nat} {t : Tmps} {σ : AHeap} {Q : AEx → Tmps → AHeap → Prop} (h : EndsD call ops t σ (Q .normal)) : Ends (acode call fuel (.drw ops bef) t σ) Q := by
  simp only [acode]
  unfold EndsD at h
  cases hr : runDraw call ops t σ with
  | none => rw [hr] at h; exact h
  | some p =>
    obtain ⟨t', σ', ks⟩ := p
    rw [hr] at h
    obtain ⟨h1, h2, h3⟩ := h
    simp only at h1 h2 h3 ⊢
    rw [if_pos]
    · exact h3
    · refine drawOk_all ks h1 _ fun p hp => ?_
      have := risks_lt _ _ _ hp
      have hl : (marks ops bef).length ≤ ops.length := by unfold marks; rw [List.length_zipWith]; omega
      omega

/- ---- heaps that keep what was there ---- -/
structure Keeps (σ τ : AHeap) : Prop where
  n : σ.n ≤ τ.n
  low : τ.low = σ.low
  dead : τ.dead = σ.dead
  row : ∀ b, b < σ.n → τ.t.get b = σ.t.get b
theorem Keeps.refl (σ : AHeap) : Keeps σ σ := ⟨Nat.le_refl _, rfl, rfl, fun _ _ => rfl⟩
theorem Keeps.grow {σ τ : AHeap} (h : Keeps σ τ) (L : List (List Value × Nat)) : Keeps σ (τ.grow L) :=
  ⟨by rw [grow_n]; have := h.n; omega, h.low, h.dead, fun b hb => by rw [grow_old _ _ (Nat.lt_of_lt_of_le hb h.n), h.row b hb]⟩
theorem Keeps.self (σ : AHeap) (L : List (List Value × Nat)) : Keeps σ (σ.grow L) := (Keeps.refl σ).grow L
theorem Keeps.trans {σ τ υ : AHeap} (h : Keeps σ τ) (h' : Keeps τ υ) : Keeps σ υ :=
  ⟨Nat.le_trans h.n h'.n, h'.low.trans h.low, h'.dead.trans h.dead, fun b hb => (h'.row b (Nat.lt_of_lt_of_le hb h.n)).trans (h.row b hb)⟩
theorem Keeps.load {σ τ : AHeap} (h : Keeps σ τ) {b : Nat} (o n : Nat) (hb : b < σ.n) : τ.loadN b o n = σ.loadN b o n := by
  unfold AHeap.loadN AHeap.row? AHeap.alive
  rw [h.row b hb, h.dead]
theorem Keeps.loadG {σ τ : AHeap} (h : Keeps σ τ) (L : List (List Value × Nat)) {b : Nat} (o n : Nat) (hb : b < σ.n) : (τ.grow L).loadN b o n = σ.loadN b o n := (h.grow L).load o n hb
/- a row that a function laid at its beginning, later -/
theorem Keeps.own {σ τ : AHeap} {L : List (List Value × Nat)} (h : Keeps (σ.grow L) τ) (k : Nat) {r : List Value} {e : Nat} (hk : rowAt L k = some (r, e)) (M : List (List Value × Nat)) (o n : Nat) :
    (τ.grow M).loadN (σ.n + k) o n = sliceL r o n := by
  have hk' : L[k]? = some (r, e) := by rw [← rowAt_eq]; exact hk
  have hlt : k < L.length := (List.getElem?_eq_some_iff.1 hk').1
  rw [h.loadG M o n (by rw [grow_n]; omega), load_at, hk]
  rfl
theorem Keeps.own0 {σ τ : AHeap} {L : List (List Value × Nat)} (h : Keeps (σ.grow L) τ) {r : List Value} {e : Nat} (hk : rowAt L 0 = some (r, e)) (M : List (List Value × Nat)) (o n : Nat) :
    (τ.grow M).loadN σ.n o n = sliceL r o n := h.own 0 hk M o n

/- ---- slices ---- -/
def SlAt {α : Type} (cells : α → List Value) (es : Nat) (σ : AHeap) (b : Nat) (l : List α) : Prop :=
  b < σ.n ∧ ∀ (i : Nat) (x : α), l[i]? = some x → ∀ o n, o + n ≤ es → σ.loadN b (i * es + o) n = some (((cells x).drop o).take n)
def SlP {α : Type} (cells : α → List Value) (es : Nat) (σ : AHeap) (a : Option Addr) (l : List α) : Prop := l = [] ∨ ∃ b, a = some ⟨b, 0, none⟩ ∧ SlAt cells es σ b l
section
variable {α : Type} {cells : α → List Value} {es : Nat} {σ τ : AHeap} {a : Option Addr} {l : List α}
theorem SlAt.keeps {b : Nat} (h : SlAt cells es σ b l) (k : Keeps σ τ) : SlAt cells es τ b l :=
  ⟨Nat.lt_of_lt_of_le h.1 k.n, fun i x hx o n ho => by rw [k.load _ _ h.1]; exact h.2 i x hx o n ho⟩
theorem SlP.keeps (h : SlP cells es σ a l) (k : Keeps σ τ) : SlP cells es τ a l := h.imp id fun ⟨b, e, hb⟩ => ⟨b, e, hb.keeps k⟩
theorem SlP.grow (h : SlP cells es σ a l) (L : List (List Value × Nat)) : SlP cells es (σ.grow L) a l := h.keeps (Keeps.self σ L)
theorem SlP.fresh (h : SlP cells es σ a l) : SlP cells es σ.fresh a l := h.imp id fun ⟨b, e, hb⟩ => ⟨b, e, hb⟩
theorem SlP.setLow (h : SlP cells es σ a l) (m : Nat) : SlP cells es (σ.setLow m) a l := h.imp id fun ⟨b, e, hb⟩ => ⟨b, e, hb⟩
theorem SlP.at (h : SlP cells es σ a l) {i : Nat} (hi : i < l.length) : ∃ b, a = some ⟨b, 0, none⟩ ∧ SlAt cells es σ b l := h.resolve_left fun e => by subst e; simp at hi
end
end Go.Hai
