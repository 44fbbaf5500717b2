/-
  The abstract interpreter over values that are not known: regions whose order is drawn, of which no two operations stand in no order. No proof of the program stands here.
-/
import Derived.Test.YtphbidcbepnihaaS8
namespace Go.Hai
open Go

def EndsX (call : CallF) (ops : List AOper) (t : Tmps) (σ : AHeap) (Q : Tmps → AHeap → Prop) : Prop := match runDraw call ops t σ with
  | some p => Q p.1 p.2.1
  | none => False
def kontX (call : CallF) (os : List AOper) (t : Tmps) (σ : AHeap) (Q : Tmps → AHeap → Prop) (d : Option Nat) (v : Value) (σ' : AHeap) : Prop := EndsX call os (setD t d v) { σ' with low := minN σ.low σ'.low } Q
section
variable {call : CallF} {os : List AOper} {t : Tmps} {σ : AHeap} {Q : Tmps → AHeap → Prop} {d : Option Nat} {op : AOp}
theorem x_nil : EndsX call [] t σ Q = Q t σ := rfl
theorem x_some {g : Option (Nat × Bool)} (hw : wants t g = true) : EndsX call (.mk d g op :: os) t σ Q = EndsO (aoper call op t (σ.setLow σ.n)) (kontX call os t σ Q d) := by
  unfold EndsX
  simp only [runDraw, hw, if_true]
  show _ = EndsO (aoper call op t { σ with low := σ.n }) _
  cases aoper call op t { σ with low := σ.n } with
  | none => rfl
  | some p =>
    obtain ⟨v, σ'⟩ := p
    simp only [EndsO, kontX, EndsX]
    cases runDraw call os (setD t d v) { σ' with low := minN σ.low σ'.low } <;> rfl
theorem x_1 : EndsX call (.mk d none op :: os) t σ Q = EndsO (aoper call op t (σ.setLow σ.n)) (kontX call os t σ Q d) := x_some rfl
theorem kontX_ok (h : σ.low ≤ σ.n) {v : Value} : kontX call os t σ Q d v (σ.setLow σ.n) = EndsX call os (setD t d v) σ Q := by
  unfold kontX
  have e2 : ({ σ.setLow σ.n with low := minN σ.low (σ.setLow σ.n).low } : AHeap) = σ := by
    have e3 : minN σ.low σ.n = σ.low := by unfold minN; rw [if_pos (Nat.ble_eq_true_of_le h)]
    show AHeap.mk σ.t σ.n σ.nf σ.dead (minN σ.low σ.n) = σ
    rw [e3]
  rw [e2]
theorem kontX_grow (h : σ.low ≤ σ.n) {L : List (List Value × Nat)} {v : Value} : kontX call os t (σ.grow L) Q d v ((σ.grow L).setLow (σ.grow L).n) = EndsX call os (setD t d v) (σ.grow L) Q := kontX_ok (low_grow h L)
end
theorem stX {call : CallF} {os : List AOper} {t : Tmps} {σ : AHeap} {Q : Tmps → AHeap → Prop} {d : Option Nat} (hlow : σ.low ≤ σ.n) (L : List (List Value × Nat)) (k o : Nat) (vs : List Value) {r : List Value} {e : Nat} (h : L[k]? = some (r, e)) :
    heapQ (((σ.grow L).setLow (σ.grow L).n).storeN (σ.n + k) o vs) (kontX call os t (σ.grow L) Q d) = if o + vs.length ≤ r.length ∧ vs.all isCell = true then EndsX call os (setD t d undef) (σ.grow (L.set k (setAll r o vs, e))) Q else False := by
  have hk : k < L.length := (List.getElem?_eq_some_iff.1 h).1
  have hg : ((σ.grow L).setLow (σ.grow L).n).t.get (σ.n + k) = some (rowOf (r, e)) := grow_new σ L k h
  by_cases hc : o + vs.length ≤ r.length ∧ vs.all isCell = true
  · rw [if_pos hc]
    have hs := store_new σ L k o vs hlow h hc.1 hc.2
    unfold AHeap.storeN at hs ⊢
    rw [hg]
    rw [grow_new σ L k h] at hs
    simp only [rowOf, AHeap.alive, Bool.true_and] at hs ⊢
    rw [if_pos (by rw [Nat.ble_eq_true_of_le hc.1, hc.2]; rfl)] at hs ⊢
    simp only [Option.some.injEq] at hs
    simp only [heapQ, kontX]
    rw [← hs]
    have hl1 : minN σ.low (minN (σ.n + L.length) (σ.n + k)) = σ.low := by rw [minN_min, minN_min]; omega
    have hl2 : minN σ.low (σ.n + k) = σ.low := by rw [minN_min]; omega
    have e : ({ ((σ.grow L).setLow (σ.grow L).n).wrote (σ.n + k) (.row ((Tr.of r).put o vs) r.length e true true none) none with low := minN (σ.grow L).low (((σ.grow L).setLow (σ.grow L).n).wrote (σ.n + k) (.row ((Tr.of r).put o vs) r.length e true true none) none).low } : AHeap) =
        (σ.grow L).wrote (σ.n + k) (.row ((Tr.of r).put o vs) r.length e true true none) none := by
      show AHeap.mk _ _ _ _ (minN σ.low (minN (σ.n + L.length) (σ.n + k))) = AHeap.mk _ _ _ _ (minN σ.low (σ.n + k))
      rw [hl1, hl2]
      rfl
    rw [e]
  · rw [if_neg hc]
    unfold AHeap.storeN
    rw [hg]
    simp only [rowOf, AHeap.alive, Bool.true_and]
    rw [if_neg (fun hb => hc (by simp only [Bool.and_eq_true] at hb; exact ⟨Nat.le_of_ble_eq_true hb.1, hb.2⟩))]
    rfl
theorem stX_2 {call : CallF} {os : List AOper} {t : Tmps} {σ : AHeap} {Q : Tmps → AHeap → Prop} {d : Option Nat} (hlow : σ.low ≤ σ.n) {a0 a1 r : List Value} {b0 b1 e : Nat} {l : List (List Value × Nat)} {o : Nat} {vs : List Value} :
    heapQ (((σ.grow ((a0, b0) :: (a1, b1) :: (r, e) :: l)).setLow (σ.grow ((a0, b0) :: (a1, b1) :: (r, e) :: l)).n).storeN (σ.n + 2) o vs) (kontX call os t (σ.grow ((a0, b0) :: (a1, b1) :: (r, e) :: l)) Q d) =
      if o + vs.length ≤ r.length ∧ vs.all isCell = true then EndsX call os (setD t d undef) (σ.grow ((a0, b0) :: (a1, b1) :: (setAll r o vs, e) :: l)) Q else False := stX hlow _ 2 o vs rfl
theorem ends_drw0 {call : CallF} {fuel : Nat} {ops : List AOper} {bef : List Nat} {t : Tmps} {σ : AHeap} {Q : AEx → Tmps → AHeap → Prop} (hr : risks (marks ops bef) 0 = []) : Ends (acode call fuel (.drw ops bef) t σ) Q = EndsX call ops t σ (Q .normal) := by
  simp only [acode]
  unfold EndsX Ends
  rw [hr]
  cases runDraw call ops t σ with
  | none => rfl
  | some p => obtain ⟨t', σ', ks⟩ := p; rfl
end Go.Hai
