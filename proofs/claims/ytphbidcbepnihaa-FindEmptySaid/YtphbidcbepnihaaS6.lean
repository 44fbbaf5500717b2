/-
  The abstract interpreter over values that are not known: rows that are written in place; function values. No proof of the program stands here.
-/
import Derived.Test.YtphbidcbepnihaaS5
namespace Go.Hai
open Go

theorem load_row {τ : AHeap} {b : Nat} {l : List Value} {e o n : Nat} (h : τ.t.get b = some (rowOf (l, e))) (hl : o + n ≤ l.length) : τ.loadN b o n = some ((l.drop o).take n) := by
  unfold AHeap.loadN AHeap.row?
  rw [h]
  simp only [rowOf, AHeap.alive, if_true]
  rw [if_pos (Nat.ble_eq_true_of_le hl), cellsFrom_of _ _ _ hl]
theorem store_row {τ : AHeap} {b : Nat} {l vs : List Value} {e o : Nat} (h : τ.t.get b = some (rowOf (l, e))) (hlow : τ.low ≤ b) (hl : o + vs.length ≤ l.length) (hc : vs.all isCell = true) :
    ∃ τ', τ.storeN b o vs = some τ' ∧ τ'.t.get b = some (rowOf (setAll l o vs, e)) ∧ (∀ c, c ≠ b → τ'.t.get c = τ.t.get c) ∧ τ'.n = τ.n ∧ τ'.low = τ.low ∧ τ'.dead = τ.dead := by
  refine ⟨τ.wrote b (.row ((Tr.of l).put o vs) l.length e true true none) none, ?_, ?_, ?_, rfl, ?_, rfl⟩
  · unfold AHeap.storeN
    rw [h]
    simp only [rowOf, AHeap.alive, Bool.true_and]
    rw [if_pos (by rw [Nat.ble_eq_true_of_le hl, hc]; rfl)]
  · show (τ.t.ins b _).get b = _
    rw [Tr.get_ins, if_pos rfl, Tr.of_put _ _ _ hl]
    simp only [rowOf, setAll_length]
  · intro c hcb
    show (τ.t.ins b _).get c = _
    rw [Tr.get_ins, if_neg (fun e => hcb e.symm)]
  · show minN τ.low b = τ.low
    unfold minN; rw [if_pos (Nat.ble_eq_true_of_le hlow)]
def hadL (h : List Bool) : List Value := h.map .bool
theorem hadL_length (h : List Bool) : (hadL h).length = h.length := by simp [hadL]
theorem hadL_set (h : List Bool) (o : Nat) (r : Bool) : setAll (hadL h) o [.bool r] = hadL (h.set o r) := by simp [setAll, hadL, List.map_set]
theorem hadL_at {h : List Bool} {o : Nat} {r : Bool} (hr : h[o]? = some r) : ((hadL h).drop o).take 1 = [.bool r] := by
  have ho := (List.getElem?_eq_some_iff.1 hr).1
  have hl : (hadL h)[o]? = some (.bool r) := by simp [hadL, hr]
  have ho' : o < (hadL h).length := by rw [hadL_length]; exact ho
  rw [List.drop_eq_getElem_cons ho', List.take_succ_cons, List.take_zero]
  rw [List.getElem?_eq_getElem ho'] at hl
  simpa using hl
def mkQ (l c : Value) (z : List Value) (bytes : Nat) (σ : AHeap) (L : List (List Value × Nat)) (K : Kt) : Prop := match l, c with
  | .int .i64 a, .int .i64 b =>
    if 0 ≤ a ∧ a ≤ b ∧ b * bytes ≤ 140737488355328 ∧ b ≤ 140737488355328 then
      K (.slice (some ⟨σ.n + L.length, 0, none⟩) a.toNat (if b = 0 then 0 else 1)) (σ.grow (L ++ [((List.replicate a.toNat z).flatten, z.length)]))
    else False
  | _, _ => False
theorem X1 {σ : AHeap} {t : Tmps} {K : Kt} {z : List Value} {bytes : Nat} {l c : Operand} {L : List (List Value × Nat)} :
    EndsO (aop (σ.grow L) t (.mkSl z bytes l c)) K = mkQ (ev t l) (ev t c) z bytes σ L K := by
  simp only [aop, mkQ, newRow_grow, grow_n]
  generalize ev t l = v
  generalize ev t c = u
  cases v with
  | int k a => cases k with
    | i64 => cases u with
      | int k b => cases k with
        | i64 =>
          by_cases h : 0 ≤ a ∧ a ≤ b ∧ b * bytes ≤ 140737488355328 ∧ b ≤ 140737488355328
          · simp only [if_pos h]; rfl
          · simp only [if_neg h]; rfl
        | _ => rfl
      | _ => rfl
    | _ => rfl
  | _ => rfl
theorem X2 {σ : AHeap} {L : List (List Value × Nat)} {K : Kt} {n : Nat} (h0 : 0 < n) (h1 : n < 1000) :
    mkQ (.int .i64 (n : Int)) (.int .i64 (n : Int)) [.bool false] 1 σ L K = K (.slice (some ⟨σ.n + L.length, 0, none⟩) n 1) (σ.grow (L ++ [(hadL (List.replicate n false), 1)])) := by
  unfold mkQ
  simp only
  rw [if_pos (by omega), if_neg (by omega)]
  have : (List.replicate (n : Int).toNat [Value.bool false]).flatten = hadL (List.replicate n false) := by
    simp [hadL, List.flatten_replicate_singleton]
  rw [this]
  rfl

/- all but one row is kept -/
structure Mod (hb : Nat) (σ τ : AHeap) : Prop where
  n : σ.n ≤ τ.n
  low : τ.low = σ.low
  dead : τ.dead = σ.dead
  row : ∀ b, b < σ.n → b ≠ hb → τ.t.get b = σ.t.get b
theorem Keeps.mod {hb : Nat} {σ τ : AHeap} (h : Keeps σ τ) : Mod hb σ τ := ⟨h.n, h.low, h.dead, fun b hb _ => h.row b hb⟩
theorem Mod.refl (hb : Nat) (σ : AHeap) : Mod hb σ σ := (Keeps.refl σ).mod
theorem Mod.trans {hb : Nat} {σ τ υ : AHeap} (h : Mod hb σ τ) (h' : Mod hb τ υ) : Mod hb σ υ :=
  ⟨Nat.le_trans h.n h'.n, h'.low.trans h.low, h'.dead.trans h.dead, fun b h1 h2 => (h'.row b (Nat.lt_of_lt_of_le h1 h.n) h2).trans (h.row b h1 h2)⟩
theorem Mod.grow {hb : Nat} {σ τ : AHeap} (h : Mod hb σ τ) (L : List (List Value × Nat)) : Mod hb σ (τ.grow L) := h.trans (Keeps.self τ L).mod
theorem Mod.load {hb : Nat} {σ τ : AHeap} (h : Mod hb σ τ) {b : Nat} (o n : Nat) (h1 : b < σ.n) (h2 : b ≠ hb) : τ.loadN b o n = σ.loadN b o n := by
  unfold AHeap.loadN AHeap.row? AHeap.alive
  rw [h.row b h1 h2, h.dead]
theorem SlP.mod {α : Type} {cells : α → List Value} {es hb : Nat} {ρ σ τ : AHeap} {a : Option Addr} {l : List α} (h : SlP cells es ρ a l) (k : Keeps ρ σ) (hn : ρ.n ≤ hb) (m : Mod hb σ τ) : SlP cells es τ a l := by
  rcases h with h | ⟨b, e, hb'⟩
  · exact .inl h
  · have h1 := Nat.lt_of_lt_of_le hb'.1 k.n
    refine .inr ⟨b, e, Nat.lt_of_lt_of_le h1 m.n, fun i x hx o n ho => ?_⟩
    rw [m.load _ _ h1 (by have := hb'.1; omega), k.load _ _ hb'.1]
    exact hb'.2 i x hx o n ho
/- a write into that row -/
theorem Mod.store {τ : AHeap} {b : Nat} {l vs : List Value} {e o : Nat} (h : τ.t.get b = some (rowOf (l, e))) (hlow : τ.low ≤ b) (hl : o + vs.length ≤ l.length) (hc : vs.all isCell = true) :
    ∃ τ', τ.storeN b o vs = some τ' ∧ τ'.t.get b = some (rowOf (setAll l o vs, e)) ∧ Mod b τ τ' ∧ τ'.n = τ.n := by
  obtain ⟨τ', h1, h2, h3, h4, h5, h6⟩ := store_row h hlow hl hc
  exact ⟨τ', h1, h2, ⟨Nat.le_of_eq h4.symm, h5, h6, fun c _ hc => h3 c hc⟩, h4⟩
theorem X3 {σ : AHeap} {t : Tmps} {K : Kt} {f : FuncId} {first cap : List Operand} : EndsO (aop σ t (.mkFn f first cap)) K = K (.func (.func f) (first.map (ev t)).toArray (cap.map (ev t)).toArray) σ := rfl
def cvQ (x : Value) (vs : List Value) (call : CallF) (σ : AHeap) (K : Kt) : Prop := match x with | .func (.func f) first cap => EndsO (call f (first.toList ++ (vs ++ cap.toList)) σ) K | _ => False
theorem X5 {f : FuncId} {a b vs : List Value} {call : CallF} {σ : AHeap} {K : Kt} : cvQ (.func (.func f) a.toArray b.toArray) vs call σ K = EndsO (call f (a ++ (vs ++ b)) σ) K := rfl
theorem X4 {call : CallF} {σ : AHeap} {t : Tmps} {K : Kt} {x : Operand} {xs : List Operand} : EndsO (aoper call (.callV x xs) t σ) K = cvQ (ev t x) (xs.map (ev t)) call σ K := by
  simp only [aoper, cvQ]
  cases ev t x with
  | func f a b => cases f <;> rfl
  | _ => rfl
/- the first place at which something holds; -1 of none -/
def firstI {α : Type} (p : α → Bool) : List α → Nat → Int
  | [], _ => -1
  | x :: l, i => if p x then i else firstI p l (i + 1)
theorem firstI_at {α : Type} {p : α → Bool} : ∀ {l : List α} {i k : Nat} {x : α}, (∀ (j : Nat) (y : α), j < i → l[j]? = some y → p y = false) → l[i]? = some x → p x = true → firstI p l k = ((k + i : Nat) : Int) := by
  intro l
  induction l with
  | nil => intro i k x _ h; simp at h
  | cons a l ih =>
    intro i k x hj hx hp
    cases i with
    | zero => simp at hx; subst hx; simp [firstI, hp]
    | succ i =>
      have h0 := hj 0 a (by omega) rfl
      simp only [firstI, h0, Bool.false_eq_true, if_false]
      rw [ih (i := i) (k := k + 1) (x := x) (fun j y h1 h2 => hj (j + 1) y (by omega) (by simpa using h2)) (by simpa using hx) hp]
      congr 1; omega
theorem firstI_none {α : Type} {p : α → Bool} : ∀ {l : List α} {k : Nat}, (∀ (j : Nat) (y : α), l[j]? = some y → p y = false) → firstI p l k = -1 := by
  intro l
  induction l with
  | nil => intro k _; rfl
  | cons a l ih =>
    intro k hj
    have h0 := hj 0 a rfl
    simp only [firstI, h0, Bool.false_eq_true, if_false]
    exact ih fun j y h => hj (j + 1) y (by simpa using h)
theorem firstI_lt {α : Type} {p : α → Bool} : ∀ {l : List α} {k : Nat}, -1 ≤ firstI p l k ∧ firstI p l k < ((k + l.length : Nat) : Int) + 1 := by
  intro l
  induction l with
  | nil => intro k; simp [firstI]; omega
  | cons a l ih =>
    intro k
    have := ih (k := k + 1)
    simp only [firstI]
    split
    · simp; omega
    · simp at this ⊢; omega
end Go.Hai
