/-
  The abstract interpreter's words: an own form of the loaded code, a heap of named blocks, and the evaluator. No proof of the program stands here.
-/
import GoSem.Machine.Exec
import Derived.KernelRfl
namespace Go.Hai
open Go

/- A table keyed by numbers: a tree by the number's bits. -/
inductive Pth where
  | z
  | l (p : Pth)
  | r (p : Pth)
inductive Tr (α : Type) where
  | tip
  | node (v : Option α) (l r : Tr α)

def pthF : Nat → Nat → Pth
  | 0, _ => .z
  | f + 1, i => match Nat.beq i 0 with
    | true => .z
    | false => match Nat.beq (Nat.mod (Nat.sub i 1) 2) 0 with
      | true => .l (pthF f (Nat.div (Nat.sub i 1) 2))
      | false => .r (pthF f (Nat.div (Nat.sub i 1) 2))
def pth (i : Nat) : Pth := pthF (i + 1) i

theorem nbeq {i j : Nat} (h : i ≠ j) : Nat.beq i j = false := by
  cases hb : Nat.beq i j with
  | false => rfl
  | true => exact absurd (Nat.eq_of_beq_eq_true hb) h

theorem pthF_inj : ∀ (f g i j : Nat), i < f → j < g → pthF f i = pthF g j → i = j := by
  intro f
  induction f with
  | zero => intro g i j h; omega
  | succ f ih =>
    intro g i j hi hj h
    cases g with
    | zero => omega
    | succ g =>
      simp only [pthF] at h
      have hs : ∀ x : Nat, Nat.sub x 1 = x - 1 := fun _ => rfl
      have hm : ∀ x : Nat, Nat.mod x 2 = x % 2 := fun _ => rfl
      have hd : ∀ x : Nat, Nat.div x 2 = x / 2 := fun _ => rfl
      simp only [hs, hm, hd] at h
      by_cases i0 : i = 0
      · subst i0
        by_cases j0 : j = 0
        · exact j0.symm
        · rw [nbeq j0] at h
          simp only at h
          split at h <;> cases h
      · rw [nbeq i0] at h
        by_cases j0 : j = 0
        · subst j0
          simp only at h
          split at h <;> cases h
        · rw [nbeq j0] at h
          simp only at h
          cases h1 : Nat.beq ((i - 1) % 2) 0 <;> cases h2 : Nat.beq ((j - 1) % 2) 0 <;> simp only [h1, h2] at h
          · have h1 : (i - 1) % 2 ≠ 0 := fun e => by rw [e] at h1; cases h1
            have h2 : (j - 1) % 2 ≠ 0 := fun e => by rw [e] at h2; cases h2
            have := ih g _ _ (by omega) (by omega) (Pth.r.inj h)
            omega
          · cases h
          · cases h
          · have h1 := Nat.eq_of_beq_eq_true h1
            have h2 := Nat.eq_of_beq_eq_true h2
            have := ih g _ _ (by omega) (by omega) (Pth.l.inj h)
            omega
theorem pth_inj {i j : Nat} (h : pth i = pth j) : i = j := pthF_inj _ _ _ _ (Nat.lt_succ_self _) (Nat.lt_succ_self _) h

def Tr.getP {α : Type} : Pth → Tr α → Option α
  | _, .tip => none
  | .z, .node v _ _ => v
  | .l p, .node _ l _ => Tr.getP p l
  | .r p, .node _ _ r => Tr.getP p r
def Tr.insP {α : Type} (x : α) : Pth → Tr α → Tr α
  | .z, .tip => .node (some x) .tip .tip
  | .z, .node _ l r => .node (some x) l r
  | .l p, .tip => .node none (Tr.insP x p .tip) .tip
  | .l p, .node v l r => .node v (Tr.insP x p l) r
  | .r p, .tip => .node none .tip (Tr.insP x p .tip)
  | .r p, .node v l r => .node v l (Tr.insP x p r)
def Tr.get {α : Type} (t : Tr α) (i : Nat) : Option α := Tr.getP (pth i) t
def Tr.ins {α : Type} (t : Tr α) (i : Nat) (x : α) : Tr α := Tr.insP x (pth i) t

theorem Tr.getP_tip {α : Type} (p : Pth) : Tr.getP p (.tip : Tr α) = none := by cases p <;> rfl
theorem Tr.getP_same {α : Type} (x : α) : ∀ (p : Pth) (t : Tr α), Tr.getP p (Tr.insP x p t) = some x := by
  intro p
  induction p with
  | z => intro t; cases t <;> rfl
  | l p ih => intro t; cases t <;> exact ih _
  | r p ih => intro t; cases t <;> exact ih _
theorem Tr.getP_other {α : Type} (x : α) : ∀ (p q : Pth) (t : Tr α), p ≠ q → Tr.getP q (Tr.insP x p t) = Tr.getP q t := by
  intro p
  induction p with
  | z => intro q t h; cases q <;> cases t <;> first | exact absurd rfl h | rfl | exact Tr.getP_tip _
  | l p ih =>
    intro q t h
    cases q with
    | l q =>
      have : p ≠ q := fun e => h (by rw [e])
      cases t with
      | tip => exact (ih q .tip this).trans (Tr.getP_tip _)
      | node v l r => exact ih q l this
    | z => cases t <;> rfl
    | r q => cases t <;> first | rfl | exact Tr.getP_tip _
  | r p ih =>
    intro q t h
    cases q with
    | r q =>
      have : p ≠ q := fun e => h (by rw [e])
      cases t with
      | tip => exact (ih q .tip this).trans (Tr.getP_tip _)
      | node v l r => exact ih q r this
    | z => cases t <;> rfl
    | l q => cases t <;> first | rfl | exact Tr.getP_tip _
theorem Tr.get_ins {α : Type} (t : Tr α) (i : Nat) (x : α) (j : Nat) : (t.ins i x).get j = if i = j then some x else t.get j := by
  unfold Tr.ins Tr.get
  by_cases h : i = j
  · subst h; rw [if_pos rfl, Tr.getP_same]
  · rw [if_neg h, Tr.getP_other _ _ _ _ fun e => h (pth_inj e)]
theorem Tr.get_tip {α : Type} (i : Nat) : (Tr.tip : Tr α).get i = none := Tr.getP_tip _

/- a table of a list, from a number on -/
def Tr.put {α : Type} : Tr α → Nat → List α → Tr α
  | t, _, [] => t
  | t, i, x :: l => Tr.put (t.ins i x) (i + 1) l
def Tr.of {α : Type} (l : List α) : Tr α := Tr.put .tip 0 l

theorem Tr.get_put {α : Type} : ∀ (l : List α) (t : Tr α) (i j : Nat), (t.put i l).get j = if i ≤ j ∧ j < i + l.length then l[j - i]? else t.get j := by
  intro l
  induction l with
  | nil => intro t i j; simp only [Tr.put, List.length_nil]; rw [if_neg (by omega)]
  | cons x l ih =>
    intro t i j
    simp only [Tr.put, ih, List.length_cons, Tr.get_ins]
    by_cases h1 : i + 1 ≤ j ∧ j < i + 1 + l.length
    · rw [if_pos h1, if_pos (by omega)]
      obtain ⟨d, hd⟩ : ∃ d, j - i = d + 1 := ⟨j - i - 1, by omega⟩
      rw [hd, List.getElem?_cons_succ]; congr 1; omega
    · rw [if_neg h1]
      by_cases h2 : i = j
      · subst h2; rw [if_pos rfl, if_pos (by omega)]; simp
      · rw [if_neg h2, if_neg (by omega)]
theorem Tr.get_of {α : Type} (l : List α) (j : Nat) : (Tr.of l).get j = l[j]? := by
  unfold Tr.of
  rw [Tr.get_put]
  by_cases h : j < l.length
  · rw [if_pos (by omega)]; simp
  · rw [if_neg (by omega), Tr.get_tip, List.getElem?_eq_none (by omega)]
end Go.Hai
