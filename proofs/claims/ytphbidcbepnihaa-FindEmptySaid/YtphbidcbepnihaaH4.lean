/-
  The abstract interpreter: how its values and its heap stand for the machine's. No proof of the program stands here.
-/
import Derived.Test.YtphbidcbepnihaaH3
import Derived.Calls
import Derived.Laws.World
import Derived.Laws.Sem
namespace Go.Hai
open Go
/- words that are not known and not nought, by number: the word less one (they stand as .chan (some i) in the abstract heap) -/
class Rho where
  val : Nat → Nat

/- where a block lies: the machine's block, the first cell, how many cells are there from it on, an element's cells -/
structure Loc where
  blk : Nat
  base : Nat
  z : Nat
  es : Nat
abbrev Ren := Nat → Option Loc
def Ren.le (ρ ρ' : Ren) : Prop := ∀ b L, ρ b = some L → ρ' b = some L
theorem Ren.le_refl (ρ : Ren) : ρ.le ρ := fun _ _ h => h
theorem Ren.le_trans {ρ ρ' ρ'' : Ren} (h : ρ.le ρ') (h' : ρ'.le ρ'') : ρ.le ρ'' := fun b L e => h' b L (h b L e)

inductive VR [Rho] (ρ : Ren) : Value → Value → Prop
  | flat {v : Value} (h : flat v = true) : VR ρ v v
  | sym {i : Nat} : VR ρ (.chan (some i)) (.int .u64 (Int.ofNat (Nat.succ (Rho.val i))))
  | ptr {b o : Nat} {L : Loc} (h : ρ b = some L) : VR ρ (.pointer (some ⟨b, o, none⟩)) (.pointer (some ⟨L.blk, L.base + o, none⟩))
  | sl0 {a a' : Addr} : VR ρ (.slice (some a) 0 0) (.slice (some a') 0 0)
  | sl {b o l f c : Nat} {L : Loc} {a' : Addr} (h : ρ b = some L) (hl : l ≤ c) (hf : f ≠ 0) (hb : f = 1 → o + c * L.es ≤ L.z) (ha : a' = ⟨L.blk, L.base + o, none⟩ ∨ c = 0) :
      VR ρ (.slice (some ⟨b, o, none⟩) l f) (.slice (some a') l c)
  | mp {b : Nat} {L : Loc} (h : ρ b = some L) : VR ρ (.map (some b)) (.map (some L.blk))
  | fn {f : Fn} {a b a' b' : Array Value} (ha : a.size = a'.size) (hb : b.size = b'.size)
      (pa : ∀ (i : Nat) (v u : Value), a[i]? = some v → a'[i]? = some u → VR ρ v u) (pb : ∀ (i : Nat) (v u : Value), b[i]? = some v → b'[i]? = some u → VR ρ v u) :
      VR ρ (.func f a b) (.func f a' b')
  | agg {a a' : Array Value} (ha : a.size = a'.size) (pa : ∀ (i : Nat) (v u : Value), a[i]? = some v → a'[i]? = some u → VR ρ v u) : VR ρ (.agg a) (.agg a')
  | tup {a a' : Array Value} (ha : a.size = a'.size) (pa : ∀ (i : Nat) (v u : Value), a[i]? = some v → a'[i]? = some u → VR ρ v u) : VR ρ (.tuple a) (.tuple a')

inductive VRs [Rho] (ρ : Ren) : List Value → List Value → Prop
  | nil : VRs ρ [] []
  | cons {v u : Value} {l k : List Value} (h : VR ρ v u) (hs : VRs ρ l k) : VRs ρ (v :: l) (u :: k)

theorem VR.mono [Rho] {ρ ρ' : Ren} (hle : ρ.le ρ') {v u : Value} (h : VR ρ v u) : VR ρ' v u := by
  induction h with
  | flat h => exact .flat h
  | sym => exact .sym
  | ptr h => exact .ptr (hle _ _ h)
  | sl0 => exact .sl0
  | sl h hl hf hb ha => exact .sl (hle _ _ h) hl hf hb ha
  | mp h => exact .mp (hle _ _ h)
  | fn ha hb _ _ ia ib => exact .fn ha hb ia ib
  | agg ha _ ia => exact .agg ha ia
  | tup ha _ ia => exact .tup ha ia

theorem VRs.mono [Rho] {ρ ρ' : Ren} (hle : ρ.le ρ') {v u : List Value} (h : VRs ρ v u) : VRs ρ' v u := by
  induction h with
  | nil => exact .nil
  | cons h _ ih => exact .cons (h.mono hle) ih
theorem VRs.length [Rho] {ρ : Ren} {l k : List Value} (h : VRs ρ l k) : l.length = k.length := by
  induction h with
  | nil => rfl
  | cons _ _ ih => simp [ih]
theorem VRs.get [Rho] {ρ : Ren} {l k : List Value} (h : VRs ρ l k) : ∀ (i : Nat) (v u : Value), l[i]? = some v → k[i]? = some u → VR ρ v u := by
  induction h with
  | nil => intro i v u h; simp at h
  | cons h _ ih =>
    intro i v u hv hu
    cases i with
    | zero => simp at hv hu; subst hv; subst hu; exact h
    | succ i => simp at hv hu; exact ih i v u hv hu
theorem VRs.of_get [Rho] {ρ : Ren} : ∀ {l k : List Value}, l.length = k.length → (∀ (i : Nat) (v u : Value), l[i]? = some v → k[i]? = some u → VR ρ v u) → VRs ρ l k
  | [], [], _, _ => .nil
  | [], _ :: _, h, _ => by simp at h
  | _ :: _, [], h, _ => by simp at h
  | v :: l, u :: k, h, hg => .cons (hg 0 v u rfl rfl) (VRs.of_get (by simpa using h) fun i v u hv hu => hg (i + 1) v u (by simpa using hv) (by simpa using hu))
theorem VRs.get1 [Rho] {ρ : Ren} {l k : List Value} (h : VRs ρ l k) {i : Nat} {v : Value} (hv : l[i]? = some v) : ∃ u, k[i]? = some u ∧ VR ρ v u := by
  have hi : i < k.length := by rw [← h.length]; exact (List.getElem?_eq_some_iff.1 hv).1
  exact ⟨k[i], List.getElem?_eq_getElem hi, h.get i v _ hv (List.getElem?_eq_getElem hi)⟩
theorem VRs.append [Rho] {ρ : Ren} {l k l' k' : List Value} (h : VRs ρ l k) (h' : VRs ρ l' k') : VRs ρ (l ++ l') (k ++ k') := by
  induction h with
  | nil => exact h'
  | cons h _ ih => exact .cons h ih
theorem VRs.take [Rho] {ρ : Ren} {l k : List Value} (h : VRs ρ l k) (n : Nat) : VRs ρ (l.take n) (k.take n) := by
  induction h generalizing n with
  | nil => simp; exact .nil
  | cons h _ ih => cases n with
    | zero => exact .nil
    | succ n => exact .cons h (ih n)
theorem VRs.drop [Rho] {ρ : Ren} {l k : List Value} (h : VRs ρ l k) (n : Nat) : VRs ρ (l.drop n) (k.drop n) := by
  induction h generalizing n with
  | nil => simp; exact .nil
  | cons h hs ih => cases n with
    | zero => exact .cons h hs
    | succ n => exact ih n
theorem VRs.map [Rho] {ρ : Ren} {α : Type} {f g : α → Value} {l : List α} (h : ∀ x ∈ l, VR ρ (f x) (g x)) : VRs ρ (l.map f) (l.map g) := by
  induction l with
  | nil => exact .nil
  | cons x l ih => exact .cons (h x (by simp)) (ih fun y hy => h y (by simp [hy]))
theorem VRs.arr [Rho] {ρ : Ren} {a a' : Array Value} (ha : a.size = a'.size) (pa : ∀ (i : Nat) (v u : Value), a[i]? = some v → a'[i]? = some u → VR ρ v u) : VRs ρ a.toList a'.toList :=
  .of_get (by simpa using ha) fun i v u hv hu => pa i v u (by simpa using hv) (by simpa using hu)

/- ---- values without an address ---- -/
theorem scal_eq [Rho] {ρ : Ren} {v u : Value} (hs : scal v = true) (h : VR ρ v u) : u = v := by
  cases h <;> simp_all [scal]
theorem sym_eq [Rho] {ρ : Ren} {i : Nat} {u : Value} (h : VR ρ (.chan (some i)) u) : u = .int .u64 (Int.ofNat (Nat.succ (Rho.val i))) := by
  cases h with
  | flat h => simp [flat, flatC, scal] at h
  | sym => rfl
theorem isZero_eq {v : Value} (h : isZero v = true) : v = .int .u64 (.ofNat 0) := by
  unfold isZero at h
  split at h
  · rfl
  · cases h
theorem flat_of_scal {v : Value} (h : scal v = true) : flat v = true := by
  cases v <;> simp_all [flat, flatC, scal]
theorem flat_of_flatC {v : Value} (h : flatC v = true) : flat v = true := by
  cases v <;> simp_all [flat, flatC, scal]
theorem arr_eq_of_scal [Rho] {ρ : Ren} {a a' : Array Value} (hs : ∀ v ∈ a.toList, scal v = true) (ha : a.size = a'.size)
    (pa : ∀ (i : Nat) (v u : Value), a[i]? = some v → a'[i]? = some u → VR ρ v u) : a' = a := by
  apply Array.ext ha.symm
  intro i h1 h2
  exact scal_eq (hs _ (by simp)) (pa i a[i] a'[i] (by simp) (by simp))
theorem flatC_eq [Rho] {ρ : Ren} {v u : Value} (hs : flatC v = true) (h : VR ρ v u) : u = v := by
  cases h with
  | flat _ => rfl
  | agg ha pa =>
    simp only [flatC, List.all_eq_true] at hs
    rw [arr_eq_of_scal hs ha pa]
  | _ => simp_all [flatC, scal]
theorem flat_eq [Rho] {ρ : Ren} {v u : Value} (hs : flat v = true) (h : VR ρ v u) : u = v := by
  cases h with
  | flat _ => rfl
  | agg ha pa => exact flatC_eq (by simpa [flat] using hs) (.agg ha pa)
  | tup ha pa =>
    simp only [flat, List.all_eq_true] at hs
    congr 1
    apply Array.ext ha.symm
    intro i h1 h2
    exact flatC_eq (hs _ (by simp)) (pa i _ _ (by simp) (by simp))
  | fn ha hb pa pb =>
    simp only [flat, Bool.and_eq_true, List.isEmpty_iff, Array.toList_eq_nil_iff] at hs
    obtain ⟨rfl, rfl⟩ := hs
    have e1 := Array.eq_empty_of_size_eq_zero ha.symm
    have e2 := Array.eq_empty_of_size_eq_zero hb.symm
    rw [e1, e2]
  | _ => simp_all [flat, flatC, scal]

theorem VR.agg_inv [Rho] {ρ : Ren} {cs : Array Value} {u : Value} (h : VR ρ (.agg cs) u) : ∃ ds, u = .agg ds ∧ VRs ρ cs.toList ds.toList := by
  cases h with
  | flat h =>
    refine ⟨cs, rfl, .of_get rfl fun i v u hv hu => ?_⟩
    rw [hv] at hu; cases hu
    simp only [Hai.flat, flatC, List.all_eq_true] at h
    exact .flat (flat_of_scal (h _ (List.mem_of_getElem? hv)))
  | agg ha pa => exact ⟨_, rfl, .arr ha pa⟩
theorem VR.tup_inv [Rho] {ρ : Ren} {cs : Array Value} {u : Value} (h : VR ρ (.tuple cs) u) : ∃ ds, u = .tuple ds ∧ VRs ρ cs.toList ds.toList := by
  cases h with
  | flat h =>
    refine ⟨cs, rfl, .of_get rfl fun i v u hv hu => ?_⟩
    rw [hv] at hu; cases hu
    simp only [Hai.flat, List.all_eq_true] at h
    exact .flat (flat_of_flatC (h _ (List.mem_of_getElem? hv)))
  | tup ha pa => exact ⟨_, rfl, .arr ha pa⟩
theorem VR.fn_inv [Rho] {ρ : Ren} {f : Fn} {a b : Array Value} {u : Value} (h : VR ρ (.func f a b) u) :
    ∃ a' b', u = .func f a' b' ∧ VRs ρ a.toList a'.toList ∧ VRs ρ b.toList b'.toList := by
  cases h with
  | flat h =>
    simp only [Hai.flat, Bool.and_eq_true, List.isEmpty_iff, Array.toList_eq_nil_iff] at h
    obtain ⟨rfl, rfl⟩ := h
    exact ⟨_, _, rfl, .nil, .nil⟩
  | fn ha hb pa pb => exact ⟨_, _, rfl, .arr ha pa, .arr hb pb⟩
theorem VR.ptr_inv [Rho] {ρ : Ren} {b o : Nat} {s : Option Nat} {u : Value} (h : VR ρ (.pointer (some ⟨b, o, s⟩)) u) :
    ∃ L, ρ b = some L ∧ u = .pointer (some ⟨L.blk, L.base + o, none⟩) := by
  cases h with
  | flat h => simp [Hai.flat, flatC, scal] at h
  | ptr h => exact ⟨_, h, rfl⟩
theorem VR.map_inv [Rho] {ρ : Ren} {b : Nat} {u : Value} (h : VR ρ (.map (some b)) u) : ∃ L, ρ b = some L ∧ u = .map (some L.blk) := by
  cases h with
  | flat h => simp [Hai.flat, flatC, scal] at h
  | mp h => exact ⟨_, h, rfl⟩
/- a slice: nil; nothing, of no room; a place -/
theorem VR.sl_inv [Rho] {ρ : Ren} {a : Option Addr} {l f : Nat} {u : Value} (h : VR ρ (.slice a l f) u) :
    (a = none ∧ l = 0 ∧ f = 0 ∧ u = .slice none 0 0) ∨ (∃ a₀ a', a = some a₀ ∧ l = 0 ∧ f = 0 ∧ u = .slice (some a') 0 0) ∨
    (∃ b o c L a', a = some ⟨b, o, none⟩ ∧ ρ b = some L ∧ l ≤ c ∧ f ≠ 0 ∧ (f = 1 → o + c * L.es ≤ L.z) ∧ (a' = ⟨L.blk, L.base + o, none⟩ ∨ c = 0) ∧ u = .slice (some a') l c) := by
  cases h with
  | flat h =>
    cases a with
    | some a => simp [Hai.flat, flatC, scal] at h
    | none =>
      left
      simp only [Hai.flat, flatC] at h
      unfold scal at h
      split at h <;> simp_all
  | sl0 => exact .inr (.inl ⟨_, _, rfl, rfl, rfl, rfl⟩)
  | sl h hl hf hb ha => exact .inr (.inr ⟨_, _, _, _, _, rfl, h, hl, hf, hb, ha, rfl⟩)

theorem VR.cells [Rho] {ρ : Ren} {v u : Value} (h : VR ρ v u) : VRs ρ v.cells.toList u.cells.toList := by
  cases hv : v with
  | agg cs =>
    subst hv
    obtain ⟨ds, rfl, hs⟩ := h.agg_inv
    exact hs
  | _ =>
    subst hv
    cases h <;> simp only [Value.cells] <;> first
      | exact .cons (.flat ‹_›) .nil
      | exact .cons .sym .nil
      | exact .cons (.ptr ‹_›) .nil
      | exact .cons .sl0 .nil
      | exact .cons (.sl ‹_› ‹_› ‹_› ‹_› ‹_›) .nil
      | exact .cons (.mp ‹_›) .nil
      | exact .cons (.fn ‹_› ‹_› ‹_› ‹_›) .nil
      | exact .cons (.tup ‹_› ‹_›) .nil
theorem isCell_of [Rho] {ρ : Ren} {v u : Value} (h : VR ρ v u) (hc : isCell v = true) : isCell u = true := by
  cases h <;> first | exact hc | rfl | simp [isCell] at hc
theorem oneCell_of {v : Value} (h : isCell v = true) : v.oneCell' = true := by
  cases v <;> first | rfl | simp [isCell] at h
theorem VR.of_agg [Rho] {ρ : Ren} {cs ds : List Value} (h : VRs ρ cs ds) : VR ρ (.agg cs.toArray) (.agg ds.toArray) :=
  .agg (by simpa using h.length) fun i v u hv hu => h.get i v u (by simpa using hv) (by simpa using hu)
theorem VR.of_tup [Rho] {ρ : Ren} {cs ds : List Value} (h : VRs ρ cs ds) : VR ρ (.tuple cs.toArray) (.tuple ds.toArray) :=
  .tup (by simpa using h.length) fun i v u hv hu => h.get i v u (by simpa using hv) (by simpa using hu)

/- ---- the heap ---- -/
structure RowAt [Rho] (ρ : Ren) (w : World) (cs : Tr Value) (len : Nat) (rw : Bool) (L : Loc) : Prop where
  ex : ∃ C T fr, w.heap[L.blk]? = some (.cells C T fr) ∧ L.base + L.z ≤ C.size ∧ len ≤ L.z ∧ (rw = true → fr = (0, 0)) ∧
    ∀ i v, i < len → cs.get i = some v → isCell v = true ∧ ∃ u, C[L.base + i]? = some u ∧ VR ρ v u

def Obj.notRow : Obj → Bool
  | .cells .. => false
  | _ => true
/- may two blocks lie in one block of the machine? -/
def shares (σ : AHeap) : Option AObj → Option AObj → Prop
  | some (.row _ _ _ _ rw fam), some (.row _ _ _ _ rw' fam') => (rw = false ∧ rw' = false) ∨ σ.alive fam = false ∨ σ.alive fam' = false ∨ (fam = fam' ∧ fam ≠ none)
  | _, _ => False
def ro : Option AObj → Bool
  | some (.row _ _ _ _ false _) => true
  | _ => false

structure Sim [Rho] (ρ : Ren) (σ : AHeap) (w : World) : Prop where
  dom : ∀ b L, ρ b = some L → b < σ.n
  lt : ∀ b L, ρ b = some L → L.blk < w.heap.size
  some' : ∀ b L, ρ b = some L → σ.t.get b ≠ none
  row : ∀ b L cs len es top rw fam, ρ b = some L → σ.t.get b = some (.row cs len es top rw fam) →
    L.es = es ∧ (∀ p, fam = some p → p.2 ≤ b) ∧ (σ.alive fam = true → RowAt ρ w cs len rw L)
  obj : ∀ b L o, ρ b = some L → σ.t.get b = some (.obj o) → w.heap[L.blk]? = some o ∧ Obj.notRow o = true ∧ L.base = 0
  sep : ∀ b b' L L', b ≠ b' → ρ b = some L → ρ b' = some L' → L.blk = L'.blk → shares σ (σ.t.get b) (σ.t.get b')
  top : ∀ b b' L L' cs len es fam cs' len' es' top' rw' fam', b ≠ b' → ρ b = some L → ρ b' = some L' → L.blk = L'.blk →
    σ.t.get b = some (.row cs len es true true fam) → σ.t.get b' = some (.row cs' len' es' top' rw' fam') → σ.alive fam = true → σ.alive fam' = true →
    L'.base + len' ≤ L.base + len ∧ top' = false

/- what becomes of the named heap alone -/
structure Ext (σ σ' : AHeap) : Prop where
  n : σ.n ≤ σ'.n
  low : σ'.low ≤ σ.low
  nf : σ.nf ≤ σ'.nf
  keep : ∀ b, b < σ.n → b < σ'.low → σ'.t.get b = σ.t.get b
  ro : ∀ b, b < σ.n → ro (σ.t.get b) = true → σ'.t.get b = σ.t.get b
  ro' : ∀ b, b < σ.n → Hai.ro (σ'.t.get b) = true → σ'.t.get b = σ.t.get b
  dead : ∀ p ∈ σ'.dead, p ∈ σ.dead ∨ σ'.low ≤ p.2
  dead' : ∀ p ∈ σ.dead, p ∈ σ'.dead

theorem Ext.refl (σ : AHeap) : Ext σ σ := ⟨Nat.le_refl _, Nat.le_refl _, Nat.le_refl _, fun _ _ _ => rfl, fun _ _ _ => rfl, fun _ _ _ => rfl, fun _ h => .inl h, fun _ h => h⟩
theorem Ext.trans {σ σ₁ σ₂ : AHeap} (h : Ext σ σ₁) (h' : Ext σ₁ σ₂) : Ext σ σ₂ where
  n := Nat.le_trans h.n h'.n
  low := Nat.le_trans h'.low h.low
  nf := Nat.le_trans h.nf h'.nf
  keep := fun b hb hl => by rw [h'.keep b (Nat.lt_of_lt_of_le hb h.n) hl, h.keep b hb (Nat.lt_of_lt_of_le hl h'.low)]
  ro := fun b hb hr => by
    have e := h.ro b hb hr
    rw [h'.ro b (Nat.lt_of_lt_of_le hb h.n) (by rw [e]; exact hr), e]
  ro' := fun b hb hr => by
    have e := h'.ro' b (Nat.lt_of_lt_of_le hb h.n) hr
    rw [e]; exact h.ro' b hb (by rw [← e]; exact hr)
  dead := fun p hp => (h'.dead p hp).elim (fun q => (h.dead p q).imp id fun r => Nat.le_trans h'.low r) .inr
  dead' := fun p hp => h'.dead' p (h.dead' p hp)

/- a block of the machine in which something that may be written lies, from a number on -/
def Touch (ρ : Ren) (σ : AHeap) (low B : Nat) : Prop := ∃ b L, ρ b = some L ∧ L.blk = B ∧ low ≤ b ∧ ro (σ.t.get b) = false

/- what lies beside the heap -/
def SameIO (w w' : World) : Prop := w'.os = w.os ∧ w'.output = w.output
structure Post [Rho] (ρ : Ren) (σ : AHeap) (w : World) (ρ' : Ren) (σ' : AHeap) (w' : World) : Prop where
  sim : Sim ρ' σ' w'
  ren : ρ.le ρ'
  new : ∀ b L, ρ' b = some L → ρ b = some L ∨ (σ.n ≤ b ∧ (w.heap.size ≤ L.blk ∨ Touch ρ σ σ'.low L.blk))
  size : w.heap.size ≤ w'.heap.size
  frame : ∀ B, B < w.heap.size → ¬ Touch ρ σ σ'.low B → w'.heap[B]? = w.heap[B]?
  io : SameIO w w'

theorem Touch.low {ρ : Ren} {σ : AHeap} {low low' B : Nat} (h : Touch ρ σ low B) (hl : low' ≤ low) : Touch ρ σ low' B :=
  let ⟨b, L, h1, h2, h3, h4⟩ := h; ⟨b, L, h1, h2, Nat.le_trans hl h3, h4⟩

theorem Post.refl [Rho] {ρ : Ren} {σ : AHeap} {w : World} (h : Sim ρ σ w) : Post ρ σ w ρ σ w :=
  ⟨h, Ren.le_refl _, fun _ _ h => .inl h, Nat.le_refl _, fun _ _ _ => rfl, rfl, rfl⟩

theorem Touch.back [Rho] {ρ ρ₁ : Ren} {σ σ₁ : AHeap} {w w₁ : World} (hs : Sim ρ σ w) (e : Ext σ σ₁) (p : Post ρ σ w ρ₁ σ₁ w₁) {low B : Nat} (hl : low ≤ σ₁.low)
    (h : Touch ρ₁ σ₁ low B) : Touch ρ σ low B ∨ w.heap.size ≤ B := by
  obtain ⟨b, L, h1, rfl, h3, h4⟩ := h
  rcases p.new b L h1 with h | ⟨_, h | h⟩
  · refine .inl ⟨b, L, h, rfl, h3, ?_⟩
    cases hr : ro (σ.t.get b) with
    | false => rfl
    | true => rw [e.ro b (hs.dom b L h) hr, hr] at h4; cases h4
  · exact .inr h
  · exact .inl (h.low hl)

theorem Post.trans [Rho] {ρ ρ₁ ρ₂ : Ren} {σ σ₁ σ₂ : AHeap} {w w₁ w₂ : World} (hs : Sim ρ σ w) (e : Ext σ σ₁) (e' : Ext σ₁ σ₂) (p : Post ρ σ w ρ₁ σ₁ w₁) (p' : Post ρ₁ σ₁ w₁ ρ₂ σ₂ w₂) : Post ρ σ w ρ₂ σ₂ w₂ where
  sim := p'.sim
  io := ⟨p'.io.1.trans p.io.1, p'.io.2.trans p.io.2⟩
  ren := Ren.le_trans p.ren p'.ren
  new := by
    intro b L h
    rcases p'.new b L h with h | ⟨hb, h⟩
    · rcases p.new b L h with h | ⟨hb, h⟩
      · exact .inl h
      · exact .inr ⟨hb, h.imp id fun t => t.low e'.low⟩
    · refine .inr ⟨Nat.le_trans e.n hb, ?_⟩
      rcases h with h | h
      · exact .inl (Nat.le_trans p.size h)
      · exact (h.back hs e p e'.low).symm
  size := Nat.le_trans p.size p'.size
  frame := by
    intro B hB ht
    rw [p'.frame B (Nat.lt_of_lt_of_le hB p.size) fun t => (t.back hs e p e'.low).elim ht fun h => by omega, p.frame B hB fun t => ht (t.low e'.low)]
end Go.Hai
