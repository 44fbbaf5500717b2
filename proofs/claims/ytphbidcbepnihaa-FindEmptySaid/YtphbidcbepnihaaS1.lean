/-
  The abstract interpreter over values that are not known: rules by which its runs are followed one step at a time. No proof of the program stands here.
-/
import Derived.Test.YtphbidcbepnihaaH20
namespace Go.Hai
open Go

/- ---- tables ---- -/
theorem Tr.insP_same {α : Type} (x y : α) : ∀ (p : Pth) (t : Tr α), Tr.insP y p (Tr.insP x p t) = Tr.insP y p t := by
  intro p
  induction p with
  | z => intro t; cases t <;> rfl
  | l p ih => intro t; cases t with
    | tip => simp only [Tr.insP, ih]
    | node v l r => simp only [Tr.insP, ih]
  | r p ih => intro t; cases t with
    | tip => simp only [Tr.insP, ih]
    | node v l r => simp only [Tr.insP, ih]
theorem Tr.insP_comm {α : Type} (x y : α) : ∀ (p q : Pth) (t : Tr α), p ≠ q → Tr.insP y q (Tr.insP x p t) = Tr.insP x p (Tr.insP y q t) := by
  intro p
  induction p with
  | z => intro q t h; cases q with
    | z => exact absurd rfl h
    | _ => cases t <;> simp only [Tr.insP]
  | l p ih => intro q t h; cases q with
    | l q =>
      have : p ≠ q := fun e => h (by rw [e])
      cases t <;> simp only [Tr.insP, ih _ _ this]
    | _ => cases t <;> simp only [Tr.insP]
  | r p ih => intro q t h; cases q with
    | r q =>
      have : p ≠ q := fun e => h (by rw [e])
      cases t <;> simp only [Tr.insP, ih _ _ this]
    | _ => cases t <;> simp only [Tr.insP]
theorem Tr.ins_same {α : Type} (t : Tr α) (i : Nat) (x y : α) : (t.ins i x).ins i y = t.ins i y := Tr.insP_same _ _ _ _
theorem Tr.ins_comm {α : Type} (t : Tr α) {i j : Nat} (x y : α) (h : i ≠ j) : (t.ins i x).ins j y = (t.ins j y).ins i x := Tr.insP_comm _ _ _ _ _ fun e => h (pth_inj e)
theorem Tr.put_ins_lt {α : Type} (y : α) : ∀ (l : List α) (t : Tr α) (i j : Nat), j < i → (t.put i l).ins j y = (t.ins j y).put i l := by
  intro l
  induction l with
  | nil => intro t i j _; rfl
  | cons x l ih =>
    intro t i j h
    simp only [Tr.put]
    rw [ih _ _ _ (by omega), Tr.ins_comm _ _ _ (by omega)]
theorem Tr.put_ins {α : Type} (y : α) : ∀ (l : List α) (t : Tr α) (i k : Nat), k < l.length → (t.put i l).ins (i + k) y = t.put i (l.set k y) := by
  intro l
  induction l with
  | nil => intro t i k h; simp at h
  | cons x l ih =>
    intro t i k h
    cases k with
    | zero =>
      simp only [Tr.put, List.set_cons_zero, Nat.add_zero]
      rw [Tr.put_ins_lt _ _ _ _ _ (by omega), Tr.ins_same]
    | succ k =>
      simp only [Tr.put, List.set_cons_succ]
      have := ih (t.ins i x) (i + 1) k (by simpa using h)
      rw [show i + (k + 1) = i + 1 + k by omega, this]
theorem Tr.put_snoc {α : Type} (y : α) : ∀ (l : List α) (t : Tr α) (i : Nat), (t.put i l).ins (i + l.length) y = t.put i (l ++ [y]) := by
  intro l
  induction l with
  | nil => intro t i; rfl
  | cons x l ih =>
    intro t i
    simp only [Tr.put, List.cons_append, List.length_cons]
    rw [show i + (l.length + 1) = i + 1 + l.length by omega, ih]
def setAll : List Value → Nat → List Value → List Value
  | l, _, [] => l
  | l, o, v :: vs => setAll (l.set o v) (o + 1) vs
theorem setAll_length : ∀ (vs l : List Value) (o : Nat), (setAll l o vs).length = l.length := by
  intro vs
  induction vs with
  | nil => intro l o; rfl
  | cons v vs ih => intro l o; simp only [setAll, ih, List.length_set]
theorem Tr.of_put : ∀ (vs l : List Value) (o : Nat), o + vs.length ≤ l.length → (Tr.of l).put o vs = Tr.of (setAll l o vs) := by
  intro vs
  induction vs with
  | nil => intro l o _; rfl
  | cons v vs ih =>
    intro l o h
    simp only [List.length_cons] at h
    simp only [Tr.put, setAll]
    have := Tr.put_ins v l Tr.tip 0 o (by omega)
    rw [Nat.zero_add] at this
    rw [← ih (l.set o v) (o + 1) (by simp; omega)]
    unfold Tr.of
    rw [this]
theorem cellsFrom_of : ∀ (n : Nat) (l : List Value) (o : Nat), o + n ≤ l.length → cellsFrom (Tr.of l) o n = some ((l.drop o).take n) := by
  intro n
  induction n with
  | zero => intro l o h; simp [cellsFrom]
  | succ n ih =>
    intro l o h
    unfold cellsFrom
    have ho : o < l.length := by omega
    rw [Tr.get_of, List.getElem?_eq_getElem ho, ih l (o + 1) (by omega)]
    simp only
    rw [List.drop_eq_getElem_cons ho, List.take_succ_cons]

/- ---- a heap with new rows behind it ---- -/
def rowOf (r : List Value × Nat) : AObj := .row (Tr.of r.1) r.1.length r.2 true true none
def AHeap.grow (σ : AHeap) (L : List (List Value × Nat)) : AHeap := { t := σ.t.put σ.n (L.map rowOf), n := σ.n + L.length, nf := σ.nf, dead := σ.dead, low := σ.low }
theorem grow_nil (σ : AHeap) : σ.grow [] = σ := by cases σ; rfl
theorem grow_n (σ : AHeap) (L : List (List Value × Nat)) : (σ.grow L).n = σ.n + L.length := rfl
theorem Yk (σ : AHeap) (L : List (List Value × Nat)) : (σ.grow L).low = σ.low := rfl
theorem grow_dead (σ : AHeap) (L : List (List Value × Nat)) : (σ.grow L).dead = σ.dead := rfl
theorem grow_nf (σ : AHeap) (L : List (List Value × Nat)) : (σ.grow L).nf = σ.nf := rfl
theorem grow_old (σ : AHeap) (L : List (List Value × Nat)) {b : Nat} (h : b < σ.n) : (σ.grow L).t.get b = σ.t.get b := by
  show (σ.t.put σ.n _).get b = _
  rw [Tr.get_put, if_neg (by omega)]
theorem grow_new (σ : AHeap) (L : List (List Value × Nat)) (k : Nat) {r : List Value × Nat} (h : L[k]? = some r) : (σ.grow L).t.get (σ.n + k) = some (rowOf r) := by
  have hk : k < L.length := (List.getElem?_eq_some_iff.1 h).1
  show (σ.t.put σ.n _).get _ = _
  rw [Tr.get_put, if_pos (by simp; omega)]
  simp [h]
theorem newRow_grow (σ : AHeap) (L : List (List Value × Nat)) (cs : List Value) (es : Nat) : (σ.grow L).newRow cs es = σ.grow (L ++ [(cs, es)]) := by
  unfold AHeap.newRow AHeap.push AHeap.grow
  have := Tr.put_snoc (AObj.row (Tr.of cs) cs.length es true true none) (L.map rowOf) σ.t σ.n
  simp only [List.length_map] at this
  simp only [this, List.map_append, List.length_append, List.map_cons, List.map_nil, List.length_cons, List.length_nil, rowOf]
  rfl
theorem load_new (σ : AHeap) (L : List (List Value × Nat)) (k o n : Nat) {r : List Value × Nat} (h : L[k]? = some r) (hl : o + n ≤ r.1.length) : (σ.grow L).loadN (σ.n + k) o n = some ((r.1.drop o).take n) := by
  unfold AHeap.loadN AHeap.row?
  rw [grow_new σ L k h]
  simp only [rowOf, AHeap.alive, if_true]
  rw [if_pos (Nat.ble_eq_true_of_le hl), cellsFrom_of _ _ _ hl]
theorem load_new0 (σ : AHeap) (L : List (List Value × Nat)) (o n : Nat) {r : List Value × Nat} (h : L[0]? = some r) (hl : o + n ≤ r.1.length) : (σ.grow L).loadN σ.n o n = some ((r.1.drop o).take n) := load_new σ L 0 o n h hl
theorem load_old (σ : AHeap) (L : List (List Value × Nat)) {b : Nat} (o n : Nat) (h : b < σ.n) : (σ.grow L).loadN b o n = σ.loadN b o n := by
  unfold AHeap.loadN AHeap.row?
  rw [grow_old σ L h]
  rfl
theorem store_new (σ : AHeap) (L : List (List Value × Nat)) (k o : Nat) (vs : List Value) {r : List Value × Nat} (hlow : σ.low ≤ σ.n) (h : L[k]? = some r) (hl : o + vs.length ≤ r.1.length) (hc : vs.all isCell = true) :
    (σ.grow L).storeN (σ.n + k) o vs = some (σ.grow (L.set k (setAll r.1 o vs, r.2))) := by
  have hk : k < L.length := (List.getElem?_eq_some_iff.1 h).1
  unfold AHeap.storeN
  rw [grow_new σ L k h]
  simp only [rowOf, AHeap.alive, Bool.true_and]
  rw [if_pos (by rw [Nat.ble_eq_true_of_le hl, hc]; rfl)]
  unfold AHeap.wrote
  rw [Tr.of_put vs r.1 o hl]
  have := Tr.put_ins (rowOf (setAll r.1 o vs, r.2)) (L.map rowOf) σ.t σ.n k (by simpa using hk)
  simp only [rowOf, setAll_length] at this
  have e2 : lowOf none (σ.grow L).low (σ.n + k) = σ.low := by
    show minN σ.low (σ.n + k) = _
    unfold minN
    rw [if_pos (Nat.ble_eq_true_of_le (by omega))]
  rw [e2]
  show some (AHeap.mk ((σ.t.put σ.n (L.map rowOf)).ins (σ.n + k) _) _ _ _ _) = _
  rw [this]
  simp only [AHeap.grow, kill, List.length_set]
  rw [List.map_set]
  simp only [rowOf, setAll_length]
theorem store_new0 (σ : AHeap) (L : List (List Value × Nat)) (o : Nat) (vs : List Value) {r : List Value × Nat} (hlow : σ.low ≤ σ.n) (h : L[0]? = some r) (hl : o + vs.length ≤ r.1.length) (hc : vs.all isCell = true) :
    (σ.grow L).storeN σ.n o vs = some (σ.grow (L.set 0 (setAll r.1 o vs, r.2))) := store_new σ L 0 o vs hlow h hl hc

/- ---- temporaries ---- -/
theorem tget_of (l : List Value) (j : Nat) : tget (Tr.of l) j = l[j]?.getD undef := by
  unfold tget
  rw [Tr.get_of]
  cases l[j]? <;> rfl

/- ---- runs ---- -/
def Ends (x : Option (AEx × Tmps × AHeap)) (Q : AEx → Tmps → AHeap → Prop) : Prop := match x with | some p => Q p.1 p.2.1 p.2.2 | none => False
def EndsR (x : Option (Tmps × AHeap)) (Q : Tmps → AHeap → Prop) : Prop := match x with | some p => Q p.1 p.2 | none => False
def EndsO (x : Option (Value × AHeap)) (Q : Value → AHeap → Prop) : Prop := match x with | some p => Q p.1 p.2 | none => False
theorem Zt (v : Value) (σ : AHeap) (Q : Value → AHeap → Prop) : EndsO (some (v, σ)) Q = Q v σ := rfl
theorem Ends.mono {x : Option (AEx × Tmps × AHeap)} {Q R : AEx → Tmps → AHeap → Prop} (h : Ends x Q) (hi : ∀ e t σ, Q e t σ → R e t σ) : Ends x R := by
  cases x with
  | none => exact h
  | some p => exact hi _ _ _ h
def seqQ (call : CallF) (fuel : Nat) (b : ACode) (Q : AEx → Tmps → AHeap → Prop) : AEx → Tmps → AHeap → Prop
  | .normal, t, σ => Ends (acode call fuel b t σ) Q
  | .exit i, t, σ => Q (.exit i) t σ
  | .ret, t, σ => Q .ret t σ
def blockQ (id : Nat) (Q : AEx → Tmps → AHeap → Prop) : AEx → Tmps → AHeap → Prop
  | .normal, t, σ => Q .normal t σ
  | .exit i, t, σ => if i = id then Q .normal t σ else Q (.exit i) t σ
  | .ret, t, σ => Q .ret t σ
section
variable {call : CallF} {fuel : Nat} {t : Tmps} {σ : AHeap} {Q : AEx → Tmps → AHeap → Prop}
theorem Zc : Ends (acode call fuel .skip t σ) Q = Q .normal t σ := rfl
theorem Zd : Ends (acode call fuel .ret t σ) Q = Q .ret t σ := rfl
theorem Ze {i : Nat} : Ends (acode call fuel (.exit i) t σ) Q = Q (.exit i) t σ := rfl
theorem Za {a b : ACode} : Ends (acode call fuel (.seq a b) t σ) Q = Ends (acode call fuel a t σ) (seqQ call fuel b Q) := by
  simp only [acode]
  cases acode call fuel a t σ with
  | none => rfl
  | some p => obtain ⟨e, t', σ'⟩ := p; cases e <;> rfl
theorem Zf {i : Nat} {a : ACode} : Ends (acode call fuel (.block i a) t σ) Q = Ends (acode call fuel a t σ) (blockQ i Q) := by
  simp only [acode]
  cases acode call fuel a t σ with
  | none => rfl
  | some p =>
    obtain ⟨e, t', σ'⟩ := p
    cases e with
    | exit j =>
      by_cases h : j = i
      · subst h; simp [Ends, blockQ]
      · simp [Ends, blockQ, h, nbeq h]
    | _ => rfl
theorem Zb {ops : List AOper} : Ends (acode call fuel (.reg ops) t σ) Q = EndsR (runOps call ops t σ) (Q .normal) := by
  simp only [acode]
  cases runOps call ops t σ <;> rfl
theorem ends_cond {c : Operand} {a b : ACode} (r : Bool) (h : ev t c = .bool r) : Ends (acode call fuel (.cond c a b) t σ) Q = if r then Ends (acode call fuel a t σ) Q else Ends (acode call fuel b t σ) Q := by
  simp only [acode, h]
  cases r <;> rfl
theorem ends_cond_t {c : Operand} {a b : ACode} (h : ev t c = .bool true) : Ends (acode call fuel (.cond c a b) t σ) Q = Ends (acode call fuel a t σ) Q := by simp only [acode, h]
theorem ends_cond_f {c : Operand} {a b : ACode} (h : ev t c = .bool false) : Ends (acode call fuel (.cond c a b) t σ) Q = Ends (acode call fuel b t σ) Q := by simp only [acode, h]
theorem Zh {b : ACode} : seqQ call fuel b Q .normal t σ = Ends (acode call fuel b t σ) Q := rfl
theorem Zi {b : ACode} {i : Nat} : seqQ call fuel b Q (.exit i) t σ = Q (.exit i) t σ := rfl
theorem Zj {b : ACode} : seqQ call fuel b Q .ret t σ = Q .ret t σ := rfl
theorem Zk {i : Nat} : blockQ i Q .normal t σ = Q .normal t σ := rfl
theorem Zl {i j : Nat} : blockQ i Q (.exit j) t σ = if j = i then Q .normal t σ else Q (.exit j) t σ := rfl
theorem Zm {i : Nat} : blockQ i Q .ret t σ = Q .ret t σ := rfl
end
theorem Zn {call : CallF} {t : Tmps} {σ : AHeap} {Q : Tmps → AHeap → Prop} : EndsR (runOps call [] t σ) Q = Q t σ := rfl
theorem run_one {call : CallF} {t : Tmps} {σ : AHeap} {Q : Tmps → AHeap → Prop} {d : Option Nat} {op : AOp} {os : List AOper} :
    EndsR (runOps call (.mk d none op :: os) t σ) Q = EndsO (aoper call op t σ) fun v σ' => EndsR (runOps call os (setD t d v) σ') Q := by
  simp only [runOps, wants, if_true]
  cases aoper call op t σ <;> rfl
theorem run_yes {call : CallF} {t : Tmps} {σ : AHeap} {Q : Tmps → AHeap → Prop} {d : Option Nat} {j : Nat} {w : Bool} {op : AOp} {os : List AOper} (h : tget t j = .bool w) :
    EndsR (runOps call (.mk d (some (j, w)) op :: os) t σ) Q = EndsO (aoper call op t σ) fun v σ' => EndsR (runOps call os (setD t d v) σ') Q := by
  simp only [runOps, wants, h, beq_self_eq_true, if_true]
  cases aoper call op t σ <;> rfl
theorem run_no {call : CallF} {t : Tmps} {σ : AHeap} {Q : Tmps → AHeap → Prop} {d : Option Nat} {j : Nat} {w : Bool} {op : AOp} {os : List AOper} (h : tget t j = .bool (!w)) :
    EndsR (runOps call (.mk d (some (j, w)) op :: os) t σ) Q = EndsR (runOps call os (setD t d undef) σ) Q := by
  simp only [runOps, wants, h]
  cases w <;> rfl
theorem run_non {call : CallF} {t : Tmps} {σ : AHeap} {Q : Tmps → AHeap → Prop} {d : Option Nat} {j : Nat} {w : Bool} {op : AOp} {os : List AOper} (h : tget t j = undef) :
    EndsR (runOps call (.mk d (some (j, w)) op :: os) t σ) Q = EndsR (runOps call os (setD t d undef) σ) Q := by
  simp only [runOps, wants, h, undef]
  rfl

/- loops -/
theorem iter_inv {body : Tmps → AHeap → Option (AEx × Tmps × AHeap)} {Q : AEx → Tmps → AHeap → Prop} (I : Nat → Tmps → AHeap → Prop) (n : Nat)
    (hstep : ∀ i t σ, i ≤ n → I i t σ → Ends (body t σ) fun e t' σ' => match e with | .normal => i < n ∧ I (i + 1) t' σ' | e => Q e t' σ') :
    ∀ (f i : Nat) (t : Tmps) (σ : AHeap), i ≤ n → n < i + f → I i t σ → Ends (iter body f t σ) Q := by
  intro f
  induction f with
  | zero => intro i t σ h1 h2 _; omega
  | succ f ih =>
    intro i t σ h1 h2 hI
    have hs := hstep i t σ h1 hI
    simp only [iter]
    cases hb : body t σ with
    | none => rw [hb] at hs; exact hs
    | some p =>
      obtain ⟨e, t', σ'⟩ := p
      rw [hb] at hs
      cases e with
      | normal => obtain ⟨h3, h4⟩ := hs; exact ih (i + 1) t' σ' (by omega) (by omega) h4
      | _ => exact hs
def loopQ (n i : Nat) (I : Nat → Tmps → AHeap → Prop) (Q : AEx → Tmps → AHeap → Prop) : AEx → Tmps → AHeap → Prop
  | .normal, t, σ => i < n ∧ I (i + 1) t σ
  | .exit j, t, σ => Q (.exit j) t σ
  | .ret, t, σ => Q .ret t σ
theorem ends_loop {call : CallF} {fuel : Nat} {t : Tmps} {σ : AHeap} {Q : AEx → Tmps → AHeap → Prop} {a : ACode} (I : Nat → Tmps → AHeap → Prop) (n : Nat) (hn : n < fuel) (h0 : I 0 t σ)
    (hstep : ∀ i t σ, i ≤ n → I i t σ → Ends (acode call fuel a t σ) (loopQ n i I Q)) : Ends (acode call fuel (.loop a) t σ) Q := by
  simp only [acode]
  refine iter_inv I n (fun i t σ hi hI => (hstep i t σ hi hI).mono fun e t' σ' h => ?_) fuel 0 t σ (Nat.zero_le _) (by omega) h0
  cases e <;> exact h
theorem Zp {n i : Nat} {I : Nat → Tmps → AHeap → Prop} {Q : AEx → Tmps → AHeap → Prop} {t : Tmps} {σ : AHeap} : loopQ n i I Q .normal t σ = (i < n ∧ I (i + 1) t σ) := rfl
theorem Zq {n i j : Nat} {I : Nat → Tmps → AHeap → Prop} {Q : AEx → Tmps → AHeap → Prop} {t : Tmps} {σ : AHeap} : loopQ n i I Q (.exit j) t σ = Q (.exit j) t σ := rfl
theorem Zr {n i : Nat} {I : Nat → Tmps → AHeap → Prop} {Q : AEx → Tmps → AHeap → Prop} {t : Tmps} {σ : AHeap} : loopQ n i I Q .ret t σ = Q .ret t σ := rfl

/- calls: a result without an address, nothing changed -/
def finQ (m : Nat) (res : List ARes) (r : Value) : AEx → Tmps → AHeap → Prop
  | .exit _, _, _ => False
  | _, t, σ => (match resAll t σ res with | some vs => one vs = r | none => False) ∧ σ.low = m
theorem Zs {m : Nat} {res : List ARes} {r : Value} {t : Tmps} {σ : AHeap} : finQ m res r .ret t σ = ((match resAll t σ res with | some vs => one vs = r | none => False) ∧ σ.low = m) := rfl
theorem finQ_normal {m : Nat} {res : List ARes} {r : Value} {t : Tmps} {σ : AHeap} : finQ m res r .normal t σ = ((match resAll t σ res with | some vs => one vs = r | none => False) ∧ σ.low = m) := rfl
def AHeap.fresh (σ : AHeap) : AHeap := { σ with low := σ.n }
theorem acall_flat {E : FuncId → Option AFn} {fuel d : Nat} {f : FuncId} {N : Nat} {res : List ARes} {c : ACode} {args : List Value} {σ : AHeap} {r : Value} (hE : E f = some ⟨N, res, c⟩) (hl : args.length ≤ N) (hr : flat r = true)
    (h : Ends (acode (acall E fuel d) fuel c (Tr.of args) (σ.fresh.grow [])) (finQ σ.n res r)) : acall E fuel (d + 1) f args σ = some (r, σ) := by
  rw [grow_nil] at h
  simp only [acall, hE]
  rw [if_pos (Nat.ble_eq_true_of_le hl)]
  unfold AHeap.fresh at h
  cases hx : acode (acall E fuel d) fuel c (Tr.of args) { σ with low := σ.n } with
  | none => rw [hx] at h; exact h.elim
  | some p =>
    obtain ⟨e, t, τ⟩ := p
    rw [hx] at h
    cases e with
    | exit i => exact h.elim
    | normal =>
      obtain ⟨h1, h2⟩ := h
      simp only at h1 h2 ⊢
      cases hv : resAll t τ res with
      | none => rw [hv] at h1; exact h1.elim
      | some vs => rw [hv] at h1; simp only at h1 ⊢; simp [h1, hr, h2]
    | ret =>
      obtain ⟨h1, h2⟩ := h
      simp only at h1 h2 ⊢
      cases hv : resAll t τ res with
      | none => rw [hv] at h1; exact h1.elim
      | some vs => rw [hv] at h1; simp only at h1 ⊢; simp [h1, hr, h2]
end Go.Hai
