/-
  The abstract interpreter in its quick form: the operations. No proof of the program stands here.
-/
import Derived.Test.YtphbidcbepnihaaH21
namespace Go.Hai
open Go

section
def bnd (x : Option (Value × AHeap)) (k : Value → AHeap → A) : A := match x with | some p => k p.1 p.2 | none => none
def val (x : Option Value) (σ : AHeap) (k : Value → AHeap → A) : A := match x with | some v => k v σ | none => none
abbrev CallK := FuncId → List Value → AHeap → (Value → AHeap → A) → A
abbrev OpK := CallK → Tmps → AHeap → (Value → AHeap → A) → A

/- ---- the heap ---- -/
noncomputable def rowK (σ : AHeap) (b : Nat) (k : Tr Value → Nat → Nat → Bool → Bool → Option (Nat × Nat) → A) : A :=
  AHeap.rec (fun ht _ _ _ _ => getKO b ht none (fun ob => AObj.rec (fun cs len es top rw fam => k cs len es top rw fam) (fun _ => none) ob)) σ
theorem rowK_eq (σ : AHeap) (b : Nat) (k : Tr Value → Nat → Nat → Bool → Bool → Option (Nat × Nat) → A) :
    rowK σ b k = match σ.t.get b with | some (.row cs len es top rw fam) => k cs len es top rw fam | _ => none := by
  cases σ with
  | mk ht n nf dead low =>
    show getKO b ht none (fun ob => AObj.rec (fun cs len es top rw fam => k cs len es top rw fam) (fun _ => none) ob) = _
    rw [getKO_eq]
    cases ht.get b with
    | none => rfl
    | some o => cases o <;> rfl
noncomputable def aliveK (σ : AHeap) (fam : Option (Nat × Nat)) (y : A) : A := Option.rec y (fun p => Bool.rec none y (σ.alive (some p))) fam
theorem aliveK_eq (σ : AHeap) (fam : Option (Nat × Nat)) (y : A) : aliveK σ fam y = if σ.alive fam then y else none := by
  cases fam with
  | none => rfl
  | some p =>
    show (Bool.rec none y (σ.alive (some p)) : A) = _
    cases σ.alive (some p) <;> rfl
noncomputable def takeK (cs : Tr Value) (n : Nat) : Nat → (List Value → A) → A :=
  Nat.rec (fun _ k => k []) (fun _ ih o k => getKV o cs none fun v => ih (Nat.succ o) fun l => k (v :: l)) n
theorem takeK_eq (cs : Tr Value) : ∀ (n o : Nat) (k : List Value → A), takeK cs n o k = match cellsFrom cs o n with | some l => k l | none => none := by
  intro n
  induction n with
  | zero => intro o k; rfl
  | succ n ih =>
    intro o k
    show getKV o cs none (fun v => takeK cs n (Nat.succ o) fun l => k (v :: l)) = _
    rw [getKV_eq]
    simp only [cellsFrom]
    cases cs.get o with
    | none => rfl
    | some v =>
      show takeK cs n (o + 1) _ = _
      rw [ih]
      simp only
      cases cellsFrom cs (o + 1) n <;> rfl
noncomputable def loadK (σ : AHeap) (b o n : Nat) (k : List Value → A) : A :=
  rowK σ b fun cs len _ _ _ fam => aliveK σ fam (Bool.rec none (takeK cs n o k) (Nat.ble (Nat.add o n) len))
theorem loadK_eq (σ : AHeap) (b o n : Nat) (k : List Value → A) : loadK σ b o n k = match σ.loadN b o n with | some l => k l | none => none := by
  unfold loadK AHeap.loadN AHeap.row?
  rw [rowK_eq]
  cases hg : σ.t.get b with
  | none => rfl
  | some ob => cases ob with
    | obj _ => rfl
    | row cs len es top rw fam =>
      simp only [aliveK_eq, takeK_eq]
      cases σ.alive fam with
      | false => rfl
      | true =>
        show (Bool.rec none _ (Nat.ble (o + n) len) : A) = _
        simp only [if_true]
        cases Nat.ble (o + n) len <;> rfl
noncomputable def minK (a b : Nat) (k : Nat → A) : A := Bool.rec (k b) (k a) (Nat.ble a b)
theorem minK_eq (a b : Nat) (k : Nat → A) : minK a b k = k (minN a b) := by unfold minK minN; cases Nat.ble a b <;> rfl
noncomputable def lowK (fam : Option (Nat × Nat)) (low b : Nat) (k : Nat → A) : A := Option.rec (minK low b k) (fun p => minK low b fun l => minK l p.2 k) fam
theorem lowK_eq (fam : Option (Nat × Nat)) (low b : Nat) (k : Nat → A) : lowK fam low b k = k (lowOf fam low b) := by
  cases fam with
  | none => exact minK_eq _ _ _
  | some p => show minK low b (fun l => minK l p.2 k) = _; rw [minK_eq, minK_eq]; rfl
noncomputable def killK (fam : Option (Nat × Nat)) (dead : List (Nat × Nat)) (k : List (Nat × Nat) → A) : A := Option.rec (k dead) (fun p => k (p :: dead)) fam
theorem killK_eq (fam : Option (Nat × Nat)) (dead : List (Nat × Nat)) (k : List (Nat × Nat) → A) : killK fam dead k = k (kill fam dead) := by cases fam <;> rfl
noncomputable def storeK (σ : AHeap) (b o n : Nat) (vs : List Value) (k : AHeap → A) : A :=
  rowK σ b fun cs len es top rw fam => Bool.rec none (aliveK σ fam (Bool.rec none (cellsB vs
    (putKV vs cs o fun cs' => AHeap.rec (fun ht n nf dead low => insKO ht b (.row cs' len es top true none) fun ht' => lowK fam low b fun low' => killK fam dead fun dead' => k ⟨ht', n, nf, dead', low'⟩) σ))
    (Nat.ble (Nat.add o n) len))) rw
theorem storeK_eq (σ : AHeap) (b o : Nat) (vs : List Value) (k : AHeap → A) : storeK σ b o vs.length vs k = match σ.storeN b o vs with | some σ' => k σ' | none => none := by
  unfold storeK AHeap.storeN
  rw [rowK_eq]
  cases hg : σ.t.get b with
  | none => rfl
  | some ob => cases ob with
    | obj _ => rfl
    | row cs len es top rw fam =>
      cases rw with
      | false => rfl
      | true =>
        simp only [aliveK_eq, cellsB_eq, putKV_eq]
        cases σ.alive fam with
        | false => rfl
        | true =>
          show (Bool.rec none _ (Nat.ble (o + vs.length) len) : A) = _
          cases Nat.ble (o + vs.length) len with
          | false => rfl
          | true =>
            cases vs.all isCell with
            | false => rfl
            | true =>
              cases σ with
              | mk ht n nf dead low =>
                show insKO ht b (.row (cs.put o vs) len es top true none) (fun ht' => lowK fam low b fun low' => killK fam dead fun dead' => k ⟨ht', n, nf, dead', low'⟩) = _
                rw [insKO_eq, lowK_eq, killK_eq]; rfl

/- ---- numbers ---- -/
noncomputable def slowB (op : BinOp) (a : IntKind) (m : Int) (b : IntKind) (n : Int) (k : Value → A) : A := match abin op (.int a m) (.int b n) with | some v => k v | none => none
noncomputable def same (a b : IntKind) (x : A) : A := Bool.rec none x (kindB a b)
theorem same_eq (a b : IntKind) (x : A) : same a b x = if a = b then x else none := by
  unfold same; rw [kindB_eq]
  by_cases h : a = b
  · simp [h]
  · simp [h]
noncomputable def bAdd (a : IntKind) (m : Int) (b : IntKind) (n : Int) (k : Value → A) : A := same a b (addK m n fun z => wrapK a z fun z => k (.int a z))
noncomputable def bSub (a : IntKind) (m : Int) (b : IntKind) (n : Int) (k : Value → A) : A := same a b (subK m n fun z => wrapK a z fun z => k (.int a z))
noncomputable def bMul (a : IntKind) (m : Int) (b : IntKind) (n : Int) (k : Value → A) : A := same a b (mulK m n fun z => wrapK a z fun z => k (.int a z))
noncomputable def bEql (a : IntKind) (m : Int) (b : IntKind) (n : Int) (k : Value → A) : A := same a b (eqI m n (k (.bool false)) (k (.bool true)))
noncomputable def bNeq (a : IntKind) (m : Int) (b : IntKind) (n : Int) (k : Value → A) : A := same a b (eqI m n (k (.bool true)) (k (.bool false)))
noncomputable def bLss (a : IntKind) (m : Int) (b : IntKind) (n : Int) (k : Value → A) : A := same a b (ltI m n (k (.bool false)) (k (.bool true)))
noncomputable def bLeq (a : IntKind) (m : Int) (b : IntKind) (n : Int) (k : Value → A) : A := same a b (ltI n m (k (.bool true)) (k (.bool false)))
noncomputable def bGtr (a : IntKind) (m : Int) (b : IntKind) (n : Int) (k : Value → A) : A := same a b (ltI n m (k (.bool false)) (k (.bool true)))
noncomputable def bGeq (a : IntKind) (m : Int) (b : IntKind) (n : Int) (k : Value → A) : A := same a b (ltI m n (k (.bool true)) (k (.bool false)))
noncomputable def binI (op : BinOp) : IntKind → Int → IntKind → Int → (Value → A) → A :=
  BinOp.rec bAdd bSub bMul (slowB .quo) (slowB .rem) (slowB .and) (slowB .or) (slowB .xor) (slowB .shl) (slowB .shr) (slowB .andNot) bEql bNeq bLss bLeq bGtr bGeq op
theorem binI_eq (op : BinOp) (a : IntKind) (m : Int) (b : IntKind) (n : Int) (k : Value → A) : binI op a m b n k = match abin op (.int a m) (.int b n) with | some v => k v | none => none := by
  have hn : ∀ (x : Bool) (f : Value → A), (Bool.rec (f (.bool true)) (f (.bool false)) x : A) = f (.bool !x) := fun x f => by cases x <;> rfl
  have hp : ∀ (x : Bool) (f : Value → A), (Bool.rec (f (.bool false)) (f (.bool true)) x : A) = f (.bool x) := fun x f => by cases x <;> rfl
  cases op with
  | add => show bAdd a m b n k = _; unfold bAdd; rw [same_eq]; simp only [addK_eq, wrapK_eq, abin]; split <;> rfl
  | sub => show bSub a m b n k = _; unfold bSub; rw [same_eq]; simp only [subK_eq, wrapK_eq, abin]; split <;> rfl
  | mul => show bMul a m b n k = _; unfold bMul; rw [same_eq]; simp only [mulK_eq, wrapK_eq, abin]; split <;> rfl
  | eql => show bEql a m b n k = _; unfold bEql; rw [same_eq, eqI_eq, hp]; simp only [abin]; split <;> rfl
  | neq => show bNeq a m b n k = _; unfold bNeq; rw [same_eq, eqI_eq, hn]; simp only [abin]; split <;> rfl
  | lss => show bLss a m b n k = _; unfold bLss; rw [same_eq, ltI_eq, hp]; simp only [abin]; split <;> rfl
  | gtr => show bGtr a m b n k = _; unfold bGtr; rw [same_eq, ltI_eq, hp]; simp only [abin, gt_iff_lt]; split <;> rfl
  | leq =>
    show bLeq a m b n k = _; unfold bLeq; rw [same_eq, ltI_eq, hn]; simp only [abin]
    have : (!decide (n < m)) = decide (m ≤ n) := by by_cases h : n < m <;> simp [h] <;> omega
    rw [this]; split <;> rfl
  | geq =>
    show bGeq a m b n k = _; unfold bGeq; rw [same_eq, ltI_eq, hn]; simp only [abin]
    have : (!decide (m < n)) = decide (m ≥ n) := by by_cases h : m < n <;> simp [h] <;> omega
    rw [this]; split <;> rfl
  | _ => rfl
noncomputable def symB (op : BinOp) (y : Value) (k : Value → A) : A := Bool.casesOn (isZero y) none (match op with | .eql => k (.bool false) | .neq => k (.bool true) | _ => none)
noncomputable def binK (op : BinOp) (x y : Value) (k : Value → A) : A := match x with
  | .int a m => intK y none fun b n => binI op a m b n k
  | .chan (some _) => symB op y k
  | x => match abin op x y with | some v => k v | none => none
theorem binK_eq (op : BinOp) (x y : Value) (k : Value → A) : binK op x y k = match abinA op x y with | some v => k v | none => none := by
  unfold binK
  cases x with
  | int a m => cases y with
    | int b n => exact binI_eq op a m b n k
    | _ => rfl
  | chan c => cases c with
    | none => rfl
    | some i =>
      simp only [abinA, symB]
      cases isZero y with
      | false => rfl
      | true => cases op <;> rfl
  | _ => rfl

/- ---- comparing, building ---- -/
noncomputable def scal0 (a b : Value) (no yes : A) : A := match a with
  | .int ka m => (match b with | .int kb n => same ka kb (eqI m n no yes) | .chan (some _) => Bool.casesOn (isZero (.int ka m)) none no | _ => none)
  | .chan (some i) => (match b with | .chan (some j) => Bool.casesOn (Nat.beq i j) none yes | b => Bool.casesOn (isZero b) none no)
  | _ => none
noncomputable def scalK (k : Nat) (a b : Value) (no yes : A) : A :=
  Nat.rec (scal0 a b no yes)
    (fun k _ => Nat.rec (boolK a none (boolK b none yes no) (boolK b none no yes)) (fun k _ => match eqScal (Nat.succ (Nat.succ k)) a b with | some r => Bool.rec no yes r | none => none) k) k
theorem scalK_eq (k : Nat) (a b : Value) (no yes : A) : scalK k a b no yes = match eqScalA k a b with | some r => Bool.rec no yes r | none => none := by
  cases k with
  | zero =>
    show scal0 a b no yes = _
    cases a with
    | int ka m => cases b with
      | int kb n =>
        simp only [scal0, same_eq, eqI_eq, eqScalA, eqScal]
        split <;> rfl
      | chan y => cases y with
        | none => simp [scal0, eqScalA, eqScal]
        | some j => simp only [scal0, eqScalA]; cases isZero (.int ka m) <;> rfl
      | _ => simp [scal0, eqScalA, eqScal]
    | chan x => cases x with
      | none => cases b with
        | chan y => cases y <;> rfl
        | _ => rfl
      | some i => cases b with
        | chan y => cases y with
          | none => rfl
          | some j => simp only [scal0, eqScalA]; cases Nat.beq i j <;> rfl
        | int kb n => simp only [scal0, eqScalA]; cases isZero (.int kb n) <;> rfl
        | _ => rfl
    | _ => cases b with
      | chan y => cases y <;> rfl
      | _ => rfl
  | succ k =>
    cases k with
    | zero =>
      show boolK a none (boolK b none yes no) (boolK b none no yes) = _
      cases a with
      | bool x => cases b with
        | bool y => cases x <;> cases y <;> rfl
        | _ => cases x <;> rfl
      | _ => rfl
    | succ k => rfl
noncomputable def eqLsK (xs ys : List Value) (ls : List (Nat × Nat)) (f t : A) : Bool → A :=
  List.rec (fun acc => Bool.rec f t acc) (fun p _ ih acc => nthK xs p.1 fun a => nthK ys p.1 fun b => scalK p.2 a b (ih false) (ih acc)) ls
theorem eqLsK_eq (xs ys : List Value) (f t : A) : ∀ (ls : List (Nat × Nat)) (acc : Bool), eqLsK xs ys ls f t acc = match eqLsA xs ys ls with | some r => Bool.rec f t (acc && r) | none => none := by
  intro ls
  induction ls with
  | nil => intro acc; cases acc <;> rfl
  | cons p ls ih =>
    intro acc
    obtain ⟨i, k⟩ := p
    show nthK xs i (fun a => nthK ys i fun b => scalK k a b (eqLsK xs ys ls f t false) (eqLsK xs ys ls f t acc)) = _
    simp only [nthK_eq, scalK_eq, ih, eqLsA]
    cases xs[i]? with
    | none => rfl
    | some a => cases ys[i]? with
      | none => rfl
      | some b =>
        simp only
        cases eqScalA k a b with
        | none => rfl
        | some r =>
          simp only
          cases eqLsA xs ys ls with
          | none => cases r <;> rfl
          | some q => cases r <;> cases acc <;> cases q <;> rfl
noncomputable def overK (vs : List Value) : List Value → (List Value → A) → A :=
  List.rec (fun l k => k l) (fun v _ ih l k => List.rec none (fun _ tl _ => ih tl fun r => k (v :: r)) l) vs
noncomputable def walkK (vs : List Value) (o : Nat) : List Value → (List Value → A) → A :=
  Nat.rec (fun l k => overK vs l k) (fun _ ih l k => List.rec none (fun x tl _ => ih tl fun r => k (x :: r)) l) o
theorem overK_eq : ∀ (vs l : List Value) (k : List Value → A), overK vs l k = if vs.length ≤ l.length then k (vs ++ l.drop vs.length) else none := by
  intro vs
  induction vs with
  | nil => intro l k; simp; rfl
  | cons v vs ih =>
    intro l k
    cases l with
    | nil => rfl
    | cons x l =>
      show overK vs l (fun r => k (v :: r)) = _
      rw [ih]
      simp
theorem walkK_eq (vs : List Value) : ∀ (o : Nat) (l : List Value) (k : List Value → A), walkK vs o l k = if Nat.ble (o + vs.length) l.length then k (putAt l o vs) else none := by
  intro o
  induction o with
  | zero =>
    intro l k
    show overK vs l k = _
    rw [overK_eq, ble_eq]
    simp [putAt]
  | succ o ih =>
    intro l k
    cases l with
    | nil => rw [ble_eq, decide_eq_false (by simp only [List.length_nil]; omega)]; rfl
    | cons x l =>
      show walkK vs o l (fun r => k (x :: r)) = _
      rw [ih, ble_eq, ble_eq]
      have e : (decide (o + 1 + vs.length ≤ (x :: l).length)) = decide (o + vs.length ≤ l.length) := by congr 1; simp only [List.length_cons, eq_iff_iff]; omega
      rw [e]
      have e2 : putAt (x :: l) (o + 1) vs = x :: putAt l o vs := by
        simp only [putAt, List.take_succ_cons, List.cons_append]
        rw [show o + 1 + vs.length = (o + vs.length) + 1 from by omega, List.drop_succ_cons]
      rw [e2]
noncomputable def fillK (t : Tmps) (ps : List (Nat × Nat × Operand)) : List Value → (List Value → A) → A :=
  List.rec (fun z k => k z) (fun p _ ih z k => evK t p.2.2 fun v => cellsK v fun vs => hasLen vs p.2.1 (walkK vs p.1 z fun z' => ih z' k)) ps
theorem fillK_eq (t : Tmps) : ∀ (ps : List (Nat × Nat × Operand)) (z : List Value) (k : List Value → A), fillK t ps z k = match fillL t z ps with | some cs => k cs | none => none := by
  intro ps
  induction ps with
  | nil => intro z k; rfl
  | cons p ps ih =>
    intro z k
    obtain ⟨o, n, x⟩ := p
    show evK t x (fun v => cellsK v fun vs => hasLen vs n (walkK vs o z fun z' => fillK t ps z' k)) = _
    simp only [evK_eq, cellsK_eq, hasLen_eq, walkK_eq, ih, fillL]
    cases hn : Nat.beq (ev t x).cells.toList.length n with
    | false => rfl
    | true =>
      have := Nat.eq_of_beq_eq_true hn
      subst this
      simp only [if_true, Bool.true_and]
      split <;> rfl

/- ---- the operations ---- -/
noncomputable def oMv (x : Operand) : OpK := fun _ t σ k => evK t x fun v => k v σ
noncomputable def oPick (c a b : Operand) : OpK := fun _ t σ k => evK t c fun r => boolK r none (evK t b fun v => k v σ) (evK t a fun v => k v σ)
noncomputable def pushK (σ : AHeap) (o : AObj) (k : Value → AHeap → A) (f : Nat → Value) : A :=
  AHeap.rec (fun ht n nf dead low => insKO ht n o fun ht' => k (f n) ⟨ht', Nat.succ n, nf, dead, low⟩) σ
theorem pushK_eq (σ : AHeap) (o : AObj) (k : Value → AHeap → A) (f : Nat → Value) : pushK σ o k f = k (f σ.n) (σ.push o) := by
  cases σ with
  | mk ht n nf dead low => show insKO ht n o _ = _; rw [insKO_eq]; rfl
noncomputable def rowNew (σ : AHeap) (vs : List Value) (es : Nat) (k : Value → AHeap → A) (f : Nat → Value) : A :=
  putKV vs .tip 0 fun cs => pushK σ (.row cs (lenF vs) es true true none) k f
theorem rowNew_eq (σ : AHeap) (vs : List Value) (es : Nat) (k : Value → AHeap → A) (f : Nat → Value) : rowNew σ vs es k f = k (f σ.n) (σ.newRow vs es) := by
  unfold rowNew; rw [putKV_eq, pushK_eq, lenF_eq]; rfl
noncomputable def oAlloc (z : List Value) (es : Nat) : OpK := fun _ _ σ k => rowNew σ z es k fun n => .pointer (some ⟨n, 0, none⟩)
noncomputable def oBox (es : Nat) (x : Operand) : OpK := fun _ t σ k => evK t x fun v => cellsK v fun vs => cellsB vs (rowNew σ vs es k fun n => .pointer (some ⟨n, 0, none⟩))
noncomputable def oBuild (z : List Value) (ps : List (Nat × Nat × Operand)) : OpK := fun _ t σ k => fillK t ps z fun cs => k (.agg cs.toArray) σ
noncomputable def oBuildSl (z : List Value) (sz len : Nat) (ps : List (Nat × Nat × Operand)) : OpK := fun _ t σ k => fillK t ps z fun cs => cellsB cs (rowNew σ cs sz k fun n => .slice (some ⟨n, 0, none⟩) len (if Nat.beq len 0 then 0 else 1))
noncomputable def oneK (l : List Value) (k : Value → A) : A := List.rec none (fun v tl _ => List.rec (k v) (fun _ _ _ => none) tl) l
noncomputable def oLoad (g : Bool) (n : Nat) (x : Operand) : OpK := fun _ t σ k => evK t x fun v => ptrK v none fun b o => loadK σ b o n fun vs => Bool.rec (oneK vs fun v => k v σ) (k (.agg vs.toArray) σ) g
noncomputable def oStore (n : Nat) (a x : Operand) : OpK := fun _ t σ k => evK t a fun v => ptrK v none fun b o => evK t x fun u => cellsK u fun vs => hasLen vs n (storeK σ b o n vs fun σ' => k undef σ')
noncomputable def oNil (x : Operand) : OpK := fun _ t σ k => evK t x fun v => match v with | .pointer (some a) => k (.pointer (some a)) σ | _ => none
noncomputable def oBin (op : BinOp) (x y : Operand) : OpK := fun _ t σ k => evK t x fun a => evK t y fun b => binK op a b fun v => k v σ
noncomputable def oEqS (neg : Bool) (ls : List (Nat × Nat)) (x y : Operand) : OpK := fun _ t σ k => evK t x fun a => evK t y fun b => aggK a none fun xs => aggK b none fun ys =>
  eqLsK xs ys ls (boolV neg fun v => k v σ) (boolV (!neg) fun v => k v σ) true
noncomputable def oUn (op : UnOp) (x : Operand) : OpK := fun _ t σ k => evK t x fun v => match op, v with
    | .not, .bool b => boolV (!b) fun v => k v σ
    | op, v => val (aun op v) σ k
noncomputable def oConv (kd : IntKind) (x : Operand) : OpK := fun _ t σ k => evK t x fun v => intK v none fun _ z => wrapK kd z fun z => k (.int kd z) σ
noncomputable def oFn (f : FuncId) (first cap : List Operand) : OpK := fun _ t σ k => evsK t first fun a => evsK t cap fun b => k (.func (.func f) a.toArray b.toArray) σ
noncomputable def oMap : OpK := fun _ _ σ k => k (.map (some σ.n)) (σ.push (.obj (.map #[] 0)))
noncomputable def oMkSl (z : List Value) (bytes : Nat) (l c : Operand) : OpK := fun _ t σ k => bnd (match ev t l, ev t c with
    | .int .i64 a, .int .i64 b =>
      if 0 ≤ a ∧ a ≤ b ∧ b * bytes ≤ 140737488355328 ∧ b ≤ 140737488355328 then
        some (.slice (some ⟨σ.n, 0, none⟩) a.toNat (if b = 0 then 0 else 1), σ.newRow (List.replicate a.toNat z).flatten z.length)
      else none
    | _, _ => none) k
noncomputable def oSlS (sz : Nat) (x : Operand) (lo hi mx : Option Operand) : OpK := fun _ t σ k => val (sliceOp σ sz (ev t x) (lo.map (ev t)) (hi.map (ev t)) (mx.map (ev t))) σ k
noncomputable def oSlStr (x : Operand) (lo hi : Option Operand) : OpK := fun _ t σ k => bnd (match ev t x with
    | .string s => (match bound (hi.map (ev t)) s.size s.size with
      | some h => (match bound (lo.map (ev t)) 0 h with | some k => some (.string (s.extract k h), σ) | none => none)
      | none => none)
    | _ => none) k
noncomputable def oFldA (off : Nat) (x : Operand) : OpK := fun _ t σ k => evK t x fun v => ptrK v none fun b o => k (.pointer (some ⟨b, Nat.add o off, none⟩)) σ
noncomputable def oFld (g : Bool) (off n : Nat) (x : Operand) : OpK := fun _ t σ k => evK t x fun v => aggK v none fun l => Bool.rec (nthK l off fun u => k u σ) (k (.agg ((l.drop off).take n).toArray) σ) g
noncomputable def natK (z : Int) (k : Nat → A) : A := Int.rec (fun n => k n) (fun _ => none) z
noncomputable def oIdxA (sz : Nat) (x i : Operand) : OpK := fun _ t σ k => evK t x fun v => evK t i fun w => (match v with
    | .slice (some ⟨b, o, _⟩) l _ => intK w none fun _ z => natK z fun m => Bool.rec none (k (.pointer (some ⟨b, Nat.add o (Nat.mul m sz), none⟩)) σ) (Nat.ble (Nat.succ m) l)
    | _ => none)
noncomputable def oIdxArr (len sz : Nat) (x i : Operand) : OpK := fun _ t σ k => evK t x fun v => evK t i fun w => ptrK v none fun b o => intK w none fun _ z => natK z fun m => Bool.rec none (k (.pointer (some ⟨b, Nat.add o (Nat.mul m sz), none⟩)) σ) (Nat.ble (Nat.succ m) len)
noncomputable def oIdxS (x i : Operand) : OpK := fun _ t σ k => bnd (match ev t x, ev t i with
    | .string s, .int _ i => if 0 ≤ i then (match s[i.toNat]? with | some c => some (.int .u8 c.toNat, σ) | none => none) else none
    | _, _ => none) k
noncomputable def oExt (x : Operand) (i : Nat) : OpK := fun _ t σ k => evK t x fun v => match v with
    | .tuple vs => nthK vs.toList i fun u => k u σ
    | _ => none
noncomputable def oLenS (x : Operand) : OpK := fun _ t σ k => evK t x fun v => match v with | .slice _ l _ => k (.int .i64 (Int.ofNat l)) σ | _ => none
noncomputable def oLenStr (x : Operand) : OpK := fun _ t σ k => evK t x fun v => match v with | .string s => k (.int .i64 (Int.ofNat s.size)) σ | _ => none
noncomputable def oApp (sz bytes : Nat) (s x : Operand) : OpK := fun _ t σ k => bnd (appOp σ sz bytes (ev t s) (ev t x)) k
noncomputable def oCall (f : FuncId) (xs : List Operand) : OpK := fun call t σ k => evsK t xs fun vs => call f vs σ k
noncomputable def oCallV (x : Operand) (xs : List Operand) : OpK := fun call t σ k => evK t x fun v => match v with
    | .func (.func f) first cap => evsK t xs fun vs => call f (first.toList ++ (vs ++ cap.toList)) σ k
    | _ => none
noncomputable def oEqNil (neg : Bool) (x : Operand) : OpK := fun _ t σ k => evK t x fun v => match v with
    | .slice a _ _ => Bool.rec (boolV a.isNone fun v => k v σ) (boolV (!a.isNone) fun v => k v σ) neg
    | _ => none
noncomputable def oEqB (neg : Bool) (x y : Operand) : OpK := fun _ t σ k => evK t x fun a => evK t y fun b => boolK a none (boolK b none (boolV (Bool.rec true false neg) fun v => k v σ) (boolV (Bool.rec false true neg) fun v => k v σ))
    (boolK b none (boolV (Bool.rec false true neg) fun v => k v σ) (boolV (Bool.rec true false neg) fun v => k v σ))
noncomputable def oRest (o : AOp) : OpK := fun _ t σ k => bnd (aop σ t o) k
noncomputable def oNone : OpK := fun _ _ _ _ => none

noncomputable def aoperK (o : AOp) : OpK :=
  AOp.rec oMv oPick oAlloc oBox oBuild oBuildSl oLoad oStore oNil oBin oEqS oUn oConv oFn oMap oMkSl oSlS oSlStr oFldA oFld oIdxA oIdxArr oIdxS (fun a b c d e => oRest (.lookup a b c d e)) (fun a b c d => oRest (.mupd a b c d))
    (fun a => oRest (.rng a)) (fun a => oRest (.next a)) oExt oLenS oLenStr oApp oCall oCallV oEqNil oEqB (fun a b => oRest (.max2 a b)) (fun a b => oRest (.idxB a b)) oNone o

theorem aoperK_eq {call : CallF} {callK : CallK} (hc : ∀ f args σ k, callK f args σ k = bnd (call f args σ) k) (o : AOp) (t : Tmps) (σ : AHeap) (k : Value → AHeap → A) : aoperK o callK t σ k = bnd (aoper call o t σ) k := by
  cases o with
  | mv x => show oMv x callK t σ k = _; unfold oMv; rw [evK_eq]; rfl
  | pick c a b =>
    show oPick c a b callK t σ k = _; unfold oPick; simp only [evK_eq, aoper, aop]
    cases ev t c with
    | bool r => cases r <;> rfl
    | _ => rfl
  | alloc z es => show oAlloc z es callK t σ k = _; unfold oAlloc; rw [rowNew_eq]; rfl
  | box es x =>
    show oBox es x callK t σ k = _; unfold oBox; simp only [evK_eq, cellsK_eq, cellsB_eq, rowNew_eq, aoper, aop]
    cases (ev t x).cells.toList.all isCell <;> rfl
  | build z ps => show oBuild z ps callK t σ k = _; unfold oBuild; simp only [fillK_eq, aoper, aop]; cases fillL t z ps <;> rfl
  | buildSl z s l ps =>
    show oBuildSl z s l ps callK t σ k = _; unfold oBuildSl; simp only [fillK_eq, cellsB_eq, rowNew_eq, aoper, aop]
    cases fillL t z ps with
    | none => rfl
    | some cs => simp only; cases cs.all isCell <;> rfl
  | load g n x =>
    show oLoad g n x callK t σ k = _; unfold oLoad; simp only [evK_eq, loadK_eq, aoper, aop]
    cases ev t x with
    | pointer a => cases a with
      | none => rfl
      | some a =>
        obtain ⟨b, o, s⟩ := a
        simp only [ptrK]
        cases σ.loadN b o n with
        | none => rfl
        | some vs => cases g with
          | true => rfl
          | false => cases vs with
            | nil => rfl
            | cons v tl => cases tl <;> rfl
    | _ => rfl
  | store n a x =>
    show oStore n a x callK t σ k = _; unfold oStore; simp only [evK_eq, cellsK_eq, hasLen_eq, aoper, aop]
    cases ev t a with
    | pointer p => cases p with
      | none => rfl
      | some p =>
        obtain ⟨b, o, s⟩ := p
        simp only [ptrK]
        cases hn : Nat.beq (ev t x).cells.toList.length n with
        | false => rfl
        | true =>
          have := Nat.eq_of_beq_eq_true hn
          subst this
          simp only [if_true, storeK_eq]; cases σ.storeN b o (ev t x).cells.toList <;> rfl
    | _ => rfl
  | nilck x =>
    show oNil x callK t σ k = _; unfold oNil; simp only [evK_eq, aoper, aop]
    cases ev t x with
    | pointer a => cases a <;> rfl
    | _ => rfl
  | bin op x y =>
    show oBin op x y callK t σ k = _; unfold oBin; simp only [evK_eq, binK_eq, aoper, aop]
    cases abinA op (ev t x) (ev t y) <;> rfl
  | eqS neg ls x y =>
    show oEqS neg ls x y callK t σ k = _; unfold oEqS; simp only [evK_eq, boolV_eq, eqLsK_eq, aoper, aop]
    cases ev t x with
    | agg xs => cases ev t y with
      | agg ys =>
        simp only [aggK]
        cases eqLsA xs.toList ys.toList ls with
        | none => rfl
        | some r => cases r <;> cases neg <;> rfl
      | _ => rfl
    | _ => rfl
  | un op x =>
    show oUn op x callK t σ k = _; unfold oUn; simp only [evK_eq, aoper, aop]
    cases op with
    | not => cases ev t x with
      | bool b => simp only [boolV_eq, aun, bnd]
      | _ => rfl
    | _ => simp only [val]; split <;> rename_i h <;> rw [h] <;> rfl
  | conv kd x =>
    show oConv kd x callK t σ k = _; unfold oConv; simp only [evK_eq, wrapK_eq, aoper, aop]
    cases ev t x <;> rfl
  | mkFn f a b => show oFn f a b callK t σ k = _; unfold oFn; simp only [evsK_eq, aoper, aop, bnd]
  | mkMap => rfl
  | mkSl z b l c => rfl
  | slS s x lo hi mx => show oSlS s x lo hi mx callK t σ k = _; unfold oSlS; simp only [aoper, aop, val]; split <;> rename_i h <;> rw [h] <;> rfl
  | slStr x lo hi => rfl
  | fldA off x =>
    show oFldA off x callK t σ k = _; unfold oFldA; simp only [evK_eq, aoper, aop]
    cases ev t x with
    | pointer a => cases a <;> rfl
    | _ => rfl
  | fld g off n x =>
    show oFld g off n x callK t σ k = _; unfold oFld; simp only [evK_eq, nthK_eq, aoper, aop]
    cases ev t x with
    | agg cs =>
      simp only [aggK]
      cases g with
      | true => rfl
      | false => simp only [Bool.false_eq_true, if_false]; cases cs.toList[off]? <;> rfl
    | _ => rfl
  | idxA sz x i =>
    show oIdxA sz x i callK t σ k = _; unfold oIdxA; simp only [evK_eq, aoper, aop]
    cases ev t x with
    | slice a l c => cases a with
      | none => rfl
      | some a =>
        obtain ⟨b, o, s⟩ := a
        cases ev t i with
        | int kd z =>
          simp only [intK]
          cases z with
          | negSucc m => rw [if_neg (by omega)]; rfl
          | ofNat m =>
            show (Bool.rec none _ (Nat.ble (m + 1) l) : A) = _
            cases h : Nat.ble (m + 1) l with
            | false =>
              have : ¬ (m + 1 ≤ l) := fun e => by rw [Nat.ble_eq_true_of_le e] at h; cases h
              rw [if_neg (by simp only [Int.ofNat_eq_natCast]; omega)]; rfl
            | true =>
              have := Nat.le_of_ble_eq_true h
              rw [if_pos (by simp only [Int.ofNat_eq_natCast]; omega)]; rfl
        | _ => rfl
    | _ => rfl
  | idxArr len sz x i =>
    show oIdxArr len sz x i callK t σ k = _; unfold oIdxArr; simp only [evK_eq, aoper, aop]
    cases ev t x with
    | pointer a => cases a with
      | none => rfl
      | some a =>
        obtain ⟨b, o, s⟩ := a
        simp only [ptrK]
        cases ev t i with
        | int kd z =>
          simp only [intK]
          cases z with
          | negSucc m => rw [if_neg (by omega)]; rfl
          | ofNat m =>
            show (Bool.rec none _ (Nat.ble (m + 1) len) : A) = _
            cases h : Nat.ble (m + 1) len with
            | false =>
              have : ¬ (m + 1 ≤ len) := fun e => by rw [Nat.ble_eq_true_of_le e] at h; cases h
              rw [if_neg (by simp only [Int.ofNat_eq_natCast]; omega)]; rfl
            | true =>
              have := Nat.le_of_ble_eq_true h
              rw [if_pos (by simp only [Int.ofNat_eq_natCast]; omega)]; rfl
        | _ => rfl
    | _ => rfl
  | idxS x i => rfl
  | ext x i =>
    show oExt x i callK t σ k = _; unfold oExt; simp only [evK_eq, nthK_eq, aoper, aop]
    cases ev t x with
    | tuple vs => simp only; cases vs.toList[i]? <;> rfl
    | _ => rfl
  | lenS x => show oLenS x callK t σ k = _; unfold oLenS; simp only [evK_eq, aoper, aop]; cases ev t x <;> rfl
  | lenStr x => show oLenStr x callK t σ k = _; unfold oLenStr; simp only [evK_eq, aoper, aop]; cases ev t x <;> rfl
  | app sz bytes s x => rfl
  | call f xs => show oCall f xs callK t σ k = _; unfold oCall; simp only [evsK_eq, hc, aoper]
  | callV x xs =>
    show oCallV x xs callK t σ k = _; unfold oCallV; simp only [evK_eq, evsK_eq, hc, aoper]
    cases ev t x with
    | func f a b => cases f <;> rfl
    | _ => rfl
  | eqNil neg x =>
    show oEqNil neg x callK t σ k = _; unfold oEqNil; simp only [evK_eq, boolV_eq, aoper, aop]
    cases ev t x with
    | slice a l c => cases neg <;> rfl
    | _ => rfl
  | eqB neg x y =>
    show oEqB neg x y callK t σ k = _; unfold oEqB; simp only [evK_eq, boolV_eq, aoper, aop]
    cases ev t x with
    | bool a => cases ev t y with
      | bool b => cases a <;> cases b <;> cases neg <;> rfl
      | _ => cases a <;> rfl
    | _ => rfl
  | lookup a b c d e => rfl
  | mupd a b c d => rfl
  | rng a => rfl
  | next a => rfl
  | max2 a b => rfl
  | idxB a b => rfl
  | bad => rfl
end
end Go.Hai
