/-
  The abstract interpreter once more, in a form that is evaluated quickly ('..K': what is to be done with a result is handed on). No proof of the program stands here.
-/
import Derived.Test.YtphbidcbepnihaaH20
namespace Go.Hai
open Go

/- ---- tables ---- -/
noncomputable def pthR (f : Nat) : Nat → Pth :=
  Nat.rec (fun _ => .z) (fun _ ih i => Bool.rec (Bool.rec (.r (ih (Nat.div (Nat.sub i 1) 2))) (.l (ih (Nat.div (Nat.sub i 1) 2))) (Nat.beq (Nat.mod (Nat.sub i 1) 2) 0)) .z (Nat.beq i 0)) f
theorem pthR_eq : ∀ f i, pthR f i = pthF f i := by
  intro f
  induction f with
  | zero => intro i; rfl
  | succ f ih =>
    intro i
    show (Bool.rec (Bool.rec (.r (pthR f (Nat.div (Nat.sub i 1) 2))) (.l (pthR f (Nat.div (Nat.sub i 1) 2))) (Nat.beq (Nat.mod (Nat.sub i 1) 2) 0)) .z (Nat.beq i 0) : Pth) = _
    simp only [pthF, ih]
    cases Nat.beq i 0 <;> simp only
    cases Nat.beq (Nat.mod (Nat.sub i 1) 2) 0 <;> rfl
noncomputable def pthK (i : Nat) : Pth := pthR (Nat.succ i) i
theorem pthK_eq (i : Nat) : pthK i = pth i := pthR_eq _ _

abbrev A := Option Bool
noncomputable def getFV (p : Pth) : Tr Value → A → (Value → A) → A :=
  Pth.rec (fun t d k => Tr.rec d (fun v _ _ _ _ => Option.rec d k v) t) (fun _ ih t d k => Tr.rec d (fun _ l _ _ _ => ih l d k) t) (fun _ ih t d k => Tr.rec d (fun _ _ r _ _ => ih r d k) t) p
theorem getFV_eq : ∀ (p : Pth) (t : Tr Value) (d : A) (k : Value → A), getFV p t d k = match Tr.getP p t with | some v => k v | none => d := by
  intro p
  induction p with
  | z => intro t d k; cases t with
    | tip => rfl
    | node v l r => cases v <;> rfl
  | l p ih => intro t d k; cases t with
    | tip => rfl
    | node v l r => exact ih l d k
  | r p ih => intro t d k; cases t with
    | tip => rfl
    | node v l r => exact ih r d k
noncomputable def getKV (i : Nat) (t : Tr Value) (d : A) (k : Value → A) : A := getFV (pthK i) t d k
theorem getKV_eq (i : Nat) (t : Tr Value) (d : A) (k : Value → A) : getKV i t d k = match t.get i with | some v => k v | none => d := by unfold getKV Tr.get; rw [getFV_eq, pthK_eq]

noncomputable def insFV (x : Value) (p : Pth) : Tr Value → (Tr Value → A) → A :=
  Pth.rec (fun t k => Tr.rec (k (.node (some x) .tip .tip)) (fun _ l r _ _ => k (.node (some x) l r)) t)
    (fun _ ih t k => Tr.rec (ih .tip fun u => k (.node none u .tip)) (fun v l r _ _ => ih l fun u => k (.node v u r)) t)
    (fun _ ih t k => Tr.rec (ih .tip fun u => k (.node none .tip u)) (fun v l r _ _ => ih r fun u => k (.node v l u)) t) p
theorem insFV_eq (x : Value) : ∀ (p : Pth) (t : Tr Value) (k : Tr Value → A), insFV x p t k = k (Tr.insP x p t) := by
  intro p
  induction p with
  | z => intro t k; cases t <;> rfl
  | l p ih => intro t k; cases t with
    | tip => exact ih _ _
    | node v l r => exact ih _ _
  | r p ih => intro t k; cases t with
    | tip => exact ih _ _
    | node v l r => exact ih _ _
noncomputable def insKV (t : Tr Value) (i : Nat) (x : Value) (k : Tr Value → A) : A := insFV x (pthK i) t k
theorem insKV_eq (t : Tr Value) (i : Nat) (x : Value) (k : Tr Value → A) : insKV t i x k = k (t.ins i x) := by unfold insKV Tr.ins; rw [insFV_eq, pthK_eq]
noncomputable def putKV (l : List Value) : Tr Value → Nat → (Tr Value → A) → A :=
  List.rec (fun t _ k => k t) (fun x _ ih t i k => insKV t i x fun u => ih u (Nat.succ i) k) l
theorem putKV_eq : ∀ (l : List Value) (t : Tr Value) (i : Nat) (k : Tr Value → A), putKV l t i k = k (t.put i l) := by
  intro l
  induction l with
  | nil => intro t i k; rfl
  | cons x l ih =>
    intro t i k
    show insKV t i x (fun u => putKV l u (Nat.succ i) k) = _
    rw [insKV_eq, ih]; rfl
noncomputable def getFO (p : Pth) : Tr AObj → A → (AObj → A) → A :=
  Pth.rec (fun t d k => Tr.rec d (fun v _ _ _ _ => Option.rec d k v) t) (fun _ ih t d k => Tr.rec d (fun _ l _ _ _ => ih l d k) t) (fun _ ih t d k => Tr.rec d (fun _ _ r _ _ => ih r d k) t) p
theorem getFO_eq : ∀ (p : Pth) (t : Tr AObj) (d : A) (k : AObj → A), getFO p t d k = match Tr.getP p t with | some v => k v | none => d := by
  intro p
  induction p with
  | z => intro t d k; cases t with
    | tip => rfl
    | node v l r => cases v <;> rfl
  | l p ih => intro t d k; cases t with
    | tip => rfl
    | node v l r => exact ih l d k
  | r p ih => intro t d k; cases t with
    | tip => rfl
    | node v l r => exact ih r d k
noncomputable def getKO (i : Nat) (t : Tr AObj) (d : A) (k : AObj → A) : A := getFO (pthK i) t d k
theorem getKO_eq (i : Nat) (t : Tr AObj) (d : A) (k : AObj → A) : getKO i t d k = match t.get i with | some v => k v | none => d := by unfold getKO Tr.get; rw [getFO_eq, pthK_eq]

noncomputable def insFO (x : AObj) (p : Pth) : Tr AObj → (Tr AObj → A) → A :=
  Pth.rec (fun t k => Tr.rec (k (.node (some x) .tip .tip)) (fun _ l r _ _ => k (.node (some x) l r)) t)
    (fun _ ih t k => Tr.rec (ih .tip fun u => k (.node none u .tip)) (fun v l r _ _ => ih l fun u => k (.node v u r)) t)
    (fun _ ih t k => Tr.rec (ih .tip fun u => k (.node none .tip u)) (fun v l r _ _ => ih r fun u => k (.node v l u)) t) p
theorem insFO_eq (x : AObj) : ∀ (p : Pth) (t : Tr AObj) (k : Tr AObj → A), insFO x p t k = k (Tr.insP x p t) := by
  intro p
  induction p with
  | z => intro t k; cases t <;> rfl
  | l p ih => intro t k; cases t with
    | tip => exact ih _ _
    | node v l r => exact ih _ _
  | r p ih => intro t k; cases t with
    | tip => exact ih _ _
    | node v l r => exact ih _ _
noncomputable def insKO (t : Tr AObj) (i : Nat) (x : AObj) (k : Tr AObj → A) : A := insFO x (pthK i) t k
theorem insKO_eq (t : Tr AObj) (i : Nat) (x : AObj) (k : Tr AObj → A) : insKO t i x k = k (t.ins i x) := by unfold insKO Tr.ins; rw [insFO_eq, pthK_eq]
noncomputable def putKO (l : List AObj) : Tr AObj → Nat → (Tr AObj → A) → A :=
  List.rec (fun t _ k => k t) (fun x _ ih t i k => insKO t i x fun u => ih u (Nat.succ i) k) l
theorem putKO_eq : ∀ (l : List AObj) (t : Tr AObj) (i : Nat) (k : Tr AObj → A), putKO l t i k = k (t.put i l) := by
  intro l
  induction l with
  | nil => intro t i k; rfl
  | cons x l ih =>
    intro t i k
    show insKO t i x (fun u => putKO l u (Nat.succ i) k) = _
    rw [insKO_eq, ih]; rfl
/- ---- values ---- -/
section
noncomputable def tgetK (t : Tmps) (i : Nat) (k : Value → A) : A := getKV i t (k undef) k
theorem tgetK_eq (t : Tmps) (i : Nat) (k : Value → A) : tgetK t i k = k (tget t i) := by
  unfold tgetK tget
  rw [getKV_eq]
  cases t.get i <;> rfl
noncomputable def evK (t : Tmps) (x : Operand) (k : Value → A) : A :=
  Operand.rec (fun i => tgetK t i k) (fun v => k v) (fun _ => k undef) (fun f => k (.func (.func f) #[] #[])) x
theorem evK_eq (t : Tmps) (x : Operand) (k : Value → A) : evK t x k = k (ev t x) := by
  cases x with
  | tmp i => exact tgetK_eq t i k
  | _ => rfl
noncomputable def evsK (t : Tmps) (xs : List Operand) : (List Value → A) → A :=
  List.rec (fun k => k []) (fun x _ ih k => evK t x fun v => ih fun vs => k (v :: vs)) xs
theorem evsK_eq (t : Tmps) : ∀ (xs : List Operand) (k : List Value → A), evsK t xs k = k (xs.map (ev t)) := by
  intro xs
  induction xs with
  | nil => intro k; rfl
  | cons x xs ih =>
    intro k
    show evK t x (fun v => evsK t xs fun vs => k (v :: vs)) = _
    rw [evK_eq, ih]; rfl

def intK (v : Value) (d : A) (k : IntKind → Int → A) : A := match v with | .int a b => k a b | _ => d
def boolK (v : Value) (d f t : A) : A := match v with | .bool b => Bool.casesOn b f t | _ => d
def ptrK (v : Value) (d : A) (k : Nat → Nat → A) : A := match v with | .pointer (some ⟨b, o, _⟩) => k b o | _ => d
def aggK (v : Value) (d : A) (k : List Value → A) : A := match v with | .agg cs => k cs.toList | _ => d
def cellsK (v : Value) (k : List Value → A) : A := match v with | .agg cs => k cs.toList | v => k [v]
theorem cellsK_eq (v : Value) (k : List Value → A) : cellsK v k = k v.cells.toList := by cases v <;> rfl
noncomputable def lenF (l : List Value) : Nat := List.rec 0 (fun _ _ ih => Nat.succ ih) l
theorem lenF_eq (l : List Value) : lenF l = l.length := by
  induction l with
  | nil => rfl
  | cons x l ih => show Nat.succ (lenF l) = _; rw [ih]; rfl
def cellK (v : Value) (y : A) : A := match v with | .agg _ => none | .tuple _ => none | _ => y
noncomputable def cellsB (l : List Value) (y : A) : A := List.rec y (fun x _ ih => cellK x ih) l
theorem cellsB_eq (l : List Value) (y : A) : cellsB l y = if l.all isCell then y else none := by
  induction l with
  | nil => rfl
  | cons x l ih =>
    show cellK x (cellsB l y) = _
    rw [ih]
    cases x <;> rfl
noncomputable def hasLen (l : List Value) : Nat → A → A := List.rec (fun n y => Nat.rec y (fun _ _ => none) n) (fun _ _ ih n y => Nat.rec none (fun m _ => ih m y) n) l
theorem hasLen_eq : ∀ (l : List Value) (n : Nat) (y : A), hasLen l n y = if Nat.beq l.length n then y else none := by
  intro l
  induction l with
  | nil => intro n y; cases n <;> rfl
  | cons x l ih => intro n y; cases n with
    | zero => rfl
    | succ n => exact ih n y
noncomputable def nthK (l : List Value) : Nat → (Value → A) → A := List.rec (fun _ _ => none) (fun x _ ih i k => Nat.rec (k x) (fun n _ => ih n k) i) l
theorem nthK_eq : ∀ (l : List Value) (i : Nat) (k : Value → A), nthK l i k = match l[i]? with | some v => k v | none => none := by
  intro l
  induction l with
  | nil => intro i k; rfl
  | cons x l ih => intro i k; cases i with
    | zero => rfl
    | succ i => show nthK l i k = _; rw [ih]; rfl

/- ---- numbers ---- -/
noncomputable def topOf (k : IntKind) : Nat := IntKind.rec 127 32767 2147483647 9223372036854775807 255 65535 4294967295 18446744073709551615 k
theorem wrap_small (k : IntKind) (n : Nat) (h : n ≤ topOf k) : k.wrap (Int.ofNat n) = Int.ofNat n := by
  cases k <;> simp only [topOf] at h <;> simp only [IntKind.wrap, IntKind.bits, IntKind.signed] <;> simp <;> omega
noncomputable def wrapK (k : IntKind) (z : Int) (f : Int → A) : A := Int.rec (fun n => Bool.rec (f (k.wrap z)) (f (.ofNat n)) (Nat.ble n (topOf k))) (fun _ => f (k.wrap z)) z
theorem wrapK_eq (k : IntKind) (z : Int) (f : Int → A) : wrapK k z f = f (k.wrap z) := by
  cases z with
  | ofNat n =>
    show (Bool.rec (f (k.wrap (.ofNat n))) (f (.ofNat n)) (Nat.ble n (topOf k)) : A) = _
    cases h : Nat.ble n (topOf k) with
    | false => rfl
    | true => rw [wrap_small k n (Nat.le_of_ble_eq_true h)]
  | negSucc n => rfl
noncomputable def addK (a b : Int) (f : Int → A) : A := Int.rec (fun m => Int.rec (fun n => f (.ofNat (Nat.add m n))) (fun _ => f (a + b)) b) (fun _ => f (a + b)) a
theorem addK_eq (a b : Int) (f : Int → A) : addK a b f = f (a + b) := by cases a <;> cases b <;> rfl
noncomputable def mulK (a b : Int) (f : Int → A) : A := Int.rec (fun m => Int.rec (fun n => f (.ofNat (Nat.mul m n))) (fun _ => f (a * b)) b) (fun _ => f (a * b)) a
theorem mulK_eq (a b : Int) (f : Int → A) : mulK a b f = f (a * b) := by cases a <;> cases b <;> rfl
noncomputable def subK (a b : Int) (f : Int → A) : A := Int.rec (fun m => Int.rec (fun n => Bool.rec (f (a - b)) (f (.ofNat (Nat.sub m n))) (Nat.ble n m)) (fun _ => f (a - b)) b) (fun _ => f (a - b)) a
theorem subK_eq (a b : Int) (f : Int → A) : subK a b f = f (a - b) := by
  cases a with
  | negSucc m => rfl
  | ofNat m => cases b with
    | negSucc n => rfl
    | ofNat n =>
      show (Bool.rec (f (Int.ofNat m - Int.ofNat n)) (f (.ofNat (Nat.sub m n))) (Nat.ble n m) : A) = _
      cases h : Nat.ble n m with
      | false => rfl
      | true =>
        have h := Nat.le_of_ble_eq_true h
        have : (Int.ofNat (Nat.sub m n)) = Int.ofNat m - Int.ofNat n := by
          show ((m - n : Nat) : Int) = (m : Int) - (n : Int)
          omega
        simp only [this]
noncomputable def eqI (a b : Int) (f t : A) : A := Int.rec (fun m => Int.rec (fun n => Bool.rec f t (Nat.beq m n)) (fun _ => f) b) (fun m => Int.rec (fun _ => f) (fun n => Bool.rec f t (Nat.beq m n)) b) a
theorem eqI_eq (a b : Int) (f t : A) : eqI a b f t = Bool.rec f t (a == b) := by
  have hb : ∀ m n : Nat, Nat.beq m n = decide (m = n) := fun m n => by
    by_cases h : m = n
    · subst h; simp
    · rw [nbeq h]; simp [h]
  cases a with
  | ofNat m => cases b with
    | ofNat n =>
      show (Bool.rec f t (Nat.beq m n) : A) = _
      rw [hb]; show _ = (Bool.rec f t (decide (Int.ofNat m = Int.ofNat n)) : A); simp only [Int.ofNat.injEq]
    | negSucc n => rfl
  | negSucc m => cases b with
    | ofNat n => rfl
    | negSucc n =>
      show (Bool.rec f t (Nat.beq m n) : A) = _
      rw [hb]; show _ = (Bool.rec f t (decide (Int.negSucc m = Int.negSucc n)) : A); simp only [Int.negSucc.injEq]
noncomputable def ltI (a b : Int) (f t : A) : A := Int.rec (fun m => Int.rec (fun n => Bool.rec f t (Nat.ble (Nat.succ m) n)) (fun _ => f) b) (fun m => Int.rec (fun _ => t) (fun n => Bool.rec f t (Nat.ble (Nat.succ n) m)) b) a
theorem ble_eq (m n : Nat) : Nat.ble m n = decide (m ≤ n) := by
  by_cases h : m ≤ n
  · rw [Nat.ble_eq_true_of_le h]; simp [h]
  · cases hb : Nat.ble m n with
    | false => simp [h]
    | true => exact absurd (Nat.le_of_ble_eq_true hb) h
theorem ltI_eq (a b : Int) (f t : A) : ltI a b f t = Bool.rec f t (decide (a < b)) := by
  cases a with
  | ofNat m => cases b with
    | ofNat n =>
      have : decide ((m : Int) < (n : Int)) = Nat.ble (Nat.succ m) n := by rw [ble_eq]; congr 1; simp only [eq_iff_iff]; omega
      show (Bool.rec f t (Nat.ble (Nat.succ m) n) : A) = (Bool.rec f t (decide ((m : Int) < (n : Int))) : A)
      rw [this]
    | negSucc n =>
      have : decide ((m : Int) < Int.negSucc n) = false := by rw [decide_eq_false_iff_not]; omega
      show f = (Bool.rec f t (decide ((m : Int) < Int.negSucc n)) : A)
      rw [this]
  | negSucc m => cases b with
    | ofNat n =>
      have : decide (Int.negSucc m < (n : Int)) = true := by rw [decide_eq_true_iff]; omega
      show t = (Bool.rec f t (decide (Int.negSucc m < (n : Int))) : A)
      rw [this]
    | negSucc n =>
      have : decide (Int.negSucc m < Int.negSucc n) = Nat.ble (Nat.succ n) m := by rw [ble_eq]; congr 1; simp only [eq_iff_iff]; omega
      show (Bool.rec f t (Nat.ble (Nat.succ n) m) : A) = (Bool.rec f t (decide (Int.negSucc m < Int.negSucc n)) : A)
      rw [this]
noncomputable def tagK (k : IntKind) : Nat := IntKind.rec 0 1 2 3 4 5 6 7 k
noncomputable def kindB (a b : IntKind) : Bool := Nat.beq (tagK a) (tagK b)
theorem kindB_eq (a b : IntKind) : kindB a b = decide (a = b) := by cases a <;> cases b <;> rfl
def boolV (b : Bool) (f : Value → A) : A := Bool.casesOn b (f (.bool false)) (f (.bool true))
theorem boolV_eq (b : Bool) (f : Value → A) : boolV b f = f (.bool b) := by cases b <;> rfl
end
end Go.Hai
