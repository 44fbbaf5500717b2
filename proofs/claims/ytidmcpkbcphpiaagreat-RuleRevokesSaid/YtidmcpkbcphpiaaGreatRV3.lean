/-
  The abstract interpreter in its quick form: code and calls. No proof of the program stands here.
-/
import Derived.Test.YtidmcpkbcphpiaaGreatRV2
import Derived.Sort.Row
import Derived.Sort.Grow
import Derived.Test.YtidmcpkbcphpiaaGreatProg
namespace Go.Hai
open Go
section
noncomputable def wantsK (t : Tmps) (g : Option (Nat × Bool)) (yes no : A) : A :=
  Option.rec yes (fun p => tgetK t p.1 fun v => boolK v no (Bool.rec yes no p.2) (Bool.rec no yes p.2)) g
theorem wantsK_eq (t : Tmps) (g : Option (Nat × Bool)) (yes no : A) : wantsK t g yes no = if wants t g then yes else no := by
  cases g with
  | none => rfl
  | some p =>
    obtain ⟨j, w⟩ := p
    show tgetK t j (fun v => boolK v no (Bool.rec yes no w) (Bool.rec no yes w)) = _
    rw [tgetK_eq]
    have hw : wants t (some (j, w)) = (match tget t j with | .bool b => b == w | _ => false) := rfl
    rw [hw]
    generalize tget t j = v
    cases v with
    | bool b => cases b <;> cases w <;> rfl
    | _ => rfl
noncomputable def setK (t : Tmps) (d : Option Nat) (v : Value) (k : Tmps → A) : A := Option.rec (k t) (fun i => insKV t i v k) d
theorem setK_eq (t : Tmps) (d : Option Nat) (v : Value) (k : Tmps → A) : setK t d v k = k (setD t d v) := by
  cases d with
  | none => rfl
  | some i => exact insKV_eq t i v k
abbrev RunK := CallK → Tmps → AHeap → (Tmps → AHeap → A) → A
noncomputable def stepK (o : AOper) (_os : List AOper) (ih : RunK) : RunK := fun call t σ k =>
  AOper.rec (fun d g op => wantsK t g (aoperK op call t σ fun v σ' => setK t d v fun t' => ih call t' σ' k) (setK t d undef fun t' => ih call t' σ k)) o
noncomputable def runOpsK (l : List AOper) : RunK := List.rec (fun _ t σ k => k t σ) stepK l
theorem runOpsK_eq [Rho] {call : CallF} {callK : CallK} (hc : ∀ f args σ k, callK f args σ k = bnd (call f args σ) k) : ∀ (l : List AOper) (t : Tmps) (σ : AHeap) (k : Tmps → AHeap → A),
    runOpsK l callK t σ k = match runOps call l t σ with | some p => k p.1 p.2 | none => none := by
  intro l
  induction l with
  | nil => intro t σ k; rfl
  | cons o l ih =>
    intro t σ k
    obtain ⟨d, g, op⟩ := o
    show wantsK t g (aoperK op callK t σ fun v σ' => setK t d v fun t' => runOpsK l callK t' σ' k) (setK t d undef fun t' => runOpsK l callK t' σ k) = _
    simp only [wantsK_eq, aoperK_eq hc, setK_eq, ih, runOps]
    split
    · cases aoper call op t σ <;> rfl
    · rfl
noncomputable def pureB (o : AOp) : Bool :=
  AOp.rec (fun _ => true) (fun _ _ _ => true) (fun _ _ => false) (fun _ _ => false) (fun _ _ => true) (fun _ _ _ _ => false) (fun _ _ _ => false) (fun _ _ _ => false) (fun _ => true) (fun _ _ _ => true) (fun _ _ _ _ => true)
    (fun _ _ => true) (fun _ _ => true) (fun _ _ _ => true) false (fun _ _ _ _ => false) (fun _ _ _ _ _ => false) (fun _ _ _ => true) (fun _ _ => true) (fun _ _ _ _ => true) (fun _ _ _ => true) (fun _ _ _ _ => true)
    (fun _ _ => true) (fun _ _ _ _ _ => false) (fun _ _ _ _ => false) (fun _ => false) (fun _ => false) (fun _ _ => true) (fun _ => true) (fun _ => true) (fun _ _ _ _ => false) (fun _ _ => false) (fun _ _ => false)
    (fun _ _ => true) (fun _ _ _ => true) (fun _ _ => true) (fun _ _ => true) (fun _ _ => true) (fun _ _ => true) false o
theorem pureB_eq (o : AOp) : pureB o = pureOp o := by cases o <;> rfl
noncomputable def kindK (o : AOp) (t : Tmps) (σ : AHeap) (b : Bool) : AKind := Bool.rec (kindOf o t σ b) .pure (pureB o)
theorem kindK_eq [Rho] (o : AOp) (t : Tmps) (σ : AHeap) (b : Bool) : kindK o t σ b = kindOf o t σ b := by
  unfold kindK; rw [pureB_eq]
  cases h : pureOp o with
  | false => rfl
  | true => simp only [kindOf, h, if_true]
abbrev DrawK := CallK → Tmps → AHeap → (Tmps → AHeap → List AKind → A) → A
noncomputable def stepD (o : AOper) (_os : List AOper) (ih : DrawK) : DrawK := fun call t σ k =>
  AOper.rec (fun d g op => wantsK t g
    (AHeap.rec (fun ht n nf dead low => aoperK op call t ⟨ht, n, nf, dead, n⟩ fun v σ' => AHeap.rec (fun ht' n' nf' dead' low' => setK t d v fun t' => minK low low' fun low'' => ih call t' ⟨ht', n', nf', dead', low''⟩
      fun t'' σ'' ks => k t'' σ'' (kindK op t ⟨ht, n, nf, dead, low⟩ (Nat.beq low' n) :: ks)) σ') σ)
    (setK t d undef fun t' => ih call t' σ fun t'' σ'' ks => k t'' σ'' (.pure :: ks))) o
noncomputable def runDrawK (l : List AOper) : DrawK := List.rec (fun _ t σ k => k t σ []) stepD l
theorem runDrawK_eq [Rho] {call : CallF} {callK : CallK} (hc : ∀ f args σ k, callK f args σ k = bnd (call f args σ) k) : ∀ (l : List AOper) (t : Tmps) (σ : AHeap) (k : Tmps → AHeap → List AKind → A),
    runDrawK l callK t σ k = match runDraw call l t σ with | some p => k p.1 p.2.1 p.2.2 | none => none := by
  intro l
  induction l with
  | nil => intro t σ k; rfl
  | cons o l ih =>
    intro t σ k
    obtain ⟨d, g, op⟩ := o
    obtain ⟨ht, n, nf, dead, low⟩ := σ
    show wantsK t g (aoperK op callK t ⟨ht, n, nf, dead, n⟩ fun v σ' => AHeap.rec (fun ht' n' nf' dead' low' => setK t d v fun t' => minK low low' fun low'' => runDrawK l callK t' ⟨ht', n', nf', dead', low''⟩
      fun t'' σ'' ks => k t'' σ'' (kindK op t ⟨ht, n, nf, dead, low⟩ (Nat.beq low' n) :: ks)) σ') (setK t d undef fun t' => runDrawK l callK t' ⟨ht, n, nf, dead, low⟩ fun t'' σ'' ks => k t'' σ'' (.pure :: ks)) = _
    simp only [wantsK_eq, aoperK_eq hc, setK_eq, minK_eq, ih, runDraw, kindK_eq]
    split
    · cases aoper call op t ⟨ht, n, nf, dead, n⟩ with
      | none => rfl
      | some p =>
        obtain ⟨v, σ'⟩ := p
        obtain ⟨ht', n', nf', dead', low'⟩ := σ'
        simp only [bnd]
        split <;> rename_i h <;> rw [h]
    · split <;> rename_i h <;> rw [h]
abbrev CodeK := CallK → Nat → Tmps → AHeap → (Tmps → AHeap → A) → (Nat → Tmps → AHeap → A) → (Tmps → AHeap → A) → A
noncomputable def cSkip : CodeK := fun _ _ t σ kn _ _ => kn t σ
noncomputable def cReg (ops : List AOper) : CodeK := fun call _ t σ kn _ _ => runOpsK ops call t σ kn
noncomputable def cDrw (ops : List AOper) (bef : List Nat) : CodeK := fun call _ t σ kn _ _ => runDrawK ops call t σ fun t' σ' ks => Bool.rec none (kn t' σ') (drawOk (risks (marks ops bef) 0) ks)
noncomputable def cSeq (_ _ : ACode) (fa fb : CodeK) : CodeK := fun call n t σ kn kx kr => fa call n t σ (fun t' σ' => fb call n t' σ' kn kx kr) kx kr
noncomputable def cCond (c : Operand) (_ _ : ACode) (fa fb : CodeK) : CodeK := fun call n t σ kn kx kr => evK t c fun v => boolK v none (fb call n t σ kn kx kr) (fa call n t σ kn kx kr)
noncomputable def cBlock (id : Nat) (_ : ACode) (fa : CodeK) : CodeK := fun call n t σ kn kx kr => fa call n t σ kn (fun i t' σ' => Bool.rec (kx i t' σ') (kn t' σ') (Nat.beq i id)) kr
noncomputable def cLoop (_ : ACode) (fa : CodeK) : CodeK := fun call n t σ _ kx kr => Nat.rec (fun _ _ => none) (fun _ ih t σ => fa call n t σ ih kx kr) n t σ
noncomputable def cExit (i : Nat) : CodeK := fun _ _ t σ _ kx _ => kx i t σ
noncomputable def cRet : CodeK := fun _ _ t σ _ _ kr => kr t σ
noncomputable def cBad : CodeK := fun _ _ _ _ _ _ _ => none
noncomputable def acodeK (c : ACode) : CodeK := ACode.rec cSkip cReg cDrw cSeq cCond cBlock cLoop cExit cRet cBad c
def go (x : Option (AEx × Tmps × AHeap)) (kn : Tmps → AHeap → A) (kx : Nat → Tmps → AHeap → A) (kr : Tmps → AHeap → A) : A :=
  match x with
  | some (.normal, t, σ) => kn t σ
  | some (.exit i, t, σ) => kx i t σ
  | some (.ret, t, σ) => kr t σ
  | none => none
theorem acodeK_eq [Rho] {call : CallF} {callK : CallK} (hc : ∀ f args σ k, callK f args σ k = bnd (call f args σ) k) (n : Nat) : ∀ (c : ACode) (t : Tmps) (σ : AHeap) (kn : Tmps → AHeap → A) (kx : Nat → Tmps → AHeap → A) (kr : Tmps → AHeap → A),
    acodeK c callK n t σ kn kx kr = go (acode call n c t σ) kn kx kr := by
  intro c
  induction c with
  | skip => intro t σ kn kx kr; rfl
  | reg ops =>
    intro t σ kn kx kr
    show runOpsK ops callK t σ kn = _
    rw [runOpsK_eq hc]
    simp only [acode]
    cases runOps call ops t σ <;> rfl
  | drw ops bef =>
    intro t σ kn kx kr
    show runDrawK ops callK t σ _ = _
    rw [runDrawK_eq hc]
    simp only [acode]
    cases runDraw call ops t σ with
    | none => rfl
    | some p =>
      obtain ⟨t', σ', ks⟩ := p
      simp only
      cases drawOk (risks (marks ops bef) 0) ks <;> rfl
  | seq a b iha ihb =>
    intro t σ kn kx kr
    show acodeK a callK n t σ (fun t' σ' => acodeK b callK n t' σ' kn kx kr) kx kr = _
    simp only [iha, ihb, acode]
    cases acode call n a t σ with
    | none => rfl
    | some p => obtain ⟨e, t', σ'⟩ := p; cases e <;> rfl
  | cond x a b iha ihb =>
    intro t σ kn kx kr
    show evK t x (fun v => boolK v none (acodeK b callK n t σ kn kx kr) (acodeK a callK n t σ kn kx kr)) = _
    simp only [evK_eq, iha, ihb, acode]
    cases ev t x with
    | bool r => cases r <;> rfl
    | _ => rfl
  | block id a ih =>
    intro t σ kn kx kr
    show acodeK a callK n t σ kn (fun i t' σ' => Bool.rec (kx i t' σ') (kn t' σ') (Nat.beq i id)) kr = _
    simp only [ih, acode]
    cases acode call n a t σ with
    | none => rfl
    | some p =>
      obtain ⟨e, t', σ'⟩ := p
      cases e with
      | exit i => simp only [go]; cases Nat.beq i id <;> rfl
      | _ => rfl
  | loop a ih =>
    intro t σ kn kx kr
    have : ∀ (m : Nat) (t : Tmps) (σ : AHeap), (Nat.rec (fun _ _ => none) (fun _ ih t σ => acodeK a callK n t σ ih kx kr) m t σ : A) = go (iter (acode call n a) m t σ) kn kx kr := by
      intro m
      induction m with
      | zero => intro t σ; rfl
      | succ m ihm =>
        intro t σ
        show acodeK a callK n t σ (Nat.rec (fun _ _ => none) (fun _ ih t σ => acodeK a callK n t σ ih kx kr) m) kx kr = _
        rw [ih]
        simp only [iter]
        cases acode call n a t σ with
        | none => rfl
        | some p =>
          obtain ⟨e, t', σ'⟩ := p
          cases e with
          | normal => exact ihm t' σ'
          | _ => rfl
    exact this n t σ
  | exit i => intro t σ kn kx kr; rfl
  | ret => intro t σ kn kx kr; rfl
  | bad => intro t σ kn kx kr; rfl
noncomputable def resOneK (r : ARes) (t : Tmps) (σ : AHeap) (k : Value → A) : A :=
  ARes.rec (fun i => tgetK t i k) (fun i g n => tgetK t i fun v => ptrK v none fun b o => loadK σ b o n fun vs => Bool.rec (oneK vs k) (k (.agg vs.toArray)) g) r
theorem resOneK_eq (r : ARes) (t : Tmps) (σ : AHeap) (k : Value → A) : resOneK r t σ k = match resOne t σ r with | some v => k v | none => none := by
  cases r with
  | tmp i => exact tgetK_eq t i k
  | cell i g n =>
    show tgetK t i (fun v => ptrK v none fun b o => loadK σ b o n fun vs => Bool.rec (oneK vs k) (k (.agg vs.toArray)) g) = _
    rw [tgetK_eq]
    simp only [resOne, loadK_eq]
    cases tget t i with
    | pointer a => cases a with
      | none => rfl
      | some a =>
        obtain ⟨b, o, s⟩ := a
        simp only [ptrK]
        cases σ.loadN b o n with
        | none => rfl
        | some vs => cases g with
          | true => rfl
          | false => cases vs with
            | nil => rfl
            | cons v tl => cases tl <;> rfl
    | _ => rfl
noncomputable def resK (rs : List ARes) : Tmps → AHeap → (List Value → A) → A :=
  List.rec (fun _ _ k => k []) (fun r _ ih t σ k => resOneK r t σ fun v => ih t σ fun vs => k (v :: vs)) rs
theorem resK_eq [Rho] (t : Tmps) (σ : AHeap) : ∀ (rs : List ARes) (k : List Value → A), resK rs t σ k = match resAll t σ rs with | some vs => k vs | none => none := by
  intro rs
  induction rs with
  | nil => intro k; rfl
  | cons r rs ih =>
    intro k
    show resOneK r t σ (fun v => resK rs t σ fun vs => k (v :: vs)) = _
    rw [resOneK_eq]
    simp only [resAll, ih]
    cases resOne t σ r with
    | none => rfl
    | some v => simp only; cases resAll t σ rs <;> rfl
def scalC (v : Value) (n y : A) : A := Bool.casesOn (scal v) n y
noncomputable def allS (l : List Value) (n y : A) : A := List.rec y (fun x _ ih => scalC x n ih) l
theorem allS_eq (l : List Value) (n y : A) : allS l n y = Bool.casesOn (l.all scal) n y := by
  induction l with
  | nil => rfl
  | cons x l ih =>
    show scalC x n (allS l n y) = _
    rw [ih]
    unfold scalC
    simp only [List.all_cons]
    cases scal x <;> cases l.all scal <;> rfl
noncomputable def flatK (v : Value) (n y : A) : A := match v with
  | .bool _ => y
  | .int _ _ => y
  | .pointer (some _) => n
  | .slice (some _) _ _ => n
  | .agg cs => allS cs.toList n y
  | v => Bool.casesOn (flat v) n y
theorem flatK_eq [Rho] (v : Value) (n y : A) : flatK v n y = Bool.casesOn (flat v) n y := by
  cases v with
  | agg cs => show allS cs.toList n y = _; rw [allS_eq]; rfl
  | pointer a => cases a <;> rfl
  | slice a l c => cases a <;> rfl
  | _ => rfl
noncomputable def oneC (l : List Value) (f : Value → A) : A := List.rec (f (.tuple #[])) (fun v tl _ => List.rec (f v) (fun u r _ => f (.tuple (v :: u :: r).toArray)) tl) l
theorem oneC_eq (l : List Value) (f : Value → A) : oneC l f = f (one l) := by
  cases l with
  | nil => rfl
  | cons v tl => cases tl <;> rfl
noncomputable def maxLen (l : List Value) : Nat → A → A := List.rec (fun _ y => y) (fun _ _ ih n y => Nat.rec none (fun m _ => ih m y) n) l
theorem maxLen_eq : ∀ (l : List Value) (n : Nat) (y : A), maxLen l n y = if Nat.ble l.length n then y else none := by
  intro l
  induction l with
  | nil => intro n y; cases n <;> rfl
  | cons x l ih =>
    intro n y
    cases n with
    | zero => rfl
    | succ n => exact ih n y
noncomputable def endK (rs : List ARes) (σ : AHeap) (k : Value → AHeap → A) : Tmps → AHeap → A := fun t σ' => resK rs t σ' fun vs => oneC vs fun v =>
  AHeap.rec (fun ht n nf dead low => Bool.rec (minK σ.low low fun low' => k v ⟨ht, n, nf, dead, low'⟩) (flatK v (minK σ.low low fun low' => k v ⟨ht, n, nf, dead, low'⟩) (k v σ)) (Nat.beq low σ.n)) σ'
theorem endK_eq [Rho] (rs : List ARes) (σ : AHeap) (k : Value → AHeap → A) (t : Tmps) (σ' : AHeap) : endK rs σ k t σ' =
    bnd (match resAll t σ' rs with | some vs => some (if Nat.beq σ'.low σ.n && flat (one vs) then (one vs, σ) else (one vs, { σ' with low := minN σ.low σ'.low })) | none => none) k := by
  unfold endK
  rw [resK_eq]
  cases resAll t σ' rs with
  | none => rfl
  | some vs =>
    obtain ⟨ht, n, nf, dead, low⟩ := σ'
    simp only [oneC_eq, flatK_eq, minK_eq]
    show (Bool.rec (k (one vs) ⟨ht, n, nf, dead, minN σ.low low⟩) (Bool.casesOn (flat (one vs)) (k (one vs) ⟨ht, n, nf, dead, minN σ.low low⟩) (k (one vs) σ)) (Nat.beq low σ.n) : A) = _
    simp only [bnd]
    cases Nat.beq low σ.n with
    | false => rfl
    | true => cases flat (one vs) <;> rfl
noncomputable def acallK [Frn] (E : FuncId → Option AFn) (fuel : Nat) (d : Nat) : CallK :=
  Nat.rec (fun _ _ _ _ => none) (fun _ ih f args σ k => Option.rec (bnd (Frn.val f args σ) k) (fun fn => AFn.rec (fun n rs body => maxLen args n
    (putKV args .tip 0 fun t => AHeap.rec (fun ht m nf dead low => acodeK body ih fuel t ⟨ht, m, nf, dead, m⟩ (endK rs ⟨ht, m, nf, dead, low⟩ k) (fun _ _ _ => none) (endK rs ⟨ht, m, nf, dead, low⟩ k)) σ)) fn) (E f)) d
theorem acallK_eq [Rho] [Frn] (E : FuncId → Option AFn) (fuel : Nat) : ∀ (d : Nat) (f : FuncId) (args : List Value) (σ : AHeap) (k : Value → AHeap → A), acallK E fuel d f args σ k = bnd (acall E fuel d f args σ) k := by
  intro d
  induction d with
  | zero => intro f args σ k; rfl
  | succ d ih =>
    intro f args σ k
    obtain ⟨ht, m, nf, dead, low⟩ := σ
    show (Option.rec (bnd (Frn.val f args ⟨ht, m, nf, dead, low⟩) k) (fun fn => AFn.rec (fun n rs body => maxLen args n
      (putKV args .tip 0 fun t => acodeK body (acallK E fuel d) fuel t ⟨ht, m, nf, dead, m⟩ (endK rs ⟨ht, m, nf, dead, low⟩ k) (fun _ _ _ => none) (endK rs ⟨ht, m, nf, dead, low⟩ k))) fn) (E f) : A) = _
    simp only [acall]
    cases E f with
    | none => rfl
    | some fn =>
      obtain ⟨n, rs, body⟩ := fn
      simp only [maxLen_eq, putKV_eq]
      cases Nat.ble args.length n with
      | false => rfl
      | true =>
        show acodeK body (acallK E fuel d) fuel (Tr.of args) ⟨ht, m, nf, dead, m⟩ _ _ _ = _
        rw [acodeK_eq ih]
        simp only [if_true]
        cases acode (acall E fuel d) fuel body (Tr.of args) ⟨ht, m, nf, dead, m⟩ with
        | none => rfl
        | some p =>
          obtain ⟨e, t', σ'⟩ := p
          cases e with
          | normal => exact endK_eq rs ⟨ht, m, nf, dead, low⟩ k t' σ'
          | ret => exact endK_eq rs ⟨ht, m, nf, dead, low⟩ k t' σ'
          | exit i => rfl
end
def ofProg [Frn] (P : Program) (f : FuncId) : Option AFn := match Frn.has f with | true => none | false => (match P.funcs[f]? with | some fn => compFn P fn | none => none)
theorem ofProg_ok [Frn] {P : Program} : ∀ f af, ofProg P f = some af → ∃ fn, P.funcs[f]? = some fn ∧ compFn P fn = some af := by
  intro f af h
  unfold ofProg at h
  split at h
  · cases h
  · split at h
    · next fn hf => exact ⟨fn, hf, h⟩
    · cases h
def h0 : AHeap := { t := .tip, n := 0, nf := 0, dead := [], low := 0 }
def isTrueK (v : Value) (_ : AHeap) : Option Bool := match v with | .bool b => some b | _ => none
end Go.Hai
namespace Go.Hai
open Go
def intsOf : List Value → Option (List Int)
  | [] => some []
  | .int .i64 z :: l => (match intsOf l with | some k => some (z :: k) | none => none)
  | _ => none
def sortI (l : List Int) : List Int := l.mergeSort fun x y => decide (x ≤ y)
def srtVal : List Value → AHeap → Option (Value × AHeap)
  | [.slice none 0 0], σ => some (.tuple #[], σ)
  | [.slice (some ⟨b, o, none⟩) (l + 1) _], σ => if Nat.ble (l + 1) 1000000 = true then (match σ.loadN b o (l + 1) with
    | some vs => (match intsOf vs with
      | some zs => (match σ.storeN b o ((sortI zs).map (Value.int .i64)) with
        | some σ' => some (.tuple #[], σ')
        | none => none)
      | none => none)
    | none => none) else none
  | _, _ => none
@[reducible] def sortFrn (f : FuncId) : Frn := { has := fun g => Nat.beq g f, val := fun g args σ => if Nat.beq g f = true then srtVal args σ else none }
theorem intsOf_map : ∀ {vs : List Value} {zs : List Int}, intsOf vs = some zs → vs = zs.map (Value.int .i64) := by
  intro vs
  induction vs with
  | nil => intro zs h; simp [intsOf] at h; subst h; rfl
  | cons v vs ih =>
    intro zs h
    unfold intsOf at h
    split at h
    · next h' => cases h'
    · next z l h' =>
      cases h'
      split at h
      · next k hk => simp at h; subst h; simp [ih hk]
      · cases h
    · cases h
theorem intsOf_ints : ∀ (zs : List Int), intsOf (zs.map (Value.int .i64)) = some zs := by
  intro zs
  induction zs with
  | nil => rfl
  | cons z zs ih => simp [intsOf, ih]
theorem sortI_length (l : List Int) : (sortI l).length = l.length := by simp [sortI]
def SortSaid (P : Program) (f : FuncId) : Prop :=
  (∀ w : World, Calls P f #[.slice none 0 0] w fun e w' => e = .returned (.tuple #[]) ∧ w' = w) ∧
  ∀ (blk off cap : Nat) (zs : List Int) (w : World), Sort.Holds (Value.int .i64) w blk off zs.toArray → blk < w.heap.size → zs.length < 4611686018427387904 →
    Calls P f #[.slice (some ⟨blk, off, none⟩) zs.length cap] w fun e w' => e = .returned (.tuple #[]) ∧ ∃ n os, w' = Sort.grow (Sort.putRow (Value.int .i64) (Sort.ahead w n) blk off (sortI zs).toArray) os
theorem sortFrn_ok [Rho] {P : Program} {f : FuncId} (hf : ∃ fn, P.funcs[f]? = some fn ∧ fn.body.isNone = false ∧ (fn.name == "runtime.NumGoroutine") = false) (hs : SortSaid P f) : CallOk P (sortFrn f).val := by
  intro g args r σ σ' h
  replace h : (if Nat.beq g f = true then srtVal args σ else none) = some (r, σ') := h
  split at h
  case isFalse => cases h
  next hg =>
  have hg := Nat.eq_of_beq_eq_true hg
  subst hg
  unfold srtVal at h
  split at h
  · cases h
    refine ⟨Ext.refl _, hf, fun ρ w us hS hv => ?_⟩
    cases hv with
    | cons hv hr =>
      cases hr
      have hu := flat_eq (by rfl) hv
      subst hu
      refine (hs.1 w).mono ?_
      rintro e w' ⟨rfl, rfl⟩
      exact ⟨_, ρ, rfl, .flat rfl, ⟨hS, Ren.le_refl _, fun b L h => .inl h, Nat.le_refl _, fun _ _ _ => rfl, rfl, rfl⟩⟩
  · next σ0 b o l fl =>
    split at h
    case isFalse => cases h
    next hbig =>
    have hbig := Nat.le_of_ble_eq_true hbig
    split at h
    case h_2 => cases h
    next vs hld =>
    split at h
    case h_2 => cases h
    next zs hzs =>
    split at h
    case h_2 => cases h
    next σ1 hst =>
    cases h
    have hvs := intsOf_map hzs
    refine ⟨(ext_store hst).1, hf, fun ρ w us hS hv => ?_⟩
    cases hv with
    | cons hv hr =>
      cases hr
      rcases hv.sl_inv with ⟨h1, _⟩ | ⟨_, _, _, h1, _⟩ | ⟨b', o', c, L, a', h1, hb, hlc, _, _, ha, rfl⟩
      · cases h1
      · cases h1
      · cases h1
        have ha := ha.resolve_right (by omega)
        subst ha
        obtain ⟨C, T, fr, us, c1, c2, c3, c4, c5, _⟩ := hS.cells hb hld
        have hvl : vs.length = l + 1 := by rw [c5.length]; exact c2
        have hzl : zs.length = l + 1 := by rw [hvs] at hvl; simpa using hvl
        obtain ⟨C', T', d1, d2, d3, d4⟩ := sim_store (us := (sortI zs).map (Value.int .i64)) hS hb hst (VRs.map fun x _ => .flat rfl)
        rw [c1] at d1
        simp only [Option.some.injEq, Obj.cells.injEq] at d1
        obtain ⟨rfl, rfl, rfl⟩ := d1
        have hus : ∀ j, j < l + 1 → C[L.base + o + j]? = (zs[j]?).map (Value.int .i64) := fun j hj => by
          rw [c3 j hj]
          obtain ⟨z, hz⟩ : ∃ z, zs[j]? = some z := ⟨_, List.getElem?_eq_getElem (by omega)⟩
          obtain ⟨u, hu, hvu⟩ := c5.get1 (i := j) (v := .int .i64 z) (by rw [hvs, List.getElem?_map, hz, Option.map_some])
          rw [hu, hz]
          have := flat_eq (by rfl) hvu
          rw [this]; rfl
        have hH : Sort.Holds (Value.int .i64) w L.blk (L.base + o) zs.toArray := fun j hj => by
          simp only [List.size_toArray] at hj
          have := hus j (by omega)
          rw [List.getElem?_eq_getElem (by omega)] at this
          refine ⟨?_, ?_⟩
          · unfold World.cell?
            rw [c1]
            simp only [Option.isSome_none, Bool.false_eq_true, if_false]
            rw [this]
            simp [hj]
          · unfold World.frozen?
            rw [c1]
            simp
        have hcall := hs.2 L.blk (L.base + o) c zs w hH (hS.lt _ _ hb) (by omega)
        rw [hzl] at hcall
        refine hcall.mono ?_
        rintro e w' ⟨rfl, n, os, rfl⟩
        have hsl := sortI_length zs
        have hw1 : (Sort.putRow (Value.int .i64) (Sort.ahead w n) L.blk (L.base + o) (sortI zs).toArray).heap = w.heap.modify L.blk (Sort.onCells (Sort.putCells (Value.int .i64) (L.base + o) (sortI zs).toArray)) := rfl
        have p1 := d4 (Sort.putRow (Value.int .i64) (Sort.ahead w n) L.blk (L.base + o) (sortI zs).toArray) (Sort.putCells (Value.int .i64) (L.base + o) (sortI zs).toArray C)
          (by rw [hw1]; simp) (by rw [hw1, Array.getElem?_modify, if_pos rfl, c1]; rfl) (by simp [Sort.putCells]) (fun j => by
            unfold Sort.putCells
            rw [Array.getElem?_mapIdx]
            simp only [List.size_toArray, List.length_map, List.length_map] at *
            by_cases hr : L.base + o ≤ j ∧ j < L.base + o + (sortI zs).length
            · rw [if_pos hr, Array.getElem?_eq_getElem (by omega), Option.map_some, if_pos hr, List.getElem?_map, List.getElem?_eq_getElem (by omega)]
              simp
              rw [List.getElem?_eq_getElem (by omega)]; rfl
            · rw [if_neg hr]
              cases C[j]? with
              | none => rfl
              | some y => simp only [Option.map_some]; rw [if_neg hr])
          (fun B' hB => by rw [hw1, Array.getElem?_modify, if_neg (fun e => hB e.symm)]) ⟨rfl, rfl⟩
        generalize Sort.putRow (Value.int .i64) (Sort.ahead w n) L.blk (L.base + o) (sortI zs).toArray = w1 at p1
        have hg : ∀ B, B < w1.heap.size → (Sort.grow w1 os).heap[B]? = w1.heap[B]? := fun B hB => by
          show (w1.heap ++ os)[B]? = _
          rw [Array.getElem?_append_left hB]
        have hsz : w1.heap.size ≤ (Sort.grow w1 os).heap.size := by simp [Sort.grow]
        refine ⟨_, ρ, rfl, .flat rfl, ⟨sim_still p1.sim hsz hg, Ren.le_refl _, fun b L h => .inl h, Nat.le_trans p1.size hsz, fun B hB ht => ?_, p1.io⟩⟩
        rw [hg B (Nat.lt_of_lt_of_le hB p1.size)]
        exact p1.frame B hB ht
  · cases h
end Go.Hai
namespace Go.Proofs.YtidmcpkbcphpiaaGreat
open Go Go.Hai
instance theFrn : Hai.Frn := Hai.sortFrn 95
end Go.Proofs.YtidmcpkbcphpiaaGreat
namespace Go.Proofs.YtidmcpkbcphpiaaGreat
open Go Go.Hai
set_option maxRecDepth 20000
set_option linter.unusedSimpArgs false
attribute [local irreducible] Hai.Ends EndsR EndsO EndsD AHeap.grow
def r0_geo_in : List AOper := [(.mk (some 6) none (.mv (.const (.bool false))))]
def r1_geo_in : List AOper := [(.mk (some 7) none (.mv (.tmp 0))), (.mk (some 8) none (.mv (.tmp 1))), (.mk (some 9) none (.bin .geq (.tmp 7) (.tmp 8))), (.mk (some 10) none (.mv (.tmp 9))), (.mk (some 11) (some (10, true)) (.mv (.tmp 0))), (.mk (some 12) (some (10, true)) (.mv (.tmp 2))), (.mk (some 13) (some (10, true)) (.bin .leq (.tmp 11) (.tmp 12))), (.mk (some 14) none (.pick (.tmp 10) (.tmp 13) (.const (.bool false)))), (.mk (some 6) none (.mv (.tmp 14)))]
def k0_geo_in : ACode := (.seq (.reg r1_geo_in) .ret)
def c_geo_in : ACode := (.seq (.reg r0_geo_in) k0_geo_in)
theorem e_geo_in : ofProg Tryz.prog 119 = some ⟨15, [(.tmp 6)], c_geo_in⟩ := by kernel_rfl
def r0_find_in : List AOper := [(.mk (some 6) none (.mv (.const (.bool false))))]
def r1_find_in : List AOper := [(.mk (some 7) none (.mv (.tmp 0))), (.mk (some 8) none (.mv (.tmp 1))), (.mk (some 9) none (.bin .geq (.tmp 7) (.tmp 8))), (.mk (some 10) none (.mv (.tmp 9))), (.mk (some 11) (some (10, true)) (.mv (.tmp 0))), (.mk (some 12) (some (10, true)) (.mv (.tmp 2))), (.mk (some 13) (some (10, true)) (.bin .leq (.tmp 11) (.tmp 12))), (.mk (some 14) none (.pick (.tmp 10) (.tmp 13) (.const (.bool false)))), (.mk (some 6) none (.mv (.tmp 14)))]
def k0_find_in : ACode := (.seq (.reg r1_find_in) .ret)
def c_find_in : ACode := (.seq (.reg r0_find_in) k0_find_in)
theorem e_find_in : ofProg Tryz.prog 86 = some ⟨15, [(.tmp 6)], c_find_in⟩ := by kernel_rfl
def r0_thing_in : List AOper := [(.mk (some 6) none (.mv (.const (.bool false))))]
def r1_thing_in : List AOper := [(.mk (some 7) none (.mv (.tmp 0))), (.mk (some 8) none (.mv (.tmp 1))), (.mk (some 9) none (.bin .geq (.tmp 7) (.tmp 8))), (.mk (some 10) none (.mv (.tmp 9))), (.mk (some 11) (some (10, true)) (.mv (.tmp 0))), (.mk (some 12) (some (10, true)) (.mv (.tmp 2))), (.mk (some 13) (some (10, true)) (.bin .leq (.tmp 11) (.tmp 12))), (.mk (some 14) none (.pick (.tmp 10) (.tmp 13) (.const (.bool false)))), (.mk (some 6) none (.mv (.tmp 14)))]
def k0_thing_in : ACode := (.seq (.reg r1_thing_in) .ret)
def c_thing_in : ACode := (.seq (.reg r0_thing_in) k0_thing_in)
theorem e_thing_in : ofProg Tryz.prog 184 = some ⟨15, [(.tmp 6)], c_thing_in⟩ := by kernel_rfl
def r0_cap_in : List AOper := [(.mk (some 6) none (.mv (.const (.bool false))))]
def r1_cap_in : List AOper := [(.mk (some 7) none (.mv (.tmp 0))), (.mk (some 8) none (.mv (.tmp 1))), (.mk (some 9) none (.bin .geq (.tmp 7) (.tmp 8))), (.mk (some 10) none (.mv (.tmp 9))), (.mk (some 11) (some (10, true)) (.mv (.tmp 0))), (.mk (some 12) (some (10, true)) (.mv (.tmp 2))), (.mk (some 13) (some (10, true)) (.bin .leq (.tmp 11) (.tmp 12))), (.mk (some 14) none (.pick (.tmp 10) (.tmp 13) (.const (.bool false)))), (.mk (some 6) none (.mv (.tmp 14)))]
def k0_cap_in : ACode := (.seq (.reg r1_cap_in) .ret)
def c_cap_in : ACode := (.seq (.reg r0_cap_in) k0_cap_in)
theorem e_cap_in : ofProg Tryz.prog 180 = some ⟨15, [(.tmp 6)], c_cap_in⟩ := by kernel_rfl
def r0_right_Good : List AOper := [(.mk (some 2) none (.mv (.const (.bool false))))]
def r1_right_Good : List AOper := [(.mk (some 3) none (.mv (.tmp 0))), (.mk (some 4) none (.bin .geq (.tmp 3) (.const (.int .i64 0)))), (.mk (some 5) none (.mv (.tmp 4))), (.mk (some 6) (some (5, true)) (.mv (.tmp 0))), (.mk (some 7) (some (5, true)) (.bin .leq (.tmp 6) (.const (.int .i64 7)))), (.mk (some 8) none (.pick (.tmp 5) (.tmp 7) (.const (.bool false)))), (.mk (some 2) none (.mv (.tmp 8)))]
def k0_right_Good : ACode := (.seq (.reg r1_right_Good) .ret)
def c_right_Good : ACode := (.seq (.reg r0_right_Good) k0_right_Good)
theorem e_right_Good : ofProg Tryz.prog 176 = some ⟨9, [(.tmp 2)], c_right_Good⟩ := by kernel_rfl
def r0_right_Badge : List AOper := [(.mk (some 2) none (.mv (.const (.bool false))))]
def r1_right_Badge : List AOper := [(.mk (some 3) none (.mv (.tmp 0))), (.mk (some 4) none (.bin .geq (.tmp 3) (.const (.int .i64 0)))), (.mk (some 5) none (.mv (.tmp 4))), (.mk (some 6) (some (5, true)) (.mv (.tmp 0))), (.mk (some 7) (some (5, true)) (.bin .leq (.tmp 6) (.const (.int .i64 65535)))), (.mk (some 8) none (.pick (.tmp 5) (.tmp 7) (.const (.bool false)))), (.mk (some 2) none (.mv (.tmp 8)))]
def k0_right_Badge : ACode := (.seq (.reg r1_right_Badge) .ret)
def c_right_Badge : ACode := (.seq (.reg r0_right_Badge) k0_right_Badge)
theorem e_right_Badge : ofProg Tryz.prog 181 = some ⟨9, [(.tmp 2)], c_right_Badge⟩ := by kernel_rfl
def r0_cap_badged : List AOper := [(.mk (some 2) none (.mv (.const (.bool false))))]
def r1_cap_badged : List AOper := [(.mk (some 3) none (.mv (.tmp 0))), (.mk (some 4) none (.bin .eql (.tmp 3) (.const (.int .i64 3)))), (.mk (some 5) none (.mv (.tmp 4))), (.mk (some 6) (some (5, false)) (.mv (.tmp 0))), (.mk (some 7) (some (5, false)) (.bin .eql (.tmp 6) (.const (.int .i64 4)))), (.mk (some 8) none (.pick (.tmp 5) (.const (.bool true)) (.tmp 7))), (.mk (some 2) none (.mv (.tmp 8)))]
def k0_cap_badged : ACode := (.seq (.reg r1_cap_badged) .ret)
def c_cap_badged : ACode := (.seq (.reg r0_cap_badged) k0_cap_badged)
theorem e_cap_badged : ofProg Tryz.prog 182 = some ⟨9, [(.tmp 2)], c_cap_badged⟩ := by kernel_rfl
def r0_cap_None : List AOper := [(.mk (some 1) none (.box 4 (.tmp 0))), (.mk (some 2) none (.mv (.const (.bool false))))]
def r1_cap_None : List AOper := [(.mk (some 3) none (.load true 4 (.tmp 1))), (.mk (some 4) none (.build [(.int .i64 0), (.int .i64 0), (.int .i64 0), (.int .i64 0)] [])), (.mk (some 5) none (.eqS false [(0, 0), (1, 0), (2, 0), (3, 0)] (.tmp 3) (.tmp 4))), (.mk (some 2) none (.mv (.tmp 5)))]
def k0_cap_None : ACode := (.seq (.reg r1_cap_None) .ret)
def c_cap_None : ACode := (.seq (.reg r0_cap_None) k0_cap_None)
theorem e_cap_None : ofProg Tryz.prog 38 = some ⟨6, [(.tmp 2)], c_cap_None⟩ := by kernel_rfl
def r0_geo_Good : List AOper := [(.mk (some 1) none (.box 3 (.tmp 0))), (.mk (some 2) none (.mv (.const (.bool false))))]
def r1_geo_Good : List AOper := [(.mk (some 3) none (.fldA 0 (.tmp 1))), (.mk (some 4) none (.load false 1 (.tmp 3))), (.mk (some 5) none (.call 119 [(.tmp 4), (.const (.int .i64 1)), (.const (.int .i64 4))])), (.mk (some 6) none (.mv (.tmp 5))), (.mk (some 7) (some (6, true)) (.fldA 1 (.tmp 1))), (.mk (some 8) (some (6, true)) (.load false 1 (.tmp 7))), (.mk (some 9) (some (6, true)) (.fldA 0 (.tmp 1))), (.mk (some 10) (some (6, true)) (.load false 1 (.tmp 9))), (.mk (some 11) (some (6, true)) (.bin .mul (.const (.int .i64 8)) (.tmp 10))), (.mk (some 12) (some (6, true)) (.call 119 [(.tmp 8), (.tmp 11), (.const (.int .i64 96))])), (.mk (some 13) none (.pick (.tmp 6) (.tmp 12) (.const (.bool false)))), (.mk (some 14) none (.mv (.tmp 13))), (.mk (some 15) (some (14, true)) (.fldA 1 (.tmp 1))), (.mk (some 16) (some (14, true)) (.load false 1 (.tmp 15))), (.mk (some 17) (some (14, true)) (.bin .rem (.tmp 16) (.const (.int .i64 8)))), (.mk (some 18) (some (14, true)) (.bin .eql (.tmp 17) (.const (.int .i64 0)))), (.mk (some 19) none (.pick (.tmp 14) (.tmp 18) (.const (.bool false)))), (.mk (some 20) none (.mv (.tmp 19))), (.mk (some 21) (some (20, true)) (.fldA 2 (.tmp 1))), (.mk (some 22) (some (20, true)) (.load false 1 (.tmp 21))), (.mk (some 23) (some (20, true)) (.fldA 0 (.tmp 1))), (.mk (some 24) (some (20, true)) (.load false 1 (.tmp 23))), (.mk (some 25) (some (20, true)) (.bin .add (.tmp 24) (.const (.int .i64 2)))), (.mk (some 26) (some (20, true)) (.call 119 [(.tmp 22), (.tmp 25), (.const (.int .i64 48))])), (.mk (some 27) none (.pick (.tmp 20) (.tmp 26) (.const (.bool false)))), (.mk (some 2) none (.mv (.tmp 27)))]
def k0_geo_Good : ACode := (.seq (.reg r1_geo_Good) .ret)
def c_geo_Good : ACode := (.seq (.reg r0_geo_Good) k0_geo_Good)
theorem e_geo_Good : ofProg Tryz.prog 56 = some ⟨28, [(.tmp 2)], c_geo_Good⟩ := by kernel_rfl
def r0_cap_Good : List AOper := [(.mk (some 1) none (.box 4 (.tmp 0))), (.mk (some 2) none (.mv (.const (.bool false))))]
def r1_cap_Good : List AOper := [(.mk (some 3) none (.load true 4 (.tmp 1))), (.mk (some 4) none (.call 38 [(.tmp 3)]))]
def r2_cap_Good : List AOper := [(.mk (some 2) none (.mv (.const (.bool true))))]
def k1_cap_Good : ACode := (.cond (.tmp 4) (.seq (.reg r2_cap_Good) .ret) .skip)
def r3_cap_Good : List AOper := [(.mk (some 5) none (.fldA 0 (.tmp 1))), (.mk (some 6) none (.load false 1 (.tmp 5))), (.mk (some 7) none (.call 180 [(.tmp 6), (.const (.int .i64 1)), (.const (.int .i64 5))])), (.mk (some 8) none (.mv (.tmp 7))), (.mk (some 9) (some (8, true)) (.fldA 1 (.tmp 1))), (.mk (some 10) (some (8, true)) (.load false 1 (.tmp 9))), (.mk (some 11) (some (8, true)) (.call 180 [(.tmp 10), (.const (.int .i64 0)), (.const (.int .i64 47))])), (.mk (some 12) none (.pick (.tmp 8) (.tmp 11) (.const (.bool false)))), (.mk (some 13) none (.mv (.tmp 12))), (.mk (some 14) (some (13, true)) (.fldA 2 (.tmp 1))), (.mk (some 15) (some (13, true)) (.load false 1 (.tmp 14))), (.mk (some 16) (some (13, true)) (.call 176 [(.tmp 15)])), (.mk (some 17) none (.pick (.tmp 13) (.tmp 16) (.const (.bool false)))), (.mk (some 18) none (.mv (.tmp 17))), (.mk (some 19) (some (18, true)) (.fldA 3 (.tmp 1))), (.mk (some 20) (some (18, true)) (.load false 1 (.tmp 19))), (.mk (some 21) (some (18, true)) (.call 181 [(.tmp 20)])), (.mk (some 22) none (.pick (.tmp 18) (.tmp 21) (.const (.bool false)))), (.mk (some 23) none (.mv (.tmp 22))), (.mk (some 24) (some (23, true)) (.fldA 3 (.tmp 1))), (.mk (some 25) (some (23, true)) (.load false 1 (.tmp 24))), (.mk (some 26) (some (23, true)) (.bin .eql (.tmp 25) (.const (.int .i64 0)))), (.mk (some 27) (some (23, true)) (.mv (.tmp 26))), (.mk (some 28) (some (27, false)) (.fldA 0 (.tmp 1))), (.mk (some 29) (some (27, false)) (.load false 1 (.tmp 28))), (.mk (some 30) (some (27, false)) (.call 182 [(.tmp 29)])), (.mk (some 31) (some (23, true)) (.pick (.tmp 27) (.const (.bool true)) (.tmp 30))), (.mk (some 32) none (.pick (.tmp 23) (.tmp 31) (.const (.bool false)))), (.mk (some 2) none (.mv (.tmp 32)))]
def k2_cap_Good : ACode := (.seq (.reg r3_cap_Good) .ret)
def k0_cap_Good : ACode := (.seq (.seq (.reg r1_cap_Good) k1_cap_Good) k2_cap_Good)
def c_cap_Good : ACode := (.seq (.reg r0_cap_Good) k0_cap_Good)
theorem e_cap_Good : ofProg Tryz.prog 120 = some ⟨33, [(.tmp 2)], c_cap_Good⟩ := by kernel_rfl
def r0_geo_Root : List AOper := [(.mk (some 2) none (.box 3 (.tmp 0))), (.mk (some 4) none (.mv (.const (.int .i64 0))))]
def r1_geo_Root : List AOper := [(.mk (some 5) none (.load true 3 (.tmp 2))), (.mk (some 6) none (.call 56 [(.tmp 5)])), (.mk (some 7) none (.un .not (.tmp 6))), (.mk (some 8) none (.mv (.tmp 7))), (.mk (some 9) (some (8, false)) (.mv (.tmp 1))), (.mk (some 10) (some (8, false)) (.fldA 0 (.tmp 2))), (.mk (some 11) (some (8, false)) (.load false 1 (.tmp 10))), (.mk (some 12) (some (8, false)) (.bin .sub (.tmp 11) (.const (.int .i64 1)))), (.mk (some 13) (some (8, false)) (.call 119 [(.tmp 9), (.const (.int .i64 0)), (.tmp 12)])), (.mk (some 14) (some (8, false)) (.un .not (.tmp 13))), (.mk (some 15) none (.pick (.tmp 8) (.const (.bool true)) (.tmp 14)))]
def r2_geo_Root : List AOper := [(.mk (some 4) none (.mv (.const (.int .i64 0))))]
def k1_geo_Root : ACode := (.cond (.tmp 15) (.seq (.reg r2_geo_Root) .ret) .skip)
def r3_geo_Root : List AOper := [(.mk (some 16) none (.mv (.tmp 1))), (.mk (some 17) none (.bin .mul (.const (.int .i64 8)) (.tmp 16))), (.mk (some 4) none (.mv (.tmp 17)))]
def k2_geo_Root : ACode := (.seq (.reg r3_geo_Root) .ret)
def k0_geo_Root : ACode := (.seq (.seq (.reg r1_geo_Root) k1_geo_Root) k2_geo_Root)
def c_geo_Root : ACode := (.seq (.reg r0_geo_Root) k0_geo_Root)
theorem e_geo_Root : ofProg Tryz.prog 123 = some ⟨18, [(.tmp 4)], c_geo_Root⟩ := by kernel_rfl
theorem geo_in_ok (d : Nat) (σ : AHeap) (n lo hi : Int) : acall (ofProg Tryz.prog) 1000 (d + 1) 119 [.int .i64 n, .int .i64 lo, .int .i64 hi] σ = some (.bool (decide (lo ≤ n ∧ n ≤ hi)), σ) := by
  refine acall_flat e_geo_in (by simp) rfl ?_
  by_cases h1 : lo ≤ n <;> by_cases h2 : n ≤ hi <;> simp (disch := omega) only [h1, h2, r0_geo_in, r1_geo_in, k0_geo_in, c_geo_in, Z0, Z1, Z2, Z3, Z4, Z5, Z6, Z7, Z8, Z9, Z10, resAll, Nat.reduceAdd, Nat.reduceEqDiff, Nat.reduceLeDiff, Nat.reduceMul, ↓reduceIte, reduceCtorEq, Nat.reduceBEq, aoper, Nat.reduceLT, Int.reduceEq, Int.reduceLT, Int.reduceLE]
theorem find_in_ok (d : Nat) (σ : AHeap) (n lo hi : Int) : acall (ofProg Tryz.prog) 1000 (d + 1) 86 [.int .i64 n, .int .i64 lo, .int .i64 hi] σ = some (.bool (decide (lo ≤ n ∧ n ≤ hi)), σ) := by
  refine acall_flat e_find_in (by simp) rfl ?_
  by_cases h1 : lo ≤ n <;> by_cases h2 : n ≤ hi <;> simp (disch := omega) only [h1, h2, r0_find_in, r1_find_in, k0_find_in, c_find_in, Z0, Z1, Z2, Z3, Z4, Z5, Z6, Z7, Z8, Z9, Z10, resAll, Nat.reduceAdd, Nat.reduceEqDiff, Nat.reduceLeDiff, Nat.reduceMul, ↓reduceIte, reduceCtorEq, Nat.reduceBEq, aoper, Nat.reduceLT, Int.reduceEq, Int.reduceLT, Int.reduceLE]
theorem thing_in_ok (d : Nat) (σ : AHeap) (n lo hi : Int) : acall (ofProg Tryz.prog) 1000 (d + 1) 184 [.int .i64 n, .int .i64 lo, .int .i64 hi] σ = some (.bool (decide (lo ≤ n ∧ n ≤ hi)), σ) := by
  refine acall_flat e_thing_in (by simp) rfl ?_
  by_cases h1 : lo ≤ n <;> by_cases h2 : n ≤ hi <;> simp (disch := omega) only [h1, h2, r0_thing_in, r1_thing_in, k0_thing_in, c_thing_in, Z0, Z1, Z2, Z3, Z4, Z5, Z6, Z7, Z8, Z9, Z10, resAll, Nat.reduceAdd, Nat.reduceEqDiff, Nat.reduceLeDiff, Nat.reduceMul, ↓reduceIte, reduceCtorEq, Nat.reduceBEq, aoper, Nat.reduceLT, Int.reduceEq, Int.reduceLT, Int.reduceLE]
theorem cap_in_ok (d : Nat) (σ : AHeap) (n lo hi : Int) : acall (ofProg Tryz.prog) 1000 (d + 1) 180 [.int .i64 n, .int .i64 lo, .int .i64 hi] σ = some (.bool (decide (lo ≤ n ∧ n ≤ hi)), σ) := by
  refine acall_flat e_cap_in (by simp) rfl ?_
  by_cases h1 : lo ≤ n <;> by_cases h2 : n ≤ hi <;> simp (disch := omega) only [h1, h2, r0_cap_in, r1_cap_in, k0_cap_in, c_cap_in, Z0, Z1, Z2, Z3, Z4, Z5, Z6, Z7, Z8, Z9, Z10, resAll, Nat.reduceAdd, Nat.reduceEqDiff, Nat.reduceLeDiff, Nat.reduceMul, ↓reduceIte, reduceCtorEq, Nat.reduceBEq, aoper, Nat.reduceLT, Int.reduceEq, Int.reduceLT, Int.reduceLE]
theorem right_Good_ok (d : Nat) (σ : AHeap) (n : Int) : acall (ofProg Tryz.prog) 1000 (d + 1) 176 [.int .i64 n] σ = some (.bool (decide (0 ≤ n ∧ n ≤ 7)), σ) := by
  refine acall_flat e_right_Good (by simp) rfl ?_
  by_cases h1 : 0 ≤ n <;> by_cases h2 : n ≤ 7 <;> simp (disch := omega) only [h1, h2, r0_right_Good, r1_right_Good, k0_right_Good, c_right_Good, Z0, Z1, Z2, Z3, Z4, Z5, Z6, Z7, Z8, Z9, Z10, resAll, Nat.reduceAdd, Nat.reduceEqDiff, Nat.reduceLeDiff, Nat.reduceMul, ↓reduceIte, reduceCtorEq, Nat.reduceBEq, aoper, Nat.reduceLT, Int.reduceEq, Int.reduceLT, Int.reduceLE]
theorem right_Badge_ok (d : Nat) (σ : AHeap) (n : Int) : acall (ofProg Tryz.prog) 1000 (d + 1) 181 [.int .i64 n] σ = some (.bool (decide (0 ≤ n ∧ n ≤ 65535)), σ) := by
  refine acall_flat e_right_Badge (by simp) rfl ?_
  by_cases h1 : 0 ≤ n <;> by_cases h2 : n ≤ 65535 <;> simp (disch := omega) only [h1, h2, r0_right_Badge, r1_right_Badge, k0_right_Badge, c_right_Badge, Z0, Z1, Z2, Z3, Z4, Z5, Z6, Z7, Z8, Z9, Z10, resAll, Nat.reduceAdd, Nat.reduceEqDiff, Nat.reduceLeDiff, Nat.reduceMul, ↓reduceIte, reduceCtorEq, Nat.reduceBEq, aoper, Nat.reduceLT, Int.reduceEq, Int.reduceLT, Int.reduceLE]
theorem cap_badged_ok (d : Nat) (σ : AHeap) (n : Int) : acall (ofProg Tryz.prog) 1000 (d + 1) 182 [.int .i64 n] σ = some (.bool (decide (n = 3 ∨ n = 4)), σ) := by
  refine acall_flat e_cap_badged (by simp) rfl ?_
  by_cases h1 : n = 3
  · simp (disch := omega) only [eq_true h1, true_or, r0_cap_badged, r1_cap_badged, k0_cap_badged, c_cap_badged, Z0, Z1, Z2, Z3, Z4, Z5, Z6, Z7, Z8, Z9, Z10, resAll, Nat.reduceAdd, Nat.reduceEqDiff, Nat.reduceLeDiff, Nat.reduceMul, ↓reduceIte, reduceCtorEq, Nat.reduceBEq, aoper, Nat.reduceLT, Int.reduceEq, Int.reduceLT, Int.reduceLE]
  · by_cases h2 : n = 4
    · simp (disch := omega) only [h1, eq_true h2, or_true, r0_cap_badged, r1_cap_badged, k0_cap_badged, c_cap_badged, Z0, Z1, Z2, Z3, Z4, Z5, Z6, Z7, Z8, Z9, Z10, resAll, Nat.reduceAdd, Nat.reduceEqDiff, Nat.reduceLeDiff, Nat.reduceMul, ↓reduceIte, reduceCtorEq, Nat.reduceBEq, aoper, Nat.reduceLT, Int.reduceEq, Int.reduceLT, Int.reduceLE]
    · simp (disch := omega) only [h1, h2, or_self, r0_cap_badged, r1_cap_badged, k0_cap_badged, c_cap_badged, Z0, Z1, Z2, Z3, Z4, Z5, Z6, Z7, Z8, Z9, Z10, resAll, Nat.reduceAdd, Nat.reduceEqDiff, Nat.reduceLeDiff, Nat.reduceMul, ↓reduceIte, reduceCtorEq, Nat.reduceBEq, aoper, Nat.reduceLT, Int.reduceEq, Int.reduceLT, Int.reduceLE]
def goodGeo (T S H : Int) : Prop := (1 ≤ T ∧ T ≤ 4) ∧ (8 * T ≤ S ∧ S ≤ 96) ∧ S.tmod 8 = 0 ∧ (T + 2 ≤ H ∧ H ≤ 48)
instance (T S H : Int) : Decidable (goodGeo T S H) := by unfold goodGeo; infer_instance
theorem geo_Good_ok (d : Nat) (σ : AHeap) (T S H : Int) : acall (ofProg Tryz.prog) 1000 (d + 2) 56 [.agg [.int .i64 T, .int .i64 S, .int .i64 H].toArray] σ = some (.bool (decide (goodGeo T S H)), σ) := by
  refine acall_flat e_geo_Good (by simp) rfl ?_
  unfold goodGeo
  by_cases h1 : 1 ≤ T ∧ T ≤ 4
  · by_cases h2 : 8 * T ≤ S ∧ S ≤ 96
    · by_cases h3 : S.tmod 8 = 0
      · by_cases h4 : T + 2 ≤ H ∧ H ≤ 48
        · simp (disch := omega) only [h1, h2, h3, h4, geo_in_ok, r0_geo_Good, r1_geo_Good, k0_geo_Good, c_geo_Good, Z0, Z1, Z2, Z3, Z4, Z5, Z6, Z7, Z8, Z9, Z10, resAll, Nat.reduceAdd, Nat.reduceEqDiff, Nat.reduceLeDiff, Nat.reduceMul, ↓reduceIte, reduceCtorEq, Nat.reduceBEq, aoper, Nat.reduceLT, Int.reduceEq, Int.reduceLT, Int.reduceLE]
        · simp (disch := omega) only [h1, h2, h3, h4, geo_in_ok, r0_geo_Good, r1_geo_Good, k0_geo_Good, c_geo_Good, Z0, Z1, Z2, Z3, Z4, Z5, Z6, Z7, Z8, Z9, Z10, resAll, Nat.reduceAdd, Nat.reduceEqDiff, Nat.reduceLeDiff, Nat.reduceMul, ↓reduceIte, reduceCtorEq, Nat.reduceBEq, aoper, Nat.reduceLT, Int.reduceEq, Int.reduceLT, Int.reduceLE]
      · simp (disch := omega) only [h1, h2, h3, geo_in_ok, r0_geo_Good, r1_geo_Good, k0_geo_Good, c_geo_Good, Z0, Z1, Z2, Z3, Z4, Z5, Z6, Z7, Z8, Z9, Z10, resAll, Nat.reduceAdd, Nat.reduceEqDiff, Nat.reduceLeDiff, Nat.reduceMul, ↓reduceIte, reduceCtorEq, Nat.reduceBEq, aoper, Nat.reduceLT, Int.reduceEq, Int.reduceLT, Int.reduceLE]
    · simp (disch := omega) only [h1, h2, geo_in_ok, r0_geo_Good, r1_geo_Good, k0_geo_Good, c_geo_Good, Z0, Z1, Z2, Z3, Z4, Z5, Z6, Z7, Z8, Z9, Z10, resAll, Nat.reduceAdd, Nat.reduceEqDiff, Nat.reduceLeDiff, Nat.reduceMul, ↓reduceIte, reduceCtorEq, Nat.reduceBEq, aoper, Nat.reduceLT, Int.reduceEq, Int.reduceLT, Int.reduceLE]
  · simp (disch := omega) only [h1, geo_in_ok, r0_geo_Good, r1_geo_Good, k0_geo_Good, c_geo_Good, Z0, Z1, Z2, Z3, Z4, Z5, Z6, Z7, Z8, Z9, Z10, resAll, Nat.reduceAdd, Nat.reduceEqDiff, Nat.reduceLeDiff, Nat.reduceMul, ↓reduceIte, reduceCtorEq, Nat.reduceBEq, aoper, Nat.reduceLT, Int.reduceEq, Int.reduceLT, Int.reduceLE]
def rootI (T S H t : Int) : Int := if goodGeo T S H ∧ 0 ≤ t ∧ t ≤ T - 1 then 8 * t else 0
theorem geo_Root_ok (d : Nat) (σ : AHeap) (T S H t : Int) : acall (ofProg Tryz.prog) 1000 (d + 3) 123 [.agg [.int .i64 T, .int .i64 S, .int .i64 H].toArray, .int .i64 t] σ = some (.int .i64 (rootI T S H t), σ) := by
  refine acall_flat e_geo_Root (by simp) rfl ?_
  unfold rootI
  by_cases h1 : goodGeo T S H
  · have h1' := h1.1
    by_cases h2 : 0 ≤ t ∧ t ≤ T - 1
    · simp (disch := omega) only [h1, h2, geo_in_ok, geo_Good_ok, r0_geo_Root, r1_geo_Root, r2_geo_Root, k1_geo_Root, r3_geo_Root, k2_geo_Root, k0_geo_Root, c_geo_Root, Z0, Z1, Z2, Z3, Z4, Z5, Z6, Z7, Z8, Z9, Z10, resAll, Nat.reduceAdd, Nat.reduceEqDiff, Nat.reduceLeDiff, Nat.reduceMul, ↓reduceIte, reduceCtorEq, Nat.reduceBEq, aoper, Nat.reduceLT, Int.reduceEq, Int.reduceLT, Int.reduceLE]
    · simp (disch := omega) only [h1, h2, geo_in_ok, geo_Good_ok, r0_geo_Root, r1_geo_Root, r2_geo_Root, k1_geo_Root, r3_geo_Root, k2_geo_Root, k0_geo_Root, c_geo_Root, Z0, Z1, Z2, Z3, Z4, Z5, Z6, Z7, Z8, Z9, Z10, resAll, Nat.reduceAdd, Nat.reduceEqDiff, Nat.reduceLeDiff, Nat.reduceMul, ↓reduceIte, reduceCtorEq, Nat.reduceBEq, aoper, Nat.reduceLT, Int.reduceEq, Int.reduceLT, Int.reduceLE]
  · simp (disch := omega) only [h1, geo_Good_ok, r0_geo_Root, r1_geo_Root, r2_geo_Root, k1_geo_Root, r3_geo_Root, k2_geo_Root, k0_geo_Root, c_geo_Root, Z0, Z1, Z2, Z3, Z4, Z5, Z6, Z7, Z8, Z9, Z10, resAll, Nat.reduceAdd, Nat.reduceEqDiff, Nat.reduceLeDiff, Nat.reduceMul, ↓reduceIte, reduceCtorEq, Nat.reduceBEq, aoper, Nat.reduceLT, Int.reduceEq, Int.reduceLT, Int.reduceLE]
def capNone (x : SlotD) : Bool := eq4 x.type x.thing x.rights x.badge 0 0 0 0
theorem cap_None_ok (d : Nat) (σ : AHeap) (x : SlotD) : acall (ofProg Tryz.prog) 1000 (d + 1) 38 [capV x] σ = some (.bool (capNone x), σ) := by
  refine acall_flat e_cap_None (by simp) rfl ?_
  simp (disch := omega) only [capNone, r0_cap_None, r1_cap_None, k0_cap_None, c_cap_None, Z0, Z1, Z2, Z3, Z4, Z5, Z6, Z7, Z8, Z9, Z10, resAll, Nat.reduceAdd, Nat.reduceEqDiff, Nat.reduceLeDiff, Nat.reduceMul, ↓reduceIte, reduceCtorEq, Nat.reduceBEq, aoper, Nat.reduceLT, Int.reduceEq, Int.reduceLT, Int.reduceLE]
def capGood (x : SlotD) : Bool := capNone x || (decide (1 ≤ x.type ∧ x.type ≤ 5) && decide (0 ≤ x.thing ∧ x.thing ≤ 47) && decide (0 ≤ x.rights ∧ x.rights ≤ 7) && decide (0 ≤ x.badge ∧ x.badge ≤ 65535) && (decide (x.badge = 0) || decide (x.type = 3 ∨ x.type = 4)))
theorem cap_Good_ok (d : Nat) (σ : AHeap) (x : SlotD) : acall (ofProg Tryz.prog) 1000 (d + 2) 120 [capV x] σ = some (.bool (capGood x), σ) := by
  refine acall_flat e_cap_Good (by simp) rfl ?_
  unfold capGood
  cases h0 : capNone x with
  | true => simp (disch := omega) only [h0, cap_None_ok, Bool.true_or, r0_cap_Good, r1_cap_Good, r2_cap_Good, k1_cap_Good, r3_cap_Good, k2_cap_Good, k0_cap_Good, c_cap_Good, Z0, Z1, Z2, Z3, Z4, Z5, Z6, Z7, Z8, Z9, Z10, resAll, Nat.reduceAdd, Nat.reduceEqDiff, Nat.reduceLeDiff, Nat.reduceMul, ↓reduceIte, reduceCtorEq, Nat.reduceBEq, aoper, Nat.reduceLT, Int.reduceEq, Int.reduceLT, Int.reduceLE]
  | false =>
    by_cases h1 : 1 ≤ x.type ∧ x.type ≤ 5
    · by_cases h2 : 0 ≤ x.thing ∧ x.thing ≤ 47
      · by_cases h3 : 0 ≤ x.rights ∧ x.rights ≤ 7
        · by_cases h4 : 0 ≤ x.badge ∧ x.badge ≤ 65535
          · by_cases h5 : x.badge = 0
            · simp (disch := omega) only [h0, h1, h2, h3, h4, eq_true h5, cap_None_ok, cap_in_ok, right_Good_ok, right_Badge_ok, cap_badged_ok, Bool.true_or, Bool.false_or, r0_cap_Good, r1_cap_Good, r2_cap_Good, k1_cap_Good, r3_cap_Good, k2_cap_Good, k0_cap_Good, c_cap_Good, Z0, Z1, Z2, Z3, Z4, Z5, Z6, Z7, Z8, Z9, Z10, resAll, Nat.reduceAdd, Nat.reduceEqDiff, Nat.reduceLeDiff, Nat.reduceMul, ↓reduceIte, reduceCtorEq, Nat.reduceBEq, aoper, Nat.reduceLT, Int.reduceEq, Int.reduceLT, Int.reduceLE]
            · by_cases h6 : x.type = 3 ∨ x.type = 4
              · simp (disch := omega) only [h0, h1, h2, h3, h4, h5, h6, cap_None_ok, cap_in_ok, right_Good_ok, right_Badge_ok, cap_badged_ok, Bool.true_or, Bool.false_or, r0_cap_Good, r1_cap_Good, r2_cap_Good, k1_cap_Good, r3_cap_Good, k2_cap_Good, k0_cap_Good, c_cap_Good, Z0, Z1, Z2, Z3, Z4, Z5, Z6, Z7, Z8, Z9, Z10, resAll, Nat.reduceAdd, Nat.reduceEqDiff, Nat.reduceLeDiff, Nat.reduceMul, ↓reduceIte, reduceCtorEq, Nat.reduceBEq, aoper, Nat.reduceLT, Int.reduceEq, Int.reduceLT, Int.reduceLE]
              · simp (disch := omega) only [h0, h1, h2, h3, h4, h5, h6, cap_None_ok, cap_in_ok, right_Good_ok, right_Badge_ok, cap_badged_ok, Bool.true_or, Bool.false_or, r0_cap_Good, r1_cap_Good, r2_cap_Good, k1_cap_Good, r3_cap_Good, k2_cap_Good, k0_cap_Good, c_cap_Good, Z0, Z1, Z2, Z3, Z4, Z5, Z6, Z7, Z8, Z9, Z10, resAll, Nat.reduceAdd, Nat.reduceEqDiff, Nat.reduceLeDiff, Nat.reduceMul, ↓reduceIte, reduceCtorEq, Nat.reduceBEq, aoper, Nat.reduceLT, Int.reduceEq, Int.reduceLT, Int.reduceLE]
          · simp (disch := omega) only [h0, h1, h2, h3, h4, cap_None_ok, cap_in_ok, right_Good_ok, right_Badge_ok, Bool.false_or, Bool.and_false, Bool.false_and, r0_cap_Good, r1_cap_Good, r2_cap_Good, k1_cap_Good, r3_cap_Good, k2_cap_Good, k0_cap_Good, c_cap_Good, Z0, Z1, Z2, Z3, Z4, Z5, Z6, Z7, Z8, Z9, Z10, resAll, Nat.reduceAdd, Nat.reduceEqDiff, Nat.reduceLeDiff, Nat.reduceMul, ↓reduceIte, reduceCtorEq, Nat.reduceBEq, aoper, Nat.reduceLT, Int.reduceEq, Int.reduceLT, Int.reduceLE]
        · simp (disch := omega) only [h0, h1, h2, h3, cap_None_ok, cap_in_ok, right_Good_ok, Bool.false_or, Bool.and_false, Bool.false_and, r0_cap_Good, r1_cap_Good, r2_cap_Good, k1_cap_Good, r3_cap_Good, k2_cap_Good, k0_cap_Good, c_cap_Good, Z0, Z1, Z2, Z3, Z4, Z5, Z6, Z7, Z8, Z9, Z10, resAll, Nat.reduceAdd, Nat.reduceEqDiff, Nat.reduceLeDiff, Nat.reduceMul, ↓reduceIte, reduceCtorEq, Nat.reduceBEq, aoper, Nat.reduceLT, Int.reduceEq, Int.reduceLT, Int.reduceLE]
      · simp (disch := omega) only [h0, h1, h2, cap_None_ok, cap_in_ok, Bool.false_or, Bool.and_false, Bool.false_and, r0_cap_Good, r1_cap_Good, r2_cap_Good, k1_cap_Good, r3_cap_Good, k2_cap_Good, k0_cap_Good, c_cap_Good, Z0, Z1, Z2, Z3, Z4, Z5, Z6, Z7, Z8, Z9, Z10, resAll, Nat.reduceAdd, Nat.reduceEqDiff, Nat.reduceLeDiff, Nat.reduceMul, ↓reduceIte, reduceCtorEq, Nat.reduceBEq, aoper, Nat.reduceLT, Int.reduceEq, Int.reduceLT, Int.reduceLE]
    · simp (disch := omega) only [h0, h1, cap_None_ok, cap_in_ok, Bool.false_or, Bool.and_false, Bool.false_and, r0_cap_Good, r1_cap_Good, r2_cap_Good, k1_cap_Good, r3_cap_Good, k2_cap_Good, k0_cap_Good, c_cap_Good, Z0, Z1, Z2, Z3, Z4, Z5, Z6, Z7, Z8, Z9, Z10, resAll, Nat.reduceAdd, Nat.reduceEqDiff, Nat.reduceLeDiff, Nat.reduceMul, ↓reduceIte, reduceCtorEq, Nat.reduceBEq, aoper, Nat.reduceLT, Int.reduceEq, Int.reduceLT, Int.reduceLE]
end Go.Proofs.YtidmcpkbcphpiaaGreat
namespace Go.Proofs.YtidmcpkbcphpiaaGreat
open Go Go.Hai
set_option maxRecDepth 20000
set_option linter.unusedSimpArgs false
attribute [local irreducible] Hai.Ends EndsR EndsO EndsD AHeap.grow
def r0_thing_own : List AOper := [(.mk (some 1) none (.box 13 (.tmp 0))), (.mk (some 2) none (.alloc [(.int .i64 0), (.int .i64 0), (.int .i64 0), (.int .i64 0), (.int .i64 0), (.int .i64 0), (.int .i64 0), (.bool false), (.int .u64 0), (.int .u64 0), (.int .u64 0), (.int .u64 0), (.int .u64 0)] 13))]
def r1_thing_own : List AOper := [(.mk (some 3) none (.fldA 0 (.tmp 1))), (.mk (some 4) none (.load false 1 (.tmp 3)))]
def r2_thing_own : List AOper := [(.mk (some 6) none (.bin .eql (.tmp 4) (.const (.int .i64 1)))), (.mk (some 5) none (.mv (.tmp 6)))]
def r3_thing_own : List AOper := [(.mk (some 7) none (.fldA 0 (.tmp 1))), (.mk (some 8) none (.load false 1 (.tmp 7))), (.mk (some 9) none (.fldA 3 (.tmp 1))), (.mk (some 10) none (.load false 1 (.tmp 9))), (.mk (some 11) none (.fldA 4 (.tmp 1))), (.mk (some 12) none (.load false 1 (.tmp 11))), (.mk (some 13) none (.build [(.int .i64 0), (.int .i64 0), (.int .i64 0), (.int .i64 0), (.int .i64 0), (.int .i64 0), (.int .i64 0), (.bool false), (.int .u64 0), (.int .u64 0), (.int .u64 0), (.int .u64 0), (.int .u64 0)] [(0, (1, (.tmp 8))), (3, (1, (.tmp 10))), (4, (1, (.tmp 12)))])), (.mk none none (.store 13 (.tmp 2) (.tmp 13)))]
def r4_thing_own : List AOper := [(.mk (some 15) none (.bin .eql (.tmp 4) (.const (.int .i64 2)))), (.mk (some 14) none (.mv (.tmp 15)))]
def r5_thing_own : List AOper := [(.mk (some 16) none (.fldA 0 (.tmp 1))), (.mk (some 17) none (.load false 1 (.tmp 16))), (.mk (some 18) none (.fldA 1 (.tmp 1))), (.mk (some 19) none (.load false 1 (.tmp 18))), (.mk (some 20) none (.fldA 2 (.tmp 1))), (.mk (some 21) none (.load false 1 (.tmp 20))), (.mk (some 22) none (.build [(.int .i64 0), (.int .i64 0), (.int .i64 0), (.int .i64 0), (.int .i64 0), (.int .i64 0), (.int .i64 0), (.bool false), (.int .u64 0), (.int .u64 0), (.int .u64 0), (.int .u64 0), (.int .u64 0)] [(0, (1, (.tmp 17))), (1, (1, (.tmp 19))), (2, (1, (.tmp 21)))])), (.mk none none (.store 13 (.tmp 2) (.tmp 22)))]
def r6_thing_own : List AOper := [(.mk (some 24) none (.bin .eql (.tmp 4) (.const (.int .i64 3)))), (.mk (some 23) none (.mv (.tmp 24)))]
def r7_thing_own : List AOper := [(.mk (some 25) none (.fldA 7 (.tmp 1))), (.mk (some 26) none (.load false 1 (.tmp 25))), (.mk (some 27) none (.un .not (.tmp 26)))]
def r8_thing_own : List AOper := [(.mk (some 28) none (.fldA 0 (.tmp 1))), (.mk (some 29) none (.load false 1 (.tmp 28))), (.mk (some 30) none (.build [(.int .i64 0), (.int .i64 0), (.int .i64 0), (.int .i64 0), (.int .i64 0), (.int .i64 0), (.int .i64 0), (.bool false), (.int .u64 0), (.int .u64 0), (.int .u64 0), (.int .u64 0), (.int .u64 0)] [(0, (1, (.tmp 29)))])), (.mk none none (.store 13 (.tmp 2) (.tmp 30)))]
def k5_thing_own : ACode := (.cond (.tmp 27) (.seq (.reg r8_thing_own) .ret) .skip)
def r9_thing_own : List AOper := [(.mk (some 31) none (.fldA 0 (.tmp 1))), (.mk (some 32) none (.load false 1 (.tmp 31))), (.mk (some 33) none (.fldA 8 (.tmp 1))), (.mk (some 34) none (.load false 1 (.tmp 33))), (.mk (some 35) none (.fldA 6 (.tmp 1))), (.mk (some 36) none (.load false 1 (.tmp 35))), (.mk (some 37) none (.fldA 5 (.tmp 1))), (.mk (some 38) none (.load false 1 (.tmp 37))), (.mk (some 39) none (.build [(.int .i64 0), (.int .i64 0), (.int .i64 0), (.int .i64 0), (.int .i64 0), (.int .i64 0), (.int .i64 0), (.bool false), (.int .u64 0), (.int .u64 0), (.int .u64 0), (.int .u64 0), (.int .u64 0)] [(0, (1, (.tmp 32))), (7, (1, (.const (.bool true)))), (8, (1, (.tmp 34))), (6, (1, (.tmp 36))), (5, (1, (.tmp 38)))])), (.mk none none (.store 13 (.tmp 2) (.tmp 39)))]
def k6_thing_own : ACode := (.seq (.reg r9_thing_own) .ret)
def r10_thing_own : List AOper := [(.mk (some 41) none (.bin .eql (.tmp 4) (.const (.int .i64 4)))), (.mk (some 40) none (.mv (.tmp 41)))]
def r11_thing_own : List AOper := [(.mk (some 42) none (.fldA 0 (.tmp 1))), (.mk (some 43) none (.load false 1 (.tmp 42))), (.mk (some 44) none (.fldA 8 (.tmp 1))), (.mk (some 45) none (.load false 1 (.tmp 44))), (.mk (some 46) none (.build [(.int .i64 0), (.int .i64 0), (.int .i64 0), (.int .i64 0), (.int .i64 0), (.int .i64 0), (.int .i64 0), (.bool false), (.int .u64 0), (.int .u64 0), (.int .u64 0), (.int .u64 0), (.int .u64 0)] [(0, (1, (.tmp 43))), (8, (1, (.tmp 45)))])), (.mk none none (.store 13 (.tmp 2) (.tmp 46)))]
def r12_thing_own : List AOper := [(.mk (some 48) none (.bin .eql (.tmp 4) (.const (.int .i64 5)))), (.mk (some 47) none (.mv (.tmp 48)))]
def r13_thing_own : List AOper := [(.mk (some 49) none (.fldA 0 (.tmp 1))), (.mk (some 50) none (.load false 1 (.tmp 49))), (.mk (some 51) none (.fldA 9 (.tmp 1))), (.mk (some 52) none (.load true 4 (.tmp 51))), (.mk (some 53) none (.build [(.int .i64 0), (.int .i64 0), (.int .i64 0), (.int .i64 0), (.int .i64 0), (.int .i64 0), (.int .i64 0), (.bool false), (.int .u64 0), (.int .u64 0), (.int .u64 0), (.int .u64 0), (.int .u64 0)] [(0, (1, (.tmp 50))), (9, (4, (.tmp 52)))])), (.mk none none (.store 13 (.tmp 2) (.tmp 53)))]
def k8_thing_own : ACode := (.cond (.tmp 47) (.seq (.reg r13_thing_own) .ret) .skip)
def k7_thing_own : ACode := (.cond (.tmp 40) (.seq (.reg r11_thing_own) .ret) (.seq (.reg r12_thing_own) k8_thing_own))
def k4_thing_own : ACode := (.cond (.tmp 23) (.seq (.seq (.reg r7_thing_own) k5_thing_own) k6_thing_own) (.seq (.reg r10_thing_own) k7_thing_own))
def k3_thing_own : ACode := (.cond (.tmp 14) (.seq (.reg r5_thing_own) .ret) (.seq (.reg r6_thing_own) k4_thing_own))
def k2_thing_own : ACode := (.cond (.tmp 5) (.seq (.reg r3_thing_own) .ret) (.seq (.reg r4_thing_own) k3_thing_own))
def k1_thing_own : ACode := (.block 0 (.seq (.reg r2_thing_own) k2_thing_own))
def r14_thing_own : List AOper := [(.mk (some 54) none (.build [(.int .i64 0), (.int .i64 0), (.int .i64 0), (.int .i64 0), (.int .i64 0), (.int .i64 0), (.int .i64 0), (.bool false), (.int .u64 0), (.int .u64 0), (.int .u64 0), (.int .u64 0), (.int .u64 0)] [])), (.mk none none (.store 13 (.tmp 2) (.tmp 54)))]
def k9_thing_own : ACode := (.seq (.reg r14_thing_own) .ret)
def k0_thing_own : ACode := (.seq (.seq (.reg r1_thing_own) k1_thing_own) k9_thing_own)
def c_thing_own : ACode := (.seq (.reg r0_thing_own) k0_thing_own)
theorem e_thing_own : ofProg Tryz.prog 183 = some ⟨55, [(.cell 2 true 13)], c_thing_own⟩ := by kernel_rfl
def r0_thing_Good : List AOper := [(.mk (some 1) none (.box 13 (.tmp 0))), (.mk (some 2) none (.mv (.const (.bool false))))]
def r1_thing_Good : List AOper := [(.mk (some 3) none (.load true 13 (.tmp 1))), (.mk (some 4) none (.call 183 [(.tmp 3)])), (.mk (some 5) none (.load true 13 (.tmp 1))), (.mk (some 6) none (.eqS true [(0, 0), (1, 0), (2, 0), (3, 0), (4, 0), (5, 0), (6, 0), (7, 1), (8, 0), (9, 0), (10, 0), (11, 0), (12, 0)] (.tmp 4) (.tmp 5)))]
def r2_thing_Good : List AOper := [(.mk (some 2) none (.mv (.const (.bool false))))]
def k1_thing_Good : ACode := (.cond (.tmp 6) (.seq (.reg r2_thing_Good) .ret) .skip)
def r3_thing_Good : List AOper := [(.mk (some 7) none (.fldA 0 (.tmp 1))), (.mk (some 8) none (.load false 1 (.tmp 7)))]
def r4_thing_Good : List AOper := [(.mk (some 10) none (.bin .eql (.tmp 8) (.const (.int .i64 1)))), (.mk (some 9) none (.mv (.tmp 10)))]
def r5_thing_Good : List AOper := [(.mk (some 11) none (.fldA 3 (.tmp 1))), (.mk (some 12) none (.load false 1 (.tmp 11))), (.mk (some 13) none (.call 184 [(.tmp 12), (.const (.int .i64 1)), (.const (.int .i64 4096))])), (.mk (some 14) none (.mv (.tmp 13))), (.mk (some 15) (some (14, true)) (.fldA 4 (.tmp 1))), (.mk (some 16) (some (14, true)) (.load false 1 (.tmp 15))), (.mk (some 17) (some (14, true)) (.fldA 3 (.tmp 1))), (.mk (some 18) (some (14, true)) (.load false 1 (.tmp 17))), (.mk (some 19) (some (14, true)) (.call 184 [(.tmp 16), (.const (.int .i64 0)), (.tmp 18)])), (.mk (some 20) none (.pick (.tmp 14) (.tmp 19) (.const (.bool false)))), (.mk (some 2) none (.mv (.tmp 20)))]
def r6_thing_Good : List AOper := [(.mk (some 22) none (.bin .eql (.tmp 8) (.const (.int .i64 2)))), (.mk (some 21) none (.mv (.tmp 22)))]
def r7_thing_Good : List AOper := [(.mk (some 23) none (.fldA 1 (.tmp 1))), (.mk (some 24) none (.load false 1 (.tmp 23))), (.mk (some 25) none (.call 184 [(.tmp 24), (.const (.int .i64 1)), (.const (.int .i64 4))])), (.mk (some 26) none (.mv (.tmp 25))), (.mk (some 27) (some (26, true)) (.fldA 2 (.tmp 1))), (.mk (some 28) (some (26, true)) (.load false 1 (.tmp 27))), (.mk (some 29) (some (26, true)) (.fldA 1 (.tmp 1))), (.mk (some 30) (some (26, true)) (.load false 1 (.tmp 29))), (.mk (some 31) (some (26, true)) (.bin .shl (.const (.int .i64 1)) (.tmp 30))), (.mk (some 32) (some (26, true)) (.bin .sub (.const (.int .i64 96)) (.tmp 31))), (.mk (some 33) (some (26, true)) (.call 184 [(.tmp 28), (.const (.int .i64 0)), (.tmp 32)])), (.mk (some 34) none (.pick (.tmp 26) (.tmp 33) (.const (.bool false)))), (.mk (some 2) none (.mv (.tmp 34)))]
def r8_thing_Good : List AOper := [(.mk (some 36) none (.bin .eql (.tmp 8) (.const (.int .i64 3)))), (.mk (some 35) none (.mv (.tmp 36)))]
def r9_thing_Good : List AOper := [(.mk (some 37) none (.fldA 6 (.tmp 1))), (.mk (some 38) none (.load false 1 (.tmp 37))), (.mk (some 39) none (.call 184 [(.tmp 38), (.const (.int .i64 0)), (.const (.int .i64 65535))])), (.mk (some 40) none (.mv (.tmp 39))), (.mk (some 41) (some (40, true)) (.fldA 5 (.tmp 1))), (.mk (some 42) (some (40, true)) (.load false 1 (.tmp 41))), (.mk (some 43) (some (40, true)) (.call 184 [(.tmp 42), (.const (.int .i64 0)), (.const (.int .i64 96))])), (.mk (some 44) none (.pick (.tmp 40) (.tmp 43) (.const (.bool false)))), (.mk (some 2) none (.mv (.tmp 44)))]
def k6_thing_Good : ACode := (.cond (.tmp 35) (.seq (.reg r9_thing_Good) .ret) .skip)
def k5_thing_Good : ACode := (.cond (.tmp 21) (.seq (.drw r7_thing_Good [0, 1, 3, 7, 15, 31, 15, 79, 207, 463, 1023, 2047, 4095]) .ret) (.seq (.reg r8_thing_Good) k6_thing_Good))
def k4_thing_Good : ACode := (.cond (.tmp 9) (.seq (.reg r5_thing_Good) .ret) (.seq (.reg r6_thing_Good) k5_thing_Good))
def k3_thing_Good : ACode := (.block 0 (.seq (.reg r4_thing_Good) k4_thing_Good))
def r10_thing_Good : List AOper := [(.mk (some 2) none (.mv (.const (.bool true))))]
def k7_thing_Good : ACode := (.seq (.reg r10_thing_Good) .ret)
def k2_thing_Good : ACode := (.seq (.seq (.reg r3_thing_Good) k3_thing_Good) k7_thing_Good)
def k0_thing_Good : ACode := (.seq (.seq (.drw r1_thing_Good [0, 1, 0, 7]) k1_thing_Good) k2_thing_Good)
def c_thing_Good : ACode := (.seq (.reg r0_thing_Good) k0_thing_Good)
theorem e_thing_Good : ofProg Tryz.prog 122 = some ⟨45, [(.tmp 2)], c_thing_Good⟩ := by kernel_rfl
def zeroT : ThingD := ⟨0, 0, 0, 0, 0, 0, 0, false, 0, 0, 0, 0, 0⟩
def thOwn (t : ThingD) : ThingD :=
  if t.type = 1 then { zeroT with type := t.type, size := t.size, used := t.used } else
  if t.type = 2 then { zeroT with type := t.type, bits := t.bits, base := t.base } else
  if t.type = 3 then (if t.full then { zeroT with type := t.type, full := true, word := t.word, badge := t.badge, frm := t.frm } else { zeroT with type := t.type }) else
  if t.type = 4 then { zeroT with type := t.type, word := t.word } else
  if t.type = 5 then { zeroT with type := t.type, d0 := t.d0, d1 := t.d1, d2 := t.d2, d3 := t.d3 } else zeroT
theorem thing_own_ok (d : Nat) (σ : AHeap) (t : ThingD) : acall (ofProg Tryz.prog) 1000 (d + 1) 183 [thingV t] σ = some (thingV (thOwn t), σ) := by
  refine acall_flat e_thing_own (by simp) rfl ?_
  unfold thOwn
  by_cases h1 : t.type = 1
  · simp (disch := omega) only [eq_true h1, zeroT, r0_thing_own, r1_thing_own, r2_thing_own, r3_thing_own, r4_thing_own, r5_thing_own, r6_thing_own, r7_thing_own, r8_thing_own, k5_thing_own, r9_thing_own, k6_thing_own, r10_thing_own, r11_thing_own, r12_thing_own, r13_thing_own, k8_thing_own, k7_thing_own, k4_thing_own, k3_thing_own, k2_thing_own, k1_thing_own, r14_thing_own, k9_thing_own, k0_thing_own, c_thing_own, Z0, Z1, Z2, Z3, Z4, Z5, Z6, Z7, Z8, Z9, Z10, resAll, Nat.reduceAdd, Nat.reduceEqDiff, Nat.reduceLeDiff, Nat.reduceMul, ↓reduceIte, reduceCtorEq, Nat.reduceBEq, aoper, Nat.reduceLT, Int.reduceEq, Int.reduceLT, Int.reduceLE]
  · by_cases h2 : t.type = 2
    · simp (disch := omega) only [h1, eq_true h2, zeroT, r0_thing_own, r1_thing_own, r2_thing_own, r3_thing_own, r4_thing_own, r5_thing_own, r6_thing_own, r7_thing_own, r8_thing_own, k5_thing_own, r9_thing_own, k6_thing_own, r10_thing_own, r11_thing_own, r12_thing_own, r13_thing_own, k8_thing_own, k7_thing_own, k4_thing_own, k3_thing_own, k2_thing_own, k1_thing_own, r14_thing_own, k9_thing_own, k0_thing_own, c_thing_own, Z0, Z1, Z2, Z3, Z4, Z5, Z6, Z7, Z8, Z9, Z10, resAll, Nat.reduceAdd, Nat.reduceEqDiff, Nat.reduceLeDiff, Nat.reduceMul, ↓reduceIte, reduceCtorEq, Nat.reduceBEq, aoper, Nat.reduceLT, Int.reduceEq, Int.reduceLT, Int.reduceLE]
    · by_cases h3 : t.type = 3
      · cases h6 : t.full with
        | true => simp (disch := omega) only [h1, h2, eq_true h3, h6, zeroT, r0_thing_own, r1_thing_own, r2_thing_own, r3_thing_own, r4_thing_own, r5_thing_own, r6_thing_own, r7_thing_own, r8_thing_own, k5_thing_own, r9_thing_own, k6_thing_own, r10_thing_own, r11_thing_own, r12_thing_own, r13_thing_own, k8_thing_own, k7_thing_own, k4_thing_own, k3_thing_own, k2_thing_own, k1_thing_own, r14_thing_own, k9_thing_own, k0_thing_own, c_thing_own, Z0, Z1, Z2, Z3, Z4, Z5, Z6, Z7, Z8, Z9, Z10, resAll, Nat.reduceAdd, Nat.reduceEqDiff, Nat.reduceLeDiff, Nat.reduceMul, ↓reduceIte, reduceCtorEq, Nat.reduceBEq, aoper, Nat.reduceLT, Int.reduceEq, Int.reduceLT, Int.reduceLE]
        | false => simp (disch := omega) only [h1, h2, eq_true h3, h6, zeroT, r0_thing_own, r1_thing_own, r2_thing_own, r3_thing_own, r4_thing_own, r5_thing_own, r6_thing_own, r7_thing_own, r8_thing_own, k5_thing_own, r9_thing_own, k6_thing_own, r10_thing_own, r11_thing_own, r12_thing_own, r13_thing_own, k8_thing_own, k7_thing_own, k4_thing_own, k3_thing_own, k2_thing_own, k1_thing_own, r14_thing_own, k9_thing_own, k0_thing_own, c_thing_own, Z0, Z1, Z2, Z3, Z4, Z5, Z6, Z7, Z8, Z9, Z10, resAll, Nat.reduceAdd, Nat.reduceEqDiff, Nat.reduceLeDiff, Nat.reduceMul, ↓reduceIte, reduceCtorEq, Nat.reduceBEq, aoper, Nat.reduceLT, Int.reduceEq, Int.reduceLT, Int.reduceLE]
      · by_cases h4 : t.type = 4
        · simp (disch := omega) only [h1, h2, h3, eq_true h4, zeroT, r0_thing_own, r1_thing_own, r2_thing_own, r3_thing_own, r4_thing_own, r5_thing_own, r6_thing_own, r7_thing_own, r8_thing_own, k5_thing_own, r9_thing_own, k6_thing_own, r10_thing_own, r11_thing_own, r12_thing_own, r13_thing_own, k8_thing_own, k7_thing_own, k4_thing_own, k3_thing_own, k2_thing_own, k1_thing_own, r14_thing_own, k9_thing_own, k0_thing_own, c_thing_own, Z0, Z1, Z2, Z3, Z4, Z5, Z6, Z7, Z8, Z9, Z10, resAll, Nat.reduceAdd, Nat.reduceEqDiff, Nat.reduceLeDiff, Nat.reduceMul, ↓reduceIte, reduceCtorEq, Nat.reduceBEq, aoper, Nat.reduceLT, Int.reduceEq, Int.reduceLT, Int.reduceLE]
        · by_cases h5 : t.type = 5
          · simp (disch := omega) only [h1, h2, h3, h4, eq_true h5, zeroT, r0_thing_own, r1_thing_own, r2_thing_own, r3_thing_own, r4_thing_own, r5_thing_own, r6_thing_own, r7_thing_own, r8_thing_own, k5_thing_own, r9_thing_own, k6_thing_own, r10_thing_own, r11_thing_own, r12_thing_own, r13_thing_own, k8_thing_own, k7_thing_own, k4_thing_own, k3_thing_own, k2_thing_own, k1_thing_own, r14_thing_own, k9_thing_own, k0_thing_own, c_thing_own, Z0, Z1, Z2, Z3, Z4, Z5, Z6, Z7, Z8, Z9, Z10, resAll, Nat.reduceAdd, Nat.reduceEqDiff, Nat.reduceLeDiff, Nat.reduceMul, ↓reduceIte, reduceCtorEq, Nat.reduceBEq, aoper, Nat.reduceLT, Int.reduceEq, Int.reduceLT, Int.reduceLE]
          · simp (disch := omega) only [h1, h2, h3, h4, h5, zeroT, r0_thing_own, r1_thing_own, r2_thing_own, r3_thing_own, r4_thing_own, r5_thing_own, r6_thing_own, r7_thing_own, r8_thing_own, k5_thing_own, r9_thing_own, k6_thing_own, r10_thing_own, r11_thing_own, r12_thing_own, r13_thing_own, k8_thing_own, k7_thing_own, k4_thing_own, k3_thing_own, k2_thing_own, k1_thing_own, r14_thing_own, k9_thing_own, k0_thing_own, c_thing_own, Z0, Z1, Z2, Z3, Z4, Z5, Z6, Z7, Z8, Z9, Z10, resAll, Nat.reduceAdd, Nat.reduceEqDiff, Nat.reduceLeDiff, Nat.reduceMul, ↓reduceIte, reduceCtorEq, Nat.reduceBEq, aoper, Nat.reduceLT, Int.reduceEq, Int.reduceLT, Int.reduceLE]
def thEq (a b : ThingD) : Bool := eq13 a.type a.bits a.base a.size a.used a.frm a.badge a.full a.word a.d0 a.d1 a.d2 a.d3 b.type b.bits b.base b.size b.used b.frm b.badge b.full b.word b.d0 b.d1 b.d2 b.d3
def thGood (t : ThingD) : Bool := thEq (thOwn t) t && (
  if t.type = 1 then decide (1 ≤ t.size ∧ t.size ≤ 4096) && decide (0 ≤ t.used ∧ t.used ≤ t.size) else
  if t.type = 2 then decide (1 ≤ t.bits ∧ t.bits ≤ 4) && decide (0 ≤ t.base ∧ t.base ≤ 96 - pw t.bits) else
  if t.type = 3 then decide (0 ≤ t.badge ∧ t.badge ≤ 65535) && decide (0 ≤ t.frm ∧ t.frm ≤ 96) else true)
theorem thing_Good_ok (d : Nat) (σ : AHeap) (t : ThingD) : acall (ofProg Tryz.prog) 1000 (d + 2) 122 [thingV t] σ = some (.bool (thGood t), σ) := by
  refine acall_flat e_thing_Good (by simp) rfl ?_
  simp (disch := omega) only [thing_own_ok, r0_thing_Good, r1_thing_Good, r2_thing_Good, k1_thing_Good, r3_thing_Good, r4_thing_Good, r5_thing_Good, r6_thing_Good, r7_thing_Good, r8_thing_Good, r9_thing_Good, k6_thing_Good, k5_thing_Good, k4_thing_Good, k3_thing_Good, r10_thing_Good, k7_thing_Good, k2_thing_Good, k0_thing_Good, c_thing_Good, Z0, Z1, Z2, Z3, Z4, Z5, Z6, Z7, Z8, Z9, Z10, resAll, Nat.reduceAdd, Nat.reduceEqDiff, Nat.reduceLeDiff, Nat.reduceMul, ↓reduceIte, reduceCtorEq, Nat.reduceBEq, aoper, Nat.reduceLT, Int.reduceEq, Int.reduceLT, Int.reduceLE]
  refine ends_drw ?_
  unfold thGood thEq
  cases h0 : eq13 (thOwn t).type (thOwn t).bits (thOwn t).base (thOwn t).size (thOwn t).used (thOwn t).frm (thOwn t).badge (thOwn t).full (thOwn t).word (thOwn t).d0 (thOwn t).d1 (thOwn t).d2 (thOwn t).d3 t.type t.bits t.base t.size t.used t.frm t.badge t.full t.word t.d0 t.d1 t.d2 t.d3 with
  | false => simp (disch := omega) only [thing_own_ok, h0, r0_thing_Good, r1_thing_Good, r2_thing_Good, k1_thing_Good, r3_thing_Good, r4_thing_Good, r5_thing_Good, r6_thing_Good, r7_thing_Good, r8_thing_Good, r9_thing_Good, k6_thing_Good, k5_thing_Good, k4_thing_Good, k3_thing_Good, r10_thing_Good, k7_thing_Good, k2_thing_Good, k0_thing_Good, c_thing_Good, Z0, Z1, Z2, Z3, Z4, Z5, Z6, Z7, Z8, Z9, Z10, resAll, Nat.reduceAdd, Nat.reduceEqDiff, Nat.reduceLeDiff, Nat.reduceMul, ↓reduceIte, reduceCtorEq, Nat.reduceBEq, aoper, Nat.reduceLT, Int.reduceEq, Int.reduceLT, Int.reduceLE]
  | true =>
    by_cases h1 : t.type = 1
    · by_cases h6 : 1 ≤ t.size ∧ t.size ≤ 4096
      · by_cases h7 : 0 ≤ t.used ∧ t.used ≤ t.size
        · simp (disch := omega) only [thing_own_ok, thing_in_ok, h0, eq_true h1, h6, h7, r0_thing_Good, r1_thing_Good, r2_thing_Good, k1_thing_Good, r3_thing_Good, r4_thing_Good, r5_thing_Good, r6_thing_Good, r7_thing_Good, r8_thing_Good, r9_thing_Good, k6_thing_Good, k5_thing_Good, k4_thing_Good, k3_thing_Good, r10_thing_Good, k7_thing_Good, k2_thing_Good, k0_thing_Good, c_thing_Good, Z0, Z1, Z2, Z3, Z4, Z5, Z6, Z7, Z8, Z9, Z10, resAll, Nat.reduceAdd, Nat.reduceEqDiff, Nat.reduceLeDiff, Nat.reduceMul, ↓reduceIte, reduceCtorEq, Nat.reduceBEq, aoper, Nat.reduceLT, Int.reduceEq, Int.reduceLT, Int.reduceLE]
        · simp (disch := omega) only [thing_own_ok, thing_in_ok, h0, eq_true h1, h6, h7, r0_thing_Good, r1_thing_Good, r2_thing_Good, k1_thing_Good, r3_thing_Good, r4_thing_Good, r5_thing_Good, r6_thing_Good, r7_thing_Good, r8_thing_Good, r9_thing_Good, k6_thing_Good, k5_thing_Good, k4_thing_Good, k3_thing_Good, r10_thing_Good, k7_thing_Good, k2_thing_Good, k0_thing_Good, c_thing_Good, Z0, Z1, Z2, Z3, Z4, Z5, Z6, Z7, Z8, Z9, Z10, resAll, Nat.reduceAdd, Nat.reduceEqDiff, Nat.reduceLeDiff, Nat.reduceMul, ↓reduceIte, reduceCtorEq, Nat.reduceBEq, aoper, Nat.reduceLT, Int.reduceEq, Int.reduceLT, Int.reduceLE]
      · simp (disch := omega) only [thing_own_ok, thing_in_ok, h0, eq_true h1, h6, r0_thing_Good, r1_thing_Good, r2_thing_Good, k1_thing_Good, r3_thing_Good, r4_thing_Good, r5_thing_Good, r6_thing_Good, r7_thing_Good, r8_thing_Good, r9_thing_Good, k6_thing_Good, k5_thing_Good, k4_thing_Good, k3_thing_Good, r10_thing_Good, k7_thing_Good, k2_thing_Good, k0_thing_Good, c_thing_Good, Z0, Z1, Z2, Z3, Z4, Z5, Z6, Z7, Z8, Z9, Z10, resAll, Nat.reduceAdd, Nat.reduceEqDiff, Nat.reduceLeDiff, Nat.reduceMul, ↓reduceIte, reduceCtorEq, Nat.reduceBEq, aoper, Nat.reduceLT, Int.reduceEq, Int.reduceLT, Int.reduceLE]
    · by_cases h2 : t.type = 2
      · simp (disch := omega) only [thing_own_ok, thing_in_ok, h0, h1, eq_true h2, r0_thing_Good, r1_thing_Good, r2_thing_Good, k1_thing_Good, r3_thing_Good, r4_thing_Good, r5_thing_Good, r6_thing_Good, r7_thing_Good, r8_thing_Good, r9_thing_Good, k6_thing_Good, k5_thing_Good, k4_thing_Good, k3_thing_Good, r10_thing_Good, k7_thing_Good, k2_thing_Good, k0_thing_Good, c_thing_Good, Z0, Z1, Z2, Z3, Z4, Z5, Z6, Z7, Z8, Z9, Z10, resAll, Nat.reduceAdd, Nat.reduceEqDiff, Nat.reduceLeDiff, Nat.reduceMul, ↓reduceIte, reduceCtorEq, Nat.reduceBEq, aoper, Nat.reduceLT, Int.reduceEq, Int.reduceLT, Int.reduceLE]
        refine ends_drw ?_
        by_cases h6 : 1 ≤ t.bits ∧ t.bits ≤ 4
        · have hp := pw_le (b := t.bits) (by omega) (by omega)
          by_cases h7 : 0 ≤ t.base ∧ t.base ≤ 96 - pw t.bits
          · simp (disch := omega) only [thing_in_ok, h6, h7, r0_thing_Good, r1_thing_Good, r2_thing_Good, k1_thing_Good, r3_thing_Good, r4_thing_Good, r5_thing_Good, r6_thing_Good, r7_thing_Good, r8_thing_Good, r9_thing_Good, k6_thing_Good, k5_thing_Good, k4_thing_Good, k3_thing_Good, r10_thing_Good, k7_thing_Good, k2_thing_Good, k0_thing_Good, c_thing_Good, Z0, Z1, Z2, Z3, Z4, Z5, Z6, Z7, Z8, Z9, Z10, resAll, Nat.reduceAdd, Nat.reduceEqDiff, Nat.reduceLeDiff, Nat.reduceMul, ↓reduceIte, reduceCtorEq, Nat.reduceBEq, aoper, Nat.reduceLT, Int.reduceEq, Int.reduceLT, Int.reduceLE]
          · simp (disch := omega) only [thing_in_ok, h6, h7, r0_thing_Good, r1_thing_Good, r2_thing_Good, k1_thing_Good, r3_thing_Good, r4_thing_Good, r5_thing_Good, r6_thing_Good, r7_thing_Good, r8_thing_Good, r9_thing_Good, k6_thing_Good, k5_thing_Good, k4_thing_Good, k3_thing_Good, r10_thing_Good, k7_thing_Good, k2_thing_Good, k0_thing_Good, c_thing_Good, Z0, Z1, Z2, Z3, Z4, Z5, Z6, Z7, Z8, Z9, Z10, resAll, Nat.reduceAdd, Nat.reduceEqDiff, Nat.reduceLeDiff, Nat.reduceMul, ↓reduceIte, reduceCtorEq, Nat.reduceBEq, aoper, Nat.reduceLT, Int.reduceEq, Int.reduceLT, Int.reduceLE]
        · simp (disch := omega) only [thing_in_ok, h6, r0_thing_Good, r1_thing_Good, r2_thing_Good, k1_thing_Good, r3_thing_Good, r4_thing_Good, r5_thing_Good, r6_thing_Good, r7_thing_Good, r8_thing_Good, r9_thing_Good, k6_thing_Good, k5_thing_Good, k4_thing_Good, k3_thing_Good, r10_thing_Good, k7_thing_Good, k2_thing_Good, k0_thing_Good, c_thing_Good, Z0, Z1, Z2, Z3, Z4, Z5, Z6, Z7, Z8, Z9, Z10, resAll, Nat.reduceAdd, Nat.reduceEqDiff, Nat.reduceLeDiff, Nat.reduceMul, ↓reduceIte, reduceCtorEq, Nat.reduceBEq, aoper, Nat.reduceLT, Int.reduceEq, Int.reduceLT, Int.reduceLE]
      · by_cases h3 : t.type = 3
        · by_cases h6 : 0 ≤ t.badge ∧ t.badge ≤ 65535
          · by_cases h7 : 0 ≤ t.frm ∧ t.frm ≤ 96
            · simp (disch := omega) only [thing_own_ok, thing_in_ok, h0, h1, h2, eq_true h3, h6, h7, r0_thing_Good, r1_thing_Good, r2_thing_Good, k1_thing_Good, r3_thing_Good, r4_thing_Good, r5_thing_Good, r6_thing_Good, r7_thing_Good, r8_thing_Good, r9_thing_Good, k6_thing_Good, k5_thing_Good, k4_thing_Good, k3_thing_Good, r10_thing_Good, k7_thing_Good, k2_thing_Good, k0_thing_Good, c_thing_Good, Z0, Z1, Z2, Z3, Z4, Z5, Z6, Z7, Z8, Z9, Z10, resAll, Nat.reduceAdd, Nat.reduceEqDiff, Nat.reduceLeDiff, Nat.reduceMul, ↓reduceIte, reduceCtorEq, Nat.reduceBEq, aoper, Nat.reduceLT, Int.reduceEq, Int.reduceLT, Int.reduceLE]
            · simp (disch := omega) only [thing_own_ok, thing_in_ok, h0, h1, h2, eq_true h3, h6, h7, r0_thing_Good, r1_thing_Good, r2_thing_Good, k1_thing_Good, r3_thing_Good, r4_thing_Good, r5_thing_Good, r6_thing_Good, r7_thing_Good, r8_thing_Good, r9_thing_Good, k6_thing_Good, k5_thing_Good, k4_thing_Good, k3_thing_Good, r10_thing_Good, k7_thing_Good, k2_thing_Good, k0_thing_Good, c_thing_Good, Z0, Z1, Z2, Z3, Z4, Z5, Z6, Z7, Z8, Z9, Z10, resAll, Nat.reduceAdd, Nat.reduceEqDiff, Nat.reduceLeDiff, Nat.reduceMul, ↓reduceIte, reduceCtorEq, Nat.reduceBEq, aoper, Nat.reduceLT, Int.reduceEq, Int.reduceLT, Int.reduceLE]
          · simp (disch := omega) only [thing_own_ok, thing_in_ok, h0, h1, h2, eq_true h3, h6, r0_thing_Good, r1_thing_Good, r2_thing_Good, k1_thing_Good, r3_thing_Good, r4_thing_Good, r5_thing_Good, r6_thing_Good, r7_thing_Good, r8_thing_Good, r9_thing_Good, k6_thing_Good, k5_thing_Good, k4_thing_Good, k3_thing_Good, r10_thing_Good, k7_thing_Good, k2_thing_Good, k0_thing_Good, c_thing_Good, Z0, Z1, Z2, Z3, Z4, Z5, Z6, Z7, Z8, Z9, Z10, resAll, Nat.reduceAdd, Nat.reduceEqDiff, Nat.reduceLeDiff, Nat.reduceMul, ↓reduceIte, reduceCtorEq, Nat.reduceBEq, aoper, Nat.reduceLT, Int.reduceEq, Int.reduceLT, Int.reduceLE]
        · simp (disch := omega) only [thing_own_ok, h0, h1, h2, h3, r0_thing_Good, r1_thing_Good, r2_thing_Good, k1_thing_Good, r3_thing_Good, r4_thing_Good, r5_thing_Good, r6_thing_Good, r7_thing_Good, r8_thing_Good, r9_thing_Good, k6_thing_Good, k5_thing_Good, k4_thing_Good, k3_thing_Good, r10_thing_Good, k7_thing_Good, k2_thing_Good, k0_thing_Good, c_thing_Good, Z0, Z1, Z2, Z3, Z4, Z5, Z6, Z7, Z8, Z9, Z10, resAll, Nat.reduceAdd, Nat.reduceEqDiff, Nat.reduceLeDiff, Nat.reduceMul, ↓reduceIte, reduceCtorEq, Nat.reduceBEq, aoper, Nat.reduceLT, Int.reduceEq, Int.reduceLT, Int.reduceLE]
end Go.Proofs.YtidmcpkbcphpiaaGreat
namespace Go.Proofs.YtidmcpkbcphpiaaGreat
open Go Go.Hai
set_option maxRecDepth 20000
set_option linter.unusedSimpArgs false
attribute [local irreducible] Hai.Ends EndsR EndsO EndsD AHeap.grow
def r0_state_there : List AOper := [(.mk (some 2) none (.box 5 (.tmp 0))), (.mk (some 4) none (.mv (.const (.bool false))))]
def r1_state_there : List AOper := [(.mk (some 5) none (.mv (.tmp 1))), (.mk (some 6) none (.bin .geq (.tmp 5) (.const (.int .i64 0)))), (.mk (some 7) none (.mv (.tmp 6))), (.mk (some 8) (some (7, true)) (.mv (.tmp 1))), (.mk (some 9) (some (7, true)) (.fldA 4 (.tmp 2))), (.mk (some 10) (some (7, true)) (.load false 1 (.tmp 9))), (.mk (some 11) (some (7, true)) (.lenS (.tmp 10))), (.mk (some 12) (some (7, true)) (.bin .lss (.tmp 8) (.tmp 11))), (.mk (some 13) none (.pick (.tmp 7) (.tmp 12) (.const (.bool false)))), (.mk (some 14) none (.mv (.tmp 13))), (.mk (some 15) (some (14, true)) (.fldA 4 (.tmp 2))), (.mk (some 16) (some (14, true)) (.load false 1 (.tmp 15))), (.mk (some 17) (some (14, true)) (.mv (.tmp 1))), (.mk (some 18) (some (14, true)) (.idxA 13 (.tmp 16) (.tmp 17))), (.mk (some 19) (some (14, true)) (.fldA 0 (.tmp 18))), (.mk (some 20) (some (14, true)) (.load false 1 (.tmp 19))), (.mk (some 21) (some (14, true)) (.bin .neq (.tmp 20) (.const (.int .i64 0)))), (.mk (some 22) none (.pick (.tmp 14) (.tmp 21) (.const (.bool false)))), (.mk (some 4) none (.mv (.tmp 22)))]
def k0_state_there : ACode := (.seq (.reg r1_state_there) .ret)
def c_state_there : ACode := (.seq (.reg r0_state_there) k0_state_there)
theorem e_state_there : ofProg Tryz.prog 121 = some ⟨23, [(.tmp 4)], c_state_there⟩ := by kernel_rfl
def r0_right_of : List AOper := [(.mk (some 2) none (.mv (.const (.int .i64 0))))]
def r1_right_of : List AOper := [(.mk (some 3) none (.mv (.tmp 0))), (.mk (some 4) none (.call 176 [(.tmp 3)])), (.mk (some 5) none (.un .not (.tmp 4)))]
def r2_right_of : List AOper := [(.mk (some 2) none (.mv (.const (.int .i64 0))))]
def k1_right_of : ACode := (.cond (.tmp 5) (.seq (.reg r2_right_of) .ret) .skip)
def r3_right_of : List AOper := [(.mk (some 6) none (.mv (.tmp 0))), (.mk (some 2) none (.mv (.tmp 6)))]
def k2_right_of : ACode := (.seq (.reg r3_right_of) .ret)
def k0_right_of : ACode := (.seq (.seq (.reg r1_right_of) k1_right_of) k2_right_of)
def c_right_of : ACode := (.seq (.reg r0_right_of) k0_right_of)
theorem e_right_of : ofProg Tryz.prog 187 = some ⟨7, [(.tmp 2)], c_right_of⟩ := by kernel_rfl
def r0_right_Less : List AOper := [(.mk (some 4) none (.mv (.const (.int .i64 0))))]
def r1_right_Less : List AOper := [(.mk (some 5) none (.mv (.tmp 0))), (.mk (some 6) none (.call 187 [(.tmp 5)])), (.mk (some 7) none (.mv (.tmp 1))), (.mk (some 8) none (.call 187 [(.tmp 7)])), (.mk (some 9) none (.bin .andNot (.tmp 6) (.tmp 8))), (.mk (some 4) none (.mv (.tmp 9)))]
def k0_right_Less : ACode := (.seq (.reg r1_right_Less) .ret)
def c_right_Less : ACode := (.seq (.reg r0_right_Less) k0_right_Less)
theorem e_right_Less : ofProg Tryz.prog 127 = some ⟨10, [(.tmp 4)], c_right_Less⟩ := by kernel_rfl
def r0_right_Within : List AOper := [(.mk (some 4) none (.mv (.const (.bool false))))]
def r1_right_Within : List AOper := [(.mk (some 5) none (.mv (.tmp 0))), (.mk (some 6) none (.mv (.tmp 1))), (.mk (some 7) none (.call 127 [(.tmp 5), (.tmp 6)])), (.mk (some 8) none (.bin .eql (.tmp 7) (.const (.int .i64 0)))), (.mk (some 4) none (.mv (.tmp 8)))]
def k0_right_Within : ACode := (.seq (.reg r1_right_Within) .ret)
def c_right_Within : ACode := (.seq (.reg r0_right_Within) k0_right_Within)
theorem e_right_Within : ofProg Tryz.prog 66 = some ⟨9, [(.tmp 4)], c_right_Within⟩ := by kernel_rfl
def r0_cap_Less : List AOper := [(.mk (some 2) none (.box 4 (.tmp 0))), (.mk (some 3) none (.box 4 (.tmp 1))), (.mk (some 4) none (.mv (.const (.bool false))))]
def r1_cap_Less : List AOper := [(.mk (some 5) none (.load true 4 (.tmp 2))), (.mk (some 6) none (.call 38 [(.tmp 5)]))]
def r2_cap_Less : List AOper := [(.mk (some 4) none (.mv (.const (.bool true))))]
def k1_cap_Less : ACode := (.cond (.tmp 6) (.seq (.reg r2_cap_Less) .ret) .skip)
def r3_cap_Less : List AOper := [(.mk (some 7) none (.fldA 0 (.tmp 2))), (.mk (some 8) none (.load false 1 (.tmp 7))), (.mk (some 9) none (.fldA 0 (.tmp 3))), (.mk (some 10) none (.load false 1 (.tmp 9))), (.mk (some 11) none (.bin .eql (.tmp 8) (.tmp 10))), (.mk (some 12) none (.mv (.tmp 11))), (.mk (some 13) (some (12, true)) (.fldA 1 (.tmp 2))), (.mk (some 14) (some (12, true)) (.load false 1 (.tmp 13))), (.mk (some 15) (some (12, true)) (.fldA 1 (.tmp 3))), (.mk (some 16) (some (12, true)) (.load false 1 (.tmp 15))), (.mk (some 17) (some (12, true)) (.bin .eql (.tmp 14) (.tmp 16))), (.mk (some 18) none (.pick (.tmp 12) (.tmp 17) (.const (.bool false)))), (.mk (some 19) none (.mv (.tmp 18))), (.mk (some 20) (some (19, true)) (.fldA 2 (.tmp 2))), (.mk (some 21) (some (19, true)) (.load false 1 (.tmp 20))), (.mk (some 22) (some (19, true)) (.fldA 2 (.tmp 3))), (.mk (some 23) (some (19, true)) (.load false 1 (.tmp 22))), (.mk (some 24) (some (19, true)) (.call 66 [(.tmp 21), (.tmp 23)])), (.mk (some 25) none (.pick (.tmp 19) (.tmp 24) (.const (.bool false)))), (.mk (some 26) none (.mv (.tmp 25))), (.mk (some 27) (some (26, true)) (.fldA 3 (.tmp 3))), (.mk (some 28) (some (26, true)) (.load false 1 (.tmp 27))), (.mk (some 29) (some (26, true)) (.bin .eql (.tmp 28) (.const (.int .i64 0)))), (.mk (some 30) (some (26, true)) (.mv (.tmp 29))), (.mk (some 31) (some (30, false)) (.fldA 3 (.tmp 3))), (.mk (some 32) (some (30, false)) (.load false 1 (.tmp 31))), (.mk (some 33) (some (30, false)) (.fldA 3 (.tmp 2))), (.mk (some 34) (some (30, false)) (.load false 1 (.tmp 33))), (.mk (some 35) (some (30, false)) (.bin .eql (.tmp 32) (.tmp 34))), (.mk (some 36) (some (26, true)) (.pick (.tmp 30) (.const (.bool true)) (.tmp 35))), (.mk (some 37) none (.pick (.tmp 26) (.tmp 36) (.const (.bool false)))), (.mk (some 4) none (.mv (.tmp 37)))]
def k2_cap_Less : ACode := (.seq (.reg r3_cap_Less) .ret)
def k0_cap_Less : ACode := (.seq (.seq (.reg r1_cap_Less) k1_cap_Less) k2_cap_Less)
def c_cap_Less : ACode := (.seq (.reg r0_cap_Less) k0_cap_Less)
theorem e_cap_Less : ofProg Tryz.prog 53 = some ⟨38, [(.tmp 4)], c_cap_Less⟩ := by kernel_rfl
def r0_forest_is : List AOper := [(.mk (some 2) none (.box 1 (.tmp 0))), (.mk (some 4) none (.mv (.const (.bool false))))]
def r1_forest_is : List AOper := [(.mk (some 5) none (.mv (.tmp 1))), (.mk (some 6) none (.bin .geq (.tmp 5) (.const (.int .i64 0)))), (.mk (some 7) none (.mv (.tmp 6))), (.mk (some 8) (some (7, true)) (.mv (.tmp 1))), (.mk (some 9) (some (7, true)) (.fldA 0 (.tmp 2))), (.mk (some 10) (some (7, true)) (.load false 1 (.tmp 9))), (.mk (some 11) (some (7, true)) (.lenS (.tmp 10))), (.mk (some 12) (some (7, true)) (.bin .lss (.tmp 8) (.tmp 11))), (.mk (some 13) none (.pick (.tmp 7) (.tmp 12) (.const (.bool false)))), (.mk (some 14) none (.mv (.tmp 13))), (.mk (some 15) (some (14, true)) (.fldA 0 (.tmp 2))), (.mk (some 16) (some (14, true)) (.load false 1 (.tmp 15))), (.mk (some 17) (some (14, true)) (.mv (.tmp 1))), (.mk (some 18) (some (14, true)) (.idxA 1 (.tmp 16) (.tmp 17))), (.mk (some 19) (some (14, true)) (.load false 1 (.tmp 18))), (.mk (some 20) (some (14, true)) (.bin .neq (.tmp 19) (.const (.int .i64 (-2))))), (.mk (some 21) none (.pick (.tmp 14) (.tmp 20) (.const (.bool false)))), (.mk (some 4) none (.mv (.tmp 21)))]
def k0_forest_is : ACode := (.seq (.reg r1_forest_is) .ret)
def c_forest_is : ACode := (.seq (.reg r0_forest_is) k0_forest_is)
theorem e_forest_is : ofProg Tryz.prog 126 = some ⟨22, [(.tmp 4)], c_forest_is⟩ := by kernel_rfl
def r0_find_step : List AOper := [(.mk (some 2) none (.box 13 (.tmp 0))), (.mk (some 4) none (.mv (.const (.int .i64 0))))]
def r1_find_step : List AOper := [(.mk (some 5) none (.mv (.tmp 1))), (.mk (some 6) none (.fldA 1 (.tmp 2))), (.mk (some 7) none (.load false 1 (.tmp 6))), (.mk (some 8) none (.bin .shl (.const (.int .i64 1)) (.tmp 7))), (.mk (some 9) none (.bin .geq (.tmp 5) (.tmp 8)))]
def r2_find_step : List AOper := [(.mk (some 4) none (.mv (.const (.int .i64 (-1)))))]
def k1_find_step : ACode := (.cond (.tmp 9) (.seq (.reg r2_find_step) .ret) .skip)
def r3_find_step : List AOper := [(.mk (some 10) none (.fldA 2 (.tmp 2))), (.mk (some 11) none (.load false 1 (.tmp 10))), (.mk (some 12) none (.mv (.tmp 1))), (.mk (some 13) none (.bin .add (.tmp 11) (.tmp 12))), (.mk (some 4) none (.mv (.tmp 13)))]
def k2_find_step : ACode := (.seq (.reg r3_find_step) .ret)
def k0_find_step : ACode := (.seq (.seq (.reg r1_find_step) k1_find_step) k2_find_step)
def c_find_step : ACode := (.seq (.reg r0_find_step) k0_find_step)
theorem e_find_step : ofProg Tryz.prog 89 = some ⟨14, [(.tmp 4)], c_find_step⟩ := by kernel_rfl
def r0_path_Good_1 : List AOper := [(.mk (some 2) none (.mv (.const (.bool false))))]
def r1_path_Good_1 : List AOper := [(.mk (some 3) none (.mv (.tmp 0))), (.mk (some 4) none (.bin .lss (.tmp 3) (.const (.int .i64 0)))), (.mk (some 5) none (.mv (.tmp 4))), (.mk (some 6) (some (5, false)) (.mv (.tmp 0))), (.mk (some 7) (some (5, false)) (.bin .gtr (.tmp 6) (.const (.int .i64 15)))), (.mk (some 8) none (.pick (.tmp 5) (.const (.bool true)) (.tmp 7))), (.mk (some 2) none (.mv (.tmp 8)))]
def k0_path_Good_1 : ACode := (.seq (.reg r1_path_Good_1) .ret)
def c_path_Good_1 : ACode := (.seq (.reg r0_path_Good_1) k0_path_Good_1)
theorem e_path_Good_1 : ofProg Tryz.prog 156 = some ⟨9, [(.tmp 2)], c_path_Good_1⟩ := by kernel_rfl
def r0_state_has : List AOper := [(.mk (some 2) none (.box 13 (.tmp 0))), (.mk (some 4) none (.mv (.const (.bool false))))]
def r1_state_has : List AOper := [(.mk (some 5) none (.fldA 0 (.tmp 2))), (.mk (some 6) none (.load false 1 (.tmp 5))), (.mk (some 7) none (.bin .eql (.tmp 6) (.const (.int .i64 2)))), (.mk (some 8) none (.mv (.tmp 7))), (.mk (some 9) (some (8, true)) (.mv (.tmp 1))), (.mk (some 10) (some (8, true)) (.fldA 2 (.tmp 2))), (.mk (some 11) (some (8, true)) (.load false 1 (.tmp 10))), (.mk (some 12) (some (8, true)) (.bin .geq (.tmp 9) (.tmp 11))), (.mk (some 13) none (.pick (.tmp 8) (.tmp 12) (.const (.bool false)))), (.mk (some 14) none (.mv (.tmp 13))), (.mk (some 15) (some (14, true)) (.mv (.tmp 1))), (.mk (some 16) (some (14, true)) (.fldA 2 (.tmp 2))), (.mk (some 17) (some (14, true)) (.load false 1 (.tmp 16))), (.mk (some 18) (some (14, true)) (.fldA 1 (.tmp 2))), (.mk (some 19) (some (14, true)) (.load false 1 (.tmp 18))), (.mk (some 20) (some (14, true)) (.bin .shl (.const (.int .i64 1)) (.tmp 19))), (.mk (some 21) (some (14, true)) (.bin .add (.tmp 17) (.tmp 20))), (.mk (some 22) (some (14, true)) (.bin .lss (.tmp 15) (.tmp 21))), (.mk (some 23) none (.pick (.tmp 14) (.tmp 22) (.const (.bool false)))), (.mk (some 4) none (.mv (.tmp 23)))]
def k0_state_has : ACode := (.seq (.drw r1_state_has [0, 1, 3, 7, 15, 15, 47, 127, 255, 511, 1023, 1023, 3071, 1023, 9215, 25599, 64511, 131071, 262143, 524287]) .ret)
def c_state_has : ACode := (.seq (.reg r0_state_has) k0_state_has)
theorem e_state_has : ofProg Tryz.prog 223 = some ⟨24, [(.tmp 4)], c_state_has⟩ := by kernel_rfl
def ofI (r : Int) : Int := if 0 ≤ r ∧ r ≤ 7 then r else 0
theorem right_of_ok (d : Nat) (σ : AHeap) (n : Int) : acall (ofProg Tryz.prog) 1000 (d + 2) 187 [.int .i64 n] σ = some (.int .i64 (ofI n), σ) := by
  refine acall_flat e_right_of (by simp) rfl ?_
  unfold ofI
  by_cases h1 : 0 ≤ n ∧ n ≤ 7
  · simp (disch := omega) only [h1, right_Good_ok, r0_right_of, r1_right_of, r2_right_of, k1_right_of, r3_right_of, k2_right_of, k0_right_of, c_right_of, Z0, Z1, Z2, Z3, Z4, Z5, Z6, Z7, Z8, Z9, Z10, resAll, Nat.reduceAdd, Nat.reduceEqDiff, Nat.reduceLeDiff, Nat.reduceMul, ↓reduceIte, reduceCtorEq, Nat.reduceBEq, aoper, Nat.reduceLT, Int.reduceEq, Int.reduceLT, Int.reduceLE]
  · simp (disch := omega) only [h1, right_Good_ok, r0_right_of, r1_right_of, r2_right_of, k1_right_of, r3_right_of, k2_right_of, k0_right_of, c_right_of, Z0, Z1, Z2, Z3, Z4, Z5, Z6, Z7, Z8, Z9, Z10, resAll, Nat.reduceAdd, Nat.reduceEqDiff, Nat.reduceLeDiff, Nat.reduceMul, ↓reduceIte, reduceCtorEq, Nat.reduceBEq, aoper, Nat.reduceLT, Int.reduceEq, Int.reduceLT, Int.reduceLE]
theorem right_Less_ok (d : Nat) (σ : AHeap) (a b : Int) : acall (ofProg Tryz.prog) 1000 (d + 3) 127 [.int .i64 a, .int .i64 b] σ = some (.int .i64 (andNotI (ofI a) (ofI b)), σ) := by
  refine acall_flat e_right_Less (by simp) rfl ?_
  simp (disch := omega) only [right_of_ok, r0_right_Less, r1_right_Less, k0_right_Less, c_right_Less, Z0, Z1, Z2, Z3, Z4, Z5, Z6, Z7, Z8, Z9, Z10, resAll, Nat.reduceAdd, Nat.reduceEqDiff, Nat.reduceLeDiff, Nat.reduceMul, ↓reduceIte, reduceCtorEq, Nat.reduceBEq, aoper, Nat.reduceLT, Int.reduceEq, Int.reduceLT, Int.reduceLE]
def withinB (a b : Int) : Bool := decide (andNotI (ofI a) (ofI b) = 0)
theorem right_Within_ok (d : Nat) (σ : AHeap) (a b : Int) : acall (ofProg Tryz.prog) 1000 (d + 4) 66 [.int .i64 a, .int .i64 b] σ = some (.bool (withinB a b), σ) := by
  refine acall_flat e_right_Within (by simp) rfl ?_
  simp (disch := omega) only [right_Less_ok, withinB, r0_right_Within, r1_right_Within, k0_right_Within, c_right_Within, Z0, Z1, Z2, Z3, Z4, Z5, Z6, Z7, Z8, Z9, Z10, resAll, Nat.reduceAdd, Nat.reduceEqDiff, Nat.reduceLeDiff, Nat.reduceMul, ↓reduceIte, reduceCtorEq, Nat.reduceBEq, aoper, Nat.reduceLT, Int.reduceEq, Int.reduceLT, Int.reduceLE]
def lessB (x y : SlotD) : Bool := capNone x || (decide (x.type = y.type) && decide (x.thing = y.thing) && withinB x.rights y.rights && (decide (y.badge = 0) || decide (y.badge = x.badge)))
theorem cap_Less_ok (d : Nat) (σ : AHeap) (x y : SlotD) : acall (ofProg Tryz.prog) 1000 (d + 5) 53 [capV x, capV y] σ = some (.bool (lessB x y), σ) := by
  refine acall_flat e_cap_Less (by simp) rfl ?_
  unfold lessB
  cases h0 : capNone x with
  | true => simp (disch := omega) only [h0, cap_None_ok, r0_cap_Less, r1_cap_Less, r2_cap_Less, k1_cap_Less, r3_cap_Less, k2_cap_Less, k0_cap_Less, c_cap_Less, Z0, Z1, Z2, Z3, Z4, Z5, Z6, Z7, Z8, Z9, Z10, resAll, Nat.reduceAdd, Nat.reduceEqDiff, Nat.reduceLeDiff, Nat.reduceMul, ↓reduceIte, reduceCtorEq, Nat.reduceBEq, aoper, Nat.reduceLT, Int.reduceEq, Int.reduceLT, Int.reduceLE]
  | false =>
    by_cases h1 : x.type = y.type
    · by_cases h2 : x.thing = y.thing
      · cases h3 : withinB x.rights y.rights with
        | true =>
          by_cases h4 : y.badge = 0
          · simp (disch := omega) only [h0, eq_true h1, eq_true h2, h3, eq_true h4, cap_None_ok, right_Within_ok, r0_cap_Less, r1_cap_Less, r2_cap_Less, k1_cap_Less, r3_cap_Less, k2_cap_Less, k0_cap_Less, c_cap_Less, Z0, Z1, Z2, Z3, Z4, Z5, Z6, Z7, Z8, Z9, Z10, resAll, Nat.reduceAdd, Nat.reduceEqDiff, Nat.reduceLeDiff, Nat.reduceMul, ↓reduceIte, reduceCtorEq, Nat.reduceBEq, aoper, Nat.reduceLT, Int.reduceEq, Int.reduceLT, Int.reduceLE]
          · by_cases h5 : y.badge = x.badge
            · simp (disch := omega) only [h0, eq_true h1, eq_true h2, h3, h4, eq_true h5, cap_None_ok, right_Within_ok, r0_cap_Less, r1_cap_Less, r2_cap_Less, k1_cap_Less, r3_cap_Less, k2_cap_Less, k0_cap_Less, c_cap_Less, Z0, Z1, Z2, Z3, Z4, Z5, Z6, Z7, Z8, Z9, Z10, resAll, Nat.reduceAdd, Nat.reduceEqDiff, Nat.reduceLeDiff, Nat.reduceMul, ↓reduceIte, reduceCtorEq, Nat.reduceBEq, aoper, Nat.reduceLT, Int.reduceEq, Int.reduceLT, Int.reduceLE]
            · simp (disch := omega) only [h0, eq_true h1, eq_true h2, h3, h4, h5, cap_None_ok, right_Within_ok, r0_cap_Less, r1_cap_Less, r2_cap_Less, k1_cap_Less, r3_cap_Less, k2_cap_Less, k0_cap_Less, c_cap_Less, Z0, Z1, Z2, Z3, Z4, Z5, Z6, Z7, Z8, Z9, Z10, resAll, Nat.reduceAdd, Nat.reduceEqDiff, Nat.reduceLeDiff, Nat.reduceMul, ↓reduceIte, reduceCtorEq, Nat.reduceBEq, aoper, Nat.reduceLT, Int.reduceEq, Int.reduceLT, Int.reduceLE]
        | false => simp (disch := omega) only [h0, eq_true h1, eq_true h2, h3, cap_None_ok, right_Within_ok, r0_cap_Less, r1_cap_Less, r2_cap_Less, k1_cap_Less, r3_cap_Less, k2_cap_Less, k0_cap_Less, c_cap_Less, Z0, Z1, Z2, Z3, Z4, Z5, Z6, Z7, Z8, Z9, Z10, resAll, Nat.reduceAdd, Nat.reduceEqDiff, Nat.reduceLeDiff, Nat.reduceMul, ↓reduceIte, reduceCtorEq, Nat.reduceBEq, aoper, Nat.reduceLT, Int.reduceEq, Int.reduceLT, Int.reduceLE]
      · simp (disch := omega) only [h0, eq_true h1, h2, cap_None_ok, r0_cap_Less, r1_cap_Less, r2_cap_Less, k1_cap_Less, r3_cap_Less, k2_cap_Less, k0_cap_Less, c_cap_Less, Z0, Z1, Z2, Z3, Z4, Z5, Z6, Z7, Z8, Z9, Z10, resAll, Nat.reduceAdd, Nat.reduceEqDiff, Nat.reduceLeDiff, Nat.reduceMul, ↓reduceIte, reduceCtorEq, Nat.reduceBEq, aoper, Nat.reduceLT, Int.reduceEq, Int.reduceLT, Int.reduceLE]
    · simp (disch := omega) only [h0, h1, cap_None_ok, r0_cap_Less, r1_cap_Less, r2_cap_Less, k1_cap_Less, r3_cap_Less, k2_cap_Less, k0_cap_Less, c_cap_Less, Z0, Z1, Z2, Z3, Z4, Z5, Z6, Z7, Z8, Z9, Z10, resAll, Nat.reduceAdd, Nat.reduceEqDiff, Nat.reduceLeDiff, Nat.reduceMul, ↓reduceIte, reduceCtorEq, Nat.reduceBEq, aoper, Nat.reduceLT, Int.reduceEq, Int.reduceLT, Int.reduceLE]
def thereB (S : StD) (n : Int) : Bool := match atI S.th n with | some t => !(decide (t.type = 0)) | none => false
theorem state_there_ok (d : Nat) (σ : AHeap) (S : StD) (a1 : Option Addr) (f1 : Nat) (a2 : Option Addr) (f2 : Nat) (n : Int) (h2 : SlT σ a2 S.th) :
    acall (ofProg Tryz.prog) 1000 (d + 1) 121 [stV S a1 f1 a2 f2, .int .i64 n] σ = some (.bool (thereB S n), σ) := by
  refine acall_flat e_state_there (by simp) rfl ?_
  unfold thereB
  by_cases g1 : 0 ≤ n
  · by_cases g2 : n < S.th.length
    · obtain ⟨x, e1, e2⟩ := atI_some g1 g2
      obtain ⟨b, rfl, hb⟩ := h2.fresh.at (i := n.toNat) (by omega)
      have hl := fun L => hb.ld0 (fresh_keeps _) e2 L 1 (by omega)
      by_cases g3 : x.type = 0
      · simp (disch := omega) only [e1, g1, g2, eq_true g3, hl, List.take_succ_cons, List.take_zero, r0_state_there, r1_state_there, k0_state_there, c_state_there, Z0, Z1, Z2, Z3, Z4, Z5, Z6, Z7, Z8, Z9, Z10, resAll, Nat.reduceAdd, Nat.reduceEqDiff, Nat.reduceLeDiff, Nat.reduceMul, ↓reduceIte, reduceCtorEq, Nat.reduceBEq, aoper, Nat.reduceLT, Int.reduceEq, Int.reduceLT, Int.reduceLE]
      · simp (disch := omega) only [e1, g1, g2, g3, hl, List.take_succ_cons, List.take_zero, r0_state_there, r1_state_there, k0_state_there, c_state_there, Z0, Z1, Z2, Z3, Z4, Z5, Z6, Z7, Z8, Z9, Z10, resAll, Nat.reduceAdd, Nat.reduceEqDiff, Nat.reduceLeDiff, Nat.reduceMul, ↓reduceIte, reduceCtorEq, Nat.reduceBEq, aoper, Nat.reduceLT, Int.reduceEq, Int.reduceLT, Int.reduceLE]
    · have e1 := atI_none (l := S.th) (z := n) (by omega)
      simp (disch := omega) only [e1, g1, g2, r0_state_there, r1_state_there, k0_state_there, c_state_there, Z0, Z1, Z2, Z3, Z4, Z5, Z6, Z7, Z8, Z9, Z10, resAll, Nat.reduceAdd, Nat.reduceEqDiff, Nat.reduceLeDiff, Nat.reduceMul, ↓reduceIte, reduceCtorEq, Nat.reduceBEq, aoper, Nat.reduceLT, Int.reduceEq, Int.reduceLT, Int.reduceLE]
  · have e1 := atI_none (l := S.th) (z := n) (by omega)
    simp (disch := omega) only [e1, g1, r0_state_there, r1_state_there, k0_state_there, c_state_there, Z0, Z1, Z2, Z3, Z4, Z5, Z6, Z7, Z8, Z9, Z10, resAll, Nat.reduceAdd, Nat.reduceEqDiff, Nat.reduceLeDiff, Nat.reduceMul, ↓reduceIte, reduceCtorEq, Nat.reduceBEq, aoper, Nat.reduceLT, Int.reduceEq, Int.reduceLT, Int.reduceLE]
def upB (up : List Int) (n : Int) : Bool := match atI up n with | some u => !(decide (u = -2)) | none => false
theorem forest_is_ok (d : Nat) (σ : AHeap) (up : List Int) (a : Option Addr) (f : Nat) (n : Int) (h2 : SlI σ a up) :
    acall (ofProg Tryz.prog) 1000 (d + 1) 126 [.agg [.slice a up.length f].toArray, .int .i64 n] σ = some (.bool (upB up n), σ) := by
  refine acall_flat e_forest_is (by simp) rfl ?_
  unfold upB
  by_cases g1 : 0 ≤ n
  · by_cases g2 : n < up.length
    · obtain ⟨x, e1, e2⟩ := atI_some g1 g2
      obtain ⟨b, rfl, hb⟩ := h2.fresh.at (i := n.toNat) (by omega)
      have hl := fun L => hb.ld0 (fresh_keeps _) e2 L 1 (by omega)
      simp only [Nat.mul_one] at hl
      by_cases g3 : x = -2
      · simp (disch := omega) only [e1, g1, g2, eq_true g3, hl, List.take_succ_cons, List.take_zero, Nat.mul_one, r0_forest_is, r1_forest_is, k0_forest_is, c_forest_is, Z0, Z1, Z2, Z3, Z4, Z5, Z6, Z7, Z8, Z9, Z10, resAll, Nat.reduceAdd, Nat.reduceEqDiff, Nat.reduceLeDiff, Nat.reduceMul, ↓reduceIte, reduceCtorEq, Nat.reduceBEq, aoper, Nat.reduceLT, Int.reduceEq, Int.reduceLT, Int.reduceLE]
      · simp (disch := omega) only [e1, g1, g2, g3, hl, List.take_succ_cons, List.take_zero, Nat.mul_one, r0_forest_is, r1_forest_is, k0_forest_is, c_forest_is, Z0, Z1, Z2, Z3, Z4, Z5, Z6, Z7, Z8, Z9, Z10, resAll, Nat.reduceAdd, Nat.reduceEqDiff, Nat.reduceLeDiff, Nat.reduceMul, ↓reduceIte, reduceCtorEq, Nat.reduceBEq, aoper, Nat.reduceLT, Int.reduceEq, Int.reduceLT, Int.reduceLE]
    · have e1 := atI_none (l := up) (z := n) (by omega)
      simp (disch := omega) only [e1, g1, g2, r0_forest_is, r1_forest_is, k0_forest_is, c_forest_is, Z0, Z1, Z2, Z3, Z4, Z5, Z6, Z7, Z8, Z9, Z10, resAll, Nat.reduceAdd, Nat.reduceEqDiff, Nat.reduceLeDiff, Nat.reduceMul, ↓reduceIte, reduceCtorEq, Nat.reduceBEq, aoper, Nat.reduceLT, Int.reduceEq, Int.reduceLT, Int.reduceLE]
  · have e1 := atI_none (l := up) (z := n) (by omega)
    simp (disch := omega) only [e1, g1, r0_forest_is, r1_forest_is, k0_forest_is, c_forest_is, Z0, Z1, Z2, Z3, Z4, Z5, Z6, Z7, Z8, Z9, Z10, resAll, Nat.reduceAdd, Nat.reduceEqDiff, Nat.reduceLeDiff, Nat.reduceMul, ↓reduceIte, reduceCtorEq, Nat.reduceBEq, aoper, Nat.reduceLT, Int.reduceEq, Int.reduceLT, Int.reduceLE]
theorem path_Good_1_ok (d : Nat) (σ : AHeap) (n : Int) : acall (ofProg Tryz.prog) 1000 (d + 1) 156 [.int .i64 n] σ = some (.bool (decide (n < 0) || decide (15 < n)), σ) := by
  refine acall_flat e_path_Good_1 (by simp) rfl ?_
  by_cases h1 : n < 0
  · simp (disch := omega) only [h1, r0_path_Good_1, r1_path_Good_1, k0_path_Good_1, c_path_Good_1, Z0, Z1, Z2, Z3, Z4, Z5, Z6, Z7, Z8, Z9, Z10, resAll, Nat.reduceAdd, Nat.reduceEqDiff, Nat.reduceLeDiff, Nat.reduceMul, ↓reduceIte, reduceCtorEq, Nat.reduceBEq, aoper, Nat.reduceLT, Int.reduceEq, Int.reduceLT, Int.reduceLE]
  · by_cases h2 : 15 < n
    · simp (disch := omega) only [h1, h2, r0_path_Good_1, r1_path_Good_1, k0_path_Good_1, c_path_Good_1, Z0, Z1, Z2, Z3, Z4, Z5, Z6, Z7, Z8, Z9, Z10, resAll, Nat.reduceAdd, Nat.reduceEqDiff, Nat.reduceLeDiff, Nat.reduceMul, ↓reduceIte, reduceCtorEq, Nat.reduceBEq, aoper, Nat.reduceLT, Int.reduceEq, Int.reduceLT, Int.reduceLE]
    · simp (disch := omega) only [h1, h2, r0_path_Good_1, r1_path_Good_1, k0_path_Good_1, c_path_Good_1, Z0, Z1, Z2, Z3, Z4, Z5, Z6, Z7, Z8, Z9, Z10, resAll, Nat.reduceAdd, Nat.reduceEqDiff, Nat.reduceLeDiff, Nat.reduceMul, ↓reduceIte, reduceCtorEq, Nat.reduceBEq, aoper, Nat.reduceLT, Int.reduceEq, Int.reduceLT, Int.reduceLE]
def hasB (t : ThingD) (slot : Int) : Bool := decide (t.type = 2) && decide (t.base ≤ slot) && decide (slot < t.base + pw t.bits)
theorem state_has_ok (d : Nat) (σ : AHeap) (t : ThingD) (slot : Int) (ht : t.type = 2 → (0 ≤ t.bits ∧ t.bits ≤ 4) ∧ 0 ≤ t.base ∧ t.base ≤ 96) : acall (ofProg Tryz.prog) 1000 (d + 1) 223 [thingV t, .int .i64 slot] σ = some (.bool (hasB t slot), σ) := by
  refine acall_flat e_state_has (by simp) rfl ?_
  unfold hasB
  simp (disch := omega) only [r0_state_has, r1_state_has, k0_state_has, c_state_has, Z0, Z1, Z2, Z3, Z4, Z5, Z6, Z7, Z8, Z9, Z10, resAll, Nat.reduceAdd, Nat.reduceEqDiff, Nat.reduceLeDiff, Nat.reduceMul, ↓reduceIte, reduceCtorEq, Nat.reduceBEq, aoper, Nat.reduceLT, Int.reduceEq, Int.reduceLT, Int.reduceLE]
  refine ends_drw ?_
  by_cases h1 : t.type = 2
  · have h6 := (ht h1).1
    have h7 := (ht h1).2
    have hp := pw_le h6.1 h6.2
    by_cases h2 : t.base ≤ slot
    · by_cases h3 : slot < t.base + pw t.bits
      · simp (disch := omega) only [eq_true h1, h2, h3, r0_state_has, r1_state_has, k0_state_has, c_state_has, Z0, Z1, Z2, Z3, Z4, Z5, Z6, Z7, Z8, Z9, Z10, resAll, Nat.reduceAdd, Nat.reduceEqDiff, Nat.reduceLeDiff, Nat.reduceMul, ↓reduceIte, reduceCtorEq, Nat.reduceBEq, aoper, Nat.reduceLT, Int.reduceEq, Int.reduceLT, Int.reduceLE]
      · simp (disch := omega) only [eq_true h1, h2, h3, r0_state_has, r1_state_has, k0_state_has, c_state_has, Z0, Z1, Z2, Z3, Z4, Z5, Z6, Z7, Z8, Z9, Z10, resAll, Nat.reduceAdd, Nat.reduceEqDiff, Nat.reduceLeDiff, Nat.reduceMul, ↓reduceIte, reduceCtorEq, Nat.reduceBEq, aoper, Nat.reduceLT, Int.reduceEq, Int.reduceLT, Int.reduceLE]
    · simp (disch := omega) only [eq_true h1, h2, r0_state_has, r1_state_has, k0_state_has, c_state_has, Z0, Z1, Z2, Z3, Z4, Z5, Z6, Z7, Z8, Z9, Z10, resAll, Nat.reduceAdd, Nat.reduceEqDiff, Nat.reduceLeDiff, Nat.reduceMul, ↓reduceIte, reduceCtorEq, Nat.reduceBEq, aoper, Nat.reduceLT, Int.reduceEq, Int.reduceLT, Int.reduceLE]
  · simp (disch := omega) only [h1, r0_state_has, r1_state_has, k0_state_has, c_state_has, Z0, Z1, Z2, Z3, Z4, Z5, Z6, Z7, Z8, Z9, Z10, resAll, Nat.reduceAdd, Nat.reduceEqDiff, Nat.reduceLeDiff, Nat.reduceMul, ↓reduceIte, reduceCtorEq, Nat.reduceBEq, aoper, Nat.reduceLT, Int.reduceEq, Int.reduceLT, Int.reduceLE]
theorem find_step_ok (d : Nat) (σ : AHeap) (t : ThingD) (n : Int) (ht : 0 ≤ t.bits ∧ t.bits ≤ 4) (hb : 0 ≤ t.base ∧ t.base ≤ 96) (hn : 0 ≤ n) : acall (ofProg Tryz.prog) 1000 (d + 1) 89 [thingV t, .int .i64 n] σ = some (.int .i64 (if n < pw t.bits then t.base + n else -1), σ) := by
  refine acall_flat e_find_step (by simp) rfl ?_
  have hp := pw_le ht.1 ht.2
  by_cases h2 : pw t.bits ≤ n
  · have h3 : ¬ n < pw t.bits := by omega
    simp (disch := omega) only [h2, h3, r0_find_step, r1_find_step, r2_find_step, k1_find_step, r3_find_step, k2_find_step, k0_find_step, c_find_step, Z0, Z1, Z2, Z3, Z4, Z5, Z6, Z7, Z8, Z9, Z10, resAll, Nat.reduceAdd, Nat.reduceEqDiff, Nat.reduceLeDiff, Nat.reduceMul, ↓reduceIte, reduceCtorEq, Nat.reduceBEq, aoper, Nat.reduceLT, Int.reduceEq, Int.reduceLT, Int.reduceLE]
  · have h3 : n < pw t.bits := by omega
    simp (disch := omega) only [h2, h3, r0_find_step, r1_find_step, r2_find_step, k1_find_step, r3_find_step, k2_find_step, k0_find_step, c_find_step, Z0, Z1, Z2, Z3, Z4, Z5, Z6, Z7, Z8, Z9, Z10, resAll, Nat.reduceAdd, Nat.reduceEqDiff, Nat.reduceLeDiff, Nat.reduceMul, ↓reduceIte, reduceCtorEq, Nat.reduceBEq, aoper, Nat.reduceLT, Int.reduceEq, Int.reduceLT, Int.reduceLE]
end Go.Proofs.YtidmcpkbcphpiaaGreat
namespace Go.Proofs.YtidmcpkbcphpiaaGreat
open Go Go.Hai
set_option maxRecDepth 20000
set_option linter.unusedSimpArgs false
attribute [local irreducible] Hai.Ends EndsR EndsO EndsD AHeap.grow
set_option maxHeartbeats 1000000
def r0_state_caps : List AOper := [(.mk (some 1) none (.box 5 (.tmp 0))), (.mk (some 2) none (.mv (.const (.bool false))))]
def r1_state_caps : List AOper := [(.mk (some 6) none (.fldA 3 (.tmp 1))), (.mk (some 7) none (.load false 1 (.tmp 6))), (.mk (some 8) none (.lenS (.tmp 7))), (.mk (some 9) none (.mv (.const (.int .i64 0))))]
def r2_state_caps : List AOper := [(.mk (some 10) none (.bin .lss (.tmp 9) (.tmp 8)))]
def r3_state_caps : List AOper := [(.mk (some 11) none (.idxA 5 (.tmp 7) (.tmp 9))), (.mk (some 12) none (.load true 5 (.tmp 11))), (.mk (some 4) none (.alloc [(.int .i64 0), (.int .i64 0), (.int .i64 0), (.int .i64 0), (.int .i64 0)] 5)), (.mk none none (.store 5 (.tmp 4) (.tmp 12)))]
def r4_state_caps : List AOper := [(.mk (some 13) none (.fldA 0 (.tmp 4))), (.mk (some 14) none (.load true 4 (.tmp 13))), (.mk (some 5) none (.alloc [(.int .i64 0), (.int .i64 0), (.int .i64 0), (.int .i64 0)] 4)), (.mk none none (.store 4 (.tmp 5) (.tmp 14)))]
def r5_state_caps : List AOper := [(.mk (some 16) none (.load true 4 (.tmp 5))), (.mk (some 17) none (.call 120 [(.tmp 16)])), (.mk (some 18) none (.un .not (.tmp 17))), (.mk (some 15) none (.mv (.tmp 18)))]
def r6_state_caps : List AOper := [(.mk (some 2) none (.mv (.const (.bool false))))]
def r7_state_caps : List AOper := [(.mk (some 20) none (.load true 4 (.tmp 5))), (.mk (some 21) none (.call 38 [(.tmp 20)])), (.mk (some 22) none (.mv (.tmp 21))), (.mk (some 23) (some (22, true)) (.fldA 4 (.tmp 4))), (.mk (some 24) (some (22, true)) (.load false 1 (.tmp 23))), (.mk (some 25) (some (22, true)) (.bin .neq (.tmp 24) (.const (.int .i64 (-1))))), (.mk (some 26) none (.pick (.tmp 22) (.tmp 25) (.const (.bool false)))), (.mk (some 19) none (.mv (.tmp 26)))]
def r8_state_caps : List AOper := [(.mk (some 27) none (.load true 4 (.tmp 5))), (.mk (some 28) none (.call 38 [(.tmp 27)])), (.mk (some 29) none (.un .not (.tmp 28))), (.mk (some 30) none (.mv (.tmp 29))), (.mk (some 31) (some (30, true)) (.fldA 4 (.tmp 4))), (.mk (some 32) (some (30, true)) (.load false 1 (.tmp 31))), (.mk (some 33) (some (30, true)) (.bin .lss (.tmp 32) (.const (.int .i64 (-1))))), (.mk (some 34) none (.pick (.tmp 30) (.tmp 33) (.const (.bool false)))), (.mk (some 19) none (.mv (.tmp 34)))]
def k7_state_caps : ACode := (.cond (.tmp 19) .skip (.reg r8_state_caps))
def r9_state_caps : List AOper := [(.mk (some 2) none (.mv (.const (.bool false))))]
def r10_state_caps : List AOper := [(.mk (some 36) none (.load true 4 (.tmp 5))), (.mk (some 37) none (.call 38 [(.tmp 36)])), (.mk (some 38) none (.un .not (.tmp 37))), (.mk (some 39) none (.mv (.tmp 38))), (.mk (some 40) (some (39, true)) (.load true 5 (.tmp 1))), (.mk (some 41) (some (39, true)) (.fldA 1 (.tmp 5))), (.mk (some 42) (some (39, true)) (.load false 1 (.tmp 41))), (.mk (some 43) (some (39, true)) (.call 121 [(.tmp 40), (.tmp 42)])), (.mk (some 44) (some (39, true)) (.un .not (.tmp 43))), (.mk (some 45) (some (39, true)) (.mv (.tmp 44))), (.mk (some 46) (some (45, false)) (.fldA 4 (.tmp 1))), (.mk (some 47) (some (45, false)) (.load false 1 (.tmp 46))), (.mk (some 48) (some (45, false)) (.fldA 1 (.tmp 5))), (.mk (some 49) (some (45, false)) (.load false 1 (.tmp 48))), (.mk (some 50) (some (45, false)) (.idxA 13 (.tmp 47) (.tmp 49))), (.mk (some 51) (some (45, false)) (.fldA 0 (.tmp 50))), (.mk (some 52) (some (45, false)) (.load false 1 (.tmp 51))), (.mk (some 53) (some (45, false)) (.fldA 0 (.tmp 5))), (.mk (some 54) (some (45, false)) (.load false 1 (.tmp 53))), (.mk (some 55) (some (45, false)) (.bin .neq (.tmp 52) (.tmp 54))), (.mk (some 56) (some (39, true)) (.pick (.tmp 45) (.const (.bool true)) (.tmp 55))), (.mk (some 57) none (.pick (.tmp 39) (.tmp 56) (.const (.bool false)))), (.mk (some 35) none (.mv (.tmp 57)))]
def r11_state_caps : List AOper := [(.mk (some 2) none (.mv (.const (.bool false))))]
def k9_state_caps : ACode := (.cond (.tmp 35) (.seq (.reg r11_state_caps) .ret) .skip)
def k8_state_caps : ACode := (.cond (.tmp 19) (.seq (.reg r9_state_caps) .ret) (.seq (.drw r10_state_caps [0, 1, 3, 7, 15, 15, 47, 127, 255, 511, 1023, 2047, 1023, 5119, 16383, 32767, 65535, 1023, 132095, 524287, 1048575, 2097151, 4194303]) k9_state_caps))
def k6_state_caps : ACode := (.cond (.tmp 15) (.seq (.reg r6_state_caps) .ret) (.seq (.seq (.reg r7_state_caps) k7_state_caps) k8_state_caps))
def k5_state_caps : ACode := (.block 2 (.seq (.reg r5_state_caps) k6_state_caps))
def k4_state_caps : ACode := (.seq (.reg r4_state_caps) k5_state_caps)
def r12_state_caps : List AOper := [(.mk (some 58) none (.bin .add (.tmp 9) (.const (.int .i64 1)))), (.mk (some 9) none (.mv (.tmp 58)))]
def k10_state_caps : ACode := (.reg r12_state_caps)
def k3_state_caps : ACode := (.seq (.block 1 (.seq (.reg r3_state_caps) k4_state_caps)) k10_state_caps)
def k2_state_caps : ACode := (.seq (.cond (.tmp 10) .skip (.exit 0)) k3_state_caps)
def b0_state_caps : ACode := (.seq (.reg r2_state_caps) k2_state_caps)
def k1_state_caps : ACode := (.block 0 (.loop b0_state_caps))
def r13_state_caps : List AOper := [(.mk (some 2) none (.mv (.const (.bool true))))]
def k11_state_caps : ACode := (.seq (.reg r13_state_caps) .ret)
def k0_state_caps : ACode := (.seq (.seq (.reg r1_state_caps) k1_state_caps) k11_state_caps)
def c_state_caps : ACode := (.seq (.reg r0_state_caps) k0_state_caps)
theorem e_state_caps : ofProg Tryz.prog 57 = some ⟨59, [(.tmp 2)], c_state_caps⟩ := by kernel_rfl
def slotB (S : StD) (x : SlotD) : Bool := capGood x && !(capNone x && !(decide (x.up = -1))) && !(!(capNone x) && decide (x.up < -1)) && (capNone x || (match atI S.th x.thing with | some t => !(decide (t.type = 0)) && decide (t.type = x.type) | none => false))
def capsB (S : StD) : Bool := S.sl.all (slotB S)
theorem all_take {α : Type} {p : α → Bool} {l : List α} {i : Nat} {x : α} (h : (l.take i).all p = true) (hx : l[i]? = some x) (hp : p x = true) : (l.take (i + 1)).all p = true := by
  rw [List.take_add_one, hx]
  simp [List.all_append, h, hp]
theorem all_false {α : Type} {p : α → Bool} {l : List α} {i : Nat} {x : α} (hx : l[i]? = some x) (hp : p x = false) : l.all p = false := by
  rw [List.all_eq_false]
  exact ⟨x, List.mem_of_getElem? hx, by simp [hp]⟩
theorem state_caps_ok (d : Nat) (σ : AHeap) (S : StD) (a1 : Option Addr) (f1 : Nat) (a2 : Option Addr) (f2 : Nat) (h1 : SlS σ a1 S.sl) (h2 : SlT σ a2 S.th) (hn : S.sl.length < 1000) :
    acall (ofProg Tryz.prog) 1000 (d + 3) 57 [stV S a1 f1 a2 f2] σ = some (.bool (capsB S), σ) := by
  refine acall_flat e_state_caps (by simp) rfl ?_
  simp (disch := omega) only [r0_state_caps, r1_state_caps, r2_state_caps, r3_state_caps, r4_state_caps, r5_state_caps, r6_state_caps, r7_state_caps, r8_state_caps, k7_state_caps, r9_state_caps, r10_state_caps, r11_state_caps, k9_state_caps, k8_state_caps, k6_state_caps, k5_state_caps, k4_state_caps, r12_state_caps, k10_state_caps, k3_state_caps, k2_state_caps, k1_state_caps, r13_state_caps, k11_state_caps, k0_state_caps, c_state_caps, Z0, Z1, Z2, Z3, Z4, Z5, Z6, Z7, Z8, Z9, Z10, resAll, Nat.reduceAdd, Nat.reduceEqDiff, Nat.reduceLeDiff, Nat.reduceMul, ↓reduceIte, reduceCtorEq, Nat.reduceBEq, aoper, Nat.reduceLT, Int.reduceEq, Int.reduceLT, Int.reduceLE]
  refine ends_loop (fun i t τ => tget t 7 = .slice a1 S.sl.length f1 ∧ tget t 8 = i64 S.sl.length ∧ tget t 9 = i64 i ∧ tget t 1 = here σ.fresh.n 0 ∧ Keeps (σ.fresh.grow [(stL S a1 f1 a2 f2, 5)]) τ ∧ (S.sl.take i).all (slotB S) = true)
    S.sl.length hn ?_ ?_
  · refine ⟨?_, ?_, ?_, ?_, Keeps.refl _, rfl⟩ <;> simp (disch := omega) only [Int.natCast_zero, Int.ofNat_zero, r0_state_caps, r1_state_caps, r2_state_caps, r3_state_caps, r4_state_caps, r5_state_caps, r6_state_caps, r7_state_caps, r8_state_caps, k7_state_caps, r9_state_caps, r10_state_caps, r11_state_caps, k9_state_caps, k8_state_caps, k6_state_caps, k5_state_caps, k4_state_caps, r12_state_caps, k10_state_caps, k3_state_caps, k2_state_caps, k1_state_caps, r13_state_caps, k11_state_caps, k0_state_caps, c_state_caps, Z0, Z1, Z2, Z3, Z4, Z5, Z6, Z7, Z8, Z9, Z10, resAll, Nat.reduceAdd, Nat.reduceEqDiff, Nat.reduceLeDiff, Nat.reduceMul, ↓reduceIte, reduceCtorEq, Nat.reduceBEq, aoper, Nat.reduceLT, Int.reduceEq, Int.reduceLT, Int.reduceLE]
  · rintro i t τ hi ⟨t7, t8, t9, t1, hk, hall⟩
    rw [← grow_nil τ]
    have hlow : τ.low ≤ τ.n := by rw [hk.low]; exact Nat.le_trans (low_grow fresh_le _) hk.n
    have hbox := fun M o n => hk.own0 (r := stL S a1 f1 a2 f2) (e := 5) rfl M o n
    by_cases hlt : i < S.sl.length
    · obtain ⟨b, rfl, hb⟩ := h1.fresh.at hlt
      have hx : S.sl[i]? = some S.sl[i] := List.getElem?_eq_getElem hlt
      generalize S.sl[i] = x at hx
      have hl := fun L n hn => hb.ld0 ((Keeps.self _ _).trans hk) hx L n hn
      have hl5 := fun L => hl L 5 (by omega)
      have hlt' : (i : Int) < (S.sl.length : Int) := by omega
      have hth := fun L n => state_there_ok (d + 1) (τ.grow L) S (some ⟨b, 0, none⟩) f1 a2 f2 n ((h2.fresh.grow _).keeps (hk.grow L))
      have hthl := fun L m n => state_there_ok (d + 1) ((τ.grow L).setLow m) S (some ⟨b, 0, none⟩) f1 a2 f2 n (((h2.fresh.grow _).keeps (hk.grow L)).setLow m)
      simp only [List.take_succ_cons, List.take_zero] at hl5
      have hs : slotB S x = (capGood x && !(capNone x && !(decide (x.up = -1))) && !(!(capNone x) && decide (x.up < -1)) && (capNone x || (match atI S.th x.thing with | some t => !(decide (t.type = 0)) && decide (t.type = x.type) | none => false))) := rfl
      have hcast : ((i + 1 : Nat) : Int) = (i : Int) + 1 := by omega
      cases g0 : capGood x with
      | false =>
        have hf : capsB S = false := all_false hx (by rw [hs, g0]; rfl)
        simp (disch := omega) only [b0_state_caps, t7, t8, t9, t1, hbox, hl5, hlt', cap_Good_ok, cap_None_ok, hth, hthl, Int.toNat_natCast, sto_0 hlow, sto_1 hlow, kontD_grow hlow, g0, hf, hk.low, r0_state_caps, r1_state_caps, r2_state_caps, r3_state_caps, r4_state_caps, r5_state_caps, r6_state_caps, r7_state_caps, r8_state_caps, k7_state_caps, r9_state_caps, r10_state_caps, r11_state_caps, k9_state_caps, k8_state_caps, k6_state_caps, k5_state_caps, k4_state_caps, r12_state_caps, k10_state_caps, k3_state_caps, k2_state_caps, k1_state_caps, r13_state_caps, k11_state_caps, k0_state_caps, c_state_caps, Z0, Z1, Z2, Z3, Z4, Z5, Z6, Z7, Z8, Z9, Z10, resAll, Nat.reduceAdd, Nat.reduceEqDiff, Nat.reduceLeDiff, Nat.reduceMul, ↓reduceIte, reduceCtorEq, Nat.reduceBEq, aoper, Nat.reduceLT, Int.reduceEq, Int.reduceLT, Int.reduceLE]
      | true =>
      cases g1 : capNone x with
      | true =>
        by_cases g2 : x.up = -1
        · have hsx : slotB S x = true := by rw [hs, g0, g1, g2]; rfl
          simp (disch := omega) only [b0_state_caps, t7, t8, t9, t1, hbox, hl5, hlt', cap_Good_ok, cap_None_ok, hth, hthl, Int.toNat_natCast, sto_0 hlow, sto_1 hlow, kontD_grow hlow, g0, g1, eq_true g2, r0_state_caps, r1_state_caps, r2_state_caps, r3_state_caps, r4_state_caps, r5_state_caps, r6_state_caps, r7_state_caps, r8_state_caps, k7_state_caps, r9_state_caps, r10_state_caps, r11_state_caps, k9_state_caps, k8_state_caps, k6_state_caps, k5_state_caps, k4_state_caps, r12_state_caps, k10_state_caps, k3_state_caps, k2_state_caps, k1_state_caps, r13_state_caps, k11_state_caps, k0_state_caps, c_state_caps, Z0, Z1, Z2, Z3, Z4, Z5, Z6, Z7, Z8, Z9, Z10, resAll, Nat.reduceAdd, Nat.reduceEqDiff, Nat.reduceLeDiff, Nat.reduceMul, ↓reduceIte, reduceCtorEq, Nat.reduceBEq, aoper, Nat.reduceLT, Int.reduceEq, Int.reduceLT, Int.reduceLE]
          refine ends_drw ?_
          simp (disch := omega) only [b0_state_caps, t7, t8, t9, t1, hbox, hl5, hlt', cap_Good_ok, cap_None_ok, hth, hthl, Int.toNat_natCast, sto_0 hlow, sto_1 hlow, kontD_grow hlow, g0, g1, eq_true g2, hlt, hcast, hk.grow, all_take hall hx hsx, r0_state_caps, r1_state_caps, r2_state_caps, r3_state_caps, r4_state_caps, r5_state_caps, r6_state_caps, r7_state_caps, r8_state_caps, k7_state_caps, r9_state_caps, r10_state_caps, r11_state_caps, k9_state_caps, k8_state_caps, k6_state_caps, k5_state_caps, k4_state_caps, r12_state_caps, k10_state_caps, k3_state_caps, k2_state_caps, k1_state_caps, r13_state_caps, k11_state_caps, k0_state_caps, c_state_caps, Z0, Z1, Z2, Z3, Z4, Z5, Z6, Z7, Z8, Z9, Z10, resAll, Nat.reduceAdd, Nat.reduceEqDiff, Nat.reduceLeDiff, Nat.reduceMul, ↓reduceIte, reduceCtorEq, Nat.reduceBEq, aoper, Nat.reduceLT, Int.reduceEq, Int.reduceLT, Int.reduceLE]
        · have hf : capsB S = false := all_false hx (by rw [hs, g0, g1]; simp [g2])
          simp (disch := omega) only [b0_state_caps, t7, t8, t9, t1, hbox, hl5, hlt', cap_Good_ok, cap_None_ok, hth, hthl, Int.toNat_natCast, sto_0 hlow, sto_1 hlow, kontD_grow hlow, g0, g1, g2, hf, hk.low, r0_state_caps, r1_state_caps, r2_state_caps, r3_state_caps, r4_state_caps, r5_state_caps, r6_state_caps, r7_state_caps, r8_state_caps, k7_state_caps, r9_state_caps, r10_state_caps, r11_state_caps, k9_state_caps, k8_state_caps, k6_state_caps, k5_state_caps, k4_state_caps, r12_state_caps, k10_state_caps, k3_state_caps, k2_state_caps, k1_state_caps, r13_state_caps, k11_state_caps, k0_state_caps, c_state_caps, Z0, Z1, Z2, Z3, Z4, Z5, Z6, Z7, Z8, Z9, Z10, resAll, Nat.reduceAdd, Nat.reduceEqDiff, Nat.reduceLeDiff, Nat.reduceMul, ↓reduceIte, reduceCtorEq, Nat.reduceBEq, aoper, Nat.reduceLT, Int.reduceEq, Int.reduceLT, Int.reduceLE]
      | false =>
        by_cases g2 : x.up < -1
        · have hf : capsB S = false := all_false hx (by rw [hs, g0, g1]; simp [g2])
          simp (disch := omega) only [b0_state_caps, t7, t8, t9, t1, hbox, hl5, hlt', cap_Good_ok, cap_None_ok, hth, hthl, Int.toNat_natCast, sto_0 hlow, sto_1 hlow, kontD_grow hlow, g0, g1, g2, hf, hk.low, r0_state_caps, r1_state_caps, r2_state_caps, r3_state_caps, r4_state_caps, r5_state_caps, r6_state_caps, r7_state_caps, r8_state_caps, k7_state_caps, r9_state_caps, r10_state_caps, r11_state_caps, k9_state_caps, k8_state_caps, k6_state_caps, k5_state_caps, k4_state_caps, r12_state_caps, k10_state_caps, k3_state_caps, k2_state_caps, k1_state_caps, r13_state_caps, k11_state_caps, k0_state_caps, c_state_caps, Z0, Z1, Z2, Z3, Z4, Z5, Z6, Z7, Z8, Z9, Z10, resAll, Nat.reduceAdd, Nat.reduceEqDiff, Nat.reduceLeDiff, Nat.reduceMul, ↓reduceIte, reduceCtorEq, Nat.reduceBEq, aoper, Nat.reduceLT, Int.reduceEq, Int.reduceLT, Int.reduceLE]
        · simp (disch := omega) only [b0_state_caps, t7, t8, t9, t1, hbox, hl5, hlt', cap_Good_ok, cap_None_ok, hth, hthl, Int.toNat_natCast, sto_0 hlow, sto_1 hlow, kontD_grow hlow, g0, g1, g2, r0_state_caps, r1_state_caps, r2_state_caps, r3_state_caps, r4_state_caps, r5_state_caps, r6_state_caps, r7_state_caps, r8_state_caps, k7_state_caps, r9_state_caps, r10_state_caps, r11_state_caps, k9_state_caps, k8_state_caps, k6_state_caps, k5_state_caps, k4_state_caps, r12_state_caps, k10_state_caps, k3_state_caps, k2_state_caps, k1_state_caps, r13_state_caps, k11_state_caps, k0_state_caps, c_state_caps, Z0, Z1, Z2, Z3, Z4, Z5, Z6, Z7, Z8, Z9, Z10, resAll, Nat.reduceAdd, Nat.reduceEqDiff, Nat.reduceLeDiff, Nat.reduceMul, ↓reduceIte, reduceCtorEq, Nat.reduceBEq, aoper, Nat.reduceLT, Int.reduceEq, Int.reduceLT, Int.reduceLE]
          refine ends_drw ?_
          by_cases q : 0 ≤ x.thing ∧ x.thing < S.th.length
          · obtain ⟨y, e1, e2⟩ := atI_some q.1 q.2
            obtain ⟨b', rfl, hb'⟩ := h2.fresh.at (i := x.thing.toNat) (by omega)
            have hy := fun L => hb'.ld0 ((Keeps.self _ _).trans hk) e2 L 1 (by omega)
            simp only [List.take_succ_cons, List.take_zero] at hy
            have hte : thereB S x.thing = !(decide (y.type = 0)) := by unfold thereB; rw [e1]
            by_cases g3 : y.type = 0
            · have hf : capsB S = false := all_false hx (by rw [hs, g0, g1, e1]; simp [g3])
              simp (disch := omega) only [b0_state_caps, t7, t8, t9, t1, hbox, hl5, hlt', cap_Good_ok, cap_None_ok, hth, hthl, Int.toNat_natCast, sto_0 hlow, sto_1 hlow, kontD_grow hlow, g0, g1, g2, hte, eq_true g3, hf, hk.low, r0_state_caps, r1_state_caps, r2_state_caps, r3_state_caps, r4_state_caps, r5_state_caps, r6_state_caps, r7_state_caps, r8_state_caps, k7_state_caps, r9_state_caps, r10_state_caps, r11_state_caps, k9_state_caps, k8_state_caps, k6_state_caps, k5_state_caps, k4_state_caps, r12_state_caps, k10_state_caps, k3_state_caps, k2_state_caps, k1_state_caps, r13_state_caps, k11_state_caps, k0_state_caps, c_state_caps, Z0, Z1, Z2, Z3, Z4, Z5, Z6, Z7, Z8, Z9, Z10, resAll, Nat.reduceAdd, Nat.reduceEqDiff, Nat.reduceLeDiff, Nat.reduceMul, ↓reduceIte, reduceCtorEq, Nat.reduceBEq, aoper, Nat.reduceLT, Int.reduceEq, Int.reduceLT, Int.reduceLE]
            · by_cases g4 : y.type = x.type
              · have hsx : slotB S x = true := by rw [hs, g0, g1, e1]; simp [g4, g2]; rw [← g4]; exact g3
                simp (disch := omega) only [b0_state_caps, t7, t8, t9, t1, hbox, hl5, hlt', cap_Good_ok, cap_None_ok, hth, hthl, Int.toNat_natCast, sto_0 hlow, sto_1 hlow, kontD_grow hlow, g0, g1, g2, hte, g3, eq_true g4, hlt, hcast, hk.grow, all_take hall hx hsx, q.1, q.2, hy, r0_state_caps, r1_state_caps, r2_state_caps, r3_state_caps, r4_state_caps, r5_state_caps, r6_state_caps, r7_state_caps, r8_state_caps, k7_state_caps, r9_state_caps, r10_state_caps, r11_state_caps, k9_state_caps, k8_state_caps, k6_state_caps, k5_state_caps, k4_state_caps, r12_state_caps, k10_state_caps, k3_state_caps, k2_state_caps, k1_state_caps, r13_state_caps, k11_state_caps, k0_state_caps, c_state_caps, Z0, Z1, Z2, Z3, Z4, Z5, Z6, Z7, Z8, Z9, Z10, resAll, Nat.reduceAdd, Nat.reduceEqDiff, Nat.reduceLeDiff, Nat.reduceMul, ↓reduceIte, reduceCtorEq, Nat.reduceBEq, aoper, Nat.reduceLT, Int.reduceEq, Int.reduceLT, Int.reduceLE]
              · have hf : capsB S = false := all_false hx (by rw [hs, g0, g1, e1]; simp [g4])
                simp (disch := omega) only [b0_state_caps, t7, t8, t9, t1, hbox, hl5, hlt', cap_Good_ok, cap_None_ok, hth, hthl, Int.toNat_natCast, sto_0 hlow, sto_1 hlow, kontD_grow hlow, g0, g1, g2, hte, g3, g4, hf, hk.low, q.1, q.2, hy, r0_state_caps, r1_state_caps, r2_state_caps, r3_state_caps, r4_state_caps, r5_state_caps, r6_state_caps, r7_state_caps, r8_state_caps, k7_state_caps, r9_state_caps, r10_state_caps, r11_state_caps, k9_state_caps, k8_state_caps, k6_state_caps, k5_state_caps, k4_state_caps, r12_state_caps, k10_state_caps, k3_state_caps, k2_state_caps, k1_state_caps, r13_state_caps, k11_state_caps, k0_state_caps, c_state_caps, Z0, Z1, Z2, Z3, Z4, Z5, Z6, Z7, Z8, Z9, Z10, resAll, Nat.reduceAdd, Nat.reduceEqDiff, Nat.reduceLeDiff, Nat.reduceMul, ↓reduceIte, reduceCtorEq, Nat.reduceBEq, aoper, Nat.reduceLT, Int.reduceEq, Int.reduceLT, Int.reduceLE]
          · have e1 := atI_none (l := S.th) (z := x.thing) q
            have hte : thereB S x.thing = false := by unfold thereB; rw [e1]
            have hf : capsB S = false := all_false hx (by rw [hs, g0, g1, e1]; simp)
            simp (disch := omega) only [b0_state_caps, t7, t8, t9, t1, hbox, hl5, hlt', cap_Good_ok, cap_None_ok, hth, hthl, Int.toNat_natCast, sto_0 hlow, sto_1 hlow, kontD_grow hlow, g0, g1, g2, hte, hf, hk.low, r0_state_caps, r1_state_caps, r2_state_caps, r3_state_caps, r4_state_caps, r5_state_caps, r6_state_caps, r7_state_caps, r8_state_caps, k7_state_caps, r9_state_caps, r10_state_caps, r11_state_caps, k9_state_caps, k8_state_caps, k6_state_caps, k5_state_caps, k4_state_caps, r12_state_caps, k10_state_caps, k3_state_caps, k2_state_caps, k1_state_caps, r13_state_caps, k11_state_caps, k0_state_caps, c_state_caps, Z0, Z1, Z2, Z3, Z4, Z5, Z6, Z7, Z8, Z9, Z10, resAll, Nat.reduceAdd, Nat.reduceEqDiff, Nat.reduceLeDiff, Nat.reduceMul, ↓reduceIte, reduceCtorEq, Nat.reduceBEq, aoper, Nat.reduceLT, Int.reduceEq, Int.reduceLT, Int.reduceLE]
    · have hlt' : ¬ (i : Int) < (S.sl.length : Int) := by omega
      have hii : i = S.sl.length := by omega
      have hf : capsB S = true := by unfold capsB; rw [hii, List.take_length] at hall; exact hall
      simp (disch := omega) only [b0_state_caps, t7, t8, t9, t1, hlt', hf, hk.low, r0_state_caps, r1_state_caps, r2_state_caps, r3_state_caps, r4_state_caps, r5_state_caps, r6_state_caps, r7_state_caps, r8_state_caps, k7_state_caps, r9_state_caps, r10_state_caps, r11_state_caps, k9_state_caps, k8_state_caps, k6_state_caps, k5_state_caps, k4_state_caps, r12_state_caps, k10_state_caps, k3_state_caps, k2_state_caps, k1_state_caps, r13_state_caps, k11_state_caps, k0_state_caps, c_state_caps, Z0, Z1, Z2, Z3, Z4, Z5, Z6, Z7, Z8, Z9, Z10, resAll, Nat.reduceAdd, Nat.reduceEqDiff, Nat.reduceLeDiff, Nat.reduceMul, ↓reduceIte, reduceCtorEq, Nat.reduceBEq, aoper, Nat.reduceLT, Int.reduceEq, Int.reduceLT, Int.reduceLE]
end Go.Proofs.YtidmcpkbcphpiaaGreat
namespace Go.Proofs.YtidmcpkbcphpiaaGreat
open Go Go.Hai
set_option maxRecDepth 20000
set_option linter.unusedSimpArgs false
set_option maxHeartbeats 1000000
attribute [local irreducible] Hai.Ends EndsR EndsO EndsD AHeap.grow
def r0_state_holders : List AOper := [(.mk (some 2) none (.box 5 (.tmp 0))), (.mk (some 4) none (.mv (.const (.slice none 0 0))))]
def r1_state_holders : List AOper := [(.mk (some 5) none (.mv (.const (.slice none 0 0))))]
def r2_state_holders : List AOper := [(.mk (some 8) none (.fldA 3 (.tmp 2))), (.mk (some 9) none (.load false 1 (.tmp 8))), (.mk (some 10) none (.lenS (.tmp 9))), (.mk (some 11) none (.mv (.const (.int .i64 0))))]
def r3_state_holders : List AOper := [(.mk (some 12) none (.bin .lss (.tmp 11) (.tmp 10)))]
def r4_state_holders : List AOper := [(.mk (some 13) none (.mv (.tmp 11))), (.mk (some 14) none (.idxA 5 (.tmp 9) (.tmp 11))), (.mk (some 15) none (.load true 5 (.tmp 14))), (.mk (some 7) none (.alloc [(.int .i64 0), (.int .i64 0), (.int .i64 0), (.int .i64 0), (.int .i64 0)] 5)), (.mk (some 6) none (.mv (.tmp 13))), (.mk none none (.store 5 (.tmp 7) (.tmp 15)))]
def r5_state_holders : List AOper := [(.mk (some 16) none (.fldA 0 (.tmp 7))), (.mk (some 17) none (.load true 4 (.tmp 16))), (.mk (some 18) none (.call 38 [(.tmp 17)])), (.mk (some 19) none (.un .not (.tmp 18))), (.mk (some 20) none (.mv (.tmp 19))), (.mk (some 21) (some (20, true)) (.fldA 0 (.tmp 7))), (.mk (some 22) (some (20, true)) (.fldA 1 (.tmp 21))), (.mk (some 23) (some (20, true)) (.load false 1 (.tmp 22))), (.mk (some 24) (some (20, true)) (.mv (.tmp 1))), (.mk (some 25) (some (20, true)) (.bin .eql (.tmp 23) (.tmp 24))), (.mk (some 26) none (.pick (.tmp 20) (.tmp 25) (.const (.bool false))))]
def r6_state_holders : List AOper := [(.mk (some 27) none (.mv (.tmp 5))), (.mk (some 28) none (.mv (.tmp 6))), (.mk (some 29) none (.buildSl [(.int .i64 0)] 1 1 [(0, (1, (.tmp 28)))])), (.mk (some 30) none (.app 1 8 (.tmp 27) (.tmp 29))), (.mk (some 5) none (.mv (.tmp 30)))]
def k6_state_holders : ACode := (.cond (.tmp 26) (.reg r6_state_holders) .skip)
def k5_state_holders : ACode := (.seq (.reg r5_state_holders) k6_state_holders)
def r7_state_holders : List AOper := [(.mk (some 31) none (.bin .add (.tmp 11) (.const (.int .i64 1)))), (.mk (some 11) none (.mv (.tmp 31)))]
def k7_state_holders : ACode := (.reg r7_state_holders)
def k4_state_holders : ACode := (.seq (.block 1 (.seq (.reg r4_state_holders) k5_state_holders)) k7_state_holders)
def k3_state_holders : ACode := (.seq (.cond (.tmp 12) .skip (.exit 0)) k4_state_holders)
def b0_state_holders : ACode := (.seq (.reg r3_state_holders) k3_state_holders)
def k2_state_holders : ACode := (.block 0 (.loop b0_state_holders))
def r8_state_holders : List AOper := [(.mk (some 32) none (.mv (.tmp 5))), (.mk (some 4) none (.mv (.tmp 32)))]
def k8_state_holders : ACode := (.seq (.reg r8_state_holders) .ret)
def k1_state_holders : ACode := (.seq (.seq (.reg r2_state_holders) k2_state_holders) k8_state_holders)
def k0_state_holders : ACode := (.seq (.reg r1_state_holders) k1_state_holders)
def c_state_holders : ACode := (.seq (.reg r0_state_holders) k0_state_holders)
theorem e_state_holders : ofProg Tryz.prog 124 = some ⟨33, [(.tmp 4)], c_state_holders⟩ := by kernel_rfl
def holdTo (S : StD) (n : Int) : Nat → List Int
  | 0 => []
  | i + 1 => holdTo S n i ++ (match S.sl[i]? with | some x => if capNone x = false ∧ x.thing = n then [(i : Int)] else [] | none => [])
theorem holdTo_length (S : StD) (n : Int) : ∀ i, (holdTo S n i).length ≤ i := by
  intro i
  induction i with
  | zero => simp [holdTo]
  | succ i ih =>
    simp only [holdTo, List.length_append]
    have : ∀ o : Option SlotD, (match o with | some x => if capNone x = false ∧ x.thing = n then [(i : Int)] else [] | none => []).length ≤ 1 := fun o => by
      cases o with
      | none => simp
      | some x => simp only; split <;> simp
    have := this S.sl[i]?
    omega
theorem state_holders_ok (d : Nat) (σ : AHeap) (S : StD) (a1 : Option Addr) (f1 : Nat) (a2 : Option Addr) (f2 : Nat) (n : Int) (hd : Liv σ.n σ) (hlo : σ.low ≤ σ.n) (h1 : SlS σ a1 S.sl) (hn : S.sl.length < 1000) :
    ∃ v τ, acall (ofProg Tryz.prog) 1000 (d + 2) 124 [stV S a1 f1 a2 f2, .int .i64 n] σ = some (v, τ) ∧ OutP σ.n τ v (holdTo S n S.sl.length) ∧ Keeps σ τ := by
  suffices hs : Hai.Ends (acode (acall (ofProg Tryz.prog) 1000 (d + 1)) 1000 c_state_holders (Tr.of [stV S a1 f1 a2 f2, .int .i64 n]) (σ.fresh.grow [])) (finA σ.n [.tmp 4] fun v τ => OutP σ.n τ v (holdTo S n S.sl.length) ∧ Keeps σ.fresh τ) by
    obtain ⟨v, τ', e, τ, ⟨g1, g2⟩, g3⟩ := acall_addr e_state_holders (by simp) hlo hs
    refine ⟨v, τ', e, ?_⟩
    rcases g3 with ⟨g3, rfl⟩ | rfl
    · exact ⟨g1.flat g3, Keeps.refl _⟩
    · exact ⟨g1, g2.back⟩
  simp (disch := omega) only [r0_state_holders, r1_state_holders, r2_state_holders, r3_state_holders, r4_state_holders, r5_state_holders, r6_state_holders, k6_state_holders, k5_state_holders, r7_state_holders, k7_state_holders, k4_state_holders, k3_state_holders, k2_state_holders, r8_state_holders, k8_state_holders, k1_state_holders, k0_state_holders, c_state_holders, Z0, Z1, Z2, Z3, Z4, Z5, Z6, Z7, Z8, Z9, Z10, resAll, Nat.reduceAdd, Nat.reduceEqDiff, Nat.reduceLeDiff, Nat.reduceMul, ↓reduceIte, reduceCtorEq, Nat.reduceBEq, aoper, Nat.reduceLT, Int.reduceEq, Int.reduceLT, Int.reduceLE]
  refine ends_loop (fun i t τ => tget t 9 = .slice a1 S.sl.length f1 ∧ tget t 10 = i64 S.sl.length ∧ tget t 11 = i64 i ∧ tget t 1 = i64 n ∧ Keeps (σ.fresh.grow [(stL S a1 f1 a2 f2, 5)]) τ ∧ OutP (σ.n + 1) τ (tget t 5) (holdTo S n i))
    S.sl.length hn ?_ ?_
  · refine ⟨?_, ?_, ?_, ?_, Keeps.refl _, ?_⟩ <;> simp (disch := omega) only [Int.natCast_zero, Int.ofNat_zero, r0_state_holders, r1_state_holders, r2_state_holders, r3_state_holders, r4_state_holders, r5_state_holders, r6_state_holders, k6_state_holders, k5_state_holders, r7_state_holders, k7_state_holders, k4_state_holders, k3_state_holders, k2_state_holders, r8_state_holders, k8_state_holders, k1_state_holders, k0_state_holders, c_state_holders, Z0, Z1, Z2, Z3, Z4, Z5, Z6, Z7, Z8, Z9, Z10, resAll, Nat.reduceAdd, Nat.reduceEqDiff, Nat.reduceLeDiff, Nat.reduceMul, ↓reduceIte, reduceCtorEq, Nat.reduceBEq, aoper, Nat.reduceLT, Int.reduceEq, Int.reduceLT, Int.reduceLE]
    exact OutP.nil _ _
  · rintro i t τ hi ⟨t9, t10, t11, t1, hk, hout⟩
    obtain ⟨vo, hvo⟩ : ∃ vo, tget t 5 = vo := ⟨_, rfl⟩
    rw [hvo] at hout
    rw [← grow_nil τ]
    have hlow : τ.low ≤ τ.n := by rw [hk.low]; exact Nat.le_trans (low_grow fresh_le _) hk.n
    have hdead : Liv (σ.n + 1) τ := hd.of (by rw [hk.dead, grow_dead]; rfl) (by omega)
    by_cases hlt : i < S.sl.length
    · obtain ⟨b, rfl, hb⟩ := h1.fresh.at hlt
      have hx : S.sl[i]? = some S.sl[i] := List.getElem?_eq_getElem hlt
      generalize S.sl[i] = x at hx
      have hl5 := fun L => hb.ld0 ((Keeps.self _ _).trans hk) hx L 5 (by omega)
      simp only [List.take_succ_cons, List.take_zero] at hl5
      have hlt' : (i : Int) < (S.sl.length : Int) := by omega
      have hcast : ((i + 1 : Nat) : Int) = (i : Int) + 1 := by omega
      cases g1 : capNone x with
      | true =>
        have hh : holdTo S n (i + 1) = holdTo S n i := by simp [holdTo, hx, g1]
        simp (disch := omega) only [b0_state_holders, t9, t10, t11, t1, hvo, hl5, hlt', hlt, hcast, cap_None_ok, Int.toNat_natCast, sto_0 hlow, sto_1 hlow, g1, hh, hk.grow, r0_state_holders, r1_state_holders, r2_state_holders, r3_state_holders, r4_state_holders, r5_state_holders, r6_state_holders, k6_state_holders, k5_state_holders, r7_state_holders, k7_state_holders, k4_state_holders, k3_state_holders, k2_state_holders, r8_state_holders, k8_state_holders, k1_state_holders, k0_state_holders, c_state_holders, Z0, Z1, Z2, Z3, Z4, Z5, Z6, Z7, Z8, Z9, Z10, resAll, Nat.reduceAdd, Nat.reduceEqDiff, Nat.reduceLeDiff, Nat.reduceMul, ↓reduceIte, reduceCtorEq, Nat.reduceBEq, aoper, Nat.reduceLT, Int.reduceEq, Int.reduceLT, Int.reduceLE]
        exact hout.keeps (Keeps.self _ _)
      | false =>
        by_cases g2 : x.thing = n
        · have hh : holdTo S n (i + 1) = holdTo S n i ++ [(i : Int)] := by simp [holdTo, hx, g1, g2]
          simp (disch := omega) only [b0_state_holders, t9, t10, t11, t1, hvo, hl5, hlt', hlt, hcast, cap_None_ok, Int.toNat_natCast, sto_0 hlow, sto_1 hlow, g1, eq_true g2, hh, hk.grow, r0_state_holders, r1_state_holders, r2_state_holders, r3_state_holders, r4_state_holders, r5_state_holders, r6_state_holders, k6_state_holders, k5_state_holders, r7_state_holders, k7_state_holders, k4_state_holders, k3_state_holders, k2_state_holders, r8_state_holders, k8_state_holders, k1_state_holders, k0_state_holders, c_state_holders, Z0, Z1, Z2, Z3, Z4, Z5, Z6, Z7, Z8, Z9, Z10, resAll, Nat.reduceAdd, Nat.reduceEqDiff, Nat.reduceLeDiff, Nat.reduceMul, ↓reduceIte, reduceCtorEq, Nat.reduceBEq, aoper, Nat.reduceLT, Int.reduceEq, Int.reduceLT, Int.reduceLE]
          have hrow : (τ.grow [([i64 x.type, i64 x.thing, i64 x.rights, i64 x.badge, i64 x.up], 5), ([Value.int IntKind.i64 i], 1)]).loadN (τ.n + 1) 0 1 = some [i64 i] := by rw [ld_1]; rfl
          have hkn := hk.n
          have hll := holdTo_length S n i
          rw [grow_n] at hkn
          obtain ⟨v', τ', he, ho', hd', hl', hr', hrd⟩ := app_step (base := σ.n + 1) (fx := 1) (hdead.of (grow_dead _ _) (Nat.le_refl _)) (by rw [grow_low, hk.low, grow_low, fresh_low]; omega) (by rw [grow_n]; exact Nat.le_trans hkn (by omega)) (hout.keeps (Keeps.self _ _)) hrow (by omega)
          have hk' : Keeps (σ.fresh.grow [(stL S (some ⟨b, 0, none⟩) f1 a2 f2, 5)]) τ' := (hk.grow _).app hrd hd' hl' fun c hc => hr' c (by rw [grow_n] at hc; exact hc)
          rw [he]
          simp (disch := omega) only [t9, t10, t11, t1, hlt, hcast, hh, hk', ho', r0_state_holders, r1_state_holders, r2_state_holders, r3_state_holders, r4_state_holders, r5_state_holders, r6_state_holders, k6_state_holders, k5_state_holders, r7_state_holders, k7_state_holders, k4_state_holders, k3_state_holders, k2_state_holders, r8_state_holders, k8_state_holders, k1_state_holders, k0_state_holders, c_state_holders, Z0, Z1, Z2, Z3, Z4, Z5, Z6, Z7, Z8, Z9, Z10, resAll, Nat.reduceAdd, Nat.reduceEqDiff, Nat.reduceLeDiff, Nat.reduceMul, ↓reduceIte, reduceCtorEq, Nat.reduceBEq, aoper, Nat.reduceLT, Int.reduceEq, Int.reduceLT, Int.reduceLE]
        · have hh : holdTo S n (i + 1) = holdTo S n i := by simp [holdTo, hx, g1, g2]
          simp (disch := omega) only [b0_state_holders, t9, t10, t11, t1, hvo, hl5, hlt', hlt, hcast, cap_None_ok, Int.toNat_natCast, sto_0 hlow, sto_1 hlow, g1, g2, hh, hk.grow, r0_state_holders, r1_state_holders, r2_state_holders, r3_state_holders, r4_state_holders, r5_state_holders, r6_state_holders, k6_state_holders, k5_state_holders, r7_state_holders, k7_state_holders, k4_state_holders, k3_state_holders, k2_state_holders, r8_state_holders, k8_state_holders, k1_state_holders, k0_state_holders, c_state_holders, Z0, Z1, Z2, Z3, Z4, Z5, Z6, Z7, Z8, Z9, Z10, resAll, Nat.reduceAdd, Nat.reduceEqDiff, Nat.reduceLeDiff, Nat.reduceMul, ↓reduceIte, reduceCtorEq, Nat.reduceBEq, aoper, Nat.reduceLT, Int.reduceEq, Int.reduceLT, Int.reduceLE]
          exact hout.keeps (Keeps.self _ _)
    · have hlt' : ¬ (i : Int) < (S.sl.length : Int) := by omega
      have hii : i = S.sl.length := by omega
      subst hii
      simp (disch := omega) only [b0_state_holders, t9, t10, t11, t1, hlt', hvo, hk.low, r0_state_holders, r1_state_holders, r2_state_holders, r3_state_holders, r4_state_holders, r5_state_holders, r6_state_holders, k6_state_holders, k5_state_holders, r7_state_holders, k7_state_holders, k4_state_holders, k3_state_holders, k2_state_holders, r8_state_holders, k8_state_holders, k1_state_holders, k0_state_holders, c_state_holders, Z0, Z1, Z2, Z3, Z4, Z5, Z6, Z7, Z8, Z9, Z10, resAll, Nat.reduceAdd, Nat.reduceEqDiff, Nat.reduceLeDiff, Nat.reduceMul, ↓reduceIte, reduceCtorEq, Nat.reduceBEq, aoper, Nat.reduceLT, Int.reduceEq, Int.reduceLT, Int.reduceLE]
      exact ⟨(hout.le (by omega)).keeps (Keeps.self _ _), hk.cut.grow _⟩
end Go.Proofs.YtidmcpkbcphpiaaGreat
namespace Go.Proofs.YtidmcpkbcphpiaaGreat
open Go Go.Hai
set_option maxRecDepth 20000
set_option linter.unusedSimpArgs false
set_option maxHeartbeats 4000000
attribute [local irreducible] Hai.Ends EndsR EndsO EndsD AHeap.grow
def r0_state_things : List AOper := [(.mk (some 1) none (.box 5 (.tmp 0))), (.mk (some 2) none (.mv (.const (.bool false))))]
def r1_state_things : List AOper := [(.mk (some 6) none (.fldA 4 (.tmp 1))), (.mk (some 7) none (.load false 1 (.tmp 6))), (.mk (some 8) none (.lenS (.tmp 7))), (.mk (some 9) none (.mv (.const (.int .i64 0))))]
def r2_state_things : List AOper := [(.mk (some 10) none (.bin .lss (.tmp 9) (.tmp 8)))]
def r3_state_things : List AOper := [(.mk (some 11) none (.mv (.tmp 9))), (.mk (some 12) none (.idxA 13 (.tmp 7) (.tmp 9))), (.mk (some 13) none (.load true 13 (.tmp 12))), (.mk (some 4) none (.alloc [(.int .i64 0), (.int .i64 0), (.int .i64 0), (.int .i64 0), (.int .i64 0), (.int .i64 0), (.int .i64 0), (.bool false), (.int .u64 0), (.int .u64 0), (.int .u64 0), (.int .u64 0), (.int .u64 0)] 13)), (.mk (some 3) none (.mv (.tmp 11))), (.mk none none (.store 13 (.tmp 4) (.tmp 13)))]
def r4_state_things : List AOper := [(.mk (some 14) none (.load true 13 (.tmp 4))), (.mk (some 15) none (.call 122 [(.tmp 14)])), (.mk (some 16) none (.un .not (.tmp 15)))]
def r5_state_things : List AOper := [(.mk (some 2) none (.mv (.const (.bool false))))]
def k5_state_things : ACode := (.cond (.tmp 16) (.seq (.reg r5_state_things) .ret) .skip)
def r6_state_things : List AOper := [(.mk (some 17) none (.fldA 5 (.tmp 4))), (.mk (some 18) none (.load false 1 (.tmp 17))), (.mk (some 19) none (.bin .gtr (.tmp 18) (.const (.int .i64 0)))), (.mk (some 20) none (.mv (.tmp 19))), (.mk (some 21) (some (20, true)) (.fldA 5 (.tmp 4))), (.mk (some 22) (some (20, true)) (.load false 1 (.tmp 21))), (.mk (some 23) (some (20, true)) (.fldA 3 (.tmp 1))), (.mk (some 24) (some (20, true)) (.load false 1 (.tmp 23))), (.mk (some 25) (some (20, true)) (.lenS (.tmp 24))), (.mk (some 26) (some (20, true)) (.bin .gtr (.tmp 22) (.tmp 25))), (.mk (some 27) (some (20, true)) (.mv (.tmp 26))), (.mk (some 28) (some (27, false)) (.fldA 3 (.tmp 1))), (.mk (some 29) (some (27, false)) (.load false 1 (.tmp 28))), (.mk (some 30) (some (27, false)) (.fldA 5 (.tmp 4))), (.mk (some 31) (some (27, false)) (.load false 1 (.tmp 30))), (.mk (some 32) (some (27, false)) (.bin .sub (.tmp 31) (.const (.int .i64 1)))), (.mk (some 33) (some (27, false)) (.idxA 5 (.tmp 29) (.tmp 32))), (.mk (some 34) (some (27, false)) (.fldA 0 (.tmp 33))), (.mk (some 35) (some (27, false)) (.load true 4 (.tmp 34))), (.mk (some 36) (some (27, false)) (.call 38 [(.tmp 35)])), (.mk (some 37) (some (20, true)) (.pick (.tmp 27) (.const (.bool true)) (.tmp 36))), (.mk (some 38) none (.pick (.tmp 20) (.tmp 37) (.const (.bool false))))]
def r7_state_things : List AOper := [(.mk (some 2) none (.mv (.const (.bool false))))]
def k7_state_things : ACode := (.cond (.tmp 38) (.seq (.reg r7_state_things) .ret) .skip)
def r8_state_things : List AOper := [(.mk (some 39) none (.mv (.tmp 3))), (.mk (some 40) none (.bin .geq (.tmp 39) (.const (.int .i64 2)))), (.mk (some 41) none (.mv (.tmp 40))), (.mk (some 42) (some (41, true)) (.mv (.tmp 3))), (.mk (some 43) (some (41, true)) (.fldA 0 (.tmp 1))), (.mk (some 44) (some (41, true)) (.fldA 0 (.tmp 43))), (.mk (some 45) (some (41, true)) (.load false 1 (.tmp 44))), (.mk (some 46) (some (41, true)) (.bin .add (.const (.int .i64 2)) (.tmp 45))), (.mk (some 47) (some (41, true)) (.bin .lss (.tmp 42) (.tmp 46))), (.mk (some 48) none (.pick (.tmp 41) (.tmp 47) (.const (.bool false)))), (.mk (some 5) none (.mv (.tmp 48)))]
def r9_state_things : List AOper := [(.mk (some 49) none (.mv (.tmp 5))), (.mk (some 50) none (.mv (.tmp 49))), (.mk (some 51) (some (50, true)) (.load true 13 (.tmp 4))), (.mk (some 52) (some (50, true)) (.fldA 0 (.tmp 1))), (.mk (some 53) (some (50, true)) (.load true 3 (.tmp 52))), (.mk (some 54) (some (50, true)) (.mv (.tmp 3))), (.mk (some 55) (some (50, true)) (.bin .sub (.tmp 54) (.const (.int .i64 2)))), (.mk (some 56) (some (50, true)) (.call 123 [(.tmp 53), (.tmp 55)])), (.mk (some 57) (some (50, true)) (.build [(.int .i64 0), (.int .i64 0), (.int .i64 0), (.int .i64 0), (.int .i64 0), (.int .i64 0), (.int .i64 0), (.bool false), (.int .u64 0), (.int .u64 0), (.int .u64 0), (.int .u64 0), (.int .u64 0)] [(0, (1, (.const (.int .i64 2)))), (1, (1, (.const (.int .i64 3)))), (2, (1, (.tmp 56)))])), (.mk (some 58) (some (50, true)) (.eqS true [(0, 0), (1, 0), (2, 0), (3, 0), (4, 0), (5, 0), (6, 0), (7, 1), (8, 0), (9, 0), (10, 0), (11, 0), (12, 0)] (.tmp 51) (.tmp 57))), (.mk (some 59) none (.pick (.tmp 50) (.tmp 58) (.const (.bool false))))]
def r10_state_things : List AOper := [(.mk (some 2) none (.mv (.const (.bool false))))]
def k10_state_things : ACode := (.cond (.tmp 59) (.seq (.reg r10_state_things) .ret) .skip)
def r11_state_things : List AOper := [(.mk (some 60) none (.mv (.tmp 5))), (.mk (some 61) none (.un .not (.tmp 60))), (.mk (some 62) none (.mv (.tmp 61))), (.mk (some 63) (some (62, true)) (.fldA 0 (.tmp 4))), (.mk (some 64) (some (62, true)) (.load false 1 (.tmp 63))), (.mk (some 65) (some (62, true)) (.bin .neq (.tmp 64) (.const (.int .i64 0)))), (.mk (some 66) none (.pick (.tmp 62) (.tmp 65) (.const (.bool false)))), (.mk (some 67) none (.mv (.tmp 66))), (.mk (some 68) (some (67, true)) (.load true 5 (.tmp 1))), (.mk (some 69) (some (67, true)) (.mv (.tmp 3))), (.mk (some 70) (some (67, true)) (.call 124 [(.tmp 68), (.tmp 69)])), (.mk (some 71) (some (67, true)) (.lenS (.tmp 70))), (.mk (some 72) (some (67, true)) (.bin .eql (.tmp 71) (.const (.int .i64 0)))), (.mk (some 73) none (.pick (.tmp 67) (.tmp 72) (.const (.bool false))))]
def r12_state_things : List AOper := [(.mk (some 2) none (.mv (.const (.bool false))))]
def k12_state_things : ACode := (.cond (.tmp 73) (.seq (.reg r12_state_things) .ret) .skip)
def k11_state_things : ACode := (.seq (.reg r11_state_things) k12_state_things)
def k9_state_things : ACode := (.seq (.seq (.drw r9_state_things [0, 1, 3, 3, 11, 3, 35, 123, 251, 511, 1023]) k10_state_things) k11_state_things)
def k8_state_things : ACode := (.seq (.reg r8_state_things) k9_state_things)
def k6_state_things : ACode := (.seq (.seq (.reg r6_state_things) k7_state_things) k8_state_things)
def k4_state_things : ACode := (.seq (.seq (.reg r4_state_things) k5_state_things) k6_state_things)
def r13_state_things : List AOper := [(.mk (some 74) none (.bin .add (.tmp 9) (.const (.int .i64 1)))), (.mk (some 9) none (.mv (.tmp 74)))]
def k13_state_things : ACode := (.reg r13_state_things)
def k3_state_things : ACode := (.seq (.block 1 (.seq (.reg r3_state_things) k4_state_things)) k13_state_things)
def k2_state_things : ACode := (.seq (.cond (.tmp 10) .skip (.exit 0)) k3_state_things)
def b0_state_things : ACode := (.seq (.reg r2_state_things) k2_state_things)
def k1_state_things : ACode := (.block 0 (.loop b0_state_things))
def r14_state_things : List AOper := [(.mk (some 2) none (.mv (.const (.bool true))))]
def k14_state_things : ACode := (.seq (.reg r14_state_things) .ret)
def k0_state_things : ACode := (.seq (.seq (.reg r1_state_things) k1_state_things) k14_state_things)
def c_state_things : ACode := (.seq (.reg r0_state_things) k0_state_things)
theorem e_state_things : ofProg Tryz.prog 58 = some ⟨75, [(.tmp 2)], c_state_things⟩ := by kernel_rfl
def allTo {α : Type} (p : Nat → α → Bool) (l : List α) : Nat → Bool
  | 0 => true
  | i + 1 => allTo p l i && (match l[i]? with | some x => p i x | none => true)
theorem allTo_next {α : Type} {p : Nat → α → Bool} {l : List α} {i : Nat} {x : α} (h : allTo p l i = true) (hx : l[i]? = some x) (hp : p i x = true) : allTo p l (i + 1) = true := by
  simp [allTo, h, hx, hp]
theorem allTo_false {α : Type} {p : Nat → α → Bool} {l : List α} {i : Nat} {x : α} (hx : l[i]? = some x) (hp : p i x = false) : ∀ n, i < n → allTo p l n = false := by
  intro n
  induction n with
  | zero => intro h; omega
  | succ n ih =>
    intro h
    by_cases hi : i < n
    · simp [allTo, ih hi]
    · have : i = n := by omega
      subst this
      simp [allTo, hx, hp]
theorem allTo_true {α : Type} {p : Nat → α → Bool} {l : List α} {i : Nat} {x : α} (hx : l[i]? = some x) : ∀ n, i < n → allTo p l n = true → p i x = true := by
  intro n hi h
  cases hp : p i x with
  | true => rfl
  | false => rw [allTo_false hx hp n hi] at h; cases h
def rootEq (S : StD) (i : Nat) (t : ThingD) : Bool := eq13 t.type t.bits t.base t.size t.used t.frm t.badge t.full t.word t.d0 t.d1 t.d2 t.d3 2 3 (rootI S.threads S.slots S.things ((i : Int) - 2)) 0 0 0 0 false 0 0 0 0 0
def frmBad (S : StD) (t : ThingD) : Bool := decide (0 < t.frm) && (decide ((S.sl.length : Int) < t.frm) || (match atI S.sl (t.frm - 1) with | some x => capNone x | none => true))
def isRootB (S : StD) (i : Nat) : Bool := decide (2 ≤ (i : Int)) && decide ((i : Int) < 2 + S.threads)
def thingB (S : StD) (i : Nat) (t : ThingD) : Bool := thGood t && !(frmBad S t) && !(isRootB S i && !(rootEq S i t)) && !(!(isRootB S i) && !(decide (t.type = 0)) && decide (((holdTo S i S.sl.length).length : Int) = 0))
def thingsB (S : StD) : Bool := allTo (thingB S) S.th S.th.length
def thE (n i bx ty : Nat) (v2 : Value) (t : Tmps) : Prop := tget t 7 = v2 ∧ tget t 8 = i64 n ∧ tget t 9 = i64 i ∧ tget t 1 = here bx 0 ∧ tget t 3 = i64 i ∧ tget t 4 = here ty 0
section
variable {d : Nat} {τ : AHeap} {S : StD} {a1 : Option Addr} {f1 : Nat} {a2 : Option Addr} {f2 : Nat} {n i bx : Nat} {v2 : Value} {t : Tmps} {x : ThingD} {Q : Tmps → AHeap → Prop}
theorem things_frm (hn : S.sl.length < 1000) (hbox : ∀ M o n, (τ.grow M).loadN bx o n = sliceL (stL S a1 f1 a2 f2) o n) (h1 : SlS τ a1 S.sl) (hE : thE n i bx τ.n v2 t)
    (hQ : ∀ t', thE n i bx τ.n v2 t' → tget t' 38 = .bool (frmBad S x) → Q t' (τ.grow [(thingL x, 13)])) : EndsR (runOps (acall (ofProg Tryz.prog) 1000 (d + 3)) r6_state_things t (τ.grow [(thingL x, 13)])) Q := by
  obtain ⟨t7, t8, t9, t1, t3, t4⟩ := hE
  have fin : ∀ t', tget t' 7 = tget t 7 → tget t' 8 = tget t 8 → tget t' 9 = tget t 9 → tget t' 1 = tget t 1 → tget t' 3 = tget t 3 → tget t' 4 = tget t 4 → tget t' 38 = .bool (frmBad S x) → Q t' (τ.grow [(thingL x, 13)]) :=
    fun t' e7 e8 e9 e1 e3 e4 h => hQ t' ⟨e7.trans t7, e8.trans t8, e9.trans t9, e1.trans t1, e3.trans t3, e4.trans t4⟩ h
  have hs : frmBad S x = (decide (0 < x.frm) && (decide ((S.sl.length : Int) < x.frm) || (match atI S.sl (x.frm - 1) with | some x => capNone x | none => true))) := rfl
  by_cases c1 : 0 < x.frm
  · by_cases c2 : (S.sl.length : Int) < x.frm
    · have hf : frmBad S x = true := by rw [hs]; simp [c1, c2]
      simp (disch := omega) only [t1, t4, hbox, c1, c2, r0_state_things, r1_state_things, r2_state_things, r3_state_things, r4_state_things, r5_state_things, r6_state_things, r7_state_things, r8_state_things, r9_state_things, r10_state_things, r11_state_things, r12_state_things, r13_state_things, r14_state_things, Z0, Z1, Z2, Z3, Z4, Z5, Z6, Z7, Z8, Z9, Z10, resAll, Nat.reduceAdd, Nat.reduceEqDiff, Nat.reduceLeDiff, Nat.reduceMul, ↓reduceIte, reduceCtorEq, Nat.reduceBEq, aoper, Nat.reduceLT, Int.reduceEq, Int.reduceLT, Int.reduceLE]
      apply fin <;> simp (disch := omega) only [hf, r0_state_things, r1_state_things, r2_state_things, r3_state_things, r4_state_things, r5_state_things, r6_state_things, r7_state_things, r8_state_things, r9_state_things, r10_state_things, r11_state_things, r12_state_things, r13_state_things, r14_state_things, Z0, Z1, Z2, Z3, Z4, Z5, Z6, Z7, Z8, Z9, Z10, resAll, Nat.reduceAdd, Nat.reduceEqDiff, Nat.reduceLeDiff, Nat.reduceMul, ↓reduceIte, reduceCtorEq, Nat.reduceBEq, aoper, Nat.reduceLT, Int.reduceEq, Int.reduceLT, Int.reduceLE]
    · obtain ⟨y, e1, e2⟩ := atI_some (l := S.sl) (z := x.frm - 1) (by omega) (by omega)
      obtain ⟨b, rfl, hb⟩ := h1.at (i := (x.frm - 1).toNat) (by omega)
      have hl := fun L => hb.ld0 (Keeps.refl τ) e2 L 4 (by omega)
      simp only [List.take_succ_cons, List.take_zero] at hl
      have hf : frmBad S x = capNone y := by rw [hs, e1]; simp [c1, c2]
      simp (disch := omega) only [t1, t4, hbox, c1, c2, hl, cap_None_ok, r0_state_things, r1_state_things, r2_state_things, r3_state_things, r4_state_things, r5_state_things, r6_state_things, r7_state_things, r8_state_things, r9_state_things, r10_state_things, r11_state_things, r12_state_things, r13_state_things, r14_state_things, Z0, Z1, Z2, Z3, Z4, Z5, Z6, Z7, Z8, Z9, Z10, resAll, Nat.reduceAdd, Nat.reduceEqDiff, Nat.reduceLeDiff, Nat.reduceMul, ↓reduceIte, reduceCtorEq, Nat.reduceBEq, aoper, Nat.reduceLT, Int.reduceEq, Int.reduceLT, Int.reduceLE]
      apply fin <;> simp (disch := omega) only [hf, r0_state_things, r1_state_things, r2_state_things, r3_state_things, r4_state_things, r5_state_things, r6_state_things, r7_state_things, r8_state_things, r9_state_things, r10_state_things, r11_state_things, r12_state_things, r13_state_things, r14_state_things, Z0, Z1, Z2, Z3, Z4, Z5, Z6, Z7, Z8, Z9, Z10, resAll, Nat.reduceAdd, Nat.reduceEqDiff, Nat.reduceLeDiff, Nat.reduceMul, ↓reduceIte, reduceCtorEq, Nat.reduceBEq, aoper, Nat.reduceLT, Int.reduceEq, Int.reduceLT, Int.reduceLE]
  · have hf : frmBad S x = false := by rw [hs]; simp [c1]
    simp (disch := omega) only [t1, t4, hbox, c1, r0_state_things, r1_state_things, r2_state_things, r3_state_things, r4_state_things, r5_state_things, r6_state_things, r7_state_things, r8_state_things, r9_state_things, r10_state_things, r11_state_things, r12_state_things, r13_state_things, r14_state_things, Z0, Z1, Z2, Z3, Z4, Z5, Z6, Z7, Z8, Z9, Z10, resAll, Nat.reduceAdd, Nat.reduceEqDiff, Nat.reduceLeDiff, Nat.reduceMul, ↓reduceIte, reduceCtorEq, Nat.reduceBEq, aoper, Nat.reduceLT, Int.reduceEq, Int.reduceLT, Int.reduceLE]
    apply fin <;> simp (disch := omega) only [hf, r0_state_things, r1_state_things, r2_state_things, r3_state_things, r4_state_things, r5_state_things, r6_state_things, r7_state_things, r8_state_things, r9_state_things, r10_state_things, r11_state_things, r12_state_things, r13_state_things, r14_state_things, Z0, Z1, Z2, Z3, Z4, Z5, Z6, Z7, Z8, Z9, Z10, resAll, Nat.reduceAdd, Nat.reduceEqDiff, Nat.reduceLeDiff, Nat.reduceMul, ↓reduceIte, reduceCtorEq, Nat.reduceBEq, aoper, Nat.reduceLT, Int.reduceEq, Int.reduceLT, Int.reduceLE]
theorem things_root (hbox : ∀ M o n, (τ.grow M).loadN bx o n = sliceL (stL S a1 f1 a2 f2) o n) (hg : 1 ≤ S.threads ∧ S.threads ≤ 4) (hE : thE n i bx τ.n v2 t)
    (hQ : ∀ t', thE n i bx τ.n v2 t' → tget t' 5 = .bool (isRootB S i) → Q t' (τ.grow [(thingL x, 13)])) : EndsR (runOps (acall (ofProg Tryz.prog) 1000 (d + 3)) r8_state_things t (τ.grow [(thingL x, 13)])) Q := by
  obtain ⟨t7, t8, t9, t1, t3, t4⟩ := hE
  have fin : ∀ t', tget t' 7 = tget t 7 → tget t' 8 = tget t 8 → tget t' 9 = tget t 9 → tget t' 1 = tget t 1 → tget t' 3 = tget t 3 → tget t' 4 = tget t 4 → tget t' 5 = .bool (isRootB S i) → Q t' (τ.grow [(thingL x, 13)]) :=
    fun t' e7 e8 e9 e1 e3 e4 h => hQ t' ⟨e7.trans t7, e8.trans t8, e9.trans t9, e1.trans t1, e3.trans t3, e4.trans t4⟩ h
  have hs : isRootB S i = (decide (2 ≤ (i : Int)) && decide ((i : Int) < 2 + S.threads)) := rfl
  by_cases c1 : 2 ≤ (i : Int)
  · by_cases c2 : (i : Int) < 2 + S.threads
    · have hf : isRootB S i = true := by rw [hs]; simp [c1, c2]
      simp (disch := omega) only [t1, t3, t4, hbox, c1, c2, r0_state_things, r1_state_things, r2_state_things, r3_state_things, r4_state_things, r5_state_things, r6_state_things, r7_state_things, r8_state_things, r9_state_things, r10_state_things, r11_state_things, r12_state_things, r13_state_things, r14_state_things, Z0, Z1, Z2, Z3, Z4, Z5, Z6, Z7, Z8, Z9, Z10, resAll, Nat.reduceAdd, Nat.reduceEqDiff, Nat.reduceLeDiff, Nat.reduceMul, ↓reduceIte, reduceCtorEq, Nat.reduceBEq, aoper, Nat.reduceLT, Int.reduceEq, Int.reduceLT, Int.reduceLE]
      apply fin <;> simp (disch := omega) only [hf, r0_state_things, r1_state_things, r2_state_things, r3_state_things, r4_state_things, r5_state_things, r6_state_things, r7_state_things, r8_state_things, r9_state_things, r10_state_things, r11_state_things, r12_state_things, r13_state_things, r14_state_things, Z0, Z1, Z2, Z3, Z4, Z5, Z6, Z7, Z8, Z9, Z10, resAll, Nat.reduceAdd, Nat.reduceEqDiff, Nat.reduceLeDiff, Nat.reduceMul, ↓reduceIte, reduceCtorEq, Nat.reduceBEq, aoper, Nat.reduceLT, Int.reduceEq, Int.reduceLT, Int.reduceLE]
    · have hf : isRootB S i = false := by rw [hs]; simp [c2]
      simp (disch := omega) only [t1, t3, t4, hbox, c1, c2, r0_state_things, r1_state_things, r2_state_things, r3_state_things, r4_state_things, r5_state_things, r6_state_things, r7_state_things, r8_state_things, r9_state_things, r10_state_things, r11_state_things, r12_state_things, r13_state_things, r14_state_things, Z0, Z1, Z2, Z3, Z4, Z5, Z6, Z7, Z8, Z9, Z10, resAll, Nat.reduceAdd, Nat.reduceEqDiff, Nat.reduceLeDiff, Nat.reduceMul, ↓reduceIte, reduceCtorEq, Nat.reduceBEq, aoper, Nat.reduceLT, Int.reduceEq, Int.reduceLT, Int.reduceLE]
      apply fin <;> simp (disch := omega) only [hf, r0_state_things, r1_state_things, r2_state_things, r3_state_things, r4_state_things, r5_state_things, r6_state_things, r7_state_things, r8_state_things, r9_state_things, r10_state_things, r11_state_things, r12_state_things, r13_state_things, r14_state_things, Z0, Z1, Z2, Z3, Z4, Z5, Z6, Z7, Z8, Z9, Z10, resAll, Nat.reduceAdd, Nat.reduceEqDiff, Nat.reduceLeDiff, Nat.reduceMul, ↓reduceIte, reduceCtorEq, Nat.reduceBEq, aoper, Nat.reduceLT, Int.reduceEq, Int.reduceLT, Int.reduceLE]
  · have hf : isRootB S i = false := by rw [hs]; simp [c1]
    simp (disch := omega) only [t1, t3, t4, hbox, c1, r0_state_things, r1_state_things, r2_state_things, r3_state_things, r4_state_things, r5_state_things, r6_state_things, r7_state_things, r8_state_things, r9_state_things, r10_state_things, r11_state_things, r12_state_things, r13_state_things, r14_state_things, Z0, Z1, Z2, Z3, Z4, Z5, Z6, Z7, Z8, Z9, Z10, resAll, Nat.reduceAdd, Nat.reduceEqDiff, Nat.reduceLeDiff, Nat.reduceMul, ↓reduceIte, reduceCtorEq, Nat.reduceBEq, aoper, Nat.reduceLT, Int.reduceEq, Int.reduceLT, Int.reduceLE]
    apply fin <;> simp (disch := omega) only [hf, r0_state_things, r1_state_things, r2_state_things, r3_state_things, r4_state_things, r5_state_things, r6_state_things, r7_state_things, r8_state_things, r9_state_things, r10_state_things, r11_state_things, r12_state_things, r13_state_things, r14_state_things, Z0, Z1, Z2, Z3, Z4, Z5, Z6, Z7, Z8, Z9, Z10, resAll, Nat.reduceAdd, Nat.reduceEqDiff, Nat.reduceLeDiff, Nat.reduceMul, ↓reduceIte, reduceCtorEq, Nat.reduceBEq, aoper, Nat.reduceLT, Int.reduceEq, Int.reduceLT, Int.reduceLE]
theorem things_same (hlow : τ.low ≤ τ.n) (hbox : ∀ M o n, (τ.grow M).loadN bx o n = sliceL (stL S a1 f1 a2 f2) o n) (hi : i < 1000) (hE : thE n i bx τ.n v2 t) (h5 : tget t 5 = .bool (isRootB S i))
    (hQ : ∀ t', thE n i bx τ.n v2 t' → tget t' 5 = .bool (isRootB S i) → tget t' 59 = .bool (isRootB S i && !(rootEq S i x)) → Q t' (τ.grow [(thingL x, 13)])) : EndsD (acall (ofProg Tryz.prog) 1000 (d + 3)) r9_state_things t (τ.grow [(thingL x, 13)]) Q := by
  obtain ⟨t7, t8, t9, t1, t3, t4⟩ := hE
  have fin : ∀ t', tget t' 7 = tget t 7 → tget t' 8 = tget t 8 → tget t' 9 = tget t 9 → tget t' 1 = tget t 1 → tget t' 3 = tget t 3 → tget t' 4 = tget t 4 → tget t' 5 = tget t 5 → tget t' 59 = .bool (isRootB S i && !(rootEq S i x)) → Q t' (τ.grow [(thingL x, 13)]) :=
    fun t' e7 e8 e9 e1 e3 e4 e5 h => hQ t' ⟨e7.trans t7, e8.trans t8, e9.trans t9, e1.trans t1, e3.trans t3, e4.trans t4⟩ (e5.trans h5) h
  cases c : isRootB S i with
  | true =>
    rw [c] at fin h5
    have hr : rootEq S i x = eq13 x.type x.bits x.base x.size x.used x.frm x.badge x.full x.word x.d0 x.d1 x.d2 x.d3 2 3 (rootI S.threads S.slots S.things ((i : Int) - 2)) 0 0 0 0 false 0 0 0 0 0 := rfl
    simp (disch := omega) only [t1, t3, t4, h5, hbox, kontD_grow hlow, geo_Root_ok, r0_state_things, r1_state_things, r2_state_things, r3_state_things, r4_state_things, r5_state_things, r6_state_things, r7_state_things, r8_state_things, r9_state_things, r10_state_things, r11_state_things, r12_state_things, r13_state_things, r14_state_things, Z0, Z1, Z2, Z3, Z4, Z5, Z6, Z7, Z8, Z9, Z10, resAll, Nat.reduceAdd, Nat.reduceEqDiff, Nat.reduceLeDiff, Nat.reduceMul, ↓reduceIte, reduceCtorEq, Nat.reduceBEq, aoper, Nat.reduceLT, Int.reduceEq, Int.reduceLT, Int.reduceLE]
    apply fin <;> simp (disch := omega) only [h5, hr, r0_state_things, r1_state_things, r2_state_things, r3_state_things, r4_state_things, r5_state_things, r6_state_things, r7_state_things, r8_state_things, r9_state_things, r10_state_things, r11_state_things, r12_state_things, r13_state_things, r14_state_things, Z0, Z1, Z2, Z3, Z4, Z5, Z6, Z7, Z8, Z9, Z10, resAll, Nat.reduceAdd, Nat.reduceEqDiff, Nat.reduceLeDiff, Nat.reduceMul, ↓reduceIte, reduceCtorEq, Nat.reduceBEq, aoper, Nat.reduceLT, Int.reduceEq, Int.reduceLT, Int.reduceLE]
  | false =>
    rw [c] at fin h5
    simp (disch := omega) only [t1, t3, t4, h5, hbox, kontD_grow hlow, r0_state_things, r1_state_things, r2_state_things, r3_state_things, r4_state_things, r5_state_things, r6_state_things, r7_state_things, r8_state_things, r9_state_things, r10_state_things, r11_state_things, r12_state_things, r13_state_things, r14_state_things, Z0, Z1, Z2, Z3, Z4, Z5, Z6, Z7, Z8, Z9, Z10, resAll, Nat.reduceAdd, Nat.reduceEqDiff, Nat.reduceLeDiff, Nat.reduceMul, ↓reduceIte, reduceCtorEq, Nat.reduceBEq, aoper, Nat.reduceLT, Int.reduceEq, Int.reduceLT, Int.reduceLE]
    apply fin <;> simp (disch := omega) only [h5, r0_state_things, r1_state_things, r2_state_things, r3_state_things, r4_state_things, r5_state_things, r6_state_things, r7_state_things, r8_state_things, r9_state_things, r10_state_things, r11_state_things, r12_state_things, r13_state_things, r14_state_things, Z0, Z1, Z2, Z3, Z4, Z5, Z6, Z7, Z8, Z9, Z10, resAll, Nat.reduceAdd, Nat.reduceEqDiff, Nat.reduceLeDiff, Nat.reduceMul, ↓reduceIte, reduceCtorEq, Nat.reduceBEq, aoper, Nat.reduceLT, Int.reduceEq, Int.reduceLT, Int.reduceLE]
theorem things_held (hd : Liv τ.n τ) (hlow : τ.low ≤ τ.n) (hbox : ∀ M o n, (τ.grow M).loadN bx o n = sliceL (stL S a1 f1 a2 f2) o n) (h1 : SlS τ a1 S.sl) (hn : S.sl.length < 1000) (hE : thE n i bx τ.n v2 t) (h5 : tget t 5 = .bool (isRootB S i))
    (hQ : ∀ t' τ', thE n i bx τ.n v2 t' → tget t' 73 = .bool (!(isRootB S i) && !(decide (x.type = 0)) && decide (((holdTo S i S.sl.length).length : Int) = 0)) → Keeps τ τ' → Q t' τ') : EndsR (runOps (acall (ofProg Tryz.prog) 1000 (d + 3)) r11_state_things t (τ.grow [(thingL x, 13)])) Q := by
  obtain ⟨t7, t8, t9, t1, t3, t4⟩ := hE
  have fin : ∀ t' τ', Keeps τ τ' → tget t' 7 = tget t 7 → tget t' 8 = tget t 8 → tget t' 9 = tget t 9 → tget t' 1 = tget t 1 → tget t' 3 = tget t 3 → tget t' 4 = tget t 4 → tget t' 73 = .bool (!(isRootB S i) && !(decide (x.type = 0)) && decide (((holdTo S i S.sl.length).length : Int) = 0)) → Q t' τ' :=
    fun t' τ' hk e7 e8 e9 e1 e3 e4 h => hQ t' τ' ⟨e7.trans t7, e8.trans t8, e9.trans t9, e1.trans t1, e3.trans t3, e4.trans t4⟩ h hk
  cases c : isRootB S i with
  | true =>
    rw [c] at fin h5
    simp (disch := omega) only [t1, t3, t4, h5, hbox, r0_state_things, r1_state_things, r2_state_things, r3_state_things, r4_state_things, r5_state_things, r6_state_things, r7_state_things, r8_state_things, r9_state_things, r10_state_things, r11_state_things, r12_state_things, r13_state_things, r14_state_things, Z0, Z1, Z2, Z3, Z4, Z5, Z6, Z7, Z8, Z9, Z10, resAll, Nat.reduceAdd, Nat.reduceEqDiff, Nat.reduceLeDiff, Nat.reduceMul, ↓reduceIte, reduceCtorEq, Nat.reduceBEq, aoper, Nat.reduceLT, Int.reduceEq, Int.reduceLT, Int.reduceLE]
    apply fin _ _ (Keeps.self _ _) <;> simp (disch := omega) only [r0_state_things, r1_state_things, r2_state_things, r3_state_things, r4_state_things, r5_state_things, r6_state_things, r7_state_things, r8_state_things, r9_state_things, r10_state_things, r11_state_things, r12_state_things, r13_state_things, r14_state_things, Z0, Z1, Z2, Z3, Z4, Z5, Z6, Z7, Z8, Z9, Z10, resAll, Nat.reduceAdd, Nat.reduceEqDiff, Nat.reduceLeDiff, Nat.reduceMul, ↓reduceIte, reduceCtorEq, Nat.reduceBEq, aoper, Nat.reduceLT, Int.reduceEq, Int.reduceLT, Int.reduceLE]
  | false =>
    rw [c] at fin h5
    by_cases c1 : x.type = 0
    · simp (disch := omega) only [t1, t3, t4, h5, hbox, eq_true c1, r0_state_things, r1_state_things, r2_state_things, r3_state_things, r4_state_things, r5_state_things, r6_state_things, r7_state_things, r8_state_things, r9_state_things, r10_state_things, r11_state_things, r12_state_things, r13_state_things, r14_state_things, Z0, Z1, Z2, Z3, Z4, Z5, Z6, Z7, Z8, Z9, Z10, resAll, Nat.reduceAdd, Nat.reduceEqDiff, Nat.reduceLeDiff, Nat.reduceMul, ↓reduceIte, reduceCtorEq, Nat.reduceBEq, aoper, Nat.reduceLT, Int.reduceEq, Int.reduceLT, Int.reduceLE]
      apply fin _ _ (Keeps.self _ _) <;> simp (disch := omega) only [eq_true c1, r0_state_things, r1_state_things, r2_state_things, r3_state_things, r4_state_things, r5_state_things, r6_state_things, r7_state_things, r8_state_things, r9_state_things, r10_state_things, r11_state_things, r12_state_things, r13_state_things, r14_state_things, Z0, Z1, Z2, Z3, Z4, Z5, Z6, Z7, Z8, Z9, Z10, resAll, Nat.reduceAdd, Nat.reduceEqDiff, Nat.reduceLeDiff, Nat.reduceMul, ↓reduceIte, reduceCtorEq, Nat.reduceBEq, aoper, Nat.reduceLT, Int.reduceEq, Int.reduceLT, Int.reduceLE]
    · obtain ⟨v, τ', he, ho, hk⟩ := state_holders_ok (d + 1) (τ.grow [(thingL x, 13)]) S a1 f1 a2 f2 i (Liv.gr hd _) (low_grow hlow _) (h1.grow _) hn
      obtain ⟨a, f, rfl⟩ := ho.shape
      simp (disch := omega) only [t1, t3, t4, h5, hbox, c1, he, r0_state_things, r1_state_things, r2_state_things, r3_state_things, r4_state_things, r5_state_things, r6_state_things, r7_state_things, r8_state_things, r9_state_things, r10_state_things, r11_state_things, r12_state_things, r13_state_things, r14_state_things, Z0, Z1, Z2, Z3, Z4, Z5, Z6, Z7, Z8, Z9, Z10, resAll, Nat.reduceAdd, Nat.reduceEqDiff, Nat.reduceLeDiff, Nat.reduceMul, ↓reduceIte, reduceCtorEq, Nat.reduceBEq, aoper, Nat.reduceLT, Int.reduceEq, Int.reduceLT, Int.reduceLE]
      apply fin _ _ hk.cut <;> simp (disch := omega) only [c1, r0_state_things, r1_state_things, r2_state_things, r3_state_things, r4_state_things, r5_state_things, r6_state_things, r7_state_things, r8_state_things, r9_state_things, r10_state_things, r11_state_things, r12_state_things, r13_state_things, r14_state_things, Z0, Z1, Z2, Z3, Z4, Z5, Z6, Z7, Z8, Z9, Z10, resAll, Nat.reduceAdd, Nat.reduceEqDiff, Nat.reduceLeDiff, Nat.reduceMul, ↓reduceIte, reduceCtorEq, Nat.reduceBEq, aoper, Nat.reduceLT, Int.reduceEq, Int.reduceLT, Int.reduceLE]
end
theorem state_things_ok (d : Nat) (σ : AHeap) (S : StD) (a1 : Option Addr) (f1 : Nat) (a2 : Option Addr) (f2 : Nat) (hd : Liv σ.n σ) (h1 : SlS σ a1 S.sl) (h2 : SlT σ a2 S.th)
    (hn : S.sl.length < 1000) (hm : S.th.length < 1000) (hg : goodGeo S.threads S.slots S.things) :
    acall (ofProg Tryz.prog) 1000 (d + 4) 58 [stV S a1 f1 a2 f2] σ = some (.bool (thingsB S), σ) := by
  refine acall_flat e_state_things (by simp) rfl ?_
  have hg1 := hg.1
  simp (disch := omega) only [r0_state_things, r1_state_things, r2_state_things, r3_state_things, r4_state_things, r5_state_things, k5_state_things, r6_state_things, r7_state_things, k7_state_things, r8_state_things, r9_state_things, r10_state_things, k10_state_things, r11_state_things, r12_state_things, k12_state_things, k11_state_things, k9_state_things, k8_state_things, k6_state_things, k4_state_things, r13_state_things, k13_state_things, k3_state_things, k2_state_things, k1_state_things, r14_state_things, k14_state_things, k0_state_things, c_state_things, Z0, Z1, Z2, Z3, Z4, Z5, Z6, Z7, Z8, Z9, Z10, resAll, Nat.reduceAdd, Nat.reduceEqDiff, Nat.reduceLeDiff, Nat.reduceMul, ↓reduceIte, reduceCtorEq, Nat.reduceBEq, aoper, Nat.reduceLT, Int.reduceEq, Int.reduceLT, Int.reduceLE]
  refine ends_loop (fun i t τ => tget t 7 = .slice a2 S.th.length f2 ∧ tget t 8 = i64 S.th.length ∧ tget t 9 = i64 i ∧ tget t 1 = here σ.fresh.n 0 ∧ Keeps (σ.fresh.grow [(stL S a1 f1 a2 f2, 5)]) τ ∧ allTo (thingB S) S.th i = true)
    S.th.length hm ?_ ?_
  · refine ⟨?_, ?_, ?_, ?_, Keeps.refl _, rfl⟩ <;> simp (disch := omega) only [Int.natCast_zero, Int.ofNat_zero, r0_state_things, r1_state_things, r2_state_things, r3_state_things, r4_state_things, r5_state_things, k5_state_things, r6_state_things, r7_state_things, k7_state_things, r8_state_things, r9_state_things, r10_state_things, k10_state_things, r11_state_things, r12_state_things, k12_state_things, k11_state_things, k9_state_things, k8_state_things, k6_state_things, k4_state_things, r13_state_things, k13_state_things, k3_state_things, k2_state_things, k1_state_things, r14_state_things, k14_state_things, k0_state_things, c_state_things, Z0, Z1, Z2, Z3, Z4, Z5, Z6, Z7, Z8, Z9, Z10, resAll, Nat.reduceAdd, Nat.reduceEqDiff, Nat.reduceLeDiff, Nat.reduceMul, ↓reduceIte, reduceCtorEq, Nat.reduceBEq, aoper, Nat.reduceLT, Int.reduceEq, Int.reduceLT, Int.reduceLE]
  · rintro i t τ hi ⟨t7, t8, t9, t1, hk, hall⟩
    rw [← grow_nil τ]
    have hlow : τ.low ≤ τ.n := by rw [hk.low]; exact Nat.le_trans (low_grow fresh_le _) hk.n
    have hdead : Liv τ.n τ := (Liv.gr (σ := σ.fresh) hd _).keeps hk
    have hbox := fun M o n => hk.own0 (r := stL S a1 f1 a2 f2) (e := 5) rfl M o n
    by_cases hlt : i < S.th.length
    · obtain ⟨b, rfl, hb⟩ := h2.fresh.at hlt
      have hx : S.th[i]? = some S.th[i] := List.getElem?_eq_getElem hlt
      generalize S.th[i] = x at hx
      have hl := fun L => hb.ld0 ((Keeps.self _ _).trans hk) hx L 13 (by omega)
      simp only [List.take_succ_cons, List.take_zero] at hl
      have hlt' : (i : Int) < (S.th.length : Int) := by omega
      have hcast : ((i + 1 : Nat) : Int) = (i : Int) + 1 := by omega
      have hs : thingB S i x = (thGood x && !(frmBad S x) && !(isRootB S i && !(rootEq S i x)) && !(!(isRootB S i) && !(decide (x.type = 0)) && decide (((holdTo S i S.sl.length).length : Int) = 0))) := rfl
      have hE : ∀ t', tget t' 7 = .slice (some ⟨b, 0, none⟩) S.th.length f2 → tget t' 8 = i64 S.th.length → tget t' 9 = i64 i → tget t' 1 = here σ.fresh.n 0 → tget t' 3 = i64 i → tget t' 4 = here τ.n 0 → thE S.th.length i σ.fresh.n τ.n (.slice (some ⟨b, 0, none⟩) S.th.length f2) t' := fun t' e7 e8 e9 e1 e3 e4 => ⟨e7, e8, e9, e1, e3, e4⟩
      have h1τ : SlS τ a1 S.sl := h1.fresh.keeps ((Keeps.self _ _).trans hk)
      cases g0 : thGood x with
      | false =>
        have hf : thingsB S = false := allTo_false hx (by rw [hs, g0]; rfl) _ hlt
        simp (disch := omega) only [t7, t8, t9, t1, hbox, hl, hlt', thing_Good_ok, Int.toNat_natCast, sto_0 hlow, g0, hf, hk.low, r0_state_things, r1_state_things, r2_state_things, r3_state_things, r4_state_things, r5_state_things, r6_state_things, r7_state_things, r8_state_things, r9_state_things, r10_state_things, r11_state_things, r12_state_things, r13_state_things, r14_state_things, b0_state_things, k2_state_things, k3_state_things, k4_state_things, k5_state_things, Z0, Z1, Z2, Z3, Z4, Z5, Z6, Z7, Z8, Z9, Z10, resAll, Nat.reduceAdd, Nat.reduceEqDiff, Nat.reduceLeDiff, Nat.reduceMul, ↓reduceIte, reduceCtorEq, Nat.reduceBEq, aoper, Nat.reduceLT, Int.reduceEq, Int.reduceLT, Int.reduceLE]
      | true =>
        simp (disch := omega) only [t7, t8, t9, t1, hbox, hl, hlt', thing_Good_ok, Int.toNat_natCast, sto_0 hlow, g0, r0_state_things, r1_state_things, r2_state_things, r3_state_things, r4_state_things, r5_state_things, r6_state_things, r7_state_things, r8_state_things, r9_state_things, r10_state_things, r11_state_things, r12_state_things, r13_state_things, r14_state_things, b0_state_things, k2_state_things, k3_state_things, k4_state_things, k5_state_things, Z0, Z1, Z2, Z3, Z4, Z5, Z6, Z7, Z8, Z9, Z10, resAll, Nat.reduceAdd, Nat.reduceEqDiff, Nat.reduceLeDiff, Nat.reduceMul, ↓reduceIte, reduceCtorEq, Nat.reduceBEq, aoper, Nat.reduceLT, Int.reduceEq, Int.reduceLT, Int.reduceLE]
        simp only [k6_state_things, ends_seq, ends_reg]
        refine things_frm hn hbox h1τ (hE _ ?_ ?_ ?_ ?_ ?_ ?_) fun t6 E6 h38 => ?_
        iterate 6 simp (disch := omega) only [t7, t8, t9, t1, r0_state_things, r1_state_things, r2_state_things, r3_state_things, r4_state_things, r5_state_things, r6_state_things, r7_state_things, r8_state_things, r9_state_things, r10_state_things, r11_state_things, r12_state_things, r13_state_things, r14_state_things, Z0, Z1, Z2, Z3, Z4, Z5, Z6, Z7, Z8, Z9, Z10, resAll, Nat.reduceAdd, Nat.reduceEqDiff, Nat.reduceLeDiff, Nat.reduceMul, ↓reduceIte, reduceCtorEq, Nat.reduceBEq, aoper, Nat.reduceLT, Int.reduceEq, Int.reduceLT, Int.reduceLE]
        cases g1 : frmBad S x with
        | true =>
          have hf : thingsB S = false := allTo_false hx (by rw [hs, g0, g1]; rfl) _ hlt
          rw [g1] at h38
          simp (disch := omega) only [h38, hf, hk.low, r0_state_things, r1_state_things, r2_state_things, r3_state_things, r4_state_things, r5_state_things, r6_state_things, r7_state_things, r8_state_things, r9_state_things, r10_state_things, r11_state_things, r12_state_things, r13_state_things, r14_state_things, k7_state_things, Z0, Z1, Z2, Z3, Z4, Z5, Z6, Z7, Z8, Z9, Z10, resAll, Nat.reduceAdd, Nat.reduceEqDiff, Nat.reduceLeDiff, Nat.reduceMul, ↓reduceIte, reduceCtorEq, Nat.reduceBEq, aoper, Nat.reduceLT, Int.reduceEq, Int.reduceLT, Int.reduceLE]
        | false =>
          rw [g1] at h38
          simp (disch := omega) only [h38, k7_state_things, Z0, Z1, Z2, Z3, Z4, Z5, Z6, Z7, Z8, Z9, Z10, resAll, Nat.reduceAdd, Nat.reduceEqDiff, Nat.reduceLeDiff, Nat.reduceMul, ↓reduceIte, reduceCtorEq, Nat.reduceBEq, aoper, Nat.reduceLT, Int.reduceEq, Int.reduceLT, Int.reduceLE]
          simp only [k8_state_things, ends_seq, ends_reg]
          refine things_root hbox hg1 E6 fun t5 E5 h5 => ?_
          simp (disch := omega) only [k9_state_things, Z0, Z1, Z2, Z3, Z4, Z5, Z6, Z7, Z8, Z9, Z10, resAll, Nat.reduceAdd, Nat.reduceEqDiff, Nat.reduceLeDiff, Nat.reduceMul, ↓reduceIte, reduceCtorEq, Nat.reduceBEq, aoper, Nat.reduceLT, Int.reduceEq, Int.reduceLT, Int.reduceLE]
          refine ends_drw ?_
          refine things_same hlow hbox (by omega) E5 h5 fun t59 E59 h5' h59 => ?_
          cases g2 : (isRootB S i && !(rootEq S i x)) with
          | true =>
            have hf : thingsB S = false := allTo_false hx (by rw [hs, g0, g1, g2]; rfl) _ hlt
            rw [g2] at h59
            simp (disch := omega) only [h59, hf, hk.low, r0_state_things, r1_state_things, r2_state_things, r3_state_things, r4_state_things, r5_state_things, r6_state_things, r7_state_things, r8_state_things, r9_state_things, r10_state_things, r11_state_things, r12_state_things, r13_state_things, r14_state_things, k10_state_things, Z0, Z1, Z2, Z3, Z4, Z5, Z6, Z7, Z8, Z9, Z10, resAll, Nat.reduceAdd, Nat.reduceEqDiff, Nat.reduceLeDiff, Nat.reduceMul, ↓reduceIte, reduceCtorEq, Nat.reduceBEq, aoper, Nat.reduceLT, Int.reduceEq, Int.reduceLT, Int.reduceLE]
          | false =>
            rw [g2] at h59
            simp (disch := omega) only [h59, k10_state_things, Z0, Z1, Z2, Z3, Z4, Z5, Z6, Z7, Z8, Z9, Z10, resAll, Nat.reduceAdd, Nat.reduceEqDiff, Nat.reduceLeDiff, Nat.reduceMul, ↓reduceIte, reduceCtorEq, Nat.reduceBEq, aoper, Nat.reduceLT, Int.reduceEq, Int.reduceLT, Int.reduceLE]
            simp only [k11_state_things, ends_seq, ends_reg]
            refine things_held hdead hlow hbox h1τ hn E59 h5' fun t73 τ' E73 h73 hk' => ?_
            rw [← grow_nil τ']
            cases g3 : (!(isRootB S i) && !(decide (x.type = 0)) && decide (((holdTo S i S.sl.length).length : Int) = 0)) with
            | true =>
              have hf : thingsB S = false := allTo_false hx (by rw [hs, g0, g1, g2, g3]; rfl) _ hlt
              rw [g3] at h73
              simp (disch := omega) only [h73, hf, hk'.low, hk.low, r0_state_things, r1_state_things, r2_state_things, r3_state_things, r4_state_things, r5_state_things, r6_state_things, r7_state_things, r8_state_things, r9_state_things, r10_state_things, r11_state_things, r12_state_things, r13_state_things, r14_state_things, k12_state_things, Z0, Z1, Z2, Z3, Z4, Z5, Z6, Z7, Z8, Z9, Z10, resAll, Nat.reduceAdd, Nat.reduceEqDiff, Nat.reduceLeDiff, Nat.reduceMul, ↓reduceIte, reduceCtorEq, Nat.reduceBEq, aoper, Nat.reduceLT, Int.reduceEq, Int.reduceLT, Int.reduceLE]
            | false =>
              have hsx : thingB S i x = true := by rw [hs, g0, g1, g2, g3]; rfl
              rw [g3] at h73
              obtain ⟨q7, q8, q9, q1, _, _⟩ := E73
              simp (disch := omega) only [h73, q7, q8, q9, q1, hlt, hcast, (hk.trans hk').grow, allTo_next hall hx hsx, r0_state_things, r1_state_things, r2_state_things, r3_state_things, r4_state_things, r5_state_things, r6_state_things, r7_state_things, r8_state_things, r9_state_things, r10_state_things, r11_state_things, r12_state_things, r13_state_things, r14_state_things, k12_state_things, k13_state_things, Z0, Z1, Z2, Z3, Z4, Z5, Z6, Z7, Z8, Z9, Z10, resAll, Nat.reduceAdd, Nat.reduceEqDiff, Nat.reduceLeDiff, Nat.reduceMul, ↓reduceIte, reduceCtorEq, Nat.reduceBEq, aoper, Nat.reduceLT, Int.reduceEq, Int.reduceLT, Int.reduceLE]
    · have hlt' : ¬ (i : Int) < (S.th.length : Int) := by omega
      have hii : i = S.th.length := by omega
      have hf : thingsB S = true := by unfold thingsB; rw [hii] at hall; exact hall
      simp (disch := omega) only [t7, t8, t9, t1, hlt', hf, hk.low, r0_state_things, r1_state_things, r2_state_things, r3_state_things, r4_state_things, r5_state_things, r6_state_things, r7_state_things, r8_state_things, r9_state_things, r10_state_things, r11_state_things, r12_state_things, r13_state_things, r14_state_things, b0_state_things, k2_state_things, k14_state_things, Z0, Z1, Z2, Z3, Z4, Z5, Z6, Z7, Z8, Z9, Z10, resAll, Nat.reduceAdd, Nat.reduceEqDiff, Nat.reduceLeDiff, Nat.reduceMul, ↓reduceIte, reduceCtorEq, Nat.reduceBEq, aoper, Nat.reduceLT, Int.reduceEq, Int.reduceLT, Int.reduceLE]
end Go.Proofs.YtidmcpkbcphpiaaGreat
namespace Go.Proofs.YtidmcpkbcphpiaaGreat
open Go Go.Hai
set_option maxRecDepth 20000
set_option linter.unusedSimpArgs false
set_option maxHeartbeats 4000000
attribute [local irreducible] Hai.Ends EndsR EndsO EndsD AHeap.grow
def r0_state_nodes : List AOper := [(.mk (some 1) none (.box 5 (.tmp 0))), (.mk (some 2) none (.mv (.const (.bool false))))]
def r1_state_nodes : List AOper := [(.mk (some 10) none (.fldA 3 (.tmp 1))), (.mk (some 11) none (.load false 1 (.tmp 10))), (.mk (some 12) none (.lenS (.tmp 11))), (.mk (some 13) none (.mkSl [(.bool false)] 1 (.tmp 12) (.tmp 12))), (.mk (some 3) none (.mv (.tmp 13)))]
def r2_state_nodes : List AOper := [(.mk (some 14) none (.fldA 4 (.tmp 1))), (.mk (some 15) none (.load false 1 (.tmp 14))), (.mk (some 16) none (.lenS (.tmp 15))), (.mk (some 17) none (.mv (.const (.int .i64 0))))]
def r3_state_nodes : List AOper := [(.mk (some 18) none (.bin .lss (.tmp 17) (.tmp 16)))]
def r4_state_nodes : List AOper := [(.mk (some 19) none (.idxA 13 (.tmp 15) (.tmp 17))), (.mk (some 20) none (.load true 13 (.tmp 19))), (.mk (some 5) none (.alloc [(.int .i64 0), (.int .i64 0), (.int .i64 0), (.int .i64 0), (.int .i64 0), (.int .i64 0), (.int .i64 0), (.bool false), (.int .u64 0), (.int .u64 0), (.int .u64 0), (.int .u64 0), (.int .u64 0)] 13)), (.mk none none (.store 13 (.tmp 5) (.tmp 20)))]
def r5_state_nodes : List AOper := [(.mk (some 21) none (.fldA 0 (.tmp 5))), (.mk (some 22) none (.load false 1 (.tmp 21))), (.mk (some 23) none (.bin .neq (.tmp 22) (.const (.int .i64 2))))]
def k6_state_nodes : ACode := (.cond (.tmp 23) (.exit 1) .skip)
def r6_state_nodes : List AOper := [(.mk (some 24) none (.fldA 1 (.tmp 5))), (.mk (some 25) none (.load false 1 (.tmp 24))), (.mk (some 26) none (.bin .shl (.const (.int .i64 1)) (.tmp 25))), (.mk (some 27) none (.mv (.const (.int .i64 0))))]
def r7_state_nodes : List AOper := [(.mk (some 28) none (.bin .lss (.tmp 27) (.tmp 26)))]
def r8_state_nodes : List AOper := [(.mk (some 29) none (.mv (.tmp 27))), (.mk (some 6) none (.mv (.tmp 29)))]
def r9_state_nodes : List AOper := [(.mk (some 30) none (.fldA 2 (.tmp 5))), (.mk (some 31) none (.load false 1 (.tmp 30))), (.mk (some 32) none (.mv (.tmp 6))), (.mk (some 33) none (.bin .add (.tmp 31) (.tmp 32))), (.mk (some 7) none (.mv (.tmp 33)))]
def r10_state_nodes : List AOper := [(.mk (some 34) none (.mv (.tmp 7))), (.mk (some 35) none (.mv (.tmp 3))), (.mk (some 36) none (.lenS (.tmp 35))), (.mk (some 37) none (.bin .geq (.tmp 34) (.tmp 36))), (.mk (some 38) none (.mv (.tmp 37))), (.mk (some 39) (some (38, false)) (.mv (.tmp 3))), (.mk (some 40) (some (38, false)) (.mv (.tmp 7))), (.mk (some 41) (some (38, false)) (.idxA 1 (.tmp 39) (.tmp 40))), (.mk (some 42) (some (38, false)) (.load false 1 (.tmp 41))), (.mk (some 43) none (.pick (.tmp 38) (.const (.bool true)) (.tmp 42)))]
def r11_state_nodes : List AOper := [(.mk (some 2) none (.mv (.const (.bool false))))]
def k13_state_nodes : ACode := (.cond (.tmp 43) (.seq (.reg r11_state_nodes) .ret) .skip)
def r12_state_nodes : List AOper := [(.mk (some 44) none (.mv (.tmp 3))), (.mk (some 45) none (.mv (.tmp 7))), (.mk (some 46) none (.idxA 1 (.tmp 44) (.tmp 45))), (.mk none none (.store 1 (.tmp 46) (.const (.bool true))))]
def k14_state_nodes : ACode := (.reg r12_state_nodes)
def k12_state_nodes : ACode := (.seq (.seq (.reg r10_state_nodes) k13_state_nodes) k14_state_nodes)
def k11_state_nodes : ACode := (.seq (.reg r9_state_nodes) k12_state_nodes)
def r13_state_nodes : List AOper := [(.mk (some 47) none (.bin .add (.tmp 27) (.const (.int .i64 1)))), (.mk (some 27) none (.mv (.tmp 47)))]
def k15_state_nodes : ACode := (.reg r13_state_nodes)
def k10_state_nodes : ACode := (.seq (.block 3 (.seq (.reg r8_state_nodes) k11_state_nodes)) k15_state_nodes)
def k9_state_nodes : ACode := (.seq (.cond (.tmp 28) .skip (.exit 2)) k10_state_nodes)
def b1_state_nodes : ACode := (.seq (.reg r7_state_nodes) k9_state_nodes)
def k8_state_nodes : ACode := (.block 2 (.loop b1_state_nodes))
def k7_state_nodes : ACode := (.seq (.reg r6_state_nodes) k8_state_nodes)
def k5_state_nodes : ACode := (.seq (.seq (.reg r5_state_nodes) k6_state_nodes) k7_state_nodes)
def r14_state_nodes : List AOper := [(.mk (some 48) none (.bin .add (.tmp 17) (.const (.int .i64 1)))), (.mk (some 17) none (.mv (.tmp 48)))]
def k16_state_nodes : ACode := (.reg r14_state_nodes)
def k4_state_nodes : ACode := (.seq (.block 1 (.seq (.reg r4_state_nodes) k5_state_nodes)) k16_state_nodes)
def k3_state_nodes : ACode := (.seq (.cond (.tmp 18) .skip (.exit 0)) k4_state_nodes)
def b0_state_nodes : ACode := (.seq (.reg r3_state_nodes) k3_state_nodes)
def k2_state_nodes : ACode := (.block 0 (.loop b0_state_nodes))
def r15_state_nodes : List AOper := [(.mk (some 49) none (.fldA 3 (.tmp 1))), (.mk (some 50) none (.load false 1 (.tmp 49))), (.mk (some 51) none (.lenS (.tmp 50))), (.mk (some 52) none (.mv (.const (.int .i64 0))))]
def r16_state_nodes : List AOper := [(.mk (some 53) none (.bin .lss (.tmp 52) (.tmp 51)))]
def r17_state_nodes : List AOper := [(.mk (some 54) none (.mv (.tmp 52))), (.mk (some 55) none (.idxA 5 (.tmp 50) (.tmp 52))), (.mk (some 56) none (.load true 5 (.tmp 55))), (.mk (some 9) none (.alloc [(.int .i64 0), (.int .i64 0), (.int .i64 0), (.int .i64 0), (.int .i64 0)] 5)), (.mk (some 8) none (.mv (.tmp 54))), (.mk none none (.store 5 (.tmp 9) (.tmp 56)))]
def r18_state_nodes : List AOper := [(.mk (some 57) none (.mv (.tmp 3))), (.mk (some 58) none (.mv (.tmp 8))), (.mk (some 59) none (.idxA 1 (.tmp 57) (.tmp 58))), (.mk (some 60) none (.load false 1 (.tmp 59))), (.mk (some 61) none (.un .not (.tmp 60))), (.mk (some 62) none (.mv (.tmp 61))), (.mk (some 63) (some (62, true)) (.fldA 0 (.tmp 9))), (.mk (some 64) (some (62, true)) (.load true 4 (.tmp 63))), (.mk (some 65) (some (62, true)) (.call 38 [(.tmp 64)])), (.mk (some 66) (some (62, true)) (.un .not (.tmp 65))), (.mk (some 67) none (.pick (.tmp 62) (.tmp 66) (.const (.bool false))))]
def r19_state_nodes : List AOper := [(.mk (some 2) none (.mv (.const (.bool false))))]
def k22_state_nodes : ACode := (.cond (.tmp 67) (.seq (.reg r19_state_nodes) .ret) .skip)
def k21_state_nodes : ACode := (.seq (.reg r18_state_nodes) k22_state_nodes)
def r20_state_nodes : List AOper := [(.mk (some 68) none (.bin .add (.tmp 52) (.const (.int .i64 1)))), (.mk (some 52) none (.mv (.tmp 68)))]
def k23_state_nodes : ACode := (.reg r20_state_nodes)
def k20_state_nodes : ACode := (.seq (.block 5 (.seq (.reg r17_state_nodes) k21_state_nodes)) k23_state_nodes)
def k19_state_nodes : ACode := (.seq (.cond (.tmp 53) .skip (.exit 4)) k20_state_nodes)
def b2_state_nodes : ACode := (.seq (.reg r16_state_nodes) k19_state_nodes)
def k18_state_nodes : ACode := (.block 4 (.loop b2_state_nodes))
def r21_state_nodes : List AOper := [(.mk (some 2) none (.mv (.const (.bool true))))]
def k24_state_nodes : ACode := (.seq (.reg r21_state_nodes) .ret)
def k17_state_nodes : ACode := (.seq (.seq (.reg r15_state_nodes) k18_state_nodes) k24_state_nodes)
def k1_state_nodes : ACode := (.seq (.seq (.reg r2_state_nodes) k2_state_nodes) k17_state_nodes)
def k0_state_nodes : ACode := (.seq (.reg r1_state_nodes) k1_state_nodes)
def c_state_nodes : ACode := (.seq (.reg r0_state_nodes) k0_state_nodes)
theorem e_state_nodes : ofProg Tryz.prog 59 = some ⟨69, [(.tmp 2)], c_state_nodes⟩ := by kernel_rfl
def markTo (h : List Bool) (base : Int) : Nat → Option (List Bool)
  | 0 => some h
  | k + 1 => match markTo h base k with
    | none => none
    | some g => if (g.length : Int) ≤ base + k then none else (match g[(base + k).toNat]? with | some false => some (g.set (base + k).toNat true) | _ => none)
theorem markTo_none {h : List Bool} {base : Int} {k : Nat} (hk : markTo h base k = none) : ∀ m, k ≤ m → markTo h base m = none := by
  intro m
  induction m with
  | zero => intro hm; have : k = 0 := by omega
            subst this; exact hk
  | succ m ih =>
    intro hm
    by_cases e : k = m + 1
    · subst e; exact hk
    · simp only [markTo, ih (by omega)]
theorem markTo_length {h : List Bool} {base : Int} : ∀ {k : Nat} {g : List Bool}, markTo h base k = some g → g.length = h.length := by
  intro k
  induction k with
  | zero => intro g hg; simp only [markTo, Option.some.injEq] at hg; rw [← hg]
  | succ k ih =>
    intro g hg
    simp only [markTo] at hg
    split at hg
    · cases hg
    · next g' hg' =>
      split at hg
      · cases hg
      · split at hg
        · simp only [Option.some.injEq] at hg; rw [← hg, List.length_set]; exact ih hg'
        · cases hg
def nodesTo (S : StD) : Nat → Option (List Bool)
  | 0 => some (List.replicate S.sl.length false)
  | i + 1 => match nodesTo S i with
    | none => none
    | some h => match S.th[i]? with
      | some t => if t.type = 2 then markTo h t.base (pw t.bits).toNat else some h
      | none => some h
theorem nodesTo_none {S : StD} {k : Nat} (hk : nodesTo S k = none) : ∀ m, k ≤ m → nodesTo S m = none := by
  intro m
  induction m with
  | zero => intro hm; have : k = 0 := by omega
            subst this; exact hk
  | succ m ih =>
    intro hm
    by_cases e : k = m + 1
    · subst e; exact hk
    · simp only [nodesTo, ih (by omega)]
theorem nodesTo_length {S : StD} : ∀ {k : Nat} {g : List Bool}, nodesTo S k = some g → g.length = S.sl.length := by
  intro k
  induction k with
  | zero => intro g hg; simp only [nodesTo, Option.some.injEq] at hg; rw [← hg]; simp
  | succ k ih =>
    intro g hg
    simp only [nodesTo] at hg
    split at hg
    · cases hg
    · next h hh =>
      split at hg
      · split at hg
        · rw [markTo_length hg, ih hh]
        · simp only [Option.some.injEq] at hg; rw [← hg]; exact ih hh
      · simp only [Option.some.injEq] at hg; rw [← hg]; exact ih hh
def heldB (h : List Bool) (i : Nat) (x : SlotD) : Bool := h.getD i false || capNone x
def nodesB (S : StD) : Bool := match nodesTo S S.th.length with
  | none => false
  | some h => allTo (heldB h) S.sl S.sl.length
def nE (n i bx : Nat) (v2 : Value) (t : Tmps) : Prop := tget t 15 = v2 ∧ tget t 16 = i64 n ∧ tget t 17 = i64 i ∧ tget t 1 = here bx 0
theorem nodes_inner {call : CallF} {t0 : Tmps} {τ0 : AHeap} {x : ThingD} {h : List Bool} {hb ty n i bx : Nat} {v2 : Value} {Q : AEx → Tmps → AHeap → Prop} (hbits : 0 ≤ x.bits ∧ x.bits ≤ 4) (hbase : 0 ≤ x.base ∧ x.base ≤ 96)
    (hlow : τ0.low ≤ hb) (hbn : hb < τ0.n) (hrow : τ0.t.get hb = some (rowOf (hadL h, 1))) (hty : ty ≠ hb ∧ ty < τ0.n) (hld : ∀ o n, τ0.loadN ty o n = sliceL (thingL x) o n) (hlen : h.length < 1000)
    (hE : nE n i bx v2 t0) (h3 : tget t0 3 = .slice (some ⟨hb, 0, none⟩) h.length 1) (h5 : tget t0 5 = here ty 0) (h26 : tget t0 26 = i64 (pw x.bits)) (h27 : tget t0 27 = i64 0)
    (hQ : ∀ t τ g, markTo h x.base (pw x.bits).toNat = some g → τ.t.get hb = some (rowOf (hadL g, 1)) → Mod hb τ0 τ → nE n i bx v2 t → tget t 3 = .slice (some ⟨hb, 0, none⟩) h.length 1 → Q (.exit 2) t (τ.grow []))
    (hR : markTo h x.base (pw x.bits).toNat = none → ∀ t τ, tget t 2 = .bool false → τ.low = τ0.low → Q .ret t τ) : Hai.Ends (acode call 1000 (.loop b1_state_nodes) t0 τ0) Q := by
  have hp := pw_le hbits.1 hbits.2
  refine ends_loop (fun k t τ => tget t 27 = i64 k ∧ tget t 26 = i64 (pw x.bits) ∧ tget t 5 = here ty 0 ∧ tget t 3 = .slice (some ⟨hb, 0, none⟩) h.length 1 ∧ nE n i bx v2 t ∧ Mod hb τ0 τ ∧ ∃ g, markTo h x.base k = some g ∧ τ.t.get hb = some (rowOf (hadL g, 1)))
    (pw x.bits).toNat (by omega) ⟨h27, h26, h5, h3, hE, Mod.refl _ _, h, rfl, hrow⟩ ?_
  rintro k t τ hk ⟨t27, t26, t5, t3, hE', hm, g, hg, hgr⟩
  have hE'' := hE'
  obtain ⟨q15, q16, q17, q1⟩ := hE'
  rw [← grow_nil τ]
  have hlow' : (τ.grow []).low ≤ hb := by rw [grow_nil, hm.low]; exact hlow
  have hgl := markTo_length hg
  have hldg : ∀ L o n, (τ.grow L).loadN ty o n = sliceL (thingL x) o n := fun L o n => by rw [(hm.grow L).load _ _ hty.2 hty.1]; exact hld o n
  have hrowg : ∀ L, (τ.grow L).t.get hb = some (rowOf (hadL g, 1)) := fun L => by rw [grow_old _ _ (Nat.lt_of_lt_of_le hbn hm.n)]; exact hgr
  by_cases hlt : k < (pw x.bits).toNat
  · have hlt' : (k : Int) < pw x.bits := by omega
    have hcast : ((k + 1 : Nat) : Int) = (k : Int) + 1 := by omega
    have hms : markTo h x.base (k + 1) = if (g.length : Int) ≤ x.base + k then none else (match g[(x.base + k).toNat]? with | some false => some (g.set (x.base + k).toNat true) | _ => none) := by simp only [markTo, hg]
    by_cases c1 : (h.length : Int) ≤ x.base + k
    · have hno : markTo h x.base (pw x.bits).toNat = none := markTo_none (k := k + 1) (by rw [hms, if_pos (by omega)]) _ (by omega)
      simp (disch := omega) only [t27, t26, t5, t3, hldg, hlt', c1, r0_state_nodes, r1_state_nodes, r2_state_nodes, r3_state_nodes, r4_state_nodes, r5_state_nodes, r6_state_nodes, r7_state_nodes, r8_state_nodes, r9_state_nodes, r10_state_nodes, r11_state_nodes, r12_state_nodes, r13_state_nodes, r14_state_nodes, r15_state_nodes, r16_state_nodes, r17_state_nodes, r18_state_nodes, r19_state_nodes, r20_state_nodes, r21_state_nodes, b1_state_nodes, k9_state_nodes, k10_state_nodes, k11_state_nodes, k12_state_nodes, k13_state_nodes, k14_state_nodes, Z0, Z1, Z2, Z3, Z4, Z5, Z6, Z7, Z8, Z9, Z10, resAll, Nat.reduceAdd, Nat.reduceEqDiff, Nat.reduceLeDiff, Nat.reduceMul, ↓reduceIte, reduceCtorEq, Nat.reduceBEq, aoper, Nat.reduceLT, Int.reduceEq, Int.reduceLT, Int.reduceLE]
      refine hR hno _ _ ?_ ?_ <;> simp (disch := omega) only [hm.low, r0_state_nodes, r1_state_nodes, r2_state_nodes, r3_state_nodes, r4_state_nodes, r5_state_nodes, r6_state_nodes, r7_state_nodes, r8_state_nodes, r9_state_nodes, r10_state_nodes, r11_state_nodes, r12_state_nodes, r13_state_nodes, r14_state_nodes, r15_state_nodes, r16_state_nodes, r17_state_nodes, r18_state_nodes, r19_state_nodes, r20_state_nodes, r21_state_nodes, Z0, Z1, Z2, Z3, Z4, Z5, Z6, Z7, Z8, Z9, Z10, resAll, Nat.reduceAdd, Nat.reduceEqDiff, Nat.reduceLeDiff, Nat.reduceMul, ↓reduceIte, reduceCtorEq, Nat.reduceBEq, aoper, Nat.reduceLT, Int.reduceEq, Int.reduceLT, Int.reduceLE]
    · obtain ⟨r, hr⟩ : ∃ r, g[(x.base + k).toNat]? = some r := ⟨_, List.getElem?_eq_getElem (by omega)⟩
      have hlr : ∀ L, (τ.grow L).loadN hb (x.base + k).toNat 1 = some [.bool r] := fun L => by rw [load_row (hrowg L) (by rw [hadL_length]; omega), hadL_at hr]
      have hlt2 : x.base + (k : Int) < (h.length : Int) := by omega
      cases r with
      | true =>
        have hno : markTo h x.base (pw x.bits).toNat = none := markTo_none (k := k + 1) (by rw [hms, if_neg (by omega), hr]) _ (by omega)
        simp (disch := omega) only [t27, t26, t5, t3, hldg, hlt', c1, hlt2, hlr, Nat.mul_one, r0_state_nodes, r1_state_nodes, r2_state_nodes, r3_state_nodes, r4_state_nodes, r5_state_nodes, r6_state_nodes, r7_state_nodes, r8_state_nodes, r9_state_nodes, r10_state_nodes, r11_state_nodes, r12_state_nodes, r13_state_nodes, r14_state_nodes, r15_state_nodes, r16_state_nodes, r17_state_nodes, r18_state_nodes, r19_state_nodes, r20_state_nodes, r21_state_nodes, b1_state_nodes, k9_state_nodes, k10_state_nodes, k11_state_nodes, k12_state_nodes, k13_state_nodes, k14_state_nodes, Z0, Z1, Z2, Z3, Z4, Z5, Z6, Z7, Z8, Z9, Z10, resAll, Nat.reduceAdd, Nat.reduceEqDiff, Nat.reduceLeDiff, Nat.reduceMul, ↓reduceIte, reduceCtorEq, Nat.reduceBEq, aoper, Nat.reduceLT, Int.reduceEq, Int.reduceLT, Int.reduceLE]
        refine hR hno _ _ ?_ ?_ <;> simp (disch := omega) only [hm.low, r0_state_nodes, r1_state_nodes, r2_state_nodes, r3_state_nodes, r4_state_nodes, r5_state_nodes, r6_state_nodes, r7_state_nodes, r8_state_nodes, r9_state_nodes, r10_state_nodes, r11_state_nodes, r12_state_nodes, r13_state_nodes, r14_state_nodes, r15_state_nodes, r16_state_nodes, r17_state_nodes, r18_state_nodes, r19_state_nodes, r20_state_nodes, r21_state_nodes, Z0, Z1, Z2, Z3, Z4, Z5, Z6, Z7, Z8, Z9, Z10, resAll, Nat.reduceAdd, Nat.reduceEqDiff, Nat.reduceLeDiff, Nat.reduceMul, ↓reduceIte, reduceCtorEq, Nat.reduceBEq, aoper, Nat.reduceLT, Int.reduceEq, Int.reduceLT, Int.reduceLE]
      | false =>
        have hms' : markTo h x.base (k + 1) = some (g.set (x.base + k).toNat true) := by rw [hms, if_neg (by omega), hr]
        obtain ⟨τ', s1, s2, s3, s4⟩ := Mod.store (o := (x.base + k).toNat) (vs := [.bool true]) (hrowg []) hlow' (by rw [hadL_length]; simp; omega) rfl
        rw [hadL_set] at s2
        simp (disch := omega) only [t27, t26, t5, t3, hldg, hlt', c1, hlt2, hlr, Nat.mul_one, s1, hlt, hcast, r0_state_nodes, r1_state_nodes, r2_state_nodes, r3_state_nodes, r4_state_nodes, r5_state_nodes, r6_state_nodes, r7_state_nodes, r8_state_nodes, r9_state_nodes, r10_state_nodes, r11_state_nodes, r12_state_nodes, r13_state_nodes, r14_state_nodes, r15_state_nodes, r16_state_nodes, r17_state_nodes, r18_state_nodes, r19_state_nodes, r20_state_nodes, r21_state_nodes, b1_state_nodes, k9_state_nodes, k10_state_nodes, k11_state_nodes, k12_state_nodes, k13_state_nodes, k14_state_nodes, k15_state_nodes, Z0, Z1, Z2, Z3, Z4, Z5, Z6, Z7, Z8, Z9, Z10, resAll, Nat.reduceAdd, Nat.reduceEqDiff, Nat.reduceLeDiff, Nat.reduceMul, ↓reduceIte, reduceCtorEq, Nat.reduceBEq, aoper, Nat.reduceLT, Int.reduceEq, Int.reduceLT, Int.reduceLE]
        refine ⟨⟨?_, ?_, ?_, ?_⟩, (hm.grow []).trans s3, _, hms', s2⟩ <;> simp (disch := omega) only [q15, q16, q17, q1, r0_state_nodes, r1_state_nodes, r2_state_nodes, r3_state_nodes, r4_state_nodes, r5_state_nodes, r6_state_nodes, r7_state_nodes, r8_state_nodes, r9_state_nodes, r10_state_nodes, r11_state_nodes, r12_state_nodes, r13_state_nodes, r14_state_nodes, r15_state_nodes, r16_state_nodes, r17_state_nodes, r18_state_nodes, r19_state_nodes, r20_state_nodes, r21_state_nodes, Z0, Z1, Z2, Z3, Z4, Z5, Z6, Z7, Z8, Z9, Z10, resAll, Nat.reduceAdd, Nat.reduceEqDiff, Nat.reduceLeDiff, Nat.reduceMul, ↓reduceIte, reduceCtorEq, Nat.reduceBEq, aoper, Nat.reduceLT, Int.reduceEq, Int.reduceLT, Int.reduceLE]
  · have hlt' : ¬ (k : Int) < pw x.bits := by omega
    have hkk : k = (pw x.bits).toNat := by omega
    simp (disch := omega) only [t27, t26, hlt', r0_state_nodes, r1_state_nodes, r2_state_nodes, r3_state_nodes, r4_state_nodes, r5_state_nodes, r6_state_nodes, r7_state_nodes, r8_state_nodes, r9_state_nodes, r10_state_nodes, r11_state_nodes, r12_state_nodes, r13_state_nodes, r14_state_nodes, r15_state_nodes, r16_state_nodes, r17_state_nodes, r18_state_nodes, r19_state_nodes, r20_state_nodes, r21_state_nodes, b1_state_nodes, k9_state_nodes, Z0, Z1, Z2, Z3, Z4, Z5, Z6, Z7, Z8, Z9, Z10, resAll, Nat.reduceAdd, Nat.reduceEqDiff, Nat.reduceLeDiff, Nat.reduceMul, ↓reduceIte, reduceCtorEq, Nat.reduceBEq, aoper, Nat.reduceLT, Int.reduceEq, Int.reduceLT, Int.reduceLE]
    refine hQ _ _ g (hkk ▸ hg) hgr hm ⟨?_, ?_, ?_, ?_⟩ ?_ <;> simp (disch := omega) only [q15, q16, q17, q1, t3, r0_state_nodes, r1_state_nodes, r2_state_nodes, r3_state_nodes, r4_state_nodes, r5_state_nodes, r6_state_nodes, r7_state_nodes, r8_state_nodes, r9_state_nodes, r10_state_nodes, r11_state_nodes, r12_state_nodes, r13_state_nodes, r14_state_nodes, r15_state_nodes, r16_state_nodes, r17_state_nodes, r18_state_nodes, r19_state_nodes, r20_state_nodes, r21_state_nodes, Z0, Z1, Z2, Z3, Z4, Z5, Z6, Z7, Z8, Z9, Z10, resAll, Nat.reduceAdd, Nat.reduceEqDiff, Nat.reduceLeDiff, Nat.reduceMul, ↓reduceIte, reduceCtorEq, Nat.reduceBEq, aoper, Nat.reduceLT, Int.reduceEq, Int.reduceLT, Int.reduceLE]
theorem thGood_node {t : ThingD} (h : thGood t = true) (ht : t.type = 2) : (1 ≤ t.bits ∧ t.bits ≤ 4) ∧ 0 ≤ t.base ∧ t.base ≤ 96 - pw t.bits := by
  unfold thGood at h
  rw [if_neg (by omega), if_pos ht] at h
  simp only [Bool.and_eq_true, decide_eq_true_eq] at h
  exact h.2
theorem state_nodes_ok (d : Nat) (σ : AHeap) (S : StD) (a1 : Option Addr) (f1 : Nat) (a2 : Option Addr) (f2 : Nat) (h1 : SlS σ a1 S.sl) (h2 : SlT σ a2 S.th)
    (hn0 : 0 < S.sl.length) (hn : S.sl.length < 1000) (hm : S.th.length < 1000) (hT : ∀ (i : Nat) (x : ThingD), S.th[i]? = some x → thGood x = true) :
    acall (ofProg Tryz.prog) 1000 (d + 2) 59 [stV S a1 f1 a2 f2] σ = some (.bool (nodesB S), σ) := by
  refine acall_flat e_state_nodes (by simp) rfl ?_
  simp (disch := omega) only [hn0, hn, r0_state_nodes, r1_state_nodes, r2_state_nodes, r3_state_nodes, r4_state_nodes, r5_state_nodes, r6_state_nodes, r7_state_nodes, r8_state_nodes, r9_state_nodes, r10_state_nodes, r11_state_nodes, r12_state_nodes, r13_state_nodes, r14_state_nodes, r15_state_nodes, r16_state_nodes, r17_state_nodes, r18_state_nodes, r19_state_nodes, r20_state_nodes, r21_state_nodes, c_state_nodes, k0_state_nodes, k1_state_nodes, k2_state_nodes, Z0, Z1, Z2, Z3, Z4, Z5, Z6, Z7, Z8, Z9, Z10, resAll, Nat.reduceAdd, Nat.reduceEqDiff, Nat.reduceLeDiff, Nat.reduceMul, ↓reduceIte, reduceCtorEq, Nat.reduceBEq, aoper, Nat.reduceLT, Int.reduceEq, Int.reduceLT, Int.reduceLE]
  generalize hσ1 : σ.fresh.grow [(stL S a1 f1 a2 f2, 5), (hadL (List.replicate S.sl.length false), 1)] = σ1
  have e1n : σ1.n = σ.n + 2 := by rw [← hσ1, grow_n]; rfl
  have e1l : σ1.low = σ.n := by rw [← hσ1, grow_low]; rfl
  have e1k : Keeps σ.fresh σ1 := by rw [← hσ1]; exact Keeps.self _ _
  have e1b : ∀ o n, σ1.loadN σ.fresh.n o n = sliceL (stL S a1 f1 a2 f2) o n := fun o n => by rw [← hσ1, ld_0]
  have e1h : σ1.t.get (σ.fresh.n + 1) = some (rowOf (hadL (List.replicate S.sl.length false), 1)) := by rw [← hσ1]; exact grow_new _ _ 1 rfl
  have hfn : σ.fresh.n = σ.n := rfl
  refine ends_loop (fun i t τ => nE S.th.length i σ.fresh.n (.slice a2 S.th.length f2) t ∧ tget t 3 = .slice (some ⟨σ.fresh.n + 1, 0, none⟩) S.sl.length 1 ∧ Mod (σ.fresh.n + 1) σ1 τ ∧ ∃ h, nodesTo S i = some h ∧ τ.t.get (σ.fresh.n + 1) = some (rowOf (hadL h, 1)))
    S.th.length hm ⟨⟨?_, ?_, ?_, ?_⟩, ?_, Mod.refl _ _, _, rfl, e1h⟩ ?_
  iterate 5 simp (disch := omega) only [Int.natCast_zero, Int.ofNat_zero, r0_state_nodes, r1_state_nodes, r2_state_nodes, r3_state_nodes, r4_state_nodes, r5_state_nodes, r6_state_nodes, r7_state_nodes, r8_state_nodes, r9_state_nodes, r10_state_nodes, r11_state_nodes, r12_state_nodes, r13_state_nodes, r14_state_nodes, r15_state_nodes, r16_state_nodes, r17_state_nodes, r18_state_nodes, r19_state_nodes, r20_state_nodes, r21_state_nodes, Z0, Z1, Z2, Z3, Z4, Z5, Z6, Z7, Z8, Z9, Z10, resAll, Nat.reduceAdd, Nat.reduceEqDiff, Nat.reduceLeDiff, Nat.reduceMul, ↓reduceIte, reduceCtorEq, Nat.reduceBEq, aoper, Nat.reduceLT, Int.reduceEq, Int.reduceLT, Int.reduceLE]
  rintro i t τ hi ⟨⟨t15, t16, t17, t1⟩, t3, hmd, h, hh, hrow⟩
  rw [← grow_nil τ]
  have hlow : τ.low ≤ τ.n := by have := hmd.n; rw [hmd.low]; omega
  have hhl := nodesTo_length hh
  have hbox := fun M o n => (hmd.grow M).load (b := σ.fresh.n) o n (by omega) (by omega)
  simp only [e1b] at hbox
  by_cases hlt : i < S.th.length
  · obtain ⟨b, rfl, hb⟩ := h2.fresh.at hlt
    have hx : S.th[i]? = some S.th[i] := List.getElem?_eq_getElem hlt
    generalize S.th[i] = x at hx
    have hbn := hb.1
    have hl := fun L => (hmd.grow L).load (b := b) (i * 13) 13 (by omega) (by omega)
    have hl0 : σ1.loadN b (i * 13) 13 = some (thingL x) := by rw [e1k.load _ _ hbn]; exact hb.2 i x hx 0 13 (by omega)
    simp only [hl0] at hl
    have hlt' : (i : Int) < (S.th.length : Int) := by omega
    have hcast : ((i + 1 : Nat) : Int) = (i : Int) + 1 := by omega
    by_cases g0 : x.type = 2
    · have hbb := thGood_node (hT i x hx) g0
      have hp := pw_le (b := x.bits) (by omega) (by omega)
      have hns : nodesTo S (i + 1) = markTo h x.base (pw x.bits).toNat := by simp only [nodesTo, hh, hx, if_pos g0]
      simp (disch := omega) only [t15, t16, t17, t1, t3, hbox, hl, hlt', Int.toNat_natCast, sto_0 hlow, eq_true g0, r0_state_nodes, r1_state_nodes, r2_state_nodes, r3_state_nodes, r4_state_nodes, r5_state_nodes, r6_state_nodes, r7_state_nodes, r8_state_nodes, r9_state_nodes, r10_state_nodes, r11_state_nodes, r12_state_nodes, r13_state_nodes, r14_state_nodes, r15_state_nodes, r16_state_nodes, r17_state_nodes, r18_state_nodes, r19_state_nodes, r20_state_nodes, r21_state_nodes, b0_state_nodes, k3_state_nodes, k4_state_nodes, k5_state_nodes, k6_state_nodes, k7_state_nodes, k8_state_nodes, Z0, Z1, Z2, Z3, Z4, Z5, Z6, Z7, Z8, Z9, Z10, resAll, Nat.reduceAdd, Nat.reduceEqDiff, Nat.reduceLeDiff, Nat.reduceMul, ↓reduceIte, reduceCtorEq, Nat.reduceBEq, aoper, Nat.reduceLT, Int.reduceEq, Int.reduceLT, Int.reduceLE]
      refine nodes_inner (hb := σ.fresh.n + 1) (ty := τ.n) (n := S.th.length) (i := i) (bx := σ.fresh.n) (v2 := .slice (some ⟨b, 0, none⟩) S.th.length f2) (h := h) (x := x) (by omega) (by omega) ?_ ?_ ?_ ?_ ?_ (by omega) ⟨?_, ?_, ?_, ?_⟩ ?_ ?_ ?_ ?_ ?_ ?_
      · rw [grow_low, hmd.low]; omega
      · rw [grow_n]; have := hmd.n; omega
      · rw [grow_old _ _ (by have := hmd.n; omega)]; exact hrow
      · exact ⟨by have := hmd.n; omega, by rw [grow_n]; simp⟩
      · intro o n; rw [ld_0]
      iterate 8 simp (disch := omega) only [t15, t16, t17, t1, t3, hhl, r0_state_nodes, r1_state_nodes, r2_state_nodes, r3_state_nodes, r4_state_nodes, r5_state_nodes, r6_state_nodes, r7_state_nodes, r8_state_nodes, r9_state_nodes, r10_state_nodes, r11_state_nodes, r12_state_nodes, r13_state_nodes, r14_state_nodes, r15_state_nodes, r16_state_nodes, r17_state_nodes, r18_state_nodes, r19_state_nodes, r20_state_nodes, r21_state_nodes, Z0, Z1, Z2, Z3, Z4, Z5, Z6, Z7, Z8, Z9, Z10, resAll, Nat.reduceAdd, Nat.reduceEqDiff, Nat.reduceLeDiff, Nat.reduceMul, ↓reduceIte, reduceCtorEq, Nat.reduceBEq, aoper, Nat.reduceLT, Int.reduceEq, Int.reduceLT, Int.reduceLE]
      · intro t' τ' g hg hr hm' hE' h3'
        obtain ⟨q15, q16, q17, q1⟩ := hE'
        rw [hhl] at h3'
        simp (disch := omega) only [q15, q16, q17, q1, h3', hlt, hcast, r0_state_nodes, r1_state_nodes, r2_state_nodes, r3_state_nodes, r4_state_nodes, r5_state_nodes, r6_state_nodes, r7_state_nodes, r8_state_nodes, r9_state_nodes, r10_state_nodes, r11_state_nodes, r12_state_nodes, r13_state_nodes, r14_state_nodes, r15_state_nodes, r16_state_nodes, r17_state_nodes, r18_state_nodes, r19_state_nodes, r20_state_nodes, r21_state_nodes, k16_state_nodes, Z0, Z1, Z2, Z3, Z4, Z5, Z6, Z7, Z8, Z9, Z10, resAll, Nat.reduceAdd, Nat.reduceEqDiff, Nat.reduceLeDiff, Nat.reduceMul, ↓reduceIte, reduceCtorEq, Nat.reduceBEq, aoper, Nat.reduceLT, Int.reduceEq, Int.reduceLT, Int.reduceLE]
        refine ⟨⟨?_, ?_, ?_, ?_⟩, (hmd.trans ((Keeps.self τ _).mod.trans hm')).grow [], g, hns.trans hg, ?_⟩
        iterate 4 simp (disch := omega) only [q15, q16, q17, q1, hcast, r0_state_nodes, r1_state_nodes, r2_state_nodes, r3_state_nodes, r4_state_nodes, r5_state_nodes, r6_state_nodes, r7_state_nodes, r8_state_nodes, r9_state_nodes, r10_state_nodes, r11_state_nodes, r12_state_nodes, r13_state_nodes, r14_state_nodes, r15_state_nodes, r16_state_nodes, r17_state_nodes, r18_state_nodes, r19_state_nodes, r20_state_nodes, r21_state_nodes, Z0, Z1, Z2, Z3, Z4, Z5, Z6, Z7, Z8, Z9, Z10, resAll, Nat.reduceAdd, Nat.reduceEqDiff, Nat.reduceLeDiff, Nat.reduceMul, ↓reduceIte, reduceCtorEq, Nat.reduceBEq, aoper, Nat.reduceLT, Int.reduceEq, Int.reduceLT, Int.reduceLE]
        rw [grow_nil]; exact hr
      · intro hno t' τ' ht2 hl2
        have hf : nodesB S = false := by unfold nodesB; rw [nodesTo_none (hns.trans hno) _ (by omega)]
        simp (disch := omega) only [ht2, hf, hl2, hmd.low, e1l, r0_state_nodes, r1_state_nodes, r2_state_nodes, r3_state_nodes, r4_state_nodes, r5_state_nodes, r6_state_nodes, r7_state_nodes, r8_state_nodes, r9_state_nodes, r10_state_nodes, r11_state_nodes, r12_state_nodes, r13_state_nodes, r14_state_nodes, r15_state_nodes, r16_state_nodes, r17_state_nodes, r18_state_nodes, r19_state_nodes, r20_state_nodes, r21_state_nodes, Z0, Z1, Z2, Z3, Z4, Z5, Z6, Z7, Z8, Z9, Z10, resAll, Nat.reduceAdd, Nat.reduceEqDiff, Nat.reduceLeDiff, Nat.reduceMul, ↓reduceIte, reduceCtorEq, Nat.reduceBEq, aoper, Nat.reduceLT, Int.reduceEq, Int.reduceLT, Int.reduceLE]
    · have hns : nodesTo S (i + 1) = some h := by simp only [nodesTo, hh, hx, if_neg g0]
      simp (disch := omega) only [t15, t16, t17, t1, t3, hbox, hl, hlt', hlt, hcast, Int.toNat_natCast, sto_0 hlow, g0, r0_state_nodes, r1_state_nodes, r2_state_nodes, r3_state_nodes, r4_state_nodes, r5_state_nodes, r6_state_nodes, r7_state_nodes, r8_state_nodes, r9_state_nodes, r10_state_nodes, r11_state_nodes, r12_state_nodes, r13_state_nodes, r14_state_nodes, r15_state_nodes, r16_state_nodes, r17_state_nodes, r18_state_nodes, r19_state_nodes, r20_state_nodes, r21_state_nodes, b0_state_nodes, k3_state_nodes, k4_state_nodes, k5_state_nodes, k6_state_nodes, k16_state_nodes, Z0, Z1, Z2, Z3, Z4, Z5, Z6, Z7, Z8, Z9, Z10, resAll, Nat.reduceAdd, Nat.reduceEqDiff, Nat.reduceLeDiff, Nat.reduceMul, ↓reduceIte, reduceCtorEq, Nat.reduceBEq, aoper, Nat.reduceLT, Int.reduceEq, Int.reduceLT, Int.reduceLE]
      refine ⟨⟨?_, ?_, ?_, ?_⟩, hmd.grow _, h, hns, ?_⟩
      iterate 4 simp (disch := omega) only [t15, t16, t17, t1, hcast, r0_state_nodes, r1_state_nodes, r2_state_nodes, r3_state_nodes, r4_state_nodes, r5_state_nodes, r6_state_nodes, r7_state_nodes, r8_state_nodes, r9_state_nodes, r10_state_nodes, r11_state_nodes, r12_state_nodes, r13_state_nodes, r14_state_nodes, r15_state_nodes, r16_state_nodes, r17_state_nodes, r18_state_nodes, r19_state_nodes, r20_state_nodes, r21_state_nodes, Z0, Z1, Z2, Z3, Z4, Z5, Z6, Z7, Z8, Z9, Z10, resAll, Nat.reduceAdd, Nat.reduceEqDiff, Nat.reduceLeDiff, Nat.reduceMul, ↓reduceIte, reduceCtorEq, Nat.reduceBEq, aoper, Nat.reduceLT, Int.reduceEq, Int.reduceLT, Int.reduceLE]
      rw [grow_old _ _ (by have := hmd.n; omega)]; exact hrow
  · have hlt' : ¬ (i : Int) < (S.th.length : Int) := by omega
    have hii : i = S.th.length := by omega
    simp (disch := omega) only [t15, t16, t17, t1, t3, hlt', hbox, r0_state_nodes, r1_state_nodes, r2_state_nodes, r3_state_nodes, r4_state_nodes, r5_state_nodes, r6_state_nodes, r7_state_nodes, r8_state_nodes, r9_state_nodes, r10_state_nodes, r11_state_nodes, r12_state_nodes, r13_state_nodes, r14_state_nodes, r15_state_nodes, r16_state_nodes, r17_state_nodes, r18_state_nodes, r19_state_nodes, r20_state_nodes, r21_state_nodes, b0_state_nodes, k3_state_nodes, k17_state_nodes, Z0, Z1, Z2, Z3, Z4, Z5, Z6, Z7, Z8, Z9, Z10, resAll, Nat.reduceAdd, Nat.reduceEqDiff, Nat.reduceLeDiff, Nat.reduceMul, ↓reduceIte, reduceCtorEq, Nat.reduceBEq, aoper, Nat.reduceLT, Int.reduceEq, Int.reduceLT, Int.reduceLE]
    rw [hii] at hh
    have hB : nodesB S = allTo (heldB h) S.sl S.sl.length := by unfold nodesB; rw [hh]
    simp (disch := omega) only [r0_state_nodes, r1_state_nodes, r2_state_nodes, r3_state_nodes, r4_state_nodes, r5_state_nodes, r6_state_nodes, r7_state_nodes, r8_state_nodes, r9_state_nodes, r10_state_nodes, r11_state_nodes, r12_state_nodes, r13_state_nodes, r14_state_nodes, r15_state_nodes, r16_state_nodes, r17_state_nodes, r18_state_nodes, r19_state_nodes, r20_state_nodes, r21_state_nodes, k18_state_nodes, Z0, Z1, Z2, Z3, Z4, Z5, Z6, Z7, Z8, Z9, Z10, resAll, Nat.reduceAdd, Nat.reduceEqDiff, Nat.reduceLeDiff, Nat.reduceMul, ↓reduceIte, reduceCtorEq, Nat.reduceBEq, aoper, Nat.reduceLT, Int.reduceEq, Int.reduceLT, Int.reduceLE]
    refine ends_loop (fun j t' τ' => tget t' 50 = .slice a1 S.sl.length f1 ∧ tget t' 51 = i64 S.sl.length ∧ tget t' 52 = i64 j ∧ tget t' 3 = .slice (some ⟨σ.fresh.n + 1, 0, none⟩) S.sl.length 1 ∧ Keeps τ τ' ∧ allTo (heldB h) S.sl j = true)
      S.sl.length hn ⟨?_, ?_, ?_, ?_, Keeps.self _ _, rfl⟩ ?_
    iterate 4 simp (disch := omega) only [t3, Int.natCast_zero, Int.ofNat_zero, r0_state_nodes, r1_state_nodes, r2_state_nodes, r3_state_nodes, r4_state_nodes, r5_state_nodes, r6_state_nodes, r7_state_nodes, r8_state_nodes, r9_state_nodes, r10_state_nodes, r11_state_nodes, r12_state_nodes, r13_state_nodes, r14_state_nodes, r15_state_nodes, r16_state_nodes, r17_state_nodes, r18_state_nodes, r19_state_nodes, r20_state_nodes, r21_state_nodes, Z0, Z1, Z2, Z3, Z4, Z5, Z6, Z7, Z8, Z9, Z10, resAll, Nat.reduceAdd, Nat.reduceEqDiff, Nat.reduceLeDiff, Nat.reduceMul, ↓reduceIte, reduceCtorEq, Nat.reduceBEq, aoper, Nat.reduceLT, Int.reduceEq, Int.reduceLT, Int.reduceLE]
    rintro j t' τ' hj ⟨u50, u51, u52, u3, hk, hall⟩
    rw [← grow_nil τ']
    have hlow' : τ'.low ≤ τ'.n := by have := hk.n; rw [hk.low]; omega
    by_cases hjt : j < S.sl.length
    · obtain ⟨b, rfl, hb⟩ := h1.fresh.at hjt
      have hx : S.sl[j]? = some S.sl[j] := List.getElem?_eq_getElem hjt
      generalize S.sl[j] = x at hx
      have hbn := hb.1
      have hl0 : σ1.loadN b (j * 5) 5 = some (slotL x) := by rw [e1k.load _ _ hbn]; exact hb.2 j x hx 0 5 (by omega)
      have hl : ∀ L, (τ'.grow L).loadN b (j * 5) 5 = some (slotL x) := fun L => by
        have := hmd.n
        rw [(hk.grow L).load _ _ (by omega), hmd.load _ _ (by omega) (by omega)]; exact hl0
      have hjt' : (j : Int) < (S.sl.length : Int) := by omega
      have hcast : ((j + 1 : Nat) : Int) = (j : Int) + 1 := by omega
      obtain ⟨r, hr⟩ : ∃ r, h[j]? = some r := ⟨_, List.getElem?_eq_getElem (by omega)⟩
      have hlr : ∀ L, (τ'.grow L).loadN (σ.fresh.n + 1) j 1 = some [.bool r] := fun L => by
        have := hmd.n
        rw [(hk.grow L).load _ _ (by omega), load_row hrow (by rw [hadL_length]; omega), hadL_at hr]
      have hs : heldB h j x = (r || capNone x) := by unfold heldB; rw [List.getD_eq_getElem?_getD, hr]; rfl
      cases r with
      | true =>
        have hsx : heldB h j x = true := by rw [hs]; rfl
        simp (disch := omega) only [u50, u51, u52, u3, hl, hlr, hjt', hjt, hcast, Int.toNat_natCast, Nat.mul_one, sto_0 hlow', hk.grow, allTo_next hall hx hsx, r0_state_nodes, r1_state_nodes, r2_state_nodes, r3_state_nodes, r4_state_nodes, r5_state_nodes, r6_state_nodes, r7_state_nodes, r8_state_nodes, r9_state_nodes, r10_state_nodes, r11_state_nodes, r12_state_nodes, r13_state_nodes, r14_state_nodes, r15_state_nodes, r16_state_nodes, r17_state_nodes, r18_state_nodes, r19_state_nodes, r20_state_nodes, r21_state_nodes, b2_state_nodes, k19_state_nodes, k20_state_nodes, k21_state_nodes, k22_state_nodes, k23_state_nodes, Z0, Z1, Z2, Z3, Z4, Z5, Z6, Z7, Z8, Z9, Z10, resAll, Nat.reduceAdd, Nat.reduceEqDiff, Nat.reduceLeDiff, Nat.reduceMul, ↓reduceIte, reduceCtorEq, Nat.reduceBEq, aoper, Nat.reduceLT, Int.reduceEq, Int.reduceLT, Int.reduceLE]
      | false =>
        cases g1 : capNone x with
        | true =>
          have hsx : heldB h j x = true := by rw [hs, g1]; rfl
          simp (disch := omega) only [u50, u51, u52, u3, hl, hlr, hjt', hjt, hcast, Int.toNat_natCast, Nat.mul_one, sto_0 hlow', hk.grow, cap_None_ok, g1, allTo_next hall hx hsx, r0_state_nodes, r1_state_nodes, r2_state_nodes, r3_state_nodes, r4_state_nodes, r5_state_nodes, r6_state_nodes, r7_state_nodes, r8_state_nodes, r9_state_nodes, r10_state_nodes, r11_state_nodes, r12_state_nodes, r13_state_nodes, r14_state_nodes, r15_state_nodes, r16_state_nodes, r17_state_nodes, r18_state_nodes, r19_state_nodes, r20_state_nodes, r21_state_nodes, b2_state_nodes, k19_state_nodes, k20_state_nodes, k21_state_nodes, k22_state_nodes, k23_state_nodes, Z0, Z1, Z2, Z3, Z4, Z5, Z6, Z7, Z8, Z9, Z10, resAll, Nat.reduceAdd, Nat.reduceEqDiff, Nat.reduceLeDiff, Nat.reduceMul, ↓reduceIte, reduceCtorEq, Nat.reduceBEq, aoper, Nat.reduceLT, Int.reduceEq, Int.reduceLT, Int.reduceLE]
        | false =>
          have hf : nodesB S = false := by rw [hB]; exact allTo_false hx (by rw [hs, g1]; rfl) _ hjt
          simp (disch := omega) only [u50, u51, u52, u3, hl, hlr, hjt', hjt, hcast, Int.toNat_natCast, Nat.mul_one, sto_0 hlow', cap_None_ok, g1, hf, hk.low, hmd.low, e1l, r0_state_nodes, r1_state_nodes, r2_state_nodes, r3_state_nodes, r4_state_nodes, r5_state_nodes, r6_state_nodes, r7_state_nodes, r8_state_nodes, r9_state_nodes, r10_state_nodes, r11_state_nodes, r12_state_nodes, r13_state_nodes, r14_state_nodes, r15_state_nodes, r16_state_nodes, r17_state_nodes, r18_state_nodes, r19_state_nodes, r20_state_nodes, r21_state_nodes, b2_state_nodes, k19_state_nodes, k20_state_nodes, k21_state_nodes, k22_state_nodes, k23_state_nodes, Z0, Z1, Z2, Z3, Z4, Z5, Z6, Z7, Z8, Z9, Z10, resAll, Nat.reduceAdd, Nat.reduceEqDiff, Nat.reduceLeDiff, Nat.reduceMul, ↓reduceIte, reduceCtorEq, Nat.reduceBEq, aoper, Nat.reduceLT, Int.reduceEq, Int.reduceLT, Int.reduceLE]
    · have hjt' : ¬ (j : Int) < (S.sl.length : Int) := by omega
      have hjj : j = S.sl.length := by omega
      have hf : nodesB S = true := by rw [hB, ← hjj]; exact hall
      simp (disch := omega) only [u50, u51, u52, hjt', hf, hk.low, hmd.low, e1l, r0_state_nodes, r1_state_nodes, r2_state_nodes, r3_state_nodes, r4_state_nodes, r5_state_nodes, r6_state_nodes, r7_state_nodes, r8_state_nodes, r9_state_nodes, r10_state_nodes, r11_state_nodes, r12_state_nodes, r13_state_nodes, r14_state_nodes, r15_state_nodes, r16_state_nodes, r17_state_nodes, r18_state_nodes, r19_state_nodes, r20_state_nodes, r21_state_nodes, b2_state_nodes, k19_state_nodes, k24_state_nodes, Z0, Z1, Z2, Z3, Z4, Z5, Z6, Z7, Z8, Z9, Z10, resAll, Nat.reduceAdd, Nat.reduceEqDiff, Nat.reduceLeDiff, Nat.reduceMul, ↓reduceIte, reduceCtorEq, Nat.reduceBEq, aoper, Nat.reduceLT, Int.reduceEq, Int.reduceLT, Int.reduceLE]
end Go.Proofs.YtidmcpkbcphpiaaGreat
namespace Go.Proofs.YtidmcpkbcphpiaaGreat
open Go Go.Hai
set_option maxRecDepth 20000
set_option linter.unusedSimpArgs false
set_option maxHeartbeats 4000000
attribute [local irreducible] Hai.Ends EndsR EndsO EndsD AHeap.grow
def r0_state_State_owner_1 : List AOper := [(.mk (some 2) none (.box 13 (.tmp 0))), (.mk (some 3) none (.mv (.const (.bool false))))]
def r1_state_State_owner_1 : List AOper := [(.mk (some 4) none (.load true 13 (.tmp 2))), (.mk (some 5) none (.load false 1 (.tmp 1))), (.mk (some 6) none (.call 223 [(.tmp 4), (.tmp 5)])), (.mk (some 3) none (.mv (.tmp 6)))]
def k0_state_State_owner_1 : ACode := (.seq (.reg r1_state_State_owner_1) .ret)
def c_state_State_owner_1 : ACode := (.seq (.reg r0_state_State_owner_1) k0_state_State_owner_1)
theorem e_state_State_owner_1 : ofProg Tryz.prog 225 = some ⟨7, [(.tmp 3)], c_state_State_owner_1⟩ := by kernel_rfl
def r0_slices_IndexFunc_thing_Thing_thing_Thing : List AOper := [(.mk (some 4) none (.mv (.const (.int .i64 0))))]
def r1_slices_IndexFunc_thing_Thing_thing_Thing : List AOper := [(.mk (some 6) none (.mv (.tmp 0))), (.mk (some 7) none (.lenS (.tmp 6))), (.mk (some 8) none (.mv (.const (.int .i64 0))))]
def r2_slices_IndexFunc_thing_Thing_thing_Thing : List AOper := [(.mk (some 9) none (.bin .lss (.tmp 8) (.tmp 7)))]
def r3_slices_IndexFunc_thing_Thing_thing_Thing : List AOper := [(.mk (some 10) none (.mv (.tmp 8))), (.mk (some 5) none (.mv (.tmp 10)))]
def r4_slices_IndexFunc_thing_Thing_thing_Thing : List AOper := [(.mk (some 11) none (.mv (.tmp 1))), (.mk (some 12) none (.mv (.tmp 0))), (.mk (some 13) none (.mv (.tmp 5))), (.mk (some 14) none (.idxA 13 (.tmp 12) (.tmp 13))), (.mk (some 15) none (.load true 13 (.tmp 14))), (.mk (some 16) none (.callV (.tmp 11) [(.tmp 15)]))]
def r5_slices_IndexFunc_thing_Thing_thing_Thing : List AOper := [(.mk (some 17) none (.mv (.tmp 5))), (.mk (some 4) none (.mv (.tmp 17)))]
def k5_slices_IndexFunc_thing_Thing_thing_Thing : ACode := (.cond (.tmp 16) (.seq (.reg r5_slices_IndexFunc_thing_Thing_thing_Thing) .ret) .skip)
def k4_slices_IndexFunc_thing_Thing_thing_Thing : ACode := (.seq (.reg r4_slices_IndexFunc_thing_Thing_thing_Thing) k5_slices_IndexFunc_thing_Thing_thing_Thing)
def r6_slices_IndexFunc_thing_Thing_thing_Thing : List AOper := [(.mk (some 18) none (.bin .add (.tmp 8) (.const (.int .i64 1)))), (.mk (some 8) none (.mv (.tmp 18)))]
def k6_slices_IndexFunc_thing_Thing_thing_Thing : ACode := (.reg r6_slices_IndexFunc_thing_Thing_thing_Thing)
def k3_slices_IndexFunc_thing_Thing_thing_Thing : ACode := (.seq (.block 1 (.seq (.reg r3_slices_IndexFunc_thing_Thing_thing_Thing) k4_slices_IndexFunc_thing_Thing_thing_Thing)) k6_slices_IndexFunc_thing_Thing_thing_Thing)
def k2_slices_IndexFunc_thing_Thing_thing_Thing : ACode := (.seq (.cond (.tmp 9) .skip (.exit 0)) k3_slices_IndexFunc_thing_Thing_thing_Thing)
def b0_slices_IndexFunc_thing_Thing_thing_Thing : ACode := (.seq (.reg r2_slices_IndexFunc_thing_Thing_thing_Thing) k2_slices_IndexFunc_thing_Thing_thing_Thing)
def k1_slices_IndexFunc_thing_Thing_thing_Thing : ACode := (.block 0 (.loop b0_slices_IndexFunc_thing_Thing_thing_Thing))
def r7_slices_IndexFunc_thing_Thing_thing_Thing : List AOper := [(.mk (some 4) none (.mv (.const (.int .i64 (-1)))))]
def k7_slices_IndexFunc_thing_Thing_thing_Thing : ACode := (.seq (.reg r7_slices_IndexFunc_thing_Thing_thing_Thing) .ret)
def k0_slices_IndexFunc_thing_Thing_thing_Thing : ACode := (.seq (.seq (.reg r1_slices_IndexFunc_thing_Thing_thing_Thing) k1_slices_IndexFunc_thing_Thing_thing_Thing) k7_slices_IndexFunc_thing_Thing_thing_Thing)
def c_slices_IndexFunc_thing_Thing_thing_Thing : ACode := (.seq (.reg r0_slices_IndexFunc_thing_Thing_thing_Thing) k0_slices_IndexFunc_thing_Thing_thing_Thing)
theorem e_slices_IndexFunc_thing_Thing_thing_Thing : ofProg Tryz.prog 224 = some ⟨19, [(.tmp 4)], c_slices_IndexFunc_thing_Thing_thing_Thing⟩ := by kernel_rfl
def r0_state_owner : List AOper := [(.mk (some 2) none (.box 5 (.tmp 0))), (.mk (some 3) none (.box 1 (.tmp 1))), (.mk (some 4) none (.mv (.const (.int .i64 0))))]
def r1_state_owner : List AOper := [(.mk (some 5) none (.fldA 4 (.tmp 2))), (.mk (some 6) none (.load false 1 (.tmp 5))), (.mk (some 7) none (.mkFn 225 [] [(.tmp 3)])), (.mk (some 8) none (.call 224 [(.tmp 6), (.tmp 7)])), (.mk (some 4) none (.mv (.tmp 8)))]
def k0_state_owner : ACode := (.seq (.reg r1_state_owner) .ret)
def c_state_owner : ACode := (.seq (.reg r0_state_owner) k0_state_owner)
theorem e_state_owner : ofProg Tryz.prog 186 = some ⟨9, [(.tmp 4)], c_state_owner⟩ := by kernel_rfl
def nodeOk (t : ThingD) : Prop := t.type = 2 → (0 ≤ t.bits ∧ t.bits ≤ 4) ∧ 0 ≤ t.base ∧ t.base ≤ 96
theorem nodeOk_of {t : ThingD} (h : thGood t = true) : nodeOk t := fun ht => by
  have := thGood_node h ht
  have hp := pw_le (b := t.bits) (by omega) (by omega)
  omega
theorem owner_1_ok (d : Nat) (σ : AHeap) (t : ThingD) (b : Nat) (slot : Int) (ht : nodeOk t) (hb : b < σ.n) (hl : σ.loadN b 0 1 = some [i64 slot]) :
    acall (ofProg Tryz.prog) 1000 (d + 2) 225 [thingV t, here b 0] σ = some (.bool (hasB t slot), σ) := by
  refine acall_flat e_state_State_owner_1 (by simp) rfl ?_
  have hl' : ∀ L, (σ.fresh.grow L).loadN b 0 1 = some [i64 slot] := fun L => (load_old σ.fresh L 0 1 hb).trans hl
  have hh := fun τ => state_has_ok d τ t slot ht
  simp (disch := omega) only [hl', hh, r0_state_State_owner_1, r1_state_State_owner_1, k0_state_State_owner_1, c_state_State_owner_1, Z0, Z1, Z2, Z3, Z4, Z5, Z6, Z7, Z8, Z9, Z10, resAll, Nat.reduceAdd, Nat.reduceEqDiff, Nat.reduceLeDiff, Nat.reduceMul, ↓reduceIte, reduceCtorEq, Nat.reduceBEq, aoper, Nat.reduceLT, Int.reduceEq, Int.reduceLT, Int.reduceLE]
def ownI (S : StD) (slot : Int) : Int := firstI (fun t => hasB t slot) S.th 0
theorem IndexFunc_owner_ok (d : Nat) (σ : AHeap) (S : StD) (a2 : Option Addr) (f2 : Nat) (b : Nat) (slot : Int) (hm : S.th.length < 1000) (hT : ∀ (i : Nat) (x : ThingD), S.th[i]? = some x → nodeOk x) (h2 : SlT σ a2 S.th) (hb : b < σ.n) (hl : σ.loadN b 0 1 = some [i64 slot]) :
    acall (ofProg Tryz.prog) 1000 (d + 3) 224 [.slice a2 S.th.length f2, .func (.func 225) [].toArray [here b 0].toArray] σ = some (i64 (ownI S slot), σ) := by
  refine acall_flat e_slices_IndexFunc_thing_Thing_thing_Thing (by simp) rfl ?_
  simp (disch := omega) only [r0_slices_IndexFunc_thing_Thing_thing_Thing, r1_slices_IndexFunc_thing_Thing_thing_Thing, r2_slices_IndexFunc_thing_Thing_thing_Thing, r3_slices_IndexFunc_thing_Thing_thing_Thing, r4_slices_IndexFunc_thing_Thing_thing_Thing, r5_slices_IndexFunc_thing_Thing_thing_Thing, k5_slices_IndexFunc_thing_Thing_thing_Thing, k4_slices_IndexFunc_thing_Thing_thing_Thing, r6_slices_IndexFunc_thing_Thing_thing_Thing, k6_slices_IndexFunc_thing_Thing_thing_Thing, k3_slices_IndexFunc_thing_Thing_thing_Thing, k2_slices_IndexFunc_thing_Thing_thing_Thing, k1_slices_IndexFunc_thing_Thing_thing_Thing, r7_slices_IndexFunc_thing_Thing_thing_Thing, k7_slices_IndexFunc_thing_Thing_thing_Thing, k0_slices_IndexFunc_thing_Thing_thing_Thing, c_slices_IndexFunc_thing_Thing_thing_Thing, Z0, Z1, Z2, Z3, Z4, Z5, Z6, Z7, Z8, Z9, Z10, resAll, Nat.reduceAdd, Nat.reduceEqDiff, Nat.reduceLeDiff, Nat.reduceMul, ↓reduceIte, reduceCtorEq, Nat.reduceBEq, aoper, Nat.reduceLT, Int.reduceEq, Int.reduceLT, Int.reduceLE]
  refine ends_loop (fun i t τ => tget t 6 = .slice a2 S.th.length f2 ∧ tget t 0 = .slice a2 S.th.length f2 ∧ tget t 1 = .func (.func 225) [].toArray [here b 0].toArray ∧ tget t 7 = i64 S.th.length ∧ tget t 8 = i64 i ∧ Keeps σ.fresh τ ∧ ∀ (j : Nat) (y : ThingD), j < i → S.th[j]? = some y → hasB y slot = false)
    S.th.length hm ⟨?_, ?_, ?_, ?_, ?_, Keeps.self _ _, fun j y h => by omega⟩ ?_
  iterate 5 simp (disch := omega) only [Int.natCast_zero, Int.ofNat_zero, r0_slices_IndexFunc_thing_Thing_thing_Thing, r1_slices_IndexFunc_thing_Thing_thing_Thing, r2_slices_IndexFunc_thing_Thing_thing_Thing, r3_slices_IndexFunc_thing_Thing_thing_Thing, r4_slices_IndexFunc_thing_Thing_thing_Thing, r5_slices_IndexFunc_thing_Thing_thing_Thing, k5_slices_IndexFunc_thing_Thing_thing_Thing, k4_slices_IndexFunc_thing_Thing_thing_Thing, r6_slices_IndexFunc_thing_Thing_thing_Thing, k6_slices_IndexFunc_thing_Thing_thing_Thing, k3_slices_IndexFunc_thing_Thing_thing_Thing, k2_slices_IndexFunc_thing_Thing_thing_Thing, k1_slices_IndexFunc_thing_Thing_thing_Thing, r7_slices_IndexFunc_thing_Thing_thing_Thing, k7_slices_IndexFunc_thing_Thing_thing_Thing, k0_slices_IndexFunc_thing_Thing_thing_Thing, c_slices_IndexFunc_thing_Thing_thing_Thing, Z0, Z1, Z2, Z3, Z4, Z5, Z6, Z7, Z8, Z9, Z10, resAll, Nat.reduceAdd, Nat.reduceEqDiff, Nat.reduceLeDiff, Nat.reduceMul, ↓reduceIte, reduceCtorEq, Nat.reduceBEq, aoper, Nat.reduceLT, Int.reduceEq, Int.reduceLT, Int.reduceLE]
  rintro i t τ hi ⟨t6, t0, t1, t7, t8, hk, hall⟩
  rw [← grow_nil τ]
  by_cases hlt : i < S.th.length
  · obtain ⟨b2, rfl, hb2⟩ := h2.fresh.at hlt
    have hx : S.th[i]? = some S.th[i] := List.getElem?_eq_getElem hlt
    generalize S.th[i] = x at hx
    have hl13 := fun L => hb2.ld0 hk hx L 13 (by omega)
    simp only [List.take_succ_cons, List.take_zero] at hl13
    have hlt' : (i : Int) < (S.th.length : Int) := by omega
    have hcast : ((i + 1 : Nat) : Int) = (i : Int) + 1 := by omega
    have hown := fun L => owner_1_ok d (τ.grow L) x b slot (hT i x hx) (Nat.lt_of_lt_of_le hb (hk.grow L).n) (by rw [(hk.grow L).load _ _ hb]; exact hl)
    cases g : hasB x slot with
    | true =>
      have hr : ownI S slot = i := by unfold ownI; rw [firstI_at (p := fun t => hasB t slot) hall hx g]; simp
      simp (disch := omega) only [t6, t0, t1, t7, t8, hl13, hlt', Int.toNat_natCast, hown, g, hr, hk.low, r0_slices_IndexFunc_thing_Thing_thing_Thing, r1_slices_IndexFunc_thing_Thing_thing_Thing, r2_slices_IndexFunc_thing_Thing_thing_Thing, r3_slices_IndexFunc_thing_Thing_thing_Thing, r4_slices_IndexFunc_thing_Thing_thing_Thing, r5_slices_IndexFunc_thing_Thing_thing_Thing, k5_slices_IndexFunc_thing_Thing_thing_Thing, k4_slices_IndexFunc_thing_Thing_thing_Thing, r6_slices_IndexFunc_thing_Thing_thing_Thing, k6_slices_IndexFunc_thing_Thing_thing_Thing, k3_slices_IndexFunc_thing_Thing_thing_Thing, k2_slices_IndexFunc_thing_Thing_thing_Thing, k1_slices_IndexFunc_thing_Thing_thing_Thing, r7_slices_IndexFunc_thing_Thing_thing_Thing, k7_slices_IndexFunc_thing_Thing_thing_Thing, k0_slices_IndexFunc_thing_Thing_thing_Thing, b0_slices_IndexFunc_thing_Thing_thing_Thing, Z0, Z1, Z2, Z3, Z4, Z5, Z6, Z7, Z8, Z9, Z10, resAll, Nat.reduceAdd, Nat.reduceEqDiff, Nat.reduceLeDiff, Nat.reduceMul, ↓reduceIte, reduceCtorEq, Nat.reduceBEq, aoper, Nat.reduceLT, Int.reduceEq, Int.reduceLT, Int.reduceLE]
    | false =>
      simp (disch := omega) only [t6, t0, t1, t7, t8, hl13, hlt', hlt, hcast, Int.toNat_natCast, hown, g, hk.grow, r0_slices_IndexFunc_thing_Thing_thing_Thing, r1_slices_IndexFunc_thing_Thing_thing_Thing, r2_slices_IndexFunc_thing_Thing_thing_Thing, r3_slices_IndexFunc_thing_Thing_thing_Thing, r4_slices_IndexFunc_thing_Thing_thing_Thing, r5_slices_IndexFunc_thing_Thing_thing_Thing, k5_slices_IndexFunc_thing_Thing_thing_Thing, k4_slices_IndexFunc_thing_Thing_thing_Thing, r6_slices_IndexFunc_thing_Thing_thing_Thing, k6_slices_IndexFunc_thing_Thing_thing_Thing, k3_slices_IndexFunc_thing_Thing_thing_Thing, k2_slices_IndexFunc_thing_Thing_thing_Thing, k1_slices_IndexFunc_thing_Thing_thing_Thing, r7_slices_IndexFunc_thing_Thing_thing_Thing, k7_slices_IndexFunc_thing_Thing_thing_Thing, k0_slices_IndexFunc_thing_Thing_thing_Thing, b0_slices_IndexFunc_thing_Thing_thing_Thing, Z0, Z1, Z2, Z3, Z4, Z5, Z6, Z7, Z8, Z9, Z10, resAll, Nat.reduceAdd, Nat.reduceEqDiff, Nat.reduceLeDiff, Nat.reduceMul, ↓reduceIte, reduceCtorEq, Nat.reduceBEq, aoper, Nat.reduceLT, Int.reduceEq, Int.reduceLT, Int.reduceLE]
      intro j y hj hy
      by_cases hji : j < i
      · exact hall j y hji hy
      · have : j = i := by omega
        subst this
        rw [hx] at hy; cases hy; exact g
  · have hlt' : ¬ (i : Int) < (S.th.length : Int) := by omega
    have hr : ownI S slot = -1 := firstI_none fun j y hy => hall j y (by have := (List.getElem?_eq_some_iff.1 hy).1; omega) hy
    simp (disch := omega) only [t6, t0, t1, t7, t8, hlt', hr, hk.low, r0_slices_IndexFunc_thing_Thing_thing_Thing, r1_slices_IndexFunc_thing_Thing_thing_Thing, r2_slices_IndexFunc_thing_Thing_thing_Thing, r3_slices_IndexFunc_thing_Thing_thing_Thing, r4_slices_IndexFunc_thing_Thing_thing_Thing, r5_slices_IndexFunc_thing_Thing_thing_Thing, k5_slices_IndexFunc_thing_Thing_thing_Thing, k4_slices_IndexFunc_thing_Thing_thing_Thing, r6_slices_IndexFunc_thing_Thing_thing_Thing, k6_slices_IndexFunc_thing_Thing_thing_Thing, k3_slices_IndexFunc_thing_Thing_thing_Thing, k2_slices_IndexFunc_thing_Thing_thing_Thing, k1_slices_IndexFunc_thing_Thing_thing_Thing, r7_slices_IndexFunc_thing_Thing_thing_Thing, k7_slices_IndexFunc_thing_Thing_thing_Thing, k0_slices_IndexFunc_thing_Thing_thing_Thing, b0_slices_IndexFunc_thing_Thing_thing_Thing, Z0, Z1, Z2, Z3, Z4, Z5, Z6, Z7, Z8, Z9, Z10, resAll, Nat.reduceAdd, Nat.reduceEqDiff, Nat.reduceLeDiff, Nat.reduceMul, ↓reduceIte, reduceCtorEq, Nat.reduceBEq, aoper, Nat.reduceLT, Int.reduceEq, Int.reduceLT, Int.reduceLE]
theorem state_owner_ok (d : Nat) (σ : AHeap) (S : StD) (a1 : Option Addr) (f1 : Nat) (a2 : Option Addr) (f2 : Nat) (slot : Int) (hm : S.th.length < 1000) (hT : ∀ (i : Nat) (x : ThingD), S.th[i]? = some x → nodeOk x) (h2 : SlT σ a2 S.th) :
    acall (ofProg Tryz.prog) 1000 (d + 4) 186 [stV S a1 f1 a2 f2, .int .i64 slot] σ = some (i64 (ownI S slot), σ) := by
  refine acall_flat e_state_owner (by simp) rfl ?_
  have hi := IndexFunc_owner_ok d (σ.fresh.grow [(stL S a1 f1 a2 f2, 5), ([i64 slot], 1)]) S a2 f2 (σ.fresh.n + 1) slot hm hT (h2.fresh.grow _) (by rw [grow_n]; simp) (by rw [ld_1]; rfl)
  simp (disch := omega) only [hi, r0_state_owner, r1_state_owner, k0_state_owner, c_state_owner, Z0, Z1, Z2, Z3, Z4, Z5, Z6, Z7, Z8, Z9, Z10, resAll, Nat.reduceAdd, Nat.reduceEqDiff, Nat.reduceLeDiff, Nat.reduceMul, ↓reduceIte, reduceCtorEq, Nat.reduceBEq, aoper, Nat.reduceLT, Int.reduceEq, Int.reduceLT, Int.reduceLE]
end Go.Proofs.YtidmcpkbcphpiaaGreat
namespace Go.Proofs.YtidmcpkbcphpiaaGreat
open Go Go.Hai
set_option maxRecDepth 20000
set_option linter.unusedSimpArgs false
set_option maxHeartbeats 4000000
attribute [local irreducible] Hai.Ends EndsR EndsO EndsD AHeap.grow
def r0_state_within : List AOper := [(.mk (some 3) none (.box 5 (.tmp 0)))]
def r1_state_within : List AOper := [(.mk (some 8) none (.mv (.tmp 2))), (.mk (some 9) none (.mv (.tmp 1))), (.mk (some 10) none (.lookup .i64 (.bool false) (.tmp 8) (.tmp 9) false))]
def k1_state_within : ACode := (.cond (.tmp 10) .ret .skip)
def r2_state_within : List AOper := [(.mk (some 11) none (.mv (.tmp 2))), (.mk (some 12) none (.mv (.tmp 1))), (.mk none none (.mupd .i64 (.tmp 11) (.tmp 12) (.const (.bool true))))]
def r3_state_within : List AOper := [(.mk (some 13) none (.fldA 3 (.tmp 3))), (.mk (some 14) none (.load false 1 (.tmp 13))), (.mk (some 15) none (.lenS (.tmp 14))), (.mk (some 16) none (.mv (.const (.int .i64 0))))]
def r4_state_within : List AOper := [(.mk (some 17) none (.bin .lss (.tmp 16) (.tmp 15)))]
def r5_state_within : List AOper := [(.mk (some 18) none (.mv (.tmp 16))), (.mk (some 19) none (.idxA 5 (.tmp 14) (.tmp 16))), (.mk (some 20) none (.load true 5 (.tmp 19))), (.mk (some 7) none (.alloc [(.int .i64 0), (.int .i64 0), (.int .i64 0), (.int .i64 0), (.int .i64 0)] 5)), (.mk (some 6) none (.mv (.tmp 18))), (.mk none none (.store 5 (.tmp 7) (.tmp 20)))]
def r6_state_within : List AOper := [(.mk (some 21) none (.fldA 0 (.tmp 7))), (.mk (some 22) none (.fldA 0 (.tmp 21))), (.mk (some 23) none (.load false 1 (.tmp 22))), (.mk (some 24) none (.bin .eql (.tmp 23) (.const (.int .i64 2)))), (.mk (some 25) none (.mv (.tmp 24))), (.mk (some 26) (some (25, true)) (.fldA 4 (.tmp 3))), (.mk (some 27) (some (25, true)) (.load false 1 (.tmp 26))), (.mk (some 28) (some (25, true)) (.mv (.tmp 1))), (.mk (some 29) (some (25, true)) (.idxA 13 (.tmp 27) (.tmp 28))), (.mk (some 30) (some (25, true)) (.load true 13 (.tmp 29))), (.mk (some 31) (some (25, true)) (.mv (.tmp 6))), (.mk (some 32) (some (25, true)) (.call 223 [(.tmp 30), (.tmp 31)])), (.mk (some 33) none (.pick (.tmp 25) (.tmp 32) (.const (.bool false)))), (.mk (some 34) none (.mv (.tmp 33))), (.mk (some 35) (some (34, true)) (.load true 5 (.tmp 3))), (.mk (some 36) (some (34, true)) (.fldA 0 (.tmp 7))), (.mk (some 37) (some (34, true)) (.fldA 1 (.tmp 36))), (.mk (some 38) (some (34, true)) (.load false 1 (.tmp 37))), (.mk (some 39) (some (34, true)) (.call 121 [(.tmp 35), (.tmp 38)])), (.mk (some 40) none (.pick (.tmp 34) (.tmp 39) (.const (.bool false))))]
def r7_state_within : List AOper := [(.mk (some 41) none (.load true 5 (.tmp 3))), (.mk (some 42) none (.fldA 0 (.tmp 7))), (.mk (some 43) none (.fldA 1 (.tmp 42))), (.mk (some 44) none (.load false 1 (.tmp 43))), (.mk (some 45) none (.mv (.tmp 2))), (.mk (some 46) none (.call 185 [(.tmp 41), (.tmp 44), (.tmp 45)]))]
def k8_state_within : ACode := (.cond (.tmp 40) (.reg r7_state_within) .skip)
def k7_state_within : ACode := (.seq (.reg r6_state_within) k8_state_within)
def r8_state_within : List AOper := [(.mk (some 47) none (.bin .add (.tmp 16) (.const (.int .i64 1)))), (.mk (some 16) none (.mv (.tmp 47)))]
def k9_state_within : ACode := (.reg r8_state_within)
def k6_state_within : ACode := (.seq (.block 1 (.seq (.reg r5_state_within) k7_state_within)) k9_state_within)
def k5_state_within : ACode := (.seq (.cond (.tmp 17) .skip (.exit 0)) k6_state_within)
def b0_state_within : ACode := (.seq (.reg r4_state_within) k5_state_within)
def k4_state_within : ACode := (.block 0 (.loop b0_state_within))
def k3_state_within : ACode := (.seq (.reg r3_state_within) k4_state_within)
def k2_state_within : ACode := (.seq (.reg r2_state_within) k3_state_within)
def k0_state_within : ACode := (.seq (.seq (.reg r1_state_within) k1_state_within) k2_state_within)
def c_state_within : ACode := (.seq (.reg r0_state_within) k0_state_within)
theorem e_state_within : ofProg Tryz.prog 185 = some ⟨48, [], c_state_within⟩ := by kernel_rfl
def goesB (S : StD) (node : Int) (j : Nat) (x : SlotD) : Bool := decide (x.type = 2) && (match atI S.th node with | some t => hasB t j | none => false) && thereB S x.thing
def wTo (S : StD) (rec' : Int → List Int → List Int) (node : Int) (V : List Int) : Nat → List Int
  | 0 => V
  | j + 1 => match S.sl[j]? with
    | some x => if goesB S node j x then rec' x.thing (wTo S rec' node V j) else wTo S rec' node V j
    | none => wTo S rec' node V j
def wIn (S : StD) : Nat → Int → List Int → List Int
  | 0, _, V => V
  | k + 1, node, V => if V.contains node then V else wTo S (wIn S k) node (V ++ [node]) S.sl.length
def Vis (S : StD) (V : List Int) : Prop := V.Nodup ∧ ∀ n ∈ V, thereB S n = true
theorem there_some {S : StD} {n : Int} (h : thereB S n = true) : ∃ t, atI S.th n = some t ∧ S.th[n.toNat]? = some t ∧ 0 ≤ n ∧ n < S.th.length := by
  by_cases q : 0 ≤ n ∧ n < S.th.length
  · obtain ⟨t, e1, e2⟩ := atI_some q.1 q.2
    exact ⟨t, e1, e2, q.1, q.2⟩
  · unfold thereB at h
    rw [atI_none q] at h
    cases h
theorem Vis.few {S : StD} {V : List Int} (h : Vis S V) : V.length ≤ S.th.length := Hai.few _ V h.1 fun x hx => by
  obtain ⟨t, _, _, h1, h2⟩ := there_some (h.2 x hx)
  exact ⟨h1, h2⟩
theorem Vis.snoc {S : StD} {V : List Int} (h : Vis S V) {n : Int} (hn : thereB S n = true) (hc : V.contains n = false) : Vis S (V ++ [n]) := by
  refine ⟨?_, fun x hx => ?_⟩
  · rw [List.nodup_append]
    refine ⟨h.1, by simp, fun a ha b hb => ?_⟩
    simp at hb
    subst hb
    rintro rfl
    rw [List.contains_iff_mem.2 ha] at hc
    cases hc
  · rcases List.mem_append.1 hx with hx | hx
    · exact h.2 x hx
    · simp at hx; subst hx; exact hn
theorem state_within_ok (S : StD) (a1 : Option Addr) (f1 : Nat) (a2 : Option Addr) (f2 : Nat) (hn : S.sl.length < 1000) (hT : ∀ (i : Nat) (x : ThingD), S.th[i]? = some x → nodeOk x) (d m : Nat) :
    ∀ (k : Nat) (σ : AHeap) (node : Int) (V : List Int), SlS σ a1 S.sl → SlT σ a2 S.th → m < σ.n → σ.low ≤ σ.n → MapHas σ m V → Vis S V → thereB S node = true → S.th.length < k + V.length →
    ∃ τ, acall (ofProg Tryz.prog) 1000 (d + k + 2) 185 [stV S a1 f1 a2 f2, .int .i64 node, .map (some m)] σ = some (.tuple #[], τ) ∧ MapHas τ m (wIn S k node V) ∧ WM m σ τ ∧ Vis S (wIn S k node V) ∧ V.length ≤ (wIn S k node V).length := by
  intro k
  induction k with
  | zero => intro σ node V _ _ _ _ _ hV _ hk; have := hV.few; omega
  | succ k ih =>
    intro σ node V h1 h2 hmn hlo hmap hV hnode hk
    obtain ⟨nt, n1, n2, n3, n4⟩ := there_some hnode
    have hmapg : ∀ L, MapHas (σ.fresh.grow L) m V := fun L => hmap.keeps (grow_old σ.fresh L hmn)
    have hlk := fun L n => lkO_ok (hmapg L) n
    cases hc : V.contains node with
    | true =>
      have hw : wIn S (k + 1) node V = V := by simp only [wIn, hc, if_true]
      rw [hw]
      refine ⟨σ, ?_, hmap, WM.refl _ _, hV, Nat.le_refl _⟩
      refine acall_flat e_state_within (by simp) rfl ?_
      simp (disch := omega) only [hlk, hc, r0_state_within, r1_state_within, k1_state_within, r2_state_within, r3_state_within, r4_state_within, r5_state_within, r6_state_within, r7_state_within, k8_state_within, k7_state_within, r8_state_within, k9_state_within, k6_state_within, k5_state_within, k4_state_within, k3_state_within, k2_state_within, k0_state_within, c_state_within, Z0, Z1, Z2, Z3, Z4, Z5, Z6, Z7, Z8, Z9, Z10, resAll, Nat.reduceAdd, Nat.reduceEqDiff, Nat.reduceLeDiff, Nat.reduceMul, ↓reduceIte, reduceCtorEq, Nat.reduceBEq, aoper, Nat.reduceLT, Int.reduceEq, Int.reduceLT, Int.reduceLE]
      rfl
    | false =>
      have hw : wIn S (k + 1) node V = wTo S (wIn S k) node (V ++ [node]) S.sl.length := by simp only [wIn, hc]; rfl
      rw [hw]
      have hV0 := hV.snoc hnode hc
      have hl0 : (V ++ [node]).length = V.length + 1 := by simp
      suffices hs : Hai.Ends (acode (acall (ofProg Tryz.prog) 1000 (d + k + 2)) 1000 c_state_within (Tr.of [stV S a1 f1 a2 f2, .int .i64 node, .map (some m)]) (σ.fresh.grow []))
          (finE [] fun v τ => v = .tuple #[] ∧ MapHas τ m (wTo S (wIn S k) node (V ++ [node]) S.sl.length) ∧ WM m σ.fresh τ ∧ Vis S (wTo S (wIn S k) node (V ++ [node]) S.sl.length) ∧ V.length ≤ (wTo S (wIn S k) node (V ++ [node]) S.sl.length).length ∧ τ.low = m) by
        obtain ⟨v, τ', e, τ, ⟨rfl, r1, r2, r3, r4, r5⟩, g⟩ := acall_eff e_state_within (by simp) hs
        rcases g with ⟨g1, _, _⟩ | rfl
        · omega
        · refine ⟨_, e, r1, ⟨r2.n, .inr (by rw [r5]; rfl), r2.dead, r2.row⟩, r3, r4⟩
      obtain ⟨τ1, u1, u2, u3, u4, u5⟩ := muO_ok (hmapg [(stL S a1 f1 a2 f2, 5)]) hc
      simp (disch := omega) only [hlk, hc, u1, r0_state_within, r1_state_within, r2_state_within, r3_state_within, r4_state_within, r5_state_within, r6_state_within, r7_state_within, r8_state_within, k0_state_within, k1_state_within, k2_state_within, c_state_within, Z0, Z1, Z2, Z3, Z4, Z5, Z6, Z7, Z8, Z9, Z10, resAll, Nat.reduceAdd, Nat.reduceEqDiff, Nat.reduceLeDiff, Nat.reduceMul, ↓reduceIte, reduceCtorEq, Nat.reduceBEq, aoper, Nat.reduceLT, Int.reduceEq, Int.reduceLT, Int.reduceLE]
      have hm1 : minN σ.n m = m := by rw [minN_min]; omega
      rw [grow_low, fresh_low, hm1] at u5
      rw [← grow_nil τ1]
      have hlow1 : τ1.low ≤ τ1.n := by rw [u5, u4, grow_n]; exact Nat.le_trans (Nat.le_of_lt hmn) (Nat.le_add_right _ _)
      have hfn : σ.fresh.n = σ.n := rfl
      have hbx : ∀ τ, WM m (σ.fresh.grow [(stL S a1 f1 a2 f2, 5)]) τ → ∀ L o n, (τ.grow L).loadN σ.fresh.n o n = sliceL (stL S a1 f1 a2 f2) o n := fun τ w L o n => by
        rw [(w.grow L).load _ _ (by rw [grow_n]; simp) (by omega), ld_0]
      have hbox := hbx τ1 u3
      simp (disch := omega) only [hbox, r0_state_within, r1_state_within, r2_state_within, r3_state_within, r4_state_within, r5_state_within, r6_state_within, r7_state_within, r8_state_within, k3_state_within, Z0, Z1, Z2, Z3, Z4, Z5, Z6, Z7, Z8, Z9, Z10, resAll, Nat.reduceAdd, Nat.reduceEqDiff, Nat.reduceLeDiff, Nat.reduceMul, ↓reduceIte, reduceCtorEq, Nat.reduceBEq, aoper, Nat.reduceLT, Int.reduceEq, Int.reduceLT, Int.reduceLE]
      simp only [k4_state_within, ends_block]
      refine ends_loop (fun j t τ => tget t 14 = .slice a1 S.sl.length f1 ∧ tget t 15 = i64 S.sl.length ∧ tget t 16 = i64 j ∧ tget t 3 = here σ.fresh.n 0 ∧ tget t 1 = i64 node ∧ tget t 2 = .map (some m) ∧
          WM m (σ.fresh.grow [(stL S a1 f1 a2 f2, 5)]) τ ∧ τ.low = m ∧ MapHas τ m (wTo S (wIn S k) node (V ++ [node]) j) ∧ Vis S (wTo S (wIn S k) node (V ++ [node]) j) ∧ V.length + 1 ≤ (wTo S (wIn S k) node (V ++ [node]) j).length)
        S.sl.length hn ⟨?_, ?_, ?_, ?_, ?_, ?_, u3.grow [], by rw [grow_low]; exact u5, by rw [grow_nil]; exact u2, hV0, by rw [wTo, hl0]; exact Nat.le_refl _⟩ ?_
      iterate 6 simp (disch := omega) only [Int.natCast_zero, Int.ofNat_zero, r0_state_within, r1_state_within, k1_state_within, r2_state_within, r3_state_within, r4_state_within, r5_state_within, r6_state_within, r7_state_within, k8_state_within, k7_state_within, r8_state_within, k9_state_within, k6_state_within, k5_state_within, k4_state_within, k3_state_within, k2_state_within, k0_state_within, c_state_within, Z0, Z1, Z2, Z3, Z4, Z5, Z6, Z7, Z8, Z9, Z10, resAll, Nat.reduceAdd, Nat.reduceEqDiff, Nat.reduceLeDiff, Nat.reduceMul, ↓reduceIte, reduceCtorEq, Nat.reduceBEq, aoper, Nat.reduceLT, Int.reduceEq, Int.reduceLT, Int.reduceLE]
      rintro j t τ hj ⟨t14, t15, t16, t3, t1, t2, hwm, hlo', hmap', hvis, hlen⟩
      rw [← grow_nil τ]
      have hlow : τ.low ≤ τ.n := by have := hwm.n; rw [grow_n] at this; omega
      have hboxt := hbx τ hwm
      have h1τ : SlS τ a1 S.sl := (h1.fresh.grow _).wm (hmapg _) hwm
      have h2τ : SlT τ a2 S.th := (h2.fresh.grow _).wm (hmapg _) hwm
      by_cases hlt : j < S.sl.length
      · obtain ⟨b, rfl, hb⟩ := h1τ.at hlt
        have hx : S.sl[j]? = some S.sl[j] := List.getElem?_eq_getElem hlt
        generalize S.sl[j] = x at hx
        have hl := fun L => hb.ld0 (Keeps.refl τ) hx L 5 (by omega)
        simp only [List.take_succ_cons, List.take_zero] at hl
        have hlt' : (j : Int) < (S.sl.length : Int) := by omega
        have hcast : ((j + 1 : Nat) : Int) = (j : Int) + 1 := by omega
        obtain ⟨b2, rfl, hb2⟩ := h2τ.at (i := node.toNat) (by omega)
        have hl2 := fun L => hb2.ld0 (Keeps.refl τ) n2 L 13 (by omega)
        simp only [List.take_succ_cons, List.take_zero] at hl2
        have hhas := fun L => state_has_ok (d + k + 1) (τ.grow L) nt j (hT _ nt n2)
        have hth := fun L n => state_there_ok (d + k + 1) (τ.grow L) S (some ⟨b, 0, none⟩) f1 (some ⟨b2, 0, none⟩) f2 n (h2τ.grow L)
        have hmg : ∀ L, MapHas (τ.grow L) m (wTo S (wIn S k) node (V ++ [node]) j) := fun L => hmap'.keeps (grow_old τ L (by have := hwm.n; rw [grow_n] at this; omega))
        have hg : goesB S node j x = (decide (x.type = 2) && hasB nt j && thereB S x.thing) := by unfold goesB; rw [n1]
        cases hgo : goesB S node j x with
        | false =>
          have hw' : wTo S (wIn S k) node (V ++ [node]) (j + 1) = wTo S (wIn S k) node (V ++ [node]) j := by simp [wTo, hx, hgo]
          rw [hg] at hgo
          have ins := fun L => And.intro (hwm.grow L) (And.intro (hmg L) (And.intro hvis hlen))
          by_cases g1 : x.type = 2
          · cases g2 : hasB nt j with
            | false => simp (disch := omega) only [t14, t15, t16, t3, t1, t2, hboxt, hl, hl2, hlt', hlt, hcast, n3, n4, Int.toNat_natCast, hhas, sto_0 hlow, eq_true g1, g2, hw', hlo', hwm.grow, hmg, hvis, hlen, r0_state_within, r1_state_within, k1_state_within, r2_state_within, r3_state_within, r4_state_within, r5_state_within, r6_state_within, r7_state_within, k8_state_within, k7_state_within, r8_state_within, k9_state_within, k6_state_within, k5_state_within, k4_state_within, k3_state_within, k2_state_within, k0_state_within, b0_state_within, Z0, Z1, Z2, Z3, Z4, Z5, Z6, Z7, Z8, Z9, Z10, resAll, Nat.reduceAdd, Nat.reduceEqDiff, Nat.reduceLeDiff, Nat.reduceMul, ↓reduceIte, reduceCtorEq, Nat.reduceBEq, aoper, Nat.reduceLT, Int.reduceEq, Int.reduceLT, Int.reduceLE]
            | true =>
              have g3 : thereB S x.thing = false := by rw [g2] at hgo; simpa [g1] using hgo
              simp (disch := omega) only [t14, t15, t16, t3, t1, t2, hboxt, hl, hl2, hlt', hlt, hcast, n3, n4, Int.toNat_natCast, hhas, hth, sto_0 hlow, eq_true g1, g2, g3, hw', hlo', hwm.grow, hmg, hvis, hlen, r0_state_within, r1_state_within, k1_state_within, r2_state_within, r3_state_within, r4_state_within, r5_state_within, r6_state_within, r7_state_within, k8_state_within, k7_state_within, r8_state_within, k9_state_within, k6_state_within, k5_state_within, k4_state_within, k3_state_within, k2_state_within, k0_state_within, b0_state_within, Z0, Z1, Z2, Z3, Z4, Z5, Z6, Z7, Z8, Z9, Z10, resAll, Nat.reduceAdd, Nat.reduceEqDiff, Nat.reduceLeDiff, Nat.reduceMul, ↓reduceIte, reduceCtorEq, Nat.reduceBEq, aoper, Nat.reduceLT, Int.reduceEq, Int.reduceLT, Int.reduceLE]
          · simp (disch := omega) only [t14, t15, t16, t3, t1, t2, hboxt, hl, hlt', hlt, hcast, Int.toNat_natCast, sto_0 hlow, g1, hw', hlo', hwm.grow, hmg, hvis, hlen, r0_state_within, r1_state_within, k1_state_within, r2_state_within, r3_state_within, r4_state_within, r5_state_within, r6_state_within, r7_state_within, k8_state_within, k7_state_within, r8_state_within, k9_state_within, k6_state_within, k5_state_within, k4_state_within, k3_state_within, k2_state_within, k0_state_within, b0_state_within, Z0, Z1, Z2, Z3, Z4, Z5, Z6, Z7, Z8, Z9, Z10, resAll, Nat.reduceAdd, Nat.reduceEqDiff, Nat.reduceLeDiff, Nat.reduceMul, ↓reduceIte, reduceCtorEq, Nat.reduceBEq, aoper, Nat.reduceLT, Int.reduceEq, Int.reduceLT, Int.reduceLE]
        | true =>
          have hw' : wTo S (wIn S k) node (V ++ [node]) (j + 1) = wIn S k x.thing (wTo S (wIn S k) node (V ++ [node]) j) := by simp [wTo, hx, hgo]
          rw [hg] at hgo
          simp only [Bool.and_eq_true, decide_eq_true_eq] at hgo
          obtain ⟨⟨g1, g2⟩, g3⟩ := hgo
          obtain ⟨υ, e, v1, v2, v3, v4⟩ := ih (τ.grow [(slotL x, 5)]) x.thing (wTo S (wIn S k) node (V ++ [node]) j) (h1τ.grow _) (h2τ.grow _) (by rw [grow_n]; have := hwm.n; rw [grow_n] at this; omega) (low_grow hlow _) (hmg _) hvis g3 (by omega)
          have w' := (hwm.grow [(slotL x, 5)]).trans v2
          have lo' : υ.low = m := by
            have := v2.low
            rw [grow_low, hlo', minN_min] at this
            omega
          have v5 := Nat.le_trans hlen v4
          simp (disch := omega) only [t14, t15, t16, t3, t1, t2, hboxt, hl, hl2, hlt', hlt, hcast, n3, n4, Int.toNat_natCast, hhas, hth, sto_0 hlow, eq_true g1, g2, g3, e, hw', lo', w', v1, v3, v5, r0_state_within, r1_state_within, k1_state_within, r2_state_within, r3_state_within, r4_state_within, r5_state_within, r6_state_within, r7_state_within, k8_state_within, k7_state_within, r8_state_within, k9_state_within, k6_state_within, k5_state_within, k4_state_within, k3_state_within, k2_state_within, k0_state_within, b0_state_within, Z0, Z1, Z2, Z3, Z4, Z5, Z6, Z7, Z8, Z9, Z10, resAll, Nat.reduceAdd, Nat.reduceEqDiff, Nat.reduceLeDiff, Nat.reduceMul, ↓reduceIte, reduceCtorEq, Nat.reduceBEq, aoper, Nat.reduceLT, Int.reduceEq, Int.reduceLT, Int.reduceLE]
      · have hlt' : ¬ (j : Int) < (S.sl.length : Int) := by omega
        have hjj : j = S.sl.length := by omega
        subst hjj
        have hwf : WM m σ.fresh τ := (Keeps.self σ.fresh [(stL S a1 f1 a2 f2, 5)]).wm.trans hwm
        simp (disch := omega) only [t14, t15, t16, hlt', r0_state_within, r1_state_within, k1_state_within, r2_state_within, r3_state_within, r4_state_within, r5_state_within, r6_state_within, r7_state_within, k8_state_within, k7_state_within, r8_state_within, k9_state_within, k6_state_within, k5_state_within, k4_state_within, k3_state_within, k2_state_within, k0_state_within, b0_state_within, Z0, Z1, Z2, Z3, Z4, Z5, Z6, Z7, Z8, Z9, Z10, resAll, Nat.reduceAdd, Nat.reduceEqDiff, Nat.reduceLeDiff, Nat.reduceMul, ↓reduceIte, reduceCtorEq, Nat.reduceBEq, aoper, Nat.reduceLT, Int.reduceEq, Int.reduceLT, Int.reduceLE]
        rw [grow_nil]
        exact ⟨rfl, hmap', hwf, hvis, by omega, hlo'⟩
end Go.Proofs.YtidmcpkbcphpiaaGreat
namespace Go.Proofs.YtidmcpkbcphpiaaGreat
open Go Go.Hai
set_option maxRecDepth 20000
set_option linter.unusedSimpArgs false
set_option maxHeartbeats 4000000
attribute [local irreducible] Hai.Ends EndsR EndsO EndsD AHeap.grow
def r0_state_inside : List AOper := [(.mk (some 3) none (.box 5 (.tmp 0))), (.mk (some 6) none (.mv (.const (.bool false))))]
def r1_state_inside : List AOper := [(.mk (some 8) none (.load true 5 (.tmp 3))), (.mk (some 9) none (.mv (.tmp 1))), (.mk (some 10) none (.call 121 [(.tmp 8), (.tmp 9)])), (.mk (some 11) none (.un .not (.tmp 10))), (.mk (some 12) none (.mv (.tmp 11))), (.mk (some 13) (some (12, false)) (.fldA 4 (.tmp 3))), (.mk (some 14) (some (12, false)) (.load false 1 (.tmp 13))), (.mk (some 15) (some (12, false)) (.mv (.tmp 1))), (.mk (some 16) (some (12, false)) (.idxA 13 (.tmp 14) (.tmp 15))), (.mk (some 17) (some (12, false)) (.fldA 0 (.tmp 16))), (.mk (some 18) (some (12, false)) (.load false 1 (.tmp 17))), (.mk (some 19) (some (12, false)) (.bin .neq (.tmp 18) (.const (.int .i64 2)))), (.mk (some 20) none (.pick (.tmp 12) (.const (.bool true)) (.tmp 19)))]
def r2_state_inside : List AOper := [(.mk (some 6) none (.mv (.const (.bool false))))]
def k1_state_inside : ACode := (.cond (.tmp 20) (.seq (.reg r2_state_inside) .ret) .skip)
def r3_state_inside : List AOper := [(.mk (some 21) none .mkMap), (.mk (some 7) none (.mv (.tmp 21)))]
def r4_state_inside : List AOper := [(.mk (some 22) none (.load true 5 (.tmp 3))), (.mk (some 23) none (.mv (.tmp 1))), (.mk (some 24) none (.mv (.tmp 7))), (.mk (some 25) none (.call 185 [(.tmp 22), (.tmp 23), (.tmp 24)]))]
def r5_state_inside : List AOper := [(.mk (some 26) none (.mv (.tmp 7))), (.mk (some 27) none (.load true 5 (.tmp 3))), (.mk (some 28) none (.mv (.tmp 2))), (.mk (some 29) none (.call 186 [(.tmp 27), (.tmp 28)])), (.mk (some 30) none (.lookup .i64 (.bool false) (.tmp 26) (.tmp 29) false)), (.mk (some 6) none (.mv (.tmp 30)))]
def k4_state_inside : ACode := (.seq (.reg r5_state_inside) .ret)
def k3_state_inside : ACode := (.seq (.reg r4_state_inside) k4_state_inside)
def k2_state_inside : ACode := (.seq (.reg r3_state_inside) k3_state_inside)
def k0_state_inside : ACode := (.seq (.seq (.reg r1_state_inside) k1_state_inside) k2_state_inside)
def c_state_inside : ACode := (.seq (.reg r0_state_inside) k0_state_inside)
theorem e_state_inside : ofProg Tryz.prog 125 = some ⟨31, [(.tmp 6)], c_state_inside⟩ := by kernel_rfl
def r0_state_ring : List AOper := [(.mk (some 1) none (.box 5 (.tmp 0))), (.mk (some 2) none (.mv (.const (.bool false))))]
def r1_state_ring : List AOper := [(.mk (some 5) none (.fldA 3 (.tmp 1))), (.mk (some 6) none (.load false 1 (.tmp 5))), (.mk (some 7) none (.lenS (.tmp 6))), (.mk (some 8) none (.mv (.const (.int .i64 0))))]
def r2_state_ring : List AOper := [(.mk (some 9) none (.bin .lss (.tmp 8) (.tmp 7)))]
def r3_state_ring : List AOper := [(.mk (some 10) none (.mv (.tmp 8))), (.mk (some 11) none (.idxA 5 (.tmp 6) (.tmp 8))), (.mk (some 12) none (.load true 5 (.tmp 11))), (.mk (some 4) none (.alloc [(.int .i64 0), (.int .i64 0), (.int .i64 0), (.int .i64 0), (.int .i64 0)] 5)), (.mk (some 3) none (.mv (.tmp 10))), (.mk none none (.store 5 (.tmp 4) (.tmp 12)))]
def r4_state_ring : List AOper := [(.mk (some 13) none (.fldA 0 (.tmp 4))), (.mk (some 14) none (.fldA 0 (.tmp 13))), (.mk (some 15) none (.load false 1 (.tmp 14))), (.mk (some 16) none (.bin .eql (.tmp 15) (.const (.int .i64 2)))), (.mk (some 17) none (.mv (.tmp 16))), (.mk (some 18) (some (17, true)) (.load true 5 (.tmp 1))), (.mk (some 19) (some (17, true)) (.fldA 0 (.tmp 4))), (.mk (some 20) (some (17, true)) (.fldA 1 (.tmp 19))), (.mk (some 21) (some (17, true)) (.load false 1 (.tmp 20))), (.mk (some 22) (some (17, true)) (.mv (.tmp 3))), (.mk (some 23) (some (17, true)) (.call 125 [(.tmp 18), (.tmp 21), (.tmp 22)])), (.mk (some 24) none (.pick (.tmp 17) (.tmp 23) (.const (.bool false))))]
def r5_state_ring : List AOper := [(.mk (some 2) none (.mv (.const (.bool true))))]
def k5_state_ring : ACode := (.cond (.tmp 24) (.seq (.reg r5_state_ring) .ret) .skip)
def k4_state_ring : ACode := (.seq (.reg r4_state_ring) k5_state_ring)
def r6_state_ring : List AOper := [(.mk (some 25) none (.bin .add (.tmp 8) (.const (.int .i64 1)))), (.mk (some 8) none (.mv (.tmp 25)))]
def k6_state_ring : ACode := (.reg r6_state_ring)
def k3_state_ring : ACode := (.seq (.block 1 (.seq (.reg r3_state_ring) k4_state_ring)) k6_state_ring)
def k2_state_ring : ACode := (.seq (.cond (.tmp 9) .skip (.exit 0)) k3_state_ring)
def b0_state_ring : ACode := (.seq (.reg r2_state_ring) k2_state_ring)
def k1_state_ring : ACode := (.block 0 (.loop b0_state_ring))
def r7_state_ring : List AOper := [(.mk (some 2) none (.mv (.const (.bool false))))]
def k7_state_ring : ACode := (.seq (.reg r7_state_ring) .ret)
def k0_state_ring : ACode := (.seq (.seq (.reg r1_state_ring) k1_state_ring) k7_state_ring)
def c_state_ring : ACode := (.seq (.reg r0_state_ring) k0_state_ring)
theorem e_state_ring : ofProg Tryz.prog 60 = some ⟨26, [(.tmp 2)], c_state_ring⟩ := by kernel_rfl
def insideB (S : StD) (node slot : Int) : Bool := match atI S.th node with
  | some t => decide (t.type = 2) && (wIn S (S.th.length + 1) node []).contains (ownI S slot)
  | none => false
theorem state_inside_ok (d : Nat) (σ : AHeap) (S : StD) (a1 : Option Addr) (f1 : Nat) (a2 : Option Addr) (f2 : Nat) (node slot : Int) (hn : S.sl.length < 1000) (hm : S.th.length < 1000) (hT : ∀ (i : Nat) (x : ThingD), S.th[i]? = some x → nodeOk x)
    (h1 : SlS σ a1 S.sl) (h2 : SlT σ a2 S.th) :
    acall (ofProg Tryz.prog) 1000 (d + S.th.length + 6) 125 [stV S a1 f1 a2 f2, .int .i64 node, .int .i64 slot] σ = some (.bool (insideB S node slot), σ) := by
  refine acall_flat e_state_inside (by simp) rfl ?_
  have hth := fun L n => state_there_ok (d + S.th.length + 4) (σ.fresh.grow L) S a1 f1 a2 f2 n (h2.fresh.grow L)
  by_cases q : 0 ≤ node ∧ node < S.th.length
  · obtain ⟨nt, n1, n2⟩ := atI_some q.1 q.2
    have ht : thereB S node = !(decide (nt.type = 0)) := by unfold thereB; rw [n1]
    obtain ⟨b2, rfl, hb2⟩ := h2.fresh.at (i := node.toNat) (by omega)
    have hl2 := fun L => hb2.ld0 (Keeps.refl _) n2 L 1 (by omega)
    simp only [List.take_succ_cons, List.take_zero] at hl2
    by_cases g1 : nt.type = 2
    · have g0 : ¬ nt.type = 0 := by omega
      have hi : insideB S node slot = (wIn S (S.th.length + 1) node []).contains (ownI S slot) := by unfold insideB; rw [n1]; simp [g1]
      simp (disch := omega) only [hth, ht, g0, q.1, q.2, hl2, eq_true g1, r0_state_inside, r1_state_inside, r2_state_inside, r3_state_inside, r4_state_inside, r5_state_inside, c_state_inside, k0_state_inside, k1_state_inside, Z0, Z1, Z2, Z3, Z4, Z5, Z6, Z7, Z8, Z9, Z10, resAll, Nat.reduceAdd, Nat.reduceEqDiff, Nat.reduceLeDiff, Nat.reduceMul, ↓reduceIte, reduceCtorEq, Nat.reduceBEq, aoper, Nat.reduceLT, Int.reduceEq, Int.reduceLT, Int.reduceLE]
      obtain ⟨m1, m2⟩ := mapNew (σ.fresh.grow [(stL S a1 f1 (some ⟨b2, 0, none⟩) f2, 5)])
      generalize hτ : (σ.fresh.grow [(stL S a1 f1 (some ⟨b2, 0, none⟩) f2, 5)]).push (.obj (.map #[] 0)) = τ at m1 m2
      have hmn : (σ.fresh.grow [(stL S a1 f1 (some ⟨b2, 0, none⟩) f2, 5)]).n < τ.n := by rw [← hτ]; exact Nat.lt_succ_self _
      have hlow : τ.low ≤ τ.n := by rw [m2.low]; exact Nat.le_trans (low_grow fresh_le _) m2.n
      obtain ⟨υ, e, v1, v2, v3, v4⟩ := state_within_ok S a1 f1 (some ⟨b2, 0, none⟩) f2 hn hT (d + 2) _ (S.th.length + 1) τ node [] ((h1.fresh.grow _).keeps m2) ((h2.fresh.grow _).keeps m2) hmn hlow m1 ⟨List.nodup_nil, fun n h => by cases h⟩ (by rw [ht]; simp [g0]) (by simp)
      rw [show d + 2 + (S.th.length + 1) + 2 = d + S.th.length + 5 by omega] at e
      have h0n : σ.fresh.n < (σ.fresh.grow [(stL S a1 f1 (some ⟨b2, 0, none⟩) f2, 5)]).n := by rw [grow_n]; simp
      have hbτ : ∀ o n, τ.loadN σ.fresh.n o n = sliceL (stL S a1 f1 (some ⟨b2, 0, none⟩) f2) o n := fun o n => by rw [m2.load _ _ h0n, ld_0]
      have hbυ : ∀ o n, υ.loadN σ.fresh.n o n = sliceL (stL S a1 f1 (some ⟨b2, 0, none⟩) f2) o n := fun o n => by rw [v2.load _ _ (by omega) (by omega), hbτ]
      have hown := state_owner_ok (d + S.th.length + 1) υ S a1 f1 (some ⟨b2, 0, none⟩) f2 slot hm hT (((h2.fresh.grow _).keeps m2).wm m1 v2)
      have hlk := fun n => lkO_ok v1 n
      have hlo : υ.low = σ.n := by
        have := v2.low
        rw [m2.low, grow_low, fresh_low, minN_min] at this
        have h3 : σ.fresh.n = σ.n := rfl
        omega
      simp (disch := omega) only [hth, hτ, hbτ, e, hbυ, hown, hlk, hlo, hi, r0_state_inside, r1_state_inside, r2_state_inside, k1_state_inside, r3_state_inside, r4_state_inside, r5_state_inside, k4_state_inside, k3_state_inside, k2_state_inside, k0_state_inside, Z0, Z1, Z2, Z3, Z4, Z5, Z6, Z7, Z8, Z9, Z10, resAll, Nat.reduceAdd, Nat.reduceEqDiff, Nat.reduceLeDiff, Nat.reduceMul, ↓reduceIte, reduceCtorEq, Nat.reduceBEq, aoper, Nat.reduceLT, Int.reduceEq, Int.reduceLT, Int.reduceLE]
    · have hi : insideB S node slot = false := by unfold insideB; rw [n1]; simp [g1]
      by_cases g0 : nt.type = 0
      · simp (disch := omega) only [hth, ht, eq_true g0, q.1, q.2, hl2, hi, r0_state_inside, r1_state_inside, r2_state_inside, k1_state_inside, r3_state_inside, r4_state_inside, r5_state_inside, k4_state_inside, k3_state_inside, k2_state_inside, k0_state_inside, c_state_inside, Z0, Z1, Z2, Z3, Z4, Z5, Z6, Z7, Z8, Z9, Z10, resAll, Nat.reduceAdd, Nat.reduceEqDiff, Nat.reduceLeDiff, Nat.reduceMul, ↓reduceIte, reduceCtorEq, Nat.reduceBEq, aoper, Nat.reduceLT, Int.reduceEq, Int.reduceLT, Int.reduceLE]
      · simp (disch := omega) only [hth, ht, g0, q.1, q.2, hl2, g1, hi, r0_state_inside, r1_state_inside, r2_state_inside, k1_state_inside, r3_state_inside, r4_state_inside, r5_state_inside, k4_state_inside, k3_state_inside, k2_state_inside, k0_state_inside, c_state_inside, Z0, Z1, Z2, Z3, Z4, Z5, Z6, Z7, Z8, Z9, Z10, resAll, Nat.reduceAdd, Nat.reduceEqDiff, Nat.reduceLeDiff, Nat.reduceMul, ↓reduceIte, reduceCtorEq, Nat.reduceBEq, aoper, Nat.reduceLT, Int.reduceEq, Int.reduceLT, Int.reduceLE]
  · have n1 := atI_none (l := S.th) q
    have ht : thereB S node = false := by unfold thereB; rw [n1]
    have hi : insideB S node slot = false := by unfold insideB; rw [n1]
    simp (disch := omega) only [hth, ht, hi, r0_state_inside, r1_state_inside, r2_state_inside, k1_state_inside, r3_state_inside, r4_state_inside, r5_state_inside, k4_state_inside, k3_state_inside, k2_state_inside, k0_state_inside, c_state_inside, Z0, Z1, Z2, Z3, Z4, Z5, Z6, Z7, Z8, Z9, Z10, resAll, Nat.reduceAdd, Nat.reduceEqDiff, Nat.reduceLeDiff, Nat.reduceMul, ↓reduceIte, reduceCtorEq, Nat.reduceBEq, aoper, Nat.reduceLT, Int.reduceEq, Int.reduceLT, Int.reduceLE]
def ringB (S : StD) : Bool := !(allTo (fun i x => !(decide (x.type = 2) && insideB S x.thing i)) S.sl S.sl.length)
theorem state_ring_ok (d : Nat) (σ : AHeap) (S : StD) (a1 : Option Addr) (f1 : Nat) (a2 : Option Addr) (f2 : Nat) (hn : S.sl.length < 1000) (hm : S.th.length < 1000) (hT : ∀ (i : Nat) (x : ThingD), S.th[i]? = some x → nodeOk x)
    (h1 : SlS σ a1 S.sl) (h2 : SlT σ a2 S.th) :
    acall (ofProg Tryz.prog) 1000 (d + S.th.length + 7) 60 [stV S a1 f1 a2 f2] σ = some (.bool (ringB S), σ) := by
  refine acall_flat e_state_ring (by simp) rfl ?_
  simp (disch := omega) only [r0_state_ring, r1_state_ring, r2_state_ring, r3_state_ring, r4_state_ring, r5_state_ring, k5_state_ring, k4_state_ring, r6_state_ring, k6_state_ring, k3_state_ring, k2_state_ring, k1_state_ring, r7_state_ring, k7_state_ring, k0_state_ring, c_state_ring, Z0, Z1, Z2, Z3, Z4, Z5, Z6, Z7, Z8, Z9, Z10, resAll, Nat.reduceAdd, Nat.reduceEqDiff, Nat.reduceLeDiff, Nat.reduceMul, ↓reduceIte, reduceCtorEq, Nat.reduceBEq, aoper, Nat.reduceLT, Int.reduceEq, Int.reduceLT, Int.reduceLE]
  refine ends_loop (fun i t τ => tget t 6 = .slice a1 S.sl.length f1 ∧ tget t 7 = i64 S.sl.length ∧ tget t 8 = i64 i ∧ tget t 1 = here σ.fresh.n 0 ∧ Keeps (σ.fresh.grow [(stL S a1 f1 a2 f2, 5)]) τ ∧ allTo (fun i x => !(decide (x.type = 2) && insideB S x.thing i)) S.sl i = true)
    S.sl.length hn ⟨?_, ?_, ?_, ?_, Keeps.refl _, rfl⟩ ?_
  iterate 4 simp (disch := omega) only [Int.natCast_zero, Int.ofNat_zero, r0_state_ring, r1_state_ring, r2_state_ring, r3_state_ring, r4_state_ring, r5_state_ring, k5_state_ring, k4_state_ring, r6_state_ring, k6_state_ring, k3_state_ring, k2_state_ring, k1_state_ring, r7_state_ring, k7_state_ring, k0_state_ring, c_state_ring, Z0, Z1, Z2, Z3, Z4, Z5, Z6, Z7, Z8, Z9, Z10, resAll, Nat.reduceAdd, Nat.reduceEqDiff, Nat.reduceLeDiff, Nat.reduceMul, ↓reduceIte, reduceCtorEq, Nat.reduceBEq, aoper, Nat.reduceLT, Int.reduceEq, Int.reduceLT, Int.reduceLE]
  rintro i t τ hi ⟨t6, t7, t8, t1, hk, hall⟩
  rw [← grow_nil τ]
  have hlow : τ.low ≤ τ.n := by rw [hk.low]; exact Nat.le_trans (low_grow fresh_le _) hk.n
  have hbox := fun M o n => hk.own0 (r := stL S a1 f1 a2 f2) (e := 5) rfl M o n
  by_cases hlt : i < S.sl.length
  · obtain ⟨b, rfl, hb⟩ := h1.fresh.at hlt
    have hx : S.sl[i]? = some S.sl[i] := List.getElem?_eq_getElem hlt
    generalize S.sl[i] = x at hx
    have hl := fun L => hb.ld0 ((Keeps.self _ _).trans hk) hx L 5 (by omega)
    simp only [List.take_succ_cons, List.take_zero] at hl
    have hlt' : (i : Int) < (S.sl.length : Int) := by omega
    have hcast : ((i + 1 : Nat) : Int) = (i : Int) + 1 := by omega
    have hin := fun L => state_inside_ok d (τ.grow L) S (some ⟨b, 0, none⟩) f1 a2 f2 x.thing i hn hm hT ((h1.fresh.keeps ((Keeps.self _ _).trans hk)).grow L) ((h2.fresh.keeps ((Keeps.self _ _).trans hk)).grow L)
    by_cases g1 : x.type = 2
    · cases g2 : insideB S x.thing i with
      | true =>
        have hr : ringB S = true := by unfold ringB; rw [allTo_false hx (by simp [g1, g2]) _ hlt]; rfl
        simp (disch := omega) only [t6, t7, t8, t1, hbox, hl, hlt', hin, Int.toNat_natCast, sto_0 hlow, eq_true g1, g2, hr, hk.low, r0_state_ring, r1_state_ring, r2_state_ring, r3_state_ring, r4_state_ring, r5_state_ring, k5_state_ring, k4_state_ring, r6_state_ring, k6_state_ring, k3_state_ring, k2_state_ring, k1_state_ring, r7_state_ring, k7_state_ring, k0_state_ring, b0_state_ring, Z0, Z1, Z2, Z3, Z4, Z5, Z6, Z7, Z8, Z9, Z10, resAll, Nat.reduceAdd, Nat.reduceEqDiff, Nat.reduceLeDiff, Nat.reduceMul, ↓reduceIte, reduceCtorEq, Nat.reduceBEq, aoper, Nat.reduceLT, Int.reduceEq, Int.reduceLT, Int.reduceLE]
      | false =>
        simp (disch := omega) only [t6, t7, t8, t1, hbox, hl, hlt', hlt, hcast, hin, Int.toNat_natCast, sto_0 hlow, eq_true g1, g2, hk.grow, allTo_next (p := fun i x => !(decide (x.type = 2) && insideB S x.thing i)) hall hx (by simp [g2]), r0_state_ring, r1_state_ring, r2_state_ring, r3_state_ring, r4_state_ring, r5_state_ring, k5_state_ring, k4_state_ring, r6_state_ring, k6_state_ring, k3_state_ring, k2_state_ring, k1_state_ring, r7_state_ring, k7_state_ring, k0_state_ring, b0_state_ring, Z0, Z1, Z2, Z3, Z4, Z5, Z6, Z7, Z8, Z9, Z10, resAll, Nat.reduceAdd, Nat.reduceEqDiff, Nat.reduceLeDiff, Nat.reduceMul, ↓reduceIte, reduceCtorEq, Nat.reduceBEq, aoper, Nat.reduceLT, Int.reduceEq, Int.reduceLT, Int.reduceLE]
    · simp (disch := omega) only [t6, t7, t8, t1, hbox, hl, hlt', hlt, hcast, Int.toNat_natCast, sto_0 hlow, g1, hk.grow, allTo_next (p := fun i x => !(decide (x.type = 2) && insideB S x.thing i)) hall hx (by simp [g1]), r0_state_ring, r1_state_ring, r2_state_ring, r3_state_ring, r4_state_ring, r5_state_ring, k5_state_ring, k4_state_ring, r6_state_ring, k6_state_ring, k3_state_ring, k2_state_ring, k1_state_ring, r7_state_ring, k7_state_ring, k0_state_ring, b0_state_ring, Z0, Z1, Z2, Z3, Z4, Z5, Z6, Z7, Z8, Z9, Z10, resAll, Nat.reduceAdd, Nat.reduceEqDiff, Nat.reduceLeDiff, Nat.reduceMul, ↓reduceIte, reduceCtorEq, Nat.reduceBEq, aoper, Nat.reduceLT, Int.reduceEq, Int.reduceLT, Int.reduceLE]
  · have hlt' : ¬ (i : Int) < (S.sl.length : Int) := by omega
    have hii : i = S.sl.length := by omega
    have hr : ringB S = false := by unfold ringB; rw [← hii, hall]; rfl
    simp (disch := omega) only [t6, t7, t8, hlt', hr, hk.low, r0_state_ring, r1_state_ring, r2_state_ring, r3_state_ring, r4_state_ring, r5_state_ring, k5_state_ring, k4_state_ring, r6_state_ring, k6_state_ring, k3_state_ring, k2_state_ring, k1_state_ring, r7_state_ring, k7_state_ring, k0_state_ring, b0_state_ring, Z0, Z1, Z2, Z3, Z4, Z5, Z6, Z7, Z8, Z9, Z10, resAll, Nat.reduceAdd, Nat.reduceEqDiff, Nat.reduceLeDiff, Nat.reduceMul, ↓reduceIte, reduceCtorEq, Nat.reduceBEq, aoper, Nat.reduceLT, Int.reduceEq, Int.reduceLT, Int.reduceLE]
end Go.Proofs.YtidmcpkbcphpiaaGreat
