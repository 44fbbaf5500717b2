/-
  The abstract interpreter in its quick form: code and calls. No proof of the program stands here.
-/
import Derived.Test.YtphbidcbepnihaaH22
namespace Go.Hai
open Go

section
noncomputable def wantsK (t : Tmps) (g : Option (Nat × Bool)) (yes no : A) : A :=
  Option.rec yes (fun p => tgetK t p.1 fun v => boolK v no (Bool.rec yes no p.2) (Bool.rec no yes p.2)) g
theorem wantsK_eq (t : Tmps) (g : Option (Nat × Bool)) (yes no : A) : wantsK t g yes no = if wants t g then yes else no := by
  cases g with
  | none => rfl
  | some p =>
    obtain ⟨j, w⟩ := p
    show tgetK t j (fun v => boolK v no (Bool.rec yes no w) (Bool.rec no yes w)) = _
    rw [tgetK_eq]
    have hw : wants t (some (j, w)) = (match tget t j with | .bool b => b == w | _ => false) := rfl
    rw [hw]
    generalize tget t j = v
    cases v with
    | bool b => cases b <;> cases w <;> rfl
    | _ => rfl
noncomputable def setK (t : Tmps) (d : Option Nat) (v : Value) (k : Tmps → A) : A := Option.rec (k t) (fun i => insKV t i v k) d
theorem setK_eq (t : Tmps) (d : Option Nat) (v : Value) (k : Tmps → A) : setK t d v k = k (setD t d v) := by
  cases d with
  | none => rfl
  | some i => exact insKV_eq t i v k

abbrev RunK := CallK → Tmps → AHeap → (Tmps → AHeap → A) → A
noncomputable def stepK (o : AOper) (_os : List AOper) (ih : RunK) : RunK := fun call t σ k =>
  AOper.rec (fun d g op => wantsK t g (aoperK op call t σ fun v σ' => setK t d v fun t' => ih call t' σ' k) (setK t d undef fun t' => ih call t' σ k)) o
noncomputable def runOpsK (l : List AOper) : RunK := List.rec (fun _ t σ k => k t σ) stepK l
theorem runOpsK_eq [Rho] {call : CallF} {callK : CallK} (hc : ∀ f args σ k, callK f args σ k = bnd (call f args σ) k) : ∀ (l : List AOper) (t : Tmps) (σ : AHeap) (k : Tmps → AHeap → A),
    runOpsK l callK t σ k = match runOps call l t σ with | some p => k p.1 p.2 | none => none := by
  intro l
  induction l with
  | nil => intro t σ k; rfl
  | cons o l ih =>
    intro t σ k
    obtain ⟨d, g, op⟩ := o
    show wantsK t g (aoperK op callK t σ fun v σ' => setK t d v fun t' => runOpsK l callK t' σ' k) (setK t d undef fun t' => runOpsK l callK t' σ k) = _
    simp only [wantsK_eq, aoperK_eq hc, setK_eq, ih, runOps]
    split
    · cases aoper call op t σ <;> rfl
    · rfl

noncomputable def pureB (o : AOp) : Bool :=
  AOp.rec (fun _ => true) (fun _ _ _ => true) (fun _ _ => false) (fun _ _ => false) (fun _ _ => true) (fun _ _ _ _ => false) (fun _ _ _ => false) (fun _ _ _ => false) (fun _ => true) (fun _ _ _ => true) (fun _ _ _ _ => true)
    (fun _ _ => true) (fun _ _ => true) (fun _ _ _ => true) false (fun _ _ _ _ => false) (fun _ _ _ _ _ => false) (fun _ _ _ => true) (fun _ _ => true) (fun _ _ _ _ => true) (fun _ _ _ => true) (fun _ _ _ _ => true)
    (fun _ _ => true) (fun _ _ _ _ _ => false) (fun _ _ _ _ => false) (fun _ => false) (fun _ => false) (fun _ _ => true) (fun _ => true) (fun _ => true) (fun _ _ _ _ => false) (fun _ _ => false) (fun _ _ => false)
    (fun _ _ => true) (fun _ _ _ => true) (fun _ _ => true) (fun _ _ => true) false o
theorem pureB_eq (o : AOp) : pureB o = pureOp o := by cases o <;> rfl
noncomputable def kindK (o : AOp) (t : Tmps) (σ : AHeap) (b : Bool) : AKind := Bool.rec (kindOf o t σ b) .pure (pureB o)
theorem kindK_eq [Rho] (o : AOp) (t : Tmps) (σ : AHeap) (b : Bool) : kindK o t σ b = kindOf o t σ b := by
  unfold kindK; rw [pureB_eq]
  cases h : pureOp o with
  | false => rfl
  | true => simp only [kindOf, h, if_true]

abbrev DrawK := CallK → Tmps → AHeap → (Tmps → AHeap → List AKind → A) → A
noncomputable def stepD (o : AOper) (_os : List AOper) (ih : DrawK) : DrawK := fun call t σ k =>
  AOper.rec (fun d g op => wantsK t g
    (AHeap.rec (fun ht n nf dead low => aoperK op call t ⟨ht, n, nf, dead, n⟩ fun v σ' => AHeap.rec (fun ht' n' nf' dead' low' => setK t d v fun t' => minK low low' fun low'' => ih call t' ⟨ht', n', nf', dead', low''⟩
      fun t'' σ'' ks => k t'' σ'' (kindK op t ⟨ht, n, nf, dead, low⟩ (Nat.beq low' n) :: ks)) σ') σ)
    (setK t d undef fun t' => ih call t' σ fun t'' σ'' ks => k t'' σ'' (.pure :: ks))) o
noncomputable def runDrawK (l : List AOper) : DrawK := List.rec (fun _ t σ k => k t σ []) stepD l
theorem runDrawK_eq [Rho] {call : CallF} {callK : CallK} (hc : ∀ f args σ k, callK f args σ k = bnd (call f args σ) k) : ∀ (l : List AOper) (t : Tmps) (σ : AHeap) (k : Tmps → AHeap → List AKind → A),
    runDrawK l callK t σ k = match runDraw call l t σ with | some p => k p.1 p.2.1 p.2.2 | none => none := by
  intro l
  induction l with
  | nil => intro t σ k; rfl
  | cons o l ih =>
    intro t σ k
    obtain ⟨d, g, op⟩ := o
    obtain ⟨ht, n, nf, dead, low⟩ := σ
    show wantsK t g (aoperK op callK t ⟨ht, n, nf, dead, n⟩ fun v σ' => AHeap.rec (fun ht' n' nf' dead' low' => setK t d v fun t' => minK low low' fun low'' => runDrawK l callK t' ⟨ht', n', nf', dead', low''⟩
      fun t'' σ'' ks => k t'' σ'' (kindK op t ⟨ht, n, nf, dead, low⟩ (Nat.beq low' n) :: ks)) σ') (setK t d undef fun t' => runDrawK l callK t' ⟨ht, n, nf, dead, low⟩ fun t'' σ'' ks => k t'' σ'' (.pure :: ks)) = _
    simp only [wantsK_eq, aoperK_eq hc, setK_eq, minK_eq, ih, runDraw, kindK_eq]
    split
    · cases aoper call op t ⟨ht, n, nf, dead, n⟩ with
      | none => rfl
      | some p =>
        obtain ⟨v, σ'⟩ := p
        obtain ⟨ht', n', nf', dead', low'⟩ := σ'
        simp only [bnd]
        split <;> rename_i h <;> rw [h]
    · split <;> rename_i h <;> rw [h]

abbrev CodeK := CallK → Nat → Tmps → AHeap → (Tmps → AHeap → A) → (Nat → Tmps → AHeap → A) → (Tmps → AHeap → A) → A
noncomputable def cSkip : CodeK := fun _ _ t σ kn _ _ => kn t σ
noncomputable def cReg (ops : List AOper) : CodeK := fun call _ t σ kn _ _ => runOpsK ops call t σ kn
noncomputable def cDrw (ops : List AOper) (bef : List Nat) : CodeK := fun call _ t σ kn _ _ => runDrawK ops call t σ fun t' σ' ks => Bool.rec none (kn t' σ') (drawOk (risks (marks ops bef) 0) ks)
noncomputable def cSeq (_ _ : ACode) (fa fb : CodeK) : CodeK := fun call n t σ kn kx kr => fa call n t σ (fun t' σ' => fb call n t' σ' kn kx kr) kx kr
noncomputable def cCond (c : Operand) (_ _ : ACode) (fa fb : CodeK) : CodeK := fun call n t σ kn kx kr => evK t c fun v => boolK v none (fb call n t σ kn kx kr) (fa call n t σ kn kx kr)
noncomputable def cBlock (id : Nat) (_ : ACode) (fa : CodeK) : CodeK := fun call n t σ kn kx kr => fa call n t σ kn (fun i t' σ' => Bool.rec (kx i t' σ') (kn t' σ') (Nat.beq i id)) kr
noncomputable def cLoop (_ : ACode) (fa : CodeK) : CodeK := fun call n t σ _ kx kr => Nat.rec (fun _ _ => none) (fun _ ih t σ => fa call n t σ ih kx kr) n t σ
noncomputable def cExit (i : Nat) : CodeK := fun _ _ t σ _ kx _ => kx i t σ
noncomputable def cRet : CodeK := fun _ _ t σ _ _ kr => kr t σ
noncomputable def cBad : CodeK := fun _ _ _ _ _ _ _ => none
noncomputable def acodeK (c : ACode) : CodeK := ACode.rec cSkip cReg cDrw cSeq cCond cBlock cLoop cExit cRet cBad c
def go (x : Option (AEx × Tmps × AHeap)) (kn : Tmps → AHeap → A) (kx : Nat → Tmps → AHeap → A) (kr : Tmps → AHeap → A) : A :=
  match x with
  | some (.normal, t, σ) => kn t σ
  | some (.exit i, t, σ) => kx i t σ
  | some (.ret, t, σ) => kr t σ
  | none => none
theorem acodeK_eq [Rho] {call : CallF} {callK : CallK} (hc : ∀ f args σ k, callK f args σ k = bnd (call f args σ) k) (n : Nat) : ∀ (c : ACode) (t : Tmps) (σ : AHeap) (kn : Tmps → AHeap → A) (kx : Nat → Tmps → AHeap → A) (kr : Tmps → AHeap → A),
    acodeK c callK n t σ kn kx kr = go (acode call n c t σ) kn kx kr := by
  intro c
  induction c with
  | skip => intro t σ kn kx kr; rfl
  | reg ops =>
    intro t σ kn kx kr
    show runOpsK ops callK t σ kn = _
    rw [runOpsK_eq hc]
    simp only [acode]
    cases runOps call ops t σ <;> rfl
  | drw ops bef =>
    intro t σ kn kx kr
    show runDrawK ops callK t σ _ = _
    rw [runDrawK_eq hc]
    simp only [acode]
    cases runDraw call ops t σ with
    | none => rfl
    | some p =>
      obtain ⟨t', σ', ks⟩ := p
      simp only
      cases drawOk (risks (marks ops bef) 0) ks <;> rfl
  | seq a b iha ihb =>
    intro t σ kn kx kr
    show acodeK a callK n t σ (fun t' σ' => acodeK b callK n t' σ' kn kx kr) kx kr = _
    simp only [iha, ihb, acode]
    cases acode call n a t σ with
    | none => rfl
    | some p => obtain ⟨e, t', σ'⟩ := p; cases e <;> rfl
  | cond x a b iha ihb =>
    intro t σ kn kx kr
    show evK t x (fun v => boolK v none (acodeK b callK n t σ kn kx kr) (acodeK a callK n t σ kn kx kr)) = _
    simp only [evK_eq, iha, ihb, acode]
    cases ev t x with
    | bool r => cases r <;> rfl
    | _ => rfl
  | block id a ih =>
    intro t σ kn kx kr
    show acodeK a callK n t σ kn (fun i t' σ' => Bool.rec (kx i t' σ') (kn t' σ') (Nat.beq i id)) kr = _
    simp only [ih, acode]
    cases acode call n a t σ with
    | none => rfl
    | some p =>
      obtain ⟨e, t', σ'⟩ := p
      cases e with
      | exit i => simp only [go]; cases Nat.beq i id <;> rfl
      | _ => rfl
  | loop a ih =>
    intro t σ kn kx kr
    have : ∀ (m : Nat) (t : Tmps) (σ : AHeap), (Nat.rec (fun _ _ => none) (fun _ ih t σ => acodeK a callK n t σ ih kx kr) m t σ : A) = go (iter (acode call n a) m t σ) kn kx kr := by
      intro m
      induction m with
      | zero => intro t σ; rfl
      | succ m ihm =>
        intro t σ
        show acodeK a callK n t σ (Nat.rec (fun _ _ => none) (fun _ ih t σ => acodeK a callK n t σ ih kx kr) m) kx kr = _
        rw [ih]
        simp only [iter]
        cases acode call n a t σ with
        | none => rfl
        | some p =>
          obtain ⟨e, t', σ'⟩ := p
          cases e with
          | normal => exact ihm t' σ'
          | _ => rfl
    exact this n t σ
  | exit i => intro t σ kn kx kr; rfl
  | ret => intro t σ kn kx kr; rfl
  | bad => intro t σ kn kx kr; rfl

noncomputable def resOneK (r : ARes) (t : Tmps) (σ : AHeap) (k : Value → A) : A :=
  ARes.rec (fun i => tgetK t i k) (fun i g n => tgetK t i fun v => ptrK v none fun b o => loadK σ b o n fun vs => Bool.rec (oneK vs k) (k (.agg vs.toArray)) g) r
theorem resOneK_eq (r : ARes) (t : Tmps) (σ : AHeap) (k : Value → A) : resOneK r t σ k = match resOne t σ r with | some v => k v | none => none := by
  cases r with
  | tmp i => exact tgetK_eq t i k
  | cell i g n =>
    show tgetK t i (fun v => ptrK v none fun b o => loadK σ b o n fun vs => Bool.rec (oneK vs k) (k (.agg vs.toArray)) g) = _
    rw [tgetK_eq]
    simp only [resOne, loadK_eq]
    cases tget t i with
    | pointer a => cases a with
      | none => rfl
      | some a =>
        obtain ⟨b, o, s⟩ := a
        simp only [ptrK]
        cases σ.loadN b o n with
        | none => rfl
        | some vs => cases g with
          | true => rfl
          | false => cases vs with
            | nil => rfl
            | cons v tl => cases tl <;> rfl
    | _ => rfl
noncomputable def resK (rs : List ARes) : Tmps → AHeap → (List Value → A) → A :=
  List.rec (fun _ _ k => k []) (fun r _ ih t σ k => resOneK r t σ fun v => ih t σ fun vs => k (v :: vs)) rs
theorem resK_eq [Rho] (t : Tmps) (σ : AHeap) : ∀ (rs : List ARes) (k : List Value → A), resK rs t σ k = match resAll t σ rs with | some vs => k vs | none => none := by
  intro rs
  induction rs with
  | nil => intro k; rfl
  | cons r rs ih =>
    intro k
    show resOneK r t σ (fun v => resK rs t σ fun vs => k (v :: vs)) = _
    rw [resOneK_eq]
    simp only [resAll, ih]
    cases resOne t σ r with
    | none => rfl
    | some v => simp only; cases resAll t σ rs <;> rfl
def scalC (v : Value) (n y : A) : A := Bool.casesOn (scal v) n y
noncomputable def allS (l : List Value) (n y : A) : A := List.rec y (fun x _ ih => scalC x n ih) l
theorem allS_eq (l : List Value) (n y : A) : allS l n y = Bool.casesOn (l.all scal) n y := by
  induction l with
  | nil => rfl
  | cons x l ih =>
    show scalC x n (allS l n y) = _
    rw [ih]
    unfold scalC
    simp only [List.all_cons]
    cases scal x <;> cases l.all scal <;> rfl
/- without an address? -/
noncomputable def flatK (v : Value) (n y : A) : A := match v with
  | .bool _ => y
  | .int _ _ => y
  | .pointer (some _) => n
  | .slice (some _) _ _ => n
  | .agg cs => allS cs.toList n y
  | v => Bool.casesOn (flat v) n y
theorem flatK_eq [Rho] (v : Value) (n y : A) : flatK v n y = Bool.casesOn (flat v) n y := by
  cases v with
  | agg cs => show allS cs.toList n y = _; rw [allS_eq]; rfl
  | pointer a => cases a <;> rfl
  | slice a l c => cases a <;> rfl
  | _ => rfl
noncomputable def oneC (l : List Value) (f : Value → A) : A := List.rec (f (.tuple #[])) (fun v tl _ => List.rec (f v) (fun u r _ => f (.tuple (v :: u :: r).toArray)) tl) l
theorem oneC_eq (l : List Value) (f : Value → A) : oneC l f = f (one l) := by
  cases l with
  | nil => rfl
  | cons v tl => cases tl <;> rfl
noncomputable def maxLen (l : List Value) : Nat → A → A := List.rec (fun _ y => y) (fun _ _ ih n y => Nat.rec none (fun m _ => ih m y) n) l
theorem maxLen_eq : ∀ (l : List Value) (n : Nat) (y : A), maxLen l n y = if Nat.ble l.length n then y else none := by
  intro l
  induction l with
  | nil => intro n y; cases n <;> rfl
  | cons x l ih =>
    intro n y
    cases n with
    | zero => rfl
    | succ n => exact ih n y
noncomputable def endK (rs : List ARes) (σ : AHeap) (k : Value → AHeap → A) : Tmps → AHeap → A := fun t σ' => resK rs t σ' fun vs => oneC vs fun v =>
  AHeap.rec (fun ht n nf dead low => Bool.rec (minK σ.low low fun low' => k v ⟨ht, n, nf, dead, low'⟩) (flatK v (minK σ.low low fun low' => k v ⟨ht, n, nf, dead, low'⟩) (k v σ)) (Nat.beq low σ.n)) σ'
theorem endK_eq [Rho] (rs : List ARes) (σ : AHeap) (k : Value → AHeap → A) (t : Tmps) (σ' : AHeap) : endK rs σ k t σ' =
    bnd (match resAll t σ' rs with | some vs => some (if Nat.beq σ'.low σ.n && flat (one vs) then (one vs, σ) else (one vs, { σ' with low := minN σ.low σ'.low })) | none => none) k := by
  unfold endK
  rw [resK_eq]
  cases resAll t σ' rs with
  | none => rfl
  | some vs =>
    obtain ⟨ht, n, nf, dead, low⟩ := σ'
    simp only [oneC_eq, flatK_eq, minK_eq]
    show (Bool.rec (k (one vs) ⟨ht, n, nf, dead, minN σ.low low⟩) (Bool.casesOn (flat (one vs)) (k (one vs) ⟨ht, n, nf, dead, minN σ.low low⟩) (k (one vs) σ)) (Nat.beq low σ.n) : A) = _
    simp only [bnd]
    cases Nat.beq low σ.n with
    | false => rfl
    | true => cases flat (one vs) <;> rfl
noncomputable def acallK (E : FuncId → Option AFn) (fuel : Nat) (d : Nat) : CallK :=
  Nat.rec (fun _ _ _ _ => none) (fun _ ih f args σ k => Option.rec none (fun fn => AFn.rec (fun n rs body => maxLen args n
    (putKV args .tip 0 fun t => AHeap.rec (fun ht m nf dead low => acodeK body ih fuel t ⟨ht, m, nf, dead, m⟩ (endK rs ⟨ht, m, nf, dead, low⟩ k) (fun _ _ _ => none) (endK rs ⟨ht, m, nf, dead, low⟩ k)) σ)) fn) (E f)) d
theorem acallK_eq [Rho] (E : FuncId → Option AFn) (fuel : Nat) : ∀ (d : Nat) (f : FuncId) (args : List Value) (σ : AHeap) (k : Value → AHeap → A), acallK E fuel d f args σ k = bnd (acall E fuel d f args σ) k := by
  intro d
  induction d with
  | zero => intro f args σ k; rfl
  | succ d ih =>
    intro f args σ k
    obtain ⟨ht, m, nf, dead, low⟩ := σ
    show (Option.rec none (fun fn => AFn.rec (fun n rs body => maxLen args n
      (putKV args .tip 0 fun t => acodeK body (acallK E fuel d) fuel t ⟨ht, m, nf, dead, m⟩ (endK rs ⟨ht, m, nf, dead, low⟩ k) (fun _ _ _ => none) (endK rs ⟨ht, m, nf, dead, low⟩ k))) fn) (E f) : A) = _
    simp only [acall]
    cases E f with
    | none => rfl
    | some fn =>
      obtain ⟨n, rs, body⟩ := fn
      simp only [maxLen_eq, putKV_eq]
      cases Nat.ble args.length n with
      | false => rfl
      | true =>
        show acodeK body (acallK E fuel d) fuel (Tr.of args) ⟨ht, m, nf, dead, m⟩ _ _ _ = _
        rw [acodeK_eq ih]
        simp only [if_true]
        cases acode (acall E fuel d) fuel body (Tr.of args) ⟨ht, m, nf, dead, m⟩ with
        | none => rfl
        | some p =>
          obtain ⟨e, t', σ'⟩ := p
          cases e with
          | normal => exact endK_eq rs ⟨ht, m, nf, dead, low⟩ k t' σ'
          | ret => exact endK_eq rs ⟨ht, m, nf, dead, low⟩ k t' σ'
          | exit i => rfl
end
def ofProg (P : Program) (f : FuncId) : Option AFn := match P.funcs[f]? with | some fn => compFn P fn | none => none
theorem ofProg_ok {P : Program} : ∀ f af, ofProg P f = some af → ∃ fn, P.funcs[f]? = some fn ∧ compFn P fn = some af := by
  intro f af h
  unfold ofProg at h
  split at h
  · next fn hf => exact ⟨fn, hf, h⟩
  · cases h
def h0 : AHeap := { t := .tip, n := 0, nf := 0, dead := [], low := 0 }
def isTrueK (v : Value) (_ : AHeap) : Option Bool := match v with | .bool b => some b | _ => none
theorem open_true [Rho] {P : Program} {fuel d f : Nat} {args us : List Value} (h : acallK (ofProg P) fuel d f args h0 isTrueK = some true) (hv : VRs (fun _ => none) args us) (w : World) :
    Calls P f us.toArray w fun e w' => e = .returned (.bool true) ∧ w'.os = w.os ∧ w'.output = w.output ∧ ∀ B, B < w.heap.size → w'.heap[B]? = w.heap[B]? := by
  rw [acallK_eq] at h
  cases hr : acall (ofProg P) fuel d f args h0 with
  | none => rw [hr] at h; cases h
  | some p =>
    obtain ⟨v, σ'⟩ := p
    rw [hr] at h
    have hvt : v = .bool true := by
      cases v with
      | bool b => cases b with
        | true => rfl
        | false => cases h
      | _ => cases h
    subst hvt
    obtain ⟨_, _, hC⟩ := acall_ok (ofProg_ok (P := P)) d f args _ h0 σ' hr
    have hs : Sim (fun _ => none) h0 w := ⟨by intro b L h; simp at h, by intro b L h; simp at h, by intro b L h; simp at h, by intro b L _ _ _ _ _ _ h; simp at h, by intro b L _ h; simp at h, by intro b _ L _ _ h; simp at h, by intro b _ L _ _ _ _ _ _ _ _ _ _ _ _ h; simp at h⟩
    refine (hC _ w us hs hv).mono ?_
    rintro e w' ⟨u, ρ', rfl, hvu, hp⟩
    rw [bool_eq hvu]
    refine ⟨rfl, hp.io.1, hp.io.2, fun B hB => hp.frame B hB ?_⟩
    rintro ⟨b, L, h1, _⟩
    cases h1
theorem closed_true [Rho] {P : Program} {fuel d f : Nat} (h : acallK (ofProg P) fuel d f [] h0 isTrueK = some true) (w : World) :
    Calls P f #[] w fun e w' => e = .returned (.bool true) ∧ w'.os = w.os ∧ w'.output = w.output ∧ ∀ B, B < w.heap.size → w'.heap[B]? = w.heap[B]? :=
  open_true h .nil w
end Go.Hai
