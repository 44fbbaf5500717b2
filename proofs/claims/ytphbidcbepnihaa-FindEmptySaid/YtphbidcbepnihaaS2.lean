/-
  The abstract interpreter over values that are not known: what single operations answer. No proof of the program stands here.
-/
import Derived.Test.YtphbidcbepnihaaS1
namespace Go.Hai
open Go

theorem wrap64 {n : Int} (h1 : -9223372036854775808 ≤ n) (h2 : n ≤ 9223372036854775807) : IntKind.i64.wrap n = n := by
  simp [IntKind.wrap, IntKind.bits, IntKind.signed]
  omega
section
variable {k : IntKind} {a b : Int}
theorem Z9 : abinA .lss (.int k a) (.int k b) = some (.bool (decide (a < b))) := by simp [abinA, abin]
theorem Ya : abinA .leq (.int k a) (.int k b) = some (.bool (decide (a ≤ b))) := by simp [abinA, abin]
theorem Yb : abinA .gtr (.int k a) (.int k b) = some (.bool (decide (b < a))) := by simp [abinA, abin]
theorem Yc : abinA .geq (.int k a) (.int k b) = some (.bool (decide (b ≤ a))) := by simp [abinA, abin]
theorem Yd : abinA .eql (.int k a) (.int k b) = some (.bool (decide (a = b))) := by
  simp only [abinA, abin, if_true]
  congr 2
theorem Ye : abinA .neq (.int k a) (.int k b) = some (.bool (!decide (a = b))) := by
  simp only [abinA, abin, if_true]
  congr 2
theorem Yf (h1 : -9223372036854775808 ≤ a + b) (h2 : a + b ≤ 9223372036854775807) : abinA .add (.int .i64 a) (.int .i64 b) = some (.int .i64 (a + b)) := by simp [abinA, abin, wrap64 h1 h2]
theorem Yg (h1 : -9223372036854775808 ≤ a - b) (h2 : a - b ≤ 9223372036854775807) : abinA .sub (.int .i64 a) (.int .i64 b) = some (.int .i64 (a - b)) := by simp [abinA, abin, wrap64 h1 h2]
theorem Yh (h1 : -9223372036854775808 ≤ a * b) (h2 : a * b ≤ 9223372036854775807) : abinA .mul (.int .i64 a) (.int .i64 b) = some (.int .i64 (a * b)) := by simp [abinA, abin, wrap64 h1 h2]
theorem Yi (h : b ≠ 0) : abinA .rem (.int .i64 a) (.int .i64 b) = some (.int .i64 (a.tmod b)) := by simp [abinA, abin, h]
end
theorem Yj {b : Bool} : aun .not (.bool b) = some (.bool !b) := rfl

/- the operations; what is to be done with a result stands as a name, not as a function that is written out: else simp would run it ahead of its time -/
def kont (call : CallF) (os : List AOper) (t : Tmps) (Q : Tmps → AHeap → Prop) (d : Option Nat) (v : Value) (σ : AHeap) : Prop := EndsR (runOps call os (setD t d v) σ) Q
theorem Xp {call : CallF} {os : List AOper} {t : Tmps} {Q : Tmps → AHeap → Prop} {d : Option Nat} {v : Value} {σ : AHeap} : kont call os t Q d v σ = EndsR (runOps call os (setD t d v) σ) Q := rfl
theorem Xo {call : CallF} {t : Tmps} {σ : AHeap} {Q : Tmps → AHeap → Prop} {d : Option Nat} {op : AOp} {os : List AOper} :
    EndsR (runOps call (.mk d none op :: os) t σ) Q = EndsO (aoper call op t σ) (kont call os t Q d) := run_one
abbrev Kt := Value → AHeap → Prop
def isB (c : Value) : Bool := match c with | .bool _ => true | _ => false
def isT (c : Value) : Bool := match c with | .bool b => b | _ => false
def isF (c : Value) : Bool := match c with | .bool b => !b | _ => false
def pickV (c a b : Value) : Value := match c with | .bool true => a | .bool false => b | _ => undef
def wantsV (c : Value) (w : Bool) : Bool := match c with | .bool b => b == w | _ => false
theorem ZR {b : Bool} : isB (.bool b) = true := rfl
theorem ZS {b : Bool} : isT (.bool b) = b := rfl
theorem ZT {b : Bool} : isF (.bool b) = !b := rfl
theorem ZU {a b : Value} : pickV (.bool true) a b = a := rfl
theorem ZV {a b : Value} : pickV (.bool false) a b = b := rfl
theorem ZW {b : Bool} : wantsV (.bool b) true = b := by cases b <;> rfl
theorem ZX {b : Bool} : wantsV (.bool b) false = !b := by cases b <;> rfl
theorem ZY {w : Bool} : wantsV undef w = false := rfl
theorem Zo {call : CallF} {t : Tmps} {σ : AHeap} {Q : Tmps → AHeap → Prop} {d : Option Nat} {j : Nat} {w : Bool} {op : AOp} {os : List AOper} :
    EndsR (runOps call (.mk d (some (j, w)) op :: os) t σ) Q = if wantsV (tget t j) w = true then EndsO (aoper call op t σ) (kont call os t Q d) else EndsR (runOps call os (setD t d undef) σ) Q := by
  have : wants t (some (j, w)) = wantsV (tget t j) w := rfl
  simp only [runOps, this]
  split
  · cases aoper call op t σ <;> rfl
  · rfl
def valQ (x : Option Value) (σ : AHeap) (K : Kt) : Prop := match x with | some v => K v σ | none => False
def fldQ (x : Value) (off : Nat) (σ : AHeap) (K : Kt) : Prop := match x with | .pointer (some ⟨b, o, _⟩) => K (here b (o + off)) σ | _ => False
def ld1Q (x : Option (List Value)) (σ : AHeap) (K : Kt) : Prop := match x with | some [v] => K v σ | _ => False
def ldNQ (x : Option (List Value)) (σ : AHeap) (K : Kt) : Prop := match x with | some vs => K (.agg vs.toArray) σ | none => False
def pLd1 (x : Value) (n : Nat) (σ : AHeap) (K : Kt) : Prop := match x with | .pointer (some ⟨b, o, _⟩) => ld1Q (σ.loadN b o n) σ K | _ => False
def pLdN (x : Value) (n : Nat) (σ : AHeap) (K : Kt) : Prop := match x with | .pointer (some ⟨b, o, _⟩) => ldNQ (σ.loadN b o n) σ K | _ => False
def heapQ (x : Option AHeap) (K : Kt) : Prop := match x with | some σ => K undef σ | none => False
def pSt (x : Value) (n : Nat) (vs : List Value) (σ : AHeap) (K : Kt) : Prop := match x with | .pointer (some ⟨b, o, _⟩) => (if vs.length = n then heapQ (σ.storeN b o vs) K else False) | _ => False
def lenSQ (x : Value) (σ : AHeap) (K : Kt) : Prop := match x with | .slice _ l _ => K (.int .i64 l) σ | _ => False
def idxQ (x i : Value) (sz : Nat) (σ : AHeap) (K : Kt) : Prop := match x, i with
  | .slice (some ⟨b, o, _⟩) l _, .int _ z => if 0 ≤ z ∧ z < l then K (here b (o + z.toNat * sz)) σ else False
  | _, _ => False
def nthQ (l : List Value) (i : Nat) (σ : AHeap) (K : Kt) : Prop := match l[i]? with | some v => K v σ | none => False
def extQ (x : Value) (i : Nat) (σ : AHeap) (K : Kt) : Prop := match x with | .tuple vs => nthQ vs.toList i σ K | _ => False
def fld1Q (x : Value) (i : Nat) (σ : AHeap) (K : Kt) : Prop := match x with | .agg vs => nthQ vs.toList i σ K | _ => False
def eqQ (x : Option Bool) (neg : Bool) (σ : AHeap) (K : Kt) : Prop := match x with | some r => K (.bool (if neg then !r else r)) σ | none => False
def eqSQ (neg : Bool) (ls : List (Nat × Nat)) (x y : Value) (σ : AHeap) (K : Kt) : Prop := match x, y with | .agg xs, .agg ys => eqQ (eqLsA xs.toList ys.toList ls) neg σ K | _, _ => False
section
variable {σ : AHeap} {t : Tmps} {K : Kt}
theorem ZL {v : Value} : valQ (some v) σ K = K v σ := rfl
theorem Xq {b o off : Nat} : fldQ (here b o) off σ K = K (here b (o + off)) σ := rfl
theorem Xr {b o n : Nat} : pLd1 (here b o) n σ K = ld1Q (σ.loadN b o n) σ K := rfl
theorem Xs {b o n : Nat} : pLdN (here b o) n σ K = ldNQ (σ.loadN b o n) σ K := rfl
theorem Xt {v : Value} : ld1Q (some [v]) σ K = K v σ := rfl
theorem Xu {vs : List Value} : ldNQ (some vs) σ K = K (.agg vs.toArray) σ := rfl
theorem Xv {b o n : Nat} {vs : List Value} : pSt (here b o) n vs σ K = if vs.length = n then heapQ (σ.storeN b o vs) K else False := rfl
theorem ZM : heapQ (some σ) K = K undef σ := rfl
theorem Xw {a : Option Addr} {l f : Nat} : lenSQ (.slice a l f) σ K = K (.int .i64 l) σ := rfl
theorem Xx {b o l f : Nat} {s : Option Nat} {k : IntKind} {z : Int} {sz : Nat} (h0 : 0 ≤ z) (h1 : z < l) : idxQ (.slice (some ⟨b, o, s⟩) l f) (.int k z) sz σ K = K (here b (o + z.toNat * sz)) σ := by
  show (if 0 ≤ z ∧ z < l then _ else False) = _
  rw [if_pos ⟨h0, h1⟩]
theorem Xy {l : List Value} {i : Nat} : extQ (.tuple l.toArray) i σ K = nthQ l i σ K := rfl
theorem Xz {l : Array Value} {i : Nat} : extQ (.tuple l) i σ K = nthQ l.toList i σ K := rfl
theorem XA {l : List Value} {i : Nat} : fld1Q (.agg l.toArray) i σ K = nthQ l i σ K := rfl
theorem ZN {v : Value} {l : List Value} : nthQ (v :: l) 0 σ K = K v σ := rfl
theorem ZO {u v : Value} {l : List Value} : nthQ (u :: v :: l) 1 σ K = K v σ := rfl
theorem ZP {u u' v : Value} {l : List Value} : nthQ (u :: u' :: v :: l) 2 σ K = K v σ := rfl
theorem ZQ {r neg : Bool} : eqQ (some r) neg σ K = K (.bool (if neg then !r else r)) σ := rfl
theorem XB {neg : Bool} {ls : List (Nat × Nat)} {xs ys : List Value} : eqSQ neg ls (.agg xs.toArray) (.agg ys.toArray) σ K = eqQ (eqLsA xs ys ls) neg σ K := rfl
theorem Zu {x : Operand} : EndsO (aop σ t (.mv x)) K = K (ev t x) σ := rfl
theorem Zv {c a b : Operand} : EndsO (aop σ t (.pick c a b)) K = if isB (ev t c) = true then K (pickV (ev t c) (ev t a) (ev t b)) σ else False := by
  simp only [aop]
  cases ev t c with
  | bool r => cases r <;> rfl
  | _ => rfl
theorem Zw {op : BinOp} {x y : Operand} : EndsO (aop σ t (.bin op x y)) K = valQ (abinA op (ev t x) (ev t y)) σ K := by
  simp only [aop]
  cases abinA op (ev t x) (ev t y) <;> rfl
theorem Zx {op : UnOp} {x : Operand} : EndsO (aop σ t (.un op x)) K = valQ (aun op (ev t x)) σ K := by
  simp only [aop]
  cases aun op (ev t x) <;> rfl
theorem Zy {z : List Value} {es : Nat} {L : List (List Value × Nat)} : EndsO (aop (σ.grow L) t (.alloc z es)) K = K (here (σ.n + L.length) 0) (σ.grow (L ++ [(z, es)])) := by
  simp only [aop, newRow_grow]; rfl
theorem Zz {x : Operand} {es : Nat} {L : List (List Value × Nat)} : EndsO (aop (σ.grow L) t (.box es x)) K = if (ev t x).cells.toList.all isCell = true then K (here (σ.n + L.length) 0) (σ.grow (L ++ [((ev t x).cells.toList, es)])) else False := by
  simp only [aop, newRow_grow]
  split <;> rfl
theorem ZA {x : Operand} {off : Nat} : EndsO (aop σ t (.fldA off x)) K = fldQ (ev t x) off σ K := by
  simp only [aop, fldQ]
  cases ev t x with
  | pointer a => cases a <;> rfl
  | _ => rfl
theorem ZB {n : Nat} {x : Operand} : EndsO (aop σ t (.load false n x)) K = pLd1 (ev t x) n σ K := by
  simp only [aop, pLd1, ld1Q]
  cases ev t x with
  | pointer a => cases a with
    | none => rfl
    | some p =>
      obtain ⟨b, o, s⟩ := p
      simp only
      cases σ.loadN b o n with
      | none => rfl
      | some vs => cases vs with
        | nil => rfl
        | cons v l => cases l <;> rfl
  | _ => rfl
theorem ZC {n : Nat} {x : Operand} : EndsO (aop σ t (.load true n x)) K = pLdN (ev t x) n σ K := by
  simp only [aop, pLdN, ldNQ]
  cases ev t x with
  | pointer a => cases a with
    | none => rfl
    | some p =>
      obtain ⟨b, o, s⟩ := p
      simp only
      cases σ.loadN b o n <;> rfl
  | _ => rfl
theorem ZD {n : Nat} {a x : Operand} : EndsO (aop σ t (.store n a x)) K = pSt (ev t a) n (ev t x).cells.toList σ K := by
  simp only [aop, pSt, heapQ]
  cases ev t a with
  | pointer p => cases p with
    | none => rfl
    | some p =>
      obtain ⟨b, o, s⟩ := p
      simp only
      by_cases h : (ev t x).cells.toList.length = n
      · subst h
        simp only [Nat.beq_refl, if_true]
        cases σ.storeN b o (ev t x).cells.toList <;> rfl
      · rw [if_neg h, nbeq h]; rfl
  | _ => rfl
theorem ZE {x : Operand} : EndsO (aop σ t (.lenS x)) K = lenSQ (ev t x) σ K := by
  simp only [aop, lenSQ]
  cases ev t x <;> rfl
theorem ZF {sz : Nat} {x i : Operand} : EndsO (aop σ t (.idxA sz x i)) K = idxQ (ev t x) (ev t i) sz σ K := by
  simp only [aop, idxQ]
  cases ev t x with
  | slice a l f => cases a with
    | none => rfl
    | some p =>
      obtain ⟨b, o, s⟩ := p
      cases ev t i with
      | int k z => simp only; split <;> rfl
      | _ => rfl
  | _ => rfl
theorem ZG {x : Operand} {i : Nat} : EndsO (aop σ t (.ext x i)) K = extQ (ev t x) i σ K := by
  simp only [aop, extQ, nthQ]
  cases ev t x with
  | tuple vs => simp only; cases vs.toList[i]? <;> rfl
  | _ => rfl
theorem ZH {off n : Nat} {x : Operand} : EndsO (aop σ t (.fld false off n x)) K = fld1Q (ev t x) off σ K := by
  simp only [aop, fld1Q, nthQ]
  cases ev t x with
  | agg vs => simp only [Bool.false_eq_true, if_false]; cases vs.toList[off]? <;> rfl
  | _ => rfl
theorem ZI {z : List Value} {ps : List (Nat × Nat × Operand)} : EndsO (aop σ t (.build z ps)) K = ldNQ (fillL t z ps) σ K := by
  simp only [aop, ldNQ]
  cases fillL t z ps <;> rfl
theorem ZJ {neg : Bool} {ls : List (Nat × Nat)} {x y : Operand} : EndsO (aop σ t (.eqS neg ls x y)) K = eqSQ neg ls (ev t x) (ev t y) σ K := by
  simp only [aop, eqSQ, eqQ]
  cases ev t x with
  | agg xs => cases ev t y with
    | agg ys => cases h : eqLsA xs.toList ys.toList ls <;> simp only [h] <;> rfl
    | _ => rfl
  | _ => rfl
end
theorem ZK {call : CallF} {σ : AHeap} {t : Tmps} {K : Kt} {f : FuncId} {xs : List Operand} : EndsO (aoper call (.call f xs) t σ) K = EndsO (call f (xs.map (ev t)) σ) K := rfl
theorem Zg {call : CallF} {fuel : Nat} {t : Tmps} {σ : AHeap} {Q : AEx → Tmps → AHeap → Prop} {c : Operand} {a b : ACode} :
    Ends (acode call fuel (.cond c a b) t σ) Q = if isT (ev t c) = true then Ends (acode call fuel a t σ) Q else if isF (ev t c) = true then Ends (acode call fuel b t σ) Q else False := by
  simp only [acode]
  cases ev t c with
  | bool r => cases r <;> rfl
  | _ => rfl
def lget : List Value → Nat → Value
  | [], _ => undef
  | v :: _, 0 => v
  | _ :: l, i + 1 => lget l i
theorem Z3 (l : List Value) (j : Nat) : tget (Tr.of l) j = lget l j := by
  rw [tget_of]
  induction l generalizing j with
  | nil => rfl
  | cons v l ih => cases j with
    | zero => rfl
    | succ j => exact ih j
theorem Z4 {v : Value} {l : List Value} : lget (v :: l) 0 = v := rfl
theorem Z5 {a v : Value} {l : List Value} : lget (a :: v :: l) 1 = v := rfl
theorem Z6 {a b v : Value} {l : List Value} : lget (a :: b :: v :: l) 2 = v := rfl
theorem Z7 {a b c v : Value} {l : List Value} : lget (a :: b :: c :: v :: l) 3 = v := rfl
theorem Z8 {a b c d v : Value} {l : List Value} : lget (a :: b :: c :: d :: v :: l) 4 = v := rfl
theorem ZZ (t : Tmps) (i : Nat) : ev t (.tmp i) = tget t i := rfl
theorem Z0 (t : Tmps) (v : Value) : ev t (.const v) = v := rfl
theorem Z1 (t : Tmps) (i : Nat) (v : Value) : setD t (some i) v = t.ins i v := rfl
theorem Z2 (t : Tmps) (v : Value) : setD t none v = t := rfl
/- rows -/
def sliceL (l : List Value) (o n : Nat) : Option (List Value) := if o + n ≤ l.length then some ((l.drop o).take n) else none
theorem Yu {x0 : Value} : sliceL [x0] 0 1 = some [x0] := rfl
theorem Yv {x0 y0 : Value} : setAll [x0] 0 [y0] = [y0] := rfl
theorem Yw {x0 : Value} : List.length [x0] = 1 := rfl
theorem Yx {x0 x1 x2 : Value} : sliceL [x0, x1, x2] 0 1 = some [x0] := rfl
theorem Yy {x0 x1 x2 : Value} : sliceL [x0, x1, x2] 1 1 = some [x1] := rfl
theorem Yz {x0 x1 x2 : Value} : sliceL [x0, x1, x2] 2 1 = some [x2] := rfl
theorem YA {x0 x1 x2 : Value} : sliceL [x0, x1, x2] 0 3 = some [x0, x1, x2] := rfl
theorem YB {x0 x1 x2 y0 y1 y2 : Value} : setAll [x0, x1, x2] 0 [y0, y1, y2] = [y0, y1, y2] := rfl
theorem YC {x0 x1 x2 : Value} : List.length [x0, x1, x2] = 3 := rfl
theorem YD {x0 x1 x2 x3 : Value} : sliceL [x0, x1, x2, x3] 0 1 = some [x0] := rfl
theorem YE {x0 x1 x2 x3 : Value} : sliceL [x0, x1, x2, x3] 1 1 = some [x1] := rfl
theorem YF {x0 x1 x2 x3 : Value} : sliceL [x0, x1, x2, x3] 2 1 = some [x2] := rfl
theorem YG {x0 x1 x2 x3 : Value} : sliceL [x0, x1, x2, x3] 3 1 = some [x3] := rfl
theorem YH {x0 x1 x2 x3 : Value} : sliceL [x0, x1, x2, x3] 0 4 = some [x0, x1, x2, x3] := rfl
theorem YI {x0 x1 x2 x3 y0 y1 y2 y3 : Value} : setAll [x0, x1, x2, x3] 0 [y0, y1, y2, y3] = [y0, y1, y2, y3] := rfl
theorem YJ {x0 x1 x2 x3 : Value} : List.length [x0, x1, x2, x3] = 4 := rfl
theorem YK {x0 x1 x2 x3 x4 : Value} : sliceL [x0, x1, x2, x3, x4] 0 1 = some [x0] := rfl
theorem YL {x0 x1 x2 x3 x4 : Value} : sliceL [x0, x1, x2, x3, x4] 1 1 = some [x1] := rfl
theorem YM {x0 x1 x2 x3 x4 : Value} : sliceL [x0, x1, x2, x3, x4] 2 1 = some [x2] := rfl
theorem YN {x0 x1 x2 x3 x4 : Value} : sliceL [x0, x1, x2, x3, x4] 3 1 = some [x3] := rfl
theorem YO {x0 x1 x2 x3 x4 : Value} : sliceL [x0, x1, x2, x3, x4] 4 1 = some [x4] := rfl
theorem YP {x0 x1 x2 x3 x4 : Value} : sliceL [x0, x1, x2, x3, x4] 0 5 = some [x0, x1, x2, x3, x4] := rfl
theorem YQ {x0 x1 x2 x3 x4 : Value} : sliceL [x0, x1, x2, x3, x4] 0 3 = some [x0, x1, x2] := rfl
theorem YR {x0 x1 x2 x3 x4 : Value} : sliceL [x0, x1, x2, x3, x4] 0 4 = some [x0, x1, x2, x3] := rfl
theorem YS {x0 x1 x2 x3 x4 y0 y1 y2 y3 y4 : Value} : setAll [x0, x1, x2, x3, x4] 0 [y0, y1, y2, y3, y4] = [y0, y1, y2, y3, y4] := rfl
theorem YT {x0 x1 x2 x3 x4 : Value} : List.length [x0, x1, x2, x3, x4] = 5 := rfl
theorem YU {x0 x1 x2 x3 x4 x5 x6 x7 x8 x9 x10 x11 x12 : Value} : sliceL [x0, x1, x2, x3, x4, x5, x6, x7, x8, x9, x10, x11, x12] 0 1 = some [x0] := rfl
theorem YV {x0 x1 x2 x3 x4 x5 x6 x7 x8 x9 x10 x11 x12 : Value} : sliceL [x0, x1, x2, x3, x4, x5, x6, x7, x8, x9, x10, x11, x12] 1 1 = some [x1] := rfl
theorem YW {x0 x1 x2 x3 x4 x5 x6 x7 x8 x9 x10 x11 x12 : Value} : sliceL [x0, x1, x2, x3, x4, x5, x6, x7, x8, x9, x10, x11, x12] 2 1 = some [x2] := rfl
theorem YX {x0 x1 x2 x3 x4 x5 x6 x7 x8 x9 x10 x11 x12 : Value} : sliceL [x0, x1, x2, x3, x4, x5, x6, x7, x8, x9, x10, x11, x12] 3 1 = some [x3] := rfl
theorem YY {x0 x1 x2 x3 x4 x5 x6 x7 x8 x9 x10 x11 x12 : Value} : sliceL [x0, x1, x2, x3, x4, x5, x6, x7, x8, x9, x10, x11, x12] 4 1 = some [x4] := rfl
theorem YZ {x0 x1 x2 x3 x4 x5 x6 x7 x8 x9 x10 x11 x12 : Value} : sliceL [x0, x1, x2, x3, x4, x5, x6, x7, x8, x9, x10, x11, x12] 5 1 = some [x5] := rfl
theorem Y0 {x0 x1 x2 x3 x4 x5 x6 x7 x8 x9 x10 x11 x12 : Value} : sliceL [x0, x1, x2, x3, x4, x5, x6, x7, x8, x9, x10, x11, x12] 6 1 = some [x6] := rfl
theorem Y1 {x0 x1 x2 x3 x4 x5 x6 x7 x8 x9 x10 x11 x12 : Value} : sliceL [x0, x1, x2, x3, x4, x5, x6, x7, x8, x9, x10, x11, x12] 7 1 = some [x7] := rfl
theorem Y2 {x0 x1 x2 x3 x4 x5 x6 x7 x8 x9 x10 x11 x12 : Value} : sliceL [x0, x1, x2, x3, x4, x5, x6, x7, x8, x9, x10, x11, x12] 8 1 = some [x8] := rfl
theorem Y3 {x0 x1 x2 x3 x4 x5 x6 x7 x8 x9 x10 x11 x12 : Value} : sliceL [x0, x1, x2, x3, x4, x5, x6, x7, x8, x9, x10, x11, x12] 9 1 = some [x9] := rfl
theorem Y4 {x0 x1 x2 x3 x4 x5 x6 x7 x8 x9 x10 x11 x12 : Value} : sliceL [x0, x1, x2, x3, x4, x5, x6, x7, x8, x9, x10, x11, x12] 10 1 = some [x10] := rfl
theorem Y5 {x0 x1 x2 x3 x4 x5 x6 x7 x8 x9 x10 x11 x12 : Value} : sliceL [x0, x1, x2, x3, x4, x5, x6, x7, x8, x9, x10, x11, x12] 11 1 = some [x11] := rfl
theorem Y6 {x0 x1 x2 x3 x4 x5 x6 x7 x8 x9 x10 x11 x12 : Value} : sliceL [x0, x1, x2, x3, x4, x5, x6, x7, x8, x9, x10, x11, x12] 12 1 = some [x12] := rfl
theorem Y7 {x0 x1 x2 x3 x4 x5 x6 x7 x8 x9 x10 x11 x12 : Value} : sliceL [x0, x1, x2, x3, x4, x5, x6, x7, x8, x9, x10, x11, x12] 0 13 = some [x0, x1, x2, x3, x4, x5, x6, x7, x8, x9, x10, x11, x12] := rfl
theorem Y8 {x0 x1 x2 x3 x4 x5 x6 x7 x8 x9 x10 x11 x12 : Value} : sliceL [x0, x1, x2, x3, x4, x5, x6, x7, x8, x9, x10, x11, x12] 9 4 = some [x9, x10, x11, x12] := rfl
theorem Y9 {x0 x1 x2 x3 x4 x5 x6 x7 x8 x9 x10 x11 x12 y0 y1 y2 y3 y4 y5 y6 y7 y8 y9 y10 y11 y12 : Value} : setAll [x0, x1, x2, x3, x4, x5, x6, x7, x8, x9, x10, x11, x12] 0 [y0, y1, y2, y3, y4, y5, y6, y7, y8, y9, y10, y11, y12] = [y0, y1, y2, y3, y4, y5, y6, y7, y8, y9, y10, y11, y12] := rfl
theorem Xa {x0 x1 x2 x3 x4 x5 x6 x7 x8 x9 x10 x11 x12 : Value} : List.length [x0, x1, x2, x3, x4, x5, x6, x7, x8, x9, x10, x11, x12] = 13 := rfl
def rowAt : List (List Value × Nat) → Nat → Option (List Value × Nat)
  | [], _ => none
  | r :: _, 0 => some r
  | _ :: l, i + 1 => rowAt l i
theorem rowAt_eq : ∀ (L : List (List Value × Nat)) (k : Nat), rowAt L k = L[k]?
  | [], _ => rfl
  | _ :: _, 0 => rfl
  | _ :: l, k + 1 => rowAt_eq l k
def setRow : List (List Value × Nat) → Nat → List Value × Nat → List (List Value × Nat)
  | [], _, _ => []
  | _ :: l, 0, r => r :: l
  | x :: l, i + 1, r => x :: setRow l i r
theorem setRow_eq : ∀ (L : List (List Value × Nat)) (k : Nat) (r : List Value × Nat), setRow L k r = L.set k r
  | [], _, _ => rfl
  | _ :: _, 0, _ => rfl
  | x :: l, k + 1, r => by simp only [setRow, List.set_cons_succ, setRow_eq l k r]
def ldR (x : Option (List Value × Nat)) (d : Option (List Value)) (o n : Nat) : Option (List Value) := match x with | some r => sliceL r.1 o n | none => d
theorem ldR_some {r : List Value} {e : Nat} {d : Option (List Value)} {o n : Nat} : ldR (some (r, e)) d o n = sliceL r o n := rfl
theorem load_at (σ : AHeap) (L : List (List Value × Nat)) (k o n : Nat) : (σ.grow L).loadN (σ.n + k) o n = ldR (rowAt L k) ((σ.grow L).loadN (σ.n + k) o n) o n := by
  rw [rowAt_eq]
  cases h : L[k]? with
  | none => rfl
  | some r =>
    show _ = sliceL r.1 o n
    unfold sliceL
    split
    · next hl => exact load_new σ L k o n h hl
    · next hl =>
      unfold AHeap.loadN AHeap.row?
      rw [grow_new σ L k h]
      simp only [rowOf, AHeap.alive, if_true]
      rw [if_neg]
      intro hb
      exact hl (Nat.le_of_ble_eq_true hb)
theorem rowAt_0 { r : List Value × Nat} {l : List (List Value × Nat)} : rowAt (r :: l) 0 = some r := rfl
theorem setRow_0 { r q : List Value × Nat} {l : List (List Value × Nat)} : setRow (r :: l) 0 q = q :: l := rfl
theorem Xb {σ : AHeap} { r : List Value} { e : Nat} {l : List (List Value × Nat)} {o n : Nat} : (σ.grow ((r, e) :: l)).loadN (σ.n) o n = sliceL r o n := load_at σ _ 0 o n
theorem rowAt_1 {a0 r : List Value × Nat} {l : List (List Value × Nat)} : rowAt (a0 :: r :: l) 1 = some r := rfl
theorem setRow_1 {a0 r q : List Value × Nat} {l : List (List Value × Nat)} : setRow (a0 :: r :: l) 1 q = a0 :: q :: l := rfl
theorem Xc {σ : AHeap} {a0 r : List Value} {b0 e : Nat} {l : List (List Value × Nat)} {o n : Nat} : (σ.grow ((a0, b0) :: (r, e) :: l)).loadN (σ.n + 1) o n = sliceL r o n := load_at σ _ 1 o n
theorem rowAt_2 {a0 a1 r : List Value × Nat} {l : List (List Value × Nat)} : rowAt (a0 :: a1 :: r :: l) 2 = some r := rfl
theorem setRow_2 {a0 a1 r q : List Value × Nat} {l : List (List Value × Nat)} : setRow (a0 :: a1 :: r :: l) 2 q = a0 :: a1 :: q :: l := rfl
theorem Xd {σ : AHeap} {a0 a1 r : List Value} {b0 b1 e : Nat} {l : List (List Value × Nat)} {o n : Nat} : (σ.grow ((a0, b0) :: (a1, b1) :: (r, e) :: l)).loadN (σ.n + 2) o n = sliceL r o n := load_at σ _ 2 o n
theorem rowAt_3 {a0 a1 a2 r : List Value × Nat} {l : List (List Value × Nat)} : rowAt (a0 :: a1 :: a2 :: r :: l) 3 = some r := rfl
theorem setRow_3 {a0 a1 a2 r q : List Value × Nat} {l : List (List Value × Nat)} : setRow (a0 :: a1 :: a2 :: r :: l) 3 q = a0 :: a1 :: a2 :: q :: l := rfl
theorem Xe {σ : AHeap} {a0 a1 a2 r : List Value} {b0 b1 b2 e : Nat} {l : List (List Value × Nat)} {o n : Nat} : (σ.grow ((a0, b0) :: (a1, b1) :: (a2, b2) :: (r, e) :: l)).loadN (σ.n + 3) o n = sliceL r o n := load_at σ _ 3 o n
theorem rowAt_4 {a0 a1 a2 a3 r : List Value × Nat} {l : List (List Value × Nat)} : rowAt (a0 :: a1 :: a2 :: a3 :: r :: l) 4 = some r := rfl
theorem setRow_4 {a0 a1 a2 a3 r q : List Value × Nat} {l : List (List Value × Nat)} : setRow (a0 :: a1 :: a2 :: a3 :: r :: l) 4 q = a0 :: a1 :: a2 :: a3 :: q :: l := rfl
theorem Xf {σ : AHeap} {a0 a1 a2 a3 r : List Value} {b0 b1 b2 b3 e : Nat} {l : List (List Value × Nat)} {o n : Nat} : (σ.grow ((a0, b0) :: (a1, b1) :: (a2, b2) :: (a3, b3) :: (r, e) :: l)).loadN (σ.n + 4) o n = sliceL r o n := load_at σ _ 4 o n
theorem rowAt_5 {a0 a1 a2 a3 a4 r : List Value × Nat} {l : List (List Value × Nat)} : rowAt (a0 :: a1 :: a2 :: a3 :: a4 :: r :: l) 5 = some r := rfl
theorem setRow_5 {a0 a1 a2 a3 a4 r q : List Value × Nat} {l : List (List Value × Nat)} : setRow (a0 :: a1 :: a2 :: a3 :: a4 :: r :: l) 5 q = a0 :: a1 :: a2 :: a3 :: a4 :: q :: l := rfl
theorem Xg {σ : AHeap} {a0 a1 a2 a3 a4 r : List Value} {b0 b1 b2 b3 b4 e : Nat} {l : List (List Value × Nat)} {o n : Nat} : (σ.grow ((a0, b0) :: (a1, b1) :: (a2, b2) :: (a3, b3) :: (a4, b4) :: (r, e) :: l)).loadN (σ.n + 5) o n = sliceL r o n := load_at σ _ 5 o n
def stR (σ : AHeap) (L : List (List Value × Nat)) (k : Nat) (x : Option (List Value × Nat)) (d : Option AHeap) (o : Nat) (vs : List Value) : Option AHeap := match x with
  | some r => if o + vs.length ≤ r.1.length ∧ vs.all isCell = true then some (σ.grow (setRow L k (setAll r.1 o vs, r.2))) else d
  | none => d
theorem store_at {σ : AHeap} (hlow : σ.low ≤ σ.n) (L : List (List Value × Nat)) (k o : Nat) (vs : List Value) : (σ.grow L).storeN (σ.n + k) o vs = stR σ L k (rowAt L k) ((σ.grow L).storeN (σ.n + k) o vs) o vs := by
  rw [rowAt_eq]
  cases h : L[k]? with
  | none => rfl
  | some r =>
    unfold stR
    simp only
    split
    · next hl => rw [setRow_eq]; exact store_new σ L k o vs hlow h hl.1 hl.2
    · rfl
theorem Xh {σ : AHeap} (hlow : σ.low ≤ σ.n) { r : List Value} { e : Nat} {l : List (List Value × Nat)} {o : Nat} {vs : List Value} : (σ.grow ((r, e) :: l)).storeN (σ.n) o vs =
    if o + vs.length ≤ r.length ∧ vs.all isCell = true then some (σ.grow ((setAll r o vs, e) :: l)) else (σ.grow ((r, e) :: l)).storeN (σ.n) o vs := store_at hlow _ 0 o vs
theorem Xj {σ : AHeap} (hlow : σ.low ≤ σ.n) {a0 r : List Value} {b0 e : Nat} {l : List (List Value × Nat)} {o : Nat} {vs : List Value} : (σ.grow ((a0, b0) :: (r, e) :: l)).storeN (σ.n + 1) o vs =
    if o + vs.length ≤ r.length ∧ vs.all isCell = true then some (σ.grow ((a0, b0) :: (setAll r o vs, e) :: l)) else (σ.grow ((a0, b0) :: (r, e) :: l)).storeN (σ.n + 1) o vs := store_at hlow _ 1 o vs
theorem Xk {σ : AHeap} (hlow : σ.low ≤ σ.n) {a0 a1 r : List Value} {b0 b1 e : Nat} {l : List (List Value × Nat)} {o : Nat} {vs : List Value} : (σ.grow ((a0, b0) :: (a1, b1) :: (r, e) :: l)).storeN (σ.n + 2) o vs =
    if o + vs.length ≤ r.length ∧ vs.all isCell = true then some (σ.grow ((a0, b0) :: (a1, b1) :: (setAll r o vs, e) :: l)) else (σ.grow ((a0, b0) :: (a1, b1) :: (r, e) :: l)).storeN (σ.n + 2) o vs := store_at hlow _ 2 o vs
theorem Xl {σ : AHeap} (hlow : σ.low ≤ σ.n) {a0 a1 a2 r : List Value} {b0 b1 b2 e : Nat} {l : List (List Value × Nat)} {o : Nat} {vs : List Value} : (σ.grow ((a0, b0) :: (a1, b1) :: (a2, b2) :: (r, e) :: l)).storeN (σ.n + 3) o vs =
    if o + vs.length ≤ r.length ∧ vs.all isCell = true then some (σ.grow ((a0, b0) :: (a1, b1) :: (a2, b2) :: (setAll r o vs, e) :: l)) else (σ.grow ((a0, b0) :: (a1, b1) :: (a2, b2) :: (r, e) :: l)).storeN (σ.n + 3) o vs := store_at hlow _ 3 o vs
theorem Xm {σ : AHeap} (hlow : σ.low ≤ σ.n) {a0 a1 a2 a3 r : List Value} {b0 b1 b2 b3 e : Nat} {l : List (List Value × Nat)} {o : Nat} {vs : List Value} : (σ.grow ((a0, b0) :: (a1, b1) :: (a2, b2) :: (a3, b3) :: (r, e) :: l)).storeN (σ.n + 4) o vs =
    if o + vs.length ≤ r.length ∧ vs.all isCell = true then some (σ.grow ((a0, b0) :: (a1, b1) :: (a2, b2) :: (a3, b3) :: (setAll r o vs, e) :: l)) else (σ.grow ((a0, b0) :: (a1, b1) :: (a2, b2) :: (a3, b3) :: (r, e) :: l)).storeN (σ.n + 4) o vs := store_at hlow _ 4 o vs
theorem Xn {σ : AHeap} (hlow : σ.low ≤ σ.n) {a0 a1 a2 a3 a4 r : List Value} {b0 b1 b2 b3 b4 e : Nat} {l : List (List Value × Nat)} {o : Nat} {vs : List Value} : (σ.grow ((a0, b0) :: (a1, b1) :: (a2, b2) :: (a3, b3) :: (a4, b4) :: (r, e) :: l)).storeN (σ.n + 5) o vs =
    if o + vs.length ≤ r.length ∧ vs.all isCell = true then some (σ.grow ((a0, b0) :: (a1, b1) :: (a2, b2) :: (a3, b3) :: (a4, b4) :: (setAll r o vs, e) :: l)) else (σ.grow ((a0, b0) :: (a1, b1) :: (a2, b2) :: (a3, b3) :: (a4, b4) :: (r, e) :: l)).storeN (σ.n + 5) o vs := store_at hlow _ 5 o vs
theorem Yq {k : IntKind} {n : Int} : isCell (.int k n) = true := rfl
theorem Yr {b : Bool} : isCell (.bool b) = true := rfl
theorem isCell_ptr {a : Option Addr} : isCell (.pointer a) = true := rfl
theorem Ys {b o : Nat} : isCell (here b o) = true := rfl
theorem Yt {a : Option Addr} {l f : Nat} : isCell (.slice a l f) = true := rfl
theorem Ym {l : List Value} : (Value.agg l.toArray).cells.toList = l := by simp [Value.cells]
theorem Yn {k : IntKind} {n : Int} : (Value.int k n).cells.toList = [.int k n] := rfl
theorem Yo {b : Bool} : (Value.bool b).cells.toList = [.bool b] := rfl
theorem Yp {a : Option Addr} {l f : Nat} : (Value.slice a l f).cells.toList = [.slice a l f] := rfl
theorem Yl {σ : AHeap} : σ.fresh.low = σ.n := rfl
theorem fresh_n {σ : AHeap} : σ.fresh.n = σ.n := rfl
theorem Xi {σ : AHeap} : σ.fresh.low ≤ σ.fresh.n := Nat.le_refl _
theorem grow_len0 {σ : AHeap} {L : List (List Value × Nat)} : (σ.grow L).n = σ.n + L.length := rfl
end Go.Hai
