/-
  The abstract interpreter: its form of code, its heap, the evaluator; and how the loaded code is turned into that form. No proof of the program stands here.
-/
import Derived.Test.YtphbidcbepnihaaH1
import GoSem.Machine.Exec
import GoSem.Dispatch
import Derived.Laws.Externs
namespace Go.Hai
open Go

/- values without an address -/
def scal : Value → Bool
  | .bool _ | .int _ _ | .float _ _ | .complex _ _ _ | .string _ | .pointer none | .map none | .chan none | .nilFunc | .nilIface => true
  | .slice none 0 0 => true
  | _ => false
def flatC : Value → Bool
  | .agg cs => cs.toList.all scal
  | v => scal v
def flat : Value → Bool
  | .tuple vs => vs.toList.all flatC
  | .func _ a b => a.toList.isEmpty && b.toList.isEmpty
  | v => flatC v
def isCell : Value → Bool
  | .agg _ | .tuple _ => false
  | _ => true

inductive AObj where
  | row (cs : Tr Value) (len es : Nat) (top rw : Bool) (fam : Option (Nat × Nat))
  | obj (o : Obj)

structure AHeap where
  t : Tr AObj
  n : Nat
  nf : Nat
  dead : List (Nat × Nat)
  low : Nat

abbrev Tmps := Tr Value
def tget (t : Tmps) (i : Nat) : Value := match t.get i with | some v => v | none => undef
def ev (t : Tmps) : Operand → Value
  | .tmp i => tget t i
  | .const v => v
  | .func f => .func (.func f) #[] #[]
  | .global _ => undef

def minN (a b : Nat) : Nat := if Nat.ble a b then a else b
def inDead (p : Nat × Nat) : List (Nat × Nat) → Bool
  | [] => false
  | q :: l => (Nat.beq p.1 q.1 && Nat.beq p.2 q.2) || inDead p l
def AHeap.alive (σ : AHeap) : Option (Nat × Nat) → Bool
  | none => true
  | some p => !(inDead p σ.dead)
def cellsFrom (cs : Tr Value) : Nat → Nat → Option (List Value)
  | _, 0 => some []
  | o, n + 1 => match cs.get o with
    | some v => (match cellsFrom cs (o + 1) n with | some l => some (v :: l) | none => none)
    | none => none
def AHeap.row? (σ : AHeap) (b : Nat) : Option (Tr Value × Nat) :=
  match σ.t.get b with
  | some (.row cs len _ _ _ fam) => if σ.alive fam then some (cs, len) else none
  | _ => none
def AHeap.loadN (σ : AHeap) (b o n : Nat) : Option (List Value) :=
  match σ.row? b with
  | some (cs, len) => if Nat.ble (o + n) len then cellsFrom cs o n else none
  | none => none
def kill : Option (Nat × Nat) → List (Nat × Nat) → List (Nat × Nat)
  | none, l => l
  | some p, l => p :: l
def lowOf : Option (Nat × Nat) → Nat → Nat → Nat
  | none, l, b => minN l b
  | some p, l, b => minN (minN l b) p.2
def AHeap.wrote (σ : AHeap) (b : Nat) (r : AObj) (fam : Option (Nat × Nat)) : AHeap :=
  { t := σ.t.ins b r, n := σ.n, nf := σ.nf, dead := kill fam σ.dead, low := lowOf fam σ.low b }
def AHeap.storeN (σ : AHeap) (b o : Nat) (vs : List Value) : Option AHeap :=
  match σ.t.get b with
  | some (.row cs len es top true fam) =>
    if σ.alive fam && Nat.ble (o + vs.length) len && vs.all isCell then
      some (σ.wrote b (.row (cs.put o vs) len es top true none) fam)
    else none
  | _ => none
def AHeap.push (σ : AHeap) (o : AObj) : AHeap := { σ with t := σ.t.ins σ.n o, n := σ.n + 1 }
def AHeap.newRow (σ : AHeap) (cs : List Value) (es : Nat) : AHeap := σ.push (.row (Tr.of cs) cs.length es true true none)
def here (b o : Nat) : Value := .pointer (some ⟨b, o, none⟩)

inductive AOp where
  | mv (x : Operand)
  | pick (c a b : Operand)
  | alloc (z : List Value) (es : Nat)
  | box (es : Nat) (x : Operand)
  | build (z : List Value) (ps : List (Nat × Nat × Operand))
  | buildSl (z : List Value) (sz len : Nat) (ps : List (Nat × Nat × Operand))
  | load (agg : Bool) (n : Nat) (x : Operand)
  | store (n : Nat) (a x : Operand)
  | nilck (x : Operand)
  | bin (op : BinOp) (x y : Operand)
  | eqS (neg : Bool) (ls : List (Nat × Nat)) (x y : Operand)
  | un (op : UnOp) (x : Operand)
  | conv (k : IntKind) (x : Operand)
  | mkFn (f : FuncId) (first cap : List Operand)
  | mkMap
  | mkSl (z : List Value) (bytes : Nat) (l c : Operand)
  | slS (sz : Nat) (x : Operand) (lo hi mx : Option Operand)
  | slStr (x : Operand) (lo hi : Option Operand)
  | fldA (off : Nat) (x : Operand)
  | fld (agg : Bool) (off n : Nat) (x : Operand)
  | idxA (sz : Nat) (x i : Operand)
  | idxArr (len sz : Nat) (x i : Operand)
  | idxS (x i : Operand)
  | lookup (k : IntKind) (z : Value) (x i : Operand) (ok : Bool)
  | mupd (k : IntKind) (m i v : Operand)
  | rng (x : Operand)
  | next (x : Operand)
  | ext (x : Operand) (i : Nat)
  | lenS (x : Operand)
  | lenStr (x : Operand)
  | app (sz bytes : Nat) (s x : Operand)
  | call (f : FuncId) (xs : List Operand)
  | callV (x : Operand) (xs : List Operand)
  | eqNil (neg : Bool) (x : Operand)
  | eqB (neg : Bool) (x y : Operand)
  | max2 (x y : Operand)
  | idxB (x y : Operand)
  | bad

structure AOper where
  dst : Option Nat
  guard : Option (Nat × Bool)
  op : AOp

inductive ACode where
  | skip
  | reg (ops : List AOper)
  | drw (ops : List AOper) (bef : List Nat)
  | seq (a b : ACode)
  | cond (c : Operand) (a b : ACode)
  | block (id : Nat) (a : ACode)
  | loop (a : ACode)
  | exit (id : Nat)
  | ret
  | bad

inductive ARes where
  | tmp (i : Nat)
  | cell (i : Nat) (agg : Bool) (n : Nat)

structure AFn where
  n : Nat
  res : List ARes
  body : ACode

inductive AEx where
  | normal
  | exit (id : Nat)
  | ret

/- ---- operations ---- -/
def putAt (l : List Value) (o : Nat) (vs : List Value) : List Value := l.take o ++ (vs ++ l.drop (o + vs.length))
def fillL (t : Tmps) : List Value → List (Nat × Nat × Operand) → Option (List Value)
  | z, [] => some z
  | z, (o, n, x) :: ps =>
    let vs := (ev t x).cells.toList
    if Nat.beq vs.length n && Nat.ble (o + n) z.length then fillL t (putAt z o vs) ps else none

def abin (op : BinOp) (x y : Value) : Option Value :=
  match x, y with
  | .int k a, .int k' b =>
    match op with
    | .shl => if b < 0 then none else some (.int k (k.wrap (a * 2 ^ (min b.toNat k.bits))))
    | .shr => if b < 0 then none else some (.int k (a.fdiv (2 ^ (min b.toNat k.bits))))
    | _ =>
      if k = k' then
        match op with
        | .add => some (.int k (k.wrap (a + b)))
        | .sub => some (.int k (k.wrap (a - b)))
        | .mul => some (.int k (k.wrap (a * b)))
        | .quo => if b = 0 then none else some (.int k (k.wrap (a.tdiv b)))
        | .rem => if b = 0 then none else some (.int k (a.tmod b))
        | .and => some (.int k (k.wrap (BitVec.ofInt k.bits a &&& BitVec.ofInt k.bits b).toNat))
        | .or => some (.int k (k.wrap (BitVec.ofInt k.bits a ||| BitVec.ofInt k.bits b).toNat))
        | .xor => some (.int k (k.wrap (BitVec.ofInt k.bits a ^^^ BitVec.ofInt k.bits b).toNat))
        | .andNot => some (.int k (k.wrap (BitVec.ofInt k.bits a &&& ~~~BitVec.ofInt k.bits b).toNat))
        | .eql => some (.bool (a == b))
        | .neq => some (.bool (a != b))
        | .lss => some (.bool (a < b))
        | .leq => some (.bool (a ≤ b))
        | .gtr => some (.bool (a > b))
        | .geq => some (.bool (a ≥ b))
        | _ => none
      else none
  | .string a, .string b =>
    match op with
    | .eql => some (.bool (a.toList == b.toList))
    | .neq => some (.bool (!(a.toList == b.toList)))
    | _ => none
  | _, _ => none

def eqScal (k : Nat) (x y : Value) : Option Bool :=
  match k, x, y with
  | 0, .int k a, .int k' b => if k = k' then some (a == b) else none
  | 1, .bool a, .bool b => some (a == b)
  | 2, .string a, .string b => some (a.toList == b.toList)
  | _, _, _ => none
def eqLs (xs ys : List Value) : List (Nat × Nat) → Option Bool
  | [] => some true
  | (i, k) :: ls => match xs[i]?, ys[i]? with
    | some a, some b => (match eqScal k a b with
      | some r => (match eqLs xs ys ls with | some q => some (r && q) | none => none)
      | none => none)
    | _, _ => none

/- the same, where a word may be one that is not known -/
def isZero (v : Value) : Bool := match v with | .int .u64 (.ofNat 0) => true | _ => false
def eqScalA (k : Nat) (x y : Value) : Option Bool :=
  match k with
  | 0 => (match x with
    | .chan (some i) => (match y with
      | .chan (some j) => if Nat.beq i j then some true else none
      | _ => if isZero y then some false else none)
    | _ => (match y with
      | .chan (some _) => if isZero x then some false else none
      | _ => eqScal 0 x y))
  | k + 1 => eqScal (k + 1) x y
def abinA (op : BinOp) (x y : Value) : Option Value :=
  match x with
  | .chan (some _) => if isZero y then (match op with | .eql => some (.bool false) | .neq => some (.bool true) | _ => none) else none
  | _ => abin op x y
def eqLsA (xs ys : List Value) : List (Nat × Nat) → Option Bool
  | [] => some true
  | (i, k) :: ls => match xs[i]?, ys[i]? with
    | some a, some b => (match eqScalA k a b with
      | some r => (match eqLsA xs ys ls with | some q => some (r && q) | none => none)
      | none => none)
    | _, _ => none

def aun (op : UnOp) (x : Value) : Option Value :=
  match op, x with
  | .neg, .int k n => some (.int k (k.wrap (0 - n)))
  | .xor, .int k n => some (.int k (k.wrap (BitVec.ofInt k.bits (if k.signed then -1 else k.max) ^^^ BitVec.ofInt k.bits n).toNat))
  | .not, .bool b => some (.bool !b)
  | _, _ => none

def bound (v : Option Value) (d top : Nat) : Option Nat :=
  match v with
  | none => some d
  | some (.int _ i) => if 0 ≤ i ∧ i ≤ top then some i.toNat else none
  | some _ => none

def sliceOp (σ : AHeap) (sz : Nat) (x : Value) (lo hi mx : Option Value) : Option Value :=
  match x with
  | .slice a l f =>
    match mx with
    | some (.int _ 0) => (match bound hi l 0, bound lo 0 0 with
      | some _, some _ => if (match hi with | some _ => true | none => false) then some (.slice a 0 0) else none
      | _, _ => none)
    | some _ => none
    | none =>
      match bound hi l l with
      | none => none
      | some h => match bound lo 0 h with
        | none => none
        | some k =>
          match a with
          | none => some (.slice none 0 0)
          | some ⟨b, o, _⟩ =>
            let f' := if Nat.beq f 1 then (match σ.t.get b with | some (.row _ _ es _ _ _) => if Nat.beq es sz then 1 else 2 | _ => 2) else f
            some (.slice (some ⟨b, o + k * sz, none⟩) (h - k) f')
  | _ => none

def srcCells (σ : AHeap) (sz : Nat) : Value → Option (Nat × List Value)
  | .slice none _ _ => some (0, [])
  | .slice (some ⟨b, o, _⟩) m _ => match σ.loadN b o (m * sz) with | some xs => some (m, xs) | none => none
  | _ => none
def tieP (σ : AHeap) (b : Nat) : Option (Nat × Nat) → Nat × Nat
  | some p => p
  | none => (σ.nf, b)
def tieNf (σ : AHeap) : Option (Nat × Nat) → Nat
  | some _ => σ.nf
  | none => σ.nf + 1
def AHeap.tie (σ : AHeap) (b : Nat) (cs : Tr Value) (len es : Nat) (fam : Option (Nat × Nat)) : AHeap :=
  { t := σ.t.ins b (.row cs len es false true (some (tieP σ b fam))), n := σ.n, nf := tieNf σ fam, dead := σ.dead, low := minN σ.low b }
def appOp (σ : AHeap) (sz bytes : Nat) (s x : Value) : Option (Value × AHeap) :=
  match srcCells σ sz x with
  | none => none
  | some (m, xs) =>
    match s with
    | .slice a l f =>
      if Nat.beq m 0 then some (s, σ) else
      if !(Nat.ble ((l + m) * bytes) 140737488355328 && Nat.ble (l + m) 140737488355328) then none else
      if Nat.beq f 0 then
        if Nat.beq l 0 then some (.slice (some ⟨σ.n, 0, none⟩) m 1, σ.newRow xs sz) else none
      else match a with
        | some ⟨b, 0, _⟩ => match σ.t.get b with
          | some (.row cs len es true true fam) =>
            if σ.alive fam && Nat.beq es sz && Nat.beq (l * sz) len && Nat.beq f 1 && !(inDead (tieP σ b fam) σ.dead) then
              some (.slice (some ⟨σ.n, 0, none⟩) (l + m) 1, (σ.tie b cs len es fam).push (.row (cs.put len xs) (len + xs.length) sz true true (some (tieP σ b fam))))
            else none
          | _ => none
        | _ => none
    | _ => none

def asMap : Option AObj → Option (Array MapEntry × Nat)
  | some (.obj (.map es c)) => some (es, c)
  | _ => none

def aop (σ : AHeap) (t : Tmps) : AOp → Option (Value × AHeap)
  | .mv x => some (ev t x, σ)
  | .pick c a b => match ev t c with
    | .bool r => some (if r then ev t a else ev t b, σ)
    | _ => none
  | .alloc z es => some (here σ.n 0, σ.newRow z es)
  | .box es x => let vs := (ev t x).cells.toList; if vs.all isCell then some (here σ.n 0, σ.newRow vs es) else none
  | .build z ps => match fillL t z ps with | some cs => some (.agg cs.toArray, σ) | none => none
  | .buildSl z sz len ps => match fillL t z ps with
    | some cs => if cs.all isCell then some (.slice (some ⟨σ.n, 0, none⟩) len (if Nat.beq len 0 then 0 else 1), σ.newRow cs sz) else none
    | none => none
  | .load agg n x => match ev t x with
    | .pointer (some ⟨b, o, _⟩) => match σ.loadN b o n with
      | some vs => if agg then some (.agg vs.toArray, σ) else (match vs with | [v] => some (v, σ) | _ => none)
      | none => none
    | _ => none
  | .store n a x => match ev t a with
    | .pointer (some ⟨b, o, _⟩) =>
      let vs := (ev t x).cells.toList
      if Nat.beq vs.length n then (match σ.storeN b o vs with | some σ' => some (undef, σ') | none => none) else none
    | _ => none
  | .nilck x => match ev t x with
    | .pointer (some a) => some (.pointer (some a), σ)
    | _ => none
  | .bin op x y => match abinA op (ev t x) (ev t y) with | some v => some (v, σ) | none => none
  | .eqS neg ls x y => match ev t x, ev t y with
    | .agg xs, .agg ys => (match eqLsA xs.toList ys.toList ls with | some r => some (.bool (if neg then !r else r), σ) | none => none)
    | _, _ => none
  | .un op x => match aun op (ev t x) with | some v => some (v, σ) | none => none
  | .conv k x => match ev t x with
    | .int _ n => some (.int k (k.wrap n), σ)
    | _ => none
  | .mkFn f first cap => some (.func (.func f) (first.map (ev t)).toArray (cap.map (ev t)).toArray, σ)
  | .mkMap => some (.map (some σ.n), σ.push (.obj (.map #[] 0)))
  | .mkSl z bytes l c => match ev t l, ev t c with
    | .int .i64 a, .int .i64 b =>
      if 0 ≤ a ∧ a ≤ b ∧ b * bytes ≤ 140737488355328 ∧ b ≤ 140737488355328 then
        some (.slice (some ⟨σ.n, 0, none⟩) a.toNat (if b = 0 then 0 else 1), σ.newRow (List.replicate a.toNat z).flatten z.length)
      else none
    | _, _ => none
  | .slS sz x lo hi mx => match sliceOp σ sz (ev t x) (lo.map (ev t)) (hi.map (ev t)) (mx.map (ev t)) with | some v => some (v, σ) | none => none
  | .slStr x lo hi => match ev t x with
    | .string s => match bound (hi.map (ev t)) s.size s.size with
      | some h => (match bound (lo.map (ev t)) 0 h with | some k => some (.string (s.extract k h), σ) | none => none)
      | none => none
    | _ => none
  | .fldA off x => match ev t x with
    | .pointer (some ⟨b, o, _⟩) => some (here b (o + off), σ)
    | _ => none
  | .fld agg off n x => match ev t x with
    | .agg cs => if agg then some (.agg (((cs.toList.drop off).take n).toArray), σ) else (match cs.toList[off]? with | some v => some (v, σ) | none => none)
    | _ => none
  | .idxA sz x i => match ev t x, ev t i with
    | .slice (some ⟨b, o, _⟩) l _, .int _ i => if 0 ≤ i ∧ i < l then some (here b (o + i.toNat * sz), σ) else none
    | _, _ => none
  | .idxArr len sz x i => match ev t x, ev t i with
    | .pointer (some ⟨b, o, _⟩), .int _ i => if 0 ≤ i ∧ i < len then some (here b (o + i.toNat * sz), σ) else none
    | _, _ => none
  | .idxS x i => match ev t x, ev t i with
    | .string s, .int _ i => if 0 ≤ i then (match s[i.toNat]? with | some c => some (.int .u8 c.toNat, σ) | none => none) else none
    | _, _ => none
  | .lookup k z x i ok => match ev t x, ev t i with
    | .map (some b), .int k' i => match asMap (σ.t.get b) with
      | some (es, _) => if k = k' then (match Instr.findNow (.int k) (.int k i) es.toList 0 with
        | some (some (_, v)) => if scal v then some (if ok then .tuple #[v, .bool true] else v, σ) else none
        | some none => some (if ok then .tuple #[z, .bool false] else z, σ)
        | none => none) else none
      | none => none
    | _, _ => none
  | .mupd k m i v => match ev t m, ev t i with
    | .map (some b), .int k' i => match asMap (σ.t.get b) with
      | some (es, c) =>
        if k = k' ∧ scal (ev t v) = true then
          (match Instr.findNow (.int k) (.int k i) es.toList 0 with
          | some none => some (undef, { σ with t := σ.t.ins b (.obj (.map (es.push { key := .int k i, val := ev t v, born := c }) (c + 1))), low := minN σ.low b })
          | some (some (j, _)) => some (undef, { σ with t := σ.t.ins b (.obj (.map (es.modify j fun e => { e with key := .int k i, val := ev t v }) c)), low := minN σ.low b })
          | none => none)
        else none
      | none => none
    | _, _ => none
  | .rng x => match ev t x with
    | .string s => some (here σ.n 0, σ.push (.obj (.stringIter s 0)))
    | _ => none
  | .next x => match ev t x with
    | .pointer (some ⟨b, 0, _⟩) => match σ.t.get b with
      | some (.obj (.stringIter s pos)) =>
        if pos < s.size then
          some (.tuple #[.bool true, .int .i64 pos, .int .i32 (Utf8.decode s pos).1], { σ with t := σ.t.ins b (.obj (.stringIter s (pos + (Utf8.decode s pos).2))), low := minN σ.low b })
        else some (.tuple #[.bool false], σ)
      | _ => none
    | _ => none
  | .ext x i => match ev t x with
    | .tuple vs => match vs.toList[i]? with
      | some v => some (v, σ)
      | none => none
    | _ => none
  | .lenS x => match ev t x with
    | .slice _ l _ => some (.int .i64 l, σ)
    | _ => none
  | .lenStr x => match ev t x with
    | .string s => some (.int .i64 s.size, σ)
    | _ => none
  | .app sz bytes s x => appOp σ sz bytes (ev t s) (ev t x)
  | .call _ _ => none
  | .callV _ _ => none
  | .eqNil neg x => match ev t x with
    | .slice a _ _ => some (.bool (if neg then !a.isNone else a.isNone), σ)
    | _ => none
  | .eqB neg x y => match ev t x, ev t y with
    | .bool a, .bool b => some (.bool (if neg then !(a == b) else a == b), σ)
    | _, _ => none
  | .max2 x y => match ev t x, ev t y with
    | .int k a, .int k' b => if k = k' then some (.int k (if a < b then b else a), σ) else none
    | _, _ => none
  | .idxB x y => match ev t x, ev t y with
    | .string s, .int .u8 c => some (.int .i64 (firstIdx s c.toNat.toUInt8), σ)
    | _, _ => none
  | .bad => none

def opXs : AOp → List Operand
  | .mv x | .box _ x | .load _ _ x | .nilck x | .un _ x | .conv _ x | .fldA _ x | .fld _ _ _ x | .rng x | .next x | .ext x _ | .lenS x | .lenStr x | .eqNil _ x => [x]
  | .pick c a b => [c, a, b]
  | .alloc _ _ | .mkMap | .bad => []
  | .build _ ps | .buildSl _ _ _ ps => ps.map (·.2.2)
  | .store _ a x | .bin _ a x | .eqS _ _ a x | .mkSl _ _ a x | .idxA _ a x | .idxArr _ _ a x | .idxS a x | .lookup _ _ a x _ | .app _ _ a x | .eqB _ a x | .max2 a x | .idxB a x => [a, x]
  | .mkFn _ xs ys => xs ++ ys
  | .slS _ x lo hi mx => x :: (lo.toList ++ (hi.toList ++ mx.toList))
  | .slStr x lo hi => x :: (lo.toList ++ hi.toList)
  | .mupd _ m i v => [m, i, v]
  | .call _ xs => xs
  | .callV x xs => x :: xs

abbrev CallF := FuncId → List Value → AHeap → Option (Value × AHeap)

def aoper (call : CallF) (o : AOp) (t : Tmps) (σ : AHeap) : Option (Value × AHeap) :=
  match o with
  | .call f xs => call f (xs.map (ev t)) σ
  | .callV x xs => match ev t x with
    | .func (.func f) first cap => call f (first.toList ++ (xs.map (ev t) ++ cap.toList)) σ
    | _ => none
  | o => aop σ t o

def setD (t : Tmps) (d : Option Nat) (v : Value) : Tmps := match d with | some i => t.ins i v | none => t
def wants (t : Tmps) : Option (Nat × Bool) → Bool
  | none => true
  | some (j, w) => match tget t j with | .bool b => b == w | _ => false

def runOps (call : CallF) : List AOper → Tmps → AHeap → Option (Tmps × AHeap)
  | [], t, σ => some (t, σ)
  | o :: os, t, σ =>
    if wants t o.guard then
      match aoper call o.op t σ with
      | some (v, σ') => runOps call os (setD t o.dst v) σ'
      | none => none
    else runOps call os (setD t o.dst undef) σ

/- what an operation of an open region did: nothing with the heap; it read a row; it made new rows alone; it changed one that was there -/
inductive AKind where
  | pure
  | load (b : Nat)
  | quiet
  | eff (b : Option Nat)

def pureOp : AOp → Bool
  | .mv _ | .pick .. | .build .. | .nilck _ | .bin .. | .eqS .. | .un .. | .conv .. | .mkFn .. | .slStr .. | .fldA .. | .fld .. | .idxA .. | .idxArr .. | .idxS .. | .ext .. | .lenS _ | .lenStr _ | .eqNil .. | .eqB .. | .max2 .. | .idxB .. => true
  | _ => false
def famOk (b : Nat) : Option AObj → Bool
  | some (.row _ _ _ _ _ none) => true
  | some (.row _ _ _ _ _ (some p)) => Nat.ble p.2 b
  | _ => false
def kindOf (o : AOp) (t : Tmps) (σ : AHeap) (still : Bool) : AKind :=
  if pureOp o then .pure else
  if still then (match o with
    | .load _ _ (.tmp y) => (match tget t y with
      | .pointer (some ⟨b, _, _⟩) => if Nat.blt b σ.n && famOk b (σ.t.get b) then .load b else .quiet
      | _ => .quiet)
    | _ => .quiet)
  else (match o with
    | .store _ a _ => (match ev t a with
      | .pointer (some ⟨b, _, _⟩) => (match σ.t.get b with | some (.row _ _ _ _ _ none) => .eff (some b) | _ => .eff none)
      | _ => .eff none)
    | _ => .eff none)

def runDraw (call : CallF) : List AOper → Tmps → AHeap → Option (Tmps × AHeap × List AKind)
  | [], t, σ => some (t, σ, [])
  | o :: os, t, σ =>
    if wants t o.guard then
      match aoper call o.op t { σ with low := σ.n } with
      | some (v, σ') =>
        (match runDraw call os (setD t o.dst v) { σ' with low := minN σ.low σ'.low } with
        | some (t', σ'', ks) => some (t', σ'', kindOf o.op t σ (Nat.beq σ'.low σ.n) :: ks)
        | none => none)
      | none => none
    else match runDraw call os (setD t o.dst undef) σ with
      | some (t', σ'', ks) => some (t', σ'', .pure :: ks)
      | none => none

/- may an operation stand in either order with one that changes something? -/
def mixes : AKind → AKind → Bool
  | .eff _, .pure => true
  | .eff (some b), .load c => !(Nat.beq b c)
  | _, _ => false
def isEff : AKind → Bool
  | .eff _ => true
  | _ => false
/- may it change something that was there? -/
def mayEff : AOp → Bool
  | .store .. | .mupd .. | .next _ | .app .. | .call .. | .callV .. | .bad => true
  | _ => false
def marks (ops : List AOper) (bef : List Nat) : List (Nat × Bool) := List.zipWith (fun o b => (b, mayEff o.op)) ops bef
/- the pairs of which one may change something, and that stand in no order -/
noncomputable def pairRow (i : Nat) (mi : Bool) (l : List (Nat × Bool)) : Nat → List (Nat × Nat) :=
  List.rec (fun _ => []) (fun p _ ih j => Bool.rec (ih (Nat.succ j)) (Bool.rec ((i, j) :: ih (Nat.succ j)) (ih (Nat.succ j)) (Nat.testBit p.1 i)) (mi || p.2)) l
noncomputable def risks (l : List (Nat × Bool)) : Nat → List (Nat × Nat) :=
  List.rec (fun _ => []) (fun p tl ih i => pairRow i p.2 tl (Nat.succ i) ++ ih (Nat.succ i)) l
def pairB : Option AKind → Option AKind → Bool
  | some ki, some kj => (!(isEff ki) && !(isEff kj)) || mixes ki kj || mixes kj ki
  | _, _ => false
noncomputable def drawOk (rk : List (Nat × Nat)) (ks : List AKind) : Bool :=
  List.rec true (fun p _ ih => Bool.rec false ih (pairB ks[p.1]? ks[p.2]?)) rk

def iter (body : Tmps → AHeap → Option (AEx × Tmps × AHeap)) : Nat → Tmps → AHeap → Option (AEx × Tmps × AHeap)
  | 0, _, _ => none
  | f + 1, t, σ => match body t σ with
    | some (.normal, t', σ') => iter body f t' σ'
    | some (.exit i, t', σ') => some (.exit i, t', σ')
    | some (.ret, t', σ') => some (.ret, t', σ')
    | none => none

noncomputable def acode (call : CallF) (fuel : Nat) : ACode → Tmps → AHeap → Option (AEx × Tmps × AHeap)
  | .skip, t, σ => some (.normal, t, σ)
  | .reg ops, t, σ => match runOps call ops t σ with | some (t', σ') => some (.normal, t', σ') | none => none
  | .drw ops bef, t, σ => match runDraw call ops t σ with
    | some (t', σ', ks) => if drawOk (risks (marks ops bef) 0) ks then some (.normal, t', σ') else none
    | none => none
  | .seq a b, t, σ => match acode call fuel a t σ with
    | some (.normal, t', σ') => acode call fuel b t' σ'
    | some (.exit i, t', σ') => some (.exit i, t', σ')
    | some (.ret, t', σ') => some (.ret, t', σ')
    | none => none
  | .cond c a b, t, σ => match ev t c with
    | .bool true => acode call fuel a t σ
    | .bool false => acode call fuel b t σ
    | _ => none
  | .block id a, t, σ => match acode call fuel a t σ with
    | some (.exit i, t', σ') => if Nat.beq i id then some (.normal, t', σ') else some (.exit i, t', σ')
    | some (.normal, t', σ') => some (.normal, t', σ')
    | some (.ret, t', σ') => some (.ret, t', σ')
    | none => none
  | .loop a, t, σ => iter (acode call fuel a) fuel t σ
  | .exit i, t, σ => some (.exit i, t, σ)
  | .ret, t, σ => some (.ret, t, σ)
  | .bad, _, _ => none

def resOne (t : Tmps) (σ : AHeap) : ARes → Option Value
  | .tmp i => some (tget t i)
  | .cell i agg n => match tget t i with
    | .pointer (some ⟨b, o, _⟩) => match σ.loadN b o n with
      | some vs => if agg then some (.agg vs.toArray) else (match vs with | [v] => some v | _ => none)
      | none => none
    | _ => none
def resAll (t : Tmps) (σ : AHeap) : List ARes → Option (List Value)
  | [] => some []
  | r :: rs => match resOne t σ r with
    | some v => (match resAll t σ rs with | some vs => some (v :: vs) | none => none)
    | none => none
def one : List Value → Value
  | [v] => v
  | vs => .tuple vs.toArray

noncomputable def acall (E : FuncId → Option AFn) (fuel : Nat) : Nat → CallF
  | 0, _, _, _ => none
  | d + 1, f, args, σ => match E f with
    | none => none
    | some fn => if Nat.ble args.length fn.n then (match acode (acall E fuel d) fuel fn.body (Tr.of args) { σ with low := σ.n } with
      | some (.exit _, _, _) => none
      | some (_, t, σ') => (match resAll t σ' fn.res with
        | some vs => some (if Nat.beq σ'.low σ.n && flat (one vs) then (one vs, σ) else (one vs, { σ' with low := minN σ.low σ'.low }))
        | none => none)
      | none => none) else none
end Go.Hai
