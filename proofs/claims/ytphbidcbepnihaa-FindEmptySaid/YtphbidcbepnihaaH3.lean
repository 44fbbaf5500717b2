/-
  The abstract interpreter: how the loaded code is turned into its form ('comp..'): by the types' own rows, once. No proof of the program stands here.
-/
import Derived.Test.YtphbidcbepnihaaH2
namespace Go.Hai
open Go

def okX : Operand → Bool
  | .tmp _ | .func _ => true
  | .const v => flat v
  | .global _ => false
def okXs (l : List Operand) : Bool := l.all okX
def okO : Option Operand → Bool
  | none => true
  | some x => okX x
def chk {α : Type} (b : Bool) (x : Option α) : Option α := match b with | true => x | false => none

def tAgg (P : Program) (t : TypeId) : Option Bool :=
  match P.underlying t with
  | some (.struct _) | some (.array _ _) => some true
  | some _ => some false
  | none => none
def tSize (P : Program) (t : TypeId) : Option Nat := (P.info? t).map (·.size)
def tBytes (P : Program) (t : TypeId) : Option Nat := (P.info? t).map (·.bytes)
def tZero (P : Program) (t : TypeId) : Option Value := (P.info? t).bind (·.zero)
def tZeroL (P : Program) (t : TypeId) : Option (List Value) :=
  match tZero P t, tSize P t with
  | some z, some n => chk (z.cells.toList.all scal && Nat.beq z.cells.toList.length n) (some z.cells.toList)
  | _, _ => none

/- where the parts of a plain struct or array stand that '==' holds against each other, and of which kind each is (0: whole number; 1: bool; 2: string) -/
def leafF (rec : TypeId → Nat → Option (List (Nat × Nat))) (P : Program) (n off : Nat) : List Field → Option (List (Nat × Nat))
  | [] => some []
  | f :: fs => match tSize P f.type, rec f.type (off + f.offset), leafF rec P n off fs with
    | some m, some k, some l => chk (!(f.name == "_") && Nat.ble (f.offset + m) n && !(Nat.beq m 0)) (some (k ++ l))
    | _, _, _ => none
def leafI (rec : Nat → Option (List (Nat × Nat))) (s n off : Nat) : List Nat → Option (List (Nat × Nat))
  | [] => some []
  | i :: is => match rec (off + i * s), leafI rec s n off is with
    | some k, some l => chk (Nat.ble (i * s + s) n && !(Nat.beq s 0)) (some (k ++ l))
    | _, _ => none
def leafs (P : Program) : Nat → TypeId → Nat → Option (List (Nat × Nat))
  | 0, _, _ => none
  | d + 1, t, off =>
    match P.underlying t, tSize P t with
    | some (.int _), some _ => some [(off, 0)]
    | some .bool, some _ => some [(off, 1)]
    | some .string, some _ => some [(off, 2)]
    | some (.struct fs), some n => chk (!(P.stoodInHeld t)) (leafF (leafs P d) P n off fs.toList)
    | some (.array c e), some n => (match tSize P e with
      | some s => leafI (leafs P d e) s n off (List.range c)
      | none => none)
    | _, _ => none

def partsS (P : Program) (fs : List Field) : List (Nat × Operand) → Option (List (Nat × Nat × Operand))
  | [] => some []
  | (i, x) :: ps => match fs[i]?, partsS P fs ps with
    | some f, some l => (match tSize P f.type with | some n => chk (okX x) (some ((f.offset, n, x) :: l)) | none => none)
    | _, _ => none
def partsA (sz : Nat) : List (Nat × Operand) → Option (List (Nat × Nat × Operand))
  | [] => some []
  | (i, x) :: ps => match partsA sz ps with
    | some l => chk (okX x) (some ((i * sz, sz, x) :: l))
    | _ => none

def compApp (P : Program) (t u : TypeId) (s x : Operand) : Option AOp :=
  match P.underlying t with
  | some (.slice e) => (match tZeroL P e, tBytes P e with
    | some z, some by_ => chk (Nat.beq t u && !(Nat.beq z.length 0)) (some (.app z.length by_ s x))
    | _, _ => none)
  | _ => none
def compLen (P : Program) (t : TypeId) (x : Operand) : Option AOp :=
  match P.underlying t with
  | some (.slice _) => some (.lenS x)
  | some .string => some (.lenStr x)
  | _ => none
def compMax (P : Program) (t : TypeId) (x y : Operand) : Option AOp :=
  match P.underlying t with
  | some (.int _) => some (.max2 x y)
  | _ => none
def isIdxB (P : Program) (f : FuncId) : Bool := match P.funcs[f]? with
  | some fn => fn.body.isNone && (fn.name == "internal/bytealg.IndexByteString" && fn.origin == "")
  | none => false
def compFun (P : Program) (f : FuncId) (xs : List Operand) : AOp := match isIdxB P f with
  | true => (match xs with | [x, y] => .idxB x y | _ => .bad)
  | false => .call f xs
def compCall (P : Program) (c : Call) : Option AOp :=
  chk (okXs c.args.toList) (match c.callee with
  | .value (.func f) => some (compFun P f c.args.toList)
  | .value (.tmp x) => some (.callV (.tmp x) c.args.toList)
  | .builtin .len =>
    (match c.args.toList, c.argTypes.toList with
    | [x], [t] => compLen P t x
    | _, _ => none)
  | .builtin .max =>
    (match c.args.toList, c.argTypes.toList with
    | [x, y], t :: _ => compMax P t x y
    | _, _ => none)
  | .builtin .append =>
    (match c.args.toList, c.argTypes.toList with
    | [s, x], [t, u] => compApp P t u s x
    | _, _ => none)
  | _ => none)

def compAlloc (P : Program) (e : TypeId) : Option AOp :=
  match tZeroL P e, tSize P e with
  | some z, some n => some (.alloc z n)
  | _, _ => none
def compBuild (P : Program) (t : TypeId) (ps : List (Nat × Operand)) : Option AOp :=
  match tZeroL P t, P.underlying t with
  | some z, some (.struct fs) => (match partsS P fs.toList ps with | some l => chk (fs.toList.all fun f => (tSize P f.type).isSome) (some (.build z l)) | none => none)
  | some z, some (.array _ e) => (match tSize P e with
    | some s => (match partsA s ps with | some l => some (.build z l) | none => none)
    | none => none)
  | _, _ => none
def compBuildSl (P : Program) (t : TypeId) (len : Nat) (ps : List (Nat × Operand)) : Option AOp :=
  match P.underlying t with
  | some (.slice e) => (match tZeroL P e, tSize P e with
    | some z, some s => (match partsA s ps with
      | some l => chk (Nat.ble (len * s) 16777216) (some (.buildSl (List.replicate len z).flatten s len l))
      | none => none)
    | _, _ => none)
  | _ => none
def compLoad (P : Program) (t : TypeId) (x : Operand) : Option AOp :=
  match tAgg P t, tSize P t with
  | some g, some n => chk (g || Nat.beq n 1) (some (.load g n x))
  | _, _ => none
def isNilX : Operand → Bool
  | .const (.slice none 0 0) => true
  | _ => false
def compBin (P : Program) (op : BinOp) (xt : TypeId) (x y : Operand) : Option AOp :=
  match P.underlying xt with
  | some (.int _) | some .string => some (.bin op x y)
  | some .bool => chk (op == .eql || op == .neq) (some (.eqB (op == .neq) x y))
  | some (.slice _) => chk (isNilX y && (op == .eql || op == .neq)) (some (.eqNil (op == .neq) x))
  | some (.struct _) | some (.array _ _) => chk (!(P.eqGuardType P.depth xt) && (op == .eql || op == .neq)) (match leafs P 10 xt 0 with
    | some ls => some (.eqS (op == .neq) ls x y)
    | none => none)
  | _ => none
def compConv (P : Program) (src dst : TypeId) (x : Operand) : Option AOp :=
  match P.underlying src, P.underlying dst with
  | some (.int _), some (.int k) => some (.conv k x)
  | _, _ => none
def compMkSl (P : Program) (t : TypeId) (l c : Operand) : Option AOp :=
  match P.underlying t with
  | some (.slice e) => (match tZeroL P e, tBytes P e with
    | some z, some by_ => chk (!(Nat.beq z.length 0)) (some (.mkSl z by_ l c))
    | _, _ => none)
  | _ => none
def compSlice (P : Program) (t : TypeId) (x : Operand) (lo hi mx : Option Operand) : Option AOp :=
  match P.underlying t with
  | some (.slice e) => (match tSize P e with | some s => some (.slS s x lo hi mx) | none => none)
  | some .string => chk mx.isNone (some (.slStr x lo hi))
  | _ => none
def compFldA (P : Program) (s : TypeId) (x : Operand) (f : Nat) : Option AOp :=
  match P.underlying s with
  | some (.struct fs) => (match fs[f]? with
    | some fd => (match tSize P fd.type with | some n => chk (!(Nat.beq n 0)) (some (.fldA fd.offset x)) | none => none)
    | none => none)
  | _ => none
def compFld (P : Program) (s : TypeId) (x : Operand) (f : Nat) : Option AOp :=
  match P.underlying s with
  | some (.struct fs) => (match fs[f]? with
    | some fd => (match tAgg P fd.type, tSize P fd.type with | some g, some n => some (.fld g fd.offset n x) | _, _ => none)
    | none => none)
  | _ => none
def compIdxA (P : Program) (t : TypeId) (x i : Operand) : Option AOp :=
  match P.underlying t with
  | some (.slice e) => (match tSize P e with | some s => some (.idxA s x i) | none => none)
  | some (.array n e) => (match tSize P e with | some s => some (.idxArr n s x i) | none => none)
  | _ => none
def compIdx (P : Program) (t : TypeId) (x i : Operand) : Option AOp :=
  match P.underlying t with
  | some .string => some (.idxS x i)
  | _ => none
def compLookup (P : Program) (t : TypeId) (x i : Operand) (ok : Bool) : Option AOp :=
  match P.underlying t with
  | some (.map k e) => (match P.underlying k, tZero P e with
    | some (.int kk), some z => chk (scal z) (some (.lookup kk z x i ok))
    | _, _ => none)
  | _ => none
def compMupd (P : Program) (t : TypeId) (m k v : Operand) : Option AOp :=
  match P.underlying t with
  | some (.map kt _) => (match P.underlying kt with | some (.int kk) => some (.mupd kk m k v) | _ => none)
  | _ => none
def compRng (P : Program) (t : TypeId) (x : Operand) : Option AOp :=
  match P.underlying t with
  | some .string => some (.rng x)
  | _ => none

def compOp (P : Program) (o : Op) : Option AOp :=
  match o with
  | .move x => chk (okX x) (some (.mv x))
  | .assign x => chk (okX x) (some (.mv x))
  | .pick c a b => chk (okX c && okX a && okX b) (some (.pick c a b))
  | .alloc e => compAlloc P e
  | .box e x => chk (okX x) (match tSize P e with | some n => some (.box n x) | none => none)
  | .build t ps => compBuild P t ps.toList
  | .buildSlice t len ps => compBuildSl P t len ps.toList
  | .load t x => chk (okX x) (compLoad P t x)
  | .store t a x => chk (okX a && okX x) (match tSize P t with | some n => some (.store n a x) | none => none)
  | .nilCheck x => chk (okX x) (some (.nilck x))
  | .binOp op xt x y _ => chk (okX x && okX y) (compBin P op xt x y)
  | .unOp op _ x => chk (okX x) (some (.un op x))
  | .convert src dst x => chk (okX x) (compConv P src dst x)
  | .makeFunc (.func f) first cap => chk (okXs first.toList && okXs cap.toList) (some (.mkFn f first.toList cap.toList))
  | .makeMap _ none => some .mkMap
  | .makeSlice t l c => chk (okX l && okX c) (compMkSl P t l c)
  | .slice t x lo hi mx => chk (okX x && okO lo && okO hi && okO mx) (compSlice P t x lo hi mx)
  | .fieldAddr s x f => chk (okX x) (compFldA P s x f)
  | .field s x f => chk (okX x) (compFld P s x f)
  | .indexAddr t x i => chk (okX x && okX i) (compIdxA P t x i)
  | .index t x i => chk (okX x && okX i) (compIdx P t x i)
  | .lookup t x i ok => chk (okX x && okX i) (compLookup P t x i ok)
  | .mapUpdate t m k v => chk (okX m && okX k && okX v) (compMupd P t m k v)
  | .range t x => chk (okX x) (compRng P t x)
  | .next x true => chk (okX x) (some (.next x))
  | .extract x i => chk (okX x) (some (.ext x i))
  | .call c => compCall P c
  | _ => none

def compDst (N : Nat) : Option Tmp → Bool
  | none => true
  | some d => Nat.blt d N
def compGuard (ops : List Oper) : Option (Nat × Bool) → Option (Option (Nat × Bool))
  | none => some none
  | some (j, w) => match ops[j]? with
    | some o => (match o.dst with | some d => some (some (d, w)) | none => none)
    | none => none
def isCallA : AOp → Bool
  | .call _ _ | .callV _ _ => true
  | _ => false
def isCallOp : Op → Bool
  | .call _ => true
  | _ => false
def compOp' (P : Program) (o : Op) : AOp :=
  match compOp P o with
  | some a => (match isCallA a && !(isCallOp o) with | true => .bad | false => a)
  | none => .bad
def compOper (P : Program) (N : Nat) (ops : List Oper) (o : Oper) : Option AOper :=
  match compGuard ops o.guard with
  | some g => chk (compDst N o.dst) (some { dst := o.dst, guard := g, op := compOp' P o.op })
  | none => none
def compOps (P : Program) (N : Nat) (all : List Oper) : List Oper → Option (List AOper)
  | [] => some []
  | o :: os => match compOper P N all o, compOps P N all os with
    | some a, some l => some (a :: l)
    | _, _ => none
def tmpsOf (l : List Operand) : List Nat := l.filterMap fun | .tmp t => some t | _ => none
/- the temporaries that an operation names -/
def namesOf (o : Oper) (a : AOper) : List Nat :=
  (match a.dst with | some d => [d] | none => []) ++ ((match a.guard with | some (j, _) => [j] | none => []) ++ (tmpsOf (opXs a.op) ++ tmpsOf o.op.operands.toList))
/- an edge leads back; what stands ahead by the table stands ahead by an edge, or ahead of where one leads; two operations of which one writes what the other names stand in an order -/
def edgeOk (bef : List Nat) (i : Nat) (o : Oper) : Bool :=
  o.after.toList.all (fun e => !(Region.binds .any e) || Nat.blt e.on i) &&
  (List.range bef.length).all fun k => !(Nat.testBit (bef.getD i 0) k) || (Nat.blt k i && o.after.toList.any fun e => Region.binds .any e && (Nat.beq e.on k || Nat.testBit (bef.getD e.on 0) k))
def meets (a : AOper) (ns : List Nat) : Bool := match a.dst with | some d => ns.any (Nat.beq d) | none => false
def pairOk (bef : List Nat) (i j : Nat) (oi oj : Oper) (ai aj : AOper) : Bool :=
  !(meets ai (namesOf oj aj) || meets aj (namesOf oi ai)) || Nat.testBit (bef.getD j 0) i
def orderOk (ops : List Oper) (l : List AOper) (bef : List Nat) : Bool :=
  Nat.beq l.length ops.length && Nat.beq bef.length ops.length &&
  ((List.range ops.length).all fun j => match ops[j]?, l[j]? with
    | some oj, some aj => edgeOk bef j oj && ((List.range j).all fun i => match ops[i]?, l[i]? with
      | some oi, some ai => pairOk bef i j oi oj ai aj
      | _, _ => false)
    | _, _ => false)

def compCode (P : Program) (N : Nat) : Code → Option ACode
  | .skip => some .skip
  | .region _ ops false => match compOps P N ops.toList ops.toList with | some l => some (.reg l) | none => none
  | .region _ ops true => match compOps P N ops.toList ops.toList with
    | some l => chk (orderOk ops.toList l (Region.before ops).toList && P.follows .mixedOrders) (some (.drw l (Region.before ops).toList))
    | none => none
  | .seq a b => match compCode P N a, compCode P N b with
    | some x, some y => some (.seq x y)
    | _, _ => none
  | .cond c a b => match compCode P N a, compCode P N b with
    | some x, some y => chk (okX c) (some (.cond c x y))
    | _, _ => none
  | .block id a => match compCode P N a with | some x => some (.block id x) | none => none
  | .loop a => match compCode P N a with | some x => some (.loop x) | none => none
  | .exit id => some (.exit id)
  | .ret => some .ret
  | _ => some .bad

def compRes (P : Program) : List ResultVar → Option (List ARes)
  | [] => some []
  | .tmp t :: rs => match compRes P rs with | some l => some (.tmp t :: l) | none => none
  | .cell a t :: rs => match compRes P rs, tAgg P t, tSize P t with
    | some l, some g, some n => chk (g || Nat.beq n 1) (some (.cell a g n :: l))
    | _, _, _ => none
def compFn (P : Program) (f : Func) : Option AFn :=
  match f.body with
  | none => none
  | some c => match compCode P f.ntmps c, compRes P f.results.toList with
    | some b, some r => chk (!(f.name == "runtime.NumGoroutine")) (some { n := f.ntmps, res := r, body := b })
    | _, _ => none
end Go.Hai
