/-
  States of the kernel as data, and where they lie in the abstract heap. No proof of the program stands here.
-/
import Derived.Test.YtphbidcbepnihaaS3
namespace Go.Hai
open Go

structure SlotD where
  (type thing rights badge up : Int)
structure ThingD where
  (type bits base size used frm badge : Int)
  full : Bool
  (word d0 d1 d2 d3 : Int)
structure StD where
  (threads slots things : Int)
  sl : List SlotD
  th : List ThingD
abbrev i64 (n : Int) : Value := .int .i64 n
abbrev u64 (n : Int) : Value := .int .u64 n
abbrev capL (x : SlotD) : List Value := [i64 x.type, i64 x.thing, i64 x.rights, i64 x.badge]
abbrev slotL (x : SlotD) : List Value := [i64 x.type, i64 x.thing, i64 x.rights, i64 x.badge, i64 x.up]
abbrev thingL (t : ThingD) : List Value := [i64 t.type, i64 t.bits, i64 t.base, i64 t.size, i64 t.used, i64 t.frm, i64 t.badge, .bool t.full, u64 t.word, u64 t.d0, u64 t.d1, u64 t.d2, u64 t.d3]
abbrev capV (x : SlotD) : Value := .agg (capL x).toArray
abbrev thingV (t : ThingD) : Value := .agg (thingL t).toArray
abbrev geoV (S : StD) : Value := .agg [i64 S.threads, i64 S.slots, i64 S.things].toArray
abbrev stL (S : StD) (a1 : Option Addr) (f1 : Nat) (a2 : Option Addr) (f2 : Nat) : List Value := [i64 S.threads, i64 S.slots, i64 S.things, .slice a1 S.sl.length f1, .slice a2 S.th.length f2]
abbrev stV (S : StD) (a1 : Option Addr) (f1 : Nat) (a2 : Option Addr) (f2 : Nat) : Value := .agg (stL S a1 f1 a2 f2).toArray
abbrev SlS := @SlP SlotD slotL 5
abbrev SlT := @SlP ThingD thingL 13

/- ---- single steps ---- -/
def eq4 (a b c d a' b' c' d' : Int) : Bool := a == a' && (b == b' && (c == c' && d == d'))
theorem XC {a b c d a' b' c' d' : Int} : eqLsA [i64 a, i64 b, i64 c, i64 d] [i64 a', i64 b', i64 c', i64 d'] [(0, 0), (1, 0), (2, 0), (3, 0)] = some (eq4 a b c d a' b' c' d') := by
  simp [eqLsA, eqScalA, eqScal, eq4]
theorem XD {t : Tmps} {z : List Value} : fillL t z [] = some z := rfl
def fill1 (t : Tmps) (z : List Value) (o : Nat) (vs : List Value) (ps : List (Nat × Nat × Operand)) : Option (List Value) := match vs with
  | [v] => if o < z.length then fillL t (z.set o v) ps else none
  | _ => none
theorem XE {t : Tmps} {z : List Value} {o : Nat} {x : Operand} {ps : List (Nat × Nat × Operand)} : fillL t z ((o, 1, x) :: ps) = fill1 t z o (ev t x).cells.toList ps := by
  simp only [fillL, fill1]
  cases h : (ev t x).cells.toList with
  | nil => rfl
  | cons v l => cases l with
    | cons u l => rfl
    | nil =>
      simp only [List.length_singleton, Nat.beq_refl, Bool.true_and]
      by_cases ho : o < z.length
      · rw [if_pos ho, if_pos (Nat.ble_eq_true_of_le (by omega))]
        congr 1
        unfold putAt
        simp only [List.length_singleton, List.singleton_append]
        rw [List.set_eq_take_append_cons_drop, if_pos ho]
      · rw [if_neg ho, if_neg (fun hb => ho (by have := Nat.le_of_ble_eq_true hb; omega))]
theorem XF {t : Tmps} {z : List Value} {o : Nat} {v : Value} {ps : List (Nat × Nat × Operand)} : fill1 t z o [v] ps = if o < z.length then fillL t (z.set o v) ps else none := rfl
def fill4 (t : Tmps) (z : List Value) (o : Nat) (vs : List Value) (ps : List (Nat × Nat × Operand)) : Option (List Value) := if Nat.beq vs.length 4 && Nat.ble (o + 4) z.length then fillL t (putAt z o vs) ps else none
theorem XG {t : Tmps} {z : List Value} {o : Nat} {x : Operand} {ps : List (Nat × Nat × Operand)} : fillL t z ((o, 4, x) :: ps) = fill4 t z o (ev t x).cells.toList ps := rfl
theorem XH {t : Tmps} {x0 x1 x2 x3 x4 x5 x6 x7 x8 x9 x10 x11 x12 a b c d : Value} : fill4 t [x0, x1, x2, x3, x4, x5, x6, x7, x8, x9, x10, x11, x12] 9 [a, b, c, d] [] = some [x0, x1, x2, x3, x4, x5, x6, x7, x8, a, b, c, d] := rfl
def eq13 (a b c d e f g : Int) (h : Bool) (i j k l m a' b' c' d' e' f' g' : Int) (h' : Bool) (i' j' k' l' m' : Int) : Bool :=
  a == a' && (b == b' && (c == c' && (d == d' && (e == e' && (f == f' && (g == g' && (h == h' && (i == i' && (j == j' && (k == k' && (l == l' && m == m')))))))))))
theorem XI {a b c d e f g a' b' c' d' e' f' g' i j k l m i' j' k' l' m' : Int} {h h' : Bool} :
    eqLsA [i64 a, i64 b, i64 c, i64 d, i64 e, i64 f, i64 g, .bool h, u64 i, u64 j, u64 k, u64 l, u64 m] [i64 a', i64 b', i64 c', i64 d', i64 e', i64 f', i64 g', .bool h', u64 i', u64 j', u64 k', u64 l', u64 m']
      [(0, 0), (1, 0), (2, 0), (3, 0), (4, 0), (5, 0), (6, 0), (7, 1), (8, 0), (9, 0), (10, 0), (11, 0), (12, 0)] =
    some (eq13 a b c d e f g h i j k l m a' b' c' d' e' f' g' h' i' j' k' l' m') := by
  simp [eqLsA, eqScalA, eqScal, eq13]
def aggO (x : Option (List Value)) : Option Value := match x with | some vs => some (.agg vs.toArray) | none => none
theorem XJ {vs : List Value} : aggO (some vs) = some (.agg vs.toArray) := rfl
def resC (x : Value) (n : Nat) (σ : AHeap) : Option Value := match x with | .pointer (some ⟨b, o, _⟩) => aggO (σ.loadN b o n) | _ => none
theorem XK {b o n : Nat} {σ : AHeap} : resC (here b o) n σ = aggO (σ.loadN b o n) := rfl
theorem XL {t : Tmps} {σ : AHeap} {i : Nat} : resOne t σ (.tmp i) = some (tget t i) := rfl
theorem XM {t : Tmps} {σ : AHeap} {i n : Nat} : resOne t σ (.cell i true n) = resC (tget t i) n σ := by
  simp only [resOne, resC, aggO]
  cases tget t i with
  | pointer a => cases a with
    | none => rfl
    | some p =>
      obtain ⟨b, o, s⟩ := p
      simp only
      cases σ.loadN b o n <;> rfl
  | _ => rfl
theorem XN {v : Value} : one [v] = v := rfl
theorem XO {u v : Value} : one [u, v] = .tuple [u, v].toArray := rfl
theorem XP {u v x : Value} : one [u, v, x] = .tuple [u, v, x].toArray := rfl
def pw (b : Int) : Int := ((2 ^ b.toNat : Nat) : Int)
theorem pw_le {b : Int} (h0 : 0 ≤ b) (h1 : b ≤ 4) : 1 ≤ pw b ∧ pw b ≤ 16 := by
  obtain ⟨n, rfl⟩ := Int.eq_ofNat_of_zero_le h0
  have : n = 0 ∨ n = 1 ∨ n = 2 ∨ n = 3 ∨ n = 4 := by omega
  rcases this with h | h | h | h | h <;> subst h <;> decide
theorem XQ {b : Int} (h0 : 0 ≤ b) (h1 : b ≤ 4) : abinA .shl (.int .i64 1) (.int .i64 b) = some (.int .i64 (pw b)) := by
  obtain ⟨n, rfl⟩ := Int.eq_ofNat_of_zero_le h0
  have : n = 0 ∨ n = 1 ∨ n = 2 ∨ n = 3 ∨ n = 4 := by omega
  rcases this with h | h | h | h | h <;> subst h <;> rfl

def andNotI (a b : Int) : Int := IntKind.i64.wrap (BitVec.ofInt 64 a &&& ~~~BitVec.ofInt 64 b).toNat
theorem XR {a b : Int} : abinA .andNot (.int .i64 a) (.int .i64 b) = some (.int .i64 (andNotI a b)) := by
  have h : abinA .andNot (.int .i64 a) (.int .i64 b) = some (.int .i64 (IntKind.i64.wrap (BitVec.ofInt 64 a &&& ~~~BitVec.ofInt 64 b).toNat)) := rfl
  rw [h]; unfold andNotI; rfl
def atI {α : Type} (l : List α) (z : Int) : Option α := if 0 ≤ z then l[z.toNat]? else none
theorem atI_some {α : Type} {l : List α} {z : Int} (h0 : 0 ≤ z) (h1 : z < l.length) : ∃ x, atI l z = some x ∧ l[z.toNat]? = some x := by
  have h : z.toNat < l.length := by omega
  exact ⟨l[z.toNat], by unfold atI; rw [if_pos h0, List.getElem?_eq_getElem h], List.getElem?_eq_getElem h⟩
theorem atI_none {α : Type} {l : List α} {z : Int} (h : ¬ (0 ≤ z ∧ z < l.length)) : atI l z = none := by
  unfold atI
  split
  · exact List.getElem?_eq_none (by omega)
  · rfl
theorem SlAt.ld {α : Type} {cells : α → List Value} {es : Nat} {σ τ : AHeap} {b i : Nat} {l : List α} {x : α} (h : SlAt cells es σ b l) (k : Keeps σ τ) (hx : l[i]? = some x) (L : List (List Value × Nat)) (o n : Nat) (ho : o + n ≤ es) :
    (τ.grow L).loadN b (i * es + o) n = some (((cells x).drop o).take n) := by
  rw [k.loadG L _ _ h.1]; exact h.2 i x hx o n ho
theorem SlAt.ld0 {α : Type} {cells : α → List Value} {es : Nat} {σ τ : AHeap} {b i : Nat} {l : List α} {x : α} (h : SlAt cells es σ b l) (k : Keeps σ τ) (hx : l[i]? = some x) (L : List (List Value × Nat)) (n : Nat) (ho : n ≤ es) :
    (τ.grow L).loadN b (i * es) n = some ((cells x).take n) := h.ld k hx L 0 n (by omega)
theorem fresh_keeps (σ : AHeap) : Keeps σ.fresh σ.fresh := Keeps.refl _
end Go.Hai
