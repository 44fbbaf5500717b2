/-
  The abstract interpreter over values that are not known: maps of numbers that say yes. No proof of the program stands here.
-/
import Derived.Test.YtphbidcbepnihaaS6
namespace Go.Hai
open Go

def MapHas (τ : AHeap) (m : Nat) (V : List Int) : Prop := ∃ es c, τ.t.get m = some (.obj (.map es c)) ∧ es.toList.map (fun e => (e.key, e.val)) = V.map (fun n => (i64 n, Value.bool true))
structure WM (m : Nat) (σ τ : AHeap) : Prop where
  n : σ.n ≤ τ.n
  low : τ.low = σ.low ∨ τ.low = minN σ.low m
  dead : τ.dead = σ.dead
  row : ∀ b, b < σ.n → b ≠ m → τ.t.get b = σ.t.get b
theorem minN_le (a b : Nat) : minN a b ≤ a ∧ minN a b ≤ b := by
  unfold minN
  split
  · next h => exact ⟨Nat.le_refl _, Nat.le_of_ble_eq_true h⟩
  · next h => exact ⟨by have : ¬ a ≤ b := fun e => h (Nat.ble_eq_true_of_le e); omega, Nat.le_refl _⟩
theorem minN_min (a b : Nat) : minN a b = min a b := by
  have := minN_le a b
  unfold minN at *
  split
  · next h => have := Nat.le_of_ble_eq_true h; omega
  · next h => have : ¬ a ≤ b := fun e => h (Nat.ble_eq_true_of_le e); omega
theorem WM.refl (m : Nat) (σ : AHeap) : WM m σ σ := ⟨Nat.le_refl _, .inl rfl, rfl, fun _ _ _ => rfl⟩
theorem WM.trans {m : Nat} {σ τ υ : AHeap} (h : WM m σ τ) (h' : WM m τ υ) : WM m σ υ := by
  refine ⟨Nat.le_trans h.n h'.n, ?_, h'.dead.trans h.dead, fun b h1 h2 => (h'.row b (Nat.lt_of_lt_of_le h1 h.n) h2).trans (h.row b h1 h2)⟩
  have a := h.low
  have b := h'.low
  rw [minN_min] at *
  rcases a with a | a <;> rcases b with b | b <;> rw [a] at b <;> omega
theorem Keeps.wm {m : Nat} {σ τ : AHeap} (h : Keeps σ τ) : WM m σ τ := ⟨h.n, .inl h.low, h.dead, fun b hb _ => h.row b hb⟩
theorem WM.grow {m : Nat} {σ τ : AHeap} (h : WM m σ τ) (L : List (List Value × Nat)) : WM m σ (τ.grow L) := h.trans (Keeps.self τ L).wm
theorem WM.load {m : Nat} {σ τ : AHeap} (h : WM m σ τ) {b : Nat} (o n : Nat) (h1 : b < σ.n) (h2 : b ≠ m) : τ.loadN b o n = σ.loadN b o n := by
  unfold AHeap.loadN AHeap.row? AHeap.alive
  rw [h.row b h1 h2, h.dead]
theorem WM.lowle {m : Nat} {σ τ : AHeap} (h : WM m σ τ) (hl : σ.low ≤ σ.n) : τ.low ≤ τ.n := by
  have := h.n
  have := h.low
  rw [minN_min] at this
  omega
theorem MapHas.load {σ : AHeap} {m : Nat} {V : List Int} (h : MapHas σ m V) (o n : Nat) : σ.loadN m o n = none := by
  obtain ⟨es, c, h1, _⟩ := h
  unfold AHeap.loadN AHeap.row?
  rw [h1]
theorem MapHas.keeps {σ τ : AHeap} {m : Nat} {V : List Int} (h : MapHas σ m V) (hk : τ.t.get m = σ.t.get m) : MapHas τ m V := by
  obtain ⟨es, c, h1, h2⟩ := h
  exact ⟨es, c, hk.trans h1, h2⟩
theorem SlP.wm {α : Type} {cells : α → List Value} {es m : Nat} {σ τ : AHeap} {a : Option Addr} {l : List α} {V : List Int} (h : SlP cells es σ a l) (hm : MapHas σ m V) (w : WM m σ τ) : SlP cells es τ a l := by
  cases l with
  | nil => exact .inl rfl
  | cons x l =>
    obtain ⟨b, e, hb⟩ := h.resolve_left (by simp)
    have hne : b ≠ m := by
      rintro rfl
      have := hb.2 0 x rfl 0 0 (by omega)
      rw [hm.load] at this
      cases this
    exact .inr ⟨b, e, Nat.lt_of_lt_of_le hb.1 w.n, fun i y hy o n ho => by rw [w.load _ _ hb.1 hne]; exact hb.2 i y hy o n ho⟩
theorem findNow_ints (n : Int) : ∀ (es : List MapEntry) (V : List Int) (i : Nat), es.map (fun e => (e.key, e.val)) = V.map (fun n => (i64 n, Value.bool true)) →
    (V.contains n = true → ∃ j, Instr.findNow (.int .i64) (.int .i64 n) es i = some (some (j, .bool true))) ∧ (V.contains n = false → Instr.findNow (.int .i64) (.int .i64 n) es i = some none) := by
  intro es
  induction es with
  | nil =>
    intro V i h
    cases V with
    | nil => exact ⟨fun h => by simp at h, fun _ => rfl⟩
    | cons v V => simp at h
  | cons e es ih =>
    intro V i h
    cases V with
    | nil => simp at h
    | cons v V =>
      simp only [List.map_cons, List.cons.injEq, Prod.mk.injEq] at h
      obtain ⟨⟨h1, h2⟩, h3⟩ := h
      have hs : Instr.sameNow (.int .i64) (.int .i64 n) e.key = some (n == v) := by rw [h1]; simp [Instr.sameNow]
      simp only [Instr.findNow, hs, List.contains_cons]
      cases hnv : (n == v) with
      | true => exact ⟨fun _ => ⟨i, by rw [h2]⟩, fun h => by simp at h⟩
      | false => simpa using ih V (i + 1) h3
def lkO (σ : AHeap) (k : IntKind) (z x i : Value) (ok : Bool) : Option (Value × AHeap) := match x, i with
  | .map (some b), .int k' i => match asMap (σ.t.get b) with
    | some (es, _) => if k = k' then (match Instr.findNow (.int k) (.int k i) es.toList 0 with
      | some (some (_, v)) => if scal v then some (if ok then .tuple #[v, .bool true] else v, σ) else none
      | some none => some (if ok then .tuple #[z, .bool false] else z, σ)
      | none => none) else none
    | none => none
  | _, _ => none
theorem X6 {σ : AHeap} {t : Tmps} {K : Kt} {k : IntKind} {z : Value} {x i : Operand} {ok : Bool} : EndsO (aop σ t (.lookup k z x i ok)) K = EndsO (lkO σ k z (ev t x) (ev t i) ok) K := rfl
theorem lkO_ok {σ : AHeap} {m : Nat} {V : List Int} (h : MapHas σ m V) (n : Int) : lkO σ .i64 (.bool false) (.map (some m)) (.int .i64 n) false = some (.bool (V.contains n), σ) := by
  obtain ⟨es, c, h1, h2⟩ := h
  have := findNow_ints n es.toList V 0 h2
  simp only [lkO, h1, asMap, if_true]
  cases hc : V.contains n with
  | true => obtain ⟨j, hj⟩ := this.1 hc; simp [hj, scal]
  | false => simp [this.2 hc]
def muO (σ : AHeap) (k : IntKind) (x i v : Value) : Option (Value × AHeap) := match x, i with
  | .map (some b), .int k' i => match asMap (σ.t.get b) with
    | some (es, c) =>
      if k = k' ∧ scal v = true then
        (match Instr.findNow (.int k) (.int k i) es.toList 0 with
        | some none => some (undef, { σ with t := σ.t.ins b (.obj (.map (es.push { key := .int k i, val := v, born := c }) (c + 1))), low := minN σ.low b })
        | some (some (j, _)) => some (undef, { σ with t := σ.t.ins b (.obj (.map (es.modify j fun e => { e with key := .int k i, val := v }) c)), low := minN σ.low b })
        | none => none)
      else none
    | none => none
  | _, _ => none
theorem X7 {σ : AHeap} {t : Tmps} {K : Kt} {k : IntKind} {m i v : Operand} : EndsO (aop σ t (.mupd k m i v)) K = EndsO (muO σ k (ev t m) (ev t i) (ev t v)) K := rfl
theorem muO_ok {σ : AHeap} {m : Nat} {V : List Int} (h : MapHas σ m V) {n : Int} (hn : V.contains n = false) :
    ∃ τ, muO σ .i64 (.map (some m)) (.int .i64 n) (.bool true) = some (undef, τ) ∧ MapHas τ m (V ++ [n]) ∧ WM m σ τ ∧ τ.n = σ.n ∧ τ.low = minN σ.low m := by
  obtain ⟨es, c, h1, h2⟩ := h
  have := (findNow_ints n es.toList V 0 h2).2 hn
  refine ⟨{ σ with t := σ.t.ins m (.obj (.map (es.push { key := .int .i64 n, val := .bool true, born := c }) (c + 1))), low := minN σ.low m }, ?_, ?_, ?_, rfl, rfl⟩
  · simp only [muO, h1, asMap, this, scal, and_self, if_true]
  · refine ⟨es.push { key := .int .i64 n, val := .bool true, born := c }, c + 1, ?_, ?_⟩
    · show (σ.t.ins m _).get m = _
      rw [Tr.get_ins, if_pos rfl]
    · simp [h2]
  · refine ⟨Nat.le_refl _, .inr rfl, rfl, fun b _ hb => ?_⟩
    show (σ.t.ins m _).get b = _
    rw [Tr.get_ins, if_neg (fun e => hb e.symm)]
theorem X8 {σ : AHeap} {t : Tmps} {K : Kt} : EndsO (aop σ t .mkMap) K = K (.map (some σ.n)) (σ.push (.obj (.map #[] 0))) := rfl
theorem mapNew (σ : AHeap) : MapHas (σ.push (.obj (.map #[] 0))) σ.n [] ∧ Keeps σ (σ.push (.obj (.map #[] 0))) := by
  refine ⟨⟨#[], 0, ?_, rfl⟩, ⟨Nat.le_succ _, rfl, rfl, fun b hb => ?_⟩⟩
  · show (σ.t.ins σ.n _).get σ.n = _
    rw [Tr.get_ins, if_pos rfl]
  · show (σ.t.ins σ.n _).get b = _
    rw [Tr.get_ins, if_neg (by omega)]
/- as many different numbers as there are -/
theorem few : ∀ (n : Nat) (V : List Int), V.Nodup → (∀ x ∈ V, 0 ≤ x ∧ x < n) → V.length ≤ n := by
  intro n
  induction n with
  | zero =>
    intro V _ h
    cases V with
    | nil => simp
    | cons x V => have := h x (by simp); omega
  | succ n ih =>
    intro V hV h
    have h1 := ih (V.erase n) (hV.erase _) fun x hx => by
      have h2 := h x (List.mem_of_mem_erase hx)
      have h3 : x ≠ n := fun e => by subst e; exact (hV.not_mem_erase) hx
      omega
    have h4 : V.length ≤ (V.erase n).length + 1 := by
      rw [List.length_erase]
      split <;> omega
    omega
/- calls that change an object -/
def finE (res : List ARes) (R : Value → AHeap → Prop) : AEx → Tmps → AHeap → Prop
  | .exit _, _, _ => False
  | _, t, σ => match resAll t σ res with | some vs => R (one vs) σ | none => False
theorem X9 {res : List ARes} {R : Value → AHeap → Prop} {t : Tmps} {σ : AHeap} : finE res R .ret t σ = (match resAll t σ res with | some vs => R (one vs) σ | none => False) := rfl
theorem Va {res : List ARes} {R : Value → AHeap → Prop} {t : Tmps} {σ : AHeap} : finE res R .normal t σ = (match resAll t σ res with | some vs => R (one vs) σ | none => False) := rfl
theorem acall_eff {E : FuncId → Option AFn} {fuel d : Nat} {f : FuncId} {N : Nat} {res : List ARes} {c : ACode} {args : List Value} {σ : AHeap} {R : Value → AHeap → Prop} (hE : E f = some ⟨N, res, c⟩) (hl : args.length ≤ N)
    (h : Ends (acode (acall E fuel d) fuel c (Tr.of args) (σ.fresh.grow [])) (finE res R)) :
    ∃ v τ', acall E fuel (d + 1) f args σ = some (v, τ') ∧ ∃ τ, R v τ ∧ ((τ.low = σ.n ∧ flat v = true ∧ τ' = σ) ∨ τ' = τ.setLow (minN σ.low τ.low)) := by
  rw [grow_nil] at h
  simp only [acall, hE]
  rw [if_pos (Nat.ble_eq_true_of_le hl)]
  unfold AHeap.fresh at h
  have fin : ∀ (t : Tmps) (τ : AHeap), (match resAll t τ res with | some vs => R (one vs) τ | none => False) →
      ∃ v τ', (match resAll t τ res with | some vs => some (if (Nat.beq τ.low σ.n && flat (one vs)) = true then (one vs, σ) else (one vs, { τ with low := minN σ.low τ.low })) | none => none) = some (v, τ') ∧ ∃ τ, R v τ ∧ ((τ.low = σ.n ∧ flat v = true ∧ τ' = σ) ∨ τ' = τ.setLow (minN σ.low τ.low)) := by
    intro t τ h1
    cases hv : resAll t τ res with
    | none => rw [hv] at h1; exact h1.elim
    | some vs =>
      rw [hv] at h1
      simp only at h1 ⊢
      cases hf : (Nat.beq τ.low σ.n && flat (one vs)) with
      | true =>
        simp only [Bool.and_eq_true] at hf
        exact ⟨one vs, σ, by simp, τ, h1, .inl ⟨Nat.eq_of_beq_eq_true hf.1, hf.2, rfl⟩⟩
      | false => exact ⟨one vs, τ.setLow (minN σ.low τ.low), by simp [AHeap.setLow], τ, h1, .inr rfl⟩
  cases hx : acode (acall E fuel d) fuel c (Tr.of args) { σ with low := σ.n } with
  | none => rw [hx] at h; exact h.elim
  | some p =>
    obtain ⟨e, t, τ⟩ := p
    rw [hx] at h
    cases e with
    | exit i => exact h.elim
    | normal => exact fin t τ h
    | ret => exact fin t τ h

theorem OutP.mod {base hb : Nat} {σ τ : AHeap} {v : Value} {l : List Int} (h : OutP base σ v l) (m : Mod hb σ τ) (hb' : hb < base) : OutP base τ v l := by
  rcases h with h | ⟨b, cs, fam, h1, h2, h3, h4, h5⟩
  · exact .inl h
  · exact .inr ⟨b, cs, fam, h1, h2, Nat.lt_of_lt_of_le h3 m.n, by rw [m.row b h3 (by omega)]; exact h4, h5⟩
theorem Vb {x0 x1 x2 x3 v : Value} : setAll [x0, x1, x2, x3] 0 [v] = [v, x1, x2, x3] := rfl
theorem Vc {x0 x1 x2 x3 v : Value} : setAll [x0, x1, x2, x3] 1 [v] = [x0, v, x2, x3] := rfl
theorem Vd {x0 x1 x2 x3 v : Value} : setAll [x0, x1, x2, x3] 2 [v] = [x0, x1, v, x3] := rfl
theorem Ve {x0 x1 x2 x3 v : Value} : setAll [x0, x1, x2, x3] 3 [v] = [x0, x1, x2, v] := rfl
theorem Vf {x0 x1 x2 x3 x4 v : Value} : setAll [x0, x1, x2, x3, x4] 0 [v] = [v, x1, x2, x3, x4] := rfl
theorem Vg {x0 x1 x2 x3 x4 v : Value} : setAll [x0, x1, x2, x3, x4] 1 [v] = [x0, v, x2, x3, x4] := rfl
theorem Vh {x0 x1 x2 x3 x4 v : Value} : setAll [x0, x1, x2, x3, x4] 2 [v] = [x0, x1, v, x3, x4] := rfl
theorem Vi {x0 x1 x2 x3 x4 v : Value} : setAll [x0, x1, x2, x3, x4] 3 [v] = [x0, x1, x2, v, x4] := rfl
theorem Vj {x0 x1 x2 x3 x4 v : Value} : setAll [x0, x1, x2, x3, x4] 4 [v] = [x0, x1, x2, x3, v] := rfl
theorem Vk {x0 x1 x2 x3 x4 x5 x6 x7 x8 x9 x10 x11 x12 v : Value} : setAll [x0, x1, x2, x3, x4, x5, x6, x7, x8, x9, x10, x11, x12] 0 [v] = [v, x1, x2, x3, x4, x5, x6, x7, x8, x9, x10, x11, x12] := rfl
theorem Vl {x0 x1 x2 x3 x4 x5 x6 x7 x8 x9 x10 x11 x12 v : Value} : setAll [x0, x1, x2, x3, x4, x5, x6, x7, x8, x9, x10, x11, x12] 1 [v] = [x0, v, x2, x3, x4, x5, x6, x7, x8, x9, x10, x11, x12] := rfl
theorem Vm {x0 x1 x2 x3 x4 x5 x6 x7 x8 x9 x10 x11 x12 v : Value} : setAll [x0, x1, x2, x3, x4, x5, x6, x7, x8, x9, x10, x11, x12] 2 [v] = [x0, x1, v, x3, x4, x5, x6, x7, x8, x9, x10, x11, x12] := rfl
theorem Vn {x0 x1 x2 x3 x4 x5 x6 x7 x8 x9 x10 x11 x12 v : Value} : setAll [x0, x1, x2, x3, x4, x5, x6, x7, x8, x9, x10, x11, x12] 3 [v] = [x0, x1, x2, v, x4, x5, x6, x7, x8, x9, x10, x11, x12] := rfl
theorem Vo {x0 x1 x2 x3 x4 x5 x6 x7 x8 x9 x10 x11 x12 v : Value} : setAll [x0, x1, x2, x3, x4, x5, x6, x7, x8, x9, x10, x11, x12] 4 [v] = [x0, x1, x2, x3, v, x5, x6, x7, x8, x9, x10, x11, x12] := rfl
theorem Vp {x0 x1 x2 x3 x4 x5 x6 x7 x8 x9 x10 x11 x12 v : Value} : setAll [x0, x1, x2, x3, x4, x5, x6, x7, x8, x9, x10, x11, x12] 5 [v] = [x0, x1, x2, x3, x4, v, x6, x7, x8, x9, x10, x11, x12] := rfl
theorem Vq {x0 x1 x2 x3 x4 x5 x6 x7 x8 x9 x10 x11 x12 v : Value} : setAll [x0, x1, x2, x3, x4, x5, x6, x7, x8, x9, x10, x11, x12] 6 [v] = [x0, x1, x2, x3, x4, x5, v, x7, x8, x9, x10, x11, x12] := rfl
theorem Vr {x0 x1 x2 x3 x4 x5 x6 x7 x8 x9 x10 x11 x12 v : Value} : setAll [x0, x1, x2, x3, x4, x5, x6, x7, x8, x9, x10, x11, x12] 7 [v] = [x0, x1, x2, x3, x4, x5, x6, v, x8, x9, x10, x11, x12] := rfl
theorem Vs {x0 x1 x2 x3 x4 x5 x6 x7 x8 x9 x10 x11 x12 v : Value} : setAll [x0, x1, x2, x3, x4, x5, x6, x7, x8, x9, x10, x11, x12] 8 [v] = [x0, x1, x2, x3, x4, x5, x6, x7, v, x9, x10, x11, x12] := rfl
theorem Vt {x0 x1 x2 x3 x4 x5 x6 x7 x8 x9 x10 x11 x12 v : Value} : setAll [x0, x1, x2, x3, x4, x5, x6, x7, x8, x9, x10, x11, x12] 9 [v] = [x0, x1, x2, x3, x4, x5, x6, x7, x8, v, x10, x11, x12] := rfl
theorem Vu {x0 x1 x2 x3 x4 x5 x6 x7 x8 x9 x10 x11 x12 v : Value} : setAll [x0, x1, x2, x3, x4, x5, x6, x7, x8, x9, x10, x11, x12] 10 [v] = [x0, x1, x2, x3, x4, x5, x6, x7, x8, x9, v, x11, x12] := rfl
theorem Vv {x0 x1 x2 x3 x4 x5 x6 x7 x8 x9 x10 x11 x12 v : Value} : setAll [x0, x1, x2, x3, x4, x5, x6, x7, x8, x9, x10, x11, x12] 11 [v] = [x0, x1, x2, x3, x4, x5, x6, x7, x8, x9, x10, v, x12] := rfl
theorem Vw {x0 x1 x2 x3 x4 x5 x6 x7 x8 x9 x10 x11 x12 v : Value} : setAll [x0, x1, x2, x3, x4, x5, x6, x7, x8, x9, x10, x11, x12] 12 [v] = [x0, x1, x2, x3, x4, x5, x6, x7, x8, x9, x10, x11, v] := rfl
theorem Vx (t : Tmps) (f : FuncId) : ev t (.func f) = .func (.func f) ([] : List Value).toArray ([] : List Value).toArray := rfl
end Go.Hai
