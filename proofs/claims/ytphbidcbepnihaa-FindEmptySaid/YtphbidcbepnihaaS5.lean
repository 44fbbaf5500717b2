/-
  The abstract interpreter over values that are not known: slices of numbers that grow by append. No proof of the program stands here.
-/
import Derived.Test.YtphbidcbepnihaaS4
namespace Go.Hai
open Go

abbrev intL (z : Int) : List Value := [i64 z]
abbrev SlI := @SlP Int intL 1
/- a slice of numbers that a function makes: nothing yet, or a row of its own, from a number on -/
def OutP (base : Nat) (τ : AHeap) (v : Value) (l : List Int) : Prop :=
  (v = .slice none 0 0 ∧ l = []) ∨
  ∃ b cs fam, v = .slice (some ⟨b, 0, none⟩) l.length 1 ∧ base ≤ b ∧ b < τ.n ∧ τ.t.get b = some (.row cs l.length 1 true true fam) ∧ ∀ i z, l[i]? = some z → cs.get i = some (i64 z)
theorem OutP.nil (base : Nat) (τ : AHeap) : OutP base τ (.slice none 0 0) [] := .inl ⟨rfl, rfl⟩
theorem OutP.keeps {base : Nat} {σ τ : AHeap} {v : Value} {l : List Int} (h : OutP base σ v l) (k : Keeps σ τ) : OutP base τ v l := by
  rcases h with h | ⟨b, cs, fam, h1, h2, h3, h4, h5⟩
  · exact .inl h
  · exact .inr ⟨b, cs, fam, h1, h2, Nat.lt_of_lt_of_le h3 k.n, by rw [k.row b h3]; exact h4, h5⟩
theorem OutP.shape {base : Nat} {τ : AHeap} {v : Value} {l : List Int} (h : OutP base τ v l) : ∃ a f, v = .slice a l.length f := by
  rcases h with ⟨rfl, rfl⟩ | ⟨b, cs, fam, rfl, _⟩
  · exact ⟨_, _, rfl⟩
  · exact ⟨_, _, rfl⟩
theorem OutP.isCell {base : Nat} {τ : AHeap} {v : Value} {l : List Int} (h : OutP base τ v l) : Hai.isCell v = true := by
  obtain ⟨a, f, rfl⟩ := h.shape; rfl
theorem alive_nil {τ : AHeap} (hd : τ.dead = []) (fam : Option (Nat × Nat)) : τ.alive fam = true := by
  cases fam with
  | none => rfl
  | some p => simp [AHeap.alive, hd, inDead]
theorem cellsFrom_ints {cs : Tr Value} : ∀ (n o : Nat) (l : List Int), (∀ i z, l[i]? = some z → cs.get (o + i) = some (i64 z)) → n ≤ l.length → cellsFrom cs o n = some ((l.take n).map i64) := by
  intro n
  induction n with
  | zero => intro o l _ _; rfl
  | succ n ih =>
    intro o l h hl
    cases l with
    | nil => simp at hl
    | cons z l =>
      have h0 := h 0 z rfl
      unfold cellsFrom
      rw [Nat.add_zero] at h0
      rw [h0, ih (o + 1) l (fun i x hx => by have := h (i + 1) x hx; rw [show o + 1 + i = o + (i + 1) by omega]; exact this) (by simpa using hl)]
      rfl
/- what was there can be read as ever -/
def Reads (σ τ : AHeap) : Prop := σ.n ≤ τ.n ∧ ∀ b o n, b < σ.n → τ.loadN b o n = σ.loadN b o n
theorem Reads.refl (σ : AHeap) : Reads σ σ := ⟨Nat.le_refl _, fun _ _ _ _ => rfl⟩
theorem Reads.trans {σ τ υ : AHeap} (h : Reads σ τ) (h' : Reads τ υ) : Reads σ υ := ⟨Nat.le_trans h.1 h'.1, fun b o n hb => (h'.2 b o n (Nat.lt_of_lt_of_le hb h.1)).trans (h.2 b o n hb)⟩
theorem Keeps.reads {σ τ : AHeap} (h : Keeps σ τ) : Reads σ τ := ⟨h.n, fun _ o n hb => h.load o n hb⟩
theorem app_step {base : Nat} {τ : AHeap} {v : Value} {l : List Int} {z : Int} {bx fx : Nat} (hd : τ.dead = []) (hlow : τ.low ≤ base) (hbase : base ≤ τ.n) (ho : OutP base τ v l) (hx : τ.loadN bx 0 1 = some [i64 z]) (hl : l.length < 1000) :
    ∃ v' τ', appOp τ 1 8 v (.slice (some ⟨bx, 0, none⟩) 1 fx) = some (v', τ') ∧ OutP base τ' v' (l ++ [z]) ∧ τ'.dead = [] ∧ τ'.low = τ.low ∧ (∀ b, b < base → τ'.t.get b = τ.t.get b) ∧ Reads τ τ' := by
  have hsrc : srcCells τ 1 (.slice (some ⟨bx, 0, none⟩) 1 fx) = some (1, [i64 z]) := by simp only [srcCells, Nat.one_mul, hx]
  have hlow' : minN τ.low τ.n = τ.low := by unfold minN; rw [if_pos (Nat.ble_eq_true_of_le (by omega))]
  have push_row : ∀ (σ : AHeap) (r : AObj) (b : Nat), b < σ.n → (σ.push r).t.get b = σ.t.get b := fun σ r b hb => by
    show (σ.t.ins σ.n r).get b = _
    rw [Tr.get_ins, if_neg (by omega)]
  rcases ho with ⟨rfl, rfl⟩ | ⟨b, cs, fam, rfl, h2, h3, h4, h5⟩
  · refine ⟨.slice (some ⟨τ.n, 0, none⟩) 1 1, τ.newRow [i64 z] 1, ?_, ?_, hd, rfl, fun b hb => push_row τ _ b (by omega), ?_, ?_⟩
    · simp only [appOp, hsrc]; rfl
    · refine .inr ⟨τ.n, Tr.of [i64 z], none, rfl, hbase, Nat.lt_succ_self _, ?_, ?_⟩
      · show (τ.t.ins τ.n _).get τ.n = _
        rw [Tr.get_ins, if_pos rfl]; rfl
      · intro i y hy
        rw [Tr.get_of]
        cases i with
        | zero => simp at hy; subst hy; rfl
        | succ i => simp at hy
    · exact Nat.le_succ _
    · intro b o n hb
      have : (τ.newRow [i64 z] 1).t.get b = τ.t.get b := push_row τ _ b hb
      unfold AHeap.loadN AHeap.row?
      rw [this]; rfl
  · have hal := alive_nil hd fam
    have hdn : inDead (tieP τ b fam) τ.dead = false := by rw [hd]; rfl
    have hb1 : Nat.ble ((l.length + 1) * 8) 140737488355328 = true := Nat.ble_eq_true_of_le (by omega)
    have hb2 : Nat.ble (l.length + 1) 140737488355328 = true := Nat.ble_eq_true_of_le (by omega)
    have hin : ∀ c, c < τ.n → ((τ.tie b cs l.length 1 fam).push (.row (cs.put l.length [i64 z]) (l.length + 1) 1 true true (some (tieP τ b fam)))).t.get c = if b = c then some (.row cs l.length 1 false true (some (tieP τ b fam))) else τ.t.get c := fun c hc => by
      rw [push_row _ _ _ (show c < (τ.tie b cs l.length 1 fam).n from hc)]
      show (τ.t.ins b _).get c = _
      rw [Tr.get_ins]
    refine ⟨.slice (some ⟨τ.n, 0, none⟩) (l.length + 1) 1, (τ.tie b cs l.length 1 fam).push (.row (cs.put l.length [i64 z]) (l.length + 1) 1 true true (some (tieP τ b fam))), ?_, ?_, hd, ?_, ?_, ?_, ?_⟩
    · simp only [appOp, hsrc]
      rw [if_neg (by decide), if_neg (by rw [hb1, hb2]; decide), if_neg (by decide)]
      simp only [h4]
      rw [if_pos (by rw [hal, hdn]; simp)]
      rfl
    · refine .inr ⟨τ.n, cs.put l.length [i64 z], some (tieP τ b fam), by simp, hbase, Nat.lt_succ_self _, ?_, ?_⟩
      · show ((τ.tie b cs l.length 1 fam).t.ins τ.n _).get τ.n = _
        rw [Tr.get_ins, if_pos rfl]; simp
      · intro i y hy
        rw [Tr.get_put]
        by_cases hi : i < l.length
        · rw [if_neg (by omega)]
          rw [List.getElem?_append_left hi] at hy
          exact h5 i y hy
        · have hi' : i = l.length := by
            have := (List.getElem?_eq_some_iff.1 hy).1
            simp at this; omega
          subst hi'
          rw [if_pos (by simp)]
          simp at hy ⊢
          exact hy
    · show minN τ.low b = τ.low
      unfold minN; rw [if_pos (Nat.ble_eq_true_of_le (by omega))]
    · intro c hc
      rw [hin c (by omega), if_neg (by omega)]
    · exact Nat.le_succ _
    · intro c o n hc
      unfold AHeap.loadN AHeap.row?
      rw [hin c hc]
      by_cases hbc : b = c
      · subst hbc
        rw [if_pos rfl, h4]
        simp only
        rw [alive_nil (τ := τ) hd, alive_nil (show ((τ.tie b cs l.length 1 fam).push _).dead = [] from hd)]
      · rw [if_neg hbc]
        have : ∀ fam', ((τ.tie b cs l.length 1 fam).push (.row (cs.put l.length [i64 z]) (l.length + 1) 1 true true (some (tieP τ b fam)))).alive fam' = τ.alive fam' := fun fam' => by
          rw [alive_nil hd, alive_nil (show ((τ.tie b cs l.length 1 fam).push _).dead = [] from hd)]
        simp only [this]
theorem XX {σ : AHeap} {t : Tmps} {K : Kt} {sz by_ : Nat} {s x : Operand} : EndsO (aop σ t (.app sz by_ s x)) K = EndsO (appOp σ sz by_ (ev t s) (ev t x)) K := rfl
def bslQ (x : Option (List Value)) (σ : AHeap) (L : List (List Value × Nat)) (sz len : Nat) (K : Kt) : Prop := match x with
  | some cs => if cs.all isCell = true then K (.slice (some ⟨σ.n + L.length, 0, none⟩) len (if Nat.beq len 0 then 0 else 1)) (σ.grow (L ++ [(cs, sz)])) else False
  | none => False
theorem XZ {cs : List Value} {σ : AHeap} {L : List (List Value × Nat)} {sz len : Nat} {K : Kt} : bslQ (some cs) σ L sz len K = if cs.all isCell = true then K (.slice (some ⟨σ.n + L.length, 0, none⟩) len (if Nat.beq len 0 then 0 else 1)) (σ.grow (L ++ [(cs, sz)])) else False := rfl
theorem XY {σ : AHeap} {t : Tmps} {K : Kt} {z : List Value} {sz len : Nat} {ps : List (Nat × Nat × Operand)} {L : List (List Value × Nat)} :
    EndsO (aop (σ.grow L) t (.buildSl z sz len ps)) K = bslQ (fillL t z ps) σ L sz len K := by
  simp only [aop, bslQ, newRow_grow]
  cases fillL t z ps with
  | none => rfl
  | some cs => simp only; split <;> rfl
/- a slice that was made is a slice -/
theorem OutP.sl {base : Nat} {τ : AHeap} {v : Value} {l : List Int} (h : OutP base τ v l) (hd : τ.dead = []) : ∃ a f, v = .slice a l.length f ∧ SlI τ a l := by
  rcases h with ⟨rfl, rfl⟩ | ⟨b, cs, fam, rfl, h2, h3, h4, h5⟩
  · exact ⟨none, 0, rfl, .inl rfl⟩
  · refine ⟨_, 1, rfl, .inr ⟨b, rfl, h3, fun i x hx o n hon => ?_⟩⟩
    have hi := (List.getElem?_eq_some_iff.1 hx).1
    unfold AHeap.loadN AHeap.row?
    rw [h4]
    simp only [alive_nil hd, if_true]
    rw [if_pos (Nat.ble_eq_true_of_le (by omega))]
    have hon' : (o = 0 ∧ n ≤ 1) ∨ (o = 1 ∧ n = 0) := by omega
    rcases hon' with ⟨rfl, hn⟩ | ⟨rfl, rfl⟩
    · have : n = 0 ∨ n = 1 := by omega
      rcases this with rfl | rfl
      · rfl
      · simp only [cellsFrom, Nat.mul_one, Nat.add_zero, h5 i x hx]; rfl
    · rfl
/- calls whose result has an address -/
def finA (m : Nat) (res : List ARes) (R : Value → AHeap → Prop) : AEx → Tmps → AHeap → Prop
  | .exit _, _, _ => False
  | _, t, σ => (match resAll t σ res with | some vs => R (one vs) σ | none => False) ∧ σ.low = m
theorem X0 {m : Nat} {res : List ARes} {R : Value → AHeap → Prop} {t : Tmps} {σ : AHeap} : finA m res R .ret t σ = ((match resAll t σ res with | some vs => R (one vs) σ | none => False) ∧ σ.low = m) := rfl
theorem acall_addr {E : FuncId → Option AFn} {fuel d : Nat} {f : FuncId} {N : Nat} {res : List ARes} {c : ACode} {args : List Value} {σ : AHeap} {R : Value → AHeap → Prop} (hE : E f = some ⟨N, res, c⟩) (hl : args.length ≤ N) (hlow : σ.low ≤ σ.n)
    (h : Ends (acode (acall E fuel d) fuel c (Tr.of args) (σ.fresh.grow [])) (finA σ.n res R)) :
    ∃ v τ', acall E fuel (d + 1) f args σ = some (v, τ') ∧ ∃ τ, R v τ ∧ ((flat v = true ∧ τ' = σ) ∨ τ' = τ.setLow σ.low) := by
  rw [grow_nil] at h
  simp only [acall, hE]
  rw [if_pos (Nat.ble_eq_true_of_le hl)]
  unfold AHeap.fresh at h
  have hm : minN σ.low σ.n = σ.low := by unfold minN; rw [if_pos (Nat.ble_eq_true_of_le hlow)]
  have fin : ∀ (t : Tmps) (τ : AHeap), ((match resAll t τ res with | some vs => R (one vs) τ | none => False) ∧ τ.low = σ.n) →
      ∃ v τ', (match resAll t τ res with | some vs => some (if (Nat.beq τ.low σ.n && flat (one vs)) = true then (one vs, σ) else (one vs, { τ with low := minN σ.low τ.low })) | none => none) = some (v, τ') ∧ ∃ τ, R v τ ∧ ((flat v = true ∧ τ' = σ) ∨ τ' = τ.setLow σ.low) := by
    rintro t τ ⟨h1, h2⟩
    cases hv : resAll t τ res with
    | none => rw [hv] at h1; exact h1.elim
    | some vs =>
      rw [hv] at h1
      simp only at h1 ⊢
      rw [h2, hm, Nat.beq_refl]
      cases hf : flat (one vs) with
      | true => exact ⟨one vs, σ, by simp, τ, h1, .inl ⟨hf, rfl⟩⟩
      | false => exact ⟨one vs, τ.setLow σ.low, by simp [AHeap.setLow], τ, h1, .inr rfl⟩
  cases hx : acode (acall E fuel d) fuel c (Tr.of args) { σ with low := σ.n } with
  | none => rw [hx] at h; exact h.elim
  | some p =>
    obtain ⟨e, t, τ⟩ := p
    rw [hx] at h
    cases e with
    | exit i => exact h.elim
    | normal => exact fin t τ h
    | ret => exact fin t τ h
theorem OutP.setLow {base : Nat} {τ : AHeap} {v : Value} {l : List Int} (h : OutP base τ v l) (m : Nat) : OutP base (τ.setLow m) v l := h
theorem OutP.flat {base : Nat} {τ σ : AHeap} {v : Value} {l : List Int} (h : OutP base τ v l) (hf : flat v = true) : OutP base σ v l := by
  rcases h with h | ⟨b, cs, fam, rfl, _⟩
  · exact .inl h
  · cases hf
theorem OutP.le {base base' : Nat} {τ : AHeap} {v : Value} {l : List Int} (h : OutP base τ v l) (hb : base' ≤ base) : OutP base' τ v l := by
  rcases h with h | ⟨b, cs, fam, h1, h2, h⟩
  · exact .inl h
  · exact .inr ⟨b, cs, fam, h1, Nat.le_trans hb h2, h⟩
theorem Keeps.app {σ τ τ' : AHeap} (h : Keeps σ τ) (hr : Reads τ τ') (hd : τ'.dead = τ.dead) (hl : τ'.low = τ.low) (hb : ∀ b, b < σ.n → τ'.t.get b = τ.t.get b) : Keeps σ τ' :=
  ⟨Nat.le_trans h.n hr.1, hl.trans h.low, hd.trans h.dead, fun b hb' => (hb b hb').trans (h.row b hb')⟩
theorem Keeps.cut {σ τ : AHeap} {L : List (List Value × Nat)} (h : Keeps (σ.grow L) τ) : Keeps σ τ := (Keeps.self σ L).trans h
theorem Keeps.back {σ τ : AHeap} (h : Keeps σ.fresh τ) : Keeps σ (τ.setLow σ.low) := ⟨h.n, rfl, h.dead, h.row⟩
end Go.Hai
