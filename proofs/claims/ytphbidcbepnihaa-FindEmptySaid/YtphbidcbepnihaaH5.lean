/-
  The abstract interpreter: what becomes of the relation of both heaps where a row is made, read, written. No proof of the program stands here.
-/
import Derived.Test.YtphbidcbepnihaaH4
namespace Go.Hai
open Go

def upd (ρ : Ren) (b : Nat) (L : Loc) : Ren := fun b' => if b' = b then some L else ρ b'
theorem upd_same (ρ : Ren) (b : Nat) (L : Loc) : upd ρ b L b = some L := by simp [upd]
theorem upd_other {ρ : Ren} {b b' : Nat} {L : Loc} (h : b' ≠ b) : upd ρ b L b' = ρ b' := by simp [upd, h]
theorem Sim.fresh [Rho] {ρ : Ren} {σ : AHeap} {w : World} (h : Sim ρ σ w) {b : Nat} (hb : σ.n ≤ b) : ρ b = none := by
  cases he : ρ b with
  | none => rfl
  | some L => exact absurd (h.dom b L he) (by omega)
theorem upd_le [Rho] {ρ : Ren} {σ : AHeap} {w : World} (h : Sim ρ σ w) (L : Loc) : ρ.le (upd ρ σ.n L) := by
  intro b K he
  rw [upd_other (by rintro rfl; rw [h.fresh (Nat.le_refl _)] at he; cases he)]
  exact he

theorem minN_eq (a b : Nat) : minN a b = min a b := by
  unfold minN
  by_cases h : a ≤ b
  · rw [if_pos (Nat.ble_eq_true_of_le h)]; omega
  · rw [if_neg (fun e => h (Nat.le_of_ble_eq_true e))]; omega

theorem ext_push (σ : AHeap) (o : AObj) : Ext σ (σ.push o) where
  n := Nat.le_succ _
  low := Nat.le_refl _
  nf := Nat.le_refl _
  keep := fun b hb _ => by simp only [AHeap.push, Tr.get_ins]; rw [if_neg (by omega)]
  ro := fun b hb _ => by simp only [AHeap.push, Tr.get_ins]; rw [if_neg (by omega)]
  ro' := fun b hb _ => by simp only [AHeap.push, Tr.get_ins]; rw [if_neg (by omega)]
  dead := fun _ h => .inl h
  dead' := fun _ h => h

theorem get_push (σ : AHeap) (o : AObj) (b : Nat) : (σ.push o).t.get b = if σ.n = b then some o else σ.t.get b := by simp only [AHeap.push, Tr.get_ins]
theorem alive_push (σ : AHeap) (o : AObj) (f : Option (Nat × Nat)) : (σ.push o).alive f = σ.alive f := rfl
theorem shares_push {σ : AHeap} {o : AObj} {x y : Option AObj} : shares (σ.push o) x y ↔ shares σ x y := Iff.rfl
theorem shares_symm {σ : AHeap} {x y : Option AObj} (h : shares σ x y) : shares σ y x := by
  unfold shares at *
  split at h
  · rcases h with ⟨h1, h2⟩ | h | h | ⟨h, h'⟩
    · exact .inl ⟨h2, h1⟩
    · exact .inr (.inr (.inl h))
    · exact .inr (.inl h)
    · exact .inr (.inr (.inr ⟨h.symm, h ▸ h'⟩))
  · exact h.elim

theorem RowAt.mono [Rho] {ρ ρ' : Ren} {w w' : World} {cs : Tr Value} {len : Nat} {rw : Bool} {L : Loc} (hle : ρ.le ρ') (hw : w'.heap[L.blk]? = w.heap[L.blk]?)
    (h : RowAt ρ w cs len rw L) : RowAt ρ' w' cs len rw L := by
  obtain ⟨C, T, fr, h1, h2, h3, h4, h5⟩ := h.ex
  exact ⟨C, T, fr, by rw [hw, h1], h2, h3, h4, fun i v hi hv => let ⟨hc, u, hu, hr⟩ := h5 i v hi hv; ⟨hc, u, hu, hr.mono hle⟩⟩

/- something new: a row or an object, in a new block of the machine -/
theorem sim_push [Rho] {ρ : Ren} {σ : AHeap} {w w' : World} {o : AObj} {obj : Obj} {L : Loc} (h : Sim ρ σ w) (hw : w'.heap = w.heap.push obj) (hL : L.blk = w.heap.size)
    (hrow : ∀ cs len es top rw fam, o = .row cs len es top rw fam → L.es = es ∧ (∀ p, fam = some p → p.2 ≤ σ.n) ∧ RowAt (upd ρ σ.n L) w' cs len rw L)
    (hobj : ∀ x, o = .obj x → obj = x ∧ Obj.notRow x = true ∧ L.base = 0) (hio : SameIO w w') : Post ρ σ w (upd ρ σ.n L) (σ.push o) w' := by
  have hsz : w'.heap.size = w.heap.size + 1 := by rw [hw]; simp
  have hold : ∀ B, B < w.heap.size → w'.heap[B]? = w.heap[B]? := fun B hB => by rw [hw, Array.getElem?_push_lt hB, Array.getElem?_eq_getElem hB]
  have hnew : w'.heap[L.blk]? = some obj := by rw [hw, hL]; simp
  refine ⟨⟨?_, ?_, ?_, ?_, ?_, ?_, ?_⟩, upd_le h L, ?_, by omega, fun B hB _ => hold B hB, hio⟩
  · intro b K he
    by_cases hb : b = σ.n
    · subst hb; simp [AHeap.push]
    · rw [upd_other hb] at he
      exact Nat.lt_succ_of_lt (h.dom b K he)
  · intro b K he
    by_cases hb : b = σ.n
    · subst hb; rw [upd_same] at he; cases he; omega
    · rw [upd_other hb] at he; have := h.lt b K he; omega
  · intro b K he
    rw [get_push]
    split
    · simp
    · next hb => rw [upd_other (Ne.symm hb)] at he; exact h.some' b K he
  · intro b K cs len es top rw' fam he hg
    rw [get_push] at hg
    by_cases hb : σ.n = b
    · subst hb
      rw [upd_same] at he; cases he
      rw [if_pos rfl] at hg; cases hg
      obtain ⟨h1, h2, h3⟩ := hrow _ _ _ _ _ _ rfl
      exact ⟨h1, h2, fun _ => h3⟩
    · rw [if_neg hb] at hg
      rw [upd_other (Ne.symm hb)] at he
      obtain ⟨h1, h2, h3⟩ := h.row b K cs len es top rw' fam he hg
      exact ⟨h1, h2, fun ha => (h3 ha).mono (upd_le h L) (hold _ (h.lt b K he))⟩
  · intro b K x he hg
    rw [get_push] at hg
    by_cases hb : σ.n = b
    · subst hb
      rw [upd_same] at he; cases he
      rw [if_pos rfl] at hg; cases hg
      obtain ⟨rfl, h2⟩ := hobj _ rfl
      exact ⟨hnew, h2⟩
    · rw [if_neg hb] at hg
      rw [upd_other (Ne.symm hb)] at he
      obtain ⟨h1, h2⟩ := h.obj b K x he hg
      exact ⟨by rw [hold _ (h.lt b K he), h1], h2⟩
  · intro b b' K K' hne he he' hB
    rw [shares_push, get_push, get_push]
    by_cases hb : b = σ.n
    · subst hb
      rw [upd_same] at he; cases he
      rw [upd_other (Ne.symm hne)] at he'
      have := h.lt b' K' he'; omega
    · rw [upd_other hb] at he
      by_cases hb' : b' = σ.n
      · subst hb'
        rw [upd_same] at he'; cases he'
        have := h.lt b K he; omega
      · rw [upd_other hb'] at he'
        rw [if_neg (Ne.symm hb), if_neg (Ne.symm hb')]
        exact h.sep b b' K K' hne he he' hB
  · intro b b' K K' cs len es fam cs' len' es' top' rw' fam' hne he he' hB hg hg' ha ha'
    rw [get_push] at hg hg'
    by_cases hb : b = σ.n
    · subst hb
      rw [upd_same] at he; cases he
      rw [upd_other (Ne.symm hne)] at he'
      have := h.lt b' K' he'; omega
    · rw [upd_other hb] at he
      by_cases hb' : b' = σ.n
      · subst hb'
        rw [upd_same] at he'; cases he'
        have := h.lt b K he; omega
      · rw [upd_other hb'] at he'
        rw [if_neg (Ne.symm hb)] at hg
        rw [if_neg (Ne.symm hb')] at hg'
        exact h.top b b' K K' _ _ _ _ _ _ _ _ _ _ hne he he' hB hg hg' ha ha'
  · intro b K he
    by_cases hb : b = σ.n
    · subst hb; rw [upd_same] at he; cases he
      exact .inr ⟨Nat.le_refl _, .inl (by omega)⟩
    · rw [upd_other hb] at he; exact .inl he

theorem sim_newRow' [Rho] {ρ : Ren} {σ : AHeap} {w w' : World} {cs ds : List Value} {C : Array Value} {T : TypeId} {es : Nat} (h : Sim ρ σ w) (hv : VRs ρ cs ds) (hc : cs.all isCell = true)
    (hC : ∀ i, i < ds.length → C[i]? = ds[i]?) (hl : ds.length ≤ C.size) (hw : w'.heap = w.heap.push (.cells C T)) (hio : SameIO w w') :
    Post ρ σ w (upd ρ σ.n ⟨w.heap.size, 0, C.size, es⟩) (σ.newRow cs es) w' := by
  refine sim_push (obj := .cells C T) h hw rfl ?_ (by rintro x ⟨⟩) hio
  rintro _ _ _ _ _ _ ⟨⟩
  refine ⟨rfl, (fun p hp => by cases hp), ⟨C, T, (0, 0), by simp [hw], by simp, by rw [hv.length]; exact hl, fun _ => rfl, ?_⟩⟩
  intro i v hi he
  rw [Tr.get_of] at he
  obtain ⟨u, hu, hr⟩ := hv.get1 he
  refine ⟨List.all_eq_true.1 hc _ (List.mem_of_getElem? he), u, ?_, hr.mono (upd_le h _)⟩
  rw [Nat.zero_add, hC i (by rw [← hv.length]; exact hi), hu]
theorem sim_newRow [Rho] {ρ : Ren} {σ : AHeap} {w : World} {cs ds : List Value} {C : Array Value} {T : TypeId} {es : Nat} (h : Sim ρ σ w) (hv : VRs ρ cs ds) (hc : cs.all isCell = true)
    (hC : ∀ i, i < ds.length → C[i]? = ds[i]?) (hl : ds.length ≤ C.size) :
    Post ρ σ w (upd ρ σ.n ⟨w.heap.size, 0, C.size, es⟩) (σ.newRow cs es) { w with heap := w.heap.push (.cells C T) } := sim_newRow' h hv hc hC hl rfl ⟨rfl, rfl⟩

/- ---- reading ---- -/
theorem add_none (B o n : Nat) : (⟨B, o, none⟩ : Addr).add n = ⟨B, o + n, none⟩ := by
  unfold Addr.add; split
  · next h => subst h; rfl
  · rfl

theorem cellsFrom_get {cs : Tr Value} : ∀ {n o : Nat} {l : List Value}, cellsFrom cs o n = some l → l.length = n ∧ ∀ i, i < n → cs.get (o + i) = l[i]? := by
  intro n
  induction n with
  | zero => intro o l h; simp [cellsFrom] at h; subst h; simp
  | succ n ih =>
    intro o l h
    simp only [cellsFrom] at h
    split at h
    · next v hv =>
      split at h
      · next l' hl =>
        cases h
        obtain ⟨h1, h2⟩ := ih hl
        refine ⟨by simp [h1], fun i hi => ?_⟩
        cases i with
        | zero => simpa using hv
        | succ i => rw [List.getElem?_cons_succ, ← h2 i (by omega)]; congr 1; omega
      · cases h
    · cases h

theorem Sim.cells [Rho] {ρ : Ren} {σ : AHeap} {w : World} (h : Sim ρ σ w) {b o n : Nat} {vs : List Value} {L : Loc} (hb : ρ b = some L) (hl : σ.loadN b o n = some vs) :
    ∃ C T fr us, w.heap[L.blk]? = some (.cells C T fr) ∧ us.length = n ∧ (∀ i, i < n → C[L.base + o + i]? = us[i]?) ∧ L.base + o + n ≤ C.size ∧ VRs ρ vs us ∧ vs.all isCell = true := by
  unfold AHeap.loadN AHeap.row? at hl
  split at hl
  · next cs len hr =>
    split at hr
    · next hg =>
      split at hr
      · next ha =>
        cases hr
        obtain ⟨_, _, h3⟩ := h.row _ _ _ _ _ _ _ _ hb hg
        obtain ⟨C, T, fr, h1, h2, h3, h4, h5⟩ := (h3 ha).ex
        split at hl
        · next hle =>
          have hle := Nat.le_of_ble_eq_true hle
          obtain ⟨e1, e2⟩ := cellsFrom_get hl
          have hlt : ∀ i, i < n → L.base + o + i < C.size := fun i hi => by omega
          refine ⟨C, T, fr, (List.range n).map (fun i => C.getD (L.base + o + i) undef), h1, by simp, ?_, by omega, ?_, ?_⟩
          · intro i hi
            simp [hi, Array.getD, hlt i hi]
          · refine .of_get (by simp [e1]) fun i v u hv hu => ?_
            have hi : i < n := by rw [← e1]; exact (List.getElem?_eq_some_iff.1 hv).1
            have he := e2 i hi
            rw [hv] at he
            obtain ⟨_, u', hu', hr⟩ := h5 (o + i) v (by omega) he
            simp [hi, Array.getD, hlt i hi] at hu
            rw [← Nat.add_assoc, Array.getElem?_eq_getElem (hlt i hi)] at hu'
            cases hu'; rw [← hu]; exact hr
          · rw [List.all_eq_true]
            intro v hv
            obtain ⟨i, hi, rfl⟩ := List.mem_iff_getElem.1 hv
            have he := e2 i (by omega)
            rw [List.getElem?_eq_getElem hi] at he
            exact (h5 (o + i) _ (by omega) he).1
        · cases hl
      · cases hr
    · cases hr
  · cases hl

theorem run_loadCellsFrom [Rho] (P : Program) (w : World) {B off : Nat} {C : Array Value} {T : TypeId} {fr : Nat × Nat} (hB : w.heap[B]? = some (.cells C T fr)) :
    ∀ (n i : Nat) (acc : Array Value), off + i + n ≤ C.size →
      (loadCellsFrom ⟨B, off, none⟩ i n acc).run P w = .ok (acc ++ ((C.toList.drop (off + i)).take n).toArray) w := by
  intro n
  induction n with
  | zero => intro i acc _; simp [loadCellsFrom]
  | succ n ih =>
    intro i acc hle
    have hlt : off + i < C.size := by omega
    have hc : w.cell? ⟨B, off + i, none⟩ = some C[off + i] := by simp [World.cell?, hB, hlt]
    simp only [loadCellsFrom, Sem.run_bind, add_none, run_load, hc, Result.andThen_ok]
    rw [ih (i + 1) _ (by omega)]
    have hd : C.toList.drop (off + i) = C[off + i] :: C.toList.drop (off + (i + 1)) := by
      rw [List.drop_eq_getElem_cons (by simpa using hlt)]; simp; rfl
    rw [hd, List.take_succ_cons]
    congr 1
    rw [Array.push_eq_append, Array.append_assoc]
    congr 1
    simp

theorem run_loadCells [Rho] (P : Program) (w : World) {B off n : Nat} {C : Array Value} {T : TypeId} {fr : Nat × Nat} {us : List Value} (hB : w.heap[B]? = some (.cells C T fr))
    (hle : off + n ≤ C.size) (hl : us.length = n) (hu : ∀ i, i < n → C[off + i]? = us[i]?) : (loadCells ⟨B, off, none⟩ n).run P w = .ok us.toArray w := by
  unfold loadCells
  rw [run_loadCellsFrom P w hB n 0 #[] (by omega)]
  have : (C.toList.drop (off + 0)).take n = us := by
    apply List.ext_getElem?
    intro i
    by_cases hi : i < n
    · rw [List.getElem?_take_of_lt hi, List.getElem?_drop, ← hu i hi]; simp
    · rw [List.getElem?_eq_none (by simp; omega), List.getElem?_eq_none (by omega)]
  rw [this]; simp

/- ---- writing ---- -/
theorem run_storeCells [Rho] (P : Program) {B off : Nat} {T : TypeId} : ∀ (us : List Value) (i : Nat) (w : World) (C : Array Value), w.heap[B]? = some (.cells C T (0, 0)) →
    off + i + us.length ≤ C.size → us.all isCell = true → ∃ w' C', (storeCells ⟨B, off, none⟩ us i).run P w = .ok () w' ∧ w'.heap.size = w.heap.size ∧
      w'.heap[B]? = some (.cells C' T (0, 0)) ∧ C'.size = C.size ∧ (∀ j, C'[j]? = if off + i ≤ j ∧ j < off + i + us.length then us[j - (off + i)]? else C[j]?) ∧
      (∀ B', B' ≠ B → w'.heap[B']? = w.heap[B']?) ∧ SameIO w w' := by
  intro us
  induction us with
  | nil =>
    intro i w C hB _ _
    refine ⟨w, C, rfl, rfl, hB, rfl, fun j => ?_, fun _ _ => rfl, rfl, rfl⟩
    rw [if_neg (by simp only [List.length_nil]; omega)]
  | cons v us ih =>
    intro i w C hB hle hc
    simp only [List.all_cons, Bool.and_eq_true, List.length_cons] at hc hle
    have hlt : off + i < C.size := by omega
    have hcell : w.cell? ⟨B, off + i, none⟩ = some C[off + i] := by simp [World.cell?, hB, hlt]
    have hfr : w.frozen? ⟨B, off + i, none⟩ = false := by simp [World.frozen?, hB]
    have hBlt : B < w.heap.size := (Array.getElem?_eq_some_iff.1 hB).1
    let w1 := w.setCell ⟨B, off + i, none⟩ v
    have hset : w1.heap[B]? = some (.cells (C.setIfInBounds (off + i) v) T (0, 0)) := by
      simp only [w1, World.setCell, Array.getElem?_modify, if_true, hB]; simp
    obtain ⟨w', C', h1, h2, h3, h4, h5, h6, h7⟩ := ih (i + 1) w1 _ hset (by simp; omega) hc.2
    refine ⟨w', C', ?_, ?_, h3, by rw [h4]; simp, fun j => ?_, fun B' hB' => ?_, h7⟩
    · simp only [storeCells, Sem.run_bind, add_none]
      rw [run_store P w _ v _ (oneCell_of hc.1)]
      simp only [hcell, hfr]
      exact h1
    · rw [h2]; simp only [w1, World.size_setCell]
    · rw [h5 j]
      by_cases hj : off + (i + 1) ≤ j ∧ j < off + (i + 1) + us.length
      · rw [if_pos hj, if_pos (by simp only [List.length_cons]; omega)]
        obtain ⟨d, hd⟩ : ∃ d, j - (off + i) = d + 1 := ⟨j - (off + i) - 1, by omega⟩
        rw [hd, List.getElem?_cons_succ]; congr 1; omega
      · rw [if_neg hj, Array.getElem?_setIfInBounds]
        by_cases he : off + i = j
        · subst he
          rw [if_pos rfl, if_pos hlt, if_pos (by simp)]; simp
        · rw [if_neg he, if_neg (by simp only [List.length_cons]; omega)]
    · rw [h6 B' hB']
      simp only [w1, World.setCell, Array.getElem?_modify]
      rw [if_neg (Ne.symm hB')]

theorem minN_le_left [Rho] (a b : Nat) : minN a b ≤ a := by rw [minN_eq]; omega
theorem minN_le_right [Rho] (a b : Nat) : minN a b ≤ b := by rw [minN_eq]; omega
theorem inDead_iff (p : Nat × Nat) (l : List (Nat × Nat)) : inDead p l = true ↔ p ∈ l := by
  induction l with
  | nil => simp [inDead]
  | cons q l ih =>
    obtain ⟨a, b⟩ := p
    obtain ⟨c, d⟩ := q
    simp only [inDead, Bool.or_eq_true, Bool.and_eq_true, ih, List.mem_cons, Prod.mk.injEq]
    constructor
    · rintro (⟨h1, h2⟩ | h)
      · exact .inl ⟨Nat.eq_of_beq_eq_true h1, Nat.eq_of_beq_eq_true h2⟩
      · exact .inr h
    · rintro (⟨rfl, rfl⟩ | h)
      · exact .inl ⟨Nat.beq_refl _, Nat.beq_refl _⟩
      · exact .inr h
theorem alive_some [Rho] {σ : AHeap} {p : Nat × Nat} : σ.alive (some p) = true ↔ p ∉ σ.dead := by
  simp only [AHeap.alive, Bool.not_eq_true']
  rw [← Bool.not_eq_true, inDead_iff]
theorem alive_of [Rho] {σ σ' : AHeap} (h : ∀ p ∈ σ.dead, p ∈ σ'.dead) {f : Option (Nat × Nat)} (ha : σ'.alive f = true) : σ.alive f = true := by
  cases f with
  | none => rfl
  | some p => rw [alive_some] at *; exact fun hp => ha (h p hp)

theorem storeN_inv {σ σ' : AHeap} {b o : Nat} {vs : List Value} (h : σ.storeN b o vs = some σ') : ∃ cs len es top fam, σ.t.get b = some (.row cs len es top true fam) ∧ σ.alive fam = true ∧
    o + vs.length ≤ len ∧ vs.all isCell = true ∧
    σ' = σ.wrote b (.row (cs.put o vs) len es top true none) fam := by
  unfold AHeap.storeN at h
  split at h
  · next cs len es top fam hg =>
    split at h
    · next hc =>
      simp only [Bool.and_eq_true] at hc
      cases h
      exact ⟨_, _, _, _, _, hg, hc.1.1, Nat.le_of_ble_eq_true hc.1.2, hc.2, rfl⟩
    · cases h
  · cases h

theorem ext_store [Rho] {σ σ' : AHeap} {b o : Nat} {vs : List Value} (h : σ.storeN b o vs = some σ') : Ext σ σ' ∧ σ'.low ≤ b := by
  obtain ⟨cs, len, es, top, fam, hg, ha, hle, hc, rfl⟩ := storeN_inv h
  have hl : lowOf fam σ.low b ≤ b ∧ lowOf fam σ.low b ≤ σ.low := by
    cases fam with
    | none => exact ⟨minN_le_right _ _, minN_le_left _ _⟩
    | some p => exact ⟨Nat.le_trans (minN_le_left _ _) (minN_le_right _ _), Nat.le_trans (minN_le_left _ _) (minN_le_left _ _)⟩
  refine ⟨⟨Nat.le_refl _, hl.2, Nat.le_refl _, ?_, ?_, ?_, ?_, ?_⟩, hl.1⟩
  · intro b' hb' hlo
    simp only [AHeap.wrote] at hlo ⊢
    rw [Tr.get_ins, if_neg (by rintro rfl; have := hl.1; omega)]
  · intro b' hb' hr
    simp only [AHeap.wrote, Tr.get_ins]
    split
    · next e => subst e; rw [hg] at hr; simp [ro] at hr
    · rfl
  · intro b' hb' hr
    simp only [AHeap.wrote, Tr.get_ins] at *
    split at hr
    · simp [ro] at hr
    · next e => rw [if_neg e]
  · intro p hp
    cases fam with
    | none => exact .inl hp
    | some q =>
      simp only [AHeap.wrote, kill, List.mem_cons] at hp
      rcases hp with rfl | hp
      · exact .inr (minN_le_right _ _)
      · exact .inl hp
  · intro p hp
    cases fam with
    | none => exact hp
    | some q => exact List.mem_cons_of_mem _ hp

theorem shares_dead [Rho] {σ σ' : AHeap} (h : ∀ p ∈ σ.dead, p ∈ σ'.dead) {x y : Option AObj} (hs : shares σ x y) : shares σ' x y := by
  unfold shares at *
  split at hs
  · have hd : ∀ f, σ.alive f = false → σ'.alive f = false := fun f hf => by
      cases he : σ'.alive f with
      | false => rfl
      | true => rw [alive_of h he] at hf; cases hf
    rcases hs with hs | hs | hs | hs
    · exact .inl hs
    · exact .inr (.inl (hd _ hs))
    · exact .inr (.inr (.inl (hd _ hs)))
    · exact .inr (.inr (.inr hs))
  · exact hs.elim

theorem sim_store [Rho] {ρ : Ren} {σ σ' : AHeap} {w : World} {b o : Nat} {vs us : List Value} {L : Loc} (h : Sim ρ σ w) (hb : ρ b = some L) (hs : σ.storeN b o vs = some σ') (hv : VRs ρ vs us) :
    ∃ C T, w.heap[L.blk]? = some (.cells C T (0, 0)) ∧ L.base + o + us.length ≤ C.size ∧ us.all isCell = true ∧
    ∀ w' C', w'.heap.size = w.heap.size → w'.heap[L.blk]? = some (.cells C' T (0, 0)) → C'.size = C.size →
      (∀ j, C'[j]? = if L.base + o ≤ j ∧ j < L.base + o + us.length then us[j - (L.base + o)]? else C[j]?) → (∀ B', B' ≠ L.blk → w'.heap[B']? = w.heap[B']?) → SameIO w w' → Post ρ σ w ρ σ' w' := by
  have hext := ext_store hs
  obtain ⟨cs, len, es, top, fam, hg, ha, hle, hc, rfl⟩ := storeN_inv hs
  obtain ⟨hes, hfam, hrow⟩ := h.row _ _ _ _ _ _ _ _ hb hg
  obtain ⟨C, T, fr, h1, h2, h3, h4, h5⟩ := (hrow ha).ex
  have hfr := h4 rfl
  subst hfr
  have hlen := hv.length
  refine ⟨C, T, h1, by omega, ?_, ?_⟩
  · rw [List.all_eq_true] at *
    intro u hu
    obtain ⟨i, hi, rfl⟩ := List.mem_iff_getElem.1 hu
    exact isCell_of (hv.get i vs[i] _ (List.getElem?_eq_getElem (by omega)) (List.getElem?_eq_getElem hi)) (hc _ (by simp))
  intro w' C' e1 e2 e3 e4 e5 hio
  -- who lies in the same block is dead behind it
  have key : ∀ b' L' cs' len' es' top' rw' fam', b' ≠ b → ρ b' = some L' → L'.blk = L.blk → σ.t.get b' = some (.row cs' len' es' top' rw' fam') →
      (σ.wrote b (.row (cs.put o vs) len es top true none) fam).alive fam' = false := by
    intro b' L' cs' len' es' top' rw' fam' hne he hB hg'
    have := h.sep b b' L L' (Ne.symm hne) hb he hB.symm
    rw [hg, hg'] at this
    simp only [shares] at this
    rcases this with ⟨h, _⟩ | hd | hd | ⟨hd, hn⟩
    · cases h
    · rw [ha] at hd; cases hd
    · cases he : AHeap.alive _ fam' with
      | false => rfl
      | true => rw [alive_of (σ := σ) hext.1.dead' he] at hd; cases hd
    · subst hd
      cases fam with
      | none => exact absurd rfl hn
      | some p => simp [AHeap.alive, AHeap.wrote, kill, inDead]
  refine ⟨⟨h.dom, ?_, ?_, ?_, ?_, ?_, ?_⟩, Ren.le_refl _, fun _ _ h => .inl h, by omega, ?_, hio⟩
  · intro b' L' he; rw [e1]; exact h.lt b' L' he
  · intro b' L' he
    simp only [AHeap.wrote, Tr.get_ins]
    split
    · simp
    · exact h.some' b' L' he
  · intro b' L' cs' len' es' top' rw' fam' he hg'
    simp only [AHeap.wrote, Tr.get_ins] at hg'
    by_cases hbb : b = b'
    · subst hbb
      rw [if_pos rfl] at hg'; cases hg'
      rw [hb] at he; cases he
      refine ⟨hes, (fun p hp => by cases hp), fun _ => ⟨C', T, (0, 0), e2, by omega, h3, fun _ => rfl, ?_⟩⟩
      intro i v hi hv'
      rw [Tr.get_put] at hv'
      by_cases hr : o ≤ i ∧ i < o + vs.length
      · rw [if_pos hr] at hv'
        obtain ⟨u, hu, hvr⟩ := hv.get1 hv'
        refine ⟨List.all_eq_true.1 hc _ (List.mem_of_getElem? hv'), u, ?_, hvr⟩
        rw [e4, if_pos (by omega), ← hu]; congr 1; omega
      · rw [if_neg hr] at hv'
        obtain ⟨hc', u, hu, hvr⟩ := h5 i v hi hv'
        exact ⟨hc', u, by rw [e4, if_neg (by omega), hu], hvr⟩
    · rw [if_neg hbb] at hg'
      obtain ⟨q1, q2, q3⟩ := h.row _ _ _ _ _ _ _ _ he hg'
      refine ⟨q1, q2, fun ha' => ?_⟩
      by_cases hB : L'.blk = L.blk
      · rw [key b' L' _ _ _ _ _ _ (Ne.symm hbb) he hB hg'] at ha'; cases ha'
      · exact (q3 (alive_of (σ := σ) hext.1.dead' ha')).mono (Ren.le_refl _) (e5 _ hB)
  · intro b' L' x he hg'
    simp only [AHeap.wrote, Tr.get_ins] at hg'
    by_cases hbb : b = b'
    · subst hbb; rw [if_pos rfl] at hg'; cases hg'
    · rw [if_neg hbb] at hg'
      obtain ⟨q1, q2⟩ := h.obj b' L' x he hg'
      refine ⟨?_, q2⟩
      rw [e5 _ ?_, q1]
      intro hB
      have := h.sep b b' L L' hbb hb he hB.symm
      rw [hg, hg'] at this
      exact this
  · intro b1 b2 L1 L2 hne he1 he2 hB
    have hold := h.sep b1 b2 L1 L2 hne he1 he2 hB
    simp only [AHeap.wrote, Tr.get_ins]
    by_cases hb1 : b = b1
    · subst hb1
      rw [hb] at he1; cases he1
      rw [if_pos rfl, if_neg hne]
      cases hg2 : σ.t.get b2 with
      | none => rw [hg, hg2] at hold; exact hold.elim
      | some x => cases x with
        | obj y => rw [hg, hg2] at hold; exact hold.elim
        | row => exact .inr (.inr (.inl (key b2 L2 _ _ _ _ _ _ (Ne.symm hne) he2 hB.symm hg2)))
    · rw [if_neg hb1]
      by_cases hb2 : b = b2
      · subst hb2
        rw [hb] at he2; cases he2
        rw [if_pos rfl]
        cases hg1 : σ.t.get b1 with
        | none => rw [hg1] at hold; exact hold.elim
        | some x => cases x with
          | obj y => rw [hg1] at hold; exact hold.elim
          | row => exact .inr (.inl (key b1 L1 _ _ _ _ _ _ (Ne.symm hb1) he1 hB hg1))
      · rw [if_neg hb2]
        exact shares_dead (σ := σ) hext.1.dead' hold
  · intro b1 b2 L1 L2 cs1 len1 es1 fam1 cs2 len2 es2 top2 rw2 fam2 hne he1 he2 hB hg1 hg2 ha1 ha2
    simp only [AHeap.wrote, Tr.get_ins] at hg1 hg2
    by_cases hb1 : b = b1
    · subst hb1
      rw [hb] at he1; cases he1
      rw [if_neg hne] at hg2
      rw [key b2 L2 _ _ _ _ _ _ (Ne.symm hne) he2 hB.symm hg2] at ha2; cases ha2
    · rw [if_neg hb1] at hg1
      by_cases hb2 : b = b2
      · subst hb2
        rw [hb] at he2; cases he2
        rw [key b1 L1 _ _ _ _ _ _ (Ne.symm hb1) he1 hB hg1] at ha1; cases ha1
      · rw [if_neg hb2] at hg2
        exact h.top b1 b2 L1 L2 _ _ _ _ _ _ _ _ _ _ hne he1 he2 hB hg1 hg2 (alive_of (σ := σ) hext.1.dead' ha1) (alive_of (σ := σ) hext.1.dead' ha2)
  · intro B hB ht
    exact e5 B fun hBL => ht ⟨b, L, hb, hBL.symm, hext.2, by rw [hg]; rfl⟩

theorem ext_setObj [Rho] {σ : AHeap} {b : Nat} {x y : Obj} (hg : σ.t.get b = some (.obj x)) : Ext σ { σ with t := σ.t.ins b (.obj y), low := minN σ.low b } where
  n := Nat.le_refl _
  low := minN_le_left _ _
  nf := Nat.le_refl _
  keep := fun b' _ hl => by
    simp only [Tr.get_ins]
    rw [if_neg (by rintro rfl; have := minN_le_right σ.low b; simp only at hl; omega)]
  ro := fun b' _ hr => by
    simp only [Tr.get_ins]
    split
    · next e => subst e; rw [hg] at hr; simp [ro] at hr
    · rfl
  ro' := fun b' _ hr => by
    simp only [Tr.get_ins] at *
    split at hr
    · simp [ro] at hr
    · next e => rw [if_neg e]
  dead := fun _ h => .inl h
  dead' := fun _ h => h

theorem sim_setObj [Rho] {ρ : Ren} {σ : AHeap} {w w' : World} {b : Nat} {x y : Obj} {L : Loc} (h : Sim ρ σ w) (hb : ρ b = some L) (hg : σ.t.get b = some (.obj x)) (hy : Obj.notRow y = true)
    (hw : w'.heap = w.heap.setIfInBounds L.blk y) (hio : SameIO w w') : Post ρ σ w ρ { σ with t := σ.t.ins b (.obj y), low := minN σ.low b } w' := by
  have hsz : w'.heap.size = w.heap.size := by rw [hw]; simp
  have hoth : ∀ B, B ≠ L.blk → w'.heap[B]? = w.heap[B]? := fun B hB => by rw [hw, Array.getElem?_setIfInBounds_ne (Ne.symm hB)]
  have hnew : w'.heap[L.blk]? = some y := by rw [hw]; simp [h.lt b L hb]
  have hsep : ∀ b' L', b' ≠ b → ρ b' = some L' → L'.blk ≠ L.blk := fun b' L' hne he hB => by
    have := h.sep b b' L L' (Ne.symm hne) hb he hB.symm
    rw [hg] at this
    exact this
  refine ⟨⟨h.dom, ?_, ?_, ?_, ?_, ?_, ?_⟩, Ren.le_refl _, fun _ _ h => .inl h, by omega, ?_, hio⟩
  · intro b' L' he; rw [hsz]; exact h.lt b' L' he
  · intro b' L' he
    simp only [Tr.get_ins]
    split
    · simp
    · exact h.some' b' L' he
  · intro b' L' cs' len' es' top' rw' fam' he hg'
    simp only [Tr.get_ins] at hg'
    by_cases hbb : b = b'
    · subst hbb; rw [if_pos rfl] at hg'; cases hg'
    · rw [if_neg hbb] at hg'
      obtain ⟨q1, q2, q3⟩ := h.row _ _ _ _ _ _ _ _ he hg'
      exact ⟨q1, q2, fun ha => (q3 ha).mono (Ren.le_refl _) (hoth _ (hsep b' L' (Ne.symm hbb) he))⟩
  · intro b' L' z he hg'
    simp only [Tr.get_ins] at hg'
    by_cases hbb : b = b'
    · subst hbb; rw [if_pos rfl] at hg'; cases hg'
      rw [hb] at he; cases he
      exact ⟨hnew, hy, (h.obj _ _ _ hb hg).2.2⟩
    · rw [if_neg hbb] at hg'
      obtain ⟨q1, q2⟩ := h.obj b' L' z he hg'
      exact ⟨by rw [hoth _ (hsep b' L' (Ne.symm hbb) he), q1], q2⟩
  · intro b1 b2 L1 L2 hne he1 he2 hB
    have hold := h.sep b1 b2 L1 L2 hne he1 he2 hB
    simp only [Tr.get_ins]
    by_cases hb1 : b = b1
    · subst hb1; rw [hg] at hold; exact hold.elim
    · rw [if_neg hb1]
      by_cases hb2 : b = b2
      · subst hb2; rw [hg] at hold
        exact (shares_symm hold).elim
      · rw [if_neg hb2]; exact hold
  · intro b1 b2 L1 L2 cs1 len1 es1 fam1 cs2 len2 es2 top2 rw2 fam2 hne he1 he2 hB hg1 hg2 ha1 ha2
    simp only [Tr.get_ins] at hg1 hg2
    by_cases hb1 : b = b1
    · subst hb1; rw [if_pos rfl] at hg1; cases hg1
    · rw [if_neg hb1] at hg1
      by_cases hb2 : b = b2
      · subst hb2; rw [if_pos rfl] at hg2; cases hg2
      · rw [if_neg hb2] at hg2
        exact h.top b1 b2 L1 L2 _ _ _ _ _ _ _ _ _ _ hne he1 he2 hB hg1 hg2 ha1 ha2
  · intro B hB ht
    exact hoth B fun hBL => ht ⟨b, L, hb, hBL.symm, minN_le_right _ _, by rw [hg]; rfl⟩

theorem ext_tie [Rho] {σ : AHeap} {b : Nat} {cs : Tr Value} {len es : Nat} {fam : Option (Nat × Nat)} (hg : σ.t.get b = some (.row cs len es true true fam)) : Ext σ (σ.tie b cs len es fam) where
  n := Nat.le_refl _
  low := minN_le_left _ _
  nf := by cases fam <;> simp [AHeap.tie, tieNf]
  keep := fun b' _ hl => by
    simp only [AHeap.tie, Tr.get_ins] at *
    rw [if_neg (by rintro rfl; have := minN_le_right σ.low b; omega)]
  ro := fun b' _ hr => by
    simp only [AHeap.tie, Tr.get_ins]
    split
    · next e => subst e; rw [hg] at hr; simp [ro] at hr
    · rfl
  ro' := fun b' _ hr => by
    simp only [AHeap.tie, Tr.get_ins] at *
    split at hr
    · simp [ro] at hr
    · next e => rw [if_neg e]
  dead := fun _ h => .inl h
  dead' := fun _ h => h

theorem sim_tie [Rho] {ρ : Ren} {σ : AHeap} {w : World} {b : Nat} {L : Loc} {cs : Tr Value} {len es : Nat} {fam : Option (Nat × Nat)} (h : Sim ρ σ w) (hb : ρ b = some L)
    (hg : σ.t.get b = some (.row cs len es true true fam)) (ha : σ.alive fam = true) : Post ρ σ w ρ (σ.tie b cs len es fam) w := by
  have hal : ∀ f, (σ.tie b cs len es fam).alive f = σ.alive f := fun f => rfl
  have hsh : ∀ x y, shares (σ.tie b cs len es fam) x y ↔ shares σ x y := fun x y => Iff.rfl
  obtain ⟨hes, hfam, hrow⟩ := h.row _ _ _ _ _ _ _ _ hb hg
  -- who lies there too is dead, or of the same family
  have hp : ∀ b' L', b' ≠ b → ρ b' = some L' → L'.blk = L.blk → ∃ cs' len' es' top' rw' fam', σ.t.get b' = some (.row cs' len' es' top' rw' fam') ∧ (σ.alive fam' = false ∨ fam' = some (tieP σ b fam)) := by
    intro b' L' hne he hB
    have := h.sep b b' L L' (Ne.symm hne) hb he hB.symm
    rw [hg] at this
    unfold shares at this
    split at this
    · next e1 e2 =>
      cases e1
      refine ⟨_, _, _, _, _, _, e2, ?_⟩
      rcases this with ⟨h, _⟩ | hd | hd | ⟨hd, hn⟩
      · cases h
      · rw [ha] at hd; cases hd
      · exact .inl hd
      · subst hd
        cases fam with
        | none => exact absurd rfl hn
        | some p => exact .inr rfl
    · exact this.elim
  refine ⟨⟨h.dom, h.lt, ?_, ?_, ?_, ?_, ?_⟩, Ren.le_refl _, fun _ _ h => .inl h, Nat.le_refl _, fun _ _ _ => rfl, rfl, rfl⟩
  · intro b' L' he
    simp only [AHeap.tie, Tr.get_ins]
    split
    · simp
    · exact h.some' b' L' he
  · intro b' L' cs' len' es' top' rw' fam' he hg'
    simp only [AHeap.tie, Tr.get_ins] at hg'
    by_cases hbb : b = b'
    · subst hbb
      rw [if_pos rfl] at hg'; cases hg'
      rw [hb] at he; cases he
      refine ⟨hes, ?_, fun _ => hrow ha⟩
      rintro p ⟨⟩
      cases fam with
      | some p => exact hfam p rfl
      | none => exact Nat.le_refl _
    · rw [if_neg hbb] at hg'
      obtain ⟨q1, q2, q3⟩ := h.row _ _ _ _ _ _ _ _ he hg'
      exact ⟨q1, q2, q3⟩
  · intro b' L' x he hg'
    simp only [AHeap.tie, Tr.get_ins] at hg'
    by_cases hbb : b = b'
    · subst hbb; rw [if_pos rfl] at hg'; cases hg'
    · rw [if_neg hbb] at hg'
      exact h.obj b' L' x he hg'
  · intro b1 b2 L1 L2 hne he1 he2 hB
    rw [hsh]
    have hold := h.sep b1 b2 L1 L2 hne he1 he2 hB
    simp only [AHeap.tie, Tr.get_ins]
    by_cases hb1 : b = b1
    · subst hb1
      rw [hb] at he1; cases he1
      rw [if_pos rfl, if_neg hne]
      obtain ⟨_, _, _, _, _, _, e, hd⟩ := hp b2 L2 (Ne.symm hne) he2 hB.symm
      rw [e]
      rcases hd with hd | hd
      · exact .inr (.inr (.inl hd))
      · exact .inr (.inr (.inr ⟨hd.symm, by simp⟩))
    · rw [if_neg hb1]
      by_cases hb2 : b = b2
      · subst hb2
        rw [hb] at he2; cases he2
        rw [if_pos rfl]
        obtain ⟨_, _, _, _, _, _, e, hd⟩ := hp b1 L1 (Ne.symm hb1) he1 hB
        rw [e]
        rcases hd with hd | hd
        · exact .inr (.inl hd)
        · exact .inr (.inr (.inr ⟨hd, by rw [hd]; simp⟩))
      · rw [if_neg hb2]; exact hold
  · intro b1 b2 L1 L2 cs1 len1 es1 fam1 cs2 len2 es2 top2 rw2 fam2 hne he1 he2 hB hg1 hg2 ha1 ha2
    simp only [AHeap.tie, Tr.get_ins] at hg1 hg2
    by_cases hb1 : b = b1
    · subst hb1; rw [if_pos rfl] at hg1; cases hg1
    · rw [if_neg hb1] at hg1
      by_cases hb2 : b = b2
      · subst hb2; rw [if_pos rfl] at hg2; cases hg2
        exact ⟨(h.top b1 b L1 L2 _ _ _ _ _ _ _ _ _ _ hne he1 he2 hB hg1 hg ha1 ha).1, rfl⟩
      · rw [if_neg hb2] at hg2
        exact h.top b1 b2 L1 L2 _ _ _ _ _ _ _ _ _ _ hne he1 he2 hB hg1 hg2 ha1 ha2

/- an append within the room that the machine's row has: the new block lies where the old one does -/
theorem sim_inplace [Rho] {ρ : Ren} {σ : AHeap} {w : World} {b : Nat} {L : Loc} {cs : Tr Value} {len es : Nat} {fam : Option (Nat × Nat)} {xs us : List Value} (h : Sim ρ σ w) (hb : ρ b = some L)
    (hg : σ.t.get b = some (.row cs len es true true fam)) (ha : σ.alive fam = true) (hv : VRs ρ xs us) (hxc : xs.all isCell = true) (hz : len + us.length ≤ L.z) :
    ∃ C T, w.heap[L.blk]? = some (.cells C T (0, 0)) ∧ L.base + len + us.length ≤ C.size ∧ us.all isCell = true ∧
    ∀ w' C', w'.heap.size = w.heap.size → w'.heap[L.blk]? = some (.cells C' T (0, 0)) → C'.size = C.size →
      (∀ j, C'[j]? = if L.base + len ≤ j ∧ j < L.base + len + us.length then us[j - (L.base + len)]? else C[j]?) → (∀ B', B' ≠ L.blk → w'.heap[B']? = w.heap[B']?) → SameIO w w' →
      Post ρ σ w (upd ρ σ.n L) ((σ.tie b cs len es fam).push (.row (cs.put len xs) (len + xs.length) es true true (some (tieP σ b fam)))) w' := by
  obtain ⟨hes, hfam, hrow⟩ := h.row _ _ _ _ _ _ _ _ hb hg
  obtain ⟨C, T, fr, h1, h2, h3, h4, h5⟩ := (hrow ha).ex
  have hfr := h4 rfl
  subst hfr
  have hlen := hv.length
  refine ⟨C, T, h1, by omega, ?_, ?_⟩
  · rw [List.all_eq_true] at *
    intro u hu
    obtain ⟨i, hi, rfl⟩ := List.mem_iff_getElem.1 hu
    exact isCell_of (hv.get i xs[i] _ (List.getElem?_eq_getElem (by omega)) (List.getElem?_eq_getElem hi)) (hxc _ (by simp))
  intro w' C' e1 e2 e3 e4 e5 hio
  have ht := sim_tie h hb hg ha
  have hs1 := ht.sim
  have hle : ρ.le (upd ρ σ.n L) := upd_le h L
  have hbn : b < σ.n := h.dom b L hb
  -- what else lies there ends where the old block ends
  have hend : ∀ b' L' cs' len' es' top' rw' fam', b' ≠ b → ρ b' = some L' → L'.blk = L.blk → σ.t.get b' = some (.row cs' len' es' top' rw' fam') → σ.alive fam' = true →
      L'.base + len' ≤ L.base + len ∧ top' = false := fun b' L' cs' len' es' top' rw' fam' hne he hB hg' ha' => h.top b b' L L' _ _ _ _ _ _ _ _ _ _ (Ne.symm hne) hb he hB.symm hg hg' ha ha'
  have hg1 : ∀ b', b' ≠ b → (σ.tie b cs len es fam).t.get b' = σ.t.get b' := fun b' hne => by simp only [AHeap.tie, Tr.get_ins]; rw [if_neg (Ne.symm hne)]
  have hgb : (σ.tie b cs len es fam).t.get b = some (.row cs len es false true (some (tieP σ b fam))) := by simp only [AHeap.tie, Tr.get_ins, if_true]
  have hn : (σ.tie b cs len es fam).n = σ.n := rfl
  have hrowOld : ∀ b' L' cs' len' rw', ρ b' = some L' → RowAt ρ w cs' len' rw' L' → (L'.blk = L.blk → L'.base + len' ≤ L.base + len ∧ (rw' = true → True)) → RowAt (upd ρ σ.n L) w' cs' len' rw' L' := by
    intro b' L' cs' len' rw' he hr hB
    by_cases hBB : L'.blk = L.blk
    · obtain ⟨D, T', fr, d1, d2, d3, d4, d5⟩ := hr.ex
      rw [hBB, h1] at d1
      cases d1
      refine ⟨C', T, (0, 0), by rw [hBB, e2], by omega, d3, fun _ => rfl, fun i v hi hv' => ?_⟩
      obtain ⟨hc', u, hu, hvr⟩ := d5 i v hi hv'
      refine ⟨hc', u, ?_, hvr.mono hle⟩
      rw [e4, if_neg (by have := (hB hBB).1; omega), hu]
    · exact hr.mono hle (e5 _ hBB)
  refine ⟨⟨?_, ?_, ?_, ?_, ?_, ?_, ?_⟩, hle, ?_, by omega, ?_, hio⟩
  · intro b' L' he
    show b' < σ.n + 1
    by_cases hbb : b' = σ.n
    · omega
    · rw [upd_other hbb] at he; have := h.dom b' L' he; omega
  · intro b' L' he
    rw [e1]
    by_cases hbb : b' = σ.n
    · subst hbb; rw [upd_same] at he; cases he; exact h.lt b _ hb
    · rw [upd_other hbb] at he; exact h.lt b' L' he
  · intro b' L' he
    rw [get_push, hn]
    split
    · simp
    · next hbb => rw [upd_other (Ne.symm hbb)] at he; exact hs1.some' b' L' he
  · intro b' L' cs' len' es' top' rw' fam' he hg'
    rw [get_push] at hg'
    by_cases hbb : σ.n = b'
    · subst hbb
      rw [upd_same] at he; cases he
      rw [hn, if_pos rfl] at hg'; cases hg'
      refine ⟨hes, ?_, fun _ => ⟨C', T, (0, 0), e2, by omega, by omega, fun _ => rfl, fun i v hi hv' => ?_⟩⟩
      · rintro p ⟨⟩
        obtain ⟨_, q2, _⟩ := hs1.row _ _ _ _ _ _ _ _ hb hgb
        exact Nat.le_trans (q2 _ rfl) (Nat.le_of_lt hbn)
      · rw [Tr.get_put] at hv'
        by_cases hr : len ≤ i ∧ i < len + xs.length
        · rw [if_pos hr] at hv'
          obtain ⟨u, hu, hvr⟩ := hv.get1 hv'
          refine ⟨List.all_eq_true.1 hxc _ (List.mem_of_getElem? hv'), u, ?_, hvr.mono hle⟩
          rw [e4, if_pos (by omega), ← hu]; congr 1; omega
        · rw [if_neg hr] at hv'
          obtain ⟨hc', u, hu, hvr⟩ := h5 i v (by omega) hv'
          exact ⟨hc', u, by rw [e4, if_neg (by omega), hu], hvr.mono hle⟩
    · rw [hn, if_neg hbb] at hg'
      rw [upd_other (Ne.symm hbb)] at he
      obtain ⟨q1, q2, q3⟩ := hs1.row _ _ _ _ _ _ _ _ he hg'
      refine ⟨q1, q2, fun ha' => hrowOld b' L' _ _ _ he (q3 ha') fun hB => ⟨?_, fun _ => trivial⟩⟩
      by_cases hb2 : b' = b
      · subst hb2
        rw [hb] at he; cases he
        rw [hgb] at hg'; cases hg'
        exact Nat.le_refl _
      · rw [hg1 b' hb2] at hg'
        exact (hend b' L' _ _ _ _ _ _ hb2 he hB hg' ha').1
  · intro b' L' x he hg'
    rw [get_push] at hg'
    by_cases hbb : σ.n = b'
    · subst hbb; rw [hn, if_pos rfl] at hg'; cases hg'
    · rw [hn, if_neg hbb] at hg'
      rw [upd_other (Ne.symm hbb)] at he
      obtain ⟨q1, q2⟩ := hs1.obj b' L' x he hg'
      refine ⟨?_, q2⟩
      rw [e5 _ ?_, q1]
      intro hB
      have hbb' : b' ≠ b := by rintro rfl; rw [hgb] at hg'; cases hg'
      have := hs1.sep b b' L L' (Ne.symm hbb') hb he hB.symm
      rw [hgb, hg'] at this
      exact this
  · intro b1 b2 L1 L2 hne he1 he2 hB
    rw [shares_push, get_push, get_push, hn]
    -- a block beside the new one, in the same block of the machine
    have hside : ∀ b' L', b' ≠ σ.n → ρ b' = some L' → L'.blk = L.blk → shares (σ.tie b cs len es fam) (some (.row (cs.put len xs) (len + xs.length) es true true (some (tieP σ b fam)))) ((σ.tie b cs len es fam).t.get b') := by
      intro b' L' _ he hB
      by_cases hbb : b' = b
      · subst hbb
        rw [hgb]
        exact .inr (.inr (.inr ⟨rfl, by simp⟩))
      · have := hs1.sep b b' L L' (Ne.symm hbb) hb he hB.symm
        rw [hgb] at this
        cases hgx : (σ.tie b cs len es fam).t.get b' with
        | none => rw [hgx] at this; exact this.elim
        | some x => cases x with
          | obj _ => rw [hgx] at this; exact this.elim
          | row => rw [hgx] at this; exact this
    by_cases hb1 : b1 = σ.n
    · subst hb1
      rw [upd_same] at he1; cases he1
      rw [upd_other (Ne.symm hne)] at he2
      rw [if_pos rfl, if_neg hne]
      exact hside b2 L2 (Ne.symm hne) he2 hB.symm
    · rw [upd_other hb1] at he1
      by_cases hb2 : b2 = σ.n
      · subst hb2
        rw [upd_same] at he2; cases he2
        rw [if_pos rfl, if_neg (Ne.symm hb1)]
        exact shares_symm (hside b1 L1 hb1 he1 hB)
      · rw [upd_other hb2] at he2
        rw [if_neg (Ne.symm hb1), if_neg (Ne.symm hb2)]
        exact hs1.sep b1 b2 L1 L2 hne he1 he2 hB
  · intro b1 b2 L1 L2 cs1 len1 es1 fam1 cs2 len2 es2 top2 rw2 fam2 hne he1 he2 hB hg1' hg2' ha1 ha2
    rw [get_push, hn] at hg1' hg2'
    by_cases hb1 : b1 = σ.n
    · subst hb1
      rw [upd_same] at he1; cases he1
      rw [if_pos rfl] at hg1'; cases hg1'
      rw [upd_other (Ne.symm hne)] at he2
      rw [if_neg hne] at hg2'
      by_cases hbb : b2 = b
      · subst hbb
        rw [hb] at he2; cases he2
        rw [hgb] at hg2'; cases hg2'
        exact ⟨by omega, rfl⟩
      · rw [hg1 b2 hbb] at hg2'
        have := hend b2 L2 _ _ _ _ _ _ hbb he2 hB.symm hg2' ha2
        exact ⟨by omega, this.2⟩
    · rw [upd_other hb1] at he1
      rw [if_neg (Ne.symm hb1)] at hg1'
      by_cases hb2 : b2 = σ.n
      · subst hb2
        rw [upd_same] at he2; cases he2
        by_cases hbb : b1 = b
        · subst hbb; rw [hgb] at hg1'; cases hg1'
        · rw [hg1 b1 hbb] at hg1'
          have := hend b1 L1 _ _ _ _ _ _ hbb he1 hB hg1' ha1
          cases this.2
      · rw [upd_other hb2] at he2
        rw [if_neg (Ne.symm hb2)] at hg2'
        exact hs1.top b1 b2 L1 L2 _ _ _ _ _ _ _ _ _ _ hne he1 he2 hB hg1' hg2' ha1 ha2
  · intro b' L' he
    by_cases hbb : b' = σ.n
    · subst hbb; rw [upd_same] at he; cases he
      refine .inr ⟨Nat.le_refl _, .inr ⟨b, L, hb, rfl, minN_le_right _ _, by rw [hg]; rfl⟩⟩
    · rw [upd_other hbb] at he; exact .inl he
  · intro B hB ht'
    exact e5 B fun hBL => ht' ⟨b, L, hb, hBL.symm, minN_le_right _ _, by rw [hg]; rfl⟩
end Go.Hai
