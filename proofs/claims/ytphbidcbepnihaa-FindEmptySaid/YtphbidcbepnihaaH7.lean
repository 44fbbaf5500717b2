/-
  The abstract interpreter: each operation of its form does what the machine's does (1). No proof of the program stands here.
-/
import Derived.Test.YtphbidcbepnihaaH6
namespace Go.Hai
open Go

def OpOk [Rho] (P : Program) (op : Op) (a : AOp) : Prop :=
  ∀ (o : Oper) (σ : AHeap) (t : Tmps) (η : Operand → Value) (ρ : Ren) (w : World) (v : Value) (σ' : AHeap), o.op = op → Sim ρ σ w →
    (∀ x, okX x = true → VR ρ (ev t x) (η x)) → aop σ t a = some (v, σ') → ∃ u w' ρ', Runs P o η w u w' ∧ VR ρ' v u ∧ Post ρ σ w ρ' σ' w'

theorem done_pure [Rho] {P : Program} {o : Oper} {σ : AHeap} {η : Operand → Value} {ρ : Ren} {w : World} {v u : Value} (hs : Sim ρ σ w) (hr : (execOp η o).run P w = .ok (.value u) w) (hv : VR ρ v u) :
    ∃ u w' ρ', Runs P o η w u w' ∧ VR ρ' v u ∧ Post ρ σ w ρ' σ w' := ⟨u, w, ρ, .val hr, hv, .refl hs⟩

theorem bool_eq [Rho] {ρ : Ren} {r : Bool} {u : Value} (h : VR ρ (.bool r) u) : u = .bool r := flat_eq rfl h
theorem int_eq [Rho] {ρ : Ren} {k : IntKind} {n : Int} {u : Value} (h : VR ρ (.int k n) u) : u = .int k n := flat_eq rfl h
theorem str_eq [Rho] {ρ : Ren} {s : ByteArray} {u : Value} (h : VR ρ (.string s) u) : u = .string s := flat_eq rfl h

section
variable {P : Program}

theorem ok_move [Rho] {x : Operand} {a : AOp} (hc : compOp P (.move x) = some a) : OpOk P (.move x) a := by
  obtain ⟨h1, h2⟩ := chk_some hc; cases h2
  intro o σ t η ρ w v σ' ho hs hx ha
  simp only [aop] at ha; cases ha
  exact done_pure hs (by simp [execOp, ho]) (hx x h1)
theorem ok_assign [Rho] {x : Operand} {a : AOp} (hc : compOp P (.assign x) = some a) : OpOk P (.assign x) a := by
  obtain ⟨h1, h2⟩ := chk_some hc; cases h2
  intro o σ t η ρ w v σ' ho hs hx ha
  simp only [aop] at ha; cases ha
  exact done_pure hs (by simp [execOp, ho]) (hx x h1)
theorem ok_pick [Rho] {c x y : Operand} {a : AOp} (hc : compOp P (.pick c x y) = some a) : OpOk P (.pick c x y) a := by
  obtain ⟨h1, h2⟩ := chk_some hc; cases h2
  simp only [Bool.and_eq_true] at h1
  intro o σ t η ρ w v σ' ho hs hx ha
  simp only [aop] at ha
  split at ha
  · next r hr =>
    cases ha
    have hcv := hx c h1.1.1
    rw [hr] at hcv
    have := bool_eq hcv
    refine done_pure hs (u := if r then η x else η y) (by simp [execOp, ho, this, asBool]) ?_
    cases r
    · exact hx y h1.2
    · exact hx x h1.1.2
  · cases ha

theorem ok_alloc [Rho] {e : TypeId} {a : AOp} (hc : compOp P (.alloc e) = some a) : OpOk P (.alloc e) a := by
  replace hc : compAlloc P e = some a := hc
  unfold compAlloc at hc
  split at hc
  · next z n hz hn =>
    cases hc
    obtain ⟨zv, h1, h2, h3, h4⟩ := tZeroL_some hz
    intro o σ t η ρ w v σ' ho hs hx ha
    simp only [aop] at ha; cases ha
    refine ⟨.pointer (some ⟨w.heap.size, 0, none⟩), _, _, .val ?_, ?_, sim_newRow (C := zv.cells) (T := e) (ds := z) hs (.scal h4) (cells_of_scal h4) ?_ ?_⟩
    · simp [execOp, ho, Instr.alloc, run_zero' h1, newVar, newRow]
    · simpa [here] using VR.ptr (o := 0) (upd_same ρ σ.n _)
    · intro i _; rw [← h3]; simp
    · rw [← h3]; simp
  · cases hc

theorem ok_box [Rho] {e : TypeId} {x : Operand} {a : AOp} (hc : compOp P (.box e x) = some a) : OpOk P (.box e x) a := by
  obtain ⟨h1, h2⟩ := chk_some hc
  split at h2
  · cases h2
    intro o σ t η ρ w v σ' ho hs hx ha
    simp only [aop] at ha
    split at ha
    · next hcell =>
      cases ha
      refine ⟨.pointer (some ⟨w.heap.size, 0, none⟩), _, _, .val ?_, ?_, sim_newRow (C := (η x).cells) (T := e) hs (hx x h1).cells hcell ?_ ?_⟩
      · simp [execOp, ho, Instr.box, newVar, newRow]
      · simpa [here] using VR.ptr (o := 0) (upd_same ρ σ.n _)
      · intro i _; simp
      · simp
    · cases ha
  · cases h2

/- ---- parts put together ---- -/
theorem foldl_set (off : Nat) : ∀ (vs : List Value) (k : Nat) (A : Array Value) (i : Nat),
    ((vs.zipIdx k).foldl (fun cs (p : Value × Nat) => cs.setIfInBounds (off + p.2) p.1) A)[i]? = if off + k ≤ i ∧ i < off + k + vs.length ∧ i < A.size then vs[i - (off + k)]? else A[i]? := by
  intro vs
  induction vs with
  | nil => intro k A i; simp only [List.zipIdx_nil, List.foldl_nil, List.length_nil]; rw [if_neg (by omega)]
  | cons v vs ih =>
    intro k A i
    simp only [List.zipIdx_cons, List.foldl_cons, ih, List.length_cons, Array.size_setIfInBounds]
    by_cases h1 : off + (k + 1) ≤ i ∧ i < off + (k + 1) + vs.length ∧ i < A.size
    · rw [if_pos h1, if_pos (by omega)]
      obtain ⟨d, hd⟩ : ∃ d, i - (off + k) = d + 1 := ⟨i - (off + k) - 1, by omega⟩
      rw [hd, List.getElem?_cons_succ]; congr 1; omega
    · rw [if_neg h1, Array.getElem?_setIfInBounds]
      by_cases h2 : off + k = i
      · subst h2
        by_cases h3 : off + k < A.size
        · rw [if_pos rfl, if_pos h3, if_pos (by omega)]; simp
        · rw [if_pos rfl, if_neg h3, if_neg (by omega), Array.getElem?_eq_none (by omega)]
      · rw [if_neg h2, if_neg (by omega)]
theorem putAt_get {l vs : List Value} {o : Nat} (h : o + vs.length ≤ l.length) (i : Nat) : (putAt l o vs)[i]? = if o ≤ i ∧ i < o + vs.length then vs[i - o]? else l[i]? := by
  unfold putAt
  by_cases h1 : i < o
  · rw [List.getElem?_append_left (by simp; omega), List.getElem?_take_of_lt h1, if_neg (by omega)]
  · rw [List.getElem?_append_right (by simp; omega)]
    have : (l.take o).length = o := by simp; omega
    rw [this]
    by_cases h2 : i < o + vs.length
    · rw [List.getElem?_append_left (by omega), if_pos (by omega)]
    · rw [List.getElem?_append_right (by omega), if_neg (by omega), List.getElem?_drop]
      congr 1; omega
theorem putAt_length {l vs : List Value} {o : Nat} (h : o + vs.length ≤ l.length) : (putAt l o vs).length = l.length := by
  unfold putAt; simp; omega

theorem fill_ok [Rho] {ρ : Ren} {t : Tmps} {η : Operand → Value} (place : Nat → Option (Nat × Nat)) : ∀ (ps : List (Nat × Operand)) (l : List (Nat × Nat × Operand)) (z cs : List Value) (Z : Array Value),
    l.length = ps.length → (∀ (j i : Nat) (x : Operand) (off n : Nat) (y : Operand), ps[j]? = some (i, x) → l[j]? = some (off, n, y) → place i = some (off, n) ∧ y = x ∧ VR ρ (ev t x) (η x)) → VRs ρ z Z.toList → fillL t z l = some cs →
    ∃ C, Instr.fill place Z (ps.map fun p => (p.1, η p.2)) = some C ∧ VRs ρ cs C.toList := by
  intro ps
  induction ps with
  | nil =>
    intro l z cs Z hl _ hz hf
    obtain rfl : l = [] := List.eq_nil_of_length_eq_zero (by simpa using hl)
    simp only [fillL] at hf; cases hf
    exact ⟨Z, rfl, hz⟩
  | cons p ps ih =>
    intro l z cs Z hl hp hz hf
    obtain ⟨i, x⟩ := p
    cases l with
    | nil => simp at hl
    | cons q l =>
      obtain ⟨off, n, y⟩ := q
      obtain ⟨h1, rfl, h2⟩ := hp 0 i x off n y rfl rfl
      simp only [fillL] at hf
      split at hf
      · next hg =>
        simp only [Bool.and_eq_true] at hg
        have hn := Nat.eq_of_beq_eq_true hg.1
        have hle := Nat.le_of_ble_eq_true hg.2
        have hv := h2.cells
        have hlen := hv.length
        have hzl := hz.length
        have hsz : (η y).cells.size = n := by rw [← hn, hlen]; simp
        have hlen' : (η y).cells.toList.length = n := by simpa using hsz
        simp only [List.map_cons, Instr.fill, h1]
        rw [if_neg (by simp only [Bool.or_eq_true, decide_eq_true_eq, not_or]; simp at hzl; omega)]
        refine ih l _ cs _ (by simpa using hl) (fun j i x off n y hj hj' => hp (j + 1) i x off n y (by simpa using hj) (by simpa using hj')) ?_ hf
        refine .of_get ?_ ?_
        · rw [putAt_length (by omega), hzl]
          rw [← Array.foldl_toList]
          have : ∀ (l : List (Value × Nat)) (A : Array Value), (l.foldl (fun cs p => cs.setIfInBounds (off + p.2) p.1) A).size = A.size := by
            intro l; induction l with
            | nil => intro A; rfl
            | cons a l ih => intro A; rw [List.foldl_cons, ih]; simp
          simpa using (this _ Z).symm
        · intro j v u hj hj'
          rw [putAt_get (by omega)] at hj
          rw [← Array.foldl_toList, Array.getElem?_toList, Array.toList_zipIdx, foldl_set] at hj'
          have hjz : Z.size = z.length := by rw [hzl]; simp
          by_cases hr : off ≤ j ∧ j < off + (ev t y).cells.toList.length
          · rw [if_pos hr] at hj
            rw [if_pos (by omega)] at hj'
            exact hv.get (j - off) v u hj (by simpa using hj')
          · rw [if_neg hr] at hj
            rw [if_neg (by omega)] at hj'
            exact hz.get j v u hj (by simpa using hj')
      · cases hf

theorem partsS_ok [Rho] {fs : List Field} : ∀ {ps : List (Nat × Operand)} {l : List (Nat × Nat × Operand)}, partsS P fs ps = some l → l.length = ps.length ∧
    ∀ (j i : Nat) (x : Operand) (off n : Nat) (y : Operand), ps[j]? = some (i, x) → l[j]? = some (off, n, y) → (∃ f, fs[i]? = some f ∧ f.offset = off ∧ tSize P f.type = some n) ∧ y = x ∧ okX x = true := by
  intro ps
  induction ps with
  | nil => intro l h; simp only [partsS] at h; cases h; exact ⟨rfl, by intro j; simp⟩
  | cons p ps ih =>
    intro l h
    obtain ⟨i, x⟩ := p
    simp only [partsS] at h
    split at h
    · next f l' hf hl =>
      split at h
      · next n hn =>
        obtain ⟨h1, h2⟩ := chk_some h; cases h2
        obtain ⟨e1, e2⟩ := ih hl
        refine ⟨by simp [e1], fun j i' x' off n' y hj hj' => ?_⟩
        cases j with
        | zero => simp at hj hj'; obtain ⟨rfl, rfl⟩ := hj; obtain ⟨rfl, rfl, rfl⟩ := hj'; exact ⟨⟨f, hf, rfl, hn⟩, rfl, h1⟩
        | succ j => exact e2 j i' x' off n' y (by simpa using hj) (by simpa using hj')
      · cases h
    · cases h
theorem partsA_ok [Rho] {sz : Nat} : ∀ {ps : List (Nat × Operand)} {l : List (Nat × Nat × Operand)}, partsA sz ps = some l → l.length = ps.length ∧
    ∀ (j i : Nat) (x : Operand) (off n : Nat) (y : Operand), ps[j]? = some (i, x) → l[j]? = some (off, n, y) → (off = i * sz ∧ n = sz) ∧ y = x ∧ okX x = true := by
  intro ps
  induction ps with
  | nil => intro l h; simp only [partsA] at h; cases h; exact ⟨rfl, by intro j; simp⟩
  | cons p ps ih =>
    intro l h
    obtain ⟨i, x⟩ := p
    simp only [partsA] at h
    split at h
    · next l' hl =>
      obtain ⟨h1, h2⟩ := chk_some h; cases h2
      obtain ⟨e1, e2⟩ := ih hl
      refine ⟨by simp [e1], fun j i' x' off n' y hj hj' => ?_⟩
      cases j with
      | zero => simp at hj hj'; obtain ⟨rfl, rfl⟩ := hj; obtain ⟨rfl, rfl, rfl⟩ := hj'; exact ⟨⟨rfl, rfl⟩, rfl, h1⟩
      | succ j => exact e2 j i' x' off n' y (by simpa using hj) (by simpa using hj')
    · cases h

theorem run_places [Rho] {w : World} : ∀ {fs : List Field}, (fs.all fun f => (tSize P f.type).isSome) = true → ∃ ls : List (Nat × Nat), (fs.mapM (fun (f : Field) => (do pure (f.offset, ← sizeOf f.type) : Sem (Nat × Nat)))).run P w = .ok ls w ∧
    ∀ (i : Nat) (f : Field) (n : Nat), fs[i]? = some f → tSize P f.type = some n → ls[i]? = some (f.offset, n) := by
  intro fs
  induction fs with
  | nil => intro _; exact ⟨[], by simp, by intro i; simp⟩
  | cons f fs ih =>
    intro h
    simp only [List.all_cons, Bool.and_eq_true] at h
    obtain ⟨ls, h1, h2⟩ := ih h.2
    obtain ⟨n, hn⟩ := Option.isSome_iff_exists.1 h.1
    refine ⟨(f.offset, n) :: ls, ?_, ?_⟩
    · simp only [List.mapM_cons, Sem.run_bind, run_sizeOf' hn, Result.andThen_ok, Sem.run_pure, h1]
    · intro i g m hg hm
      cases i with
      | zero => simp at hg; subst hg; rw [hn] at hm; cases hm; rfl
      | succ i => exact h2 i g m (by simpa using hg) hm

theorem ok_build [Rho] {ty : TypeId} {ps : Array (Nat × Operand)} {a : AOp} (hc : compOp P (.build ty ps) = some a) : OpOk P (.build ty ps) a := by
  replace hc : compBuild P ty ps.toList = some a := hc
  unfold compBuild at hc
  split at hc
  · next z fs hz hu =>
    split at hc
    · next l hl =>
      obtain ⟨hf, h2⟩ := chk_some hc; cases h2
      obtain ⟨zv, h1, h2, h3, h4⟩ := tZeroL_some hz
      obtain ⟨e1, e2⟩ := partsS_ok hl
      intro o σ t η ρ w v σ' ho hs hx ha
      simp only [aop] at ha
      split at ha
      · next cs hcs =>
        cases ha
        obtain ⟨ls, q1, q2⟩ := run_places (w := w) hf
        obtain ⟨C, c1, c2⟩ := fill_ok (ρ := ρ) (η := η) (ls[·]?) ps.toList l z cs zv.cells e1 (fun j i x off n y hj hj' => by
          obtain ⟨⟨f, g1, g2, g3⟩, g4, g5⟩ := e2 j i x off n y hj hj'
          exact ⟨by rw [q2 i f n g1 g3, g2], g4, hx x g5⟩) (by rw [h3]; exact .scal h4) hcs
        refine done_pure hs (u := .agg C) ?_ ?_
        · have q3 : (fs.mapM (fun (f : Field) => (do pure (f.offset, ← sizeOf f.type) : Sem (Nat × Nat)))).run P w = .ok ls.toArray w := by
            rw [Array.mapM_eq_mapM_toList]; simp only [Sem.run_map, q1, Result.andThen_ok]
          have c1' : Instr.fill (fun x => ls.toArray[x]?) zv.cells (ps.map fun x => (x.1, η x.2)).toList = some C := by
            rw [Array.toList_map]; simpa using c1
          simp only [execOp, ho, Instr.build, Sem.run_bind, run_zero' h1, Result.andThen_ok, run_und hu, q3, c1']
          simp
        · have := VR.of_agg c2; simpa using this
      · cases ha
    · cases hc
  · next z n e hz hu =>
    split at hc
    · next s hs' =>
      split at hc
      · next l hl =>
        cases hc
        obtain ⟨zv, h1, h2, h3, h4⟩ := tZeroL_some hz
        obtain ⟨e1, e2⟩ := partsA_ok hl
        intro o σ t η ρ w v σ' ho hs hx ha
        simp only [aop] at ha
        split at ha
        · next cs hcs =>
          cases ha
          obtain ⟨C, c1, c2⟩ := fill_ok (ρ := ρ) (η := η) (fun i => some (i * s, s)) ps.toList l z cs zv.cells e1 (fun j i x off n y hj hj' => by
            obtain ⟨⟨g1, g2⟩, g4, g5⟩ := e2 j i x off n y hj hj'
            exact ⟨by rw [g1, g2], g4, hx x g5⟩) (by rw [h3]; exact .scal h4) hcs
          refine done_pure hs (u := .agg C) ?_ ?_
          · have c1' : Instr.fill (fun i => some (i * s, s)) zv.cells (ps.map fun x => (x.1, η x.2)).toList = some C := by
              rw [Array.toList_map]; exact c1
            simp only [execOp, ho, Instr.build, Sem.run_bind, run_zero' h1, Result.andThen_ok, run_und hu, run_sizeOf' hs', c1']
            simp
          · have := VR.of_agg c2; simpa using this
        · cases ha
      · cases hc
    · cases hc
  · cases hc
end
end Go.Hai
