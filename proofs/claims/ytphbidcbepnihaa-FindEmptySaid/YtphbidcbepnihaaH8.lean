/-
  The abstract interpreter: each operation of its form does what the machine's does (2). No proof of the program stands here.
-/
import Derived.Test.YtphbidcbepnihaaH7
namespace Go.Hai
open Go

theorem range_rep (zero : Array Value) (n k : Nat) (hk : zero.size = k) : ((Array.range (n * k)).map (zero[· % zero.size]!)).toList = (List.replicate n zero.toList).flatten := by
  rw [Array.toList_map, Array.toList_range, hk]
  induction n with
  | zero => simp
  | succ n ih =>
    rw [Nat.succ_mul, Nat.add_comm, List.range_add, List.map_append, List.replicate_succ, List.flatten_cons]
    congr 1
    · apply List.ext_getElem?
      intro i
      by_cases hi : i < k
      · rw [List.getElem?_map, List.getElem?_range hi]
        simp [Nat.mod_eq_of_lt hi, hk, hi]
      · rw [List.getElem?_eq_none (by simp; omega), List.getElem?_eq_none (by simp; omega)]
    · rw [← ih, List.map_map]
      apply List.map_congr_left
      intro i _
      simp

section
variable {P : Program}

theorem ok_buildSl [Rho] {ty : TypeId} {len : Nat} {ps : Array (Nat × Operand)} {a : AOp} (hc : compOp P (.buildSlice ty len ps) = some a) : OpOk P (.buildSlice ty len ps) a := by
  replace hc : compBuildSl P ty len ps.toList = some a := hc
  unfold compBuildSl at hc
  split at hc
  · next e hu =>
    split at hc
    · next z s hz hs' =>
      split at hc
      · next l hl =>
        obtain ⟨hle, h2⟩ := chk_some hc; cases h2
        obtain ⟨zv, h1, h2, h3, h4⟩ := tZeroL_some hz
        rw [hs'] at h2; cases h2
        obtain ⟨e1, e2⟩ := partsA_ok hl
        intro o σ t η ρ w v σ' ho hs hx ha
        simp only [aop] at ha
        split at ha
        · next cs hcs =>
          split at ha
          · next hcell =>
            cases ha
            let Z : Array Value := (Array.range (len * z.length)).map ((if len * z.length = 0 then #[] else zv.cells)[· % (if len * z.length = 0 then #[] else zv.cells).size]!)
            have hzs : zv.cells.size = z.length := by rw [← h3]; simp
            have hZ : Z.toList = (List.replicate len z).flatten := by
              by_cases h0 : len * z.length = 0
              · have : Z = #[] := by apply Array.eq_empty_of_size_eq_zero; simp [Z, h0]
                rw [this]
                rcases Nat.mul_eq_zero.1 h0 with h | h
                · subst h; simp
                · rw [List.length_eq_zero_iff] at h; subst h; simp
              · simp only [Z, h0, if_false]
                rw [range_rep zv.cells len z.length hzs, h3]
            have hsc : ((List.replicate len z).flatten).all Hai.scal = true := by
              rw [List.all_eq_true] at *
              intro v hv
              simp only [List.mem_flatten, List.mem_replicate] at hv
              obtain ⟨l, ⟨_, rfl⟩, hv⟩ := hv
              exact h4 v hv
            obtain ⟨C, c1, c2⟩ := fill_ok (ρ := ρ) (η := η) (fun i => some (i * z.length, z.length)) ps.toList l _ cs Z e1 (fun j i x off n y hj hj' => by
              obtain ⟨⟨g1, g2⟩, g4, g5⟩ := e2 j i x off n y hj hj'
              exact ⟨by rw [g1, g2], g4, hx x g5⟩) (by rw [hZ]; exact .scal hsc) hcs
            have c1' : Instr.fill (fun i => some (i * z.length, z.length)) Z (ps.map fun x => (x.1, η x.2)).toList = some C := by
              rw [Array.toList_map]; exact c1
            have hle := Nat.le_of_ble_eq_true hle
            refine ⟨.slice (some ⟨w.heap.size, 0, none⟩) len len, _, _, .val ?_, ?_, sim_newRow (C := C) (T := e) hs c2 hcell (by simp) (by simp)⟩
            · simp only [execOp, ho, Instr.buildSlice, Sem.run_bind, run_und hu, Result.andThen_ok, run_sizeOf' hs']
              rw [if_neg (by omega)]
              by_cases h0 : len * z.length = 0
              · have c1'' := c1'
                simp only [Z, if_pos h0] at c1''
                simp only [if_pos h0, Sem.run_bind, Sem.run_pure, Result.andThen_ok, c1'']
                simp [newRow]
              · have c1'' := c1'
                simp only [Z, if_neg h0] at c1''
                simp only [if_neg h0, Sem.run_bind, Sem.run_pure, run_zero' h1, Result.andThen_ok, c1'']
                simp [newRow]
            · by_cases hl0 : len = 0
              · subst hl0; exact .sl0
              · have hb : Nat.beq len 0 = false := nbeq hl0
                simp only [hb, Bool.false_eq_true, if_false]
                have hCs : C.size = len * z.length := by
                  have := c2.length
                  have hl : cs.length = (List.replicate len z).flatten.length := by
                    clear c1 c1' c2 this
                    have : ∀ (l : List (Nat × Nat × Operand)) (z cs : List Value), fillL t z l = some cs → cs.length = z.length := by
                      intro l
                      induction l with
                      | nil => intro z cs h; simp only [fillL] at h; cases h; rfl
                      | cons q l ih =>
                        intro z cs h
                        obtain ⟨off, n, y⟩ := q
                        simp only [fillL] at h
                        split at h
                        · next hg =>
                          simp only [Bool.and_eq_true] at hg
                          have := Nat.eq_of_beq_eq_true hg.1
                          have := Nat.le_of_ble_eq_true hg.2
                          rw [ih _ _ h, putAt_length (by omega)]
                        · cases h
                    exact this _ _ _ hcs
                  rw [hl] at this
                  simp [List.length_flatten] at this
                  omega
                refine VR.sl (L := ⟨w.heap.size, 0, C.size, z.length⟩) (o := 0) (upd_same _ _ _) (Nat.le_refl _) (by simp) (fun _ => ?_) (.inl (by simp))
                simp only [Nat.zero_add]; omega
          · cases ha
        · cases ha
      · cases hc
    · cases hc
  · cases hc

theorem run_loadVar [Rho] {w : World} {ρ : Ren} {σ : AHeap} {ty : TypeId} {g : Bool} {n b o : Nat} {vs : List Value} {L : Loc} (hs : Sim ρ σ w) (hg : tAgg P ty = some g) (hn : tSize P ty = some n) (h1 : (g || Nat.beq n 1) = true)
    (hb : ρ b = some L) (hl : σ.loadN b o n = some vs) : ∃ u, (loadVar ty ⟨L.blk, L.base + o, none⟩).run P w = .ok u w ∧ (g = true → VR ρ (.agg vs.toArray) u) ∧ (g = false → ∃ v, vs = [v] ∧ VR ρ v u) := by
  obtain ⟨C, T, fr, us, c1, c2, c3, c4, c5, c6⟩ := hs.cells hb hl
  cases g with
  | true =>
    refine ⟨.agg us.toArray, ?_, fun _ => VR.of_agg c5, by simp⟩
    simp only [loadVar, Sem.run_bind, run_isAgg' hg, Result.andThen_ok, if_true, run_sizeOf' hn, run_loadCells P w c1 c4 c2 c3, Sem.run_pure]
  | false =>
    simp only [Bool.false_or] at h1
    have h1 := Nat.eq_of_beq_eq_true h1
    subst h1
    match us, c2 with
    | [u], _ =>
      cases c5 with
      | cons hv hr =>
        cases hr
        refine ⟨u, ?_, by simp, fun _ => ⟨_, rfl, hv⟩⟩
        have hc := c3 0 (by omega)
        have hcell : w.cell? ⟨L.blk, L.base + o, none⟩ = some u := by simpa [World.cell?, c1] using hc
        simp only [loadVar, Sem.run_bind, run_isAgg' hg, Result.andThen_ok, Bool.false_eq_true, if_false, run_load, hcell]

theorem ok_load [Rho] {ty : TypeId} {x : Operand} {a : AOp} (hc : compOp P (.load ty x) = some a) : OpOk P (.load ty x) a := by
  obtain ⟨hx1, hc⟩ := chk_some hc
  unfold compLoad at hc
  split at hc
  · next g n hg hn =>
    obtain ⟨h1, h2⟩ := chk_some hc; cases h2
    intro o σ t η ρ w v σ' ho hs hx ha
    simp only [aop] at ha
    split at ha
    · next b off sp hp =>
      split at ha
      · next vs hl =>
        have hv := hx x hx1
        rw [hp] at hv
        obtain ⟨L, hL, he⟩ := hv.ptr_inv
        obtain ⟨u, r1, r2, r3⟩ := run_loadVar hs hg hn h1 hL hl
        split at ha
        · next hg' =>
          cases ha
          exact done_pure hs (by simp [execOp, ho, Instr.loadAt, he, Instr.sureAddr, r1]) (r2 hg')
        · next hg' =>
          obtain ⟨v', e1, e2⟩ := r3 (by simpa using hg')
          subst e1
          simp at ha
          obtain ⟨rfl, rfl⟩ := ha
          exact done_pure hs (by simp [execOp, ho, Instr.loadAt, he, Instr.sureAddr, r1]) e2
      · cases ha
    · cases ha
  · cases hc

theorem ok_store [Rho] {ty : TypeId} {p x : Operand} {a : AOp} (hc : compOp P (.store ty p x) = some a) : OpOk P (.store ty p x) a := by
  obtain ⟨hx1, hc⟩ := chk_some hc
  simp only [Bool.and_eq_true] at hx1
  split at hc
  · next n hn =>
    cases hc
    intro o σ t η ρ w v σ' ho hs hx ha
    simp only [aop] at ha
    split at ha
    · next b off sp hp =>
      split at ha
      · next hb =>
        have hb := Nat.eq_of_beq_eq_true hb
        split at ha
        · next τ hst =>
          cases ha
          have hv := hx p hx1.1
          rw [hp] at hv
          obtain ⟨L, hL, he⟩ := hv.ptr_inv
          have hcs := (hx x hx1.2).cells
          obtain ⟨C, T, c1, c2, c3, c4⟩ := sim_store hs hL hst hcs
          obtain ⟨w', C', r1, r2, r3, r4, r5, r6, r7⟩ := run_storeCells P (η x).cells.toList 0 w C (B := L.blk) (off := L.base + off) c1 (by omega) c3
          refine ⟨undef, w', ρ, .skip ?_, .flat rfl, c4 w' C' r2 r3 r4 (by simpa using r5) r6 r7⟩
          have hsz : (η x).cells.size = n := by have := hcs.length; rw [hb] at this; simpa using this.symm
          simp only [execOp, ho, Instr.storeAt, he, Instr.sureAddr, Sem.run_bind, Sem.run_pure, Result.andThen_ok, storeVar, run_sizeOf' hn]
          rw [if_neg (by simp [hsz])]
          simp [r1]
        · cases ha
      · cases ha
    · cases ha
  · cases hc

theorem ok_nilck [Rho] {x : Operand} {a : AOp} (hc : compOp P (.nilCheck x) = some a) : OpOk P (.nilCheck x) a := by
  obtain ⟨hx1, hc⟩ := chk_some hc; cases hc
  intro o σ t η ρ w v σ' ho hs hx ha
  simp only [aop] at ha
  split at ha
  · next p hp =>
    cases ha
    have hv := hx x hx1
    rw [hp] at hv
    obtain ⟨b, off, sp⟩ := p
    obtain ⟨L, hL, he⟩ := hv.ptr_inv
    refine done_pure hs (u := η x) (by simp [execOp, ho, he]) hv
  · cases ha

theorem ok_un [Rho] {op : UnOp} {ty : TypeId} {x : Operand} {a : AOp} (hc : compOp P (.unOp op ty x) = some a) : OpOk P (.unOp op ty x) a := by
  obtain ⟨hx1, hc⟩ := chk_some hc; cases hc
  intro o σ t η ρ w v σ' ho hs hx ha
  simp only [aop] at ha
  split at ha
  · next r hr =>
    cases ha
    have hv := hx x hx1
    unfold aun at hr
    split at hr
    · next hp => cases hr; rw [hp] at hv; exact done_pure hs (by simp [execOp, ho, int_eq hv, Op.unary, Op.intArith]) (.flat rfl)
    · next hp => cases hr; rw [hp] at hv; exact done_pure hs (by simp [execOp, ho, int_eq hv, Op.unary, Op.intBits]) (.flat rfl)
    · next hp => cases hr; rw [hp] at hv; exact done_pure hs (by simp [execOp, ho, bool_eq hv, Op.unary]) (.flat rfl)
    · cases hr
  · cases ha

theorem ok_conv [Rho] {src dst : TypeId} {x : Operand} {a : AOp} (hc : compOp P (.convert src dst x) = some a) : OpOk P (.convert src dst x) a := by
  obtain ⟨hx1, hc⟩ := chk_some hc
  unfold compConv at hc
  split at hc
  · next k' k h1 h2 =>
    cases hc
    intro o σ t η ρ w v σ' ho hs hx ha
    simp only [aop] at ha
    split at ha
    · next hp =>
      cases ha
      have hv := hx x hx1
      rw [hp] at hv
      exact done_pure hs (by simp [execOp, ho, int_eq hv, convert, run_und h1, run_und h2, Conv.intToInt]) (.flat rfl)
    · cases ha
  · cases hc

theorem hx_list [Rho] {t : Tmps} {η : Operand → Value} {ρ : Ren} (hx : ∀ x, okX x = true → VR ρ (ev t x) (η x)) {l : List Operand} (h : okXs l = true) : VRs ρ (l.map (ev t)) (l.map η) :=
  .map fun x hm => hx x (List.all_eq_true.1 h x hm)

theorem ok_mkFn [Rho] {f : FuncId} {first cap : Array Operand} {a : AOp} (hc : compOp P (.makeFunc (.func f) first cap) = some a) : OpOk P (.makeFunc (.func f) first cap) a := by
  obtain ⟨hx1, hc⟩ := chk_some hc; cases hc
  simp only [Bool.and_eq_true] at hx1
  intro o σ t η ρ w v σ' ho hs hx ha
  simp only [aop] at ha; cases ha
  have h1 := hx_list hx hx1.1
  have h2 := hx_list hx hx1.2
  refine done_pure hs (u := .func (.func f) (first.map η) (cap.map η)) (by simp [execOp, ho, Instr.makeFunc]) (.fn (by simp) (by simp) ?_ ?_)
  · intro i v u hv hu; exact h1.get i v u (by simpa using hv) (by simpa using hu)
  · intro i v u hv hu; exact h2.get i v u (by simpa using hv) (by simpa using hu)

theorem ok_mkMap [Rho] {ty : TypeId} {a : AOp} (hc : compOp P (.makeMap ty none) = some a) : OpOk P (.makeMap ty none) a := by
  replace hc : some AOp.mkMap = some a := hc
  cases hc
  intro o σ t η ρ w v σ' ho hs hx ha
  simp only [aop] at ha; cases ha
  refine ⟨.map (some w.heap.size), { w with heap := w.heap.push (.map #[] 0) }, upd ρ σ.n ⟨w.heap.size, 0, 0, 0⟩, .val ?_, ?_, sim_push (obj := .map #[] 0) hs rfl rfl (by rintro _ _ _ _ _ _ ⟨⟩) (by rintro x ⟨⟩; exact ⟨rfl, rfl, rfl⟩) ⟨rfl, rfl⟩⟩
  · simp [execOp, ho, Instr.makeMap]
  · exact .mp (L := ⟨w.heap.size, 0, 0, 0⟩) (upd_same _ _ _)

theorem ok_fldA [Rho] {s : TypeId} {x : Operand} {f : Nat} {a : AOp} (hc : compOp P (.fieldAddr s x f) = some a) : OpOk P (.fieldAddr s x f) a := by
  obtain ⟨hx1, hc⟩ := chk_some hc
  unfold compFldA at hc
  split at hc
  · next fs hu =>
    split at hc
    · next fd hf =>
      split at hc
      · next n hn =>
        obtain ⟨hn0, hc⟩ := chk_some hc; cases hc
        intro o σ t η ρ w v σ' ho hs hx ha
        simp only [aop] at ha
        split at ha
        · next b off sp hp =>
          cases ha
          have hv := hx x hx1
          rw [hp] at hv
          obtain ⟨L, hL, he⟩ := hv.ptr_inv
          have hn0 : n ≠ 0 := by rintro rfl; simp at hn0
          refine done_pure hs (u := .pointer (some ⟨L.blk, L.base + off + fd.offset, none⟩)) ?_ ?_
          · simp only [execOp, ho, Instr.fieldAt, Sem.run_bind, run_und hu, Result.andThen_ok, hf, he, Instr.sureAddr, Sem.run_pure, fieldPlace, run_sizeOf' hn, if_neg hn0, add_none]
          · rw [Nat.add_assoc]; exact .ptr hL
        · cases ha
      · cases hc
    · cases hc
  · cases hc

theorem run_part [Rho] {w : World} {ρ : Ren} {ty : TypeId} {g : Bool} {n off : Nat} {cs ds : Array Value} (hg : tAgg P ty = some g) (hn : tSize P ty = some n) (h : VRs ρ cs.toList ds.toList) {v : Value}
    (hv : (if g = true then some (Value.agg (((cs.toList.drop off).take n).toArray)) else cs.toList[off]?) = some v) : ∃ u, (part ty ds off).run P w = .ok u w ∧ VR ρ v u := by
  cases g with
  | true =>
    simp only [if_true] at hv; cases hv
    refine ⟨.agg (ds.extract off (off + n)), by simp only [part, Sem.run_bind, run_isAgg' hg, Result.andThen_ok, if_true, run_sizeOf' hn, Sem.run_pure], ?_⟩
    have := VR.of_agg ((h.drop off).take n)
    have e : ((ds.toList.drop off).take n).toArray = ds.extract off (off + n) := by
      apply Array.ext'
      simp [Array.toList_extract, List.extract_eq_take_drop]
    rw [e] at this
    exact this
  | false =>
    simp only [Bool.false_eq_true, if_false] at hv
    obtain ⟨u, hu, hr⟩ := h.get1 hv
    have hu' : ds[off]? = some u := by simpa using hu
    exact ⟨u, by simp [part, run_isAgg' hg, hu'], hr⟩

theorem ok_fld [Rho] {s : TypeId} {x : Operand} {f : Nat} {a : AOp} (hc : compOp P (.field s x f) = some a) : OpOk P (.field s x f) a := by
  obtain ⟨hx1, hc⟩ := chk_some hc
  unfold compFld at hc
  split at hc
  · next fs hu =>
    split at hc
    · next fd hf =>
      split at hc
      · next g n hg hn =>
        cases hc
        intro o σ t η ρ w v σ' ho hs hx ha
        simp only [aop] at ha
        split at ha
        · next cs hp =>
          have hv := hx x hx1
          rw [hp] at hv
          obtain ⟨ds, he, hds⟩ := hv.agg_inv
          have hv' : (if g = true then some (Value.agg (((cs.toList.drop fd.offset).take n).toArray)) else cs.toList[fd.offset]?) = some v ∧ σ' = σ := by
            cases g with
            | true => simp only [if_true] at ha ⊢; cases ha; exact ⟨rfl, rfl⟩
            | false =>
              simp only [Bool.false_eq_true, if_false] at ha ⊢
              split at ha
              · next h => cases ha; exact ⟨h, rfl⟩
              · cases ha
          obtain ⟨hv', rfl⟩ := hv'
          obtain ⟨u, r1, r2⟩ := run_part (w := w) hg hn hds hv'
          exact done_pure hs (u := u) (by simp only [execOp, ho, Instr.field, Sem.run_bind, run_und hu, Result.andThen_ok, hf, he, asAgg, Sem.run_pure, r1]) r2
        · cases ha
      · cases hc
    · cases hc
  · cases hc

theorem ok_idxA [Rho] {ty : TypeId} {x i : Operand} {a : AOp} (hc : compOp P (.indexAddr ty x i) = some a) : OpOk P (.indexAddr ty x i) a := by
  obtain ⟨hx1, hc⟩ := chk_some hc
  simp only [Bool.and_eq_true] at hx1
  unfold compIdxA at hc
  split at hc
  · next e hu =>
    split at hc
    · next s hs' =>
      cases hc
      intro o σ t η ρ w v σ' ho hs hx ha
      simp only [aop] at ha
      split at ha
      · next b off sp l f k j hp hj =>
        split at ha
        · next hlt =>
          cases ha
          have hv := hx x hx1.1
          rw [hp] at hv
          have hi := hx i hx1.2
          rw [hj] at hi
          have hi := int_eq hi
          rcases hv.sl_inv with ⟨h, _⟩ | ⟨_, _, _, h, _⟩ | ⟨b', o', c, L, a', h1, h2, h3, h4, h5, h7, h6⟩
          · cases h
          · subst h; omega
          · cases h1
            obtain rfl := h7.resolve_right (by omega)
            refine done_pure hs (u := .pointer (some ⟨L.blk, L.base + off + j.toNat * s, none⟩)) ?_ ?_
            · simp only [execOp, ho, Instr.indexAt, hi, h6, asIntOf, Sem.run_bind, Sem.run_pure, run_und hu, Result.andThen_ok, if_pos hlt, run_sizeOf' hs', add_none]
            · rw [Nat.add_assoc]; exact .ptr h2
        · cases ha
      · cases ha
    · cases hc
  · next n e hu =>
    split at hc
    · next s hs' =>
      cases hc
      intro o σ t η ρ w v σ' ho hs hx ha
      simp only [aop] at ha
      split at ha
      · next b off sp k j hp hj =>
        split at ha
        · next hlt =>
          cases ha
          have hv := hx x hx1.1
          rw [hp] at hv
          have hi := hx i hx1.2
          rw [hj] at hi
          have hi := int_eq hi
          obtain ⟨L, hL, he⟩ := hv.ptr_inv
          refine done_pure hs (u := .pointer (some ⟨L.blk, L.base + off + j.toNat * s, none⟩)) ?_ ?_
          · simp only [execOp, ho, Instr.indexAt, hi, he, asIntOf, Instr.sureAddr, Sem.run_bind, Sem.run_pure, run_und hu, Result.andThen_ok, if_pos hlt, run_sizeOf' hs', add_none]
          · rw [Nat.add_assoc]; exact .ptr hL
        · cases ha
      · cases ha
    · cases hc
  · cases hc

theorem ok_idxS [Rho] {ty : TypeId} {x i : Operand} {a : AOp} (hc : compOp P (.index ty x i) = some a) : OpOk P (.index ty x i) a := by
  obtain ⟨hx1, hc⟩ := chk_some hc
  simp only [Bool.and_eq_true] at hx1
  unfold compIdx at hc
  split at hc
  · next hu =>
    cases hc
    intro o σ t η ρ w v σ' ho hs hx ha
    simp only [aop] at ha
    split at ha
    · next s k j hp hj =>
      split at ha
      · next hlt =>
        split at ha
        · next c hcc =>
          cases ha
          have hv := hx x hx1.1
          rw [hp] at hv
          have hi := hx i hx1.2
          rw [hj] at hi
          exact done_pure hs (by simp [execOp, ho, Instr.index, int_eq hi, str_eq hv, asIntOf, run_und hu, if_pos hlt, hcc]) (.flat rfl)
        · cases ha
      · cases ha
    · cases ha
  · cases hc

theorem ok_ext [Rho] {x : Operand} {i : Nat} {a : AOp} (hc : compOp P (.extract x i) = some a) : OpOk P (.extract x i) a := by
  obtain ⟨hx1, hc⟩ := chk_some hc; cases hc
  intro o σ t η ρ w v σ' ho hs hx ha
  simp only [aop] at ha
  split at ha
  · next vs hp =>
    split at ha
    · next r hr =>
      cases ha
      have hv := hx x hx1
      rw [hp] at hv
      obtain ⟨ds, he, hds⟩ := hv.tup_inv
      obtain ⟨u, hu, hru⟩ := hds.get1 hr
      have hu' : ds[i]? = some u := by simpa using hu
      exact done_pure hs (u := u) (by simp [execOp, ho, Instr.extract, he, hu']) hru
    · cases ha
  · cases ha
end
end Go.Hai
