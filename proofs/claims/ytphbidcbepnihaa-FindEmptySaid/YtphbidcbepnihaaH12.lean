/-
  The abstract interpreter: each operation of its form does what the machine's does (5); all of them. No proof of the program stands here.
-/
import Derived.Test.YtphbidcbepnihaaH11
import Derived.Laws.AppendOwn
namespace Go.Hai
open Go

section
variable {P : Program}

theorem findKey_run [Rho] {w : World} {kt : TypeId} {kk : IntKind} {i : Int} {es : List MapEntry} {r : Option (Nat × Value)} (hk : P.underlying kt = some (.int kk)) (h : Instr.findNow (.int kk) (.int kk i) es 0 = some r) :
    (Instr.findKey kt (.int kk i) es).run P w = .ok r w := by
  simp [Instr.findKey, run_und hk, h]
theorem checkKey_run [Rho] {w : World} {kt : TypeId} {kk : IntKind} {i : Int} {e : Bool} (n : Nat) (hk : P.underlying kt = some (.int kk)) : (Instr.checkKey e (n + 1) kt (.int kk i)).run P w = .ok () w := by
  simp [Instr.checkKey, run_und hk]

theorem flatC_of_scal {v : Value} (h : Hai.scal v = true) : flatC v = true := by
  cases v <;> simp_all [flatC, Hai.scal]
theorem tup2_flat [Rho] {a b : Value} (ha : Hai.scal a = true) (hb : Hai.scal b = true) : flat (.tuple #[a, b]) = true := by
  simp [flat, flatC_of_scal ha, flatC_of_scal hb]

/- the entries of a map of the abstract heap hold no address -/
theorem ok_lookup [Rho] {ty : TypeId} {x i : Operand} {ok : Bool} {a : AOp} (hc : compOp P (.lookup ty x i ok) = some a) : OpOk P (.lookup ty x i ok) a := by
  obtain ⟨hx1, hc⟩ := chk_some hc
  simp only [Bool.and_eq_true] at hx1
  unfold compLookup at hc
  split at hc
  · next k e hu =>
    split at hc
    · next kk z hk hz =>
      obtain ⟨hzs, hc⟩ := chk_some hc; cases hc
      intro o σ t η ρ w v σ' ho hs hx ha
      simp only [aop] at ha
      split at ha
      · next b k' j e1 e2 =>
        split at ha
        · next es c hm =>
          have hg := asMap_some hm
          split at ha
          · next hkk =>
            subst hkk
            have hv := hx x hx1.1
            rw [e1] at hv
            obtain ⟨L, hL, f1⟩ := hv.map_inv
            have hv' := hx i hx1.2
            rw [e2] at hv'
            have f2 := int_eq hv'
            obtain ⟨hO, _, _⟩ := hs.obj b L _ hL hg
            have hgo : (getObj L.blk).run P w = .ok (.map es c) w := by simp [getObj, Sem.run, hO]
            have hck := fun e => checkKey_run (P := P) (w := w) (e := e) (i := j) 9999 hk
            split at ha
            · rename_i p v' hf
              have hfk := findKey_run (P := P) (w := w) hk hf
              split at ha
              · next hsc =>
                cases ok with
                | true =>
                  simp only [if_true] at ha
                  cases ha
                  refine done_pure hs (u := .tuple #[v', .bool true]) ?_ (.flat (tup2_flat hsc rfl))
                  simp [execOp, ho, Instr.lookup, run_und hu, f1, f2, hgo, hck, hfk]
                | false =>
                  simp only [Bool.false_eq_true, if_false] at ha
                  cases ha
                  refine done_pure hs (u := _) ?_ (.flat (flat_of_scal hsc))
                  simp [execOp, ho, Instr.lookup, run_und hu, f1, f2, hgo, hck, hfk]
              · cases ha
            · next hf =>
              have hfk := findKey_run (P := P) (w := w) hk hf
              cases ok with
              | true =>
                simp only [if_true] at ha
                cases ha
                refine done_pure hs (u := .tuple #[z, .bool false]) ?_ (.flat (tup2_flat hzs rfl))
                simp [execOp, ho, Instr.lookup, run_und hu, f1, f2, hgo, hck, hfk, run_zero' hz]
              | false =>
                simp only [Bool.false_eq_true, if_false] at ha
                cases ha
                refine done_pure hs (u := z) ?_ (.flat (flat_of_scal hzs))
                simp [execOp, ho, Instr.lookup, run_und hu, f1, f2, hgo, hck, hfk, run_zero' hz]
            · cases ha
          · cases ha
        · cases ha
      · cases ha
    · cases hc
  · cases hc

theorem run_setObj' {w : World} {r : Nat} {x y : Obj} (h : w.heap[r]? = some x) (hx : Obj.notRow x = true) : (setObj r y).run P w = .ok () { w with heap := w.heap.setIfInBounds r y } := by
  simp only [setObj, Sem.run, h]
  cases x <;> simp_all [Obj.notRow]
theorem run_getObj' {w : World} {r : Nat} {x : Obj} (h : w.heap[r]? = some x) (hx : Obj.notRow x = true) : (getObj r).run P w = .ok x w := by
  simp only [getObj, Sem.run, h]
  cases x <;> simp_all [Obj.notRow]

theorem ok_mupd [Rho] {ty : TypeId} {m k v : Operand} {a : AOp} (hc : compOp P (.mapUpdate ty m k v) = some a) : OpOk P (.mapUpdate ty m k v) a := by
  obtain ⟨hx1, hc⟩ := chk_some hc
  simp only [Bool.and_eq_true] at hx1
  unfold compMupd at hc
  split at hc
  · next kt e hu =>
    split at hc
    · next kk hk =>
      cases hc
      intro o σ t η ρ w r σ' ho hs hx ha
      simp only [aop] at ha
      split at ha
      · next b k' j e1 e2 =>
        split at ha
        · next es c hm =>
          have hg := asMap_some hm
          split at ha
          · next hcond =>
            obtain ⟨hkk, hsc⟩ := hcond
            subst hkk
            have hv := hx m hx1.1.1
            rw [e1] at hv
            obtain ⟨L, hL, f1⟩ := hv.map_inv
            have hv' := hx k hx1.1.2
            rw [e2] at hv'
            have f2 := int_eq hv'
            have f3 := scal_eq hsc (hx v hx1.2)
            obtain ⟨hO, hn, hb0⟩ := hs.obj b L _ hL hg
            have hgo := run_getObj' (P := P) hO hn
            have hck := fun e => checkKey_run (P := P) (w := w) (e := e) (i := j) 9999 hk
            have hst : ∀ y, (setObj L.blk y).run P w = .ok () { w with heap := w.heap.setIfInBounds L.blk y } := fun y => run_setObj' hO hn
            split at ha
            · next hf =>
              cases ha
              have hfk := findKey_run (P := P) (w := w) hk hf
              refine ⟨undef, { w with heap := w.heap.setIfInBounds L.blk (.map (es.push { key := .int kk j, val := ev t v, born := c }) (c + 1)) }, ρ, .skip ?_, .flat rfl, sim_setObj hs hL hg rfl rfl ⟨rfl, rfl⟩⟩
              simp [execOp, ho, Instr.mapUpdate, run_und hu, f1, f2, f3, hgo, hck, hfk, hst]
            · next p q hf =>
              cases ha
              have hfk := findKey_run (P := P) (w := w) hk hf
              refine ⟨undef, { w with heap := w.heap.setIfInBounds L.blk (.map (es.modify p fun e => { e with key := .int kk j, val := ev t v }) c) }, ρ, .skip ?_, .flat rfl, sim_setObj hs hL hg rfl rfl ⟨rfl, rfl⟩⟩
              -- the key that stays is the same
              have hkey : (Instr.keyThatStays (((es[p]?).map (·.key)).getD (.int kk j)) (.int kk j)).run P w = .ok (.int kk j) w := by
                have hfind : ∀ (l : List MapEntry) (n : Nat), Instr.findNow (.int kk) (.int kk j) l n = some (some (p, q)) → n ≤ p ∧ ∃ en, l[p - n]? = some en ∧ ∃ x, en.key = .int kk x ∧ x = j := by
                  intro l
                  induction l with
                  | nil => intro n h; simp [Instr.findNow] at h
                  | cons en l ih =>
                    intro n h
                    simp only [Instr.findNow] at h
                    split at h
                    · next hsn =>
                      simp at h
                      obtain ⟨rfl, _⟩ := h
                      refine ⟨Nat.le_refl _, en, by simp, ?_⟩
                      unfold Instr.sameNow at hsn
                      split at hsn
                      · next ka a' kb b' e3 e4 e5 =>
                        split at hsn
                        · next hkk' =>
                          subst hkk'
                          cases e4
                          exact ⟨b', e5, by simpa using (by simpa using hsn : j = b').symm⟩
                        · cases hsn
                      · next e3 e4 e5 => cases e4
                      · next e3 e4 e5 => cases e4
                      · cases hsn
                    · obtain ⟨h1, en', h2, h3⟩ := ih (n + 1) h
                      refine ⟨by omega, en', ?_, h3⟩
                      obtain ⟨d, hd⟩ : ∃ d, p - n = d + 1 := ⟨p - n - 1, by omega⟩
                      rw [hd, List.getElem?_cons_succ, ← h2]; congr 1; omega
                    · cases h
                obtain ⟨_, en, h2, x', h3, rfl⟩ := hfind es.toList 0 hf
                have h2' : es[p]? = some en := by simpa using h2
                rw [h2']
                simp [h3, Instr.keyThatStays, Instr.sameBits]
              simp [execOp, ho, Instr.mapUpdate, run_und hu, f1, f2, f3, hgo, hck, hfk, hst, hkey]
            · cases ha
          · cases ha
        · cases ha
      · cases ha
    · cases hc
  · cases hc

theorem ok_rng [Rho] {ty : TypeId} {x : Operand} {a : AOp} (hc : compOp P (.range ty x) = some a) : OpOk P (.range ty x) a := by
  obtain ⟨hx1, hc⟩ := chk_some hc
  unfold compRng at hc
  split at hc
  · next hu =>
    cases hc
    intro o σ t η ρ w v σ' ho hs hx ha
    simp only [aop] at ha
    split at ha
    · next s e1 =>
      cases ha
      have hv := hx x hx1
      rw [e1] at hv
      refine ⟨.pointer (some ⟨w.heap.size, 0, none⟩), { w with heap := w.heap.push (.stringIter s 0) }, upd ρ σ.n ⟨w.heap.size, 0, 0, 0⟩, .val ?_, ?_,
        sim_push (obj := .stringIter s 0) hs rfl rfl (by rintro _ _ _ _ _ _ ⟨⟩) (by rintro x ⟨⟩; exact ⟨rfl, rfl, rfl⟩) ⟨rfl, rfl⟩⟩
      · simp [execOp, ho, Instr.range, run_und hu, str_eq hv]
      · simpa [here] using VR.ptr (o := 0) (upd_same ρ σ.n ⟨w.heap.size, 0, 0, 0⟩)
    · cases ha
  · cases hc

theorem ok_next [Rho] {x : Operand} {a : AOp} (hc : compOp P (.next x true) = some a) : OpOk P (.next x true) a := by
  obtain ⟨hx1, hc⟩ := chk_some hc; cases hc
  intro o σ t η ρ w v σ' ho hs hx ha
  simp only [aop] at ha
  split at ha
  · next b sp e1 =>
    split at ha
    · next s pos hg =>
      have hv := hx x hx1
      rw [e1] at hv
      obtain ⟨L, hL, f1⟩ := hv.ptr_inv
      obtain ⟨hO, hn, hb0⟩ := hs.obj b L _ hL hg
      have hgo := run_getObj' (P := P) hO hn
      rw [hb0] at f1
      have hst : ∀ y, (setObj L.blk y).run P w = .ok () { w with heap := w.heap.setIfInBounds L.blk y } := fun y => run_setObj' hO hn
      split at ha
      · next hlt =>
        cases ha
        refine ⟨.tuple #[.bool true, .int .i64 pos, .int .i32 (Utf8.decode s pos).1], { w with heap := w.heap.setIfInBounds L.blk (.stringIter s (pos + (Utf8.decode s pos).2)) }, ρ, .val ?_, .flat rfl, sim_setObj hs hL hg rfl rfl ⟨rfl, rfl⟩⟩
        simp [execOp, ho, Instr.next, f1, hgo, hlt, hst, goInt]
      · next hlt =>
        cases ha
        exact done_pure hs (u := .tuple #[.bool false]) (by simp [execOp, ho, Instr.next, f1, hgo, hlt]) (.flat rfl)
    · cases ha
  · cases ha

theorem sim_drew [Rho] {ρ : Ren} {σ : AHeap} {w w' : World} (h : w'.heap = w.heap) (hs : Sim ρ σ w) : Sim ρ σ w' := by
  refine ⟨hs.dom, fun b L e => by rw [h]; exact hs.lt b L e, hs.some', ?_, ?_, hs.sep, hs.top⟩
  · intro b L cs len es top rw' fam e g
    obtain ⟨q1, q2, q3⟩ := hs.row b L cs len es top rw' fam e g
    exact ⟨q1, q2, fun ha => (q3 ha).mono (Ren.le_refl _) (by rw [h])⟩
  · intro b L o e g
    rw [h]; exact hs.obj b L o e g

theorem ok_app [Rho] {ty : TypeId} {s x : Operand} {a : AOp} (hx1 : okX s = true ∧ okX x = true) (hc : compApp P ty ty s x = some a) (o : Oper) (σ : AHeap) (t : Tmps) (η : Operand → Value) (ρ : Ren) (w : World) (v : Value) (σ' : AHeap)
    (ho : o.op = .call { callee := .builtin .append, args := #[s, x], argTypes := #[ty, ty] }) (hs : Sim ρ σ w)
    (hx : ∀ x, okX x = true → VR ρ (ev t x) (η x)) (ha : aop σ t a = some (v, σ')) : ∃ u w' ρ', Runs P o η w u w' ∧ VR ρ' v u ∧ Post ρ σ w ρ' σ' w' := by
  unfold compApp at hc
  split at hc
  · next e hu =>
    split at hc
    · next z by_ hz hb =>
      obtain ⟨hz0, hc⟩ := chk_some hc; cases hc
      simp only [Bool.and_eq_true] at hz0
      obtain ⟨zv, h1, h2, h3, h4⟩ := tZeroL_some hz
      have hzl : z.length ≠ 0 := by intro h; rw [h] at hz0; simp at hz0
      have hzs : zv.cells.size = z.length := by rw [← h3]; simp
      obtain ⟨i, hi, hi1, hi2, hi3⟩ : ∃ i, P.info? e = some i ∧ i.size = z.length ∧ i.bytes = by_ ∧ i.zero = some zv := by
        unfold tSize at h2; unfold tBytes at hb; unfold tZero at h1
        cases hi : P.info? e with
        | none => rw [hi] at h2; cases h2
        | some i => rw [hi] at h2 hb h1; exact ⟨i, rfl, by simpa using h2, by simpa using hb, by simpa using h1⟩
      have hexec : ∀ y, ((Builtin.append_ #[ty, ty] o.type #[η s, η x]).run P w = y) → (execOp η o).run P w = y.andThen fun v w' => .ok (.value v) w' := by
        intro y hy
        simp [execOp, ho, resolve, invoke, builtin, hy]
      simp only [aop] at ha
      unfold appOp at ha
      split at ha
      · cases ha
      · next m xs hsrc =>
        split at ha
        · next a l f e1 =>
          have hv := hx s hx1.1
          rw [e1] at hv
          have hv' := hx x hx1.2
          -- the source
          have hsource : ∃ us ax cx lx, η x = .slice ax lx cx ∧ lx = m ∧ VRs ρ xs us ∧ us.length = m * z.length ∧ xs.all isCell = true ∧ (m ≠ 0 → ∃ a₁, ax = some a₁ ∧ ∀ j u, us[j]? = some u → w.cell? (a₁.add j) = some u) := by
            unfold srcCells at hsrc
            split at hsrc
            · next n c e2 =>
              cases hsrc
              rw [e2] at hv'
              rcases hv'.sl_inv with ⟨_, rfl, _, h⟩ | ⟨_, _, h, _⟩ | ⟨_, _, _, _, _, h, _⟩
              · exact ⟨[], _, _, _, h, rfl, .nil, by simp, rfl, by simp⟩
              · cases h
              · cases h
            · next b off sp n c e2 =>
              rw [e2] at hv'
              split at hsrc
              · next xs' hl =>
                cases hsrc
                rcases hv'.sl_inv with ⟨h, _⟩ | ⟨_, a', _, rfl, _, h⟩ | ⟨b', o', cc, L, a', h6, hL, hlc, hf, hb', ha', h⟩
                · cases h
                · have hxs : xs = [] := by
                    unfold AHeap.loadN at hl
                    split at hl
                    · split at hl
                      · have := (cellsFrom_get hl).1; exact List.eq_nil_of_length_eq_zero (by simpa using this)
                      · cases hl
                    · cases hl
                  subst hxs
                  exact ⟨[], _, _, _, h, rfl, .nil, by simp, rfl, by simp⟩
                · cases h6
                  obtain ⟨C, T, fr, us, c1, c2, c3, c4, c5, c6⟩ := hs.cells hL hl
                  refine ⟨us, _, _, _, h, rfl, c5, c2, c6, fun hm0 => ⟨a', rfl, fun j u hj => ?_⟩⟩
                  obtain rfl := ha'.resolve_right (by omega)
                  rw [add_none]
                  have hjl : j < m * z.length := by rw [← c2]; exact (List.getElem?_eq_some_iff.1 hj).1
                  have := c3 j hjl
                  rw [hj] at this
                  simpa [World.cell?, c1] using this
              · cases hsrc
            · cases hsrc
          obtain ⟨us, ax, cx, lx, f2, rfl, hvs, hul, hxc, hcell⟩ := hsource
          split at ha
          · -- nothing is appended
            next hm0 =>
            have hm0 := Nat.eq_of_beq_eq_true hm0
            subst hm0
            cases ha
            rw [e1]
            have key : ∃ a' l' c', η s = .slice a' l' c' ∧ l' ≤ c' := by
              rcases hv.sl_inv with ⟨_, _, _, h⟩ | ⟨_, _, _, _, _, h⟩ | ⟨_, _, _, _, _, _, _, h0, _, _, _, h⟩
              · exact ⟨_, _, _, h, Nat.le_refl _⟩
              · exact ⟨_, _, _, h, Nat.le_refl _⟩
              · exact ⟨_, _, _, h, h0⟩
            obtain ⟨a', l', c', f1, hle⟩ := key
            refine done_pure hs (u := η s) ?_ hv
            have hf0 : ∀ ax' : Option Addr, (Builtin.firstCells z.length 0 (.slice ax' 0 cx)).run P w = .ok #[] w := by
              intro ax'
              cases ax' <;> simp [Builtin.firstCells, loadCells, loadCellsFrom]
            have hr : (Builtin.append_ #[ty, ty] o.type #[η s, η x]).run P w = .ok (η s) w := by
              rw [f1, f2]
              cases a' with
              | none => simp [Builtin.append_, run_und hu, run_sizeOf' h2, Builtin.lenOf, hle, hf0]
              | some a' => simp [Builtin.append_, run_und hu, run_sizeOf' h2, Builtin.lenOf, hle, hf0, storeCells]
            rw [hexec _ hr]; rfl
          · next hm0 =>
            have hm0 : lx ≠ 0 := by intro h; rw [h] at hm0; simp at hm0
            have hcell1 := hcell hm0
            clear hcell
            obtain ⟨a₁, rfl, hcell⟩ := hcell1
            split at ha
            · cases ha
            · next hbig =>
              have hbig : Nat.ble ((l + lx) * by_) 140737488355328 = true ∧ Nat.ble (l + lx) 140737488355328 = true := by
                cases hq : (Nat.ble ((l + lx) * by_) 140737488355328 && Nat.ble (l + lx) 140737488355328) with
                | true => simpa using hq
                | false => rw [hq] at hbig; simp at hbig
              have hby := Nat.le_of_ble_eq_true hbig.1
              have hsm := Nat.le_of_ble_eq_true hbig.2
              rw [← hi2] at hby
              split at ha
              · -- no room at all
                next hf0 =>
                have hf0 := Nat.eq_of_beq_eq_true hf0
                subst hf0
                split at ha
                · next hl0 =>
                  have hl0 := Nat.eq_of_beq_eq_true hl0
                  subst hl0
                  cases ha
                  simp only [Nat.zero_add] at hby hsm
                  let C : Array Value := us.toArray ++ Builtin.zeroCells zv.cells (grownCap w lx 0 e - lx)
                  have hge := grownCap_ge w lx 0 e
                  have hCs : C.size = grownCap w lx 0 e * z.length := by
                    simp only [C, Array.size_append, List.size_toArray, size_zeroCells, hzs, hul, ← Nat.add_mul]
                    congr 1; omega
                  have hpost : Post ρ σ w (upd ρ σ.n ⟨w.heap.size, 0, C.size, z.length⟩) (σ.newRow xs z.length) (w.drew.alloc (.cells C e)) :=
                    sim_newRow' (C := C) (T := e) (ds := us) hs hvs hxc (fun i hi => by simp [C, Array.getElem?_append, hi]) (by simp [C]) rfl ⟨rfl, rfl⟩
                  have hvr : VR (upd ρ σ.n ⟨w.heap.size, 0, C.size, z.length⟩) (.slice (some ⟨σ.n, 0, none⟩) lx 1) (.slice (some ⟨w.heap.size, 0, none⟩) lx (grownCap w lx 0 e)) := by
                    refine VR.sl (L := ⟨w.heap.size, 0, C.size, z.length⟩) (upd_same _ _ _) hge (by simp) (fun _ => ?_) (.inl (by simp))
                    simp only [Nat.zero_add, hCs]; exact Nat.le_refl _
                  rcases hv.sl_inv with ⟨rfl, _, _, f1⟩ | ⟨_, a', rfl, _, _, f1⟩ | ⟨_, _, _, _, _, _, _, _, hf, _⟩
                  · have hr := run_append_nil (P := P) w ty o.type e i zv hu hi hi3 a₁ lx cx us (by rw [hi1]; exact hul) hcell (by omega) (by omega) (by omega)
                    refine ⟨_, _, _, .val ?_, hvr, hpost⟩
                    rw [hexec _ rfl, f1, f2, hr]; rfl
                  · have hr := run_append_grow (P := P) w ty o.type e i zv hu hi hi3 a' 0 0 [] (by simp) (by intro j v h; simp at h) a₁ lx cx us (by rw [hi1]; exact hul) hcell (by omega) (by omega) (growslice_fits (by omega) (by simpa using hby))
                    rw [show ([] : List Value).toArray = #[] from rfl, Array.empty_append, Nat.zero_add] at hr
                    refine ⟨_, _, _, .val ?_, hvr, hpost⟩
                    rw [hexec _ rfl, f1, f2, hr]; rfl
                  · exact absurd rfl hf
                · cases ha
              · next hf0 =>
                split at ha
                · next b sp =>
                  split at ha
                  · next cs len es fam hg =>
                    split at ha
                    · next hcond =>
                      simp only [Bool.and_eq_true] at hcond
                      obtain ⟨⟨⟨⟨hal, hes⟩, hlen⟩, hf1⟩, _⟩ := hcond
                      have hes := Nat.eq_of_beq_eq_true hes
                      have hlen := Nat.eq_of_beq_eq_true hlen
                      have hf1 := Nat.eq_of_beq_eq_true hf1
                      subst hf1; subst hes
                      cases ha
                      rcases hv.sl_inv with ⟨h, _⟩ | ⟨_, _, _, _, h, _⟩ | ⟨b', o', c, L, a', h6, hL, hlc, hf, hb', ha', f1⟩
                      · cases h
                      · cases h
                      · cases h6
                        have hzz := hb' rfl
                        obtain ⟨hLes, _, hrow⟩ := hs.row _ _ _ _ _ _ _ _ hL hg
                        rw [hLes] at hzz
                        simp only [Nat.zero_add] at hzz
                        by_cases hroom : l + lx ≤ c
                        · -- within the room
                          obtain rfl := ha'.resolve_right (by omega)
                          have hmul : (l + lx) * z.length ≤ c * z.length := Nat.mul_le_mul_right _ hroom
                          rw [Nat.add_mul] at hmul
                          obtain ⟨C, T, c1, c2, c3, c4⟩ := sim_inplace (xs := xs) (us := us) hs hL hg hal hvs hxc (by omega)
                          obtain ⟨w', C', r1, r2, r3, r4, r5, r6, r7⟩ := run_storeCells P us 0 w C (B := L.blk) (off := L.base + len) c1 (by omega) c3
                          have hf := run_firstCells_some (P := P) w z.length lx a₁ lx cx us hul hcell
                          have hr : (Builtin.append_ #[ty, ty] o.type #[η s, η x]).run P w = .ok (.slice (some ⟨L.blk, L.base + 0, none⟩) (l + lx) c) w' := by
                            rw [f1, f2]
                            simp only [Nat.add_zero]
                            simp [Builtin.append_, run_und hu, run_sizeOf' h2, Builtin.lenOf, hroom, hf, add_none, hlen, r1]
                          refine ⟨.slice (some ⟨L.blk, L.base + 0, none⟩) (l + lx) c, w', upd ρ σ.n L, .val ?_, ?_, c4 w' C' r2 r3 r4 (by simpa using r5) r6 r7⟩
                          · rw [hexec _ hr]; rfl
                          · refine VR.sl (L := L) (upd_same _ _ _) hroom (by simp) (fun _ => ?_) (.inl rfl)
                            rw [hLes]; omega
                        · -- a new row
                          let olds : List Value := (List.range (l * z.length)).map (fun j => (match w.heap[L.blk]? with | some (.cells C _ _) => C.getD (L.base + j) undef | _ => undef))
                          obtain ⟨C0, T0, fr0, d1, d2, d3, d4, d5⟩ := (hrow hal).ex
                          have holds : olds.length = l * z.length ∧ (∀ j v, olds[j]? = some v → C0[L.base + j]? = some v) ∧ ∀ j, j < l * z.length → olds[j]? = C0[L.base + j]? := by
                            have hlt : ∀ j, j < l * z.length → L.base + j < C0.size := fun j hj => by omega
                            refine ⟨by simp [olds], fun j v hj => ?_, fun j hj => ?_⟩
                            · have hjl : j < l * z.length := by have := (List.getElem?_eq_some_iff.1 hj).1; simpa [olds] using this
                              simp [olds, hjl, d1, Array.getD, hlt j hjl] at hj
                              rw [Array.getElem?_eq_getElem (hlt j hjl), hj]
                            · simp [olds, hj, d1, Array.getD, hlt j hj]
                          have hcellOld : ∀ j v, olds[j]? = some v → w.cell? (a'.add j) = some v := by
                            intro j v hj
                            have hjl : j < l * z.length := by rw [← holds.1]; exact (List.getElem?_eq_some_iff.1 hj).1
                            have hl0 : l ≠ 0 := by rintro rfl; simp at hjl
                            obtain rfl := ha'.resolve_right (by omega)
                            rw [add_none]
                            have := holds.2.1 j v hj
                            simpa [World.cell?, d1] using this
                          have hr := run_append_grow (P := P) w ty o.type e i zv hu hi hi3 a' l c olds (by rw [hi1]; exact holds.1) hcellOld a₁ lx cx us (by rw [hi1]; exact hul) hcell (by omega) (by omega) (growslice_fits (by omega) hby)
                          let C : Array Value := olds.toArray ++ us.toArray ++ Builtin.zeroCells zv.cells (grownCap w (l + lx) c e - (l + lx))
                          have hge := grownCap_ge w (l + lx) c e
                          have hCs : C.size = grownCap w (l + lx) c e * z.length := by
                            simp only [C, Array.size_append, List.size_toArray, size_zeroCells, hzs, hul, holds.1, ← Nat.add_mul]
                            congr 1; omega
                          have ht := sim_tie hs hL hg hal
                          have hext := ext_tie hg
                          have hgb : (σ.tie b cs len z.length fam).t.get b = some (.row cs len z.length false true (some (tieP σ b fam))) := by simp only [AHeap.tie, Tr.get_ins, if_true]
                          have hle1 := upd_le ht.sim ⟨w.heap.size, 0, C.size, z.length⟩
                          have hp2 : Post ρ (σ.tie b cs len z.length fam) w (upd ρ σ.n ⟨w.heap.size, 0, C.size, z.length⟩)
                              ((σ.tie b cs len z.length fam).push (.row (cs.put len xs) (len + xs.length) z.length true true (some (tieP σ b fam)))) (w.drew.alloc (.cells C e)) := by
                            refine sim_push (σ := σ.tie b cs len z.length fam) (obj := .cells C e) ht.sim rfl rfl ?_ (by rintro x ⟨⟩) ⟨rfl, rfl⟩
                            rintro _ _ _ _ _ _ ⟨⟩
                            refine ⟨rfl, ?_, ⟨C, e, (0, 0), by show (w.heap.push (.cells C e))[w.heap.size]? = _; exact Array.getElem?_push_size, Nat.le_of_eq (Nat.zero_add _), by rw [hCs, hvs.length, hul, ← hlen, ← Nat.add_mul]; exact Nat.mul_le_mul_right _ hge, fun _ => rfl, ?_⟩⟩
                            · rintro p ⟨⟩
                              obtain ⟨_, q2, _⟩ := ht.sim.row _ _ _ _ _ _ _ _ hL hgb
                              exact Nat.le_trans (q2 _ rfl) (Nat.le_of_lt (hs.dom _ _ hL))
                            · intro j v hj hv'
                              have hxl := hvs.length
                              rw [Tr.get_put] at hv'
                              by_cases hr : len ≤ j ∧ j < len + xs.length
                              · rw [if_pos hr] at hv'
                                obtain ⟨u, hu', hvr⟩ := hvs.get1 hv'
                                refine ⟨List.all_eq_true.1 hxc _ (List.mem_of_getElem? hv'), u, ?_, hvr.mono hle1⟩
                                simp only [C, Nat.zero_add]
                                rw [Array.getElem?_append_left (by simp; omega), Array.getElem?_append_right (by simp; omega)]
                                simp only [List.size_toArray, holds.1, hlen, List.getElem?_toArray]
                                exact hu'
                              · rw [if_neg hr] at hv'
                                obtain ⟨hc', u, hu', hvr⟩ := d5 j v (by omega) hv'
                                refine ⟨hc', u, ?_, hvr.mono hle1⟩
                                simp only [C, Nat.zero_add]
                                rw [Array.getElem?_append_left (by simp; omega), Array.getElem?_append_left (by simp; omega), List.getElem?_toArray, holds.2.2 j (by omega)]
                                exact hu'
                          refine ⟨.slice (some ⟨w.heap.size, 0, none⟩) (l + lx) (grownCap w (l + lx) c e), _, _, .val ?_, ?_, ht.trans hs hext (ext_push _ _) hp2⟩
                          · rw [hexec _ rfl, f1, f2, hr]; rfl
                          · refine VR.sl (L := ⟨w.heap.size, 0, C.size, z.length⟩) (upd_same _ _ _) hge (by simp) (fun _ => ?_) (.inl (by simp))
                            simp only [Nat.zero_add, hCs]; exact Nat.le_refl _
                    · cases ha
                  · cases ha
                · cases ha
        · cases ha
    · cases hc
  · cases hc

/- an operation that is no call of a function of the program -/
theorem aop_ok [Rho] {N : Nat} {all : List Oper} {o : Oper} {ao : AOper} (hc : compOper P N all o = some ao) {σ σ' : AHeap} {t : Tmps} {η : Operand → Value} {ρ : Ren} {w : World} {v : Value} (hs : Sim ρ σ w)
    (hx : ∀ x, okX x = true → VR ρ (ev t x) (η x)) (ha : aop σ t ao.op = some (v, σ')) : ∃ u w' ρ', Runs P o η w u w' ∧ VR ρ' v u ∧ Post ρ σ w ρ' σ' w' := by
  unfold compOper at hc
  split at hc
  · obtain ⟨_, hc⟩ := chk_some hc
    cases hc
    simp only at ha
    unfold compOp' at ha
    split at ha
    · next a hca =>
      replace ha : aop σ t a = some (v, σ') := by
        split at ha
        · simp only [aop] at ha; cases ha
        · exact ha
      obtain ⟨dst, op, ty, pos, after, guard⟩ := o
      simp only at hca
      have fin : OpOk P op a → ∃ u w' ρ', Runs P ⟨dst, op, ty, pos, after, guard⟩ η w u w' ∧ VR ρ' v u ∧ Post ρ σ w ρ' σ' w' := fun h => h _ σ t η ρ w v σ' rfl hs hx ha
      cases op with
      | move => exact fin (ok_move hca)
      | assign => exact fin (ok_assign hca)
      | pick => exact fin (ok_pick hca)
      | alloc => exact fin (ok_alloc hca)
      | box => exact fin (ok_box hca)
      | build => exact fin (ok_build hca)
      | buildSlice => exact fin (ok_buildSl hca)
      | load => exact fin (ok_load hca)
      | store => exact fin (ok_store hca)
      | nilCheck => exact fin (ok_nilck hca)
      | binOp => exact fin (ok_binOp hca)
      | unOp => exact fin (ok_un hca)
      | convert => exact fin (ok_conv hca)
      | makeFunc fn first cap =>
        cases fn with
        | func f => exact fin (ok_mkFn hca)
        | _ => cases hca
      | makeMap ty r =>
        cases r with
        | none => exact fin (ok_mkMap hca)
        | some _ => cases hca
      | makeSlice => exact fin (ok_mkSl hca)
      | slice => exact fin (ok_slice hca)
      | fieldAddr => exact fin (ok_fldA hca)
      | field => exact fin (ok_fld hca)
      | indexAddr => exact fin (ok_idxA hca)
      | index => exact fin (ok_idxS hca)
      | lookup => exact fin (ok_lookup hca)
      | mapUpdate => exact fin (ok_mupd hca)
      | range => exact fin (ok_rng hca)
      | next x b =>
        cases b with
        | true => exact fin (ok_next hca)
        | false => cases hca
      | extract => exact fin (ok_ext hca)
      | call c =>
        replace hca : compCall P c = some a := hca
        obtain ⟨callee, args, argTypes⟩ := c
        unfold compCall at hca
        have hca2 := chk_some hca
        clear hca
        obtain ⟨hx1, hca⟩ := hca2
        simp only at hx1 hca
        split at hca
        · next f =>
          simp only [Option.some.injEq] at hca
          unfold compFun at hca
          split at hca
          · next hI =>
            split at hca
            · next x y e1 =>
              have e1' : args = #[x, y] := by cases args; simp_all
              subst e1'; subst hca
              exact ok_idxB hI (by simpa [okXs] using hx1) _ σ t η ρ w v σ' argTypes rfl hs hx ha
            · subst hca; simp only [aop] at ha; cases ha
          · subst hca; simp only [aop] at ha; cases ha
        · cases hca; simp only [aop] at ha; cases ha
        · split at hca
          · next x tt e1 e2 =>
            have e1' : args = #[x] := by cases args; simp_all
            have e2' : argTypes = #[tt] := by cases argTypes; simp_all
            subst e1'; subst e2'
            exact ok_len (by simpa [okXs] using hx1) hca _ σ t η ρ w v σ' rfl hs hx ha
          · cases hca
        · split at hca
          · next x y tt rest e1 e2 =>
            have e1' : args = #[x, y] := by cases args; simp_all
            subst e1'
            unfold compMax at hca
            split at hca
            · cases hca
              exact ok_max (by simpa [okXs] using hx1) _ σ t η ρ w v σ' argTypes rfl hs hx ha
            · cases hca
          · cases hca
        · split at hca
          · next x y tt uu e1 e2 =>
            have e1' : args = #[x, y] := by cases args; simp_all
            have e2' : argTypes = #[tt, uu] := by cases argTypes; simp_all
            subst e1'; subst e2'
            have htu : tt = uu := by
              unfold compApp at hca
              split at hca
              · split at hca
                · obtain ⟨h, _⟩ := chk_some hca
                  simp only [Bool.and_eq_true] at h
                  exact Nat.eq_of_beq_eq_true h.1
                · cases hca
              · cases hca
            subst htu
            exact ok_app (by simpa [okXs] using hx1) hca _ σ t η ρ w v σ' rfl hs hx ha
          · cases hca
        · cases hca
      | _ => cases hca
    · simp only [aop] at ha; cases ha
  · cases hc
end
end Go.Hai
