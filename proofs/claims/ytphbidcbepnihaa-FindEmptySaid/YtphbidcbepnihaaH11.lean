/-
  The abstract interpreter: each operation of its form does what the machine's does (4). No proof of the program stands here.
-/
import Derived.Test.YtphbidcbepnihaaH10
namespace Go.Hai
open Go

section
variable {P : Program}

theorem eqScalA_eqScal [Rho] {ρ : Ren} {k : Nat} {a b a' b' : Value} {q : Bool} (h : eqScalA k a b = some q) (ra : VR ρ a a') (rb : VR ρ b b') : eqScal k a' b' = some q := by
  have plain : eqScal k a b = some q → eqScal k a' b' = some q := by
    intro h
    have hfl : flat a = true ∧ flat b = true := by
      unfold eqScal at h
      split at h <;> first | exact ⟨rfl, rfl⟩ | cases h
    rw [flat_eq hfl.1 ra, flat_eq hfl.2 rb]
    exact h
  unfold eqScalA at h
  split at h
  · split at h
    · split at h
      · split at h
        · next hmn =>
          cases h
          have := Nat.eq_of_beq_eq_true hmn
          subst this
          rw [sym_eq ra, sym_eq rb]
          simp [eqScal]
        · cases h
      · split at h
        · next hz => cases h; rw [isZero_eq hz] at rb; rw [sym_eq ra, int_eq rb]; rfl
        · cases h
    · split at h
      · split at h
        · next hz => cases h; rw [isZero_eq hz] at ra; rw [int_eq ra, sym_eq rb]; rfl
        · cases h
      · exact plain h
  · exact plain h

theorem ok_eqS [Rho] {op : BinOp} {xt yt : TypeId} {x y : Operand} {ls : List (Nat × Nat)} {d : Nat} (hx1 : okX x = true ∧ okX y = true) (hg : tAgg P xt = some true) (hq : P.eqGuardType P.depth xt = false) (ho' : (op == .eql || op == .neq) = true)
    (hl : leafs P d xt 0 = some ls) (hd : d ≤ 10000) : OpOk P (.binOp op xt x y yt) (.eqS (op == .neq) ls x y) := by
  intro o σ t η ρ w v σ' ho hs hx ha
  simp only [aop] at ha
  split at ha
  · next xs ys e1 e2 =>
    split at ha
    · next r hr =>
      cases ha
      have hv := hx x hx1.1
      have hv' := hx y hx1.2
      rw [e1] at hv; rw [e2] at hv'
      -- what is compared holds no address: both sides are the same values there
      obtain ⟨A, f1, hA⟩ := hv.agg_inv
      obtain ⟨B, f2, hB⟩ := hv'.agg_inv
      have hsame : eqLs A.toList B.toList ls = some r := by
        clear hl
        revert r
        induction ls with
        | nil => intro r h; exact h
        | cons p ls ih =>
          intro r h
          obtain ⟨i, k⟩ := p
          simp only [eqLsA] at h
          simp only [eqLs]
          split at h
          · next a b ga gb =>
            obtain ⟨a', ga', ra⟩ := hA.get1 ga
            obtain ⟨b', gb', rb⟩ := hB.get1 gb
            split at h
            · next q hq' =>
              have hab : eqScal k a' b' = some q := eqScalA_eqScal hq' ra rb
              rw [ga', gb']
              simp only [hab]
              split at h
              · next p hp => cases h; rw [ih p hp]
              · cases h
            · cases h
          · cases h
      obtain ⟨n, hn⟩ : ∃ n, tSize P xt = some n := by
        cases d with
        | zero => simp [leafs] at hl
        | succ d =>
          unfold leafs at hl
          split at hl
          all_goals first | (cases hl; done) | exact ⟨_, ‹tSize P xt = some _›⟩
      have hat : ∀ X : Array Value, At P xt n 0 X.toList (.agg X) := fun X => by
        unfold At; rw [hg]; exact ⟨X, rfl, fun i _ => by simp⟩
      have hrun := run_leafs (P := P) (w := w) d xt 0 n ls A.toList B.toList (.agg A) (.agg B) r 10000 hl hn (hat A) (hat B) hsame hd
      have hgd : (eqGuard op xt x y (.agg A) (.agg B)).run P w = .ok () w := run_eqGuard_agg w op xt x y A B hq
      cases op <;> simp at ho'
      · refine done_pure hs (u := .bool r) ?_ (.flat rfl)
        simp only [execOp, ho, f1, f2, Sem.run_bind, hgd, Result.andThen_ok, run_eql_struct, hrun, Sem.run_pure]
      · refine done_pure hs (u := .bool (!r)) ?_ (.flat rfl)
        simp only [execOp, ho, f1, f2, Sem.run_bind, hgd, Result.andThen_ok, run_neq_struct, hrun, Sem.run_pure]
    · cases ha
  · cases ha

theorem ok_binOp [Rho] {op : BinOp} {xt yt : TypeId} {x y : Operand} {a : AOp} (hc : compOp P (.binOp op xt x y yt) = some a) : OpOk P (.binOp op xt x y yt) a := by
  obtain ⟨hx1, hc⟩ := chk_some hc
  simp only [Bool.and_eq_true] at hx1
  unfold compBin at hc
  split at hc
  · cases hc; exact ok_bin' hx1
  · cases hc; exact ok_bin' hx1
  · next hu => obtain ⟨h1, hc⟩ := chk_some hc; cases hc; exact ok_eqB hx1 hu h1
  · next e hu =>
    obtain ⟨h1, hc⟩ := chk_some hc; cases hc
    simp only [Bool.and_eq_true] at h1
    exact ok_eqNil hx1 hu h1.1 h1.2
  · next hu =>
    obtain ⟨h1, hc⟩ := chk_some hc
    simp only [Bool.and_eq_true, Bool.not_eq_true'] at h1
    split at hc
    · next ls hl => cases hc; exact ok_eqS hx1 (by simp [tAgg, hu]) h1.1 h1.2 hl (by omega)
    · cases hc
  · next hu =>
    obtain ⟨h1, hc⟩ := chk_some hc
    simp only [Bool.and_eq_true, Bool.not_eq_true'] at h1
    split at hc
    · next ls hl => cases hc; exact ok_eqS hx1 (by simp [tAgg, hu]) h1.1 h1.2 hl (by omega)
    · cases hc
  · cases hc

theorem wrap64_small {n : Int} (h0 : 0 ≤ n) (h : n ≤ 140737488355328) : IntKind.i64.wrap n = n := by
  simp [IntKind.wrap, IntKind.bits, IntKind.signed]
  omega

theorem ok_mkSl [Rho] {ty : TypeId} {l c : Operand} {a : AOp} (hc : compOp P (.makeSlice ty l c) = some a) : OpOk P (.makeSlice ty l c) a := by
  obtain ⟨hx1, hc⟩ := chk_some hc
  simp only [Bool.and_eq_true] at hx1
  unfold compMkSl at hc
  split at hc
  · next e hu =>
    split at hc
    · next z by_ hz hb =>
      obtain ⟨hz0, hc⟩ := chk_some hc; cases hc
      obtain ⟨zv, h1, h2, h3, h4⟩ := tZeroL_some hz
      have hzl : z.length ≠ 0 := by intro h; rw [h] at hz0; simp at hz0
      intro o σ t η ρ w v σ' ho hs hx ha
      simp only [aop] at ha
      split at ha
      · next n m e1 e2 =>
        split at ha
        · next hle =>
          cases ha
          have hv := hx l hx1.1
          have hv' := hx c hx1.2
          rw [e1] at hv; rw [e2] at hv'
          have f1 := int_eq hv
          have f2 := int_eq hv'
          obtain ⟨g1, g2, g3, g4⟩ := hle
          have w1 := wrap64_small (n := n) g1 (by omega)
          have w2 := wrap64_small (n := m) (by omega) g4
          obtain ⟨i, hi1, hi2⟩ := run_bytes' (w := w) hb
          have hzs : zv.cells.size = z.length := by rw [← h3]; simp
          have hm : (m.toNat : Int) = m := Int.toNat_of_nonneg (by omega)
          have hn : (n.toNat : Int) = n := Int.toNat_of_nonneg g1
          let C : Array Value := (Array.range (m.toNat * z.length)).map ((if m.toNat * z.length = 0 then #[] else zv.cells)[· % (if m.toNat * z.length = 0 then #[] else zv.cells).size]!)
          have hC : C.toList = (List.replicate m.toNat z).flatten := by
            by_cases h0 : m.toNat * z.length = 0
            · have hm0 : m.toNat = 0 := by rcases Nat.mul_eq_zero.1 h0 with h | h; exact h; exact absurd h hzl
              have : C = #[] := by apply Array.eq_empty_of_size_eq_zero; simp [C, h0]
              rw [this, hm0]; simp
            · simp only [C, h0, if_false]
              rw [range_rep zv.cells m.toNat z.length hzs, h3]
          have hlenm : (List.replicate m.toNat z).flatten.length = m.toNat * z.length := by simp [List.length_flatten]
          have hlenn : (List.replicate n.toNat z).flatten.length = n.toNat * z.length := by simp [List.length_flatten]
          have hCs : C.size = m.toNat * z.length := by rw [← hlenm, ← hC]; simp
          have hsc : ((List.replicate n.toNat z).flatten).all Hai.scal = true := by
            rw [List.all_eq_true] at *
            intro v hv
            simp only [List.mem_flatten, List.mem_replicate] at hv
            obtain ⟨l, ⟨_, rfl⟩, hv⟩ := hv
            exact h4 v hv
          have hnm : n.toNat ≤ m.toNat := by omega
          refine ⟨.slice (some ⟨w.heap.size, 0, none⟩) n.toNat m.toNat, { w with heap := w.heap.push (.cells C e) }, _, .val ?_, ?_, sim_newRow' (C := C) (T := e) (ds := (List.replicate n.toNat z).flatten) hs (.scal hsc) (cells_of_scal hsc) ?_ ?_ rfl ⟨rfl, rfl⟩⟩
          · have ht1 : ¬ (m < 0) := by omega
            have ht2 : ¬ ((by_ : Int) * m > 2 ^ 48) := by rw [Int.mul_comm]; omega
            have ht3 : ¬ (n < 0) := by omega
            have ht4 : ¬ (n > m) := by omega
            simp only [execOp, ho, f1, f2, Instr.makeSlice, Sem.run_bind, run_und hu, Result.andThen_ok, asInt, asIntOf, Sem.run_pure, hi1, w1, w2, hi2]
            rw [if_neg (by simp [ht1, ht3]; omega)]
            simp only [Sem.run_bind, run_askRoom, Result.andThen_ok, run_sizeOf' h2]
            by_cases h0 : m.toNat * z.length = 0
            · simp [newRow, C, h0]
            · simp only [if_neg h0, Sem.run_bind, run_zero' h1, Sem.run_pure, Result.andThen_ok]
              simp only [C, if_neg h0]
              simp [newRow]
          · by_cases hm0 : m = 0
            · subst hm0
              have : n = 0 := by omega
              subst this
              exact .sl0
            · simp only [if_neg hm0]
              refine VR.sl (L := ⟨w.heap.size, 0, C.size, z.length⟩) (o := 0) (upd_same _ _ _) hnm (by simp) (fun _ => ?_) (.inl (by simp))
              simp only [Nat.zero_add, hCs]; exact Nat.le_refl _
          · intro i hi
            have : C[i]? = C.toList[i]? := by simp
            rw [this, hC]
            rw [hlenn] at hi
            obtain ⟨k, hk⟩ : ∃ k, m.toNat = n.toNat + k := ⟨m.toNat - n.toNat, by omega⟩
            rw [hk, ← List.replicate_append_replicate, List.flatten_append, List.getElem?_append_left (by rw [hlenn]; exact hi)]
          · rw [hlenn, hCs]; exact Nat.mul_le_mul_right _ hnm
        · cases ha
      · cases ha
    · cases hc
  · cases hc


/- ---- slicing ---- -/
theorem bound_run {w : World} {v : Value} {top k : Nat} {code : BoundsCode} (h : bound (some v) 0 top = some k) : (Instr.sliceBound v top code).run P w = .ok k w ∧ k ≤ top := by
  unfold bound at h
  split at h
  · next e => cases e
  · next kk i e =>
    cases e
    split at h
    · next hi =>
      cases h
      exact ⟨by simp [Instr.sliceBound, asIntOf, hi], by omega⟩
    · cases h
  · cases h
theorem bound_d {v : Value} {d d' top : Nat} : bound (some v) d top = bound (some v) d' top := by
  cases v <;> rfl
theorem bound_flat {v : Value} {d top k : Nat} (h : bound (some v) d top = some k) : flat v = true := by
  unfold bound at h
  split at h
  · next e => cases e
  · next kk i e => cases e; rfl
  · cases h

theorem sliceBounds_run [Rho] {w : World} {isS : Bool} {len cap h k : Nat} {lo hi : Option Value} (hlc : len ≤ cap) (hh : bound hi len len = some h) (hk : bound lo 0 h = some k) :
    (Instr.sliceBounds isS len cap lo hi none).run P w = .ok (k, h, cap) w ∧ k ≤ h ∧ h ≤ len := by
  have hb : ∀ (v : Value) (top top' k : Nat) (code : BoundsCode), top ≤ top' → bound (some v) 0 top = some k → (Instr.sliceBound v top' code).run P w = .ok k w := by
    intro v top top' k code hle hb
    unfold bound at hb
    split at hb
    · next e => cases e
    · next kk i e =>
      cases e
      split at hb
      · next hi =>
        cases hb
        have : 0 ≤ i ∧ i ≤ (top' : Int) := by omega
        simp [Instr.sliceBound, asIntOf, this]
      · cases hb
    · cases hb
  cases hi with
  | none =>
    simp only [bound] at hh; cases hh
    cases lo with
    | none => simp only [bound] at hk; cases hk; exact ⟨by simp [Instr.sliceBounds], by omega, Nat.le_refl _⟩
    | some v => exact ⟨by simp [Instr.sliceBounds, hb v len len k .sliceB (Nat.le_refl _) hk], (bound_run (P := P) (w := w) (code := .index) hk).2, Nat.le_refl _⟩
  | some u =>
    have hh0 : bound (some u) 0 len = some h := by rw [bound_d (d' := len)]; exact hh
    have h1 := hb u len cap h (if isS = true then .sliceAcap else .sliceAlen) hlc hh0
    have h2 := (bound_run (P := P) (w := w) (code := .index) hh0).2
    cases lo with
    | none => simp only [bound] at hk; cases hk; exact ⟨by simp [Instr.sliceBounds, h1], by omega, h2⟩
    | some v => exact ⟨by simp [Instr.sliceBounds, h1, hb v h h k .sliceB (Nat.le_refl _) hk], (bound_run (P := P) (w := w) (code := .index) hk).2, h2⟩

theorem opt_eq [Rho] {t : Tmps} {η : Operand → Value} {ρ : Ren} (hx : ∀ x, okX x = true → VR ρ (ev t x) (η x)) {o : Option Operand} (ho : okO o = true) {d top k : Nat} (h : bound (o.map (ev t)) d top = some k) : o.map η = o.map (ev t) := by
  cases o with
  | none => rfl
  | some x =>
    simp only [Option.map_some] at h ⊢
    rw [flat_eq (bound_flat h) (hx x ho)]

theorem ok_slice [Rho] {ty : TypeId} {x : Operand} {lo hi mx : Option Operand} {a : AOp} (hc : compOp P (.slice ty x lo hi mx) = some a) : OpOk P (.slice ty x lo hi mx) a := by
  obtain ⟨hx1, hc⟩ := chk_some hc
  simp only [Bool.and_eq_true] at hx1
  unfold compSlice at hc
  split at hc
  · next e hu =>
    split at hc
    · next s hs' =>
      cases hc
      intro o σ t η ρ w v σ' ho hs hx ha
      simp only [aop] at ha
      split at ha
      · next r hr =>
        cases ha
        unfold sliceOp at hr
        split at hr
        · next a l f e1 =>
          have hv := hx x hx1.1.1.1
          rw [e1] at hv
          split at hr
          · -- nothing, and no room
            next kk hmx =>
            split at hr
            · next h' k' hh hk =>
              split at hr
              · next hsome =>
                cases hr
                have q1 := opt_eq hx hx1.1.2 hh
                have q2 := opt_eq hx hx1.1.1.2 hk
                have q3 : mx.map η = some (.int kk 0) := by
                  cases mx with
                  | none => cases hmx
                  | some m =>
                    simp only [Option.map_some, Option.some.injEq] at hmx ⊢
                    have := hx m hx1.2
                    rw [hmx] at this
                    exact int_eq this
                -- h' = k' = 0
                have hhi : ∃ u, hi.map (ev t) = some u := by
                  cases hi with
                  | none => simp at hsome
                  | some u => exact ⟨_, rfl⟩
                obtain ⟨u, hu'⟩ := hhi
                rw [hu'] at hh q1
                have hh1 : bound (some u) 0 0 = some h' := by rw [bound_d (d' := l)]; exact hh
                have b1 := bound_run (P := P) (w := w) (code := .slice3B) hh1
                have hh0 : h' = 0 := by omega
                subst hh0
                have key : ∃ a' l' c', η x = .slice a' l' c' ∧ VR ρ (.slice a 0 0) (.slice a' 0 0) := by
                  rcases hv.sl_inv with ⟨rfl, _, _, h⟩ | ⟨_, _, rfl, _, _, h⟩ | ⟨_, _, _, _, _, rfl, _, _, _, _, _, h⟩
                  · exact ⟨_, _, _, h, .flat rfl⟩
                  · exact ⟨_, _, _, h, .sl0⟩
                  · exact ⟨_, _, _, h, .sl0⟩
                obtain ⟨a', l', c', f1, f2⟩ := key
                refine done_pure hs (u := .slice a' 0 0) ?_ f2
                have b3 : ∀ code, (Instr.sliceBound (.int kk 0) c' code).run P w = .ok 0 w := fun code => by simp [Instr.sliceBound, asIntOf]
                cases hlo : lo.map (ev t) with
                | none =>
                  rw [hlo] at hk q2
                  simp [execOp, ho, Instr.sliceAt, Instr.slice, run_und hu, f1, q1, q2, q3, Instr.sliceBounds, b1.1, b3, run_sizeOf' hs']
                | some v =>
                  rw [hlo] at hk q2
                  have b2 := bound_run (P := P) (w := w) (code := .slice3C) hk
                  have hk0 : k' = 0 := by omega
                  subst hk0
                  simp [execOp, ho, Instr.sliceAt, Instr.slice, run_und hu, f1, q1, q2, q3, Instr.sliceBounds, b1.1, b2.1, b3, run_sizeOf' hs']
              · cases hr
            · cases hr
          · cases hr
          · -- without a third bound
            next hmx =>
            have q3 : mx.map η = none := by cases mx with | none => rfl | some m => cases hmx
            split at hr
            · cases hr
            · next h hh =>
              split at hr
              · cases hr
              · next k hk =>
                have q1 := opt_eq hx hx1.1.2 hh
                have q2 := opt_eq hx hx1.1.1.2 hk
                rcases hv.sl_inv with ⟨rfl, rfl, rfl, hη⟩ | ⟨a₀, a', rfl, rfl, rfl, hη⟩ | ⟨b, off, c, L, a', rfl, hL, hlc, hf, hb, ha', hη⟩
                · cases hr
                  obtain ⟨r1, r2, r3⟩ := sliceBounds_run (P := P) (w := w) (isS := true) (Nat.le_refl 0) hh hk
                  have : h = 0 := by omega
                  subst this
                  have : k = 0 := by omega
                  subst this
                  refine done_pure hs (u := .slice none 0 0) ?_ (.flat rfl)
                  simp [execOp, ho, Instr.sliceAt, Instr.slice, run_und hu, hη, q1, q2, q3, r1, run_sizeOf' hs']
                · obtain ⟨b₀, off₀, sp₀⟩ := a₀
                  cases hr
                  obtain ⟨r1, r2, r3⟩ := sliceBounds_run (P := P) (w := w) (isS := true) (Nat.le_refl 0) hh hk
                  have : h = 0 := by omega
                  subst this
                  have : k = 0 := by omega
                  subst this
                  refine done_pure hs (u := .slice (some a') 0 0) ?_ .sl0
                  simp [execOp, ho, Instr.sliceAt, Instr.slice, run_und hu, hη, q1, q2, q3, r1, run_sizeOf' hs']
                · cases hr
                  obtain ⟨r1, r2, r3⟩ := sliceBounds_run (P := P) (w := w) (isS := true) hlc hh hk
                  refine done_pure hs (u := .slice (if c = k then some a' else (some a').map (·.add (k * s))) (h - k) (c - k)) ?_ ?_
                  · simp [execOp, ho, Instr.sliceAt, Instr.slice, run_und hu, hη, q1, q2, q3, r1, run_sizeOf' hs']
                  · have hnew : (if Nat.beq f 1 = true then (match σ.t.get b with | some (.row _ _ es _ _ _) => if Nat.beq es s then 1 else 2 | _ => 2) else f) ≠ 0 := by
                      split
                      · split
                        · split <;> simp
                        · simp
                      · exact hf
                    have hone : (if Nat.beq f 1 = true then (match σ.t.get b with | some (.row _ _ es _ _ _) => if Nat.beq es s then 1 else 2 | _ => 2) else f) = 1 → off + k * s + (c - k) * L.es ≤ L.z := by
                      intro h1
                      split at h1
                      · next hf1 =>
                        have hf1 := Nat.eq_of_beq_eq_true hf1
                        split at h1
                        · next cs len es top rw fam hg =>
                          split at h1
                          · next hes =>
                            have hes := Nat.eq_of_beq_eq_true hes
                            have := (hs.row _ _ _ _ _ _ _ _ hL hg).1
                            have hz := hb hf1
                            rw [this, hes] at hz
                            rw [this, hes, Nat.add_assoc, ← Nat.add_mul]
                            have : k + (c - k) = c := by omega
                            rw [this]; exact hz
                          · cases h1
                        · cases h1
                      · next hf1 => subst h1; simp at hf1
                    by_cases hck : c = k
                    · rw [if_pos hck]
                      exact VR.sl (L := L) hL (by omega) hnew hone (.inr (by omega))
                    · rw [if_neg hck]
                      have hc0 : c ≠ 0 := by omega
                      obtain rfl := ha'.resolve_right hc0
                      simp only [Option.map_some, add_none]
                      exact VR.sl (L := L) hL (by omega) hnew hone (.inl (by rw [Nat.add_assoc]))
        · cases hr
      · cases ha
    · cases hc
  · next hu =>
    obtain ⟨hm, hc⟩ := chk_some hc; cases hc
    obtain rfl : mx = none := by cases mx with | none => rfl | some _ => cases hm
    intro o σ t η ρ w v σ' ho hs hx ha
    simp only [aop] at ha
    split at ha
    · next s e1 =>
      have hv := hx x hx1.1.1.1
      rw [e1] at hv
      split at ha
      · next h hh =>
        split at ha
        · next k hk =>
          cases ha
          have q1 := opt_eq hx hx1.1.2 hh
          have q2 := opt_eq hx hx1.1.1.2 hk
          obtain ⟨r1, r2, r3⟩ := sliceBounds_run (P := P) (w := w) (isS := false) (Nat.le_refl s.size) hh hk
          exact done_pure hs (u := .string (s.extract k h)) (by simp [execOp, ho, Instr.sliceAt, Instr.slice, run_und hu, str_eq hv, q1, q2, r1]) (.flat rfl)
        · cases ha
      · cases ha
    · cases ha
  · cases hc
end
end Go.Hai
