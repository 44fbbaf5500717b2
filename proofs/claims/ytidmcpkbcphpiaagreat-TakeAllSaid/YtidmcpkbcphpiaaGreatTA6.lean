/-
  The function TakeAll of the package reevelaw17 returns true for every state, whatever the world it is called in, and its argument is as it was; it needs no condition.
-/
import Derived.Test.YtidmcpkbcphpiaaGreatTA5
import Derived.ProofKit
import Derived.Test.YtidmcpkbcphpiaaGreatChecked
import Derived.Deep.Slices
import Derived.Carry
import Derived.WideKeyArgs
import Derived.Test.YtidmcpkbcphpiaaGreatProg
import Derived.Test.YtidmcpkbcphpiaaGreatRows
namespace Go.Proofs.YtidmcpkbcphpiaaGreat
open Go Go.Hai

def allI (n : Nat) : List Int := (List.range n).map (fun i : Nat => (i : Int))
theorem allI_succ (n : Nat) : allI (n + 1) = allI n ++ [(n : Int)] := by simp [allI, List.range_succ]
theorem allI_length (n : Nat) : (allI n).length = n := by simp [allI]
def bare (S : StD) : StD := { S with sl := S.sl.map fun _ => noneS, th := S.th.mapIdx fun i x => if isRootB S i = true then x else zeroT }
def Clean (S : StD) : Prop := ∀ (i : Nat) (x : SlotD), S.sl[i]? = some x → capNone x = true → x = noneS
theorem capNone_eq {x : SlotD} (h : capNone x = true) (hu : x.up = -1) : x = noneS := by
  obtain ⟨a, b, c, d, e⟩ := x
  simp only [capNone, eq4, Bool.and_eq_true, beq_iff_eq] at h
  obtain ⟨rfl, rfl, rfl, rfl⟩ := h
  simp only at hu
  rw [hu]; rfl
theorem clean_good {S : StD} (hg : goodB S = true) : Clean S := fun i x hx hc => by
  have hs := all_get (goodF hg).caps hx
  unfold slotB at hs
  rw [hc] at hs
  simp at hs
  exact capNone_eq hc hs.2
theorem clean_emp1 {S : StD} (h : Clean S) (i : Int) : Clean (emp1 S i).1 := by
  rcases emp1_cases S i with e | ⟨x, hx, hc, e⟩
  · rw [e]; exact h
  · rw [e]
    intro k y hy hcy
    simp only at hy
    rw [empS_get hx] at hy
    split at hy
    · cases hy; rfl
    · cases hz : S.sl[k]? with
      | none => rw [hz] at hy; cases hy
      | some z =>
        rw [hz] at hy
        simp only [Option.map_some, Option.some.injEq] at hy
        rw [← hy] at hcy ⊢
        rw [eUp_cap] at hcy
        rw [h k z hz hcy]
        have := (atI_to hx).2
        unfold eUp noneS
        rw [if_neg (by show ¬ (-1 : Int) = i; omega)]
theorem none_emp1 {S : StD} {k : Nat} (h : S.sl[k]? = some noneS) (i : Int) : (emp1 S i).1.sl[k]? = some noneS := by
  rcases emp1_cases S i with e | ⟨x, hx, hc, e⟩
  · rw [e]; exact h
  · rw [e]
    show (empS S i x.up).sl[k]? = _
    rw [empS_get hx]
    split
    · rfl
    · rw [h]
      have := (atI_to hx).2
      simp only [Option.map_some]
      unfold eUp noneS
      rw [if_neg (by show ¬ (-1 : Int) = i; omega)]
theorem emp1_at {S : StD} (h : Clean S) {k : Nat} (hk : k < S.sl.length) : (emp1 S (k : Int)).1.sl[k]? = some noneS := by
  have hx : S.sl[k]? = some S.sl[k] := List.getElem?_eq_getElem hk
  have ha : atI S.sl (k : Int) = some S.sl[k] := by unfold atI; rw [if_pos (by omega), Int.toNat_natCast]; exact hx
  generalize S.sl[k] = x at hx ha
  have e : emp1 S (k : Int) = if capNone x = true then (S, false) else (empS S (k : Int) x.up, true) := by unfold emp1; rw [ha]
  rw [e]
  cases hc : capNone x with
  | true => rw [if_pos rfl, hx, h k x hx hc]
  | false =>
    rw [if_neg (by simp)]
    show (empS S (k : Int) x.up).sl[k]? = _
    rw [empS_get ha, if_pos (Int.toNat_natCast k)]
theorem empL_all {S : StD} (h : Clean S) : ∀ n, n ≤ S.sl.length → Clean (empL S (allI n)).1 ∧ ∀ j, j < n → (empL S (allI n)).1.sl[j]? = some noneS := by
  intro n
  induction n with
  | zero => intro _; exact ⟨h, fun j hj => by omega⟩
  | succ n ih =>
    intro hn
    obtain ⟨h1, h2⟩ := ih (by omega)
    rw [allI_succ, empL_snoc]
    refine ⟨clean_emp1 h1 _, fun j hj => ?_⟩
    by_cases hjn : j < n
    · exact none_emp1 (h2 j hjn) _
    · have : j = n := by omega
      subst this
      exact emp1_at h1 (by rw [(empL_alike S _).sl]; omega)
/- all slots are empty -/
def NoSlot (S : StD) : Prop := ∀ (i : Nat) (x : SlotD), S.sl[i]? = some x → x = noneS
theorem noSlot_emp1 {S : StD} (h : NoSlot S) (i : Int) : emp1 S i = (S, false) := by
  rcases emp1_cases S i with e | ⟨x, hx, hc, e⟩
  · exact e
  · rw [h _ x (atI_to hx).1] at hc; cases hc
theorem noSlot_empR {S : StD} (h : NoSlot S) (base : Int) : ∀ k, empR S base k = (S, 0) := by
  intro k
  induction k with
  | zero => rfl
  | succ k ih => simp only [empR, ih, noSlot_emp1 h]; rfl
theorem noSlot_held {S : StD} (h : NoSlot S) (t : Int) : heldF S t = false := by
  unfold heldF
  rw [firstI_none fun j y hy => by rw [h j y hy]; rfl]
  rfl
theorem noSlot_lost {S : StD} (h : NoSlot S) (t : Nat) : lostF S t = match S.th[t]? with | none => (S, 0, false) | some x => if (decide (x.type = 0) || isRootB S t) = true then (S, 0, false) else (setT S t zeroT, 0, true) := by
  unfold lostF
  cases S.th[t]? with
  | none => rfl
  | some x =>
    simp only [stays, noSlot_held h, Bool.or_false, noSlot_empR h]
    split
    · rfl
    · split <;> rfl
structure Rest (S T : StD) : Prop where
  shp : Shp S T
  no : NoSlot T
  root : ∀ i, isRootB S i = true → T.th[i]? = S.th[i]?
  zero : ∀ (i : Nat) (x : ThingD), T.th[i]? = some x → x.type = 0 → x = zeroT
theorem isRootB_shp {S T : StD} (h : Shp S T) (i : Nat) : isRootB T i = isRootB S i := by unfold isRootB; rw [h.threads]
theorem rest_lost {S T : StD} (h : Rest S T) (t : Nat) : Rest S (lostF T t).1 ∧ (lostF T t).2.1 = 0 ∧ (∀ i, i ≠ t → (lostF T t).1.th[i]? = T.th[i]?) ∧ (isRootB S t = false → ∀ x, (lostF T t).1.th[t]? = some x → x = zeroT) ∧ ((∀ x, T.th[t]? = some x → isRootB S t = false → x.type = 0) → lostF T t = (T, 0, false)) := by
  rw [noSlot_lost h.no]
  cases hx : T.th[t]? with
  | none => exact ⟨h, rfl, fun i _ => rfl, fun _ x e => (by simp only at e; rw [hx] at e; cases e), fun _ => rfl⟩
  | some x =>
    simp only
    rw [isRootB_shp h.shp]
    cases h0 : decide (x.type = 0) with
    | true =>
      rw [Bool.true_or, if_pos rfl]
      exact ⟨h, rfl, fun i _ => rfl, fun _ y e => (by simp only at e; rw [hx] at e; cases e; exact h.zero t x hx (of_decide_eq_true h0)), fun _ => rfl⟩
    | false =>
      rw [Bool.false_or]
      cases hr : isRootB S t with
      | true =>
        rw [if_pos rfl]
        exact ⟨h, rfl, fun i _ => rfl, fun e => (by cases e), fun _ => rfl⟩
      | false =>
        rw [if_neg (by simp)]
        refine ⟨⟨h.shp.trans (setT_alike _ _ _), h.no, fun i hi => ?_, fun i y hy h0' => ?_⟩, rfl, fun i hi => ?_, fun _ y hy => ?_, fun hf => ?_⟩
        · rw [setT_th]
          split
          · next e => subst e; rw [hr] at hi; cases hi
          · exact h.root i hi
        · rw [setT_th] at hy
          split at hy
          · split at hy
            · cases hy; rfl
            · cases hy
          · exact h.zero i y hy h0'
        · simp only; rw [setT_th, if_neg (fun e => hi e.symm)]
        · simp only at hy
          rw [setT_th, if_pos rfl] at hy
          split at hy
          · cases hy; rfl
          · cases hy
        · exfalso
          have := hf x rfl rfl
          simp [this] at h0
theorem rest_sweep {S T : StD} (h : Rest S T) : ∀ k, Rest S (sweep T k).1 ∧ (sweep T k).2.1 = 0 ∧ (∀ i, k ≤ i → (sweep T k).1.th[i]? = T.th[i]?) ∧ ∀ i, i < k → isRootB S i = false → ∀ x, (sweep T k).1.th[i]? = some x → x = zeroT := by
  intro k
  induction k with
  | zero => exact ⟨h, rfl, fun i _ => rfl, fun i hi => by omega⟩
  | succ k ih =>
    obtain ⟨i1, i2, i3, i4⟩ := ih
    obtain ⟨l1, l2, l3, l4, _⟩ := rest_lost i1 k
    simp only [sweep]
    refine ⟨l1, by omega, fun i hi => ?_, fun i hi hr x hx => ?_⟩
    · rw [l3 i (by omega), i3 i (by omega)]
    · by_cases e : i = k
      · subst e; exact l4 hr x hx
      · rw [l3 i e] at hx; exact i4 i (by omega) hr x hx
theorem noSlot_sl {S T : StD} (h : Shp S T) (hn : NoSlot T) : T.sl = S.sl.map fun _ => noneS := by
  refine List.ext_getElem? fun i => ?_
  rw [List.getElem?_map]
  cases hx : T.sl[i]? with
  | none =>
    have : T.sl.length ≤ i := List.getElem?_eq_none_iff.1 hx
    rw [List.getElem?_eq_none (by rw [← h.sl]; exact this)]; rfl
  | some x =>
    have hl := (List.getElem?_eq_some_iff.1 hx).1
    rw [hn i x hx, List.getElem?_eq_getElem (by rw [← h.sl]; exact hl)]; rfl
theorem rest_bare {S T : StD} (h : Rest S T) (hz : ∀ i, isRootB S i = false → ∀ x, T.th[i]? = some x → x = zeroT) : T = bare S := by
  have e1 := noSlot_sl h.shp h.no
  have e2 : T.th = S.th.mapIdx fun i x => if isRootB S i = true then x else zeroT := by
    refine List.ext_getElem? fun i => ?_
    rw [List.getElem?_mapIdx]
    cases hr : isRootB S i with
    | true => rw [h.root i hr]; cases S.th[i]? <;> simp
    | false =>
      cases hx : T.th[i]? with
      | none =>
        have : T.th.length ≤ i := List.getElem?_eq_none_iff.1 hx
        rw [List.getElem?_eq_none (by rw [← h.shp.th]; exact this)]; rfl
      | some x =>
        have hl := (List.getElem?_eq_some_iff.1 hx).1
        rw [hz i hr x hx, List.getElem?_eq_getElem (by rw [← h.shp.th]; exact hl)]; simp
  obtain ⟨t1, t2, t3, t4, t5⟩ := T
  unfold bare
  have := h.shp.threads
  have := h.shp.slots
  have := h.shp.things
  simp_all
theorem rest_stay {S T : StD} (h : Rest S T) (hz : ∀ i, isRootB S i = false → ∀ x, T.th[i]? = some x → x = zeroT) : ∀ k, sweep T k = (T, 0, false) := by
  intro k
  induction k with
  | zero => rfl
  | succ k ih =>
    have := (rest_lost h k).2.2.2.2 (fun x hx hr => by rw [hz k hr x hx]; rfl)
    simp only [sweep, ih, this]
    rfl
theorem rest_sweeps {S T : StD} (h : Rest S T) (f : Nat) : sweeps (f + 1) T = (bare S, 0) := by
  obtain ⟨i1, i2, i3, i4⟩ := rest_sweep h T.th.length
  have hz : ∀ i, isRootB S i = false → ∀ x, (sweep T T.th.length).1.th[i]? = some x → x = zeroT := fun i hr x hx => by
    have hl := (List.getElem?_eq_some_iff.1 hx).1
    rw [(sweep_alike T T.th.length).th] at hl
    exact i4 i hl hr x hx
  have hb := rest_bare i1 hz
  rw [sweeps_step]
  split
  · cases f with
    | zero => simp only [sweeps]; rw [hb, i2]; rfl
    | succ f =>
      rw [sweeps_step, rest_stay i1 hz]
      simp only [Bool.false_eq_true, if_false]
      rw [hb, i2]; rfl
  · rw [hb, i2]
theorem all_rest {S : StD} (hg : goodB S = true) : Rest S (empL S (allI S.sl.length)).1 := by
  have hsh := empL_alike S (allI S.sl.length)
  refine ⟨hsh, fun i x hx => ?_, ?_, ?_⟩
  · have hl := (List.getElem?_eq_some_iff.1 hx).1
    have := (empL_all (clean_good hg) S.sl.length (Nat.le_refl _)).2 i (by rw [← hsh.sl]; exact hl)
    rw [this] at hx
    cases hx; rfl
  · have hr0 : ∀ i x, isRootB S i = true → S.th[i]? = some x → x.frm = 0 := fun i x hi hx => by
      have ht := allTo_true hx _ (List.getElem?_eq_some_iff.1 hx).1 (goodF hg).things
      unfold thingB at ht
      rw [hi] at ht
      simp only [Bool.true_and, Bool.and_eq_true, Bool.not_eq_true', Bool.not_eq_false'] at ht
      have := ht.1.2
      simp only [rootEq, eq13, Bool.and_eq_true, beq_iff_eq, Bool.not_not] at this
      exact this.2.2.2.2.2.1
    intro i hi
    refine empL_inv (P := fun T => T.th[i]? = S.th[i]?) (fun T j hT => ?_) _ S rfl
    rcases emp1_cases T j with e | ⟨x, hx, hc, e⟩
    · rw [e]; exact hT
    · rw [e]
      show (T.th.map (eFrm j))[i]? = _
      rw [List.getElem?_map, hT]
      cases hy : S.th[i]? with
      | none => rfl
      | some y =>
        have := hr0 i y hi hy
        have := (atI_to hx).2
        simp only [Option.map_some]
        unfold eFrm
        rw [if_neg (by omega)]
  · have h0 : ∀ (i : Nat) (x : ThingD), S.th[i]? = some x → x.type = 0 → x = zeroT := fun i x hx h0 => by
      have hth := thGood_of (goodF hg).things i x hx
      unfold thGood at hth
      simp only [Bool.and_eq_true] at hth
      rw [← thEq_eq hth.1]
      unfold thOwn
      rw [h0]
      rfl
    refine empL_inv (P := fun T => ∀ (i : Nat) (x : ThingD), T.th[i]? = some x → x.type = 0 → x = zeroT) (fun T j hT => ?_) _ S h0
    rcases emp1_cases T j with e | ⟨x, hx, hc, e⟩
    · rw [e]; exact hT
    · rw [e]
      intro i y hy h0
      replace hy : (T.th.map (eFrm j))[i]? = some y := hy
      rw [List.getElem?_map] at hy
      cases hz : T.th[i]? with
      | none => rw [hz] at hy; cases hy
      | some z =>
        rw [hz] at hy
        simp only [Option.map_some, Option.some.injEq] at hy
        rw [← hy, eFrm_type] at h0
        have := hT i z hz h0
        have := (atI_to hx).2
        rw [← hy, hT i z hz h0]
        unfold eFrm zeroT
        rw [if_neg (by show ¬ (0 : Int) = j + 1; omega)]
theorem takeAll_eq {S : StD} (hg : goodB S = true) : takeF S (allI S.sl.length) = (bare S, ne S) := by
  have hr := all_rest hg
  have hn := empL_ne S (allI S.sl.length)
  have hz : ne (empL S (allI S.sl.length)).1 = 0 := by
    unfold ne
    rw [List.countP_eq_zero.2 fun x hx => by obtain ⟨i, hi⟩ := List.mem_iff_getElem?.1 hx; rw [hr.no i x hi]; decide]
    rfl
  unfold takeF
  rw [if_pos hg, rest_sweeps hr]
  simp only
  rw [show (empL S (allI S.sl.length)).2 + 0 = ne S by omega]
end Go.Proofs.YtidmcpkbcphpiaaGreat
namespace Go.Proofs.YtidmcpkbcphpiaaGreat
open Go Go.Hai

def leqB (g h : List Bool) : Prop := g.length = h.length ∧ ∀ i : Nat, g[i]? = some true → h[i]? = some true
theorem leqB_refl (g : List Bool) : leqB g g := ⟨rfl, fun _ h => h⟩
theorem leqB_trans {f g h : List Bool} (a : leqB f g) (b : leqB g h) : leqB f h := ⟨a.1.trans b.1, fun i e => b.2 i (a.2 i e)⟩
theorem set_get (g : List Bool) (n i : Nat) : (g.set n true)[i]? = if n = i then (if i < g.length then some true else none) else g[i]? := by
  by_cases h : n = i
  · subst h; rw [if_pos rfl, List.getElem?_set_self']; by_cases hl : n < g.length <;> simp [hl]
  · rw [if_neg h, List.getElem?_set_ne h]
theorem mark_le {h : List Bool} {base : Int} : ∀ {m : Nat} {h' : List Bool}, markTo h base m = some h' → leqB h h' := by
  intro m
  induction m with
  | zero => intro h' e; simp only [markTo, Option.some.injEq] at e; subst e; exact leqB_refl _
  | succ m ih =>
    intro h' e
    simp only [markTo] at e
    split at e
    · cases e
    · next g hg =>
      split at e
      · cases e
      · split at e
        · simp only [Option.some.injEq] at e
          subst e
          refine leqB_trans (ih hg) ⟨by simp, fun i hi => ?_⟩
          rw [set_get]
          split
          · rw [if_pos (List.getElem?_eq_some_iff.1 hi).1]
          · exact hi
        · cases e
theorem mark_mono {g h : List Bool} (hl : leqB g h) {base : Int} : ∀ {m : Nat} {h' : List Bool}, markTo h base m = some h' → ∃ g', markTo g base m = some g' ∧ leqB g' h' := by
  intro m
  induction m with
  | zero => intro h' e; simp only [markTo, Option.some.injEq] at e; subst e; exact ⟨g, rfl, hl⟩
  | succ m ih =>
    intro h' e
    simp only [markTo] at e
    split at e
    · cases e
    · next h1 hh1 =>
      obtain ⟨g1, hg1, l1⟩ := ih hh1
      split at e
      · cases e
      · next hlt =>
        split at e
        · next hf =>
          simp only [Option.some.injEq] at e
          subst e
          have hgl : (base + m).toNat < g1.length := by rw [l1.1]; exact (List.getElem?_eq_some_iff.1 hf).1
          have hgf : g1[(base + m).toNat]? = some false := by
            rw [List.getElem?_eq_getElem hgl]
            cases hb : g1[(base + m).toNat] with
            | false => rfl
            | true =>
              have := l1.2 (base + m).toNat (by rw [List.getElem?_eq_getElem hgl, hb])
              rw [hf] at this; cases this
          refine ⟨g1.set (base + m).toNat true, ?_, by simp [l1.1], fun i hi => ?_⟩
          · simp only [markTo, hg1]
            rw [if_neg (by rw [l1.1]; exact hlt), hgf]
          · rw [set_get] at hi ⊢
            split at hi
            · next e => rw [if_pos e, ← l1.1]; exact hi
            · next e => rw [if_neg e]; exact l1.2 i hi
        · cases e
theorem capNone_noneS : capNone noneS = true := by decide
theorem bare_sl {S : StD} {i : Nat} {x : SlotD} (h : (bare S).sl[i]? = some x) : x = noneS := by
  unfold bare at h
  simp only [List.getElem?_map] at h
  cases hz : S.sl[i]? with
  | none => rw [hz] at h; cases h
  | some z => rw [hz] at h; simp at h; exact h.symm
theorem bare_th {S : StD} (i : Nat) : (bare S).th[i]? = (S.th[i]?).map fun x => if isRootB S i = true then x else zeroT := by
  unfold bare; simp only; rw [List.getElem?_mapIdx]
theorem bare_nodesTo {S : StD} : ∀ {k : Nat} {h : List Bool}, nodesTo S k = some h → ∃ g, nodesTo (bare S) k = some g ∧ leqB g h := by
  intro k
  induction k with
  | zero =>
    intro h e
    simp only [nodesTo, Option.some.injEq] at e
    refine ⟨_, rfl, ?_⟩
    rw [← e, show (bare S).sl.length = S.sl.length by simp [bare]]
    exact leqB_refl _
  | succ k ih =>
    intro h e
    simp only [nodesTo] at e
    split at e
    · cases e
    · next h1 hh1 =>
      obtain ⟨g1, hg1, l1⟩ := ih hh1
      simp only [nodesTo, hg1, bare_th]
      cases ht : S.th[k]? with
      | none =>
        rw [ht] at e
        simp only [Option.some.injEq] at e
        subst e
        exact ⟨g1, rfl, l1⟩
      | some t =>
        rw [ht] at e
        simp only [Option.map_some] at e ⊢
        cases hr : isRootB S k with
        | true =>
          rw [if_pos rfl]
          split at e
          · next h2 => rw [if_pos h2]; exact mark_mono l1 e
          · next h2 =>
            rw [if_neg h2]
            simp only [Option.some.injEq] at e
            subst e
            exact ⟨g1, rfl, l1⟩
        | false =>
          refine ⟨g1, by simp [zeroT], ?_⟩
          split at e
          · exact leqB_trans l1 (mark_le e)
          · simp only [Option.some.injEq] at e; subst e; exact l1
theorem slotB_none (T : StD) : slotB T noneS = true := by
  unfold slotB
  rw [capNone_noneS]
  simp [noneS, capGood, capNone, eq4]
theorem thGood_zero : thGood zeroT = true := by decide
theorem good_bare {S : StD} (hg : goodB S = true) : goodB (bare S) = true := by
  have G := goodF hg
  have hlen : (bare S).sl.length = S.sl.length := by simp [bare]
  have hlen2 : (bare S).th.length = S.th.length := by simp [bare]
  have hf : forestB (upL S) = true := by unfold goodB at hg; simp only [Bool.and_eq_true] at hg; exact hg.1.2
  have c1 : capsB (bare S) = true := by
    unfold capsB
    rw [List.all_eq_true]
    intro x hx
    obtain ⟨i, hi⟩ := List.mem_iff_getElem?.1 hx
    rw [bare_sl hi]
    exact slotB_none _
  have c2 : thingsB (bare S) = true := by
    unfold thingsB
    refine allTo_all _ fun i x hi hx => ?_
    rw [bare_th] at hx
    cases hz : S.th[i]? with
    | none => rw [hz] at hx; cases hx
    | some z =>
      rw [hz] at hx
      simp only [Option.map_some, Option.some.injEq] at hx
      have hB := allTo_true hz _ (List.getElem?_eq_some_iff.1 hz).1 G.things
      have hr' : isRootB (bare S) i = isRootB S i := rfl
      unfold thingB
      rw [hr']
      cases hr : isRootB S i with
      | true =>
        rw [hr, if_pos rfl] at hx
        subst hx
        unfold thingB at hB
        rw [hr] at hB
        simp only [Bool.true_and, Bool.not_true, Bool.false_and, Bool.and_eq_true, Bool.not_eq_true', Bool.not_false, and_true, Bool.not_not, Bool.not_eq_false'] at hB
        have hq : rootEq (bare S) i z = rootEq S i z := rfl
        have hr2 : rootEq S i z = true := hB.2
        have h0 : z.frm = 0 := by
          have := hr2
          simp only [rootEq, eq13, Bool.and_eq_true, beq_iff_eq] at this
          exact this.2.2.2.2.2.1
        rw [hB.1.1, frmBad_0 _ h0, hq, hr2]
        rfl
      | false =>
        rw [hr, if_neg (by simp)] at hx
        subst hx
        rw [thGood_zero, frmBad_0 _ (by rfl)]
        simp [zeroT]
  have c3 : nodesB (bare S) = true := by
    have hn := G.nodes
    unfold nodesB at hn ⊢
    rw [hlen2]
    split at hn
    · cases hn
    · next h hh =>
      obtain ⟨g, hg', _⟩ := bare_nodesTo hh
      rw [hg']
      simp only
      refine allTo_all _ fun i x hi hx => ?_
      unfold heldB
      rw [bare_sl hx, capNone_noneS, Bool.or_true]
  have c4 : ringB (bare S) = false := by
    unfold ringB
    rw [allTo_all _ fun i x hi hx => by rw [bare_sl hx]; rfl]
    rfl
  have hup : ∀ (i : Nat) (u : Int), (upL (bare S))[i]? = some u → u = -2 := fun i u hu => by
    unfold upL at hu
    rw [List.getElem?_map] at hu
    cases hz : (bare S).sl[i]? with
    | none => rw [hz] at hu; cases hu
    | some z => rw [hz, bare_sl hz] at hu; simp at hu; rw [← hu]; decide
  have c5 : forestB (upL (bare S)) = true := by
    unfold forestB at hf ⊢
    simp only [Bool.and_eq_true, decide_eq_true_eq] at hf ⊢
    rw [upL_length] at hf
    rw [upL_length, hlen]
    refine ⟨⟨hf.1.1, allTo_all _ fun i u hi hu => ?_⟩, allTo_all _ fun i u hi hu => ?_⟩
    · unfold linkB; rw [hup i u hu]; rfl
    · unfold chainB
      show cF _ ((upL (bare S)).length + 1 + 1) _ _ = true
      unfold cF
      split
      · next v hv => rw [if_pos (hup _ v (atI_to hv).1)]
      · rfl
  have c6 : allowedB (bare S) = true := by
    unfold allowedB
    refine allTo_all _ fun i x hi hx => ?_
    rw [bare_sl hx]
    unfold allowB
    cases (bare S).sl.length with
    | zero => rfl
    | succ n =>
      unfold aF
      rw [show atI (bare S).sl noneS.up = none by unfold atI; rw [if_neg (by decide)]]
  unfold goodB
  have g1 : goodGeo (bare S).threads (bare S).slots (bare S).things := G.geo
  have g2 : ((bare S).sl.length : Int) = (bare S).slots := by rw [hlen]; exact G.sl
  have g3 : ((bare S).th.length : Int) = (bare S).things := by rw [hlen2]; exact G.th
  rw [c1, c2, c3, c4, c5, c6]
  simp [g1, g2, g3]
end Go.Proofs.YtidmcpkbcphpiaaGreat
namespace Go.Hai
open Go

def eqBQ (neg : Bool) (x y : Value) (σ : AHeap) (K : Kt) : Prop := match x, y with | .bool a, .bool b => K (.bool (if neg then !(a == b) else a == b)) σ | _, _ => False
theorem eqBQ_b {neg a b : Bool} {σ : AHeap} {K : Kt} : eqBQ neg (.bool a) (.bool b) σ K = K (.bool (if neg then !(a == b) else a == b)) σ := rfl
theorem o_eqB {σ : AHeap} {t : Tmps} {K : Kt} {neg : Bool} {x y : Operand} : EndsO (aop σ t (.eqB neg x y)) K = eqBQ neg (ev t x) (ev t y) σ K := by
  simp only [aop, eqBQ]
  cases ev t x with
  | bool a => cases ev t y <;> simp [EndsO]
  | _ => rfl
end Go.Hai
namespace Go.Proofs.YtidmcpkbcphpiaaGreat
open Go Go.Hai
set_option maxRecDepth 20000
set_option linter.unusedSimpArgs false
set_option maxHeartbeats 8000000
attribute [local irreducible] Hai.Ends EndsR EndsO EndsD EndsX EndsE EndsK AHeap.grow AHeap.putR AHeap.putM okLow inN
def r0_reevelaw17_TakeAll : List AOper := [(.mk (some 1) none (.box 5 (.tmp 0))), (.mk (some 2) none (.mv (.const (.bool false))))]
def r1_reevelaw17_TakeAll : List AOper := [(.mk (some 11) none (.call 37 [])), (.mk (some 12) none (.un .not (.tmp 11)))]
def r2_reevelaw17_TakeAll : List AOper := [(.mk (some 2) none (.mv (.const (.bool false))))]
def k1_reevelaw17_TakeAll : ACode := (.cond (.tmp 12) (.seq (.reg r2_reevelaw17_TakeAll) .ret) .skip)
def r3_reevelaw17_TakeAll : List AOper := [(.mk (some 13) none (.fldA 3 (.tmp 1))), (.mk (some 14) none (.load false 1 (.tmp 13))), (.mk (some 15) none (.lenS (.tmp 14))), (.mk (some 16) none (.bin .gtr (.tmp 15) (.const (.int .i64 100)))), (.mk (some 17) none (.mv (.tmp 16))), (.mk (some 18) (some (17, false)) (.fldA 4 (.tmp 1))), (.mk (some 19) (some (17, false)) (.load false 1 (.tmp 18))), (.mk (some 20) (some (17, false)) (.lenS (.tmp 19))), (.mk (some 21) (some (17, false)) (.bin .gtr (.tmp 20) (.const (.int .i64 50)))), (.mk (some 22) none (.pick (.tmp 17) (.const (.bool true)) (.tmp 21))), (.mk (some 23) none (.mv (.tmp 22))), (.mk (some 24) (some (23, false)) (.load true 5 (.tmp 1))), (.mk (some 25) (some (23, false)) (.call 14 [(.tmp 24)])), (.mk (some 26) (some (23, false)) (.un .not (.tmp 25))), (.mk (some 27) none (.pick (.tmp 23) (.const (.bool true)) (.tmp 26)))]
def r4_reevelaw17_TakeAll : List AOper := [(.mk (some 2) none (.mv (.const (.bool true))))]
def k3_reevelaw17_TakeAll : ACode := (.cond (.tmp 27) (.seq (.reg r4_reevelaw17_TakeAll) .ret) .skip)
def r5_reevelaw17_TakeAll : List AOper := [(.mk (some 3) none (.mv (.const (.slice none 0 0))))]
def r6_reevelaw17_TakeAll : List AOper := [(.mk (some 4) none (.mv (.const (.int .i64 0))))]
def r7_reevelaw17_TakeAll : List AOper := [(.mk (some 5) none (.mv (.const (.int .i64 0))))]
def r8_reevelaw17_TakeAll : List AOper := [(.mk (some 28) none (.mv (.tmp 5))), (.mk (some 29) none (.fldA 3 (.tmp 1))), (.mk (some 30) none (.load false 1 (.tmp 29))), (.mk (some 31) none (.lenS (.tmp 30))), (.mk (some 32) none (.bin .lss (.tmp 28) (.tmp 31)))]
def k8_reevelaw17_TakeAll : ACode := (.cond (.tmp 32) .skip (.exit 0))
def r9_reevelaw17_TakeAll : List AOper := [(.mk (some 35) none (.mv (.tmp 3))), (.mk (some 36) none (.mv (.tmp 5))), (.mk (some 37) none (.buildSl [(.int .i64 0)] 1 1 [(0, (1, (.tmp 36)))])), (.mk (some 38) none (.app 1 8 (.tmp 35) (.tmp 37))), (.mk (some 3) none (.mv (.tmp 38)))]
def r10_reevelaw17_TakeAll : List AOper := [(.mk (some 39) none (.fldA 3 (.tmp 1))), (.mk (some 40) none (.load false 1 (.tmp 39))), (.mk (some 41) none (.mv (.tmp 5))), (.mk (some 42) none (.idxA 5 (.tmp 40) (.tmp 41))), (.mk (some 43) none (.fldA 0 (.tmp 42))), (.mk (some 44) none (.load true 4 (.tmp 43))), (.mk (some 45) none (.call 38 [(.tmp 44)])), (.mk (some 46) none (.un .not (.tmp 45)))]
def r11_reevelaw17_TakeAll : List AOper := [(.mk (some 47) none (.mv (.tmp 4))), (.mk (some 48) none (.bin .add (.tmp 47) (.const (.int .i64 1)))), (.mk (some 4) none (.mv (.tmp 48)))]
def k11_reevelaw17_TakeAll : ACode := (.cond (.tmp 46) (.reg r11_reevelaw17_TakeAll) .skip)
def k10_reevelaw17_TakeAll : ACode := (.seq (.reg r10_reevelaw17_TakeAll) k11_reevelaw17_TakeAll)
def r12_reevelaw17_TakeAll : List AOper := [(.mk (some 33) none (.mv (.tmp 5))), (.mk (some 34) none (.bin .add (.tmp 33) (.const (.int .i64 1)))), (.mk (some 5) none (.mv (.tmp 34)))]
def k12_reevelaw17_TakeAll : ACode := (.reg r12_reevelaw17_TakeAll)
def k9_reevelaw17_TakeAll : ACode := (.seq (.block 1 (.seq (.reg r9_reevelaw17_TakeAll) k10_reevelaw17_TakeAll)) k12_reevelaw17_TakeAll)
def b0_reevelaw17_TakeAll : ACode := (.seq (.seq (.reg r8_reevelaw17_TakeAll) k8_reevelaw17_TakeAll) k9_reevelaw17_TakeAll)
def k7_reevelaw17_TakeAll : ACode := (.block 0 (.loop b0_reevelaw17_TakeAll))
def r13_reevelaw17_TakeAll : List AOper := [(.mk (some 50) none (.load true 5 (.tmp 1))), (.mk (some 51) none (.mv (.tmp 3))), (.mk (some 52) none (.call 39 [(.tmp 50), (.tmp 51)])), (.mk (some 49) none (.mv (.tmp 52))), (.mk (some 53) none (.ext (.tmp 49) 0)), (.mk (some 54) none (.ext (.tmp 49) 1)), (.mk (some 6) none (.alloc [(.int .i64 0), (.int .i64 0), (.int .i64 0), (.slice none 0 0), (.slice none 0 0)] 5)), (.mk none none (.store 5 (.tmp 6) (.tmp 53))), (.mk (some 7) none (.mv (.tmp 54)))]
def r14_reevelaw17_TakeAll : List AOper := [(.mk (some 55) none (.mv (.tmp 7))), (.mk (some 56) none (.mv (.tmp 4))), (.mk (some 57) none (.bin .neq (.tmp 55) (.tmp 56))), (.mk (some 58) none (.mv (.tmp 57))), (.mk (some 59) (some (58, false)) (.fldA 4 (.tmp 6))), (.mk (some 60) (some (58, false)) (.load false 1 (.tmp 59))), (.mk (some 61) (some (58, false)) (.lenS (.tmp 60))), (.mk (some 62) (some (58, false)) (.fldA 4 (.tmp 1))), (.mk (some 63) (some (58, false)) (.load false 1 (.tmp 62))), (.mk (some 64) (some (58, false)) (.lenS (.tmp 63))), (.mk (some 65) (some (58, false)) (.bin .neq (.tmp 61) (.tmp 64))), (.mk (some 66) none (.pick (.tmp 58) (.const (.bool true)) (.tmp 65))), (.mk (some 67) none (.mv (.tmp 66))), (.mk (some 68) (some (67, false)) (.fldA 3 (.tmp 6))), (.mk (some 69) (some (67, false)) (.load false 1 (.tmp 68))), (.mk (some 70) (some (67, false)) (.lenS (.tmp 69))), (.mk (some 71) (some (67, false)) (.fldA 3 (.tmp 1))), (.mk (some 72) (some (67, false)) (.load false 1 (.tmp 71))), (.mk (some 73) (some (67, false)) (.lenS (.tmp 72))), (.mk (some 74) (some (67, false)) (.bin .neq (.tmp 70) (.tmp 73))), (.mk (some 75) none (.pick (.tmp 67) (.const (.bool true)) (.tmp 74)))]
def r15_reevelaw17_TakeAll : List AOper := [(.mk (some 2) none (.mv (.const (.bool false))))]
def k15_reevelaw17_TakeAll : ACode := (.cond (.tmp 75) (.seq (.reg r15_reevelaw17_TakeAll) .ret) .skip)
def r16_reevelaw17_TakeAll : List AOper := [(.mk (some 8) none (.mv (.const (.int .i64 0))))]
def r17_reevelaw17_TakeAll : List AOper := [(.mk (some 76) none (.mv (.tmp 8))), (.mk (some 77) none (.fldA 3 (.tmp 6))), (.mk (some 78) none (.load false 1 (.tmp 77))), (.mk (some 79) none (.lenS (.tmp 78))), (.mk (some 80) none (.bin .lss (.tmp 76) (.tmp 79)))]
def k18_reevelaw17_TakeAll : ACode := (.cond (.tmp 80) .skip (.exit 2))
def r18_reevelaw17_TakeAll : List AOper := [(.mk (some 83) none (.fldA 3 (.tmp 6))), (.mk (some 84) none (.load false 1 (.tmp 83))), (.mk (some 85) none (.mv (.tmp 8))), (.mk (some 86) none (.idxA 5 (.tmp 84) (.tmp 85))), (.mk (some 87) none (.load true 5 (.tmp 86))), (.mk (some 88) none (.build [(.int .i64 0), (.int .i64 0), (.int .i64 0), (.int .i64 0), (.int .i64 0)] [(4, (1, (.const (.int .i64 (-1)))))])), (.mk (some 89) none (.eqS true [(0, 0), (1, 0), (2, 0), (3, 0), (4, 0)] (.tmp 87) (.tmp 88)))]
def r19_reevelaw17_TakeAll : List AOper := [(.mk (some 2) none (.mv (.const (.bool false))))]
def k20_reevelaw17_TakeAll : ACode := (.cond (.tmp 89) (.seq (.reg r19_reevelaw17_TakeAll) .ret) .skip)
def r20_reevelaw17_TakeAll : List AOper := [(.mk (some 81) none (.mv (.tmp 8))), (.mk (some 82) none (.bin .add (.tmp 81) (.const (.int .i64 1)))), (.mk (some 8) none (.mv (.tmp 82)))]
def k21_reevelaw17_TakeAll : ACode := (.reg r20_reevelaw17_TakeAll)
def k19_reevelaw17_TakeAll : ACode := (.seq (.block 3 (.seq (.reg r18_reevelaw17_TakeAll) k20_reevelaw17_TakeAll)) k21_reevelaw17_TakeAll)
def b1_reevelaw17_TakeAll : ACode := (.seq (.seq (.reg r17_reevelaw17_TakeAll) k18_reevelaw17_TakeAll) k19_reevelaw17_TakeAll)
def k17_reevelaw17_TakeAll : ACode := (.block 2 (.loop b1_reevelaw17_TakeAll))
def r21_reevelaw17_TakeAll : List AOper := [(.mk (some 9) none (.mv (.const (.int .i64 0))))]
def r22_reevelaw17_TakeAll : List AOper := [(.mk (some 90) none (.mv (.tmp 9))), (.mk (some 91) none (.fldA 4 (.tmp 6))), (.mk (some 92) none (.load false 1 (.tmp 91))), (.mk (some 93) none (.lenS (.tmp 92))), (.mk (some 94) none (.bin .lss (.tmp 90) (.tmp 93)))]
def k24_reevelaw17_TakeAll : ACode := (.cond (.tmp 94) .skip (.exit 4))
def r23_reevelaw17_TakeAll : List AOper := [(.mk (some 97) none (.mv (.tmp 9))), (.mk (some 98) none (.bin .geq (.tmp 97) (.const (.int .i64 2)))), (.mk (some 99) none (.mv (.tmp 98))), (.mk (some 100) (some (99, true)) (.mv (.tmp 9))), (.mk (some 101) (some (99, true)) (.fldA 0 (.tmp 1))), (.mk (some 102) (some (99, true)) (.fldA 0 (.tmp 101))), (.mk (some 103) (some (99, true)) (.load false 1 (.tmp 102))), (.mk (some 104) (some (99, true)) (.bin .add (.const (.int .i64 2)) (.tmp 103))), (.mk (some 105) (some (99, true)) (.bin .lss (.tmp 100) (.tmp 104))), (.mk (some 106) none (.pick (.tmp 99) (.tmp 105) (.const (.bool false)))), (.mk (some 10) none (.mv (.tmp 106)))]
def r24_reevelaw17_TakeAll : List AOper := [(.mk (some 107) none (.fldA 4 (.tmp 6))), (.mk (some 108) none (.load false 1 (.tmp 107))), (.mk (some 109) none (.mv (.tmp 9))), (.mk (some 110) none (.idxA 13 (.tmp 108) (.tmp 109))), (.mk (some 111) none (.fldA 0 (.tmp 110))), (.mk (some 112) none (.load false 1 (.tmp 111))), (.mk (some 113) none (.bin .neq (.tmp 112) (.const (.int .i64 0)))), (.mk (some 114) none (.mv (.tmp 10))), (.mk (some 115) none (.eqB true (.tmp 113) (.tmp 114)))]
def r25_reevelaw17_TakeAll : List AOper := [(.mk (some 2) none (.mv (.const (.bool false))))]
def k27_reevelaw17_TakeAll : ACode := (.cond (.tmp 115) (.seq (.reg r25_reevelaw17_TakeAll) .ret) .skip)
def k26_reevelaw17_TakeAll : ACode := (.seq (.reg r24_reevelaw17_TakeAll) k27_reevelaw17_TakeAll)
def r26_reevelaw17_TakeAll : List AOper := [(.mk (some 95) none (.mv (.tmp 9))), (.mk (some 96) none (.bin .add (.tmp 95) (.const (.int .i64 1)))), (.mk (some 9) none (.mv (.tmp 96)))]
def k28_reevelaw17_TakeAll : ACode := (.reg r26_reevelaw17_TakeAll)
def k25_reevelaw17_TakeAll : ACode := (.seq (.block 5 (.seq (.reg r23_reevelaw17_TakeAll) k26_reevelaw17_TakeAll)) k28_reevelaw17_TakeAll)
def b2_reevelaw17_TakeAll : ACode := (.seq (.seq (.reg r22_reevelaw17_TakeAll) k24_reevelaw17_TakeAll) k25_reevelaw17_TakeAll)
def k23_reevelaw17_TakeAll : ACode := (.block 4 (.loop b2_reevelaw17_TakeAll))
def r27_reevelaw17_TakeAll : List AOper := [(.mk (some 116) none (.load true 5 (.tmp 6))), (.mk (some 117) none (.call 14 [(.tmp 116)])), (.mk (some 2) none (.mv (.tmp 117)))]
def k29_reevelaw17_TakeAll : ACode := (.seq (.reg r27_reevelaw17_TakeAll) .ret)
def k22_reevelaw17_TakeAll : ACode := (.seq (.seq (.reg r21_reevelaw17_TakeAll) k23_reevelaw17_TakeAll) k29_reevelaw17_TakeAll)
def k16_reevelaw17_TakeAll : ACode := (.seq (.seq (.reg r16_reevelaw17_TakeAll) k17_reevelaw17_TakeAll) k22_reevelaw17_TakeAll)
def k14_reevelaw17_TakeAll : ACode := (.seq (.seq (.reg r14_reevelaw17_TakeAll) k15_reevelaw17_TakeAll) k16_reevelaw17_TakeAll)
def k13_reevelaw17_TakeAll : ACode := (.seq (.reg r13_reevelaw17_TakeAll) k14_reevelaw17_TakeAll)
def k6_reevelaw17_TakeAll : ACode := (.seq (.seq (.reg r7_reevelaw17_TakeAll) k7_reevelaw17_TakeAll) k13_reevelaw17_TakeAll)
def k5_reevelaw17_TakeAll : ACode := (.seq (.reg r6_reevelaw17_TakeAll) k6_reevelaw17_TakeAll)
def k4_reevelaw17_TakeAll : ACode := (.seq (.reg r5_reevelaw17_TakeAll) k5_reevelaw17_TakeAll)
def k2_reevelaw17_TakeAll : ACode := (.seq (.seq (.reg r3_reevelaw17_TakeAll) k3_reevelaw17_TakeAll) k4_reevelaw17_TakeAll)
def k0_reevelaw17_TakeAll : ACode := (.seq (.seq (.reg r1_reevelaw17_TakeAll) k1_reevelaw17_TakeAll) k2_reevelaw17_TakeAll)
def c_reevelaw17_TakeAll : ACode := (.seq (.reg r0_reevelaw17_TakeAll) k0_reevelaw17_TakeAll)
theorem e_reevelaw17_TakeAll : ofProg Tryz.prog 5 = some ⟨118, [(.tmp 2)], c_reevelaw17_TakeAll⟩ := by kernel_rfl

def neTo (S : StD) (i : Nat) : Int := (((S.sl.take i).countP fun x => !(capNone x) : Nat) : Int)
theorem neTo_next {S : StD} {i : Nat} {x : SlotD} (hx : S.sl[i]? = some x) : neTo S (i + 1) = neTo S i + (if capNone x = true then 0 else 1) := by
  unfold neTo
  rw [List.take_add_one, hx, List.countP_append]
  cases h : capNone x <;> simp [h]
theorem neTo_le (S : StD) (i : Nat) : 0 ≤ neTo S i ∧ neTo S i ≤ S.sl.length := by
  unfold neTo
  have h1 := List.countP_le_length (p := fun x => !(capNone x)) (l := S.sl.take i)
  rw [List.length_take] at h1
  omega
theorem neTo_all (S : StD) : neTo S S.sl.length = ne S := by unfold neTo ne; rw [List.take_length]
theorem bare_type {S : StD} (hg : goodB S = true) {i : Nat} {x : ThingD} (hx : (bare S).th[i]? = some x) : x.type = if isRootB S i = true then 2 else 0 := by
  rw [bare_th] at hx
  cases hz : S.th[i]? with
  | none => rw [hz] at hx; cases hx
  | some z =>
    rw [hz] at hx
    simp only [Option.map_some, Option.some.injEq] at hx
    have hB := allTo_true hz _ (List.getElem?_eq_some_iff.1 hz).1 (goodF hg).things
    cases hr : isRootB S i with
    | true =>
      rw [hr, if_pos rfl] at hx
      subst hx
      unfold thingB at hB
      rw [hr] at hB
      simp only [Bool.true_and, Bool.not_true, Bool.false_and, Bool.and_eq_true, Bool.not_eq_true', Bool.not_false, and_true, Bool.not_not, Bool.not_eq_false'] at hB
      have hr2 : rootEq S i z = true := hB.2
      simp only [rootEq, eq13, Bool.and_eq_true, beq_iff_eq] at hr2
      rw [if_pos rfl]; exact hr2.1
    | false =>
      rw [hr, if_neg (by simp)] at hx
      subst hx; rfl
theorem TakeAll_ok (d : Nat) (σ : AHeap) (S : StD) (a1 : Option Addr) (f1 : Nat) (a2 : Option Addr) (f2 : Nat) (hd : σ.dead = []) (h1 : SlS σ a1 S.sl) (h2 : SlT σ a2 S.th)
    (hA : acall (ofProg Tryz.prog) 1000 (d + S.th.length + 9) 37 [] (σ.fresh.grow [(stL S a1 f1 a2 f2, 5)]) = some (.bool true, σ.fresh.grow [(stL S a1 f1 a2 f2, 5)])) :
    acall (ofProg Tryz.prog) 1000 (d + S.th.length + 10) 5 [stV S a1 f1 a2 f2] σ = some (.bool true, σ) := by
  refine acall_flat e_reevelaw17_TakeAll (by simp) rfl ?_
  have hgood := fun L => state_Good_ok (d + 1) (σ.fresh.grow L) S a1 f1 a2 f2 (by rw [grow_dead]; exact hd) (h1.fresh.grow L) (h2.fresh.grow L)
  rw [show d + 1 + S.th.length + 8 = d + S.th.length + 9 by omega] at hgood
  by_cases c1 : (100 : Int) < S.sl.length
  · simp (disch := omega) only [hA, c1, r0_reevelaw17_TakeAll, r1_reevelaw17_TakeAll, r2_reevelaw17_TakeAll, k1_reevelaw17_TakeAll, r3_reevelaw17_TakeAll, r4_reevelaw17_TakeAll, k3_reevelaw17_TakeAll, r5_reevelaw17_TakeAll, r6_reevelaw17_TakeAll, r7_reevelaw17_TakeAll, r8_reevelaw17_TakeAll, k8_reevelaw17_TakeAll, r9_reevelaw17_TakeAll, r10_reevelaw17_TakeAll, r11_reevelaw17_TakeAll, k11_reevelaw17_TakeAll, k10_reevelaw17_TakeAll, r12_reevelaw17_TakeAll, k12_reevelaw17_TakeAll, k9_reevelaw17_TakeAll, k7_reevelaw17_TakeAll, r13_reevelaw17_TakeAll, r14_reevelaw17_TakeAll, r15_reevelaw17_TakeAll, k15_reevelaw17_TakeAll, r16_reevelaw17_TakeAll, r17_reevelaw17_TakeAll, k18_reevelaw17_TakeAll, r18_reevelaw17_TakeAll, r19_reevelaw17_TakeAll, k20_reevelaw17_TakeAll, r20_reevelaw17_TakeAll, k21_reevelaw17_TakeAll, k19_reevelaw17_TakeAll, k17_reevelaw17_TakeAll, r21_reevelaw17_TakeAll, r22_reevelaw17_TakeAll, k24_reevelaw17_TakeAll, r23_reevelaw17_TakeAll, r24_reevelaw17_TakeAll, r25_reevelaw17_TakeAll, k27_reevelaw17_TakeAll, k26_reevelaw17_TakeAll, r26_reevelaw17_TakeAll, k28_reevelaw17_TakeAll, k25_reevelaw17_TakeAll, k23_reevelaw17_TakeAll, r27_reevelaw17_TakeAll, k29_reevelaw17_TakeAll, k22_reevelaw17_TakeAll, k16_reevelaw17_TakeAll, k14_reevelaw17_TakeAll, k13_reevelaw17_TakeAll, k6_reevelaw17_TakeAll, k5_reevelaw17_TakeAll, k4_reevelaw17_TakeAll, k2_reevelaw17_TakeAll, k0_reevelaw17_TakeAll, c_reevelaw17_TakeAll, Z0, Z1, Z2, Z3, Z4, Z5, Z6, Z7, Z8, Z9, Z10, resAll, Nat.reduceAdd, Nat.reduceEqDiff, Nat.reduceLeDiff, Nat.reduceMul, ↓reduceIte, reduceCtorEq, Nat.reduceBEq, aoper, Nat.reduceLT, Int.reduceEq, Int.reduceLT, Int.reduceLE]
  by_cases c2 : (50 : Int) < S.th.length
  · simp (disch := omega) only [hA, c1, c2, r0_reevelaw17_TakeAll, r1_reevelaw17_TakeAll, r2_reevelaw17_TakeAll, k1_reevelaw17_TakeAll, r3_reevelaw17_TakeAll, r4_reevelaw17_TakeAll, k3_reevelaw17_TakeAll, r5_reevelaw17_TakeAll, r6_reevelaw17_TakeAll, r7_reevelaw17_TakeAll, r8_reevelaw17_TakeAll, k8_reevelaw17_TakeAll, r9_reevelaw17_TakeAll, r10_reevelaw17_TakeAll, r11_reevelaw17_TakeAll, k11_reevelaw17_TakeAll, k10_reevelaw17_TakeAll, r12_reevelaw17_TakeAll, k12_reevelaw17_TakeAll, k9_reevelaw17_TakeAll, k7_reevelaw17_TakeAll, r13_reevelaw17_TakeAll, r14_reevelaw17_TakeAll, r15_reevelaw17_TakeAll, k15_reevelaw17_TakeAll, r16_reevelaw17_TakeAll, r17_reevelaw17_TakeAll, k18_reevelaw17_TakeAll, r18_reevelaw17_TakeAll, r19_reevelaw17_TakeAll, k20_reevelaw17_TakeAll, r20_reevelaw17_TakeAll, k21_reevelaw17_TakeAll, k19_reevelaw17_TakeAll, k17_reevelaw17_TakeAll, r21_reevelaw17_TakeAll, r22_reevelaw17_TakeAll, k24_reevelaw17_TakeAll, r23_reevelaw17_TakeAll, r24_reevelaw17_TakeAll, r25_reevelaw17_TakeAll, k27_reevelaw17_TakeAll, k26_reevelaw17_TakeAll, r26_reevelaw17_TakeAll, k28_reevelaw17_TakeAll, k25_reevelaw17_TakeAll, k23_reevelaw17_TakeAll, r27_reevelaw17_TakeAll, k29_reevelaw17_TakeAll, k22_reevelaw17_TakeAll, k16_reevelaw17_TakeAll, k14_reevelaw17_TakeAll, k13_reevelaw17_TakeAll, k6_reevelaw17_TakeAll, k5_reevelaw17_TakeAll, k4_reevelaw17_TakeAll, k2_reevelaw17_TakeAll, k0_reevelaw17_TakeAll, c_reevelaw17_TakeAll, Z0, Z1, Z2, Z3, Z4, Z5, Z6, Z7, Z8, Z9, Z10, resAll, Nat.reduceAdd, Nat.reduceEqDiff, Nat.reduceLeDiff, Nat.reduceMul, ↓reduceIte, reduceCtorEq, Nat.reduceBEq, aoper, Nat.reduceLT, Int.reduceEq, Int.reduceLT, Int.reduceLE]
  cases c3 : goodB S with
  | false => simp (disch := omega) only [hA, c1, c2, hgood, c3, r0_reevelaw17_TakeAll, r1_reevelaw17_TakeAll, r2_reevelaw17_TakeAll, k1_reevelaw17_TakeAll, r3_reevelaw17_TakeAll, r4_reevelaw17_TakeAll, k3_reevelaw17_TakeAll, r5_reevelaw17_TakeAll, r6_reevelaw17_TakeAll, r7_reevelaw17_TakeAll, r8_reevelaw17_TakeAll, k8_reevelaw17_TakeAll, r9_reevelaw17_TakeAll, r10_reevelaw17_TakeAll, r11_reevelaw17_TakeAll, k11_reevelaw17_TakeAll, k10_reevelaw17_TakeAll, r12_reevelaw17_TakeAll, k12_reevelaw17_TakeAll, k9_reevelaw17_TakeAll, k7_reevelaw17_TakeAll, r13_reevelaw17_TakeAll, r14_reevelaw17_TakeAll, r15_reevelaw17_TakeAll, k15_reevelaw17_TakeAll, r16_reevelaw17_TakeAll, r17_reevelaw17_TakeAll, k18_reevelaw17_TakeAll, r18_reevelaw17_TakeAll, r19_reevelaw17_TakeAll, k20_reevelaw17_TakeAll, r20_reevelaw17_TakeAll, k21_reevelaw17_TakeAll, k19_reevelaw17_TakeAll, k17_reevelaw17_TakeAll, r21_reevelaw17_TakeAll, r22_reevelaw17_TakeAll, k24_reevelaw17_TakeAll, r23_reevelaw17_TakeAll, r24_reevelaw17_TakeAll, r25_reevelaw17_TakeAll, k27_reevelaw17_TakeAll, k26_reevelaw17_TakeAll, r26_reevelaw17_TakeAll, k28_reevelaw17_TakeAll, k25_reevelaw17_TakeAll, k23_reevelaw17_TakeAll, r27_reevelaw17_TakeAll, k29_reevelaw17_TakeAll, k22_reevelaw17_TakeAll, k16_reevelaw17_TakeAll, k14_reevelaw17_TakeAll, k13_reevelaw17_TakeAll, k6_reevelaw17_TakeAll, k5_reevelaw17_TakeAll, k4_reevelaw17_TakeAll, k2_reevelaw17_TakeAll, k0_reevelaw17_TakeAll, c_reevelaw17_TakeAll, Z0, Z1, Z2, Z3, Z4, Z5, Z6, Z7, Z8, Z9, Z10, resAll, Nat.reduceAdd, Nat.reduceEqDiff, Nat.reduceLeDiff, Nat.reduceMul, ↓reduceIte, reduceCtorEq, Nat.reduceBEq, aoper, Nat.reduceLT, Int.reduceEq, Int.reduceLT, Int.reduceLE]
  | true =>
  obtain ⟨m1, m2, m3, m4⟩ := good_len c3
  obtain ⟨b1, rfl, hb1⟩ := h1.fresh.at (i := 0) m1
  obtain ⟨b2, rfl, hb2⟩ := h2.fresh.at (i := 0) m3
  have hfn : σ.fresh.n = σ.n := rfl
  have hfl : σ.fresh.low = σ.n := rfl
  simp (disch := omega) only [hA, c1, c2, hgood, c3, r0_reevelaw17_TakeAll, r1_reevelaw17_TakeAll, r2_reevelaw17_TakeAll, k1_reevelaw17_TakeAll, r3_reevelaw17_TakeAll, r4_reevelaw17_TakeAll, k3_reevelaw17_TakeAll, r5_reevelaw17_TakeAll, r6_reevelaw17_TakeAll, r7_reevelaw17_TakeAll, r8_reevelaw17_TakeAll, k8_reevelaw17_TakeAll, r9_reevelaw17_TakeAll, r10_reevelaw17_TakeAll, r11_reevelaw17_TakeAll, k11_reevelaw17_TakeAll, k10_reevelaw17_TakeAll, r12_reevelaw17_TakeAll, k12_reevelaw17_TakeAll, k9_reevelaw17_TakeAll, k7_reevelaw17_TakeAll, r13_reevelaw17_TakeAll, r14_reevelaw17_TakeAll, r15_reevelaw17_TakeAll, k15_reevelaw17_TakeAll, r16_reevelaw17_TakeAll, r17_reevelaw17_TakeAll, k18_reevelaw17_TakeAll, r18_reevelaw17_TakeAll, r19_reevelaw17_TakeAll, k20_reevelaw17_TakeAll, r20_reevelaw17_TakeAll, k21_reevelaw17_TakeAll, k19_reevelaw17_TakeAll, k17_reevelaw17_TakeAll, r21_reevelaw17_TakeAll, r22_reevelaw17_TakeAll, k24_reevelaw17_TakeAll, r23_reevelaw17_TakeAll, r24_reevelaw17_TakeAll, r25_reevelaw17_TakeAll, k27_reevelaw17_TakeAll, k26_reevelaw17_TakeAll, r26_reevelaw17_TakeAll, k28_reevelaw17_TakeAll, k25_reevelaw17_TakeAll, k23_reevelaw17_TakeAll, r27_reevelaw17_TakeAll, k29_reevelaw17_TakeAll, k22_reevelaw17_TakeAll, k16_reevelaw17_TakeAll, k14_reevelaw17_TakeAll, k13_reevelaw17_TakeAll, k6_reevelaw17_TakeAll, k5_reevelaw17_TakeAll, k4_reevelaw17_TakeAll, k2_reevelaw17_TakeAll, k0_reevelaw17_TakeAll, c_reevelaw17_TakeAll, Z0, Z1, Z2, Z3, Z4, Z5, Z6, Z7, Z8, Z9, Z10, resAll, Nat.reduceAdd, Nat.reduceEqDiff, Nat.reduceLeDiff, Nat.reduceMul, ↓reduceIte, reduceCtorEq, Nat.reduceBEq, aoper, Nat.reduceLT, Int.reduceEq, Int.reduceLT, Int.reduceLE]
  refine ends_loop (fun i t τ => tget t 1 = here σ.fresh.n 0 ∧ tget t 4 = i64 (neTo S i) ∧ tget t 5 = i64 i ∧ Keeps (σ.fresh.grow [(stL S (some ⟨b1, 0, none⟩) f1 (some ⟨b2, 0, none⟩) f2, 5)]) τ ∧ OutP (σ.n + 1) τ (tget t 3) (allI i)) S.sl.length m2 ⟨?_, ?_, ?_, Keeps.refl _, ?_⟩ ?_
  · simp (disch := omega) only [Int.natCast_zero, Int.ofNat_zero, r0_reevelaw17_TakeAll, r1_reevelaw17_TakeAll, r2_reevelaw17_TakeAll, k1_reevelaw17_TakeAll, r3_reevelaw17_TakeAll, r4_reevelaw17_TakeAll, k3_reevelaw17_TakeAll, r5_reevelaw17_TakeAll, r6_reevelaw17_TakeAll, r7_reevelaw17_TakeAll, r8_reevelaw17_TakeAll, k8_reevelaw17_TakeAll, r9_reevelaw17_TakeAll, r10_reevelaw17_TakeAll, r11_reevelaw17_TakeAll, k11_reevelaw17_TakeAll, k10_reevelaw17_TakeAll, r12_reevelaw17_TakeAll, k12_reevelaw17_TakeAll, k9_reevelaw17_TakeAll, k7_reevelaw17_TakeAll, r13_reevelaw17_TakeAll, r14_reevelaw17_TakeAll, r15_reevelaw17_TakeAll, k15_reevelaw17_TakeAll, r16_reevelaw17_TakeAll, r17_reevelaw17_TakeAll, k18_reevelaw17_TakeAll, r18_reevelaw17_TakeAll, r19_reevelaw17_TakeAll, k20_reevelaw17_TakeAll, r20_reevelaw17_TakeAll, k21_reevelaw17_TakeAll, k19_reevelaw17_TakeAll, k17_reevelaw17_TakeAll, r21_reevelaw17_TakeAll, r22_reevelaw17_TakeAll, k24_reevelaw17_TakeAll, r23_reevelaw17_TakeAll, r24_reevelaw17_TakeAll, r25_reevelaw17_TakeAll, k27_reevelaw17_TakeAll, k26_reevelaw17_TakeAll, r26_reevelaw17_TakeAll, k28_reevelaw17_TakeAll, k25_reevelaw17_TakeAll, k23_reevelaw17_TakeAll, r27_reevelaw17_TakeAll, k29_reevelaw17_TakeAll, k22_reevelaw17_TakeAll, k16_reevelaw17_TakeAll, k14_reevelaw17_TakeAll, k13_reevelaw17_TakeAll, k6_reevelaw17_TakeAll, k5_reevelaw17_TakeAll, k4_reevelaw17_TakeAll, k2_reevelaw17_TakeAll, k0_reevelaw17_TakeAll, c_reevelaw17_TakeAll, Z0, Z1, Z2, Z3, Z4, Z5, Z6, Z7, Z8, Z9, Z10, resAll, Nat.reduceAdd, Nat.reduceEqDiff, Nat.reduceLeDiff, Nat.reduceMul, ↓reduceIte, reduceCtorEq, Nat.reduceBEq, aoper, Nat.reduceLT, Int.reduceEq, Int.reduceLT, Int.reduceLE]
  · have h0 : neTo S 0 = 0 := rfl
    simp (disch := omega) only [h0, r0_reevelaw17_TakeAll, r1_reevelaw17_TakeAll, r2_reevelaw17_TakeAll, k1_reevelaw17_TakeAll, r3_reevelaw17_TakeAll, r4_reevelaw17_TakeAll, k3_reevelaw17_TakeAll, r5_reevelaw17_TakeAll, r6_reevelaw17_TakeAll, r7_reevelaw17_TakeAll, r8_reevelaw17_TakeAll, k8_reevelaw17_TakeAll, r9_reevelaw17_TakeAll, r10_reevelaw17_TakeAll, r11_reevelaw17_TakeAll, k11_reevelaw17_TakeAll, k10_reevelaw17_TakeAll, r12_reevelaw17_TakeAll, k12_reevelaw17_TakeAll, k9_reevelaw17_TakeAll, k7_reevelaw17_TakeAll, r13_reevelaw17_TakeAll, r14_reevelaw17_TakeAll, r15_reevelaw17_TakeAll, k15_reevelaw17_TakeAll, r16_reevelaw17_TakeAll, r17_reevelaw17_TakeAll, k18_reevelaw17_TakeAll, r18_reevelaw17_TakeAll, r19_reevelaw17_TakeAll, k20_reevelaw17_TakeAll, r20_reevelaw17_TakeAll, k21_reevelaw17_TakeAll, k19_reevelaw17_TakeAll, k17_reevelaw17_TakeAll, r21_reevelaw17_TakeAll, r22_reevelaw17_TakeAll, k24_reevelaw17_TakeAll, r23_reevelaw17_TakeAll, r24_reevelaw17_TakeAll, r25_reevelaw17_TakeAll, k27_reevelaw17_TakeAll, k26_reevelaw17_TakeAll, r26_reevelaw17_TakeAll, k28_reevelaw17_TakeAll, k25_reevelaw17_TakeAll, k23_reevelaw17_TakeAll, r27_reevelaw17_TakeAll, k29_reevelaw17_TakeAll, k22_reevelaw17_TakeAll, k16_reevelaw17_TakeAll, k14_reevelaw17_TakeAll, k13_reevelaw17_TakeAll, k6_reevelaw17_TakeAll, k5_reevelaw17_TakeAll, k4_reevelaw17_TakeAll, k2_reevelaw17_TakeAll, k0_reevelaw17_TakeAll, c_reevelaw17_TakeAll, Z0, Z1, Z2, Z3, Z4, Z5, Z6, Z7, Z8, Z9, Z10, resAll, Nat.reduceAdd, Nat.reduceEqDiff, Nat.reduceLeDiff, Nat.reduceMul, ↓reduceIte, reduceCtorEq, Nat.reduceBEq, aoper, Nat.reduceLT, Int.reduceEq, Int.reduceLT, Int.reduceLE]
  · simp (disch := omega) only [Int.natCast_zero, Int.ofNat_zero, r0_reevelaw17_TakeAll, r1_reevelaw17_TakeAll, r2_reevelaw17_TakeAll, k1_reevelaw17_TakeAll, r3_reevelaw17_TakeAll, r4_reevelaw17_TakeAll, k3_reevelaw17_TakeAll, r5_reevelaw17_TakeAll, r6_reevelaw17_TakeAll, r7_reevelaw17_TakeAll, r8_reevelaw17_TakeAll, k8_reevelaw17_TakeAll, r9_reevelaw17_TakeAll, r10_reevelaw17_TakeAll, r11_reevelaw17_TakeAll, k11_reevelaw17_TakeAll, k10_reevelaw17_TakeAll, r12_reevelaw17_TakeAll, k12_reevelaw17_TakeAll, k9_reevelaw17_TakeAll, k7_reevelaw17_TakeAll, r13_reevelaw17_TakeAll, r14_reevelaw17_TakeAll, r15_reevelaw17_TakeAll, k15_reevelaw17_TakeAll, r16_reevelaw17_TakeAll, r17_reevelaw17_TakeAll, k18_reevelaw17_TakeAll, r18_reevelaw17_TakeAll, r19_reevelaw17_TakeAll, k20_reevelaw17_TakeAll, r20_reevelaw17_TakeAll, k21_reevelaw17_TakeAll, k19_reevelaw17_TakeAll, k17_reevelaw17_TakeAll, r21_reevelaw17_TakeAll, r22_reevelaw17_TakeAll, k24_reevelaw17_TakeAll, r23_reevelaw17_TakeAll, r24_reevelaw17_TakeAll, r25_reevelaw17_TakeAll, k27_reevelaw17_TakeAll, k26_reevelaw17_TakeAll, r26_reevelaw17_TakeAll, k28_reevelaw17_TakeAll, k25_reevelaw17_TakeAll, k23_reevelaw17_TakeAll, r27_reevelaw17_TakeAll, k29_reevelaw17_TakeAll, k22_reevelaw17_TakeAll, k16_reevelaw17_TakeAll, k14_reevelaw17_TakeAll, k13_reevelaw17_TakeAll, k6_reevelaw17_TakeAll, k5_reevelaw17_TakeAll, k4_reevelaw17_TakeAll, k2_reevelaw17_TakeAll, k0_reevelaw17_TakeAll, c_reevelaw17_TakeAll, Z0, Z1, Z2, Z3, Z4, Z5, Z6, Z7, Z8, Z9, Z10, resAll, Nat.reduceAdd, Nat.reduceEqDiff, Nat.reduceLeDiff, Nat.reduceMul, ↓reduceIte, reduceCtorEq, Nat.reduceBEq, aoper, Nat.reduceLT, Int.reduceEq, Int.reduceLT, Int.reduceLE]
  · simp (disch := omega) only [r0_reevelaw17_TakeAll, r1_reevelaw17_TakeAll, r2_reevelaw17_TakeAll, k1_reevelaw17_TakeAll, r3_reevelaw17_TakeAll, r4_reevelaw17_TakeAll, k3_reevelaw17_TakeAll, r5_reevelaw17_TakeAll, r6_reevelaw17_TakeAll, r7_reevelaw17_TakeAll, r8_reevelaw17_TakeAll, k8_reevelaw17_TakeAll, r9_reevelaw17_TakeAll, r10_reevelaw17_TakeAll, r11_reevelaw17_TakeAll, k11_reevelaw17_TakeAll, k10_reevelaw17_TakeAll, r12_reevelaw17_TakeAll, k12_reevelaw17_TakeAll, k9_reevelaw17_TakeAll, k7_reevelaw17_TakeAll, r13_reevelaw17_TakeAll, r14_reevelaw17_TakeAll, r15_reevelaw17_TakeAll, k15_reevelaw17_TakeAll, r16_reevelaw17_TakeAll, r17_reevelaw17_TakeAll, k18_reevelaw17_TakeAll, r18_reevelaw17_TakeAll, r19_reevelaw17_TakeAll, k20_reevelaw17_TakeAll, r20_reevelaw17_TakeAll, k21_reevelaw17_TakeAll, k19_reevelaw17_TakeAll, k17_reevelaw17_TakeAll, r21_reevelaw17_TakeAll, r22_reevelaw17_TakeAll, k24_reevelaw17_TakeAll, r23_reevelaw17_TakeAll, r24_reevelaw17_TakeAll, r25_reevelaw17_TakeAll, k27_reevelaw17_TakeAll, k26_reevelaw17_TakeAll, r26_reevelaw17_TakeAll, k28_reevelaw17_TakeAll, k25_reevelaw17_TakeAll, k23_reevelaw17_TakeAll, r27_reevelaw17_TakeAll, k29_reevelaw17_TakeAll, k22_reevelaw17_TakeAll, k16_reevelaw17_TakeAll, k14_reevelaw17_TakeAll, k13_reevelaw17_TakeAll, k6_reevelaw17_TakeAll, k5_reevelaw17_TakeAll, k4_reevelaw17_TakeAll, k2_reevelaw17_TakeAll, k0_reevelaw17_TakeAll, c_reevelaw17_TakeAll, Z0, Z1, Z2, Z3, Z4, Z5, Z6, Z7, Z8, Z9, Z10, resAll, Nat.reduceAdd, Nat.reduceEqDiff, Nat.reduceLeDiff, Nat.reduceMul, ↓reduceIte, reduceCtorEq, Nat.reduceBEq, aoper, Nat.reduceLT, Int.reduceEq, Int.reduceLT, Int.reduceLE]
    exact OutP.nil _ _
  rintro i t τ hi ⟨t1, t4, t5, hk, hout⟩
  obtain ⟨vo, hvo⟩ : ∃ vo, tget t 3 = vo := ⟨_, rfl⟩
  rw [hvo] at hout
  rw [← grow_nil τ]
  have hnn : σ.n + 1 ≤ τ.n := by have := hk.n; rw [grow_n] at this; exact this
  have hl : τ.low = σ.n := by rw [hk.low, grow_low]; rfl
  have hlow : τ.low ≤ τ.n := by omega
  have hdead : τ.dead = [] := by rw [hk.dead, grow_dead]; exact hd
  have hbox := fun M o n => hk.own0 (r := stL S (some ⟨b1, 0, none⟩) f1 (some ⟨b2, 0, none⟩) f2) (e := 5) rfl M o n
  by_cases hlt : i < S.sl.length
  · have hx : S.sl[i]? = some S.sl[i] := List.getElem?_eq_getElem hlt
    generalize S.sl[i] = x at hx
    have hlt' : (i : Int) < (S.sl.length : Int) := by omega
    have hcast : ((i + 1 : Nat) : Int) = (i : Int) + 1 := by omega
    simp (disch := omega) only [t1, t4, t5, hvo, hbox, hlt', r0_reevelaw17_TakeAll, r1_reevelaw17_TakeAll, r2_reevelaw17_TakeAll, k1_reevelaw17_TakeAll, r3_reevelaw17_TakeAll, r4_reevelaw17_TakeAll, k3_reevelaw17_TakeAll, r5_reevelaw17_TakeAll, r6_reevelaw17_TakeAll, r7_reevelaw17_TakeAll, r8_reevelaw17_TakeAll, k8_reevelaw17_TakeAll, r9_reevelaw17_TakeAll, r10_reevelaw17_TakeAll, r11_reevelaw17_TakeAll, k11_reevelaw17_TakeAll, k10_reevelaw17_TakeAll, r12_reevelaw17_TakeAll, k12_reevelaw17_TakeAll, k9_reevelaw17_TakeAll, k7_reevelaw17_TakeAll, r13_reevelaw17_TakeAll, r14_reevelaw17_TakeAll, r15_reevelaw17_TakeAll, k15_reevelaw17_TakeAll, r16_reevelaw17_TakeAll, r17_reevelaw17_TakeAll, k18_reevelaw17_TakeAll, r18_reevelaw17_TakeAll, r19_reevelaw17_TakeAll, k20_reevelaw17_TakeAll, r20_reevelaw17_TakeAll, k21_reevelaw17_TakeAll, k19_reevelaw17_TakeAll, k17_reevelaw17_TakeAll, r21_reevelaw17_TakeAll, r22_reevelaw17_TakeAll, k24_reevelaw17_TakeAll, r23_reevelaw17_TakeAll, r24_reevelaw17_TakeAll, r25_reevelaw17_TakeAll, k27_reevelaw17_TakeAll, k26_reevelaw17_TakeAll, r26_reevelaw17_TakeAll, k28_reevelaw17_TakeAll, k25_reevelaw17_TakeAll, k23_reevelaw17_TakeAll, r27_reevelaw17_TakeAll, k29_reevelaw17_TakeAll, k22_reevelaw17_TakeAll, k16_reevelaw17_TakeAll, k14_reevelaw17_TakeAll, k13_reevelaw17_TakeAll, k6_reevelaw17_TakeAll, k5_reevelaw17_TakeAll, k4_reevelaw17_TakeAll, k2_reevelaw17_TakeAll, k0_reevelaw17_TakeAll, b0_reevelaw17_TakeAll, Z0, Z1, Z2, Z3, Z4, Z5, Z6, Z7, Z8, Z9, Z10, resAll, Nat.reduceAdd, Nat.reduceEqDiff, Nat.reduceLeDiff, Nat.reduceMul, ↓reduceIte, reduceCtorEq, Nat.reduceBEq, aoper, Nat.reduceLT, Int.reduceEq, Int.reduceLT, Int.reduceLE]
    have hrow : (τ.grow [([i64 i], 1)]).loadN τ.n 0 1 = some [i64 i] := by rw [ld_0]; rfl
    have hal := allI_length i
    obtain ⟨v', τ', he, ho', hd', hl', hr', hrd⟩ := app_step (base := σ.n + 1) (fx := 1) (by rw [grow_dead]; exact hdead) (by rw [grow_low]; omega) (by rw [grow_n]; omega) (hout.keeps (Keeps.self _ _)) hrow (by omega)
    rw [← allI_succ] at ho'
    have hk' : Keeps (σ.fresh.grow [(stL S (some ⟨b1, 0, none⟩) f1 (some ⟨b2, 0, none⟩) f2, 5)]) τ' := (hk.grow _).app hrd (by rw [hd', grow_dead, hdead]) hl' fun c hc => hr' c (by rw [grow_n] at hc; exact hc)
    have hbox' := fun M o n => hk'.own0 (r := stL S (some ⟨b1, 0, none⟩) f1 (some ⟨b2, 0, none⟩) f2) (e := 5) rfl M o n
    have hx4 : ∀ M, (τ'.grow M).loadN b1 (i * 5) 4 = some (capL x) := fun M => hb1.ld0 hk'.cut hx M 4 (by omega)
    have hnx := neTo_next hx
    have hnl := neTo_le S i
    have hkg := hk'.grow []
    have hog := ho'.keeps (Keeps.self τ' [])
    rw [he, ← grow_nil τ']
    cases hc : capNone x with
    | true =>
      rw [hc, if_pos rfl, Int.add_zero] at hnx
      simp (disch := omega) only [t1, t4, t5, hlt', hlt, hcast, hbox', hx4, Int.toNat_natCast, cap_None_ok, hc, hnx, hkg, hog, r0_reevelaw17_TakeAll, r1_reevelaw17_TakeAll, r2_reevelaw17_TakeAll, k1_reevelaw17_TakeAll, r3_reevelaw17_TakeAll, r4_reevelaw17_TakeAll, k3_reevelaw17_TakeAll, r5_reevelaw17_TakeAll, r6_reevelaw17_TakeAll, r7_reevelaw17_TakeAll, r8_reevelaw17_TakeAll, k8_reevelaw17_TakeAll, r9_reevelaw17_TakeAll, r10_reevelaw17_TakeAll, r11_reevelaw17_TakeAll, k11_reevelaw17_TakeAll, k10_reevelaw17_TakeAll, r12_reevelaw17_TakeAll, k12_reevelaw17_TakeAll, k9_reevelaw17_TakeAll, k7_reevelaw17_TakeAll, r13_reevelaw17_TakeAll, r14_reevelaw17_TakeAll, r15_reevelaw17_TakeAll, k15_reevelaw17_TakeAll, r16_reevelaw17_TakeAll, r17_reevelaw17_TakeAll, k18_reevelaw17_TakeAll, r18_reevelaw17_TakeAll, r19_reevelaw17_TakeAll, k20_reevelaw17_TakeAll, r20_reevelaw17_TakeAll, k21_reevelaw17_TakeAll, k19_reevelaw17_TakeAll, k17_reevelaw17_TakeAll, r21_reevelaw17_TakeAll, r22_reevelaw17_TakeAll, k24_reevelaw17_TakeAll, r23_reevelaw17_TakeAll, r24_reevelaw17_TakeAll, r25_reevelaw17_TakeAll, k27_reevelaw17_TakeAll, k26_reevelaw17_TakeAll, r26_reevelaw17_TakeAll, k28_reevelaw17_TakeAll, k25_reevelaw17_TakeAll, k23_reevelaw17_TakeAll, r27_reevelaw17_TakeAll, k29_reevelaw17_TakeAll, k22_reevelaw17_TakeAll, k16_reevelaw17_TakeAll, k14_reevelaw17_TakeAll, k13_reevelaw17_TakeAll, k6_reevelaw17_TakeAll, k5_reevelaw17_TakeAll, k4_reevelaw17_TakeAll, k2_reevelaw17_TakeAll, k0_reevelaw17_TakeAll, b0_reevelaw17_TakeAll, Z0, Z1, Z2, Z3, Z4, Z5, Z6, Z7, Z8, Z9, Z10, resAll, Nat.reduceAdd, Nat.reduceEqDiff, Nat.reduceLeDiff, Nat.reduceMul, ↓reduceIte, reduceCtorEq, Nat.reduceBEq, aoper, Nat.reduceLT, Int.reduceEq, Int.reduceLT, Int.reduceLE]
    | false =>
      rw [hc, if_neg (by simp)] at hnx
      simp (disch := omega) only [t1, t4, t5, hlt', hlt, hcast, hbox', hx4, Int.toNat_natCast, cap_None_ok, hc, hnx, hkg, hog, r0_reevelaw17_TakeAll, r1_reevelaw17_TakeAll, r2_reevelaw17_TakeAll, k1_reevelaw17_TakeAll, r3_reevelaw17_TakeAll, r4_reevelaw17_TakeAll, k3_reevelaw17_TakeAll, r5_reevelaw17_TakeAll, r6_reevelaw17_TakeAll, r7_reevelaw17_TakeAll, r8_reevelaw17_TakeAll, k8_reevelaw17_TakeAll, r9_reevelaw17_TakeAll, r10_reevelaw17_TakeAll, r11_reevelaw17_TakeAll, k11_reevelaw17_TakeAll, k10_reevelaw17_TakeAll, r12_reevelaw17_TakeAll, k12_reevelaw17_TakeAll, k9_reevelaw17_TakeAll, k7_reevelaw17_TakeAll, r13_reevelaw17_TakeAll, r14_reevelaw17_TakeAll, r15_reevelaw17_TakeAll, k15_reevelaw17_TakeAll, r16_reevelaw17_TakeAll, r17_reevelaw17_TakeAll, k18_reevelaw17_TakeAll, r18_reevelaw17_TakeAll, r19_reevelaw17_TakeAll, k20_reevelaw17_TakeAll, r20_reevelaw17_TakeAll, k21_reevelaw17_TakeAll, k19_reevelaw17_TakeAll, k17_reevelaw17_TakeAll, r21_reevelaw17_TakeAll, r22_reevelaw17_TakeAll, k24_reevelaw17_TakeAll, r23_reevelaw17_TakeAll, r24_reevelaw17_TakeAll, r25_reevelaw17_TakeAll, k27_reevelaw17_TakeAll, k26_reevelaw17_TakeAll, r26_reevelaw17_TakeAll, k28_reevelaw17_TakeAll, k25_reevelaw17_TakeAll, k23_reevelaw17_TakeAll, r27_reevelaw17_TakeAll, k29_reevelaw17_TakeAll, k22_reevelaw17_TakeAll, k16_reevelaw17_TakeAll, k14_reevelaw17_TakeAll, k13_reevelaw17_TakeAll, k6_reevelaw17_TakeAll, k5_reevelaw17_TakeAll, k4_reevelaw17_TakeAll, k2_reevelaw17_TakeAll, k0_reevelaw17_TakeAll, b0_reevelaw17_TakeAll, Z0, Z1, Z2, Z3, Z4, Z5, Z6, Z7, Z8, Z9, Z10, resAll, Nat.reduceAdd, Nat.reduceEqDiff, Nat.reduceLeDiff, Nat.reduceMul, ↓reduceIte, reduceCtorEq, Nat.reduceBEq, aoper, Nat.reduceLT, Int.reduceEq, Int.reduceLT, Int.reduceLE]
  · have hlt' : ¬ (i : Int) < (S.sl.length : Int) := by omega
    have hil : i = S.sl.length := by omega
    subst hil
    obtain ⟨ao, fo, rfl, hso⟩ := hout.sl hdead
    have hal := allI_length S.sl.length
    obtain ⟨v, τ2, e2, b1', f1', b2', f2', rfl, s1, s2, k2, _, _⟩ := take_Empty_ok d (τ.grow []) S b1 f1 b2 f2 (allI S.sl.length) ao fo c3 (by rw [grow_dead]; exact hdead) (low_grow hlow _) ((hb1.keeps hk.cut).keeps (Keeps.self _ _)) ((hb2.keeps hk.cut).keeps (Keeps.self _ _)) (hso.grow _) (by omega)
    rw [← grow_nil τ2, takeAll_eq c3] at e2
    rw [takeAll_eq c3] at s1 s2
    replace s1 : SlAt slotL 5 τ2 b1' (bare S).sl := s1
    replace s2 : SlAt thingL 13 τ2 b2' (bare S).th := s2
    have hgb := good_bare c3
    have k02 := hk.trans k2.cut
    have hn2 : σ.n + 1 ≤ τ2.n := by have := k02.n; rw [grow_n] at this; exact this
    have w2 : τ2.low = σ.n := by rw [k02.low, grow_low]; rfl
    have lo2 : τ2.low ≤ τ2.n := by omega
    have hbox2 := fun M o n => k02.own0 (r := stL S (some ⟨b1, 0, none⟩) f1 (some ⟨b2, 0, none⟩) f2) (e := 5) rfl M o n
    have hlen1 : (bare S).sl.length = S.sl.length := by simp [bare]
    have hlen2 : (bare S).th.length = S.th.length := by simp [bare]
    have q1 : (((bare S).sl.length : Nat) : Int) = ((S.sl.length : Nat) : Int) := by omega
    have q2 : (((bare S).th.length : Nat) : Int) = ((S.th.length : Nat) : Int) := by omega
    have kT : Keeps τ2 (τ2.grow [(stL (bare S) (some ⟨b1', 0, none⟩) f1' (some ⟨b2', 0, none⟩) f2', 5)]) := Keeps.self _ _
    rw [neTo_all] at t4
    simp (disch := omega) only [t1, t4, t5, hvo, hbox, hlt', e2, sto_0 lo2, hbox2, eq_true q1, eq_true q2, r0_reevelaw17_TakeAll, r1_reevelaw17_TakeAll, r2_reevelaw17_TakeAll, k1_reevelaw17_TakeAll, r3_reevelaw17_TakeAll, r4_reevelaw17_TakeAll, k3_reevelaw17_TakeAll, r5_reevelaw17_TakeAll, r6_reevelaw17_TakeAll, r7_reevelaw17_TakeAll, r8_reevelaw17_TakeAll, k8_reevelaw17_TakeAll, r9_reevelaw17_TakeAll, r10_reevelaw17_TakeAll, r11_reevelaw17_TakeAll, k11_reevelaw17_TakeAll, k10_reevelaw17_TakeAll, r12_reevelaw17_TakeAll, k12_reevelaw17_TakeAll, k9_reevelaw17_TakeAll, k7_reevelaw17_TakeAll, r13_reevelaw17_TakeAll, r14_reevelaw17_TakeAll, r15_reevelaw17_TakeAll, k15_reevelaw17_TakeAll, r16_reevelaw17_TakeAll, r17_reevelaw17_TakeAll, k18_reevelaw17_TakeAll, r18_reevelaw17_TakeAll, r19_reevelaw17_TakeAll, k20_reevelaw17_TakeAll, r20_reevelaw17_TakeAll, k21_reevelaw17_TakeAll, k19_reevelaw17_TakeAll, k17_reevelaw17_TakeAll, r21_reevelaw17_TakeAll, r22_reevelaw17_TakeAll, k24_reevelaw17_TakeAll, r23_reevelaw17_TakeAll, r24_reevelaw17_TakeAll, r25_reevelaw17_TakeAll, k27_reevelaw17_TakeAll, k26_reevelaw17_TakeAll, r26_reevelaw17_TakeAll, k28_reevelaw17_TakeAll, k25_reevelaw17_TakeAll, k23_reevelaw17_TakeAll, r27_reevelaw17_TakeAll, k29_reevelaw17_TakeAll, k22_reevelaw17_TakeAll, k16_reevelaw17_TakeAll, k14_reevelaw17_TakeAll, k13_reevelaw17_TakeAll, k6_reevelaw17_TakeAll, k5_reevelaw17_TakeAll, k4_reevelaw17_TakeAll, k2_reevelaw17_TakeAll, k0_reevelaw17_TakeAll, b0_reevelaw17_TakeAll, Z0, Z1, Z2, Z3, Z4, Z5, Z6, Z7, Z8, Z9, Z10, resAll, Nat.reduceAdd, Nat.reduceEqDiff, Nat.reduceLeDiff, Nat.reduceMul, ↓reduceIte, reduceCtorEq, Nat.reduceBEq, aoper, Nat.reduceLT, Int.reduceEq, Int.reduceLT, Int.reduceLE]
    refine ends_loop (fun i t τ => tget t 1 = here σ.fresh.n 0 ∧ tget t 6 = here τ2.n 0 ∧ tget t 8 = i64 i ∧ Keeps (τ2.grow [(stL (bare S) (some ⟨b1', 0, none⟩) f1' (some ⟨b2', 0, none⟩) f2', 5)]) τ) S.sl.length m2 ⟨?_, ?_, ?_, Keeps.refl _⟩ ?_
    iterate 3 simp (disch := omega) only [t1, Int.natCast_zero, Int.ofNat_zero, r0_reevelaw17_TakeAll, r1_reevelaw17_TakeAll, r2_reevelaw17_TakeAll, k1_reevelaw17_TakeAll, r3_reevelaw17_TakeAll, r4_reevelaw17_TakeAll, k3_reevelaw17_TakeAll, r5_reevelaw17_TakeAll, r6_reevelaw17_TakeAll, r7_reevelaw17_TakeAll, r8_reevelaw17_TakeAll, k8_reevelaw17_TakeAll, r9_reevelaw17_TakeAll, r10_reevelaw17_TakeAll, r11_reevelaw17_TakeAll, k11_reevelaw17_TakeAll, k10_reevelaw17_TakeAll, r12_reevelaw17_TakeAll, k12_reevelaw17_TakeAll, k9_reevelaw17_TakeAll, k7_reevelaw17_TakeAll, r13_reevelaw17_TakeAll, r14_reevelaw17_TakeAll, r15_reevelaw17_TakeAll, k15_reevelaw17_TakeAll, r16_reevelaw17_TakeAll, r17_reevelaw17_TakeAll, k18_reevelaw17_TakeAll, r18_reevelaw17_TakeAll, r19_reevelaw17_TakeAll, k20_reevelaw17_TakeAll, r20_reevelaw17_TakeAll, k21_reevelaw17_TakeAll, k19_reevelaw17_TakeAll, k17_reevelaw17_TakeAll, r21_reevelaw17_TakeAll, r22_reevelaw17_TakeAll, k24_reevelaw17_TakeAll, r23_reevelaw17_TakeAll, r24_reevelaw17_TakeAll, r25_reevelaw17_TakeAll, k27_reevelaw17_TakeAll, k26_reevelaw17_TakeAll, r26_reevelaw17_TakeAll, k28_reevelaw17_TakeAll, k25_reevelaw17_TakeAll, k23_reevelaw17_TakeAll, r27_reevelaw17_TakeAll, k29_reevelaw17_TakeAll, k22_reevelaw17_TakeAll, k16_reevelaw17_TakeAll, k14_reevelaw17_TakeAll, k13_reevelaw17_TakeAll, k6_reevelaw17_TakeAll, k5_reevelaw17_TakeAll, k4_reevelaw17_TakeAll, k2_reevelaw17_TakeAll, k0_reevelaw17_TakeAll, Z0, Z1, Z2, Z3, Z4, Z5, Z6, Z7, Z8, Z9, Z10, resAll, Nat.reduceAdd, Nat.reduceEqDiff, Nat.reduceLeDiff, Nat.reduceMul, ↓reduceIte, reduceCtorEq, Nat.reduceBEq, aoper, Nat.reduceLT, Int.reduceEq, Int.reduceLT, Int.reduceLE]
    clear hlt hlt' hi e2 hbox hl hlow hdead hout hso t1 t4 t5 hvo hnn
    rintro i t τ' hi ⟨t1, t6, t8, hk⟩
    rw [← grow_nil τ']
    have hb6 := fun M o n => hk.own0 (r := stL (bare S) (some ⟨b1', 0, none⟩) f1' (some ⟨b2', 0, none⟩) f2') (e := 5) rfl M o n
    by_cases hlt : i < S.sl.length
    · have hx : (bare S).sl[i]? = some ((bare S).sl[i]'(by omega)) := List.getElem?_eq_getElem _
      have hxn := bare_sl hx
      rw [hxn] at hx
      have hl5 := fun M => s1.ld0 (kT.trans hk) hx M 5 (by omega)
      simp only [List.take_succ_cons, List.take_zero] at hl5
      have hlt' : (i : Int) < ((bare S).sl.length : Int) := by omega
      have hcast : ((i + 1 : Nat) : Int) = (i : Int) + 1 := by omega
      have he5 : eq5 noneS.type noneS.thing noneS.rights noneS.badge noneS.up 0 0 0 0 (-1) = true := by decide
      simp (disch := omega) only [t1, t6, t8, hb6, hlt', hlt, hcast, hl5, Int.toNat_natCast, eqSlot, he5, hk.grow, r0_reevelaw17_TakeAll, r1_reevelaw17_TakeAll, r2_reevelaw17_TakeAll, k1_reevelaw17_TakeAll, r3_reevelaw17_TakeAll, r4_reevelaw17_TakeAll, k3_reevelaw17_TakeAll, r5_reevelaw17_TakeAll, r6_reevelaw17_TakeAll, r7_reevelaw17_TakeAll, r8_reevelaw17_TakeAll, k8_reevelaw17_TakeAll, r9_reevelaw17_TakeAll, r10_reevelaw17_TakeAll, r11_reevelaw17_TakeAll, k11_reevelaw17_TakeAll, k10_reevelaw17_TakeAll, r12_reevelaw17_TakeAll, k12_reevelaw17_TakeAll, k9_reevelaw17_TakeAll, k7_reevelaw17_TakeAll, r13_reevelaw17_TakeAll, r14_reevelaw17_TakeAll, r15_reevelaw17_TakeAll, k15_reevelaw17_TakeAll, r16_reevelaw17_TakeAll, r17_reevelaw17_TakeAll, k18_reevelaw17_TakeAll, r18_reevelaw17_TakeAll, r19_reevelaw17_TakeAll, k20_reevelaw17_TakeAll, r20_reevelaw17_TakeAll, k21_reevelaw17_TakeAll, k19_reevelaw17_TakeAll, k17_reevelaw17_TakeAll, r21_reevelaw17_TakeAll, r22_reevelaw17_TakeAll, k24_reevelaw17_TakeAll, r23_reevelaw17_TakeAll, r24_reevelaw17_TakeAll, r25_reevelaw17_TakeAll, k27_reevelaw17_TakeAll, k26_reevelaw17_TakeAll, r26_reevelaw17_TakeAll, k28_reevelaw17_TakeAll, k25_reevelaw17_TakeAll, k23_reevelaw17_TakeAll, r27_reevelaw17_TakeAll, k29_reevelaw17_TakeAll, k22_reevelaw17_TakeAll, k16_reevelaw17_TakeAll, k14_reevelaw17_TakeAll, k13_reevelaw17_TakeAll, k6_reevelaw17_TakeAll, k5_reevelaw17_TakeAll, k4_reevelaw17_TakeAll, k2_reevelaw17_TakeAll, k0_reevelaw17_TakeAll, b1_reevelaw17_TakeAll, Z0, Z1, Z2, Z3, Z4, Z5, Z6, Z7, Z8, Z9, Z10, resAll, Nat.reduceAdd, Nat.reduceEqDiff, Nat.reduceLeDiff, Nat.reduceMul, ↓reduceIte, reduceCtorEq, Nat.reduceBEq, aoper, Nat.reduceLT, Int.reduceEq, Int.reduceLT, Int.reduceLE]
    · have hlt' : ¬ (i : Int) < ((bare S).sl.length : Int) := by omega
      simp (disch := omega) only [t1, t6, t8, hb6, hlt', r0_reevelaw17_TakeAll, r1_reevelaw17_TakeAll, r2_reevelaw17_TakeAll, k1_reevelaw17_TakeAll, r3_reevelaw17_TakeAll, r4_reevelaw17_TakeAll, k3_reevelaw17_TakeAll, r5_reevelaw17_TakeAll, r6_reevelaw17_TakeAll, r7_reevelaw17_TakeAll, r8_reevelaw17_TakeAll, k8_reevelaw17_TakeAll, r9_reevelaw17_TakeAll, r10_reevelaw17_TakeAll, r11_reevelaw17_TakeAll, k11_reevelaw17_TakeAll, k10_reevelaw17_TakeAll, r12_reevelaw17_TakeAll, k12_reevelaw17_TakeAll, k9_reevelaw17_TakeAll, k7_reevelaw17_TakeAll, r13_reevelaw17_TakeAll, r14_reevelaw17_TakeAll, r15_reevelaw17_TakeAll, k15_reevelaw17_TakeAll, r16_reevelaw17_TakeAll, r17_reevelaw17_TakeAll, k18_reevelaw17_TakeAll, r18_reevelaw17_TakeAll, r19_reevelaw17_TakeAll, k20_reevelaw17_TakeAll, r20_reevelaw17_TakeAll, k21_reevelaw17_TakeAll, k19_reevelaw17_TakeAll, k17_reevelaw17_TakeAll, r21_reevelaw17_TakeAll, r22_reevelaw17_TakeAll, k24_reevelaw17_TakeAll, r23_reevelaw17_TakeAll, r24_reevelaw17_TakeAll, r25_reevelaw17_TakeAll, k27_reevelaw17_TakeAll, k26_reevelaw17_TakeAll, r26_reevelaw17_TakeAll, k28_reevelaw17_TakeAll, k25_reevelaw17_TakeAll, k23_reevelaw17_TakeAll, r27_reevelaw17_TakeAll, k29_reevelaw17_TakeAll, k22_reevelaw17_TakeAll, k16_reevelaw17_TakeAll, k14_reevelaw17_TakeAll, k13_reevelaw17_TakeAll, k6_reevelaw17_TakeAll, k5_reevelaw17_TakeAll, k4_reevelaw17_TakeAll, k2_reevelaw17_TakeAll, k0_reevelaw17_TakeAll, b1_reevelaw17_TakeAll, Z0, Z1, Z2, Z3, Z4, Z5, Z6, Z7, Z8, Z9, Z10, resAll, Nat.reduceAdd, Nat.reduceEqDiff, Nat.reduceLeDiff, Nat.reduceMul, ↓reduceIte, reduceCtorEq, Nat.reduceBEq, aoper, Nat.reduceLT, Int.reduceEq, Int.reduceLT, Int.reduceLE]
      have hth : 0 ≤ S.threads ∧ S.threads ≤ 4 := by have := (goodF c3).geo; unfold goodGeo at this; omega
      refine ends_loop (fun i t τ => tget t 1 = here σ.fresh.n 0 ∧ tget t 6 = here τ2.n 0 ∧ tget t 9 = i64 i ∧ Keeps (τ2.grow [(stL (bare S) (some ⟨b1', 0, none⟩) f1' (some ⟨b2', 0, none⟩) f2', 5)]) τ) S.th.length m4 ⟨?_, ?_, ?_, hk.grow _⟩ ?_
      iterate 3 simp (disch := omega) only [t1, t6, Int.natCast_zero, Int.ofNat_zero, r0_reevelaw17_TakeAll, r1_reevelaw17_TakeAll, r2_reevelaw17_TakeAll, k1_reevelaw17_TakeAll, r3_reevelaw17_TakeAll, r4_reevelaw17_TakeAll, k3_reevelaw17_TakeAll, r5_reevelaw17_TakeAll, r6_reevelaw17_TakeAll, r7_reevelaw17_TakeAll, r8_reevelaw17_TakeAll, k8_reevelaw17_TakeAll, r9_reevelaw17_TakeAll, r10_reevelaw17_TakeAll, r11_reevelaw17_TakeAll, k11_reevelaw17_TakeAll, k10_reevelaw17_TakeAll, r12_reevelaw17_TakeAll, k12_reevelaw17_TakeAll, k9_reevelaw17_TakeAll, k7_reevelaw17_TakeAll, r13_reevelaw17_TakeAll, r14_reevelaw17_TakeAll, r15_reevelaw17_TakeAll, k15_reevelaw17_TakeAll, r16_reevelaw17_TakeAll, r17_reevelaw17_TakeAll, k18_reevelaw17_TakeAll, r18_reevelaw17_TakeAll, r19_reevelaw17_TakeAll, k20_reevelaw17_TakeAll, r20_reevelaw17_TakeAll, k21_reevelaw17_TakeAll, k19_reevelaw17_TakeAll, k17_reevelaw17_TakeAll, r21_reevelaw17_TakeAll, r22_reevelaw17_TakeAll, k24_reevelaw17_TakeAll, r23_reevelaw17_TakeAll, r24_reevelaw17_TakeAll, r25_reevelaw17_TakeAll, k27_reevelaw17_TakeAll, k26_reevelaw17_TakeAll, r26_reevelaw17_TakeAll, k28_reevelaw17_TakeAll, k25_reevelaw17_TakeAll, k23_reevelaw17_TakeAll, r27_reevelaw17_TakeAll, k29_reevelaw17_TakeAll, k22_reevelaw17_TakeAll, k16_reevelaw17_TakeAll, k14_reevelaw17_TakeAll, k13_reevelaw17_TakeAll, k6_reevelaw17_TakeAll, k5_reevelaw17_TakeAll, k4_reevelaw17_TakeAll, k2_reevelaw17_TakeAll, k0_reevelaw17_TakeAll, Z0, Z1, Z2, Z3, Z4, Z5, Z6, Z7, Z8, Z9, Z10, resAll, Nat.reduceAdd, Nat.reduceEqDiff, Nat.reduceLeDiff, Nat.reduceMul, ↓reduceIte, reduceCtorEq, Nat.reduceBEq, aoper, Nat.reduceLT, Int.reduceEq, Int.reduceLT, Int.reduceLE]
      clear hlt hlt' hi hb6 hk t1 t6 t8
      rintro i t τ'' hi ⟨t1, t6, t9, hk⟩
      rw [← grow_nil τ'']
      have hb6 := fun M o n => hk.own0 (r := stL (bare S) (some ⟨b1', 0, none⟩) f1' (some ⟨b2', 0, none⟩) f2') (e := 5) rfl M o n
      have hb1' := fun M o n => (k02.trans (kT.trans hk)).own0 (r := stL S (some ⟨b1, 0, none⟩) f1 (some ⟨b2, 0, none⟩) f2) (e := 5) rfl M o n
      have hlow'' : τ''.low = σ.n := by rw [hk.low, grow_low]; exact w2
      by_cases hlt : i < S.th.length
      · have hx : (bare S).th[i]? = some ((bare S).th[i]'(by omega)) := List.getElem?_eq_getElem _
        generalize (bare S).th[i]'(by omega) = x at hx
        have hxt := bare_type c3 hx
        have hl1 := fun M => s2.ld0 (kT.trans hk) hx M 1 (by omega)
        simp only [List.take_succ_cons, List.take_zero] at hl1
        have hlt' : (i : Int) < ((bare S).th.length : Int) := by omega
        have hcast : ((i + 1 : Nat) : Int) = (i : Int) + 1 := by omega
        have hr : isRootB S i = (decide (2 ≤ (i : Int)) && decide ((i : Int) < 2 + S.threads)) := rfl
        have n20 : ¬ (2 : Int) = 0 := by decide
        by_cases j1 : (2 : Int) ≤ (i : Int)
        · by_cases j2 : (i : Int) < 2 + S.threads
          · rw [hr, decide_eq_true j1, decide_eq_true j2] at hxt
            simp only [Bool.and_self, if_true] at hxt
            rw [hxt] at hl1
            simp (disch := omega) only [t1, t6, t9, hb6, hb1', hlt', hlt, hcast, hl1, Int.toNat_natCast, j1, j2, n20, o_eqB, eqBQ_b, hk.grow, beq_self_eq_true, r0_reevelaw17_TakeAll, r1_reevelaw17_TakeAll, r2_reevelaw17_TakeAll, k1_reevelaw17_TakeAll, r3_reevelaw17_TakeAll, r4_reevelaw17_TakeAll, k3_reevelaw17_TakeAll, r5_reevelaw17_TakeAll, r6_reevelaw17_TakeAll, r7_reevelaw17_TakeAll, r8_reevelaw17_TakeAll, k8_reevelaw17_TakeAll, r9_reevelaw17_TakeAll, r10_reevelaw17_TakeAll, r11_reevelaw17_TakeAll, k11_reevelaw17_TakeAll, k10_reevelaw17_TakeAll, r12_reevelaw17_TakeAll, k12_reevelaw17_TakeAll, k9_reevelaw17_TakeAll, k7_reevelaw17_TakeAll, r13_reevelaw17_TakeAll, r14_reevelaw17_TakeAll, r15_reevelaw17_TakeAll, k15_reevelaw17_TakeAll, r16_reevelaw17_TakeAll, r17_reevelaw17_TakeAll, k18_reevelaw17_TakeAll, r18_reevelaw17_TakeAll, r19_reevelaw17_TakeAll, k20_reevelaw17_TakeAll, r20_reevelaw17_TakeAll, k21_reevelaw17_TakeAll, k19_reevelaw17_TakeAll, k17_reevelaw17_TakeAll, r21_reevelaw17_TakeAll, r22_reevelaw17_TakeAll, k24_reevelaw17_TakeAll, r23_reevelaw17_TakeAll, r24_reevelaw17_TakeAll, r25_reevelaw17_TakeAll, k27_reevelaw17_TakeAll, k26_reevelaw17_TakeAll, r26_reevelaw17_TakeAll, k28_reevelaw17_TakeAll, k25_reevelaw17_TakeAll, k23_reevelaw17_TakeAll, r27_reevelaw17_TakeAll, k29_reevelaw17_TakeAll, k22_reevelaw17_TakeAll, k16_reevelaw17_TakeAll, k14_reevelaw17_TakeAll, k13_reevelaw17_TakeAll, k6_reevelaw17_TakeAll, k5_reevelaw17_TakeAll, k4_reevelaw17_TakeAll, k2_reevelaw17_TakeAll, k0_reevelaw17_TakeAll, b2_reevelaw17_TakeAll, Z0, Z1, Z2, Z3, Z4, Z5, Z6, Z7, Z8, Z9, Z10, resAll, Nat.reduceAdd, Nat.reduceEqDiff, Nat.reduceLeDiff, Nat.reduceMul, ↓reduceIte, reduceCtorEq, Nat.reduceBEq, aoper, Nat.reduceLT, Int.reduceEq, Int.reduceLT, Int.reduceLE]
          · rw [hr, decide_eq_true j1, decide_eq_false j2] at hxt
            simp only [Bool.and_false, Bool.false_eq_true, if_false] at hxt
            rw [hxt] at hl1
            simp (disch := omega) only [t1, t6, t9, hb6, hb1', hlt', hlt, hcast, hl1, Int.toNat_natCast, j1, j2, o_eqB, eqBQ_b, hk.grow, beq_self_eq_true, r0_reevelaw17_TakeAll, r1_reevelaw17_TakeAll, r2_reevelaw17_TakeAll, k1_reevelaw17_TakeAll, r3_reevelaw17_TakeAll, r4_reevelaw17_TakeAll, k3_reevelaw17_TakeAll, r5_reevelaw17_TakeAll, r6_reevelaw17_TakeAll, r7_reevelaw17_TakeAll, r8_reevelaw17_TakeAll, k8_reevelaw17_TakeAll, r9_reevelaw17_TakeAll, r10_reevelaw17_TakeAll, r11_reevelaw17_TakeAll, k11_reevelaw17_TakeAll, k10_reevelaw17_TakeAll, r12_reevelaw17_TakeAll, k12_reevelaw17_TakeAll, k9_reevelaw17_TakeAll, k7_reevelaw17_TakeAll, r13_reevelaw17_TakeAll, r14_reevelaw17_TakeAll, r15_reevelaw17_TakeAll, k15_reevelaw17_TakeAll, r16_reevelaw17_TakeAll, r17_reevelaw17_TakeAll, k18_reevelaw17_TakeAll, r18_reevelaw17_TakeAll, r19_reevelaw17_TakeAll, k20_reevelaw17_TakeAll, r20_reevelaw17_TakeAll, k21_reevelaw17_TakeAll, k19_reevelaw17_TakeAll, k17_reevelaw17_TakeAll, r21_reevelaw17_TakeAll, r22_reevelaw17_TakeAll, k24_reevelaw17_TakeAll, r23_reevelaw17_TakeAll, r24_reevelaw17_TakeAll, r25_reevelaw17_TakeAll, k27_reevelaw17_TakeAll, k26_reevelaw17_TakeAll, r26_reevelaw17_TakeAll, k28_reevelaw17_TakeAll, k25_reevelaw17_TakeAll, k23_reevelaw17_TakeAll, r27_reevelaw17_TakeAll, k29_reevelaw17_TakeAll, k22_reevelaw17_TakeAll, k16_reevelaw17_TakeAll, k14_reevelaw17_TakeAll, k13_reevelaw17_TakeAll, k6_reevelaw17_TakeAll, k5_reevelaw17_TakeAll, k4_reevelaw17_TakeAll, k2_reevelaw17_TakeAll, k0_reevelaw17_TakeAll, b2_reevelaw17_TakeAll, Z0, Z1, Z2, Z3, Z4, Z5, Z6, Z7, Z8, Z9, Z10, resAll, Nat.reduceAdd, Nat.reduceEqDiff, Nat.reduceLeDiff, Nat.reduceMul, ↓reduceIte, reduceCtorEq, Nat.reduceBEq, aoper, Nat.reduceLT, Int.reduceEq, Int.reduceLT, Int.reduceLE]
        · rw [hr, decide_eq_false j1] at hxt
          simp only [Bool.false_and, Bool.false_eq_true, if_false] at hxt
          rw [hxt] at hl1
          simp (disch := omega) only [t1, t6, t9, hb6, hb1', hlt', hlt, hcast, hl1, Int.toNat_natCast, j1, o_eqB, eqBQ_b, hk.grow, beq_self_eq_true, r0_reevelaw17_TakeAll, r1_reevelaw17_TakeAll, r2_reevelaw17_TakeAll, k1_reevelaw17_TakeAll, r3_reevelaw17_TakeAll, r4_reevelaw17_TakeAll, k3_reevelaw17_TakeAll, r5_reevelaw17_TakeAll, r6_reevelaw17_TakeAll, r7_reevelaw17_TakeAll, r8_reevelaw17_TakeAll, k8_reevelaw17_TakeAll, r9_reevelaw17_TakeAll, r10_reevelaw17_TakeAll, r11_reevelaw17_TakeAll, k11_reevelaw17_TakeAll, k10_reevelaw17_TakeAll, r12_reevelaw17_TakeAll, k12_reevelaw17_TakeAll, k9_reevelaw17_TakeAll, k7_reevelaw17_TakeAll, r13_reevelaw17_TakeAll, r14_reevelaw17_TakeAll, r15_reevelaw17_TakeAll, k15_reevelaw17_TakeAll, r16_reevelaw17_TakeAll, r17_reevelaw17_TakeAll, k18_reevelaw17_TakeAll, r18_reevelaw17_TakeAll, r19_reevelaw17_TakeAll, k20_reevelaw17_TakeAll, r20_reevelaw17_TakeAll, k21_reevelaw17_TakeAll, k19_reevelaw17_TakeAll, k17_reevelaw17_TakeAll, r21_reevelaw17_TakeAll, r22_reevelaw17_TakeAll, k24_reevelaw17_TakeAll, r23_reevelaw17_TakeAll, r24_reevelaw17_TakeAll, r25_reevelaw17_TakeAll, k27_reevelaw17_TakeAll, k26_reevelaw17_TakeAll, r26_reevelaw17_TakeAll, k28_reevelaw17_TakeAll, k25_reevelaw17_TakeAll, k23_reevelaw17_TakeAll, r27_reevelaw17_TakeAll, k29_reevelaw17_TakeAll, k22_reevelaw17_TakeAll, k16_reevelaw17_TakeAll, k14_reevelaw17_TakeAll, k13_reevelaw17_TakeAll, k6_reevelaw17_TakeAll, k5_reevelaw17_TakeAll, k4_reevelaw17_TakeAll, k2_reevelaw17_TakeAll, k0_reevelaw17_TakeAll, b2_reevelaw17_TakeAll, Z0, Z1, Z2, Z3, Z4, Z5, Z6, Z7, Z8, Z9, Z10, resAll, Nat.reduceAdd, Nat.reduceEqDiff, Nat.reduceLeDiff, Nat.reduceMul, ↓reduceIte, reduceCtorEq, Nat.reduceBEq, aoper, Nat.reduceLT, Int.reduceEq, Int.reduceLT, Int.reduceLE]
      · have hlt' : ¬ (i : Int) < ((bare S).th.length : Int) := by omega
        have hg2 := fun M => state_Good_ok (d + 1) (τ''.grow M) (bare S) (some ⟨b1', 0, none⟩) f1' (some ⟨b2', 0, none⟩) f2' (by rw [grow_dead, (kT.trans hk).dead, k02.dead, grow_dead]; exact hd) (.inr ⟨_, rfl, s1.keeps ((kT.trans hk).grow M)⟩) (.inr ⟨_, rfl, s2.keeps ((kT.trans hk).grow M)⟩)
        rw [hlen2, show d + 1 + S.th.length + 8 = d + S.th.length + 9 by omega] at hg2
        simp (disch := omega) only [t1, t6, t9, hb6, hlt', hg2, hgb, hlow'', r0_reevelaw17_TakeAll, r1_reevelaw17_TakeAll, r2_reevelaw17_TakeAll, k1_reevelaw17_TakeAll, r3_reevelaw17_TakeAll, r4_reevelaw17_TakeAll, k3_reevelaw17_TakeAll, r5_reevelaw17_TakeAll, r6_reevelaw17_TakeAll, r7_reevelaw17_TakeAll, r8_reevelaw17_TakeAll, k8_reevelaw17_TakeAll, r9_reevelaw17_TakeAll, r10_reevelaw17_TakeAll, r11_reevelaw17_TakeAll, k11_reevelaw17_TakeAll, k10_reevelaw17_TakeAll, r12_reevelaw17_TakeAll, k12_reevelaw17_TakeAll, k9_reevelaw17_TakeAll, k7_reevelaw17_TakeAll, r13_reevelaw17_TakeAll, r14_reevelaw17_TakeAll, r15_reevelaw17_TakeAll, k15_reevelaw17_TakeAll, r16_reevelaw17_TakeAll, r17_reevelaw17_TakeAll, k18_reevelaw17_TakeAll, r18_reevelaw17_TakeAll, r19_reevelaw17_TakeAll, k20_reevelaw17_TakeAll, r20_reevelaw17_TakeAll, k21_reevelaw17_TakeAll, k19_reevelaw17_TakeAll, k17_reevelaw17_TakeAll, r21_reevelaw17_TakeAll, r22_reevelaw17_TakeAll, k24_reevelaw17_TakeAll, r23_reevelaw17_TakeAll, r24_reevelaw17_TakeAll, r25_reevelaw17_TakeAll, k27_reevelaw17_TakeAll, k26_reevelaw17_TakeAll, r26_reevelaw17_TakeAll, k28_reevelaw17_TakeAll, k25_reevelaw17_TakeAll, k23_reevelaw17_TakeAll, r27_reevelaw17_TakeAll, k29_reevelaw17_TakeAll, k22_reevelaw17_TakeAll, k16_reevelaw17_TakeAll, k14_reevelaw17_TakeAll, k13_reevelaw17_TakeAll, k6_reevelaw17_TakeAll, k5_reevelaw17_TakeAll, k4_reevelaw17_TakeAll, k2_reevelaw17_TakeAll, k0_reevelaw17_TakeAll, b2_reevelaw17_TakeAll, Z0, Z1, Z2, Z3, Z4, Z5, Z6, Z7, Z8, Z9, Z10, resAll, Nat.reduceAdd, Nat.reduceEqDiff, Nat.reduceLeDiff, Nat.reduceMul, ↓reduceIte, reduceCtorEq, Nat.reduceBEq, aoper, Nat.reduceLT, Int.reduceEq, Int.reduceLT, Int.reduceLE]
theorem TakeAll_far (d : Nat) (σ : AHeap) (S : StD) (a1 : Option Addr) (f1 : Nat) (a2 : Option Addr) (f2 : Nat) (hm : (50 : Int) < S.th.length)
    (hA : acall (ofProg Tryz.prog) 1000 d 37 [] (σ.fresh.grow [(stL S a1 f1 a2 f2, 5)]) = some (.bool true, σ.fresh.grow [(stL S a1 f1 a2 f2, 5)])) :
    acall (ofProg Tryz.prog) 1000 (d + 1) 5 [stV S a1 f1 a2 f2] σ = some (.bool true, σ) := by
  refine acall_flat e_reevelaw17_TakeAll (by simp) rfl ?_
  by_cases c1 : (100 : Int) < S.sl.length
  · simp (disch := omega) only [hA, c1, r0_reevelaw17_TakeAll, r1_reevelaw17_TakeAll, r2_reevelaw17_TakeAll, k1_reevelaw17_TakeAll, r3_reevelaw17_TakeAll, r4_reevelaw17_TakeAll, k3_reevelaw17_TakeAll, r5_reevelaw17_TakeAll, r6_reevelaw17_TakeAll, r7_reevelaw17_TakeAll, r8_reevelaw17_TakeAll, k8_reevelaw17_TakeAll, r9_reevelaw17_TakeAll, r10_reevelaw17_TakeAll, r11_reevelaw17_TakeAll, k11_reevelaw17_TakeAll, k10_reevelaw17_TakeAll, r12_reevelaw17_TakeAll, k12_reevelaw17_TakeAll, k9_reevelaw17_TakeAll, k7_reevelaw17_TakeAll, r13_reevelaw17_TakeAll, r14_reevelaw17_TakeAll, r15_reevelaw17_TakeAll, k15_reevelaw17_TakeAll, r16_reevelaw17_TakeAll, r17_reevelaw17_TakeAll, k18_reevelaw17_TakeAll, r18_reevelaw17_TakeAll, r19_reevelaw17_TakeAll, k20_reevelaw17_TakeAll, r20_reevelaw17_TakeAll, k21_reevelaw17_TakeAll, k19_reevelaw17_TakeAll, k17_reevelaw17_TakeAll, r21_reevelaw17_TakeAll, r22_reevelaw17_TakeAll, k24_reevelaw17_TakeAll, r23_reevelaw17_TakeAll, r24_reevelaw17_TakeAll, r25_reevelaw17_TakeAll, k27_reevelaw17_TakeAll, k26_reevelaw17_TakeAll, r26_reevelaw17_TakeAll, k28_reevelaw17_TakeAll, k25_reevelaw17_TakeAll, k23_reevelaw17_TakeAll, r27_reevelaw17_TakeAll, k29_reevelaw17_TakeAll, k22_reevelaw17_TakeAll, k16_reevelaw17_TakeAll, k14_reevelaw17_TakeAll, k13_reevelaw17_TakeAll, k6_reevelaw17_TakeAll, k5_reevelaw17_TakeAll, k4_reevelaw17_TakeAll, k2_reevelaw17_TakeAll, k0_reevelaw17_TakeAll, c_reevelaw17_TakeAll, Z0, Z1, Z2, Z3, Z4, Z5, Z6, Z7, Z8, Z9, Z10, resAll, Nat.reduceAdd, Nat.reduceEqDiff, Nat.reduceLeDiff, Nat.reduceMul, ↓reduceIte, reduceCtorEq, Nat.reduceBEq, aoper, Nat.reduceLT, Int.reduceEq, Int.reduceLT, Int.reduceLE]
  · simp (disch := omega) only [hA, c1, hm, r0_reevelaw17_TakeAll, r1_reevelaw17_TakeAll, r2_reevelaw17_TakeAll, k1_reevelaw17_TakeAll, r3_reevelaw17_TakeAll, r4_reevelaw17_TakeAll, k3_reevelaw17_TakeAll, r5_reevelaw17_TakeAll, r6_reevelaw17_TakeAll, r7_reevelaw17_TakeAll, r8_reevelaw17_TakeAll, k8_reevelaw17_TakeAll, r9_reevelaw17_TakeAll, r10_reevelaw17_TakeAll, r11_reevelaw17_TakeAll, k11_reevelaw17_TakeAll, k10_reevelaw17_TakeAll, r12_reevelaw17_TakeAll, k12_reevelaw17_TakeAll, k9_reevelaw17_TakeAll, k7_reevelaw17_TakeAll, r13_reevelaw17_TakeAll, r14_reevelaw17_TakeAll, r15_reevelaw17_TakeAll, k15_reevelaw17_TakeAll, r16_reevelaw17_TakeAll, r17_reevelaw17_TakeAll, k18_reevelaw17_TakeAll, r18_reevelaw17_TakeAll, r19_reevelaw17_TakeAll, k20_reevelaw17_TakeAll, r20_reevelaw17_TakeAll, k21_reevelaw17_TakeAll, k19_reevelaw17_TakeAll, k17_reevelaw17_TakeAll, r21_reevelaw17_TakeAll, r22_reevelaw17_TakeAll, k24_reevelaw17_TakeAll, r23_reevelaw17_TakeAll, r24_reevelaw17_TakeAll, r25_reevelaw17_TakeAll, k27_reevelaw17_TakeAll, k26_reevelaw17_TakeAll, r26_reevelaw17_TakeAll, k28_reevelaw17_TakeAll, k25_reevelaw17_TakeAll, k23_reevelaw17_TakeAll, r27_reevelaw17_TakeAll, k29_reevelaw17_TakeAll, k22_reevelaw17_TakeAll, k16_reevelaw17_TakeAll, k14_reevelaw17_TakeAll, k13_reevelaw17_TakeAll, k6_reevelaw17_TakeAll, k5_reevelaw17_TakeAll, k4_reevelaw17_TakeAll, k2_reevelaw17_TakeAll, k0_reevelaw17_TakeAll, c_reevelaw17_TakeAll, Z0, Z1, Z2, Z3, Z4, Z5, Z6, Z7, Z8, Z9, Z10, resAll, Nat.reduceAdd, Nat.reduceEqDiff, Nat.reduceLeDiff, Nat.reduceMul, ↓reduceIte, reduceCtorEq, Nat.reduceBEq, aoper, Nat.reduceLT, Int.reduceEq, Int.reduceLT, Int.reduceLE]
end Go.Proofs.YtidmcpkbcphpiaaGreat
namespace Go.Proofs.YtidmcpkbcphpiaaGreat
open Go Go.Hai

def heapL (rs : List AObj) (low : Nat) : AHeap := { t := Tr.of rs, n := rs.length, nf := 0, dead := [], low := low }
noncomputable def testN (n : Nat) (t : Tmps) (τ : AHeap) : A := AHeap.rec (fun _ _ _ _ low => Bool.rec none (tgetK t 0 fun v => boolK v none (some false) (some true)) (Nat.beq low n)) τ
end Go.Proofs.YtidmcpkbcphpiaaGreat
namespace Go.Hai
open Go Go.ChangeShapes Go.WideShapes Go.ChangeAt Go.RowKit

theorem kept_of {w w' : World} {may : MemPlace → Prop} (h1 : w'.os = w.os) (h2 : w'.output = w.output) (h3 : ∀ B, B < w.heap.size → w'.heap[B]? = w.heap[B]?) : w.keptBut w' may := by
  refine ⟨h1, h2, fun i hi => ?_⟩
  rw [h3 i hi]
  cases w.heap[i]? with
  | none => rfl
  | some o => cases o with
    | cells c t fr => exact ⟨rfl, rfl, rfl, fun _ _ => rfl⟩
    | map es c => exact .inr ⟨rfl, rfl⟩
    | _ => rfl
end Go.Hai
namespace Go.Proofs.YtidmcpkbcphpiaaGreat
open Go Go.Hai Go.ChangeShapes Go.WideShapes
set_option maxRecDepth 100000
section
variable {H : Type} {enc : TypeId × Value → H} {P : Program} {w : World} {base : Nat} {spare : Nat → Bool} {held : Bool}
theorem trod_fields {t : TypeId} {fs : Array Field} {fuel : Nat} {cs : List Value} {x : DataW H × List MemPlace} (ht : P.underlying t = some (.struct fs)) (h : DataW.trod enc P w base spare held fuel t cs = some x) :
    cs.length = P.cellsOf t ∧ ∃ n, ∀ f ∈ fs.toList, ∃ y, DataW.trod enc P w base spare held n f.type ((cs.drop f.offset).take (P.cellsOf f.type)) = some y := by
  obtain ⟨xs, n, _, _, hl, hx, hf⟩ := DataW.trod_struct ht h
  refine ⟨hl, n, fun f hfm => ?_⟩
  obtain ⟨i, hi⟩ := List.mem_iff_getElem?.1 hfm
  have hi' : fs[i]? = some f := by simpa using hi
  have hlt : i < fs.size := (Array.getElem?_eq_some_iff.1 hi').1
  exact ⟨xs[i], by rw [hf i f hi', List.getElem?_eq_getElem (by omega)]⟩
theorem trod_items {t e : TypeId} {m fuel : Nat} {cs : List Value} {x : DataW H × List MemPlace} (ht : P.underlying t = some (.array m e)) (h : DataW.trod enc P w base spare held fuel t cs = some x) :
    cs.length = P.cellsOf t ∧ ∃ n, ∀ i, i < m → ∃ y, DataW.trod enc P w base spare held n e ((cs.drop (i * P.cellsOf e)).take (P.cellsOf e)) = some y := by
  cases fuel with
  | zero => simp [DataW.trod] at h
  | succ n =>
    unfold DataW.trod at h
    rw [ht] at h
    split at h <;> simp_all
    obtain ⟨hl, xs, hp, hd⟩ := h
    refine ⟨n, fun i hi => ?_⟩
    have h1 := mapM_some_get hp i i (by simp [hi])
    have h2 := mapM_some_length hp
    simp at h2
    rw [List.getElem?_eq_getElem (by omega)] at h1
    exact ⟨_, _, h1⟩
theorem cells_int {t : TypeId} {k : IntKind} {fuel : Nat} {cs : List Value} {x : DataW H × List MemPlace} (ht : P.underlying t = some (.int k)) (h : DataW.trod enc P w base spare held fuel t cs = some x) : ∃ z, cs = [.int k z] := by
  obtain ⟨z, rfl, _⟩ := DataW.trod_int ht h
  exact ⟨z, rfl⟩
theorem cells_bool {t : TypeId} {fuel : Nat} {cs : List Value} {x : DataW H × List MemPlace} (ht : P.underlying t = some .bool) (h : DataW.trod enc P w base spare held fuel t cs = some x) : ∃ z, cs = [.bool z] := by
  obtain ⟨z, rfl, _⟩ := DataW.trod_bool ht h
  exact ⟨z, rfl⟩
end
section
variable {H : Type} {enc : TypeId × Value → H} {w : World} {base : Nat} {spare : Nat → Bool} {held : Bool} {fuel : Nat} {cs : List Value} {x : DataW H × List MemPlace}
theorem co3 : Tryz.prog.cellsOf 3 = 1 := by kernel_rfl
theorem co4 : Tryz.prog.cellsOf 4 = 1 := by kernel_rfl
theorem co31 : Tryz.prog.cellsOf 31 = 1 := by kernel_rfl
theorem co83 : Tryz.prog.cellsOf 83 = 4 := by kernel_rfl
theorem co64 : Tryz.prog.cellsOf 64 = 4 := by kernel_rfl
theorem co23 : Tryz.prog.cellsOf 23 = 3 := by kernel_rfl
theorem co80 : Tryz.prog.cellsOf 80 = 5 := by kernel_rfl
theorem co85 : Tryz.prog.cellsOf 85 = 13 := by kernel_rfl
theorem co27 : Tryz.prog.cellsOf 27 = 5 := by kernel_rfl
theorem co24 : Tryz.prog.cellsOf 24 = 1 := by kernel_rfl
theorem co25 : Tryz.prog.cellsOf 25 = 1 := by kernel_rfl
theorem cap_cells (h : DataW.trod enc Tryz.prog w base spare held fuel 64 cs = some x) : ∃ a b c d : Int, cs = [i64 a, i64 b, i64 c, i64 d] := by
  obtain ⟨hl, n, hf⟩ := trod_fields Tryz.underlying64 h
  rw [co64] at hl
  match cs, hl with
  | [c0, c1, c2, c3], _ =>
    simp only [List.mem_cons, List.not_mem_nil, or_false, forall_eq_or_imp, forall_eq] at hf
    obtain ⟨⟨_, h0⟩, ⟨_, h1⟩, ⟨_, h2⟩, ⟨_, h3⟩⟩ := hf
    simp only [co3] at h0 h1 h2 h3
    obtain ⟨z0, e0⟩ := cells_int Tryz.underlying3 h0
    obtain ⟨z1, e1⟩ := cells_int Tryz.underlying3 h1
    obtain ⟨z2, e2⟩ := cells_int Tryz.underlying3 h2
    obtain ⟨z3, e3⟩ := cells_int Tryz.underlying3 h3
    simp at e0 e1 e2 e3
    exact ⟨z0, z1, z2, z3, by rw [e0, e1, e2, e3]⟩
theorem slot_cells (h : DataW.trod enc Tryz.prog w base spare held fuel 80 cs = some x) : ∃ s : SlotD, cs = slotL s := by
  obtain ⟨hl, n, hf⟩ := trod_fields Tryz.underlying80 h
  rw [co80] at hl
  match cs, hl with
  | [c0, c1, c2, c3, c4], _ =>
    simp only [List.mem_cons, List.not_mem_nil, or_false, forall_eq_or_imp, forall_eq] at hf
    obtain ⟨⟨_, h0⟩, ⟨_, h1⟩⟩ := hf
    simp only [co3, co64] at h0 h1
    obtain ⟨a, b, c, d, e0⟩ := cap_cells h0
    obtain ⟨z1, e1⟩ := cells_int Tryz.underlying3 h1
    simp at e0 e1
    exact ⟨⟨a, b, c, d, z1⟩, by rw [e0.1, e0.2.1, e0.2.2.1, e0.2.2.2, e1]⟩
theorem data_cells (h : DataW.trod enc Tryz.prog w base spare held fuel 83 cs = some x) : ∃ a b c d : Int, cs = [u64 a, u64 b, u64 c, u64 d] := by
  obtain ⟨hl, n, hf⟩ := trod_items Tryz.underlying83 h
  rw [co83] at hl
  match cs, hl with
  | [c0, c1, c2, c3], _ =>
    obtain ⟨_, h0⟩ := hf 0 (by omega)
    obtain ⟨_, h1⟩ := hf 1 (by omega)
    obtain ⟨_, h2⟩ := hf 2 (by omega)
    obtain ⟨_, h3⟩ := hf 3 (by omega)
    simp only [co31] at h0 h1 h2 h3
    obtain ⟨z0, e0⟩ := cells_int Tryz.underlying31 h0
    obtain ⟨z1, e1⟩ := cells_int Tryz.underlying31 h1
    obtain ⟨z2, e2⟩ := cells_int Tryz.underlying31 h2
    obtain ⟨z3, e3⟩ := cells_int Tryz.underlying31 h3
    simp at e0 e1 e2 e3
    exact ⟨z0, z1, z2, z3, by rw [e0, e1, e2, e3]⟩
theorem thing_cells (h : DataW.trod enc Tryz.prog w base spare held fuel 85 cs = some x) : ∃ t : ThingD, cs = thingL t := by
  obtain ⟨hl, n, hf⟩ := trod_fields Tryz.underlying85 h
  rw [co85] at hl
  match cs, hl with
  | [c0, c1, c2, c3, c4, c5, c6, c7, c8, c9, c10, c11, c12], _ =>
    simp only [List.mem_cons, List.not_mem_nil, or_false, forall_eq_or_imp, forall_eq] at hf
    obtain ⟨⟨_, h0⟩, ⟨_, h1⟩, ⟨_, h2⟩, ⟨_, h3⟩, ⟨_, h4⟩, ⟨_, h5⟩, ⟨_, h6⟩, ⟨_, h7⟩, ⟨_, h8⟩, ⟨_, h9⟩⟩ := hf
    simp only [co3, co4, co31, co83] at h0 h1 h2 h3 h4 h5 h6 h7 h8 h9
    obtain ⟨z0, e0⟩ := cells_int Tryz.underlying3 h0
    obtain ⟨z1, e1⟩ := cells_int Tryz.underlying3 h1
    obtain ⟨z2, e2⟩ := cells_int Tryz.underlying3 h2
    obtain ⟨z3, e3⟩ := cells_int Tryz.underlying3 h3
    obtain ⟨z4, e4⟩ := cells_int Tryz.underlying3 h4
    obtain ⟨z5, e5⟩ := cells_int Tryz.underlying3 h5
    obtain ⟨z6, e6⟩ := cells_int Tryz.underlying3 h6
    obtain ⟨z7, e7⟩ := cells_bool Tryz.underlying4 h7
    obtain ⟨z8, e8⟩ := cells_int Tryz.underlying31 h8
    obtain ⟨y0, y1, y2, y3, e9⟩ := data_cells h9
    simp at e0 e1 e2 e3 e4 e5 e6 e7 e8 e9
    exact ⟨⟨z0, z1, z2, z3, z4, z5, z6, z7, z8, y0, y1, y2, y3⟩, by rw [e0, e1, e2, e3, e4, e5, e6, e7, e8, e9.1, e9.2.1, e9.2.2.1, e9.2.2.2]⟩
theorem int_cells (h : DataW.trod enc Tryz.prog w base spare held fuel 3 cs = some x) : ∃ z : Int, cs = intL z := cells_int Tryz.underlying3 h
end

def roRow (l : List Value) (es : Nat) : AObj := .row (Tr.of l) l.length es false false none
theorem load_ro {τ : AHeap} {b es o n : Nat} {l : List Value} (h : τ.t.get b = some (roRow l es)) (hl : o + n ≤ l.length) : τ.loadN b o n = some ((l.drop o).take n) := by
  unfold AHeap.loadN AHeap.row?
  rw [h]
  simp only [roRow, AHeap.alive, if_true]
  rw [if_pos (Nat.ble_eq_true_of_le hl), cellsFrom_of _ _ _ hl]
section
variable {α : Type} {cells : α → List Value} {es : Nat}
theorem SlAt_ro (hes : ∀ x, (cells x).length = es) {σ : AHeap} {b : Nat} {l : List α} (hb : b < σ.n) (h : σ.t.get b = some (roRow (flatL cells l) es)) : SlAt cells es σ b l := by
  refine ⟨hb, fun i x hx o n ho => ?_⟩
  have hi := (List.getElem?_eq_some_iff.1 hx).1
  have hm : (i + 1) * es ≤ l.length * es := Nat.mul_le_mul_right _ hi
  rw [Nat.succ_mul] at hm
  rw [load_ro h (by rw [flatL_length hes]; omega)]
  obtain ⟨r, hr⟩ := flatL_drop hes l i x hx
  rw [← List.drop_drop, hr]
  have hl := hes x
  rw [List.drop_append_of_le_length (by omega), List.take_append_of_le_length (by rw [List.length_drop]; omega)]
theorem choose_list {p : Nat → α → Prop} : ∀ n, (∀ i, i < n → ∃ x, p i x) → ∃ l : List α, l.length = n ∧ ∀ (i : Nat) (x : α), l[i]? = some x → p i x := by
  intro n
  induction n with
  | zero => intro _; exact ⟨[], rfl, fun i x h => by simp at h⟩
  | succ n ih =>
    intro h
    obtain ⟨l, h1, h2⟩ := ih fun i hi => h i (by omega)
    obtain ⟨x, hx⟩ := h n (by omega)
    refine ⟨l ++ [x], by simp [h1], fun i y hy => ?_⟩
    by_cases hi : i < l.length
    · rw [List.getElem?_append_left hi] at hy; exact h2 i y hy
    · have hi' : i = n := by have := (List.getElem?_eq_some_iff.1 hy).1; simp at this; omega
      subst hi'
      rw [← h1] at hy
      simp at hy
      subst hy; exact hx
theorem isCell_scal {v : Value} (h : scal v = true) : isCell v = true := by
  cases v <;> first | rfl | simp [scal] at h
theorem slice_view [Rho] {H : Type} {enc : TypeId × Value → H} {P : Program} {w : World} (hes : ∀ x, (cells x).length = es) (hes0 : 0 < es) (hsc : ∀ x, ∀ v ∈ cells x, scal v = true) {t e : TypeId} (ht : P.underlying t = some (.slice e)) (hc : P.cellsOf e = es)
    (hcell : ∀ n cs y, DataW.trod enc P w 0 (fun _ => true) true n e cs = some y → ∃ x, cs = cells x) {v : Value} {fuel : Nat} {x : DataW H × List MemPlace} (h : DataW.trod enc P w 0 (fun _ => true) true fuel t [v] = some x) (b : Nat) :
    ∃ (l : List α) (a1 : Option Addr) (f1 : Nat) (loc : Option Hai.Loc), (∀ ρ : Ren, ρ b = loc → VR ρ (.slice a1 l.length f1) v) ∧ (∀ σ : AHeap, b < σ.n → σ.t.get b = some (roRow (flatL cells l) es) → SlP cells es σ a1 l) ∧
      (∀ L, loc = some L → L.es = es ∧ L.blk < w.heap.size ∧ ∀ ρ, RowAt ρ w (Tr.of (flatL cells l)) (flatL cells l).length false L) := by
  rcases Deep.open_slice ht h with ⟨h1, _⟩ | ⟨a, len, cap, m, n, D, Pl, h1, _, hlc, _, hm, _, hel⟩
  · simp only [List.cons.injEq, and_true] at h1
    subst h1
    exact ⟨[], none, 0, none, fun ρ _ => .flat rfl, fun _ _ _ => .inl rfl, fun L h => by cases h⟩
  · simp only [List.cons.injEq, and_true] at h1
    subst h1
    simp only [if_true] at hm
    subst hm
    rw [hc] at hel
    by_cases h0 : m = 0
    · subst h0
      have : len = 0 := by omega
      subst this
      exact ⟨[], some a, 0, none, fun ρ _ => .sl0, fun _ _ _ => .inl rfl, fun L h => by cases h⟩
    · have hel' : ∀ i, i < m → ∃ y, w.cells? 0 (a.add (i * es)) es = some (cells y) := fun i hi => by
        obtain ⟨cs', g1, g2⟩ := hel i hi
        obtain ⟨y, rfl⟩ := hcell _ _ _ g2
        exact ⟨y, g1⟩
      obtain ⟨l, l1, l2⟩ := choose_list (p := fun i y => w.cells? 0 (a.add (i * es)) es = some (cells y)) len fun i hi => hel' i (by omega)
      obtain ⟨y0, hy0⟩ := hel' 0 (by omega)
      obtain ⟨_, _, hy0'⟩ := World.cells?_some hy0
      have hc0 := hy0' 0 hes0
      have hlen0 := hes y0
      rw [Nat.zero_mul, List.getElem?_eq_getElem (by omega)] at hc0
      simp only [Addr.add, if_true] at hc0
      obtain ⟨blk, off, sp⟩ := a
      have hheap : ∃ C T fr, w.heap[blk]? = some (.cells C T fr) ∧ sp = none ∧ off < C.size := by
        unfold World.cell? at hc0
        split at hc0
        · next C T fr hh =>
          split at hc0
          · cases hc0
          · next hsp =>
            refine ⟨C, T, fr, hh, by cases sp <;> simp_all, ?_⟩
            exact (Array.getElem?_eq_some_iff.1 hc0).1
        · cases hc0
      obtain ⟨C, T, fr, hh, rfl, hoff⟩ := hheap
      have hblk : blk < w.heap.size := (Array.getElem?_eq_some_iff.1 hh).1
      have hfl := flatL_length hes l
      have hcells : ∀ j, j < l.length * es → C[off + j]? = (flatL cells l)[j]? := by
        intro j hj
        have hq : j / es < l.length := (Nat.div_lt_iff_lt_mul hes0).2 hj
        have hr : j % es < es := Nat.mod_lt _ hes0
        have hj' : j = j / es * es + j % es := by rw [Nat.mul_comm]; exact (Nat.div_add_mod _ _).symm
        have hx := List.getElem?_eq_getElem hq
        generalize l[j / es] = y at hx
        obtain ⟨_, _, g⟩ := World.cells?_some (l2 _ _ hx)
        have g := g (j % es) hr
        rw [add_none, add_none] at g
        unfold World.cell? at g
        rw [hh] at g
        simp only [Option.isSome_none, Bool.false_eq_true, if_false] at g
        rw [hj', flatL_get hes hx hr, ← g]
        congr 1
        omega
      refine ⟨l, some ⟨b, 0, none⟩, 2, some ⟨blk, off, l.length * es, es⟩, fun ρ hρ => ?_, fun σ hb hg => .inr ⟨b, rfl, SlAt_ro hes hb hg⟩, fun L hL => ?_⟩
      · rw [l1]
        exact VR.sl (L := ⟨blk, off, len * es, es⟩) (by rw [hρ, l1]) hlc (by decide) (fun h => by cases h) (.inl rfl)
      · cases hL
        refine ⟨rfl, hblk, fun ρ => ⟨⟨C, T, fr, hh, ?_, Nat.le_of_eq hfl, (fun h => by cases h), fun i v hi hv => ?_⟩⟩⟩
        · by_cases hz : l.length * es = 0
          · rw [hz]; simp; omega
          · have := hcells (l.length * es - 1) (by omega)
            rw [List.getElem?_eq_getElem (by omega)] at this
            have := (Array.getElem?_eq_some_iff.1 this).1
            simp only
            omega
        · rw [Tr.get_of] at hv
          have hmem : scal v = true := by
            have := List.mem_of_getElem? hv
            unfold flatL at this
            rw [List.mem_flatten] at this
            obtain ⟨c, hc1, hc2⟩ := this
            obtain ⟨y, _, rfl⟩ := List.mem_map.1 hc1
            exact hsc y v hc2
          exact ⟨isCell_scal hmem, v, by rw [hcells i (by omega)]; exact hv, .flat (flat_of_scal hmem)⟩
end
end Go.Proofs.YtidmcpkbcphpiaaGreat
namespace Go.Proofs.YtidmcpkbcphpiaaGreat
open Go Go.Hai Go.ChangeShapes Go.WideShapes
set_option maxRecDepth 100000

def heapR (R : List (List Value × Nat)) : AHeap := heapL (R.map fun p => roRow p.1 p.2) R.length
theorem heapR_get {R : List (List Value × Nat)} {k : Nat} {p : List Value × Nat} (h : R[k]? = some p) : (heapR R).t.get k = some (roRow p.1 p.2) := by
  show (Tr.of _).get k = _
  rw [Tr.get_of, List.getElem?_map, h]; rfl
theorem heapR_n (R : List (List Value × Nat)) : (heapR R).n = R.length := by simp [heapR, heapL]
def locsL (ls : List (Option Hai.Loc)) : Ren := fun b => (ls[b]?).getD none
theorem locsL_at {ls : List (Option Hai.Loc)} {b : Nat} {o : Option Hai.Loc} (h : ls[b]? = some o) : locsL ls b = o := by unfold locsL; rw [h]; rfl
def LocOk [Rho] (w : World) (l : List Value) (es : Nat) (loc : Option Hai.Loc) : Prop := ∀ L, loc = some L → L.es = es ∧ L.blk < w.heap.size ∧ ∀ ρ, RowAt ρ w (Tr.of l) l.length false L
def LocsOk [Rho] (w : World) : List (List Value × Nat) → List (Option Hai.Loc) → Prop
  | [], [] => True
  | p :: R, o :: ls => LocOk w p.1 p.2 o ∧ LocsOk w R ls
  | _, _ => False
theorem LocsOk.get [Rho] {w : World} : ∀ {R : List (List Value × Nat)} {ls : List (Option Hai.Loc)}, LocsOk w R ls → ∀ {b : Nat} {L : Hai.Loc}, locsL ls b = some L → ∃ p, R[b]? = some p ∧ LocOk w p.1 p.2 (some L) := by
  intro R
  induction R with
  | nil =>
    intro ls h b L hb
    cases ls with
    | nil => simp [locsL] at hb
    | cons _ _ => exact h.elim
  | cons p R ih =>
    intro ls h b L hb
    cases ls with
    | nil => exact h.elim
    | cons o ls =>
      cases b with
      | zero =>
        have : o = some L := by simpa [locsL] using hb
        subst this
        exact ⟨p, rfl, h.1⟩
      | succ b => exact ih h.2 (b := b) (by simpa [locsL] using hb)
theorem simL [Rho] {w : World} {R : List (List Value × Nat)} {ls : List (Option Hai.Loc)} (h : LocsOk w R ls) : Sim (locsL ls) (heapR R) w := by
  have key : ∀ b L, locsL ls b = some L → b < R.length ∧ ∃ c e, (heapR R).t.get b = some (roRow c e) ∧ L.es = e ∧ L.blk < w.heap.size ∧ ∀ ρ, RowAt ρ w (Tr.of c) c.length false L := by
    intro b L hb
    obtain ⟨p, hp, hl⟩ := h.get hb
    exact ⟨(List.getElem?_eq_some_iff.1 hp).1, p.1, p.2, heapR_get hp, hl L rfl⟩
  refine ⟨fun b L h => by rw [heapR_n]; exact (key b L h).1, ?_, ?_, ?_, ?_, ?_, ?_⟩
  · intro b L h; obtain ⟨_, c, e, _, _, g, _⟩ := key b L h; exact g
  · intro b L h; obtain ⟨_, c, e, g, _⟩ := key b L h; rw [g]; simp
  · intro b L cs len es top rw' fam h hg
    obtain ⟨_, c, e, g, g1, g2, g3⟩ := key b L h
    rw [g] at hg
    simp only [roRow, Option.some.injEq, AObj.row.injEq] at hg
    obtain ⟨rfl, rfl, rfl, rfl, rfl, rfl⟩ := hg
    exact ⟨g1, (fun p hp => by cases hp), fun _ => g3 _⟩
  · intro b L o h hg
    obtain ⟨_, c, e, g, _⟩ := key b L h
    rw [g] at hg
    cases hg
  · intro b b' L L' _ h h' _
    obtain ⟨_, c, e, g, _⟩ := key b L h
    obtain ⟨_, c', e', g', _⟩ := key b' L' h'
    rw [g, g']
    exact .inl ⟨rfl, rfl⟩
  · intro b b' L L' cs len es fam cs' len' es' top' rw' fam' _ h _ _ hg
    obtain ⟨_, c, e, g, _⟩ := key b L h
    rw [g] at hg
    simp only [roRow, Option.some.injEq, AObj.row.injEq] at hg
    simp at hg
theorem awake_of {f : FuncId} {N : Nat} {c : ACode} (he : ofProg Tryz.prog f = some ⟨N, [.tmp 0], c⟩) (rs : List AObj)
    (h : acodeK c (acallK (ofProg Tryz.prog) 1000 110) 1000 (Tr.of []) (heapL rs rs.length) (testN rs.length) (fun _ _ _ => none) (testN rs.length) = some true) (low : Nat) :
    acall (ofProg Tryz.prog) 1000 111 f [] (heapL rs low) = some (.bool true, heapL rs low) := by
  letI : Rho := ⟨fun _ => 0⟩
  rw [acodeK_eq (acallK_eq (ofProg Tryz.prog) 1000 110)] at h
  refine acall_flat he (by simp) rfl ?_
  rw [grow_nil]
  have e : (heapL rs low).fresh = heapL rs rs.length := rfl
  rw [e]
  have fin : ∀ (t : Tmps) (τ : AHeap), testN rs.length t τ = some true → (match resAll t τ [.tmp 0] with | some vs => one vs = .bool true | none => False) ∧ τ.low = rs.length := by
    intro t τ ht
    obtain ⟨a, b, c, d, low⟩ := τ
    replace ht : (Bool.rec none (tgetK t 0 fun v => boolK v none (some false) (some true)) (Nat.beq low rs.length) : A) = some true := ht
    cases hl : Nat.beq low rs.length with
    | false => rw [hl] at ht; cases ht
    | true =>
      rw [hl] at ht
      replace ht : tgetK t 0 (fun v => boolK v none (some false) (some true)) = some true := ht
      rw [tgetK_eq] at ht
      refine ⟨?_, Nat.eq_of_beq_eq_true hl⟩
      simp only [resAll, resOne, one]
      cases hv : tget t 0 with
      | bool r => cases r with
        | true => rfl
        | false => rw [hv] at ht; cases ht
      | _ => rw [hv] at ht; cases ht
  show Hai.Ends _ (finQ rs.length _ _)
  cases hx : acode (acall (ofProg Tryz.prog) 1000 110) 1000 c (Tr.of []) (heapL rs rs.length) with
  | none => rw [hx] at h; cases h
  | some p =>
    obtain ⟨ex, t, τ⟩ := p
    rw [hx] at h
    cases ex with
    | exit i => cases h
    | normal => exact fin t τ h
    | ret => exact fin t τ h

theorem scal_slot (x : SlotD) (v : Value) (h : v ∈ slotL x) : scal v = true := by
  simp at h
  rcases h with h | h | h | h | h <;> subst h <;> rfl
theorem scal_thing (x : ThingD) (v : Value) (h : v ∈ thingL x) : scal v = true := by
  simp at h
  rcases h with h | h | h | h | h | h | h | h | h | h | h | h | h <;> subst h <;> rfl
theorem scal_int (x : Int) (v : Value) (h : v ∈ intL x) : scal v = true := by
  simp at h
  subst h; rfl


theorem Tryz.own : ownKnob Tryz.prog.godebug = none := by kernel_rfl
theorem Tryz.laidOut : laidOutB Tryz.prog = true := by kernel_rfl
section
variable {H : Type} {enc : TypeId × Value → H} {W : World}
theorem state_view [Rho] {cs : Array Value} {d0 : DataW H} {p0 : List MemPlace} (g0 : DataW.Trod enc Tryz.prog W 0 (fun _ => true) true 27 (.agg cs) d0 p0) (b0 b1 : Nat) :
    ∃ (S : StD) (a1 : Option Addr) (f1 : Nat) (a2 : Option Addr) (f2 : Nat) (loc0 loc1 : Option Hai.Loc), (∀ ρ : Ren, ρ b0 = loc0 → ρ b1 = loc1 → VR ρ (stV S a1 f1 a2 f2) (.agg cs)) ∧
      (∀ σ : AHeap, b0 < σ.n → σ.t.get b0 = some (roRow (flatL slotL S.sl) 5) → SlS σ a1 S.sl) ∧ (∀ σ : AHeap, b1 < σ.n → σ.t.get b1 = some (roRow (flatL thingL S.th) 13) → SlT σ a2 S.th) ∧
      LocOk W (flatL slotL S.sl) 5 loc0 ∧ LocOk W (flatL thingL S.th) 13 loc1 := by
  obtain ⟨fuel, hf⟩ := g0
  have hcs : (Value.agg cs).cells.toList = cs.toList := rfl
  rw [hcs] at hf
  obtain ⟨hl, m, hfs⟩ := trod_fields Tryz.underlying27 hf
  rw [co27] at hl
  simp only [List.mem_cons, List.not_mem_nil, or_false, forall_eq_or_imp, forall_eq] at hfs
  obtain ⟨⟨_, k0⟩, ⟨_, k1⟩, ⟨_, k2⟩⟩ := hfs
  obtain ⟨ds, hds⟩ : ∃ ds, cs.toList = ds := ⟨_, rfl⟩
  rw [hds] at hl k0 k1 k2
  match ds, hl with
  | [c0, c1, c2, c3, c4], _ =>
    simp only [co23, co24, co25, List.drop_zero, List.take_succ_cons, List.take_zero, List.drop_succ_cons] at k0 k1 k2
    obtain ⟨hl0, m0, hf0⟩ := trod_fields Tryz.underlying23 k0
    simp only [List.mem_cons, List.not_mem_nil, or_false, forall_eq_or_imp, forall_eq] at hf0
    obtain ⟨⟨_, j0⟩, ⟨_, j1⟩, ⟨_, j2⟩⟩ := hf0
    simp only [co3, List.drop_zero, List.take_succ_cons, List.take_zero, List.drop_succ_cons] at j0 j1 j2
    obtain ⟨z0, e0⟩ := int_cells j0
    obtain ⟨z1, e1⟩ := int_cells j1
    obtain ⟨z2, e2⟩ := int_cells j2
    simp only [List.cons.injEq, and_true] at e0 e1 e2
    subst e0; subst e1; subst e2
    obtain ⟨sl, a1, f1, loc0, q1, q2, q3⟩ := slice_view (cells := slotL) (es := 5) (fun _ => rfl) (by omega) scal_slot Tryz.underlying24 co80 (fun _ _ _ h => slot_cells h) k1 b0
    obtain ⟨th, a2, f2, loc1, r1, r2, r3⟩ := slice_view (cells := thingL) (es := 13) (fun _ => rfl) (by omega) scal_thing Tryz.underlying25 co85 (fun _ _ _ h => thing_cells h) k2 b1
    refine ⟨⟨z0, z1, z2, sl, th⟩, a1, f1, a2, f2, loc0, loc1, fun ρ h0 h1 => ?_, q2, r2, q3, r3⟩
    have ecs : cs = [i64 z0, i64 z1, i64 z2, c3, c4].toArray := by rw [← hds]
    rw [ecs]
    exact VR.of_agg (.cons (.flat rfl) (.cons (.flat rfl) (.cons (.flat rfl) (.cons (q1 _ h0) (.cons (r1 _ h1) .nil)))))
theorem ints_view [Rho] {v : Value} {d0 : DataW H} {p0 : List MemPlace} (g0 : DataW.Trod enc Tryz.prog W 0 (fun _ => true) true 28 v d0 p0) (hv : v.cells.toList = [v]) (b : Nat) :
    ∃ (l : List Int) (a : Option Addr) (f : Nat) (loc : Option Hai.Loc), (∀ ρ : Ren, ρ b = loc → VR ρ (.slice a l.length f) v) ∧
      (∀ σ : AHeap, b < σ.n → σ.t.get b = some (roRow (flatL intL l) 1) → SlI σ a l) ∧ LocOk W (flatL intL l) 1 loc := by
  obtain ⟨fuel, hf⟩ := g0
  rw [hv] at hf
  exact slice_view (cells := intL) (es := 1) (fun _ => rfl) (by omega) scal_int Tryz.underlying28 co3 (fun _ _ _ h => int_cells h) hf b
/- a law's call -/
theorem law_calls [Rho] {f : FuncId} {d : Nat} {R : List (List Value × Nat)} {ls : List (Option Hai.Loc)} {args : List Value} {vs : Array Value} (hrun : acall (ofProg Tryz.prog) 1000 d f args (heapR R) = some (.bool true, heapR R))
    (hl : LocsOk W R ls) (ha : VRs (locsL ls) args vs.toList) : Calls Tryz.prog f vs W fun e W' => e = .returned (.bool true) ∧ W'.os = W.os ∧ W'.output = W.output ∧ ∀ B, B < W.heap.size → W'.heap[B]? = W.heap[B]? := by
  obtain ⟨_, _, hC⟩ := acall_ok (ofProg_ok (P := Tryz.prog)) d _ _ _ _ _ hrun
  have hsim := simL hl
  have hC' := hC _ W _ hsim ha
  refine hC'.mono ?_
  rintro e w' ⟨u, ρ', rfl, hvu, hp⟩
  rw [bool_eq hvu]
  refine ⟨rfl, hp.io.1, hp.io.2, fun B hB => hp.frame B hB ?_⟩
  rintro ⟨b, L, u1, _, _, u2⟩
  obtain ⟨p, hp, _⟩ := hl.get u1
  rw [heapR_get hp] at u2
  cases u2
theorem trodAll_stays {P : Program} (hl : laidOutB P = true) {W' : World} {sp' : Nat → Bool} : ∀ {ts : List TypeId} {vs : List Value} {ds : List (DataW H)} {ps : List MemPlace}, (∀ t ∈ ts, P.readableRec t = true ∧ t < P.types.size) →
    DataW.TrodAll enc P W 0 (fun _ => true) true ts vs ds ps → (∀ p ∈ ps, W.sameAt W' p) → (∀ p ∈ ps, sp' p.block = true) → DataW.TrodAll enc P W' 0 sp' true ts vs ds ps := by
  intro ts
  induction ts with
  | nil =>
    intro vs ds ps _ h _ _
    obtain ⟨rfl, rfl, rfl⟩ := trodAll_nil h
    exact trodAll_mk0
  | cons t ts ih =>
    intro vs ds ps ht h hs hp
    obtain ⟨v, vs', d, ds', p, q, rfl, rfl, rfl, h1, h2⟩ := trodAll_cons h
    obtain ⟨r1, r2⟩ := ht t (by simp)
    exact ⟨p, q, WideElems.Trod_stays hl r1 r2 h1 (fun x hx => hs x (by simp [hx])) (fun x hx => hp x (by simp [hx])), ih (fun t ht' => ht t (by simp [ht'])) h2 (fun x hx => hs x (by simp [hx])) (fun x hx => hp x (by simp [hx])), rfl⟩
end
end Go.Proofs.YtidmcpkbcphpiaaGreat
namespace Go.Proofs.YtidmcpkbcphpiaaGreat
open Go Go.Hai
def r0_reevelaw17_awake : List AOper := [(.mk (some 0) none (.mv (.const (.bool false))))]
def r1_reevelaw17_awake : List AOper := [(.mk (some 6) none (.call 97 [])), (.mk (some 7) none (.buildSl [(.int .i64 0)] 1 1 [(0, (1, (.const (.int .i64 1))))])), (.mk (some 8) none (.call 40 [(.tmp 7)])), (.mk (some 9) none (.buildSl [(.int .i64 0)] 1 1 [(0, (1, (.const (.int .i64 2))))])), (.mk (some 10) none (.call 40 [(.tmp 9)])), (.mk (some 11) none (.build [(.int .i64 0), (.slice none 0 0), (.slice none 0 0), (.int .i64 0), (.int .i64 0), (.int .u64 0)] [(0, (1, (.const (.int .i64 2)))), (1, (1, (.tmp 8))), (2, (1, (.tmp 10))), (3, (1, (.const (.int .i64 7))))])), (.mk (some 12) none (.call 42 [(.tmp 6), (.const (.int .i64 0)), (.tmp 11)])), (.mk (some 5) none (.mv (.tmp 12))), (.mk (some 13) none (.ext (.tmp 5) 0)), (.mk (some 14) none (.ext (.tmp 5) 1)), (.mk (some 1) none (.alloc [(.int .i64 0), (.int .i64 0), (.int .i64 0), (.slice none 0 0), (.slice none 0 0)] 5)), (.mk (some 2) none (.alloc [(.int .i64 0), (.int .u64 0), (.int .i64 0)] 3)), (.mk none none (.store 5 (.tmp 1) (.tmp 13))), (.mk none none (.store 3 (.tmp 2) (.tmp 14)))]
def r2_reevelaw17_awake : List AOper := [(.mk (some 16) none (.load true 5 (.tmp 1))), (.mk (some 17) none (.buildSl [(.int .i64 0)] 1 1 [(0, (1, (.const (.int .i64 2))))])), (.mk (some 18) none (.call 40 [(.tmp 17)])), (.mk (some 19) none (.buildSl [(.int .i64 0)] 1 1 [(0, (1, (.const (.int .i64 3))))])), (.mk (some 20) none (.call 40 [(.tmp 19)])), (.mk (some 21) none (.build [(.int .i64 0), (.slice none 0 0), (.slice none 0 0), (.int .i64 0), (.int .i64 0), (.int .u64 0)] [(0, (1, (.const (.int .i64 2)))), (1, (1, (.tmp 18))), (2, (1, (.tmp 20))), (3, (1, (.const (.int .i64 7))))])), (.mk (some 22) none (.call 42 [(.tmp 16), (.const (.int .i64 0)), (.tmp 21)])), (.mk (some 15) none (.mv (.tmp 22))), (.mk (some 23) none (.ext (.tmp 15) 0)), (.mk (some 24) none (.ext (.tmp 15) 1)), (.mk none none (.store 5 (.tmp 1) (.tmp 23)))]
def r3_reevelaw17_awake : List AOper := [(.mk (some 26) none (.load true 5 (.tmp 1))), (.mk (some 27) none (.buildSl [(.int .i64 0)] 1 1 [(0, (1, (.const (.int .i64 2))))])), (.mk (some 28) none (.call 40 [(.tmp 27)])), (.mk (some 29) none (.build [(.int .i64 0), (.slice none 0 0), (.slice none 0 0), (.int .i64 0), (.int .i64 0), (.int .u64 0)] [(0, (1, (.const (.int .i64 6)))), (1, (1, (.tmp 28)))])), (.mk (some 30) none (.call 43 [(.tmp 26), (.const (.int .i64 0)), (.tmp 29)])), (.mk (some 25) none (.mv (.tmp 30))), (.mk (some 31) none (.ext (.tmp 25) 0)), (.mk (some 32) none (.ext (.tmp 25) 1)), (.mk (some 3) none (.alloc [(.int .i64 0), (.int .i64 0), (.int .i64 0), (.slice none 0 0), (.slice none 0 0)] 5)), (.mk (some 4) none (.alloc [(.int .i64 0), (.int .u64 0), (.int .i64 0)] 3)), (.mk none none (.store 5 (.tmp 3) (.tmp 31))), (.mk none none (.store 3 (.tmp 4) (.tmp 32)))]
def r4_reevelaw17_awake : List AOper := [(.mk (some 33) none (.load true 3 (.tmp 4))), (.mk (some 34) none (.build [(.int .i64 0), (.int .u64 0), (.int .i64 0)] [(2, (1, (.const (.int .i64 1))))])), (.mk (some 35) none (.eqS false [(0, 0), (1, 0), (2, 0)] (.tmp 33) (.tmp 34))), (.mk (some 36) none (.mv (.tmp 35))), (.mk (some 37) (some (36, true)) (.fldA 3 (.tmp 3))), (.mk (some 38) (some (36, true)) (.load false 1 (.tmp 37))), (.mk (some 39) (some (36, true)) (.lenS (.tmp 38))), (.mk (some 40) (some (36, true)) (.bin .eql (.tmp 39) (.const (.int .i64 32)))), (.mk (some 41) none (.pick (.tmp 36) (.tmp 40) (.const (.bool false)))), (.mk (some 42) none (.mv (.tmp 41))), (.mk (some 43) (some (42, true)) (.fldA 3 (.tmp 3))), (.mk (some 44) (some (42, true)) (.load false 1 (.tmp 43))), (.mk (some 45) (some (42, true)) (.idxA 5 (.tmp 44) (.const (.int .i64 3)))), (.mk (some 46) (some (42, true)) (.fldA 0 (.tmp 45))), (.mk (some 47) (some (42, true)) (.load true 4 (.tmp 46))), (.mk (some 48) (some (42, true)) (.call 38 [(.tmp 47)])), (.mk (some 49) none (.pick (.tmp 42) (.tmp 48) (.const (.bool false)))), (.mk (some 50) none (.mv (.tmp 49))), (.mk (some 51) (some (50, true)) (.fldA 3 (.tmp 3))), (.mk (some 52) (some (50, true)) (.load false 1 (.tmp 51))), (.mk (some 53) (some (50, true)) (.idxA 5 (.tmp 52) (.const (.int .i64 2)))), (.mk (some 54) (some (50, true)) (.fldA 0 (.tmp 53))), (.mk (some 55) (some (50, true)) (.load true 4 (.tmp 54))), (.mk (some 56) (some (50, true)) (.call 38 [(.tmp 55)])), (.mk (some 57) (some (50, true)) (.un .not (.tmp 56))), (.mk (some 58) none (.pick (.tmp 50) (.tmp 57) (.const (.bool false)))), (.mk (some 0) none (.mv (.tmp 58)))]
def k3_reevelaw17_awake : ACode := (.seq (.reg r4_reevelaw17_awake) .ret)
def k2_reevelaw17_awake : ACode := (.seq (.drw r3_reevelaw17_awake [0, 0, 2, 6, 15, 31, 63, 63, 0, 0, 895, 2047]) k3_reevelaw17_awake)
def k1_reevelaw17_awake : ACode := (.seq (.drw r2_reevelaw17_awake [0, 0, 2, 0, 14, 30, 63, 127, 255, 255, 511]) k2_reevelaw17_awake)
def k0_reevelaw17_awake : ACode := (.seq (.reg r1_reevelaw17_awake) k1_reevelaw17_awake)
def c_reevelaw17_awake : ACode := (.seq (.reg r0_reevelaw17_awake) k0_reevelaw17_awake)
theorem e_reevelaw17_awake : ofProg Tryz.prog 37 = some ⟨59, [(.tmp 0)], c_reevelaw17_awake⟩ := by kernel_rfl

set_option maxHeartbeats 20000000 in
theorem awake17_runs : (fun r0 r1 r2 : AObj => acodeK c_reevelaw17_awake (acallK (ofProg Tryz.prog) 1000 110) 1000 (Tr.of []) (heapL [r0, r1, r2] 3) (testN 3) (fun _ _ _ => none) (testN 3)) = fun _ _ _ => some true := by kernel_rfl
end Go.Proofs.YtidmcpkbcphpiaaGreat
namespace Go.Proofs.YtidmcpkbcphpiaaGreat
open Go Go.Hai Go.ChangeShapes Go.WideShapes Go.ChangeAt Go.RowKit
set_option maxRecDepth 100000
set_option maxHeartbeats 8000000

instance : Hai.Rho := ⟨fun _ => 0⟩

theorem TakeAll_112 (S : StD) (a1 : Option Addr) (f1 : Nat) (a2 : Option Addr) (f2 : Nat) (c0 c1 : List Value × Nat) (h1 : SlS (heapR [c0, c1]) a1 S.sl) (h2 : SlT (heapR [c0, c1]) a2 S.th) :
    acall (ofProg Tryz.prog) 1000 112 5 [stV S a1 f1 a2 f2] (heapR [c0, c1]) = some (.bool true, heapR [c0, c1]) := by
  have hA : acall (ofProg Tryz.prog) 1000 111 37 [] ((heapR [c0, c1]).fresh.grow [(stL S a1 f1 a2 f2, 5)]) = some (.bool true, (heapR [c0, c1]).fresh.grow [(stL S a1 f1 a2 f2, 5)]) :=
    awake_of e_reevelaw17_awake [roRow c0.1 c0.2, roRow c1.1 c1.2, rowOf (stL S a1 f1 a2 f2, 5)] (congrFun (congrFun (congrFun awake17_runs _) _) _) 2
  by_cases hm : S.th.length ≤ 100
  · have h := TakeAll_ok (102 - S.th.length) (heapR [c0, c1]) S a1 f1 a2 f2 rfl h1 h2
    rw [show 102 - S.th.length + S.th.length + 9 = 111 by omega, show 102 - S.th.length + S.th.length + 10 = 112 by omega] at h
    exact h hA
  · exact TakeAll_far 111 (heapR [c0, c1]) S a1 f1 a2 f2 (by omega) hA

theorem takeAll_lifted (os : Os) (started : os.Started) (H : Type) (enc : TypeId × Value → H) :
    ReturnsInHanded {} Tryz.checked os 5 .any (Rows.takeAllSpec.pre6 enc Tryz.prog Tryz.f5 Rows.takeAllRow.domain false) (Rows.takeAllSpec.post enc Tryz.prog Tryz.f5 false true false false) := by
  refine returnsInHanded_of_change (C := Tryz.checked) Tryz.own started (by kernel_rfl) Tryz.func5
    (ChangeSpec.witness6 (enc := enc) (C := Tryz.checked) false ⟨#[], #[.agg #[.int .i64 0, .int .i64 0, .int .i64 0, .slice none 0 0, .slice none 0 0]], []⟩ 8 (by kernel_rfl) (by kernel_rfl) (by kernel_rfl) (by kernel_rfl)) ?_
  intro W base args ds gs before hval0 hW hcnd _
  have hval : ∀ (j : Nat) t v, Tryz.f5.params[j]? = some t → args[j]? = some v → Value.okWide Tryz.prog W .any base t v := hval0
  have hW' := hW
  obtain ⟨p, q, hA0, hV, rfl, hfz, hnd⟩ := hW
  have hA : DataW.TrodAll enc Tryz.prog W 0 (fun _ => true) true Tryz.f5.params.toList args.toList ds p := hA0
  have hAll := hA
  rw [Tryz.params5] at hA hval
  obtain ⟨v0, d0, rfl, rfl, g0⟩ := trodAll_one hA
  obtain ⟨rfl, rfl⟩ := trodVars_none hV
  obtain ⟨cs, rfl, hsz⟩ := okWide_struct Tryz.underlying27 (hval 0 27 v0 rfl rfl)
  clear hA0 hval0
  obtain ⟨S, a1, f1, a2, f2, loc0, loc1, q1, q2, q3, q4, q5⟩ := state_view g0 0 1
  have hrun := TakeAll_112 S a1 f1 a2 f2 (flatL slotL S.sl, 5) (flatL thingL S.th, 13) (q2 _ (Nat.le_of_ble_eq_true rfl) (heapR_get (k := 0) (p := (flatL slotL S.sl, 5)) rfl)) (q3 _ (Nat.le_of_ble_eq_true rfl) (heapR_get (k := 1) (p := (flatL thingL S.th, 13)) rfl))
  have hcalls := law_calls (W := W) (ls := [loc0, loc1]) (vs := #[.agg cs]) hrun ⟨q4, q5, trivial⟩ (.cons (q1 _ rfl rfl) .nil)
  refine hcalls.mono fun e W' ⟨he, h1, h2, h3⟩ => ?_
  subst he
  have hlt : ∀ x ∈ p, x.block < W.heap.size := fun x hx => hW'.lt x (by simpa using hx)
  have same : ∀ x : MemPlace, x.block < W.heap.size → W.sameAt W' x := fun x hx => by
    cases x with
    | cell b o => exact World.cell?_of_block (w := W) (h3 b hx)
    | map b => exact h3 b hx
  have tA := trodAll_stays (W' := W') (sp' := fun b => decide (b < W.heap.size)) Tryz.laidOut (of_decide_eq_true (by kernel_rfl)) hAll (fun x hx => same x (hlt x hx)) (fun x hx => by simpa using hlt x hx)
  exact ⟨_, rfl, [d0], [], _, [], _, [], hW', trodAll_mk1 (shut_bool Tryz.underlying4 true), tA, by trivial, Hai.kept_of h1 h2 h3, fun h => by cases h⟩

theorem takeAll_holds : Rows.TakeAllSaid :=
  OpenClaim.holds_of_wide 5 Tryz.f5 rfl rfl rfl rfl rfl rfl rfl ⟨rfl, rfl, rfl, rfl, rfl⟩ rfl rfl rfl rfl rfl (by kernel_rfl) Tryz.func5 (by kernel_rfl)
    (of_decide_eq_true (by kernel_rfl)) (by unfold Func.isWrapper; first | (rw [if_pos (by decide +kernel)]; kernel_rfl) | (rw [if_neg (by decide +kernel)]; exact ⟨rfl, rfl⟩))
    (fun os started H enc _ => takeAll_lifted os started H enc)
#print axioms takeAll_holds
end Go.Proofs.YtidmcpkbcphpiaaGreat
