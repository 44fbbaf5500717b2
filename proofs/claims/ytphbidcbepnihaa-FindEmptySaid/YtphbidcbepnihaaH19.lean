/-
  The abstract interpreter: a region whose order is open: in whatever order its operations are carried out, the same comes of it (6). No proof of the program stands here.
-/
import Derived.Test.YtphbidcbepnihaaH18
namespace Go.Hai
open Go

theorem compOps_get [Rho] {P : Program} {N : Nat} {all : List Oper} : ∀ (os : List Oper) (l : List AOper), compOps P N all os = some l → l.length = os.length ∧ ∀ (j : Nat) (o : Oper) (a : AOper), os[j]? = some o → l[j]? = some a → compOper P N all o = some a := by
  intro os
  induction os with
  | nil => intro l h; simp only [compOps] at h; cases h; exact ⟨rfl, fun j o a h => by simp at h⟩
  | cons o os ih =>
    intro l h
    obtain ⟨a, l', h1, h2, rfl⟩ := compOps_cons h
    obtain ⟨q1, q2⟩ := ih l' h2
    refine ⟨by simp [q1], fun j o' a' ho ha => ?_⟩
    cases j with
    | zero => simp at ho ha; subst ho; subst ha; exact h1
    | succ j => exact q2 j o' a' (by simpa using ho) (by simpa using ha)

theorem road_of [Rho] {P : Program} {call : CallF} {N : Nat} {ops : List Oper} {l : List AOper} {bef : List Nat} {t t' : Tmps} {σ σ' : AHeap} {ks : List AKind} (hc : compOps P N ops ops = some l) (ho : orderOk ops l bef = true)
    (hr : runDraw call l t σ = some (t', σ', ks)) (hd : drawOk (risks (marks l bef) 0) ks = true) : ∃ R : Road P call N, R.ops = ops ∧ R.T 0 = t ∧ R.S 0 = σ ∧ R.T R.n = t' ∧ R.S R.n = σ' := by
  obtain ⟨hl, hb, htab, hpair⟩ := orderOk_inv ho
  obtain ⟨T, S, V, K, e1, e2, e3, e4, e5, e6, e7⟩ := trace_of l t σ t' σ' ks hr
  refine ⟨{ ops := ops, l := l, bef := bef, T := T, S := S, V := V, K := K, hl := hl, hcomp := (compOps_get ops l hc).2, back := fun j o h => (htab j o h).1, table := fun j o h => (htab j o h).2, pairs := hpair, steps := e7, order := ?_ }, rfl, e1, e2, ?_, ?_⟩
  · intro i j hij hj he
    have hbi : bef[i]? = some (bef.getD i 0) := by rw [List.getD_eq_getElem?_getD, List.getElem?_eq_getElem (by omega)]; rfl
    have hbj : bef[j]? = some (bef.getD j 0) := by rw [List.getD_eq_getElem?_getD, List.getElem?_eq_getElem (by omega)]; rfl
    cases ht : Nat.testBit (bef.getD j 0) i with
    | true => exact .inl rfl
    | false =>
      have hli : l[i]? = some (l[i]'(by omega)) := List.getElem?_eq_getElem _
      have hlj : l[j]? = some (l[j]'(by omega)) := List.getElem?_eq_getElem _
      have hmi : (marks l bef)[i]? = some (bef.getD i 0, mayEff (l[i]'(by omega)).op) := by unfold marks; rw [List.getElem?_zipWith, hli, hbi]
      have hmj : (marks l bef)[j]? = some (bef.getD j 0, mayEff (l[j]'(by omega)).op) := by unfold marks; rw [List.getElem?_zipWith, hlj, hbj]
      have hmay : (mayEff (l[i]'(by omega)).op || mayEff (l[j]'(by omega)).op) = true := by
        rcases he with he | he
        · rw [eff_may (e7 i _ hli) he]; rfl
        · rw [eff_may (e7 j _ hlj) he, Bool.or_true]
      have hmem := mem_risks (marks l bef) 0 i j _ _ _ _ hij hmi hmj hmay (by rw [Nat.zero_add]; exact ht)
      have := drawOk_get ks _ hd _ hmem
      rw [Nat.zero_add, Nat.zero_add] at this
      simp only [e6 i (by omega), e6 j (by omega), pairB, Bool.or_eq_true, Bool.and_eq_true, Bool.not_eq_true'] at this
      rcases this with (⟨h1, h2⟩ | h) | h
      · rcases he with he | he
        · rw [h1] at he; cases he
        · rw [h2] at he; cases he
      · exact .inr (.inl h)
      · exact .inr (.inr h)
  · show T ops.length = t'
    rw [← hl, e3]
  · show S ops.length = σ'
    rw [← hl, e4]

theorem count_add [Rho] {L : Nat → Bool} {j : Nat} (hL : L j = false) : ∀ (l : List Nat), (l.filter fun k => !(Road.add L j k)).length ≤ (l.filter fun k => !(L k)).length ∧ (j ∈ l → (l.filter fun k => !(Road.add L j k)).length < (l.filter fun k => !(L k)).length) := by
  intro l
  induction l with
  | nil => simp
  | cons x l ih =>
    by_cases hx : x = j
    · subst hx
      simp only [List.filter_cons, Road.add_same, hL, Bool.not_true, Bool.not_false, if_true, Bool.false_eq_true, if_false, List.length_cons]
      exact ⟨by omega, fun _ => by omega⟩
    · simp only [List.filter_cons, Road.add_other hx]
      cases L x
      · simp only [Bool.not_false, if_true, List.length_cons, List.mem_cons]
        exact ⟨by omega, fun h => by have := ih.2 (h.resolve_left fun h => hx h.symm); omega⟩
      · simp only [Bool.not_true, Bool.false_eq_true, if_false, List.mem_cons]
        exact ⟨by omega, fun h => ih.2 (h.resolve_left fun h => hx h.symm)⟩

namespace Road
variable {P : Program} {call : CallF} {N : Nat} (R : Road P call N)

theorem inv_init [Rho] (hcall : CallOk P call) {ρ : Ren} {w : World} {a : Act} (hs : Sim ρ (R.S 0) w) (ht : TR ρ N (R.T 0) a) : R.Inv ρ w (fun _ => false) a ρ w where
  size := ht.size
  defers := ht.defers
  closed := fun j o h => by cases h
  tmp := fun τ => ⟨(R.S 0).n, tget (R.T 0) τ, .inr ⟨fun i a _ h => (by cases h), rfl, rfl⟩, by rw [res_eq hs.dom]; exact ht.val τ⟩
  own := fun b M h => .inl h
  dom0 := hs.dom
  cur := ⟨0, Nat.zero_le _, fun j h => by omega, fun j _ _ _ => rfl⟩
  heap := fun i hi => by
    have hag := R.ag hcall (Nat.zero_le i) hi.1 fun k _ hk => by
      cases he : isEff (R.K k) with
      | false => rfl
      | true => have := hi.2.1 k hk he; cases this
    rw [res_eq fun b M h => Nat.lt_of_lt_of_le (hs.dom b M h) hag.n]
    exact sim_ag hag hs
  le := Ren.le_refl _
  new := fun b M h => .inl h
  sizew := Nat.le_refl _
  frame := fun B _ _ => rfl
  io := ⟨rfl, rfl⟩

theorem inv_end [Rho] (hcall : CallOk P call) {ρ0 ρ : Ren} {w0 w : World} {L : Nat → Bool} {a : Act} (I : R.Inv ρ0 w0 L a ρ w) (hall : ∀ j, j < R.n → L j = true) : TR ρ N (R.T R.n) a ∧ Post ρ0 (R.S 0) w0 ρ (R.S R.n) w := by
  have hcur : R.Cur L R.n := ⟨Nat.le_refl _, fun j hj _ => hall j hj, fun j h1 h2 _ => by omega⟩
  have hdom : ∀ b M, ρ b = some M → b < (R.S R.n).n := by
    intro b M h
    rcases I.own b M h with h | ⟨j, hj, _, _, h⟩
    · exact Nat.lt_of_lt_of_le (I.dom0 b M h) (R.Smono hcall (Nat.zero_le _) (Nat.le_refl _)).n
    · exact Nat.lt_of_lt_of_le h (R.Smono hcall (show j + 1 ≤ R.n from hj) (Nat.le_refl _)).n
  refine ⟨⟨I.size, I.defers, fun τ => ?_⟩, ⟨?_, I.le, I.new, I.sizew, I.frame, I.io⟩⟩
  · obtain ⟨k, val, hlast, hv⟩ := I.tmp τ
    replace hv : VR ρ val (a.tmps.getD τ undef) := hv.mono (res_le _ _)
    rcases hlast with ⟨i, ai, hi, hai, hLi, hd, hmax, rfl, hk⟩ | ⟨hno, rfl, rfl⟩
    · rcases R.T_get (j := R.n) (τ := τ) (Nat.le_refl _) with ⟨i', a', h1, h2, h3, h4, h5⟩ | ⟨h1, h2⟩
      · have e1 := hmax i' a' h2 (hall i' h1) h3
        have e2 := h4 i ai hi hai hd
        have : i = i' := by omega
        subst this
        rw [h5]; exact hv
      · exact absurd hd (h1 i ai hi hai)
    · rcases R.T_get (j := R.n) (τ := τ) (Nat.le_refl _) with ⟨i', a', h1, h2, h3, h4, h5⟩ | ⟨h1, h2⟩
      · exact absurd h3 (hno i' a' h2 (hall i' h1))
      · rw [h2]; exact hv
  · have := I.heap R.n hcur
    rwa [res_eq hdom] at this

theorem all_of_ready [Rho] {L : Nat → Bool} {listed : Array Bool} (hl : ∀ j, j < R.n → listed[j]? = some (L j)) (hr : Region.ready .any R.ops.toArray listed = []) : ∀ j, j < R.n → L j = true := by
  intro j
  induction j using Nat.strongRecOn with
  | _ j ih =>
    intro hj
    cases hL : L j with
    | true => rfl
    | false =>
      exfalso
      obtain ⟨o, _, ho, _⟩ := R.opAt hj
      have : j ∈ Region.ready .any R.ops.toArray listed := by
        unfold Region.ready
        rw [List.mem_filter]
        have hj' : j < R.ops.length := hj
        refine ⟨by simpa using hj', ?_⟩
        have e1 : listed.getD j true = false := by simp [Array.getD_eq_getD_getElem?, hl j hj, hL]
        have e2 : R.ops.toArray[j]? = some o := by simpa using ho
        rw [e1, e2]
        simp only [Bool.not_false, Bool.true_and, Option.map_some, Option.getD_some]
        rw [Array.all_eq_true']
        intro e he
        cases hb : Region.binds .any e with
        | false => rfl
        | true =>
          have hlt := R.back j o ho e (by simpa using he) hb
          have := ih e.on hlt (by omega)
          simp [Array.getD_eq_getD_getElem?, hl e.on (by omega), this]
      rw [hr] at this
      cases this

theorem any_ok [Rho] (hcall : CallOk P call) {ρ0 : Ren} {w0 : World} {Q : Exit → Act → World → Prop} (hQ : ∀ a' w' ρ', TR ρ' N (R.T R.n) a' → Post ρ0 (R.S 0) w0 ρ' (R.S R.n) w' → Q .normal a' w') :
    ∀ (fuel : Nat) (listed : Array Bool) (L : Nat → Bool) (a : Act) (ρ : Ren) (w : World), R.Inv ρ0 w0 L a ρ w → listed.size = R.n → (∀ j, j < R.n → listed[j]? = some (L j)) →
      ((List.range R.n).filter fun k => !(L k)).length ≤ fuel → wpAny P .any R.ops.toArray Q fuel listed a w := by
  intro fuel
  induction fuel with
  | zero =>
    intro listed L a ρ w I hsz hl hc
    have hnil : ((List.range R.n).filter fun k => !(L k)) = [] := List.eq_nil_of_length_eq_zero (by omega)
    have hall : ∀ j, j < R.n → L j = true := by
      intro j hj
      have := List.filter_eq_nil_iff.1 hnil j (by simpa using hj)
      simpa using this
    simp only [wpAny]
    refine ⟨?_, ?_⟩
    · unfold Region.ready
      rw [List.filter_eq_nil_iff]
      intro j hj
      have hj : j < R.n := by have := List.mem_range.1 hj; simpa [Road.n] using this
      simp [Array.getD_eq_getD_getElem?, hl j hj, hall j hj]
    · obtain ⟨h1, h2⟩ := R.inv_end hcall I hall
      exact hQ a w ρ h1 h2
  | succ fuel ih =>
    intro listed L a ρ w I hsz hl hc
    simp only [wpAny]
    refine ⟨fun hr => ?_, fun j hj => ?_⟩
    · obtain ⟨h1, h2⟩ := R.inv_end hcall I (R.all_of_ready hl hr)
      exact hQ a w ρ h1 h2
    · unfold Region.ready at hj
      rw [List.mem_filter] at hj
      obtain ⟨hj1, hj2⟩ := hj
      have hjn : j < R.n := by have := List.mem_range.1 hj1; simpa [Road.n] using this
      obtain ⟨o, _, ho, _⟩ := R.opAt hjn
      have e2 : R.ops.toArray[j]? = some o := by simpa using ho
      rw [e2] at hj2
      simp only [Array.getD_eq_getD_getElem?, hl j hjn, Option.getD_some, Option.map_some, Bool.and_eq_true, Bool.not_eq_true'] at hj2
      obtain ⟨hL, hr⟩ := hj2
      have hready : R.Ready L j := by
        intro o' ho' e he hb
        rw [ho] at ho'; cases ho'
        rw [Array.all_eq_true'] at hr
        have := hr e (by simpa using he)
        rw [hb] at this
        have hlt := R.back j o ho e he hb
        simpa [Array.getD_eq_getD_getElem?, hl e.on (by omega)] using this
      refine R.step hcall I hjn hL hready fun a' ρ' w' I' => ?_
      refine ih _ (add L j) a' ρ' w' I' (by simpa using hsz) ?_ ?_
      · intro k hk
        by_cases hkj : k = j
        · subst hkj
          rw [add_same]
          simp [hsz, hk]
        · rw [add_other hkj, Array.getElem?_setIfInBounds_ne (fun h => hkj h.symm)]
          exact hl k hk
      · have := (count_add hL (List.range R.n)).2 (by simpa using hjn)
        omega
end Road

/- a region whose order is drawn -/
theorem runDraw_ok [Rho] {P : Program} {call : CallF} (hcall : CallOk P call) {N : Nat} {ops : Array Oper} {l : List AOper} {bef : List Nat} {t t' : Tmps} {σ σ' : AHeap} {ks : List AKind} (hc : compOps P N ops.toList ops.toList = some l) (ho : orderOk ops.toList l bef = true)
    (hm : P.follows .mixedOrders = true) (hr : runDraw call l t σ = some (t', σ', ks)) (hd : drawOk (risks (marks l bef) 0) ks = true) {ρ : Ren} {w : World} {a : Act} (hs : Sim ρ σ w) (ht : TR ρ N t a)
    {Q : Exit → Act → World → Prop} (hQ : ∀ a' w' ρ', TR ρ' N t' a' → Post ρ σ w ρ' σ' w' → Q .normal a' w') (id : Nat) : (Code.region id ops true).wp P Q a w := by
  obtain ⟨R, e1, rfl, rfl, rfl, rfl⟩ := road_of hc ho hr hd
  refine wp_region_any hm ?_
  have hn : R.n = ops.size := by show R.ops.length = _; rw [e1]; simp
  have e : ops = R.ops.toArray := by rw [e1]
  rw [e]
  have hs' : Sim ρ (R.S 0) { w with drawn := w.drawn + 1 } := sim_drew (w := w) rfl hs
  have := R.any_ok hcall (ρ0 := ρ) (w0 := { w with drawn := w.drawn + 1 }) (Q := Q) (fun a' w' ρ' h1 h2 => hQ a' w' ρ' h1 ⟨h2.sim, h2.ren, h2.new, h2.size, h2.frame, h2.io⟩)
    R.ops.toArray.size (Array.replicate R.ops.toArray.size false) (fun _ => false) a ρ _ (R.inv_init hcall hs' ht) (by simp [Road.n]) (fun j hj => by
      have : j < R.ops.length := hj
      simp [this]) (by
      refine Nat.le_trans (List.length_filter_le _ _) ?_
      simp [Road.n])
  exact this
end Go.Hai
