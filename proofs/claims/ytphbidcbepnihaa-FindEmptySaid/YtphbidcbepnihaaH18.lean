/-
  The abstract interpreter: a region whose order is open: in whatever order its operations are carried out, the same comes of it (5). No proof of the program stands here.
-/
import Derived.Test.YtphbidcbepnihaaH17
namespace Go.Hai
open Go

namespace Road
variable {P : Program} {call : CallF} {N : Nat} (R : Road P call N)

/- the road of one more operation that changes nothing that was there -/
theorem add_still [Rho] (hcall : CallOk P call) {ρ0 : Ren} {w0 : World} {L : Nat → Bool} {a : Act} {ρ : Ren} {w : World} (I : R.Inv ρ0 w0 L a ρ w) {j i : Nat} {o : Oper} {ao : AOper} (hj : j < R.n) (ho : R.ops[j]? = some o) (hao : R.l[j]? = some ao)
    (hL : L j = false) (hr : R.Ready L j) (hk : isEff (R.K j) = false) (hi : R.Cur L i) (hnear : i = j ∨ (j < i ∧ ∀ c, R.Cur L c → i ≤ c) ∨ (i < j ∧ ∀ c, R.Cur L c → c ≤ i))
    {ρ' : Ren} {w' : World} {u : Value} {m : Nat} (hm : m = (R.S i).n ∨ (i = j ∧ m = (R.S (j + 1)).n)) (hsim : i = j → Sim ρ' (R.S (j + 1)) w')
    (hdom : ∀ b M, ρ' b = some M → b < m) (hv : VR ρ' (R.V j) u) (hre : (res ρ (R.S i).n).le ρ')
    (hnew : ∀ b M, ρ' b = some M → res ρ (R.S i).n b = some M ∨ ((R.S i).n ≤ b ∧ w.heap.size ≤ M.blk)) (hsz : w.heap.size ≤ w'.heap.size) (hfr : ∀ B, B < w.heap.size → w'.heap[B]? = w.heap[B]?) (hio : SameIO w w') :
    ∃ ρ'', R.Inv ρ0 w0 (add L j) (a.put o.dst u) ρ'' w' := by
  have hdst := compOper_inv (R.hcomp j o ao ho hao)
  -- no name of the new ones was given
  have hfree : ∀ b, (R.S i).n ≤ b → b < m → ρ b = none := by
    intro b h1 h2
    cases hb : ρ b with
    | none => rfl
    | some M =>
      exfalso
      rcases hm with hm | ⟨rfl, hm⟩
      · omega
      · rcases I.own b M hb with h | ⟨k, hkn, hLk, g1, g2⟩
        · have := I.dom0 b M h
          have := (R.Smono hcall (Nat.zero_le i) hi.1).n
          omega
        · have hki : k ≠ i := by rintro rfl; rw [hL] at hLk; cases hLk
          rcases Nat.lt_or_gt_of_ne hki with h | h
          · have := (R.Smono hcall (show k + 1 ≤ i by omega) hi.1).n; omega
          · have := (R.Smono hcall (show i + 1 ≤ k by omega) (by omega)).n; omega
  let ρ'' : Ren := fun b => match ρ b with | some M => some M | none => ρ' b
  have hle : ρ.le ρ'' := fun b M h => by simp only [ρ'', h]
  have hle' : ρ'.le ρ'' := by
    intro b M h
    rcases hnew b M h with g | ⟨g, _⟩
    · exact hle b M (res_some g).2
    · simp only [ρ'', hfree b g (hdom b M h)]; exact h
  have hcase : ∀ b M, ρ'' b = some M → ρ b = some M ∨ (ρ b = none ∧ ρ' b = some M ∧ (R.S i).n ≤ b ∧ b < m ∧ w.heap.size ≤ M.blk) := by
    intro b M h
    simp only [ρ''] at h
    cases hb : ρ b with
    | some M' => rw [hb] at h; exact .inl h
    | none =>
      rw [hb] at h
      simp only at h
      rcases hnew b M h with g | ⟨g, g'⟩
      · rw [(res_some g).2] at hb; cases hb
      · exact .inr ⟨rfl, h, g, hdom b M h, g'⟩
  have hcur := fun c => R.cur_add (L := L) hk c
  refine ⟨ρ'', ?_, ?_, R.add_closed I.closed hr, ?_, ?_, I.dom0, ?_, ?_, Ren.le_trans I.le hle, ?_, Nat.le_trans I.sizew hsz, ?_, hio.1.trans I.io.1, hio.2.trans I.io.2⟩
  · cases o.dst <;> simp [Act.put, I.size]
  · cases o.dst <;> exact I.defers
  · refine R.tmp_add (k := m) hj ho hao hdst.1 hdst.2.2 I.closed hL hr I.size I.tmp hle (hv.mono fun b M h => res_of (hdom b M h) (hle' b M h)) ?_ (fun c hc => ⟨c, (hcur c).1 hc, Nat.le_refl _⟩)
    intro c hc
    replace hc := (hcur c).1 hc
    rcases hm with hm | ⟨_, hm⟩
    · rcases hnear with h | ⟨_, h⟩ | ⟨h, _⟩
      · subst h
        have := (R.Smono hcall (show i ≤ i + 1 by omega) (by omega)).n
        omega
      · have := (R.Smono hcall (h c hc) hc.1).n
        omega
      · have := (R.Smono hcall (show i ≤ j + 1 by omega) (by omega)).n
        omega
    · omega
  · intro b M h
    rcases hcase b M h with g | ⟨_, g1, g2, g3, _⟩
    · rcases I.own b M g with q | ⟨k, q1, q2, q3, q4⟩
      · exact .inl q
      · refine .inr ⟨k, q1, ?_, q3, q4⟩
        by_cases hkj : k = j
        · rw [hkj, add_same]
        · rw [add_other hkj, q2]
    · rcases hm with hm | ⟨rfl, hm⟩
      · omega
      · exact .inr ⟨i, hj, add_same _ _, g2, by omega⟩
  · obtain ⟨c, hc⟩ := I.cur; exact ⟨c, (hcur c).2 hc⟩
  · intro c hc
    replace hc := (hcur c).1 hc
    have hX := sim_still (I.heap c hc) hsz hfr
    by_cases hsame : ∀ b, b < (R.S c).n → ρ'' b = ρ b
    · have : res ρ'' (R.S c).n = res ρ (R.S c).n := by
        funext b; unfold res; split
        · next hb => exact hsame b hb
        · rfl
      rw [this]; exact hX
    · -- there are new ones, and they count at c
      have hij : i = j ∧ m = (R.S (j + 1)).n := by
        rcases hm with hm | hm
        · exfalso
          apply hsame
          intro b _
          cases hb : ρ'' b with
          | none =>
            cases hb2 : ρ b with
            | none => rfl
            | some M => rw [hle b M hb2] at hb; cases hb
          | some M =>
            rcases hcase b M hb with g | ⟨_, _, g2, g3, _⟩
            · rw [g]
            · omega
        · exact hm
      obtain ⟨rfl, hm'⟩ := hij
      have hci : i + 1 ≤ c := by
        rcases Nat.lt_or_ge i c with h | h
        · exact h
        · exfalso
          apply hsame
          intro b hb
          cases hbb : ρ'' b with
          | none =>
            cases hb2 : ρ b with
            | none => rfl
            | some M => rw [hle b M hb2] at hbb; cases hbb
          | some M =>
            rcases hcase b M hbb with g | ⟨_, _, g2, _⟩
            · rw [g]
            · have := (R.Smono hcall h hi.1).n; omega
      have hag := R.ag hcall hci hc.1 fun k h1 h2 => by
        cases he : isEff (R.K k) with
        | false => rfl
        | true =>
          have q1 := hc.2.1 k h2 he
          have q2 := hi.2.2 k (by omega) (by have := hc.1; omega) he
          rw [q1] at q2; cases q2
      have hY := sim_ag hag (hsim rfl)
      refine sim_union hX hY (res_mono hle (Nat.le_refl _)) (fun b M h => res_of (Nat.lt_of_lt_of_le (by rw [← hm']; exact hdom b M h) hag.n) (hle' b M h)) ?_ ?_
      · intro b M h
        obtain ⟨h1, h2⟩ := res_some h
        rcases hcase b M h2 with g | ⟨_, g, _⟩
        · exact .inl (res_of h1 g)
        · exact .inr g
      · intro b b' M M' h1 _ h3 h4 hB
        have hlt := (I.heap c hc).lt b M h1
        rcases hnew b' M' h3 with g | ⟨_, g⟩
        · obtain ⟨g1, g2⟩ := res_some g
          have := (R.Smono hcall (show i ≤ c by omega) hc.1).n
          rw [res_of (by omega) g2] at h4; cases h4
        · omega
  · intro b M h
    rcases hcase b M h with g | ⟨_, _, g2, _, g4⟩
    · exact I.new b M g
    · exact .inr ⟨Nat.le_trans (R.Smono hcall (Nat.zero_le i) hi.1).n g2, .inl (Nat.le_trans I.sizew g4)⟩
  · intro B hB ht
    rw [hfr B (Nat.lt_of_lt_of_le hB I.sizew), I.frame B hB ht]

theorem step [Rho] (hcall : CallOk P call) {ρ0 : Ren} {w0 : World} {L : Nat → Bool} {a : Act} {ρ : Ren} {w : World} (I : R.Inv ρ0 w0 L a ρ w) {j : Nat} (hj : j < R.n) (hL : L j = false) (hr : R.Ready L j)
    {K : Act → World → Prop} {Q : Exit → Act → World → Prop} (hK : ∀ a' ρ' w', R.Inv ρ0 w0 (add L j) a' ρ' w' → K a' w') : wpOp P R.ops.toArray Q j K a w := by
  obtain ⟨o, ao, ho, hao⟩ := R.opAt hj
  have hcomp := R.hcomp j o ao ho hao
  obtain ⟨hd, hg, hN⟩ := compOper_inv hcomp
  obtain ⟨hT, hst⟩ := R.steps j ao hao
  have hSj := R.Smono hcall (Nat.le_succ j) hj
  have hlow : (R.S R.n).low ≤ (R.S (j + 1)).low := (R.Smono hcall (show j + 1 ≤ R.n from hj) (Nat.le_refl _)).low
  have hw : Region.wanted o (yielded R.ops.toArray a.tmps) = wants (R.T j) ao.guard := by
    refine wants_eq (ρ := ρ) hg fun g x hgx => ?_
    obtain ⟨k, h1, _⟩ := R.tmp_at I hj ho hao hL hr (τ := g) (by unfold namesOf; rw [hgx]; simp) hcall
    exact h1.mono (res_le _ _)
  unfold wpOp
  simp only [List.getElem?_toArray, ho, hw]
  rcases hst with ⟨hwt, τ, hv, hS, hkd⟩ | ⟨hwt, hV, hS, hkd⟩
  · rw [if_pos hwt]
    refine .inl ?_
    have hτn : (R.S (j + 1)).n = τ.n := by rw [hS]
    have hτlow : (R.S (j + 1)).low ≤ τ.low := by rw [hS]; exact minN_le_right _ _
    by_cases hef : isEff (R.K j) = true
    · -- it changes something: all else that makes or reads stands in an order with it
      have hne : ∀ k : AKind, isEff k = true → ∃ c, k = .eff c := fun k h => by cases k <;> first | exact ⟨_, rfl⟩ | simp [isEff] at h
      obtain ⟨c0, hc0⟩ := hne _ hef
      have hcurj : R.Cur L j := R.cur_of I.closed hj hL hr fun k _ _ he => by
        obtain ⟨c, hc⟩ := hne _ he
        rw [hc, hc0]; constructor <;> cases c <;> cases c0 <;> rfl
      have hdomρ := R.dom_at hcall I hcurj fun k hjk hkn hLk hq => by
        have hkj : k ≠ j := by rintro rfl; rw [hL] at hLk; cases hLk
        rcases R.order j k (by omega) hkn (.inl hef) with h | h | h
        · have := R.ahead I.closed k j hkn hj (R.closed_ready I.closed hLk) h
          rw [hL] at this; cases this
        · rw [hc0, hq] at h; cases c0 <;> cases h
        · rw [hc0, hq] at h; cases h
      have hres := res_eq hdomρ
      refine R.run_at hcall I hj ho hao hL hr hcurj (fun k hk => res_mono (Ren.le_refl _) (by have := hk j hcurj; omega)) hv ?_
      intro u w' ρ' hvu hp
      rw [hres] at hp
      refine hK _ ρ' w' ?_
      have hdom' : ∀ b M, ρ' b = some M → b < (R.S (j + 1)).n := fun b M h => by rw [hτn]; exact hp.sim.dom b M h
      have hsim1 : Sim ρ' (R.S (j + 1)) w' := by rw [hS]; exact sim_low.2 hp.sim
      have hback : ∀ B, Touch ρ { R.S j with low := (R.S j).n } τ.low B → Touch ρ0 (R.S 0) (R.S R.n).low B ∨ w0.heap.size ≤ B := fun B h =>
        R.touch_back hcall I (Nat.le_of_lt hj) (Nat.le_trans hlow hτlow) h I.dom0
      have hcur1 : ∀ c, R.Cur (add L j) c → j + 1 ≤ c := fun c hc => by
        rcases Nat.lt_or_ge j c with h | h
        · exact h
        · have := hc.2.2 j h hj hef; rw [add_same] at this; cases this
      refine ⟨?_, ?_, R.add_closed I.closed hr, ?_, ?_, I.dom0, ?_, ?_, Ren.le_trans I.le hp.ren, ?_, Nat.le_trans I.sizew hp.size, ?_, hp.io.1.trans I.io.1, hp.io.2.trans I.io.2⟩
      · cases o.dst <;> simp [Act.put, I.size]
      · cases o.dst <;> exact I.defers
      · refine R.tmp_add (k := (R.S (j + 1)).n) hj ho hao hd hN I.closed hL hr I.size I.tmp hp.ren (by rw [res_eq hdom']; exact hvu) (fun c _ => by omega) fun c hc => ⟨j, hcurj, ?_⟩
        exact (R.Smono hcall (by have := hcur1 c hc; omega) hc.1).n
      · intro b M h
        rcases hp.new b M h with g | ⟨g, _⟩
        · rcases I.own b M g with q | ⟨k, q1, q2, q3, q4⟩
          · exact .inl q
          · refine .inr ⟨k, q1, ?_, q3, q4⟩
            by_cases hkj : k = j
            · rw [hkj, add_same]
            · rw [add_other hkj, q2]
        · exact .inr ⟨j, hj, add_same _ _, g, hdom' b M h⟩
      · refine ⟨j + 1, hj, fun k hk he => ?_, fun k hk hkn he => ?_⟩
        · by_cases hkj : k = j
          · rw [hkj, add_same]
          · rw [add_other hkj]; exact hcurj.2.1 k (by omega) he
        · rw [add_other (by omega)]; exact hcurj.2.2 k (by omega) hkn he
      · intro c hc
        have hci := hcur1 c hc
        have hag := R.ag hcall hci hc.1 fun k h1 h2 => by
          cases he : isEff (R.K k) with
          | false => rfl
          | true =>
            have q1 := hc.2.1 k h2 he
            rw [add_other (by omega)] at q1
            have q2 := hcurj.2.2 k (by omega) (by have := hc.1; omega) he
            rw [q1] at q2; cases q2
        rw [res_eq fun b M h => Nat.lt_of_lt_of_le (hdom' b M h) hag.n]
        exact sim_ag hag hsim1
      · intro b M h
        rcases hp.new b M h with g | ⟨g, g'⟩
        · exact I.new b M g
        · refine .inr ⟨Nat.le_trans (R.Smono hcall (Nat.zero_le j) (Nat.le_of_lt hj)).n g, ?_⟩
          rcases g' with g' | g'
          · exact .inl (Nat.le_trans I.sizew g')
          · exact (hback _ g').symm
      · intro B hB ht
        rw [hp.frame B (Nat.lt_of_lt_of_le hB I.sizew) (fun t => (hback B t).elim ht (fun h => by omega)), I.frame B hB ht]
    · -- it changes nothing that was there
      have hef : isEff (R.K j) = false := by simpa using hef
      obtain ⟨i, hi, hnear⟩ := R.near I.cur j
      -- beside it, what changes something and stands in no order with it
      have hmix : ∀ k, k < R.n → isEff (R.K k) = true → ((j < k ∧ L k = true) ∨ (k < j ∧ L k = false)) → mixes (R.K k) (R.K j) = true ∨ mixes (R.K j) (R.K k) = true := by
        intro k hkn he h
        rcases h with ⟨h, hLk⟩ | ⟨h, hLk⟩
        · rcases R.order j k h hkn (.inr he) with g | g | g
          · have := R.ahead I.closed k j hkn hj (R.closed_ready I.closed hLk) g
            rw [hL] at this; cases this
          · exact .inr g
          · exact .inl g
        · rcases R.order k j h hj (.inl he) with g | g | g
          · have := R.ahead I.closed j k hj hkn hr g
            rw [hLk] at this; cases this
          · exact .inl g
          · exact .inr g
      -- the last place that stands has all that was made
      have domi : i < j → (∀ c, R.Cur L c → c ≤ i) → ∀ b M, ρ b = some M → b < (R.S i).n := by
        intro hlt hmax b M hb
        refine R.dom_at hcall I hi (fun k hik hkn hLk hq => ?_) b M hb
        have hieff : isEff (R.K i) = true := by
          cases hie : isEff (R.K i) with
          | true => rfl
          | false =>
            have : R.Cur L (i + 1) := ⟨by omega, fun k hk he => by
              by_cases hki : k = i
              · rw [hki, hie] at he; cases he
              · exact hi.2.1 k (by omega) he, fun k hk hkn he => hi.2.2 k (by omega) hkn he⟩
            have := hmax _ this; omega
        have hLi := hi.2.2 i (Nat.le_refl _) (by omega) hieff
        have hki : k ≠ i := by rintro rfl; rw [hLi] at hLk; cases hLk
        rcases R.order i k (by omega) hkn (.inl hieff) with g | g | g
        · have := R.ahead I.closed k i hkn (by omega) (R.closed_ready I.closed hLk) g
          rw [hLi] at this; cases this
        · rw [hq] at g
          cases hKi : R.K i with
          | eff c => rw [hKi] at g; cases c <;> cases g
          | _ => rw [hKi] at g; cases g
        · rw [hq] at g; cases g
      -- the same result, where the heap stands
      have hrun : ∃ τ', aoper call ao.op (R.T j) { R.S i with low := (R.S i).n } = some (R.V j, τ') ∧ τ'.low = (R.S i).n ∧ ((i ≠ j ∧ τ'.n = (R.S i).n) ∨ (i = j ∧ τ' = τ)) := by
        by_cases hij : i = j
        · subst hij
          refine ⟨τ, hv, ?_, .inr ⟨rfl, rfl⟩⟩
          rw [hkd] at hef
          rcases kind_still hef with hp | hp
          · obtain ⟨rfl, _⟩ := aoper_pure hp hv; rfl
          · exact Nat.eq_of_beq_eq_true hp
        · cases hkj : R.K j with
          | pure =>
            rw [hkj] at hkd
            exact ⟨_, (aoper_pure (kind_pure hkd.symm) hv).2 _, rfl, .inl ⟨hij, rfl⟩⟩
          | load b =>
            rw [hkj] at hkd
            obtain ⟨g, n, y, off, s, hop, hpt, hbn, hfam, _⟩ := kind_load hkd.symm
            -- the row is the same there and here
            have hbi : b < (R.S i).n := by
              rcases hnear with h | ⟨h, _⟩ | ⟨h, hmax⟩
              · exact absurd h hij
              · exact Nat.lt_of_lt_of_le hbn (R.Smono hcall (Nat.le_of_lt h) hi.1).n
              · obtain ⟨k, q1, q2⟩ := R.tmp_at I hj ho hao hL hr (τ := y) (by unfold namesOf; rw [hop]; simp [opXs, tmpsOf]) hcall
                rw [hpt] at q1
                obtain ⟨M, hM, _⟩ := q1.ptr_inv
                exact domi h hmax b M (res_some hM).2
            have hbetween : ∀ lo hi', (lo = i ∧ hi' = j ∨ lo = j ∧ hi' = i) → lo ≤ hi' → ∀ k, lo ≤ k → k < hi' → isEff (R.K k) = true → ∃ c, R.K k = .eff (some c) ∧ c ≠ b := by
              intro lo hi' hlh hle k h1 h2 he
              have hkn : k < R.n := by have := hi.1; rcases hlh with ⟨_, h⟩ | ⟨_, h⟩ <;> omega
              have hm : mixes (R.K k) (R.K j) = true ∨ mixes (R.K j) (R.K k) = true := by
                refine hmix k hkn he ?_
                rcases hlh with ⟨rfl, rfl⟩ | ⟨rfl, rfl⟩
                · exact .inr ⟨h2, hi.2.2 k h1 hkn he⟩
                · have hkj' : k ≠ lo := by rintro rfl; rw [hkj] at he; cases he
                  exact .inl ⟨by omega, hi.2.1 k h2 he⟩
              rw [hkj] at hm
              cases hKk : R.K k with
              | eff c =>
                rw [hKk] at hm
                cases c with
                | some c =>
                  refine ⟨c, rfl, ?_⟩
                  rcases hm with hm | hm
                  · rintro rfl; simp [mixes] at hm
                  · cases hm
                | none => rcases hm with hm | hm <;> cases hm
              | _ => rw [hKk] at he; simp [isEff] at he
            have hsame : (R.S i).t.get b = (R.S j).t.get b ∧ ∀ fam : Option (Nat × Nat), (∀ p, fam = some p → p.2 ≤ b) → (R.S i).alive fam = (R.S j).alive fam := by
              rcases Nat.lt_or_ge i j with h | h
              · obtain ⟨q1, q2⟩ := R.same_between hcall hbi j (by omega) (by omega) (hbetween i j (.inl ⟨rfl, rfl⟩) (by omega))
                exact ⟨q1.symm, fun fam hf => (q2 fam hf).symm⟩
              · exact R.same_between hcall hbn i h hi.1 (hbetween j i (.inr ⟨rfl, rfl⟩) h)
            have hload : ∀ o' n', AHeap.loadN { R.S i with low := (R.S i).n } b o' n' = AHeap.loadN { R.S j with low := (R.S j).n } b o' n' := fun o' n' => by
              refine load_same (σ := { R.S j with low := (R.S j).n }) (σ' := { R.S i with low := (R.S i).n }) hsame.1 fun cs len es top rw' fam hgb => ?_
              have hgb' : (R.S j).t.get b = some (.row cs len es top rw' fam) := hgb
              refine hsame.2 fam fun p hp => ?_
              subst hp
              rw [hgb'] at hfam
              exact Nat.le_of_ble_eq_true hfam
            rw [hop] at hv ⊢
            have hl2 := hload off n
            have hpt' : ev (R.T j) (.tmp y) = .pointer (some ⟨b, off, s⟩) := hpt
            revert hv
            generalize hsi : ({ R.S i with low := (R.S i).n } : AHeap) = si at hl2 ⊢
            generalize hsj : ({ R.S j with low := (R.S j).n } : AHeap) = sj at hl2 ⊢
            intro hv
            have hlo : si.low = (R.S i).n ∧ si.n = (R.S i).n := by rw [← hsi]; exact ⟨rfl, rfl⟩
            have hr2 : aoper call (.load g n (.tmp y)) (R.T j) si = some (R.V j, si) := by
              simp only [aoper, aop, hpt', hl2] at hv ⊢
              cases hll : sj.loadN b off n with
              | none => rw [hll] at hv; cases hv
              | some vs =>
                rw [hll] at hv
                cases g with
                | true => simp only [if_true, Option.some.injEq, Prod.mk.injEq] at hv ⊢; exact ⟨hv.1, trivial⟩
                | false =>
                  simp only [Bool.false_eq_true, if_false] at hv ⊢
                  split at hv
                  · simp only [Option.some.injEq, Prod.mk.injEq] at hv ⊢; exact ⟨hv.1, trivial⟩
                  · cases hv
            exact ⟨si, hr2, hlo.1, .inl ⟨hij, hlo.2⟩⟩
          | quiet =>
            exfalso
            have : R.Cur L j := R.cur_of I.closed hj hL hr fun k _ _ he => by
              rw [hkj]
              cases hKk : R.K k with
              | eff c => constructor <;> cases c <;> rfl
              | _ => rw [hKk] at he; simp [isEff] at he
            rcases hnear with h | ⟨h, h'⟩ | ⟨h, h'⟩
            · exact hij h
            · have := h' j this; omega
            · have := h' j this; omega
          | eff c => rw [hkj] at hef; simp [isEff] at hef
      obtain ⟨τ', hv', hlow', hn'⟩ := hrun
      have hx : ∀ k, (∀ c, R.Cur L c → k ≤ max (R.S j).n (R.S c).n) → (res ρ k).le (res ρ (R.S i).n) := by
        intro k hk
        rcases hnear with h | ⟨h, _⟩ | ⟨h, hmax⟩
        · subst h; exact res_mono (Ren.le_refl _) (by have := hk i hi; omega)
        · exact res_mono (Ren.le_refl _) (by have := hk i hi; have := (R.Smono hcall (Nat.le_of_lt h) hi.1).n; omega)
        · intro b M hb
          have := (res_some hb).2
          exact res_of (domi h hmax b M this) this
      refine R.run_at hcall I hj ho hao hL hr hi hx hv' ?_
      intro u w' ρ' hvu hp
      have hnot : ∀ B, ¬ Touch (res ρ (R.S i).n) { R.S i with low := (R.S i).n } τ'.low B := by
        rintro B ⟨b, M, h1, _, h3, _⟩
        have := (res_some h1).1
        omega
      obtain ⟨ρ'', hInv⟩ := R.add_still hcall I hj ho hao hL hr hef hi hnear (ρ' := ρ') (w' := w') (u := u) (m := τ'.n)
        (by rcases hn' with ⟨_, h⟩ | ⟨rfl, rfl⟩
            · exact .inl h
            · exact .inr ⟨rfl, hτn.symm⟩)
        (by
          rintro rfl
          rcases hn' with ⟨h, _⟩ | ⟨_, rfl⟩
          · exact absurd rfl h
          · rw [hS]; exact sim_low.2 hp.sim)
        (fun b M h => hp.sim.dom b M h) hvu hp.ren
        (fun b M h => (hp.new b M h).imp id fun ⟨g, g'⟩ => ⟨g, g'.resolve_right (hnot _)⟩) hp.size (fun B hB => hp.frame B hB (hnot B)) hp.io
      exact hK _ ρ'' w' hInv
  · rw [if_neg (by rw [hwt]; simp)]
    have hef : isEff (R.K j) = false := by rw [hkd]; rfl
    obtain ⟨i, hi, hnear⟩ := R.near I.cur j
    obtain ⟨ρ'', hInv⟩ := R.add_still hcall I hj ho hao hL hr hef hi hnear (ρ' := res ρ (R.S i).n) (w' := w) (u := undef) (m := (R.S i).n) (.inl rfl)
      (by rintro rfl; rw [hS]; exact I.heap i hi) (fun b M h => (res_some h).1) (by rw [hV]; exact .flat rfl) (Ren.le_refl _) (fun b M h => .inl h) (Nat.le_refl _) (fun B _ => rfl) ⟨rfl, rfl⟩
    exact hK _ ρ'' w hInv
end Road
end Go.Hai
