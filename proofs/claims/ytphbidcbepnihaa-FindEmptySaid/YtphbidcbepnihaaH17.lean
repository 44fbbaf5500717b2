/-
  The abstract interpreter: a region whose order is open: in whatever order its operations are carried out, the same comes of it (4). No proof of the program stands here.
-/
import Derived.Test.YtphbidcbepnihaaH16
namespace Go.Hai
open Go

theorem res_eq {ρ : Ren} {s : Nat} (h : ∀ b M, ρ b = some M → b < s) : res ρ s = ρ := by
  funext b
  unfold res
  split
  · rfl
  · next hb =>
    cases he : ρ b with
    | none => rfl
    | some M => exact absurd (h b M he) hb

/- what each kind says -/
theorem kind_pure {op : AOp} {t : Tmps} {σ : AHeap} {b : Bool} (h : kindOf op t σ b = .pure) : pureOp op = true := by
  unfold kindOf at h
  split at h
  · next hp => exact hp
  · split at h
    · split at h
      · split at h
        · split at h <;> cases h
        · cases h
      · cases h
    · split at h
      · split at h
        · split at h <;> cases h
        · cases h
      · cases h
theorem kind_load {op : AOp} {t : Tmps} {σ : AHeap} {b : Bool} {c : Nat} (h : kindOf op t σ b = .load c) :
    ∃ g n y o s, op = .load g n (.tmp y) ∧ tget t y = .pointer (some ⟨c, o, s⟩) ∧ c < σ.n ∧ famOk c (σ.t.get c) = true ∧ b = true := by
  unfold kindOf at h
  split at h
  · cases h
  · split at h
    · next hb =>
      split at h
      · split at h
        · next he =>
          split at h
          · next hc =>
            cases h
            simp only [Bool.and_eq_true] at hc
            exact ⟨_, _, _, _, _, rfl, he, by simpa [Nat.blt_eq] using hc.1, hc.2, hb⟩
          · cases h
        · cases h
      · cases h
    · split at h
      · split at h
        · split at h <;> cases h
        · cases h
      · cases h
theorem kind_eff {op : AOp} {t : Tmps} {σ : AHeap} {b : Bool} {c : Nat} (h : kindOf op t σ b = .eff (some c)) :
    ∃ n a x o s cs len es top rw, op = .store n a x ∧ ev t a = .pointer (some ⟨c, o, s⟩) ∧ σ.t.get c = some (.row cs len es top rw none) := by
  unfold kindOf at h
  split at h
  · cases h
  · split at h
    · split at h
      · split at h
        · split at h <;> cases h
        · cases h
      · cases h
    · split at h
      · split at h
        · next he =>
          split at h
          · next hg => cases h; exact ⟨_, _, _, _, _, _, _, _, _, _, rfl, he, hg⟩
          · cases h
        · cases h
      · cases h

theorem eff_other [Rho] {call : CallF} {o : AOper} {t t' : Tmps} {σ σ' : AHeap} {v : Value} {c : Nat} (h : StepR call o t σ v t' σ' (.eff (some c))) : (∀ b, b ≠ c → σ'.t.get b = σ.t.get b) ∧ σ'.dead = σ.dead := by
  obtain ⟨_, ⟨_, τ, hv, rfl, hk⟩ | ⟨_, _, _, hk⟩⟩ := h
  · obtain ⟨n, a, x, off, s, cs, len, es, top, rw', ho, he, hg⟩ := kind_eff hk.symm
    rw [ho] at hv
    simp only [aoper, aop, he] at hv
    split at hv
    · split at hv
      · next τ' hst =>
        cases hv
        obtain ⟨cs', len', es', top', fam', hg', _, _, _, rfl⟩ := storeN_inv hst
        have hg2 : σ.t.get c = some (.row cs' len' es' top' true fam') := hg'
        rw [hg] at hg2
        cases hg2
        exact ⟨fun b hb => by simp only [AHeap.wrote, Tr.get_ins]; rw [if_neg (Ne.symm hb)], rfl⟩
      · cases hv
    · cases hv
  · cases hk

namespace Road
variable {P : Program} {call : CallF} {N : Nat} (R : Road P call N)

theorem same_between [Rho] (hcall : CallOk P call) {b lo : Nat} (hb : b < (R.S lo).n) : ∀ hi, lo ≤ hi → hi ≤ R.n → (∀ k, lo ≤ k → k < hi → isEff (R.K k) = true → ∃ c, R.K k = .eff (some c) ∧ c ≠ b) →
    (R.S hi).t.get b = (R.S lo).t.get b ∧ (∀ fam : Option (Nat × Nat), (∀ p, fam = some p → p.2 ≤ b) → (R.S hi).alive fam = (R.S lo).alive fam) := by
  intro hi
  induction hi with
  | zero => intro h _ _; obtain rfl : lo = 0 := (by omega); exact ⟨rfl, fun _ _ => rfl⟩
  | succ hi ih =>
    intro h hn hk
    by_cases he : lo = hi + 1
    · subst he; exact ⟨rfl, fun _ _ => rfl⟩
    · obtain ⟨e1, e2⟩ := ih (by omega) (by omega) fun k h1 h2 => hk k h1 (by omega)
      obtain ⟨o, a, _, ha⟩ := R.opAt (j := hi) (by omega)
      have hst := R.steps hi a ha
      have hbh : b < (R.S hi).n := Nat.lt_of_lt_of_le hb (R.Smono hcall (by omega) (by omega)).n
      by_cases hef : isEff (R.K hi) = true
      · obtain ⟨c, hc, hcb⟩ := hk hi (by omega) (by omega) hef
        rw [hc] at hst
        obtain ⟨q1, q2⟩ := eff_other hst
        refine ⟨by rw [q1 b (Ne.symm hcb), e1], fun fam hf => ?_⟩
        rw [← e2 fam hf]
        cases fam with
        | none => rfl
        | some p => simp only [AHeap.alive, q2]
      · have hag := step_ag hcall hst (by simpa using hef)
        exact ⟨by rw [hag.get b hbh, e1], fun fam hf => by rw [hag.alive hbh hf, e2 fam hf]⟩

/- no operation that is done and stands behind a place that stands now has made anything -/
theorem dom_at [Rho] (hcall : CallOk P call) {ρ0 : Ren} {w0 : World} {L : Nat → Bool} {a : Act} {ρ : Ren} {w : World} (I : R.Inv ρ0 w0 L a ρ w) {i : Nat} (hi : R.Cur L i)
    (hq : ∀ k, i ≤ k → k < R.n → L k = true → R.K k = .quiet → False) : ∀ b M, ρ b = some M → b < (R.S i).n := by
  intro b M hb
  rcases I.own b M hb with h | ⟨j, hj, hLj, h1, h2⟩
  · exact Nat.lt_of_lt_of_le (I.dom0 b M h) (R.Smono hcall (Nat.zero_le _) hi.1).n
  · rcases Nat.lt_or_ge j i with h | h
    · exact Nat.lt_of_lt_of_le h2 (R.Smono hcall (by omega) hi.1).n
    · exfalso
      obtain ⟨o, ao, _, hao⟩ := R.opAt hj
      have hst := R.steps j ao hao
      have hne : isEff (R.K j) = false := by
        cases he : isEff (R.K j) with
        | false => rfl
        | true => have := hi.2.2 j h hj he; rw [hLj] at this; cases this
      have hsame : (R.K j = .pure ∨ ∃ c, R.K j = .load c) → (R.S (j + 1)).n = (R.S j).n := by
        intro hk
        obtain ⟨_, ⟨_, τ, hv, hS, hkd⟩ | ⟨_, _, hS, _⟩⟩ := hst
        · rw [hS]
          show τ.n = _
          rcases hk with hk | ⟨c, hk⟩
          · rw [hk] at hkd
            obtain ⟨rfl, _⟩ := aoper_pure (kind_pure hkd.symm) hv
            rfl
          · rw [hk] at hkd
            obtain ⟨g, n, y, off, s, ho, he, _, _, _⟩ := kind_load hkd.symm
            rw [ho] at hv
            simp only [aoper, aop, ev, he] at hv
            split at hv
            · split at hv
              · simp only [Option.some.injEq, Prod.mk.injEq] at hv; rw [← hv.2]
              · split at hv
                · simp only [Option.some.injEq, Prod.mk.injEq] at hv; rw [← hv.2]
                · cases hv
            · cases hv
        · rw [hS]
      cases hk : R.K j with
      | pure => have := hsame (.inl hk); omega
      | load c => have := hsame (.inr ⟨c, hk⟩); omega
      | quiet => exact hq j h hj hLj hk
      | eff c => rw [hk] at hne; simp [isEff] at hne

theorem touch_back [Rho] (hcall : CallOk P call) {ρ0 : Ren} {w0 : World} {L : Nat → Bool} {a : Act} {ρ : Ren} {w : World} (I : R.Inv ρ0 w0 L a ρ w) {i low B : Nat} (hi : i ≤ R.n) (hl : (R.S R.n).low ≤ low)
    (h : Touch ρ { R.S i with low := (R.S i).n } low B) (hbi : ∀ b M, ρ0 b = some M → b < (R.S 0).n) : Touch ρ0 (R.S 0) (R.S R.n).low B ∨ w0.heap.size ≤ B := by
  obtain ⟨b, M, h1, rfl, h3, h4⟩ := h
  by_cases h0 : ρ0 b = some M
  · refine .inl ⟨b, M, h0, rfl, Nat.le_trans hl h3, ?_⟩
    cases hr : ro ((R.S 0).t.get b) with
    | false => rfl
    | true =>
      have := (R.Smono hcall (Nat.zero_le i) hi).ro b (hbi b M h0) hr
      have h4' : ro ((R.S i).t.get b) = false := h4
      rw [this, hr] at h4'; cases h4'
  · rcases I.new b M h1 with h | ⟨_, h | h⟩
    · exact absurd h h0
    · exact .inr h
    · exact .inl h
end Road
end Go.Hai
