/-
  The abstract interpreter: '==' of plain structs and arrays does what the machine's does. No proof of the program stands here.
-/
import Derived.Test.YtphbidcbepnihaaH9
import Derived.ChangeKeysEq
namespace Go.Hai
open Go

theorem eqLs_append {xs ys : List Value} : ∀ {k l : List (Nat × Nat)} {r : Bool}, eqLs xs ys (k ++ l) = some r → ∃ q p, eqLs xs ys k = some q ∧ eqLs xs ys l = some p ∧ r = (q && p) := by
  intro k
  induction k with
  | nil => intro l r h; exact ⟨true, r, rfl, h, by simp⟩
  | cons i k ih =>
    intro l r h
    obtain ⟨i, kd⟩ := i
    simp only [List.cons_append, eqLs] at h ⊢
    split at h
    · split at h
      · next r1 hr1 =>
        split at h
        · next q hq =>
          cases h
          obtain ⟨q1, p, e1, e2, rfl⟩ := ih hq
          exact ⟨r1 && q1, p, by rw [e1], e2, by rw [Bool.and_assoc]⟩
        · cases h
      · cases h
    · cases h

section
variable {P : Program}

/- a value of a type that stands in a list from a place on -/
def At (P : Program) (ty : TypeId) (n off : Nat) (xs : List Value) (a : Value) : Prop :=
  match tAgg P ty with
  | some true => ∃ A : Array Value, a = .agg A ∧ ∀ i, i < n → A[i]? = xs[off + i]?
  | some false => xs[off]? = some a
  | none => False

theorem at_part [Rho] {w : World} {ty : TypeId} {n m off o : Nat} {xs : List Value} {A : Array Value} (hg : ∃ g, tAgg P ty = some g) (hm : tSize P ty = some m) (hle : o + m ≤ n) (hA : ∀ i, i < n → A[i]? = xs[off + i]?)
    (h1 : ∃ v, tAgg P ty = some false → 0 < m ∧ xs[off + o]? = some v) : ∃ a, (part ty A o).run P w = .ok a w ∧ At P ty m (off + o) xs a := by
  obtain ⟨g, hg⟩ := hg
  cases g with
  | true =>
    refine ⟨.agg (A.extract o (o + m)), by simp only [part, Sem.run_bind, run_isAgg' hg, Result.andThen_ok, if_true, run_sizeOf' hm, Sem.run_pure], ?_⟩
    unfold At
    rw [hg]
    refine ⟨_, rfl, fun i hi => ?_⟩
    rw [Array.getElem?_extract]
    have := hA (o + i) (by omega)
    rw [Nat.add_assoc, ← this]
    by_cases hs : o + i < A.size
    · rw [if_pos (by omega)]
    · rw [if_neg (by omega), Array.getElem?_eq_none (by omega)]
  | false =>
    obtain ⟨v, h1⟩ := h1
    obtain ⟨h0, hv⟩ := h1 hg
    have e := hA o (by omega)
    rw [hv] at e
    refine ⟨v, by simp [part, run_isAgg' hg, e], ?_⟩
    unfold At
    rw [hg]
    exact hv

theorem leafs_agg {d : Nat} {ty : TypeId} {off : Nat} {ls : List (Nat × Nat)} (h : leafs P d ty off = some ls) : (∃ g, tAgg P ty = some g) ∧ (tAgg P ty = some false → ∃ k, ls = [(off, k)]) := by
  cases d with
  | zero => simp [leafs] at h
  | succ d =>
    unfold leafs at h
    unfold tAgg
    split at h
    · next hu _ => rw [hu]; cases h; exact ⟨⟨_, rfl⟩, fun _ => ⟨_, rfl⟩⟩
    · next hu _ => rw [hu]; cases h; exact ⟨⟨_, rfl⟩, fun _ => ⟨_, rfl⟩⟩
    · next hu _ => rw [hu]; cases h; exact ⟨⟨_, rfl⟩, fun _ => ⟨_, rfl⟩⟩
    · next hu _ => rw [hu]; exact ⟨⟨_, rfl⟩, by simp⟩
    · next hu _ => rw [hu]; exact ⟨⟨_, rfl⟩, by simp⟩
    · cases h

theorem eqLs_one {xs ys : List Value} {i k : Nat} {r : Bool} (h : eqLs xs ys [(i, k)] = some r) : ∃ a b, xs[i]? = some a ∧ ys[i]? = some b ∧ eqScal k a b = some r := by
  simp only [eqLs] at h
  split at h
  · next a b ha hb =>
    split at h
    · next q hq => cases h; exact ⟨a, b, ha, hb, by rw [hq]; simp⟩
    · cases h
  · cases h

theorem run_leafs [Rho] {w : World} : ∀ (d : Nat) (ty : TypeId) (off n : Nat) (ls : List (Nat × Nat)) (xs ys : List Value) (a b : Value) (r : Bool) (D : Nat), leafs P d ty off = some ls → tSize P ty = some n →
    At P ty n off xs a → At P ty n off ys b → eqLs xs ys ls = some r → d ≤ D → (Op.equalIn D ty a b).run P w = .ok r w := by
  intro d
  induction d with
  | zero => intro ty off n ls xs ys a b r D h; simp [leafs] at h
  | succ d ih =>
    intro ty off n ls xs ys a b r D h hn ha hb he hD
    obtain ⟨D, rfl⟩ : ∃ D', D = D' + 1 := ⟨D - 1, by omega⟩
    unfold leafs at h
    unfold At tAgg at ha hb
    split at h
    · next k m hu hm =>
      cases h
      rw [hu] at ha hb
      obtain ⟨a', b', h1, h2, h3⟩ := eqLs_one he
      have ha : xs[off]? = some a := ha
      have hb : ys[off]? = some b := hb
      rw [ha] at h1; cases h1
      rw [hb] at h2; cases h2
      unfold eqScal at h3
      split at h3
      · split at h3
        · next hk => cases h3; subst hk; simp [Op.equalIn, run_und hu]
        · cases h3
      · next e _ _ => cases e
      · next e _ _ => cases e
      · cases h3
    · next m hu hm =>
      cases h
      rw [hu] at ha hb
      obtain ⟨a', b', h1, h2, h3⟩ := eqLs_one he
      have ha : xs[off]? = some a := ha
      have hb : ys[off]? = some b := hb
      rw [ha] at h1; cases h1
      rw [hb] at h2; cases h2
      unfold eqScal at h3
      split at h3
      · next e _ _ => cases e
      · cases h3; simp [Op.equalIn, run_und hu]
      · next e _ _ => cases e
      · cases h3
    · next m hu hm =>
      cases h
      rw [hu] at ha hb
      obtain ⟨a', b', h1, h2, h3⟩ := eqLs_one he
      have ha : xs[off]? = some a := ha
      have hb : ys[off]? = some b := hb
      rw [ha] at h1; cases h1
      rw [hb] at h2; cases h2
      unfold eqScal at h3
      split at h3
      · next e _ _ => cases e
      · next e _ _ => cases e
      · cases h3; simp [Op.equalIn, run_und hu, beq_toListBytes]
      · cases h3
    · next fs m hu hm =>
      obtain ⟨hsi, h⟩ := chk_some h
      rw [hn] at hm; cases hm
      rw [hu] at ha hb
      obtain ⟨A, rfl, hA⟩ := ha
      obtain ⟨B, rfl, hB⟩ := hb
      have hfs : P.fieldsOf ty = fs := by simp [Program.fieldsOf, hu]
      rw [run_equalIn_struct w D ty A B (by rw [hfs]; exact hu) (by simpa using hsi), hfs]
      suffices key : ∀ (fs : List Field) (ls : List (Nat × Nat)) (r : Bool), leafF (leafs P d) P n off fs = some ls → eqLs xs ys ls = some r → (Op.eqFields D A B fs).run P w = .ok r w from key _ ls r h he
      clear hu hfs hsi h he
      intro fs
      induction fs with
      | nil => intro ls r h he; simp only [leafF] at h; cases h; simp only [eqLs] at he; cases he; simp [Op.eqFields]
      | cons f fs ihf =>
        intro ls r h he
        simp only [leafF] at h
        split at h
        · next m k l hm hk hl =>
          obtain ⟨hc, h⟩ := chk_some h; cases h
          simp only [Bool.and_eq_true] at hc
          obtain ⟨q, p, e1, e2, rfl⟩ := eqLs_append he
          have hle := Nat.le_of_ble_eq_true hc.1.2
          obtain ⟨hg, hf⟩ := leafs_agg hk
          have hlf : ∀ zs : List Value, (zs = xs ∨ zs = ys) → ∃ v, tAgg P f.type = some false → 0 < m ∧ zs[off + f.offset]? = some v := by
            intro zs hz
            by_cases hgf : tAgg P f.type = some false
            · obtain ⟨kd, rfl⟩ := hf hgf
              obtain ⟨a', b', h1, h2, h3⟩ := eqLs_one e1
              have hm0 : 0 < m := by
                rcases Nat.eq_zero_or_pos m with h | h
                · rw [h] at hc; simp at hc
                · exact h
              rcases hz with rfl | rfl
              · exact ⟨a', fun _ => ⟨hm0, h1⟩⟩
              · exact ⟨b', fun _ => ⟨hm0, h2⟩⟩
            · exact ⟨undef, fun h => absurd h hgf⟩
          obtain ⟨a', p1, p2⟩ := at_part (w := w) hg hm hle hA (hlf xs (.inl rfl))
          obtain ⟨b', q1, q2⟩ := at_part (w := w) hg hm hle hB (hlf ys (.inr rfl))
          have hr := ih f.type (off + f.offset) m k xs ys a' b' q D hk hm p2 q2 e1 (by omega)
          have hne : f.name ≠ "_" := by simpa using hc.1.1
          simp only [Op.eqFields, if_pos hne, Sem.run_bind, p1, q1, hr, Result.andThen_ok]
          cases q with
          | false => simp
          | true => simp only [Bool.not_true, Bool.false_eq_true, if_false, Bool.true_and]; exact ihf l p hl e2
        · cases h
    · next c e m hu hm =>
      split at h
      · next s hs =>
        rw [hn] at hm; cases hm
        rw [hu] at ha hb
        obtain ⟨A, rfl, hA⟩ := ha
        obtain ⟨B, rfl, hB⟩ := hb
        have hsz : ∃ i, P.info? e = some i ∧ i.size = s := by
          unfold tSize at hs
          cases hi : P.info? e with
          | none => rw [hi] at hs; cases hs
          | some i => rw [hi] at hs; cases hs; exact ⟨i, rfl, rfl⟩
        obtain ⟨i, hi, hi'⟩ := hsz
        have hco : P.cellsOf e = s := by simp [Program.cellsOf, hi, hi']
        rw [run_equalIn_array w D A B hu hi, hco]
        suffices key : ∀ (is : List Nat) (ls : List (Nat × Nat)) (r : Bool), leafI (leafs P d e) s n off is = some ls → eqLs xs ys ls = some r → (Op.eqItems D e s A B is).run P w = .ok r w from key _ ls r h he
        clear h he
        intro is
        induction is with
        | nil => intro ls r h he; simp only [leafI] at h; cases h; simp only [eqLs] at he; cases he; simp [Op.eqItems]
        | cons j is ihf =>
          intro ls r h he
          simp only [leafI] at h
          split at h
          · next k l hk hl =>
            obtain ⟨hc, h⟩ := chk_some h; cases h
            obtain ⟨q, p, e1, e2, rfl⟩ := eqLs_append he
            simp only [Bool.and_eq_true] at hc
            have hle := Nat.le_of_ble_eq_true hc.1
            obtain ⟨hg, hf⟩ := leafs_agg hk
            have hlf : ∀ zs : List Value, (zs = xs ∨ zs = ys) → ∃ v, tAgg P e = some false → 0 < s ∧ zs[off + j * s]? = some v := by
              intro zs hz
              by_cases hgf : tAgg P e = some false
              · obtain ⟨kd, rfl⟩ := hf hgf
                obtain ⟨a', b', h1, h2, h3⟩ := eqLs_one e1
                have hm0 : 0 < s := by
                  rcases Nat.eq_zero_or_pos s with h | h
                  · rw [h] at hc; simp at hc
                  · exact h
                rcases hz with rfl | rfl
                · exact ⟨a', fun _ => ⟨hm0, h1⟩⟩
                · exact ⟨b', fun _ => ⟨hm0, h2⟩⟩
              · exact ⟨undef, fun h => absurd h hgf⟩
            obtain ⟨a', p1, p2⟩ := at_part (w := w) hg hs hle hA (hlf xs (.inl rfl))
            obtain ⟨b', q1, q2⟩ := at_part (w := w) hg hs hle hB (hlf ys (.inr rfl))
            have hr := ih e (off + j * s) s k xs ys a' b' q D hk hs p2 q2 e1 (by omega)
            simp only [Op.eqItems, Sem.run_bind, p1, q1, hr, Result.andThen_ok]
            cases q with
            | false => simp
            | true => simp only [Bool.not_true, Bool.false_eq_true, if_false, Bool.true_and]; exact ihf l p hl e2
          · cases h
      · cases h
    · cases h
end
end Go.Hai
