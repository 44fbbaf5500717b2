/-
  The abstract interpreter: each operation of its form does what the machine's does. No proof of the program stands here.
-/
import Derived.Test.YtphbidcbepnihaaH5
import Derived.Laws.StructEq
namespace Go.Hai
open Go

theorem chk_some {α : Type} {b : Bool} {x : Option α} {a : α} (h : chk b x = some a) : b = true ∧ x = some a := by
  cases b <;> simp_all [chk]

section
variable {P : Program} {w : World}
theorem run_sizeOf' {t : TypeId} {n : Nat} (h : tSize P t = some n) : (sizeOf t).run P w = .ok n w := by
  unfold tSize at h
  cases hi : P.info? t with
  | none => rw [hi] at h; cases h
  | some i => rw [hi] at h; cases h; simp [sizeOf, typeInfo, hi]
theorem run_bytes' {t : TypeId} {n : Nat} (h : tBytes P t = some n) : ∃ i, (typeInfo t).run P w = .ok i w ∧ i.bytes = n := by
  unfold tBytes at h
  cases hi : P.info? t with
  | none => rw [hi] at h; cases h
  | some i => rw [hi] at h; cases h; exact ⟨i, by simp [typeInfo, hi], rfl⟩
theorem run_zero' {t : TypeId} {z : Value} (h : tZero P t = some z) : (zeroValue t).run P w = .ok z w := by
  unfold tZero at h
  cases hi : P.info? t with
  | none => rw [hi] at h; cases h
  | some i => rw [hi] at h; simp at h; simp [zeroValue, typeInfo, hi, h]
theorem run_und {t : TypeId} {d : TypeDesc} (h : P.underlying t = some d) : (underlying t).run P w = .ok d w := by
  simp [underlying, h]
theorem run_isAgg' [Rho] {t : TypeId} {g : Bool} (h : tAgg P t = some g) : (isAgg t).run P w = .ok g w := by
  unfold tAgg at h
  cases hd : P.underlying t with
  | none => rw [hd] at h; cases h
  | some d =>
    rw [hd] at h
    simp only [isAgg, Sem.run_bind, run_und hd, Result.andThen_ok]
    cases d <;> simp_all
theorem tZeroL_some [Rho] {t : TypeId} {l : List Value} (h : tZeroL P t = some l) : ∃ z, tZero P t = some z ∧ tSize P t = some l.length ∧ z.cells.toList = l ∧ l.all scal = true := by
  unfold tZeroL at h
  split at h
  · next z n h1 h2 =>
    obtain ⟨h3, h4⟩ := chk_some h
    simp only [Bool.and_eq_true] at h3
    cases h4
    exact ⟨z, h1, by rw [h2, Nat.eq_of_beq_eq_true h3.2], rfl, h3.1⟩
  · cases h
end

theorem VRs.scal [Rho] {ρ : Ren} {l : List Value} (h : l.all scal = true) : VRs ρ l l :=
  .of_get rfl fun i v u hv hu => by
    rw [hv] at hu; cases hu
    exact .flat (flat_of_scal (List.all_eq_true.1 h _ (List.mem_of_getElem? hv)))
theorem cell_of_scal {v : Value} (h : Hai.scal v = true) : isCell v = true := by
  cases v <;> first | rfl | simp [Hai.scal] at h
theorem cells_of_scal [Rho] {l : List Value} (h : l.all Hai.scal = true) : l.all isCell = true := by
  rw [List.all_eq_true] at *
  exact fun v hv => cell_of_scal (h v hv)

inductive Runs (P : Program) (o : Oper) (η : Operand → Value) (w : World) : Value → World → Prop
  | val {v : Value} {w' : World} (h : (execOp η o).run P w = .ok (.value v) w') : Runs P o η w v w'
  | skip {w' : World} (h : (execOp η o).run P w = .ok .skip w') : Runs P o η w undef w'

theorem asMap_some {x : Option AObj} {es : Array MapEntry} {c : Nat} (h : asMap x = some (es, c)) : x = some (.obj (.map es c)) := by
  unfold asMap at h
  split at h
  · cases h; rfl
  · cases h

/- what an operation of the abstract form leaves of the heap's own rules -/
theorem ext_aop [Rho] {σ σ' : AHeap} {t : Tmps} {v : Value} : ∀ (a : AOp), aop σ t a = some (v, σ') → Ext σ σ' := by
  intro a ha
  cases a <;> simp only [aop] at ha
  case alloc z es => cases ha; exact ext_push _ _
  case box es x => split at ha <;> cases ha; exact ext_push _ _
  case buildSl z sz len ps => split at ha <;> first | (split at ha <;> cases ha; exact ext_push _ _) | cases ha
  case store n a x =>
    split at ha
    · split at ha
      · split at ha
        · next h => cases ha; exact (ext_store h).1
        · cases ha
      · cases ha
    · cases ha
  case mkMap => cases ha; exact ext_push _ _
  case mkSl z by_ l c => split at ha <;> first | (split at ha <;> cases ha; exact ext_push _ _) | cases ha
  case mupd k m i v' =>
    split at ha
    · split at ha
      · rename_i hm
        have hg := asMap_some hm
        split at ha
        · split at ha <;> cases ha <;> exact ext_setObj hg
        · cases ha
      · cases ha
    · cases ha
  case rng x => split at ha <;> cases ha; exact ext_push _ _
  case next x =>
    split at ha
    · split at ha
      · next hg =>
        split at ha <;> cases ha
        · exact ext_setObj hg
        · exact Ext.refl _
      · cases ha
    · cases ha
  case app sz by_ s x =>
    unfold appOp at ha
    split at ha
    · cases ha
    · split at ha
      · split at ha
        · cases ha; exact Ext.refl _
        · split at ha
          · cases ha
          · split at ha
            · split at ha <;> cases ha; exact ext_push _ _
            · split at ha
              · split at ha
                · next hg => split at ha <;> cases ha; exact (ext_tie hg).trans (ext_push _ _)
                · cases ha
              · cases ha
      · cases ha
  all_goals first | (cases ha; done) | (cases ha; exact Ext.refl _) | (split at ha <;> first | (cases ha; done) | (cases ha; exact Ext.refl _) | (split at ha <;> first | (cases ha; done) | (cases ha; exact Ext.refl _) | (split at ha <;> first | (cases ha; done) | (cases ha; exact Ext.refl _) | (split at ha <;> first | (cases ha; done) | (cases ha; exact Ext.refl _) | (split at ha <;> first | (cases ha; done) | (cases ha; exact Ext.refl _))))))

/- pure operations leave the heap -/
theorem pure_aop {σ σ' : AHeap} {t : Tmps} {v : Value} : ∀ (a : AOp), pureOp a = true → aop σ t a = some (v, σ') → σ' = σ ∧ ∀ τ, aop τ t a = some (v, τ) := by
  intro a hp ha
  cases a <;> simp only [pureOp, Bool.false_eq_true] at hp <;> simp only [aop] at ha ⊢ <;>
    first
      | (cases ha; exact ⟨rfl, fun _ => rfl⟩)
      | (split at ha <;> first | (cases ha; done) | (cases ha; exact ⟨rfl, fun _ => by simp_all⟩) | (split at ha <;> first | (cases ha; done) | (cases ha; exact ⟨rfl, fun _ => by simp_all⟩) | (split at ha <;> first | (cases ha; done) | (cases ha; exact ⟨rfl, fun _ => by simp_all⟩) | (split at ha <;> first | (cases ha; done) | (cases ha; exact ⟨rfl, fun _ => by simp_all⟩)))))
end Go.Hai
