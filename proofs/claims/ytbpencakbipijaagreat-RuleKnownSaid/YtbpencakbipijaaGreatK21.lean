/-
  The function RuleKnown of the package reevelaw21 returns true, whatever the world it is called in; it needs no condition.
-/
import Derived.Test.YtbpencakbipijaaGreatH24
import Derived.Test.YtbpencakbipijaaGreatRows
import Derived.Test.YtbpencakbipijaaGreatChecked
namespace Go.Proofs.YtbpencakbipijaaGreat
open Go Go.ChangeShapes Go.WideShapes Go.ChangeAt Go.RowKit

instance : Hai.Rho := ⟨fun _ => 0⟩

set_option maxHeartbeats 20000000 in
theorem ruleKnown_runs : Hai.acallK (Hai.ofProg Tryz.prog) 1000 60 4 [] Hai.h0 Hai.isTrueK = some true := by kernel_rfl

theorem Tryz.own : ownKnob Tryz.prog.godebug = none := by kernel_rfl
theorem Tryz.laidOut : laidOutB Tryz.prog = true := by kernel_rfl

set_option maxRecDepth 100000 in
theorem ruleKnown_lifted (os : Os) (started : os.Started) (H : Type) (enc : TypeId × Value → H) :
    ReturnsInHanded {} Tryz.checked os 4 .any (Rows.ruleKnownSpec.pre6 enc Tryz.prog Tryz.f4 Rows.ruleKnownRow.domain false) (Rows.ruleKnownSpec.post enc Tryz.prog Tryz.f4 false true false false) := by
  refine returnsInHanded_of_change (C := Tryz.checked) Tryz.own started (by kernel_rfl) Tryz.func4
    (ChangeSpec.witness6 (enc := enc) (C := Tryz.checked) false ⟨#[], #[], []⟩ 8 (by kernel_rfl) (by kernel_rfl) (by kernel_rfl) (by kernel_rfl)) ?_
  intro W base args ds gs before hval0 hW hcnd _
  have hW' := hW
  obtain ⟨p, q, hA0, hV, rfl, hfz, hnd⟩ := hW
  have hA : DataW.TrodAll enc Tryz.prog W 0 (fun _ => true) true Tryz.f4.params.toList args.toList ds p := hA0
  rw [Tryz.params4] at hA
  obtain ⟨ha, rfl, rfl⟩ := trodAll_nil hA
  obtain ⟨rfl, rfl⟩ := trodVars_none hV
  obtain rfl : args = #[] := by simpa using ha
  refine (Hai.closed_true ruleKnown_runs W).mono fun e W' ⟨he, h1, h2, h3⟩ => ?_
  subst he
  exact ⟨_, rfl, [], [], [], [], [], [], hW', trodAll_mk1 (shut_bool Tryz.underlying4 true), by trivial, by trivial, Hai.kept_of h1 h2 h3, fun h => by cases h⟩

theorem ruleKnown_holds : Rows.RuleKnownSaid :=
  OpenClaim.holds_of_wide 4 Tryz.f4 rfl rfl rfl rfl rfl rfl rfl ⟨rfl, rfl, rfl, rfl, rfl⟩ rfl rfl rfl rfl rfl (by kernel_rfl) Tryz.func4 (by kernel_rfl)
    (of_decide_eq_true (by kernel_rfl)) (by unfold Func.isWrapper; first | (rw [if_pos (by decide +kernel)]; kernel_rfl) | (rw [if_neg (by decide +kernel)]; exact ⟨rfl, rfl⟩))
    (fun os started H enc _ => ruleKnown_lifted os started H enc)

end Go.Proofs.YtbpencakbipijaaGreat
