/-
  The function MailKnown of the package reevelaw18 returns true, whatever the world it is called in; it needs no condition.
-/
import Derived.Test.YtphbidcbepnihaaH24
import Derived.Test.YtphbidcbepnihaaRows
import Derived.Test.YtphbidcbepnihaaChecked
namespace Go.Proofs.Ytphbidcbepnihaa
open Go Go.ChangeShapes Go.WideShapes Go.ChangeAt Go.RowKit

theorem mailKnown_runs : Hai.acallK (Hai.ofProg Try.prog) 1000 60 8 [] Hai.h0 Hai.isTrueK = some true := by kernel_rfl

theorem Try.own : ownKnob Try.prog.godebug = none := by kernel_rfl
theorem Try.laidOut : laidOutB Try.prog = true := by kernel_rfl

set_option maxRecDepth 100000 in
theorem mailKnown_lifted (os : Os) (started : os.Started) (H : Type) (enc : TypeId × Value → H) :
    ReturnsInHanded {} Try.checked os 8 .any (Rows.mailKnownSpec.pre6 enc Try.prog Try.f8 Rows.mailKnownRow.domain false) (Rows.mailKnownSpec.post enc Try.prog Try.f8 false true false false) := by
  refine returnsInHanded_of_change (C := Try.checked) Try.own started (by kernel_rfl) Try.func8
    (ChangeSpec.witness6 (enc := enc) (C := Try.checked) false ⟨#[], #[], []⟩ 8 (by kernel_rfl) (by kernel_rfl) (by kernel_rfl) (by kernel_rfl)) ?_
  intro W base args ds gs before hval0 hW hcnd _
  have hW' := hW
  obtain ⟨p, q, hA0, hV, rfl, hfz, hnd⟩ := hW
  have hA : DataW.TrodAll enc Try.prog W 0 (fun _ => true) true Try.f8.params.toList args.toList ds p := hA0
  rw [Try.params8] at hA
  obtain ⟨ha, rfl, rfl⟩ := trodAll_nil hA
  obtain ⟨rfl, rfl⟩ := trodVars_none hV
  obtain rfl : args = #[] := by simpa using ha
  refine (Hai.closed_true mailKnown_runs W).mono fun e W' ⟨he, h1, h2, h3⟩ => ?_
  subst he
  exact ⟨_, rfl, [], [], [], [], [], [], hW', trodAll_mk1 (shut_bool Try.underlying4 true), by trivial, by trivial, Hai.kept_of h1 h2 h3, fun h => by cases h⟩

theorem mailKnown_holds : Rows.MailKnownSaid :=
  OpenClaim.holds_of_wide 8 Try.f8 rfl rfl rfl rfl rfl rfl rfl ⟨rfl, rfl, rfl, rfl, rfl⟩ rfl rfl rfl rfl rfl (by kernel_rfl) Try.func8 (by kernel_rfl)
    (of_decide_eq_true (by kernel_rfl)) (by unfold Func.isWrapper; first | (rw [if_pos (by decide +kernel)]; kernel_rfl) | (rw [if_neg (by decide +kernel)]; exact ⟨rfl, rfl⟩))
    (fun os started H enc _ => mailKnown_lifted os started H enc)

end Go.Proofs.Ytphbidcbepnihaa
