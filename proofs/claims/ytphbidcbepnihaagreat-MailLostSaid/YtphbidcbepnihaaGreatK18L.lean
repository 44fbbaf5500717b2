/-
  The function MailLost of the package reevelaw18 returns true, for every word and both answers of its second argument, whatever the world it is called in; it needs no condition.
-/
import Derived.Test.YtphbidcbepnihaaGreatH24
import Derived.Test.YtphbidcbepnihaaGreatK18M
import Derived.Test.YtphbidcbepnihaaGreatRows
import Derived.Test.YtphbidcbepnihaaGreatChecked
namespace Go.Proofs.YtphbidcbepnihaaGreat
open Go Go.ChangeShapes Go.WideShapes Go.ChangeAt Go.RowKit

theorem mailLost_runs (n : Int) (b : Bool) (hn : 0 ≤ n) (W : World) :
    Calls Tryz.prog 7 #[.int .u64 n, .bool b] W fun e w' => e = .returned (.bool true) ∧ w'.os = W.os ∧ w'.output = W.output ∧ ∀ B, B < W.heap.size → w'.heap[B]? = W.heap[B]? := by
  obtain ⟨m, rfl⟩ := Int.eq_ofNat_of_zero_le hn
  cases m with
  | zero =>
    letI : Hai.Rho := ⟨fun _ => 0⟩
    cases b with
    | false => exact Hai.open_true mailLost_zf (.cons (.flat rfl) (.cons (.flat rfl) .nil)) W
    | true => exact Hai.open_true mailLost_zt (.cons (.flat rfl) (.cons (.flat rfl) .nil)) W
  | succ m =>
    letI : Hai.Rho := ⟨fun _ => m⟩
    cases b with
    | false => exact Hai.open_true mailLost_sf (.cons (.sym (i := 0)) (.cons (.flat rfl) .nil)) W
    | true => exact Hai.open_true mailLost_st (.cons (.sym (i := 0)) (.cons (.flat rfl) .nil)) W

theorem Tryz.own : ownKnob Tryz.prog.godebug = none := by kernel_rfl
theorem Tryz.laidOut : laidOutB Tryz.prog = true := by kernel_rfl

set_option maxRecDepth 100000 in
theorem mailLost_lifted (os : Os) (started : os.Started) (H : Type) (enc : TypeId × Value → H) :
    ReturnsInHanded {} Tryz.checked os 7 .any (Rows.mailLostSpec.pre6 enc Tryz.prog Tryz.f7 Rows.mailLostRow.domain false) (Rows.mailLostSpec.post enc Tryz.prog Tryz.f7 false true false false) := by
  refine returnsInHanded_of_change (C := Tryz.checked) Tryz.own started (by kernel_rfl) Tryz.func7
    (ChangeSpec.witness6 (enc := enc) (C := Tryz.checked) false ⟨#[], #[.int .u64 0, .bool false], []⟩ 8 (by kernel_rfl) (by kernel_rfl) (by kernel_rfl) (by kernel_rfl)) ?_
  intro W base args ds gs before hval0 hW hcnd _
  have hval : ∀ (j : Nat) t v, Tryz.f7.params[j]? = some t → args[j]? = some v → Value.okWide Tryz.prog W .any base t v := hval0
  have hW' := hW
  obtain ⟨p, q, hA0, hV, rfl, hfz, hnd⟩ := hW
  have hA : DataW.TrodAll enc Tryz.prog W 0 (fun _ => true) true Tryz.f7.params.toList args.toList ds p := hA0
  rw [Tryz.params7] at hA hval
  obtain ⟨v0, v1, d0, d1, p0, p1, rfl, rfl, rfl, g0, g1⟩ := trodAll_two hA
  obtain ⟨rfl, rfl⟩ := trodVars_none hV
  obtain ⟨n, rfl, rfl, rfl, wn⟩ := open_int Tryz.underlying31 (hval 0 31 v0 rfl rfl) g0
  obtain ⟨b, rfl, rfl, rfl⟩ := open_bool Tryz.underlying4 (hval 1 4 v1 rfl rfl) g1
  clear hA0 hval0
  simp only [List.append_nil] at hW'
  have hn : 0 ≤ n := by
    have h := wn
    simp only [Lit.wf, Bool.and_eq_true, decide_eq_true_eq] at h
    exact h.1
  refine (mailLost_runs n b hn W).mono fun e W' ⟨he, h1, h2, h3⟩ => ?_
  subst he
  exact ⟨_, rfl, [.lit (.int .u64 n), .lit (.bool b)], [], [], [], [], [], hW', trodAll_mk1 (shut_bool Tryz.underlying4 true), trodAll_mk2 (shut_int Tryz.underlying31 wn) (shut_bool Tryz.underlying4 b), by trivial, Hai.kept_of h1 h2 h3, fun h => by cases h⟩

theorem mailLost_holds : Rows.MailLostSaid :=
  OpenClaim.holds_of_wide 7 Tryz.f7 rfl rfl rfl rfl rfl rfl rfl ⟨rfl, rfl, rfl, rfl, rfl⟩ rfl rfl rfl rfl rfl (by kernel_rfl) Tryz.func7 (by kernel_rfl)
    (of_decide_eq_true (by kernel_rfl)) (by unfold Func.isWrapper; first | (rw [if_pos (by decide +kernel)]; kernel_rfl) | (rw [if_neg (by decide +kernel)]; exact ⟨rfl, rfl⟩))
    (fun os started H enc _ => mailLost_lifted os started H enc)

end Go.Proofs.YtphbidcbepnihaaGreat
