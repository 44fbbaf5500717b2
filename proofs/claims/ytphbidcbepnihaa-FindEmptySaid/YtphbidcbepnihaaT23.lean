/-
  The function FindEmpty of the package reevelaw13 returns true for every state, thread and way, whatever the world it is called in, and its arguments are as they were; it needs no condition.
-/
import Derived.Test.YtphbidcbepnihaaT22
import Derived.Test.YtphbidcbepnihaaRows
namespace Go.Proofs.Ytphbidcbepnihaa
open Go Go.Hai Go.ChangeShapes Go.WideShapes Go.ChangeAt Go.RowKit
set_option maxRecDepth 100000

instance : Hai.Rho := ⟨fun _ => 0⟩

theorem scal_slot (x : SlotD) (v : Value) (h : v ∈ slotL x) : scal v = true := by
  simp at h
  rcases h with h | h | h | h | h <;> subst h <;> rfl
theorem scal_thing (x : ThingD) (v : Value) (h : v ∈ thingL x) : scal v = true := by
  simp at h
  rcases h with h | h | h | h | h | h | h | h | h | h | h | h | h <;> subst h <;> rfl
theorem scal_int (x : Int) (v : Value) (h : v ∈ intL x) : scal v = true := by
  simp at h
  subst h; rfl

theorem findEmpty_calls {H : Type} {enc : TypeId × Value → H} {W : World} {cs : Array Value} {n : Int} {v2 : Value} {d0 d2 : DataW H} {p0 p2 : List MemPlace}
    (g0 : DataW.Trod enc Try.prog W 0 (fun _ => true) true 27 (.agg cs) d0 p0) (g2 : DataW.Trod enc Try.prog W 0 (fun _ => true) true 28 v2 d2 p2) (hv2 : v2.cells.toList = [v2]) :
    Calls Try.prog 3 #[.agg cs, .int .i64 n, v2] W fun e W' => e = .returned (.bool true) ∧ W'.os = W.os ∧ W'.output = W.output ∧ ∀ B, B < W.heap.size → W'.heap[B]? = W.heap[B]? := by
  obtain ⟨fuel, hf⟩ := g0
  obtain ⟨fuel2, hf2⟩ := g2
  rw [hv2] at hf2
  have hcs : (Value.agg cs).cells.toList = cs.toList := rfl
  rw [hcs] at hf
  obtain ⟨hl, m, hfs⟩ := trod_fields Try.underlying27 hf
  rw [co27] at hl
  simp only [List.mem_cons, List.not_mem_nil, or_false, forall_eq_or_imp, forall_eq] at hfs
  obtain ⟨⟨_, k0⟩, ⟨_, k1⟩, ⟨_, k2⟩⟩ := hfs
  obtain ⟨ds, hds⟩ : ∃ ds, cs.toList = ds := ⟨_, rfl⟩
  rw [hds] at hl k0 k1 k2
  match ds, hl with
  | [c0, c1, c2, c3, c4], _ =>
    simp only [co23, co24, co25, List.drop_zero, List.take_succ_cons, List.take_zero, List.drop_succ_cons] at k0 k1 k2
    obtain ⟨hl0, m0, hf0⟩ := trod_fields Try.underlying23 k0
    simp only [List.mem_cons, List.not_mem_nil, or_false, forall_eq_or_imp, forall_eq] at hf0
    obtain ⟨⟨_, j0⟩, ⟨_, j1⟩, ⟨_, j2⟩⟩ := hf0
    simp only [co3, List.drop_zero, List.take_succ_cons, List.take_zero, List.drop_succ_cons] at j0 j1 j2
    obtain ⟨z0, e0⟩ := int_cells j0
    obtain ⟨z1, e1⟩ := int_cells j1
    obtain ⟨z2, e2⟩ := int_cells j2
    simp only [List.cons.injEq, and_true] at e0 e1 e2
    subst e0; subst e1; subst e2
    obtain ⟨sl, a1, f1, loc0, q1, q2, q3⟩ := slice_view (cells := slotL) (es := 5) (fun _ => rfl) (by omega) scal_slot Try.underlying24 co53 (fun _ _ _ h => slot_cells h) k1 0
    obtain ⟨th, a2, f2, loc1, r1, r2, r3⟩ := slice_view (cells := thingL) (es := 13) (fun _ => rfl) (by omega) scal_thing Try.underlying25 co65 (fun _ _ _ h => thing_cells h) k2 1
    obtain ⟨l, a, f, loc2, s1, s2, s3⟩ := slice_view (cells := intL) (es := 1) (fun _ => rfl) (by omega) scal_int Try.underlying28 co3 (fun _ _ _ h => int_cells h) hf2 2
    have hrun := FindEmpty_112 ⟨z0, z1, z2, sl, th⟩ a1 f1 a2 f2 n l a f (roRow (flatL slotL sl) 5) (roRow (flatL thingL th) 13) (roRow (flatL intL l) 1)
      (q2 _ (Nat.le_of_ble_eq_true rfl) (heap3_0 _ _ _)) (r2 _ (Nat.le_of_ble_eq_true rfl) (heap3_1 _ _ _)) (s2 _ (Nat.le_of_ble_eq_true rfl) (heap3_2 _ _ _))
    obtain ⟨_, _, hC⟩ := acall_ok (ofProg_ok (P := Try.prog)) 112 _ _ _ _ _ hrun
    have hsim := sim3 (w := W) (l0 := loc0) (l1 := loc1) (l2 := loc2) q3 r3 s3
    have hargs : VRs (locs loc0 loc1 loc2) [stV ⟨z0, z1, z2, sl, th⟩ a1 f1 a2 f2, .int .i64 n, .slice a l.length f] [.agg cs, .int .i64 n, v2] := by
      refine .cons ?_ (.cons (.flat rfl) (.cons (s1 _ rfl) .nil))
      have ecs : cs = [i64 z0, i64 z1, i64 z2, c3, c4].toArray := by rw [← hds]
      rw [ecs]
      exact VR.of_agg (.cons (.flat rfl) (.cons (.flat rfl) (.cons (.flat rfl) (.cons (q1 _ rfl) (.cons (r1 _ rfl) .nil)))))
    refine (hC _ W _ hsim hargs).mono ?_
    rintro e w' ⟨u, ρ', rfl, hvu, hp⟩
    rw [bool_eq hvu]
    refine ⟨rfl, hp.io.1, hp.io.2, fun B hB => hp.frame B hB ?_⟩
    rintro ⟨b, L, u1, _, _, u2⟩
    rcases b with _ | _ | _ | b
    · rw [heap3_0] at u2; cases u2
    · rw [heap3_1] at u2; cases u2
    · rw [heap3_2] at u2; cases u2
    · cases u1

theorem Try.own : ownKnob Try.prog.godebug = none := by kernel_rfl
theorem Try.laidOut : laidOutB Try.prog = true := by kernel_rfl

theorem findEmpty_lifted (os : Os) (started : os.Started) (H : Type) (enc : TypeId × Value → H) :
    ReturnsInHanded {} Try.checked os 3 .any (Rows.findEmptySpec.pre6 enc Try.prog Try.f3 Rows.findEmptyRow.domain false) (Rows.findEmptySpec.post enc Try.prog Try.f3 false true false false) := by
  refine returnsInHanded_of_change (C := Try.checked) Try.own started (by kernel_rfl) Try.func3
    (ChangeSpec.witness6 (enc := enc) (C := Try.checked) false ⟨#[], #[.agg #[.int .i64 0, .int .i64 0, .int .i64 0, .slice none 0 0, .slice none 0 0], .int .i64 0, .slice none 0 0], []⟩ 8 (by kernel_rfl) (by kernel_rfl) (by kernel_rfl) (by kernel_rfl)) ?_
  intro W base args ds gs before hval0 hW hcnd _
  have hval : ∀ (j : Nat) t v, Try.f3.params[j]? = some t → args[j]? = some v → Value.okWide Try.prog W .any base t v := hval0
  have hW' := hW
  obtain ⟨p, q, hA0, hV, rfl, hfz, hnd⟩ := hW
  have hA : DataW.TrodAll enc Try.prog W 0 (fun _ => true) true Try.f3.params.toList args.toList ds p := hA0
  rw [Try.params3] at hA hval
  obtain ⟨v0, v1, v2, d0, d1, d2, p0, p1, p2, rfl, rfl, rfl, g0, g1, g2⟩ := trodAll_three hA
  obtain ⟨rfl, rfl⟩ := trodVars_none hV
  obtain ⟨cs, rfl, hsz⟩ := okWide_struct Try.underlying27 (hval 0 27 v0 rfl rfl)
  obtain ⟨a0, len, cap, rfl⟩ := okWide_slice Try.underlying28 (hval 2 28 v2 rfl rfl)
  obtain ⟨n, rfl, rfl, rfl, wn⟩ := open_int Try.underlying3 (hval 1 3 v1 rfl rfl) g1
  clear hA0 hval0
  refine (findEmpty_calls (n := n) g0 g2 rfl).mono fun e W' ⟨he, h1, h2, h3⟩ => ?_
  subst he
  have hlt : ∀ x ∈ p0 ++ [] ++ p2, x.block < W.heap.size := fun x hx => hW'.lt x (by simpa using hx)
  have same : ∀ x : MemPlace, x.block < W.heap.size → W.sameAt W' x := fun x hx => by
    cases x with
    | cell b o => exact World.cell?_of_block (w := W) (h3 b hx)
    | map b => exact h3 b hx
  have t0 := WideElems.Trod_stays (sp' := fun b => decide (b < W.heap.size)) Try.laidOut (by kernel_rfl) (of_decide_eq_true (by kernel_rfl)) g0 (fun x hx => same x (hlt x (by simp [hx]))) (fun x hx => by simpa using hlt x (by simp [hx]))
  have t2 := WideElems.Trod_stays (sp' := fun b => decide (b < W.heap.size)) Try.laidOut (by kernel_rfl) (of_decide_eq_true (by kernel_rfl)) g2 (fun x hx => same x (hlt x (by simp [hx]))) (fun x hx => by simpa using hlt x (by simp [hx]))
  exact ⟨_, rfl, [d0, .lit (.int .i64 n), d2], [], _, [], _, [], hW', trodAll_mk1 (shut_bool Try.underlying4 true), trodAll_mk3 t0 (shut_int Try.underlying3 wn) t2, by trivial, Hai.kept_of h1 h2 h3, fun h => by cases h⟩

theorem findEmpty_holds : Rows.FindEmptySaid :=
  OpenClaim.holds_of_wide 3 Try.f3 rfl rfl rfl rfl rfl rfl rfl ⟨rfl, rfl, rfl, rfl, rfl⟩ rfl rfl rfl rfl rfl (by kernel_rfl) Try.func3 (by kernel_rfl)
    (of_decide_eq_true (by kernel_rfl)) (by unfold Func.isWrapper; first | (rw [if_pos (by decide +kernel)]; kernel_rfl) | (rw [if_neg (by decide +kernel)]; exact ⟨rfl, rfl⟩))
    (fun os started H enc _ => findEmpty_lifted os started H enc)

end Go.Proofs.Ytphbidcbepnihaa
