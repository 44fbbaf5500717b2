/-
  The frame of a law without arguments that answers true: from the quick evaluation to what its row asks behind it. No proof of the program stands here.
-/
import Derived.Test.YtphbidcbepnihaaH23
import Derived.ProofKit
namespace Go.Hai
open Go Go.ChangeShapes Go.WideShapes Go.ChangeAt Go.RowKit

theorem kept_of {w w' : World} {may : MemPlace → Prop} (h1 : w'.os = w.os) (h2 : w'.output = w.output) (h3 : ∀ B, B < w.heap.size → w'.heap[B]? = w.heap[B]?) : w.keptBut w' may := by
  refine ⟨h1, h2, fun i hi => ?_⟩
  rw [h3 i hi]
  cases w.heap[i]? with
  | none => rfl
  | some o => cases o with
    | cells c t fr => exact ⟨rfl, rfl, rfl, fun _ _ => rfl⟩
    | map es c => exact .inr ⟨rfl, rfl⟩
    | _ => rfl
end Go.Hai
