/-
  The function FindEmpty of the package reevelaw13 over a heap that stands for what it was handed: it answers true. No condition.
-/
import Derived.Test.YtphbidcbepnihaaT18
import Derived.Test.YtphbidcbepnihaaT19
import Derived.Test.YtphbidcbepnihaaT21
namespace Go.Proofs.Ytphbidcbepnihaa
open Go Go.Hai
set_option maxRecDepth 100000

def locs (l0 l1 l2 : Option Hai.Loc) : Ren := fun b => match b with | 0 => l0 | 1 => l1 | 2 => l2 | _ => none
def heap3 (r0 r1 r2 : AObj) : AHeap := { t := ((Tr.tip.ins 0 r0).ins 1 r1).ins 2 r2, n := 3, nf := 0, dead := [], low := 3 }
theorem heap3_0 (r0 r1 r2 : AObj) : (heap3 r0 r1 r2).t.get 0 = some r0 := by simp [heap3, Tr.get_ins]
theorem heap3_1 (r0 r1 r2 : AObj) : (heap3 r0 r1 r2).t.get 1 = some r1 := by simp [heap3, Tr.get_ins]
theorem heap3_2 (r0 r1 r2 : AObj) : (heap3 r0 r1 r2).t.get 2 = some r2 := by simp [heap3, Tr.get_ins]
def LocOk [Rho] (w : World) (l : List Value) (es : Nat) (loc : Option Hai.Loc) : Prop := ∀ L, loc = some L → L.es = es ∧ L.blk < w.heap.size ∧ ∀ ρ, RowAt ρ w (Tr.of l) l.length false L
theorem sim3 [Rho] {w : World} {c0 c1 c2 : List Value} {e0 e1 e2 : Nat} {l0 l1 l2 : Option Hai.Loc} (h0 : LocOk w c0 e0 l0) (h1 : LocOk w c1 e1 l1) (h2 : LocOk w c2 e2 l2) :
    Sim (locs l0 l1 l2) (heap3 (roRow c0 e0) (roRow c1 e1) (roRow c2 e2)) w := by
  have key : ∀ b L, locs l0 l1 l2 b = some L → b < 3 ∧ ∃ c e, (heap3 (roRow c0 e0) (roRow c1 e1) (roRow c2 e2)).t.get b = some (roRow c e) ∧ L.es = e ∧ L.blk < w.heap.size ∧ ∀ ρ, RowAt ρ w (Tr.of c) c.length false L := by
    intro b L h
    rcases b with _ | _ | _ | b
    · exact ⟨by omega, c0, e0, heap3_0 _ _ _, h0 L h⟩
    · exact ⟨by omega, c1, e1, heap3_1 _ _ _, h1 L h⟩
    · exact ⟨by omega, c2, e2, heap3_2 _ _ _, h2 L h⟩
    · cases h
  refine ⟨fun b L h => (key b L h).1, ?_, ?_, ?_, ?_, ?_, ?_⟩
  · intro b L h; obtain ⟨_, c, e, _, _, g, _⟩ := key b L h; exact g
  · intro b L h; obtain ⟨_, c, e, g, _⟩ := key b L h; rw [g]; simp
  · intro b L cs len es top rw' fam h hg
    obtain ⟨_, c, e, g, g1, g2, g3⟩ := key b L h
    rw [g] at hg
    simp only [roRow, Option.some.injEq, AObj.row.injEq] at hg
    obtain ⟨rfl, rfl, rfl, rfl, rfl, rfl⟩ := hg
    exact ⟨g1, (fun p hp => by cases hp), fun _ => g3 _⟩
  · intro b L o h hg
    obtain ⟨_, c, e, g, _⟩ := key b L h
    rw [g] at hg
    cases hg
  · intro b b' L L' _ h h' _
    obtain ⟨_, c, e, g, _⟩ := key b L h
    obtain ⟨_, c', e', g', _⟩ := key b' L' h'
    rw [g, g']
    exact .inl ⟨rfl, rfl⟩
  · intro b b' L L' cs len es fam cs' len' es' top' rw' fam' _ h _ _ hg
    obtain ⟨_, c, e, g, _⟩ := key b L h
    rw [g] at hg
    simp only [roRow, Option.some.injEq, AObj.row.injEq] at hg
    simp at hg

theorem awake_at (r0 r1 r2 r3 : AObj) : acall (ofProg Try.prog) 1000 111 9 [] (heap4 r0 r1 r2 r3 3) = some (.bool true, heap4 r0 r1 r2 r3 3) := by
  letI : Rho := ⟨fun _ => 0⟩
  have h := congrFun (congrFun (congrFun (congrFun awake_runs r0) r1) r2) r3
  rw [acodeK_eq (acallK_eq (ofProg Try.prog) 1000 110)] at h
  refine acall_flat e_reevelaw13_awake (by simp) rfl ?_
  rw [grow_nil]
  have e : (heap4 r0 r1 r2 r3 3).fresh = heap4 r0 r1 r2 r3 4 := rfl
  rw [e]
  have fin : ∀ (t : Tmps) (τ : AHeap), testK t τ = some true → (match resAll t τ [.tmp 0] with | some vs => one vs = .bool true | none => False) ∧ τ.low = 4 := by
    intro t τ ht
    obtain ⟨a, b, c, d, low⟩ := τ
    replace ht : (Bool.rec none (tgetK t 0 fun v => boolK v none (some false) (some true)) (Nat.beq low 4) : A) = some true := ht
    cases hl : Nat.beq low 4 with
    | false => rw [hl] at ht; cases ht
    | true =>
      rw [hl] at ht
      replace ht : tgetK t 0 (fun v => boolK v none (some false) (some true)) = some true := ht
      rw [tgetK_eq] at ht
      refine ⟨?_, Nat.eq_of_beq_eq_true hl⟩
      simp only [resAll, resOne, one]
      cases hv : tget t 0 with
      | bool r => cases r with
        | true => rfl
        | false => rw [hv] at ht; cases ht
      | _ => rw [hv] at ht; cases ht
  cases hx : acode (acall (ofProg Try.prog) 1000 110) 1000 c_reevelaw13_awake (Tr.of []) (heap4 r0 r1 r2 r3 4) with
  | none => rw [hx] at h; cases h
  | some p =>
    obtain ⟨ex, t, τ⟩ := p
    rw [hx] at h
    cases ex with
    | exit i => cases h
    | normal => exact fin t τ h
    | ret => exact fin t τ h
theorem FindEmpty_112 (S : StD) (a1 : Option Addr) (f1 : Nat) (a2 : Option Addr) (f2 : Nat) (thread : Int) (l : List Int) (a : Option Addr) (f : Nat) (r0 r1 r2 : AObj) (h1 : SlS (heap3 r0 r1 r2) a1 S.sl) (h2 : SlT (heap3 r0 r1 r2) a2 S.th) (h3 : SlI (heap3 r0 r1 r2) a l) :
    acall (ofProg Try.prog) 1000 112 3 [stV S a1 f1 a2 f2, .int .i64 thread, .slice a l.length f] (heap3 r0 r1 r2) = some (.bool true, heap3 r0 r1 r2) := by
  have hA : acall (ofProg Try.prog) 1000 111 9 [] ((heap3 r0 r1 r2).fresh.grow [(stL S a1 f1 a2 f2, 5)]) = some (.bool true, (heap3 r0 r1 r2).fresh.grow [(stL S a1 f1 a2 f2, 5)]) := awake_at r0 r1 r2 (rowOf (stL S a1 f1 a2 f2, 5))
  by_cases hm : S.th.length ≤ 100
  · have h := FindEmpty_ok (100 - S.th.length) (heap3 r0 r1 r2) S a1 f1 a2 f2 thread l a f rfl h1 h2 h3
    rw [show 100 - S.th.length + S.th.length + 11 = 111 by omega, show 100 - S.th.length + S.th.length + 12 = 112 by omega] at h
    exact h hA
  · exact FindEmpty_far 111 (heap3 r0 r1 r2) S a1 f1 a2 f2 thread l a f (by omega) hA
end Go.Proofs.Ytphbidcbepnihaa
