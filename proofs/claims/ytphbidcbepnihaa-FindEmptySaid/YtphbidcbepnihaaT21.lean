/-
  How states, ways and numbers that are handed to a function of the program lie in the machine's memory (the readings of the statement's form, taken apart), and how a slice stands in the abstract heap. No condition but what is said.
-/
import Derived.Test.YtphbidcbepnihaaS9
import Derived.Test.YtphbidcbepnihaaH24
import Derived.Test.YtphbidcbepnihaaChecked
import Derived.ProofKit
import Derived.Deep.Slices
namespace Go.Proofs.Ytphbidcbepnihaa
open Go Go.Hai Go.ChangeShapes Go.WideShapes
set_option maxRecDepth 100000
section
variable {H : Type} {enc : TypeId × Value → H} {P : Program} {w : World} {base : Nat} {spare : Nat → Bool} {held : Bool}
theorem trod_fields {t : TypeId} {fs : Array Field} {fuel : Nat} {cs : List Value} {x : DataW H × List MemPlace} (ht : P.underlying t = some (.struct fs)) (h : DataW.trod enc P w base spare held fuel t cs = some x) :
    cs.length = P.cellsOf t ∧ ∃ n, ∀ f ∈ fs.toList, ∃ y, DataW.trod enc P w base spare held n f.type ((cs.drop f.offset).take (P.cellsOf f.type)) = some y := by
  obtain ⟨xs, n, _, _, hl, hx, hf⟩ := DataW.trod_struct ht h
  refine ⟨hl, n, fun f hfm => ?_⟩
  obtain ⟨i, hi⟩ := List.mem_iff_getElem?.1 hfm
  have hi' : fs[i]? = some f := by simpa using hi
  have hlt : i < fs.size := (Array.getElem?_eq_some_iff.1 hi').1
  exact ⟨xs[i], by rw [hf i f hi', List.getElem?_eq_getElem (by omega)]⟩
theorem trod_items {t e : TypeId} {m fuel : Nat} {cs : List Value} {x : DataW H × List MemPlace} (ht : P.underlying t = some (.array m e)) (h : DataW.trod enc P w base spare held fuel t cs = some x) :
    cs.length = P.cellsOf t ∧ ∃ n, ∀ i, i < m → ∃ y, DataW.trod enc P w base spare held n e ((cs.drop (i * P.cellsOf e)).take (P.cellsOf e)) = some y := by
  cases fuel with
  | zero => simp [DataW.trod] at h
  | succ n =>
    unfold DataW.trod at h
    rw [ht] at h
    split at h <;> simp_all
    obtain ⟨hl, xs, hp, hd⟩ := h
    refine ⟨n, fun i hi => ?_⟩
    have h1 := mapM_some_get hp i i (by simp [hi])
    have h2 := mapM_some_length hp
    simp at h2
    rw [List.getElem?_eq_getElem (by omega)] at h1
    exact ⟨_, _, h1⟩
theorem Yn {t : TypeId} {k : IntKind} {fuel : Nat} {cs : List Value} {x : DataW H × List MemPlace} (ht : P.underlying t = some (.int k)) (h : DataW.trod enc P w base spare held fuel t cs = some x) : ∃ z, cs = [.int k z] := by
  obtain ⟨z, rfl, _⟩ := DataW.trod_int ht h
  exact ⟨z, rfl⟩
theorem Yo {t : TypeId} {fuel : Nat} {cs : List Value} {x : DataW H × List MemPlace} (ht : P.underlying t = some .bool) (h : DataW.trod enc P w base spare held fuel t cs = some x) : ∃ z, cs = [.bool z] := by
  obtain ⟨z, rfl, _⟩ := DataW.trod_bool ht h
  exact ⟨z, rfl⟩
end
section
variable {H : Type} {enc : TypeId × Value → H} {w : World} {base : Nat} {spare : Nat → Bool} {held : Bool} {fuel : Nat} {cs : List Value} {x : DataW H × List MemPlace}
theorem co3 : Try.prog.cellsOf 3 = 1 := by kernel_rfl
theorem co4 : Try.prog.cellsOf 4 = 1 := by kernel_rfl
theorem co41 : Try.prog.cellsOf 41 = 1 := by kernel_rfl
theorem co63 : Try.prog.cellsOf 63 = 4 := by kernel_rfl
theorem co37 : Try.prog.cellsOf 37 = 4 := by kernel_rfl
theorem co23 : Try.prog.cellsOf 23 = 3 := by kernel_rfl
theorem co53 : Try.prog.cellsOf 53 = 5 := by kernel_rfl
theorem co65 : Try.prog.cellsOf 65 = 13 := by kernel_rfl
theorem co27 : Try.prog.cellsOf 27 = 5 := by kernel_rfl
theorem co24 : Try.prog.cellsOf 24 = 1 := by kernel_rfl
theorem co25 : Try.prog.cellsOf 25 = 1 := by kernel_rfl
theorem cap_cells (h : DataW.trod enc Try.prog w base spare held fuel 37 cs = some x) : ∃ a b c d : Int, cs = [i64 a, i64 b, i64 c, i64 d] := by
  obtain ⟨hl, n, hf⟩ := trod_fields Try.underlying37 h
  rw [co37] at hl
  match cs, hl with
  | [c0, c1, c2, c3], _ =>
    simp only [List.mem_cons, List.not_mem_nil, or_false, forall_eq_or_imp, forall_eq] at hf
    obtain ⟨⟨_, h0⟩, ⟨_, h1⟩, ⟨_, h2⟩, ⟨_, h3⟩⟩ := hf
    simp only [co3] at h0 h1 h2 h3
    obtain ⟨z0, e0⟩ := Yn Try.underlying3 h0
    obtain ⟨z1, e1⟩ := Yn Try.underlying3 h1
    obtain ⟨z2, e2⟩ := Yn Try.underlying3 h2
    obtain ⟨z3, e3⟩ := Yn Try.underlying3 h3
    simp at e0 e1 e2 e3
    exact ⟨z0, z1, z2, z3, by rw [e0, e1, e2, e3]⟩
theorem slot_cells (h : DataW.trod enc Try.prog w base spare held fuel 53 cs = some x) : ∃ s : SlotD, cs = slotL s := by
  obtain ⟨hl, n, hf⟩ := trod_fields Try.underlying53 h
  rw [co53] at hl
  match cs, hl with
  | [c0, c1, c2, c3, c4], _ =>
    simp only [List.mem_cons, List.not_mem_nil, or_false, forall_eq_or_imp, forall_eq] at hf
    obtain ⟨⟨_, h0⟩, ⟨_, h1⟩⟩ := hf
    simp only [co3, co37] at h0 h1
    obtain ⟨a, b, c, d, e0⟩ := cap_cells h0
    obtain ⟨z1, e1⟩ := Yn Try.underlying3 h1
    simp at e0 e1
    exact ⟨⟨a, b, c, d, z1⟩, by rw [e0.1, e0.2.1, e0.2.2.1, e0.2.2.2, e1]⟩
theorem data_cells (h : DataW.trod enc Try.prog w base spare held fuel 63 cs = some x) : ∃ a b c d : Int, cs = [u64 a, u64 b, u64 c, u64 d] := by
  obtain ⟨hl, n, hf⟩ := trod_items Try.underlying63 h
  rw [co63] at hl
  match cs, hl with
  | [c0, c1, c2, c3], _ =>
    obtain ⟨_, h0⟩ := hf 0 (by omega)
    obtain ⟨_, h1⟩ := hf 1 (by omega)
    obtain ⟨_, h2⟩ := hf 2 (by omega)
    obtain ⟨_, h3⟩ := hf 3 (by omega)
    simp only [co41] at h0 h1 h2 h3
    obtain ⟨z0, e0⟩ := Yn Try.underlying41 h0
    obtain ⟨z1, e1⟩ := Yn Try.underlying41 h1
    obtain ⟨z2, e2⟩ := Yn Try.underlying41 h2
    obtain ⟨z3, e3⟩ := Yn Try.underlying41 h3
    simp at e0 e1 e2 e3
    exact ⟨z0, z1, z2, z3, by rw [e0, e1, e2, e3]⟩
theorem thing_cells (h : DataW.trod enc Try.prog w base spare held fuel 65 cs = some x) : ∃ t : ThingD, cs = thingL t := by
  obtain ⟨hl, n, hf⟩ := trod_fields Try.underlying65 h
  rw [co65] at hl
  match cs, hl with
  | [c0, c1, c2, c3, c4, c5, c6, c7, c8, c9, c10, c11, c12], _ =>
    simp only [List.mem_cons, List.not_mem_nil, or_false, forall_eq_or_imp, forall_eq] at hf
    obtain ⟨⟨_, h0⟩, ⟨_, h1⟩, ⟨_, h2⟩, ⟨_, h3⟩, ⟨_, h4⟩, ⟨_, h5⟩, ⟨_, h6⟩, ⟨_, h7⟩, ⟨_, h8⟩, ⟨_, h9⟩⟩ := hf
    simp only [co3, co4, co41, co63] at h0 h1 h2 h3 h4 h5 h6 h7 h8 h9
    obtain ⟨z0, e0⟩ := Yn Try.underlying3 h0
    obtain ⟨z1, e1⟩ := Yn Try.underlying3 h1
    obtain ⟨z2, e2⟩ := Yn Try.underlying3 h2
    obtain ⟨z3, e3⟩ := Yn Try.underlying3 h3
    obtain ⟨z4, e4⟩ := Yn Try.underlying3 h4
    obtain ⟨z5, e5⟩ := Yn Try.underlying3 h5
    obtain ⟨z6, e6⟩ := Yn Try.underlying3 h6
    obtain ⟨z7, e7⟩ := Yo Try.underlying4 h7
    obtain ⟨z8, e8⟩ := Yn Try.underlying41 h8
    obtain ⟨y0, y1, y2, y3, e9⟩ := data_cells h9
    simp at e0 e1 e2 e3 e4 e5 e6 e7 e8 e9
    exact ⟨⟨z0, z1, z2, z3, z4, z5, z6, z7, z8, y0, y1, y2, y3⟩, by rw [e0, e1, e2, e3, e4, e5, e6, e7, e8, e9.1, e9.2.1, e9.2.2.1, e9.2.2.2]⟩
theorem int_cells (h : DataW.trod enc Try.prog w base spare held fuel 3 cs = some x) : ∃ z : Int, cs = intL z := Yn Try.underlying3 h
end

def roRow (l : List Value) (es : Nat) : AObj := .row (Tr.of l) l.length es false false none
theorem load_ro {τ : AHeap} {b es o n : Nat} {l : List Value} (h : τ.t.get b = some (roRow l es)) (hl : o + n ≤ l.length) : τ.loadN b o n = some ((l.drop o).take n) := by
  unfold AHeap.loadN AHeap.row?
  rw [h]
  simp only [roRow, AHeap.alive, if_true]
  rw [if_pos (Nat.ble_eq_true_of_le hl), cellsFrom_of _ _ _ hl]
def flatL {α : Type} (cells : α → List Value) (l : List α) : List Value := (l.map cells).flatten
section
variable {α : Type} {cells : α → List Value} {es : Nat}
theorem flatL_length (hes : ∀ x, (cells x).length = es) : ∀ l : List α, (flatL cells l).length = l.length * es := by
  intro l
  induction l with
  | nil => simp [flatL]
  | cons a l ih =>
    unfold flatL at ih ⊢
    simp only [List.map_cons, List.flatten_cons, List.length_append, List.length_cons, hes, ih]
    rw [Nat.succ_mul]; omega
theorem flatL_drop (hes : ∀ x, (cells x).length = es) : ∀ (l : List α) (i : Nat) (x : α), l[i]? = some x → ∃ r, (flatL cells l).drop (i * es) = cells x ++ r := by
  intro l
  induction l with
  | nil => intro i x h; simp at h
  | cons a l ih =>
    intro i x h
    cases i with
    | zero => simp at h; subst h; exact ⟨flatL cells l, by simp [flatL]⟩
    | succ i =>
      obtain ⟨r, hr⟩ := ih i x (by simpa using h)
      refine ⟨r, ?_⟩
      have : flatL cells (a :: l) = cells a ++ flatL cells l := by simp [flatL]
      rw [this, Nat.succ_mul, Nat.add_comm, ← List.drop_drop]
      have h2 : (cells a ++ flatL cells l).drop es = flatL cells l := by rw [← hes a]; simp
      rw [h2, hr]
theorem SlAt_ro (hes : ∀ x, (cells x).length = es) {σ : AHeap} {b : Nat} {l : List α} (hb : b < σ.n) (h : σ.t.get b = some (roRow (flatL cells l) es)) : SlAt cells es σ b l := by
  refine ⟨hb, fun i x hx o n ho => ?_⟩
  have hi := (List.getElem?_eq_some_iff.1 hx).1
  have hm : (i + 1) * es ≤ l.length * es := Nat.mul_le_mul_right _ hi
  rw [Nat.succ_mul] at hm
  rw [load_ro h (by rw [flatL_length hes]; omega)]
  obtain ⟨r, hr⟩ := flatL_drop hes l i x hx
  rw [← List.drop_drop, hr]
  have hl := hes x
  rw [List.drop_append_of_le_length (by omega), List.take_append_of_le_length (by rw [List.length_drop]; omega)]
theorem flatL_get (hes : ∀ x, (cells x).length = es) {l : List α} {i r : Nat} {x : α} (hx : l[i]? = some x) (hr : r < es) : (flatL cells l)[i * es + r]? = (cells x)[r]? := by
  obtain ⟨q, hq⟩ := flatL_drop hes l i x hx
  rw [← List.getElem?_drop, hq, List.getElem?_append_left (by rw [hes]; exact hr)]
theorem choose_list {p : Nat → α → Prop} : ∀ n, (∀ i, i < n → ∃ x, p i x) → ∃ l : List α, l.length = n ∧ ∀ (i : Nat) (x : α), l[i]? = some x → p i x := by
  intro n
  induction n with
  | zero => intro _; exact ⟨[], rfl, fun i x h => by simp at h⟩
  | succ n ih =>
    intro h
    obtain ⟨l, h1, h2⟩ := ih fun i hi => h i (by omega)
    obtain ⟨x, hx⟩ := h n (by omega)
    refine ⟨l ++ [x], by simp [h1], fun i y hy => ?_⟩
    by_cases hi : i < l.length
    · rw [List.getElem?_append_left hi] at hy; exact h2 i y hy
    · have hi' : i = n := by have := (List.getElem?_eq_some_iff.1 hy).1; simp at this; omega
      subst hi'
      rw [← h1] at hy
      simp at hy
      subst hy; exact hx
theorem isCell_scal {v : Value} (h : scal v = true) : isCell v = true := by
  cases v <;> first | rfl | simp [scal] at h
theorem slice_view [Rho] {H : Type} {enc : TypeId × Value → H} {P : Program} {w : World} (hes : ∀ x, (cells x).length = es) (hes0 : 0 < es) (hsc : ∀ x, ∀ v ∈ cells x, scal v = true) {t e : TypeId} (ht : P.underlying t = some (.slice e)) (hc : P.cellsOf e = es)
    (hcell : ∀ n cs y, DataW.trod enc P w 0 (fun _ => true) true n e cs = some y → ∃ x, cs = cells x) {v : Value} {fuel : Nat} {x : DataW H × List MemPlace} (h : DataW.trod enc P w 0 (fun _ => true) true fuel t [v] = some x) (b : Nat) :
    ∃ (l : List α) (a1 : Option Addr) (f1 : Nat) (loc : Option Hai.Loc), (∀ ρ : Ren, ρ b = loc → VR ρ (.slice a1 l.length f1) v) ∧ (∀ σ : AHeap, b < σ.n → σ.t.get b = some (roRow (flatL cells l) es) → SlP cells es σ a1 l) ∧
      (∀ L, loc = some L → L.es = es ∧ L.blk < w.heap.size ∧ ∀ ρ, RowAt ρ w (Tr.of (flatL cells l)) (flatL cells l).length false L) := by
  rcases Deep.open_slice ht h with ⟨h1, _⟩ | ⟨a, len, cap, m, n, D, Pl, h1, _, hlc, _, hm, _, hel⟩
  · simp only [List.cons.injEq, and_true] at h1
    subst h1
    exact ⟨[], none, 0, none, fun ρ _ => .flat rfl, fun _ _ _ => .inl rfl, fun L h => by cases h⟩
  · simp only [List.cons.injEq, and_true] at h1
    subst h1
    simp only [if_true] at hm
    subst hm
    rw [hc] at hel
    by_cases h0 : m = 0
    · subst h0
      have : len = 0 := by omega
      subst this
      exact ⟨[], some a, 0, none, fun ρ _ => .sl0, fun _ _ _ => .inl rfl, fun L h => by cases h⟩
    · have hel' : ∀ i, i < m → ∃ y, w.cells? 0 (a.add (i * es)) es = some (cells y) := fun i hi => by
        obtain ⟨cs', g1, g2⟩ := hel i hi
        obtain ⟨y, rfl⟩ := hcell _ _ _ g2
        exact ⟨y, g1⟩
      obtain ⟨l, l1, l2⟩ := choose_list (p := fun i y => w.cells? 0 (a.add (i * es)) es = some (cells y)) len fun i hi => hel' i (by omega)
      obtain ⟨y0, hy0⟩ := hel' 0 (by omega)
      obtain ⟨_, _, hy0'⟩ := World.cells?_some hy0
      have hc0 := hy0' 0 hes0
      have hlen0 := hes y0
      rw [Nat.zero_mul, List.getElem?_eq_getElem (by omega)] at hc0
      simp only [Addr.add, if_true] at hc0
      obtain ⟨blk, off, sp⟩ := a
      have hheap : ∃ C T fr, w.heap[blk]? = some (.cells C T fr) ∧ sp = none ∧ off < C.size := by
        unfold World.cell? at hc0
        split at hc0
        · next C T fr hh =>
          split at hc0
          · cases hc0
          · next hsp =>
            refine ⟨C, T, fr, hh, by cases sp <;> simp_all, ?_⟩
            exact (Array.getElem?_eq_some_iff.1 hc0).1
        · cases hc0
      obtain ⟨C, T, fr, hh, rfl, hoff⟩ := hheap
      have hblk : blk < w.heap.size := (Array.getElem?_eq_some_iff.1 hh).1
      have hfl := flatL_length hes l
      have hcells : ∀ j, j < l.length * es → C[off + j]? = (flatL cells l)[j]? := by
        intro j hj
        have hq : j / es < l.length := (Nat.div_lt_iff_lt_mul hes0).2 hj
        have hr : j % es < es := Nat.mod_lt _ hes0
        have hj' : j = j / es * es + j % es := by rw [Nat.mul_comm]; exact (Nat.div_add_mod _ _).symm
        have hx := List.getElem?_eq_getElem hq
        generalize l[j / es] = y at hx
        obtain ⟨_, _, g⟩ := World.cells?_some (l2 _ _ hx)
        have g := g (j % es) hr
        rw [add_none, add_none] at g
        unfold World.cell? at g
        rw [hh] at g
        simp only [Option.isSome_none, Bool.false_eq_true, if_false] at g
        rw [hj', flatL_get hes hx hr, ← g]
        congr 1
        omega
      refine ⟨l, some ⟨b, 0, none⟩, 2, some ⟨blk, off, l.length * es, es⟩, fun ρ hρ => ?_, fun σ hb hg => .inr ⟨b, rfl, SlAt_ro hes hb hg⟩, fun L hL => ?_⟩
      · rw [l1]
        exact VR.sl (L := ⟨blk, off, len * es, es⟩) (by rw [hρ, l1]) hlc (by decide) (fun h => by cases h) (.inl rfl)
      · cases hL
        refine ⟨rfl, hblk, fun ρ => ⟨⟨C, T, fr, hh, ?_, Nat.le_of_eq hfl, (fun h => by cases h), fun i v hi hv => ?_⟩⟩⟩
        · by_cases hz : l.length * es = 0
          · rw [hz]; simp; omega
          · have := hcells (l.length * es - 1) (by omega)
            rw [List.getElem?_eq_getElem (by omega)] at this
            have := (Array.getElem?_eq_some_iff.1 this).1
            simp only
            omega
        · rw [Tr.get_of] at hv
          have hmem : scal v = true := by
            have := List.mem_of_getElem? hv
            unfold flatL at this
            rw [List.mem_flatten] at this
            obtain ⟨c, hc1, hc2⟩ := this
            obtain ⟨y, _, rfl⟩ := List.mem_map.1 hc1
            exact hsc y v hc2
          exact ⟨isCell_scal hmem, v, by rw [hcells i (by omega)]; exact hv, .flat (flat_of_scal hmem)⟩
end
end Go.Proofs.Ytphbidcbepnihaa
