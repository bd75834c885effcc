/- Steps that make or write memory: new blocks, stores, elements in rows. -/
import Derived.Test.YtilfhbpehgklbaaQqPureD
import Derived.Laws.CopyRow
import Derived.Laws.MakeOwn
set_option linter.unusedSimpArgs false
set_option linter.unusedVariables false
namespace Go.D

section
variable {G : Ghost} {hw : HW} {w : World}

theorem heap_alloc (w : World) (o : Obj) : (w.alloc o).heap = w.heap.push o := rfl
theorem heap_alloc_lt (w : World) (o : Obj) {x : Nat} (h : x < w.heap.size) : (w.alloc o).heap[x]? = w.heap[x]? := by
  rw [heap_alloc, Array.getElem?_push, if_neg (by omega)]
theorem heap_alloc_eq (w : World) (o : Obj) : (w.alloc o).heap[w.heap.size]? = some o := by
  rw [heap_alloc, Array.getElem?_push, if_pos rfl]

theorem cell_alloc_lt (w : World) (o : Obj) {b : Nat} (k : Nat) (h : b < w.heap.size) : (w.alloc o).cell? ⟨b, k, none⟩ = w.cell? ⟨b, k, none⟩ := by
  simp only [World.cell?, heap_alloc_lt w o h]

/-- A draw first. -/
theorem CPres.drew (ok : WOk G hw w) (hand : List Nat) : CPres G hw w hand G hw w.drew :=
  ⟨rfl, rfl, rfl, Nat.le_refl _, rfl, fun _ _ h => h, fun _ _ _ => rfl, ⟨[], by simp⟩, fun _ _ _ _ => ⟨rfl, fun _ h => h⟩, fun _ h => .inl h, ⟨ok.B, ok.imm, ok.hw⟩⟩

/-- A new block that is a variable's own. -/
theorem CPres.alloc (ok : WOk G hw w) (o : Obj) (hand : List Nat) : CPres G hw w hand G hw (w.alloc o) := by
  refine ⟨rfl, rfl, rfl, by simp, rfl, fun _ _ h => h, fun b k h => cell_alloc_lt _ _ _ (ok.imm b k h), ⟨[], by simp⟩, fun x hx _ _ => ⟨heap_alloc_lt w o hx, fun _ h => h⟩, fun _ h => .inl h, ?_, ?_, ?_⟩
  · have := ok.B; simp; omega
  · intro b k h; have := ok.imm b k h; simp; omega
  · intro x h; have := ok.hw x h; simp; omega

/-- A new block of which the first cells are never written any more. -/
theorem CPres.allocImm (ok : WOk G hw w) (o : Obj) (n : Nat) (hand : List Nat) : CPres G hw w hand { G with imm := fun b k => G.imm b k ∨ (b = w.heap.size ∧ k < n) } hw (w.alloc o) := by
  refine ⟨rfl, rfl, rfl, by simp, rfl, fun _ _ h => .inl h, fun b k h => cell_alloc_lt _ _ _ (ok.imm b k h), ⟨[], by simp⟩, fun x hx _ _ => ⟨heap_alloc_lt w o hx, fun k h => ?_⟩, fun _ h => .inl h, ?_, ?_, ?_⟩
  · rcases h with h | ⟨rfl, _⟩
    · exact h
    · omega
  · have := ok.B; simp; omega
  · rintro b k (h | ⟨rfl, _⟩)
    · have := ok.imm b k h; simp; omega
    · simp
  · intro x h; have := ok.hw x h; simp; omega

/-- A new block of the evaluator's heap. -/
theorem CPres.allocHeap (ok : WOk G hw w) (o : Obj) (n : Nat) (hand : List Nat) (hl : ∀ x ∈ hand, x < w.heap.size) :
    CPres G hw w hand { G with hb := G.hb ++ [w.heap.size] } (fun x => if x = w.heap.size ∨ x ∈ hand then some n else hw x) (w.alloc o) := by
  refine ⟨rfl, rfl, rfl, by simp, rfl, fun _ _ h => h, fun b k h => cell_alloc_lt _ _ _ (ok.imm b k h), ⟨_, rfl⟩, fun x hx _ _ => ⟨heap_alloc_lt w o hx, fun _ h => h⟩, fun x h => ?_, ?_, ?_, ?_⟩
  · by_cases h1 : x = w.heap.size
    · exact .inr (.inr (by omega))
    · by_cases h2 : x ∈ hand
      · exact .inr (.inl h2)
      · simp [h1, h2] at h; exact .inl h
  · have := ok.B; simp; omega
  · intro b k h; have := ok.imm b k h; simp; omega
  · intro x h
    by_cases h1 : x = w.heap.size
    · subst h1; simp
    · by_cases h2 : x ∈ hand
      · have := hl x h2; simp; omega
      · simp [h1, h2] at h; have := ok.hw x h; simp; omega

/-- The elements' cells as a list. -/
def ElemsL (G : Ghost) (w : World) (sz : Nat) : List DV → List Value → Prop
  | [], l => l = []
  | d :: ds, l => ∃ v rest, l = v.cells.toList ++ rest ∧ VRel G w d v [] ∧ v.cells.size = sz ∧ Ones v.cells.toList ∧ ElemsL G w sz ds rest

theorem ElemsL.length {sz : Nat} : ∀ {ds : List DV} {l : List Value}, ElemsL G w sz ds l → l.length = ds.length * sz
  | [], l, h => by simp only [ElemsL] at h; simp [h]
  | d :: ds, l, h => by
    simp only [ElemsL] at h
    obtain ⟨v, rest, rfl, _, h2, _, h3⟩ := h
    have h2' : v.cells.toList.length = sz := by simpa using h2
    rw [List.length_append, h3.length, h2', List.length_cons, Nat.add_mul]; omega

theorem ElemsL.ones {sz : Nat} : ∀ {ds : List DV} {l : List Value}, ElemsL G w sz ds l → Ones l
  | [], l, h => by simp only [ElemsL] at h; subst h; exact Ones.nil
  | d :: ds, l, h => by
    simp only [ElemsL] at h
    obtain ⟨v, rest, rfl, _, _, h2, h3⟩ := h
    exact h2.append h3.ones

theorem ElemsL.mono {G' : Ghost} {w' : World} (M : Mono G w G' w') {sz : Nat} : ∀ {ds : List DV} {l : List Value}, ElemsL G w sz ds l → ElemsL G' w' sz ds l
  | [], l, h => h
  | d :: ds, l, h => by
    simp only [ElemsL] at h ⊢
    obtain ⟨v, rest, rfl, h1, h2, h3, h4⟩ := h
    exact ⟨v, rest, rfl, VRel.mono M d h1 Stays.nil, h2, h3, h4.mono M⟩

theorem ElemsL.append {sz : Nat} : ∀ {a b : List DV} {la lb : List Value}, ElemsL G w sz a la → ElemsL G w sz b lb → ElemsL G w sz (a ++ b) (la ++ lb)
  | [], b, la, lb, h, k => by simp only [ElemsL] at h; subst h; simpa using k
  | d :: ds, b, la, lb, h, k => by
    simp only [ElemsL] at h
    obtain ⟨v, rest, rfl, h1, h2, h3, h4⟩ := h
    simp only [List.cons_append, ElemsL]
    exact ⟨v, rest ++ lb, by simp, h1, h2, h3, h4.append k⟩

theorem ElemsL.split {sz : Nat} : ∀ {a b : List DV} {l : List Value}, ElemsL G w sz (a ++ b) l → ∃ la lb, l = la ++ lb ∧ ElemsL G w sz a la ∧ ElemsL G w sz b lb
  | [], b, l, h => ⟨[], l, rfl, rfl, h⟩
  | d :: ds, b, l, h => by
    simp only [List.cons_append, ElemsL] at h
    obtain ⟨v, rest, rfl, h1, h2, h3, h4⟩ := h
    obtain ⟨la, lb, rfl, k1, k2⟩ := h4.split
    exact ⟨v.cells.toList ++ la, lb, by simp, by simp only [ElemsL]; exact ⟨v, la, rfl, h1, h2, h3, k1⟩, k2⟩

theorem ElemsL.take {sz : Nat} {ds : List DV} {l : List Value} (h : ElemsL G w sz ds l) (k : Nat) : ElemsL G w sz (ds.take k) (l.take (k * sz)) := by
  by_cases hk : k ≤ ds.length
  · have h' := h
    rw [← List.take_append_drop k ds] at h
    obtain ⟨la, lb, rfl, h1, h2⟩ := h.split
    have : la.length = k * sz := by rw [h1.length]; simp [Nat.min_eq_left hk]
    rw [← this, List.take_left]; exact h1
  · have e1 : ds.take k = ds := List.take_of_length_le (by omega)
    have e2 : l.take (k * sz) = l := List.take_of_length_le (by rw [h.length]; exact Nat.mul_le_mul_right _ (by omega))
    rw [e1, e2]; exact h

/-- An element set anew. -/
theorem ElemsL.set {sz : Nat} : ∀ {ds : List DV} {l : List Value} {i : Nat} {d : DV} {v : Value}, ElemsL G w sz ds l → i < ds.length → VRel G w d v [] → v.cells.size = sz → Ones v.cells.toList →
    ElemsL G w sz (ds.set i d) (l.take (i * sz) ++ v.cells.toList ++ l.drop (i * sz + v.cells.toList.length))
  | [], l, i, d, v, h, hi, _, _, _ => by simp at hi
  | x :: ds, l, i, d, v, h, hi, hv, hs, ho => by
    simp only [ElemsL] at h
    obtain ⟨u, rest, rfl, h1, h2, h3, h4⟩ := h
    have hu : u.cells.toList.length = sz := by simpa using h2
    have hvl : v.cells.toList.length = sz := by simpa using hs
    cases i with
    | zero =>
      simp only [Nat.zero_mul, List.take_zero, List.nil_append, Nat.zero_add, List.set_cons_zero, ElemsL]
      refine ⟨v, rest, ?_, hv, hs, ho, h4⟩
      rw [hvl, ← hu, List.drop_left]
    | succ i =>
      simp only [List.set_cons_succ, ElemsL]
      have := h4.set (i := i) (by simpa using hi) hv hs ho
      refine ⟨u, _, ?_, h1, h2, h3, this⟩
      have e : (i + 1) * sz = u.cells.toList.length + i * sz := by rw [Nat.add_mul, hu]; omega
      rw [e, List.take_append, List.take_of_length_le (by omega), List.drop_append, List.drop_of_length_le (by omega)]
      simp only [List.append_assoc, List.nil_append]
      congr 3
      · simp
      · congr 1; omega

/-- Elements in a row that is never written any more. -/
theorem ElemsL.elems {sz : Nat} : ∀ {ds : List DV} {l : List Value} {rb off : Nat}, ElemsL G w sz ds l → Holds G w rb off l → VElems G w sz ds rb off
  | [], l, rb, off, _, _ => by simp [VElems]
  | d :: ds, l, rb, off, h, hh => by
    simp only [ElemsL] at h
    obtain ⟨v, rest, rfl, h1, h2, h3, h4⟩ := h
    have hv : v.cells.toList.length = sz := by simpa using h2
    simp only [VElems]
    refine ⟨⟨v, h1, h2, fun k c hk => ?_, h3⟩, h4.elems fun k c hk => ?_⟩
    · have hlt : k < v.cells.toList.length := by
        rcases Nat.lt_or_ge k v.cells.toList.length with h | h
        · exact h
        · rw [List.getElem?_eq_none h] at hk; simp at hk
      exact hh k c (by rw [List.getElem?_append_left hlt]; exact hk)
    · have := hh (v.cells.toList.length + k) c (by rw [List.getElem?_append_right (by omega)]; simpa using hk)
      rw [hv] at this
      rw [show off + sz + k = off + (sz + k) by omega]; exact this

/-- .. and back: what such a row has. -/
theorem VElems.list {sz : Nat} : ∀ {ds : List DV} {rb off : Nat}, VElems G w sz ds rb off → ∃ l, ElemsL G w sz ds l ∧ Holds G w rb off l
  | [], rb, off, _ => ⟨[], rfl, fun k c hk => by simp at hk⟩
  | d :: ds, rb, off, h => by
    simp only [VElems] at h
    obtain ⟨⟨v, h1, h2, h3, h4⟩, h⟩ := h
    obtain ⟨l, k1, k2⟩ := h.list
    have hv : v.cells.toList.length = sz := by simpa using h2
    refine ⟨v.cells.toList ++ l, by simp only [ElemsL]; exact ⟨v, l, rfl, h1, h2, h4, k1⟩, fun k c hk => ?_⟩
    by_cases hlt : k < v.cells.toList.length
    · rw [List.getElem?_append_left hlt] at hk; exact h3 k c hk
    · rw [List.getElem?_append_right (by omega)] at hk
      have := k2 _ c hk
      rw [show off + sz + (k - v.cells.toList.length) = off + k by omega] at this
      exact this

/-- Cells of the heap as elements. -/
theorem chunks_elems {sz : Nat} {ag : Bool} (h1 : 1 ≤ sz) (hag : ag = false → sz = 1) : ∀ (n : Nat) {cs : List DV} {l : List Value} {r : List Nat}, VRelL G w cs l r → Ones l → cs.length = n * sz →
    ElemsL G w sz (stripL (chunks sz ag n cs)) l
  | 0, cs, l, r, h, _, hl => by
    have : l.length = 0 := by rw [h.length, hl]; simp
    simp only [chunks, stripL, ElemsL]; exact List.eq_nil_of_length_eq_zero this
  | n + 1, cs, l, r, h, ho, hl => by
    obtain ⟨ra, rb, er, h2, h3⟩ := h.cut sz
    have e : (n + 1) * sz = sz + n * sz := by rw [Nat.add_mul]; omega
    have hll := h.length
    have ih := chunks_elems h1 hag n h3 (ho.drop _) (by simp; omega)
    simp only [chunks, stripL, ElemsL]
    have hv := h2.ofCells ag (fun e => by have := hag e; simp; omega) (ho.take _)
    have hcells : (if ag = true then Value.agg (l.take sz).toArray else (l.take sz).headD undef).cells.toList = l.take sz := by
      cases ag with
      | true => simp [Value.cells]
      | false =>
        have hs := hag rfl
        subst hs
        match l, hll with
        | v :: l', _ =>
          have : v.oneCell' = true := ho v (by simp)
          cases v <;> first | rfl | simp [Value.oneCell'] at this
        | [], hll => exfalso; simp at hll; omega
    refine ⟨_, l.drop sz, ?_, VRel.strip _ hv, ?_, ?_, ih⟩
    · rw [hcells, List.take_append_drop]
    · have := congrArg List.length hcells
      simp only [Array.length_toList] at this
      rw [this]; simp; omega
    · rw [hcells]; exact ho.take _

/-- Zeros, row behind row. -/
theorem madeCells_flat (z : Array Value) (n : Nat) : (madeCells z (n * z.size)).toList = (List.replicate n z.toList).flatten := by
  induction n with
  | zero => simp [madeCells]
  | succ n ih =>
    rw [List.replicate_succ', List.flatten_append, ← ih]
    simp only [madeCells, Array.toList_map, Array.toList_range, List.flatten_singleton]
    rw [show (n + 1) * z.size = n * z.size + z.size by rw [Nat.add_mul]; omega, List.range_add, List.map_append, List.map_map]
    congr 1
    apply List.ext_getElem
    · simp
    · intro i h1 h2
      simp at h1
      simp [Nat.add_mod, Nat.mod_eq_of_lt h1, h1]

end
end Go.D
