/- Calls: of values without addresses in a heap of their own, or in this one. -/
import Derived.Test.YtilfhbpehgklbaaQqTake
set_option linter.unusedSimpArgs false
set_option linter.unusedVariables false
namespace Go.D

section
variable {G : Ghost} {w : World}

mutual
/-- Where there is no address of the heap, the heap does not matter. -/
theorem VRel.rehb {hb' : List Nat} : ∀ (d : DV) {v : Value} {r : List Nat}, free d = true → VRel G w d v r → VRel { G with hb := hb' } w d v r
  | .sc _, _, _, _, h => by simpa [VRel] using h
  | .agg cs, _, _, hf, h => by
    simp only [VRel] at h ⊢
    obtain ⟨l, e, h, h1⟩ := h
    exact ⟨l, e, VRelL.rehb cs (by simpa [free] using hf) h, h1⟩
  | .tup cs, _, _, hf, h => by
    simp only [VRel] at h ⊢
    obtain ⟨l, e, h⟩ := h
    exact ⟨l, e, VRelL.rehb cs (by simpa [free] using hf) h⟩
  | .sl m sz xs, _, _, hf, h => by
    simp only [VRel] at h ⊢
    obtain ⟨a, cap, e, hl, h⟩ := h
    refine ⟨a, cap, e, hl, ?_⟩
    rcases h with h | ⟨rb, off, ea, hel, hm⟩
    · exact .inl h
    · exact .inr ⟨rb, off, ea, VElems.rehb sz xs (by simpa [free] using hf) hel, hm⟩
  | .cptr cs, _, _, hf, h => by
    simp only [VRel] at h ⊢
    obtain ⟨hr, rb, off, l, e, hl, hh, h1⟩ := h
    exact ⟨hr, rb, off, l, e, VRelL.rehb cs (by simpa [free] using hf) hl, hh, h1⟩
  | .fn f first cap, _, _, hf, h => by
    simp only [VRel] at h ⊢
    simp only [free, Bool.and_eq_true] at hf
    obtain ⟨hr, fa, ca, e, h1, h2⟩ := h
    exact ⟨hr, fa, ca, e, VRelL.rehb first hf.1 h1, VRelL.rehb cap hf.2 h2⟩
  | .ifc t d, _, _, hf, h => by
    simp only [VRel] at h ⊢
    obtain ⟨u, e, h⟩ := h
    exact ⟨u, e, VRel.rehb d (by simpa [free] using hf) h⟩
  | .junk, _, _, _, h => by simpa [VRel] using h
  | .ptr _ _, _, _, hf, _ => by simp [free] at hf
  | .hsl _ _ _ _ _ _, _, _, hf, _ => by simp [free] at hf
  | .box _, _, _, hf, _ => by simp [free] at hf
  | .lref _ _, _, _, hf, _ => by simp [free] at hf
theorem VRelL.rehb {hb' : List Nat} : ∀ (ds : List DV) {l : List Value} {r : List Nat}, freeL ds = true → VRelL G w ds l r → VRelL { G with hb := hb' } w ds l r
  | [], _, _, _, h => by simpa [VRelL] using h
  | d :: ds, _, _, hf, h => by
    simp only [VRelL] at h ⊢
    simp only [freeL, Bool.and_eq_true] at hf
    obtain ⟨v, vs, r₁, r₂, el, er, h1, h2⟩ := h
    exact ⟨v, vs, r₁, r₂, el, er, VRel.rehb d hf.1 h1, VRelL.rehb ds hf.2 h2⟩
theorem VElems.rehb {hb' : List Nat} (sz : Nat) : ∀ (ds : List DV) {rb off : Nat}, freeL ds = true → VElems G w sz ds rb off → VElems { G with hb := hb' } w sz ds rb off
  | [], _, _, _, _ => by simp [VElems]
  | d :: ds, _, _, hf, h => by
    simp only [VElems] at h ⊢
    simp only [freeL, Bool.and_eq_true] at hf
    obtain ⟨⟨v, hv, hsz, hh, h1⟩, h⟩ := h
    exact ⟨⟨v, VRel.rehb d hf.1 hv, hsz, hh, h1⟩, VElems.rehb sz ds hf.2 h⟩
end

mutual
/-- New slices lie in new blocks. -/
theorem VRel.refresh {G' : Ghost} : ∀ (d : DV) {v : Value} {r : List Nat}, fresh d = true → VRel G w d v r → (∀ x ∈ r, ∀ o, G'.imm x o ↔ G.imm x o) → VRel G' w d v r
  | .sc _, _, _, _, h, _ => by simpa [VRel] using h
  | .agg cs, _, _, hf, h, hs => by
    simp only [VRel] at h ⊢
    obtain ⟨l, e, h, h1⟩ := h
    exact ⟨l, e, VRelL.refresh cs (by simpa [fresh] using hf) h hs, h1⟩
  | .tup cs, _, _, hf, h, hs => by
    simp only [VRel] at h ⊢
    obtain ⟨l, e, h⟩ := h
    exact ⟨l, e, VRelL.refresh cs (by simpa [fresh] using hf) h hs⟩
  | .sl m sz xs, _, _, hf, h, hs => by
    simp only [VRel] at h ⊢
    obtain ⟨a, cap, e, hl, h⟩ := h
    refine ⟨a, cap, e, hl, ?_⟩
    rcases h with h | ⟨rb, off, ea, hel, hm⟩
    · exact .inl h
    · refine .inr ⟨rb, off, ea, ?_, ?_⟩
      · simp only [fresh, Bool.or_eq_true, Bool.and_eq_true, List.isEmpty_iff, beq_iff_eq] at hf
        rcases hf with rfl | ⟨rfl, hf⟩
        · simp [VElems]
        · exact VElems.refresh sz xs (fun o h => (hs rb (by rw [hm.1]; simp) o).2 h) hf hel
      · cases m with
        | view => exact hm
        | full => exact hm
        | own =>
          obtain ⟨rfl, h2, h3⟩ := hm
          exact ⟨rfl, h2, fun o ho h => h3 o ho ((hs rb (by simp) o).1 h)⟩
  | .ifc t d, _, _, hf, h, hs => by
    simp only [VRel] at h ⊢
    obtain ⟨u, e, h⟩ := h
    exact ⟨u, e, VRel.refresh d (by simpa [fresh] using hf) h hs⟩
  | .junk, _, _, _, h, _ => by simpa [VRel] using h
  | .cptr _, _, _, hf, _, _ => by simp [fresh] at hf
  | .fn _ _ _, _, _, hf, _, _ => by simp [fresh] at hf
  | .ptr _ _, _, _, hf, _, _ => by simp [fresh] at hf
  | .hsl _ _ _ _ _ _, _, _, hf, _, _ => by simp [fresh] at hf
  | .box _, _, _, hf, _, _ => by simp [fresh] at hf
  | .lref _ _, _, _, hf, _, _ => by simp [fresh] at hf
theorem VRelL.refresh {G' : Ghost} : ∀ (ds : List DV) {l : List Value} {r : List Nat}, freshL ds = true → VRelL G w ds l r → (∀ x ∈ r, ∀ o, G'.imm x o ↔ G.imm x o) → VRelL G' w ds l r
  | [], _, _, _, h, _ => by simpa [VRelL] using h
  | d :: ds, _, _, hf, h, hs => by
    simp only [VRelL] at h ⊢
    simp only [freshL, Bool.and_eq_true] at hf
    obtain ⟨v, vs, r₁, r₂, el, er, h1, h2⟩ := h
    subst er
    exact ⟨v, vs, r₁, r₂, el, rfl, VRel.refresh d hf.1 h1 (fun x hx => hs x (by simp [hx])), VRelL.refresh ds hf.2 h2 (fun x hx => hs x (by simp [hx]))⟩
theorem VElems.refresh {G' : Ghost} (sz : Nat) : ∀ (ds : List DV) {rb off : Nat}, (∀ o, G.imm rb o → G'.imm rb o) → freshL ds = true → VElems G w sz ds rb off → VElems G' w sz ds rb off
  | [], _, _, _, _, _ => by simp [VElems]
  | d :: ds, rb, off, hb, hf, h => by
    simp only [VElems] at h ⊢
    simp only [freshL, Bool.and_eq_true] at hf
    obtain ⟨⟨v, hv, hsz, hh, h1⟩, h⟩ := h
    exact ⟨⟨v, VRel.refresh d hf.1 hv (by simp), hsz, fun k c hk => ⟨hb _ (hh k c hk).1, (hh k c hk).2⟩, h1⟩, VElems.refresh sz ds hb hf.2 h⟩
end

/-- What lies in the heap is never written any more. -/
def froze (G : Ghost) (hw : HW) : Ghost := { G with imm := fun b k => G.imm b k ∨ hw b ≠ none }

theorem froze_mono (hw : HW) : Mono G w (froze G hw) w := ⟨Nat.le_refl _, fun _ _ h => .inl h, fun _ _ _ => rfl, fun _ _ h => h⟩

theorem hsl_elems {hw : HW} {h : Heap} (hH : HRel G hw w h) {b off len sz : Nat} {ag : Bool} {rb : Nat} (hb : G.hb[b]? = some rb) (hc : off + len * sz ≤ (h.getD b []).length ∧ 1 ≤ sz ∧ (ag || sz == 1) = true) :
    VElems (froze G hw) w sz (stripL (hsElems h b off len sz ag)) rb off ∧ (stripL (hsElems h b off len sz ag)).length = len ∧ G.B ≤ rb := by
  obtain ⟨hc1, hc2, hc3⟩ := hc
  have hbl : b < h.length := by
    have h1 := hH.1
    rcases Nat.lt_or_ge b G.hb.length with h' | h'
    · omega
    · rw [List.getElem?_eq_none h'] at hb; simp at hb
  obtain ⟨rb', c, e, r', pm, g1, g2, g3, g4, g5, g6, g7, g8⟩ := hH.2 b _ (List.getElem?_eq_getElem hbl)
  rw [hb] at g1; simp at g1; subst g1
  have hgd : h.getD b [] = h[b] := by simp [hbl]
  rw [hgd] at hc1
  obtain ⟨_, r2, _, _, k2⟩ := g3.cut off
  obtain ⟨r3, _, _, k3, _⟩ := k2.cut (len * sz)
  have hll := g3.length
  rw [part_pad hc1] at k3
  have hel := chunks_elems (G := G) (w := w) (ag := ag) hc2 (fun e => by subst e; simpa using hc3) len k3 ((g8.drop _).take _) (by simp; omega)
  have hch : ∀ (n : Nat) (cs : List DV), (chunks sz ag n cs).length = n := by
    intro n; induction n with
    | zero => intro cs; rfl
    | succ n ih => intro cs; simp [chunks, ih]
  refine ⟨?_, by rw [stripL_eq, List.length_map, hsElems]; exact hch _ _, g7⟩
  unfold hsElems
  rw [hgd]
  refine (hel.mono (froze_mono hw)).elems fun k c' hk => ⟨.inr (by rw [g5 rb (by simp)]; simp), ?_⟩
  rw [cell_of_block g2]
  rw [List.getElem?_take] at hk
  split at hk
  · rw [List.getElem?_drop] at hk; simpa using hk
  · simp at hk

mutual
theorem VRel.look {hw : HW} {h : Heap} (hH : HRel G hw w h) : ∀ (d : DV) {v : Value} {r : List Nat}, VRel G w d v r → (∀ x ∈ r, hw x = none) → VRel (froze G hw) w (D.look h d) v r
  | .hsl b off len cap sz ag, v, r, hv, _ => by
    simp only [VRel] at hv
    obtain ⟨rfl, rb, hb, cap', rfl, hcap⟩ := hv
    simp only [D.look]
    split
    · rename_i hc
      obtain ⟨h1, h2, h3⟩ := hsl_elems hH hb hc
      simp only [VRel]
      exact ⟨_, _, by rw [h2], by rw [h2]; exact hcap, .inr ⟨rb, off, rfl, h1, rfl⟩⟩
    · simp [VRel]
  | .agg cs, v, r, hv, hr => by
    simp only [VRel, D.look] at hv ⊢
    obtain ⟨l, e, hl, h1⟩ := hv
    exact ⟨l, e, VRelL.look hH cs hl hr, h1⟩
  | .tup cs, v, r, hv, hr => by
    simp only [VRel, D.look] at hv ⊢
    obtain ⟨l, e, hl⟩ := hv
    exact ⟨l, e, VRelL.look hH cs hl hr⟩
  | .ifc t d, v, r, hv, hr => by
    simp only [VRel, D.look] at hv ⊢
    obtain ⟨u, e, hu⟩ := hv
    exact ⟨u, e, VRel.look hH d hu hr⟩
  | .sc u, v, r, hv, hr => by
    simp only [D.look]; exact VRel.mono (froze_mono hw) _ hv (fun x hx => ⟨rfl, fun o h => h.elim id (fun h => absurd (hr x hx) h)⟩)
  | .sl m' sz xs, v, r, hv, hr => by
    simp only [D.look]; exact VRel.mono (froze_mono hw) _ hv (fun x hx => ⟨rfl, fun o h => h.elim id (fun h => absurd (hr x hx) h)⟩)
  | .ptr b off, v, r, hv, hr => by
    simp only [D.look]; exact VRel.mono (froze_mono hw) _ hv (fun x hx => ⟨rfl, fun o h => h.elim id (fun h => absurd (hr x hx) h)⟩)
  | .cptr cs, v, r, hv, hr => by
    simp only [D.look]; exact VRel.mono (froze_mono hw) _ hv (fun x hx => ⟨rfl, fun o h => h.elim id (fun h => absurd (hr x hx) h)⟩)
  | .fn f a b, v, r, hv, hr => by
    simp only [D.look]; exact VRel.mono (froze_mono hw) _ hv (fun x hx => ⟨rfl, fun o h => h.elim id (fun h => absurd (hr x hx) h)⟩)
  | .box cs, v, r, hv, hr => by
    simp only [D.look]; exact VRel.mono (froze_mono hw) _ hv (fun x hx => ⟨rfl, fun o h => h.elim id (fun h => absurd (hr x hx) h)⟩)
  | .lref p off, v, r, hv, hr => by simp [VRel] at hv
  | .junk, v, r, hv, hr => by
    simp only [D.look]; exact VRel.mono (froze_mono hw) _ hv (fun x hx => ⟨rfl, fun o h => h.elim id (fun h => absurd (hr x hx) h)⟩)
theorem VRelL.look {hw : HW} {h : Heap} (hH : HRel G hw w h) : ∀ (ds : List DV) {l : List Value} {r : List Nat}, VRelL G w ds l r → (∀ x ∈ r, hw x = none) → VRelL (froze G hw) w (D.lookL h ds) l r
  | [], l, r, hv, _ => by simpa [VRelL, D.lookL] using hv
  | d :: ds, l, r, hv, hr => by
    simp only [VRelL, D.lookL] at hv ⊢
    obtain ⟨v, vs, r₁, r₂, el, er, h1, h2⟩ := hv
    subst er
    exact ⟨v, vs, r₁, r₂, el, rfl, VRel.look hH d h1 (fun x hx => hr x (by simp [hx])), VRelL.look hH ds h2 (fun x hx => hr x (by simp [hx]))⟩
end

mutual
theorem look_noHs {h : Heap} : ∀ (d : DV), hasHs d = false → look h d = d
  | .hsl .., hh => by simp [hasHs] at hh
  | .agg cs, hh => by simp only [look]; rw [lookL_noHs cs (by simpa [hasHs] using hh)]
  | .tup cs, hh => by simp only [look]; rw [lookL_noHs cs (by simpa [hasHs] using hh)]
  | .ifc t d, hh => by simp only [look]; rw [look_noHs d (by simpa [hasHs] using hh)]
  | .sc _, _ => rfl
  | .sl .., _ => rfl
  | .ptr .., _ => rfl
  | .cptr _, _ => rfl
  | .fn .., _ => rfl
  | .box _, _ => rfl
  | .lref .., _ => rfl
  | .junk, _ => rfl
theorem lookL_noHs {h : Heap} : ∀ (ds : List DV), hasHsL ds = false → lookL h ds = ds
  | [], _ => rfl
  | d :: ds, hh => by
    simp only [hasHsL, Bool.or_eq_false_iff] at hh
    simp only [lookL]; rw [look_noHs d hh.1, lookL_noHs ds hh.2]
end

end

/-- What a call that returns leaves. -/
def RetOk (G : Ghost) (hw : HW) (w : World) (v : DV) (h' : Heap) (u : Value) (w' : World) : Prop :=
  ∃ r G' hw', VRel G' w' v u r ∧ (∀ cs, v ≠ .box cs) ∧ r.Nodup ∧ (∀ x ∈ r, hw' x = none ∧ x < w'.heap.size ∧ (hw x ≠ none ∨ w.heap.size ≤ x)) ∧ HRel G' hw' w' h' ∧ CPres G hw w [] G' hw' w'

/-- .. and one that panics. -/
def PanOk (G : Ghost) (hw : HW) (w : World) (v : DV) (h' : Heap) (ch : List PanicEntry) (w' : World) : Prop :=
  ∃ u G' hw', ch = [{ v := u, recovered := false }] ∧ VRel G' w' v u [] ∧ HRel G' hw' w' h' ∧ CPres G hw w [] G' hw' w'

def hasBody (P : Program) (f : FuncId) : Prop := ∃ fn, P.funcs[f]? = some fn ∧ (fn.name == "runtime.NumGoroutine") = false ∧ fn.body.isNone = false

/-- THE EVALUATOR SAYS OF EACH CALL WHAT THE MACHINE DOES. -/
def FnOk (P : Program) (ev : FuncId → List DV → Heap → Res DV) : Prop :=
  ∀ f args h, ∀ (G : Ghost) (hw : HW) (w : World) (vals : List Value), WOk G hw w → HRel G hw w h → VRelL G w args vals [] →
    (∀ v h', ev f args h = .ok v h' → hasBody P f ∧ Calls P f vals.toArray w fun e w' => ∃ u, e = .returned u ∧ RetOk G hw w v h' u w') ∧
    (∀ v h', ev f args h = .pan v h' → hasBody P f ∧ Calls P f vals.toArray w fun e w' => ∃ ch, e = .panicked ch ∧ PanOk G hw w v h' ch w')

end Go.D
