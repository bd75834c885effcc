/- A call in a heap of its own says what a call in this heap does. -/
import Derived.Test.YtilfhbpehgklbaaQqCall
set_option linter.unusedSimpArgs false
set_option linter.unusedVariables false
namespace Go.D

section
variable {P : Program} {ev : FuncId → List DV → Heap → Res DV} {G : Ghost} {hw : HW} {w : World}

/-- The callee's ghost: nothing of the heap. -/
def inner (G : Ghost) (hw : HW) (hs : Bool) : Ghost := { B := G.B, imm := fun b k => G.imm b k ∨ (hs = true ∧ hw b ≠ none), hb := [] }

theorem inner_ok (ok : WOk G hw w) (hs : Bool) : WOk (inner G hw hs) (fun _ => none) w :=
  ⟨ok.B, fun b k h => by
    rcases h with h | ⟨_, h⟩
    · exact ok.imm b k h
    · exact ok.hw b h, fun x h => by simp at h⟩

theorem inner_args {h : Heap} (hH : HRel G hw w h) {args : List DV} {vals : List Value} (hv : VRelL G w args vals []) (hf : freeL (lookL h args) = true) :
    VRelL (inner G hw (hasHsL args)) w (lookL h args) vals [] := by
  cases hh : hasHsL args with
  | true =>
    have h1 := VRelL.rehb (hb' := []) _ hf (VRelL.look hH args hv (by simp))
    have M : Mono { froze G hw with hb := [] } w (inner G hw true) w := ⟨Nat.le_refl _, fun b o h => Or.elim h .inl (fun h => .inr ⟨rfl, h⟩), fun _ _ _ => rfl, fun i rb h => h⟩
    exact VRelL.mono M _ h1 Stays.nil
  | false =>
    rw [lookL_noHs args hh] at hf ⊢
    have h1 := VRelL.rehb (hb' := []) _ hf hv
    have M : Mono { G with hb := [] } w (inner G hw false) w := ⟨Nat.le_refl _, fun b o h => Or.inl h, fun _ _ _ => rfl, fun i rb h => h⟩
    exact VRelL.mono M _ h1 Stays.nil

theorem inner_heap {hs : Bool} : HRel (inner G hw hs) (fun _ => none) w [] := ⟨rfl, fun b cs h => by simp at h⟩

/-- Back from the callee. -/
theorem inner_back' (ok : WOk G hw w) {h : Heap} (hH : HRel G hw w h) {hs : Bool} {G₁ : Ghost} {hw₁ : HW} {w' : World} {d : DV} {u : Value} {r : List Nat}
    (hc : CPres (inner G hw hs) (fun _ => none) w [] G₁ hw₁ w') (h1 : VRel { froze G₁ hw₁ with hb := G.hb } w' d u r)
    (hr : ∀ x ∈ r, hw₁ x = none ∧ x < w'.heap.size ∧ w.heap.size ≤ x) (hfr : hs = false ∨ fresh d = true) :
    ∃ G' : Ghost, VRel G' w' d u r ∧ (∀ x ∈ r, hw x = none) ∧ HRel G' hw w' h ∧ CPres G hw w [] G' hw w' := by
  let G' : Ghost := { B := G.B, imm := fun b k => G.imm b k ∨ (w.heap.size ≤ b ∧ (froze G₁ hw₁).imm b k), hb := G.hb }
  have himm₁ : ∀ b k, (froze G₁ hw₁).imm b k → b < w.heap.size → G.imm b k ∨ (hs = true ∧ hw b ≠ none) := by
    intro b k h hb
    rcases h with h | h
    · exact (hc.keep b hb rfl (by simp)).2 k h
    · rcases hc.hw b h with h | h | h
      · simp at h
      · simp at h
      · omega
  have hnew : ∀ x ∈ r, ∀ o, G'.imm x o ↔ (froze G₁ hw₁).imm x o := by
    intro x hx o
    have := hr x hx
    constructor
    · rintro (h | ⟨_, h⟩)
      · have := ok.imm x o h; omega
      · exact h
    · intro h; exact .inr ⟨this.2.2, h⟩
  have hv' : VRel G' w' d u r := by
    rcases hfr with hfr | hfr
    · have M : Mono { froze G₁ hw₁ with hb := G.hb } w' G' w' := by
        refine ⟨?_, fun b o h => ?_, fun _ _ _ => rfl, fun _ _ h => h⟩
        · show G.B ≤ G₁.B
          rw [hc.B]; exact Nat.le_refl _
        · by_cases hb : b < w.heap.size
          · rcases himm₁ b o h hb with h | ⟨h, _⟩
            · exact .inl h
            · rw [hfr] at h; simp at h
          · exact .inr ⟨by omega, h⟩
      exact VRel.mono M _ h1 (fun x hx => ⟨rfl, fun o h => (hnew x hx o).1 h⟩)
    · exact VRel.refresh (G' := G') _ hfr h1 hnew
  have hblk : ∀ x, x < w.heap.size → w'.heap[x]? = w.heap[x]? := fun x hx => (hc.keep x hx rfl (by simp)).1
  have hmono : Mono G w G' w' := ⟨Nat.le_refl _, fun b o h => .inl h, fun b o h => by simp only [World.cell?, hblk b (ok.imm b o h)], fun _ _ h => h⟩
  refine ⟨G', hv', fun x hx => ?_, ?_, ?_⟩
  · rcases Classical.em (hw x = none) with h | h
    · exact h
    · have := ok.hw x h; have := hr x hx; omega
  · refine hH.mono hmono rfl (fun x b hb => ?_) (fun _ _ h => h)
    have hx := ok.hw x (by rw [hb]; simp)
    refine ⟨hblk x hx, fun o h => ?_⟩
    rcases h with h | ⟨h, _⟩
    · exact h
    · omega
  · refine ⟨hc.os, hc.tape, hc.output, hc.size, rfl, hmono.imm, hmono.cell, ⟨[], by simp [G']⟩, fun x hx _ _ => ⟨hblk x hx, fun o h => ?_⟩, fun _ h => .inl h, ?_, ?_, ?_⟩
    · rcases h with h | ⟨h, _⟩
      · exact h
      · omega
    · exact Nat.le_trans ok.B hc.size
    · rintro b k (h | ⟨_, h | h⟩)
      · exact Nat.lt_of_lt_of_le (ok.imm b k h) hc.size
      · exact hc.ok.imm b k h
      · exact hc.ok.hw b h
    · exact fun x h => Nat.lt_of_lt_of_le (ok.hw x h) hc.size

theorem inner_back (ok : WOk G hw w) {h : Heap} (hH : HRel G hw w h) {hs : Bool} {G₁ : Ghost} {hw₁ : HW} {w' : World} {h' : Heap} {v : DV} {u : Value} {r : List Nat}
    (hc : CPres (inner G hw hs) (fun _ => none) w [] G₁ hw₁ w') (hH' : HRel G₁ hw₁ w' h') (hv : VRel G₁ w' v u r)
    (hr : ∀ x ∈ r, hw₁ x = none ∧ x < w'.heap.size ∧ w.heap.size ≤ x) (hf : free (look h' v) = true) (hfr : hs = false ∨ fresh (look h' v) = true) :
    ∃ G' : Ghost, VRel G' w' (look h' v) u r ∧ (∀ x ∈ r, hw x = none) ∧ HRel G' hw w' h ∧ CPres G hw w [] G' hw w' :=
  inner_back' ok hH hc (VRel.rehb (hb' := G.hb) _ hf (VRel.look hH' v hv (fun x hx => (hr x hx).1))) hr hfr

mutual
theorem fresh_ruin : ∀ d : DV, fresh (ruin d) = true
  | .sc _ => rfl
  | .agg cs => by simp only [ruin, fresh]; exact freshL_ruin cs
  | .tup cs => by simp only [ruin, fresh]; exact freshL_ruin cs
  | .ifc t v => by simp only [ruin, fresh]; exact fresh_ruin v
  | .sl m sz xs => by
    simp only [ruin]
    split
    · rename_i h; exact h
    · rfl
  | .ptr .. | .cptr _ | .hsl .. | .fn .. | .box _ | .lref .. | .junk => rfl
theorem freshL_ruin : ∀ ds : List DV, freshL (ruinL ds) = true
  | [] => rfl
  | d :: ds => by simp only [ruinL, freshL, fresh_ruin d, freshL_ruin ds, Bool.and_self]
end

mutual
theorem VRel.ruin : ∀ (d : DV) {v : Value} {r : List Nat}, VRel G w d v r → ∃ r', r'.Sublist r ∧ VRel G w (D.ruin d) v r'
  | .sc _, _, r, h => ⟨r, List.Sublist.refl r, by simpa only [D.ruin] using h⟩
  | .agg cs, _, _, h => by
    simp only [VRel, D.ruin] at h ⊢
    obtain ⟨l, e, h, h1⟩ := h
    obtain ⟨r', hr, h'⟩ := VRelL.ruin cs h
    exact ⟨r', hr, l, e, h', h1⟩
  | .tup cs, _, _, h => by
    simp only [VRel, D.ruin] at h ⊢
    obtain ⟨l, e, h⟩ := h
    obtain ⟨r', hr, h'⟩ := VRelL.ruin cs h
    exact ⟨r', hr, l, e, h'⟩
  | .ifc t d, _, _, h => by
    simp only [VRel, D.ruin] at h ⊢
    obtain ⟨u, e, h⟩ := h
    obtain ⟨r', hr, h'⟩ := VRel.ruin d h
    exact ⟨r', hr, u, e, h'⟩
  | .sl m sz xs, _, r, h => by
    simp only [D.ruin]
    split
    · exact ⟨r, List.Sublist.refl r, h⟩
    · exact ⟨[], List.nil_sublist _, by simp [VRel]⟩
  | .ptr .., _, _, _ => ⟨[], List.nil_sublist _, by simp [VRel, D.ruin]⟩
  | .cptr _, _, _, _ => ⟨[], List.nil_sublist _, by simp [VRel, D.ruin]⟩
  | .hsl .., _, _, _ => ⟨[], List.nil_sublist _, by simp [VRel, D.ruin]⟩
  | .fn .., _, _, _ => ⟨[], List.nil_sublist _, by simp [VRel, D.ruin]⟩
  | .box _, _, _, _ => ⟨[], List.nil_sublist _, by simp [VRel, D.ruin]⟩
  | .lref .., _, _, _ => ⟨[], List.nil_sublist _, by simp [VRel, D.ruin]⟩
  | .junk, _, _, _ => ⟨[], List.nil_sublist _, by simp [VRel, D.ruin]⟩
theorem VRelL.ruin : ∀ (ds : List DV) {l : List Value} {r : List Nat}, VRelL G w ds l r → ∃ r', r'.Sublist r ∧ VRelL G w (D.ruinL ds) l r'
  | [], _, r, h => ⟨r, List.Sublist.refl r, by simpa only [D.ruinL] using h⟩
  | d :: ds, _, _, h => by
    simp only [VRelL, D.ruinL] at h ⊢
    obtain ⟨v, vs, r₁, r₂, el, er, h1, h2⟩ := h
    obtain ⟨s₁, hs₁, k1⟩ := VRel.ruin d h1
    obtain ⟨s₂, hs₂, k2⟩ := VRelL.ruin ds h2
    exact ⟨s₁ ++ s₂, by rw [er]; exact hs₁.append hs₂, v, vs, s₁, s₂, el, rfl, k1, k2⟩
end
theorem ruin_nobox (d : DV) : ∀ cs, D.ruin d ≠ .box cs := by
  intro cs e
  cases d <;> simp only [D.ruin] at e <;> try cases e
  split at e <;> cases e

theorem look_nobox {h : Heap} {v : DV} (hf : free (look h v) = true) : ∀ cs, look h v ≠ .box cs := fun cs e => by rw [e] at hf; simp [free] at hf

theorem callP_ok (hev : FnOk P ev) : FnOk P (callP ev) := by
  intro f args h G hw w vals ok hH hv
  have direct := hev f args h G hw w vals ok hH hv
  have pure' : freeL (lookL h args) = true → _ := fun hf => hev f (lookL h args) [] (inner G hw (hasHsL args)) (fun _ => none) w vals (inner_ok ok _) inner_heap (inner_args hH hv hf)
  constructor
  · intro v h' he
    unfold callP at he
    split at he
    · rename_i hf
      obtain ⟨p1, p2⟩ := pure' hf
      split at he
      · rename_i v0 h0 he0
        split at he
        · rename_i hc
          simp only [Bool.and_eq_true, Bool.or_eq_true, Bool.not_eq_true'] at hc
          simp only [Res.ok.injEq] at he
          obtain ⟨rfl, rfl⟩ := he
          obtain ⟨q1, q2⟩ := p1 v0 h0 he0
          refine ⟨q1, q2.mono ?_⟩
          rintro e w' ⟨u, rfl, r, G₁, hw₁, k1, k2, k3, k4, k5, k6⟩
          obtain ⟨G', b1, b2, b3, b4⟩ := inner_back ok hH k6 k5 k1 (fun x hx => ⟨(k4 x hx).1, (k4 x hx).2.1, (k4 x hx).2.2.resolve_left (fun h => h rfl)⟩) hc.1 hc.2
          exact ⟨u, rfl, r, G', hw, b1, look_nobox hc.1, k3, fun x hx => ⟨b2 x hx, (k4 x hx).2.1, .inr ((k4 x hx).2.2.resolve_left (fun h => h rfl))⟩, b3, b4⟩
        · split at he
          · split at he
            · rename_i hfr
              simp only [Res.ok.injEq] at he
              obtain ⟨rfl, rfl⟩ := he
              obtain ⟨q1, q2⟩ := p1 v0 h0 he0
              refine ⟨q1, q2.mono ?_⟩
              rintro e w' ⟨u, rfl, r, G₁, hw₁, k1, k2, k3, k4, k5, k6⟩
              obtain ⟨r', hr', h1⟩ := VRel.ruin _ (VRel.rehb (hb' := G.hb) _ hfr (VRel.look k5 v0 k1 (fun x hx => (k4 x hx).1)))
              obtain ⟨G', b1, b2, b3, b4⟩ := inner_back' ok hH k6 h1 (fun x hx => ⟨(k4 x (hr'.subset hx)).1, (k4 x (hr'.subset hx)).2.1, (k4 x (hr'.subset hx)).2.2.resolve_left (fun h => h rfl)⟩) (.inr (fresh_ruin _))
              exact ⟨u, rfl, r', G', hw, b1, ruin_nobox _, k3.sublist hr', fun x hx => ⟨b2 x hx, (k4 x (hr'.subset hx)).2.1, .inr ((k4 x (hr'.subset hx)).2.2.resolve_left (fun h => h rfl))⟩, b3, b4⟩
            · simp at he
          · exact direct.1 v h' he
      · split at he
        · simp at he
        · split at he
          · simp at he
          · exact direct.1 v h' he
      · split at he
        · exact direct.1 v h' he
        · simp at he
    · exact direct.1 v h' he
  · intro v h' he
    unfold callP at he
    split at he
    · rename_i hf
      obtain ⟨p1, p2⟩ := pure' hf
      split at he
      · split at he
        · simp at he
        · split at he
          · split at he <;> simp at he
          · exact direct.2 v h' he
      · rename_i v0 h0 he0
        split at he
        · rename_i hc
          simp only [Bool.and_eq_true, Bool.or_eq_true, Bool.not_eq_true'] at hc
          simp only [Res.pan.injEq] at he
          obtain ⟨rfl, rfl⟩ := he
          obtain ⟨q1, q2⟩ := p2 v0 h0 he0
          refine ⟨q1, q2.mono ?_⟩
          rintro e w' ⟨ch, rfl, u, G₁, hw₁, rfl, k1, k5, k6⟩
          obtain ⟨G', b1, b2, b3, b4⟩ := inner_back ok hH k6 k5 k1 (by simp) hc.1 hc.2
          exact ⟨_, rfl, u, G', hw, rfl, VRel.strip _ b1, b3, b4⟩
        · split at he
          · simp at he
          · exact direct.2 v h' he
      · split at he
        · exact direct.2 v h' he
        · simp at he
    · exact direct.2 v h' he

end
end Go.D
