/- A call in a heap of its own says what a call in this heap does. -/
import Derived.Test.YtfbpnbomcogkcaaQqCall
set_option linter.unusedSimpArgs false
set_option linter.unusedVariables false
namespace Go.D

section
variable {P : Program} {ev : FuncId → List DV → Heap → Res DV} {G : Ghost} {hw : HW} {w : World}

/-- The callee's ghost: nothing of the heap. -/
def inner (G : Ghost) (hw : HW) (hs : Bool) : Ghost := { B := G.B, imm := fun b k => G.imm b k ∨ (hs = true ∧ hw b ≠ none), hb := [] }

theorem inner_ok (ok : WOk G hw w) (hs : Bool) : WOk (inner G hw hs) (fun _ => none) w :=
  ⟨ok.B, fun b k h => by
    rcases h with h | ⟨_, h⟩
    · exact ok.imm b k h
    · exact ok.hw b h, fun x h => by simp at h⟩

theorem inner_args {h : Heap} (hH : HRel G hw w h) {args : List DV} {vals : List Value} (hv : VRelL G w args vals []) (hf : freeL (lookL h args) = true) :
    VRelL (inner G hw (hasHsL args)) w (lookL h args) vals [] := by
  cases hh : hasHsL args with
  | true =>
    have h1 := VRelL.rehb (hb' := []) _ hf (VRelL.look hH args hv (by simp))
    have M : Mono { froze G hw with hb := [] } w (inner G hw true) w := ⟨Nat.le_refl _, fun b o h => Or.elim h .inl (fun h => .inr ⟨rfl, h⟩), fun _ _ _ => rfl, fun i rb h => h⟩
    exact VRelL.mono M _ h1 Stays.nil
  | false =>
    rw [lookL_noHs args hh] at hf ⊢
    have h1 := VRelL.rehb (hb' := []) _ hf hv
    have M : Mono { G with hb := [] } w (inner G hw false) w := ⟨Nat.le_refl _, fun b o h => Or.inl h, fun _ _ _ => rfl, fun i rb h => h⟩
    exact VRelL.mono M _ h1 Stays.nil

theorem inner_heap {hs : Bool} : HRel (inner G hw hs) (fun _ => none) w [] := ⟨rfl, fun b cs h => by simp at h⟩

/-- Back from the callee. -/
theorem inner_back (ok : WOk G hw w) {h : Heap} (hH : HRel G hw w h) {hs : Bool} {G₁ : Ghost} {hw₁ : HW} {w' : World} {h' : Heap} {v : DV} {u : Value} {r : List Nat}
    (hc : CPres (inner G hw hs) (fun _ => none) w [] G₁ hw₁ w') (hH' : HRel G₁ hw₁ w' h') (hv : VRel G₁ w' v u r)
    (hr : ∀ x ∈ r, hw₁ x = none ∧ x < w'.heap.size ∧ w.heap.size ≤ x) (hf : free (look h' v) = true) (hfr : hs = false ∨ fresh (look h' v) = true) :
    ∃ G' : Ghost, VRel G' w' (look h' v) u r ∧ (∀ x ∈ r, hw x = none) ∧ HRel G' hw w' h ∧ CPres G hw w [] G' hw w' := by
  have h1 := VRel.rehb (hb' := G.hb) _ hf (VRel.look hH' v hv (fun x hx => (hr x hx).1))
  let G' : Ghost := { B := G.B, imm := fun b k => G.imm b k ∨ (w.heap.size ≤ b ∧ (froze G₁ hw₁).imm b k), hb := G.hb }
  have himm₁ : ∀ b k, (froze G₁ hw₁).imm b k → b < w.heap.size → G.imm b k ∨ (hs = true ∧ hw b ≠ none) := by
    intro b k h hb
    rcases h with h | h
    · exact (hc.keep b hb rfl (by simp)).2 k h
    · rcases hc.hw b h with h | h | h
      · simp at h
      · simp at h
      · omega
  have hnew : ∀ x ∈ r, ∀ o, G'.imm x o ↔ (froze G₁ hw₁).imm x o := by
    intro x hx o
    have := hr x hx
    constructor
    · rintro (h | ⟨_, h⟩)
      · have := ok.imm x o h; omega
      · exact h
    · intro h; exact .inr ⟨this.2.2, h⟩
  have hv' : VRel G' w' (look h' v) u r := by
    rcases hfr with hfr | hfr
    · have M : Mono { froze G₁ hw₁ with hb := G.hb } w' G' w' := by
        refine ⟨?_, fun b o h => ?_, fun _ _ _ => rfl, fun _ _ h => h⟩
        · show G.B ≤ G₁.B
          rw [hc.B]; exact Nat.le_refl _
        · by_cases hb : b < w.heap.size
          · rcases himm₁ b o h hb with h | ⟨h, _⟩
            · exact .inl h
            · rw [hfr] at h; simp at h
          · exact .inr ⟨by omega, h⟩
      exact VRel.mono M _ h1 (fun x hx => ⟨rfl, fun o h => (hnew x hx o).1 h⟩)
    · exact VRel.refresh (G' := G') _ hfr h1 hnew
  have hblk : ∀ x, x < w.heap.size → w'.heap[x]? = w.heap[x]? := fun x hx => (hc.keep x hx rfl (by simp)).1
  have hmono : Mono G w G' w' := ⟨Nat.le_refl _, fun b o h => .inl h, fun b o h => by simp only [World.cell?, hblk b (ok.imm b o h)], fun _ _ h => h⟩
  refine ⟨G', hv', fun x hx => ?_, ?_, ?_⟩
  · rcases Classical.em (hw x = none) with h | h
    · exact h
    · have := ok.hw x h; have := hr x hx; omega
  · refine hH.mono hmono rfl (fun x b hb => ?_) (fun _ _ h => h)
    have hx := ok.hw x (by rw [hb]; simp)
    refine ⟨hblk x hx, fun o h => ?_⟩
    rcases h with h | ⟨h, _⟩
    · exact h
    · omega
  · refine ⟨hc.os, hc.tape, hc.output, hc.size, rfl, hmono.imm, hmono.cell, ⟨[], by simp [G']⟩, fun x hx _ _ => ⟨hblk x hx, fun o h => ?_⟩, fun _ h => .inl h, ?_, ?_, ?_⟩
    · rcases h with h | ⟨h, _⟩
      · exact h
      · omega
    · exact Nat.le_trans ok.B hc.size
    · rintro b k (h | ⟨_, h | h⟩)
      · exact Nat.lt_of_lt_of_le (ok.imm b k h) hc.size
      · exact hc.ok.imm b k h
      · exact hc.ok.hw b h
    · exact fun x h => Nat.lt_of_lt_of_le (ok.hw x h) hc.size

theorem look_nobox {h : Heap} {v : DV} (hf : free (look h v) = true) : ∀ cs, look h v ≠ .box cs := fun cs e => by rw [e] at hf; simp [free] at hf

theorem callP_ok (hev : FnOk P ev) : FnOk P (callP ev) := by
  intro f args h G hw w vals ok hH hv
  have direct := hev f args h G hw w vals ok hH hv
  have pure' : freeL (lookL h args) = true → _ := fun hf => hev f (lookL h args) [] (inner G hw (hasHsL args)) (fun _ => none) w vals (inner_ok ok _) inner_heap (inner_args hH hv hf)
  constructor
  · intro v h' he
    unfold callP at he
    split at he
    · rename_i hf
      obtain ⟨p1, p2⟩ := pure' hf
      split at he
      · rename_i v0 h0 he0
        split at he
        · rename_i hc
          simp only [Bool.and_eq_true, Bool.or_eq_true, Bool.not_eq_true'] at hc
          simp only [Res.ok.injEq] at he
          obtain ⟨rfl, rfl⟩ := he
          obtain ⟨q1, q2⟩ := p1 v0 h0 he0
          refine ⟨q1, q2.mono ?_⟩
          rintro e w' ⟨u, rfl, r, G₁, hw₁, k1, k2, k3, k4, k5, k6⟩
          obtain ⟨G', b1, b2, b3, b4⟩ := inner_back ok hH k6 k5 k1 (fun x hx => ⟨(k4 x hx).1, (k4 x hx).2.1, (k4 x hx).2.2.resolve_left (fun h => h rfl)⟩) hc.1 hc.2
          exact ⟨u, rfl, r, G', hw, b1, look_nobox hc.1, k3, fun x hx => ⟨b2 x hx, (k4 x hx).2.1, .inr ((k4 x hx).2.2.resolve_left (fun h => h rfl))⟩, b3, b4⟩
        · split at he
          · simp at he
          · exact direct.1 v h' he
      · split at he
        · simp at he
        · split at he
          · simp at he
          · exact direct.1 v h' he
      · split at he
        · exact direct.1 v h' he
        · simp at he
    · exact direct.1 v h' he
  · intro v h' he
    unfold callP at he
    split at he
    · rename_i hf
      obtain ⟨p1, p2⟩ := pure' hf
      split at he
      · split at he
        · simp at he
        · split at he
          · simp at he
          · exact direct.2 v h' he
      · rename_i v0 h0 he0
        split at he
        · rename_i hc
          simp only [Bool.and_eq_true, Bool.or_eq_true, Bool.not_eq_true'] at hc
          simp only [Res.pan.injEq] at he
          obtain ⟨rfl, rfl⟩ := he
          obtain ⟨q1, q2⟩ := p2 v0 h0 he0
          refine ⟨q1, q2.mono ?_⟩
          rintro e w' ⟨ch, rfl, u, G₁, hw₁, rfl, k1, k5, k6⟩
          obtain ⟨G', b1, b2, b3, b4⟩ := inner_back ok hH k6 k5 k1 (by simp) hc.1 hc.2
          exact ⟨_, rfl, u, G', hw, rfl, VRel.strip _ b1, b3, b4⟩
        · split at he
          · simp at he
          · exact direct.2 v h' he
      · split at he
        · exact direct.2 v h' he
        · simp at he
    · exact direct.2 v h' he

end
end Go.D
