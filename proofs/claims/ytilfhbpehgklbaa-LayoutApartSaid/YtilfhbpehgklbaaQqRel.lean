/- What the evaluator's values say of the model's values and memory. -/
import Derived.Test.YtilfhbpehgklbaaQqDv
import Derived.Laws.World
import Derived.Laws.Sem
import Derived.Laws.Cells
import Derived.Calls
set_option linter.unusedSimpArgs false
set_option linter.unusedVariables false
namespace Go.D

/-- What is known beside the state: the first block of this call's own, the cells that are never written any more, and where the evaluator's heap lies. -/
structure Ghost where
  B : Nat
  imm : Nat → Nat → Prop
  hb : List Nat

def plain : Value → Bool
  | .bool _ | .int .. | .float .. | .complex .. | .string _ | .pointer none | .map none | .chan none | .nilFunc | .nilIface => true
  | .tuple a => a.isEmpty
  | _ => false

/-- Values of one cell each. -/
def Ones (l : List Value) : Prop := ∀ u ∈ l, u.oneCell' = true

/-- Cells that are never written any more, and what they have. -/
def Holds (G : Ghost) (w : World) (rb off : Nat) (cs : List Value) : Prop :=
  ∀ k c, cs[k]? = some c → G.imm rb (off + k) ∧ w.cell? ⟨rb, off + k, none⟩ = some c

/-- The room behind a slice. -/
def Spare (G : Ghost) (w : World) (rb lo hi : Nat) : Prop :=
  (∃ c e, w.heap[rb]? = some (.cells c e (0, 0)) ∧ hi ≤ c.size) ∧ ∀ o, lo ≤ o → ¬ G.imm rb o

def MRel (G : Ghost) (w : World) (m : Mode) (rb lo hi : Nat) (isFull : Prop) (r : List Nat) : Prop :=
  match m with
  | .view => r = []
  | .full => r = [] ∧ isFull
  | .own => r = [rb] ∧ Spare G w rb lo hi

mutual
def VRel (G : Ghost) (w : World) : DV → Value → List Nat → Prop
  | .sc u, v, r => v = u ∧ plain u = true ∧ r = []
  | .agg cs, v, r => ∃ l : List Value, v = .agg l.toArray ∧ VRelL G w cs l r ∧ Ones l
  | .tup cs, v, r => ∃ l : List Value, v = .tuple l.toArray ∧ VRelL G w cs l r
  | .sl m sz xs, v, r => ∃ a cap, v = .slice a xs.length cap ∧ xs.length ≤ cap ∧
      ((xs.length = 0 ∧ cap = 0 ∧ r = []) ∨
        ∃ rb off, a = some ⟨rb, off, none⟩ ∧ VElems G w sz xs rb off ∧ MRel G w m rb (off + xs.length * sz) (off + cap * sz) (cap = xs.length) r)
  | .ptr b off, v, r => r = [] ∧ ∃ rb, G.hb[b]? = some rb ∧ v = .pointer (some ⟨rb, off, none⟩)
  | .cptr cs, v, r => r = [] ∧ ∃ rb off, ∃ l : List Value, v = .pointer (some ⟨rb, off, none⟩) ∧ VRelL G w cs l [] ∧ Holds G w rb off l ∧ Ones l
  | .hsl b off len _ _ _, v, r => r = [] ∧ ∃ rb, G.hb[b]? = some rb ∧ ∃ cap, v = .slice (some ⟨rb, off, none⟩) len cap ∧ len ≤ cap
  | .fn f first cap, v, r => r = [] ∧ ∃ fa ca : List Value, v = .func f fa.toArray ca.toArray ∧ VRelL G w first fa [] ∧ VRelL G w cap ca []
  | .ifc t d, v, r => ∃ u, v = .iface t u ∧ VRel G w d u r
  | .box cs, v, r => ∃ rb c e rs, v = .pointer (some ⟨rb, 0, none⟩) ∧ w.heap[rb]? = some (.cells c e (0, 0)) ∧ VRelL G w cs c.toList rs ∧ r = rb :: rs ∧
      (∀ o, ¬ G.imm rb o) ∧ G.B ≤ rb ∧ Ones c.toList
  | .lref _ _, _, _ => False
  | .junk, _, r => r = []
def VRelL (G : Ghost) (w : World) : List DV → List Value → List Nat → Prop
  | [], l, r => l = [] ∧ r = []
  | d :: ds, l, r => ∃ v vs r₁ r₂, l = v :: vs ∧ r = r₁ ++ r₂ ∧ VRel G w d v r₁ ∧ VRelL G w ds vs r₂
def VElems (G : Ghost) (w : World) (sz : Nat) : List DV → Nat → Nat → Prop
  | [], _, _ => True
  | d :: ds, rb, off => (∃ v, VRel G w d v [] ∧ v.cells.size = sz ∧ Holds G w rb off v.cells.toList ∧ Ones v.cells.toList) ∧ VElems G w sz ds rb (off + sz)
end

/-- What may turn from a world to a later one, for a value that owns the blocks r. -/
structure Mono (G : Ghost) (w : World) (G' : Ghost) (w' : World) : Prop where
  B : G'.B ≤ G.B
  imm : ∀ b o, G.imm b o → G'.imm b o
  cell : ∀ b o, G.imm b o → w'.cell? ⟨b, o, none⟩ = w.cell? ⟨b, o, none⟩
  hb : ∀ (i rb : Nat), G.hb[i]? = some rb → G'.hb[i]? = some rb

def Stays (G : Ghost) (w : World) (G' : Ghost) (w' : World) (r : List Nat) : Prop :=
  ∀ x ∈ r, w'.heap[x]? = w.heap[x]? ∧ ∀ o, G'.imm x o → G.imm x o

theorem Holds.mono {G G' : Ghost} {w w' : World} (M : Mono G w G' w') {rb off : Nat} {cs : List Value} (h : Holds G w rb off cs) : Holds G' w' rb off cs :=
  fun k c hk => ⟨M.imm _ _ (h k c hk).1, (M.cell _ _ (h k c hk).1).trans (h k c hk).2⟩

theorem Spare.mono {G G' : Ghost} {w w' : World} {rb lo hi : Nat} (h : Spare G w rb lo hi) (hs : Stays G w G' w' [rb]) : Spare G' w' rb lo hi := by
  obtain ⟨⟨c, e, hc, hl⟩, hi⟩ := h
  obtain ⟨h1, h2⟩ := hs rb (by simp)
  exact ⟨⟨c, e, by rw [h1]; exact hc, hl⟩, fun o ho h => hi o ho (h2 o h)⟩

theorem MRel.mono {G G' : Ghost} {w w' : World} {m : Mode} {rb lo hi : Nat} {p : Prop} {r : List Nat} (h : MRel G w m rb lo hi p r)
    (hs : Stays G w G' w' r) : MRel G' w' m rb lo hi p r := by
  cases m with
  | view => exact h
  | full => exact h
  | own =>
    obtain ⟨rfl, h⟩ := h
    exact ⟨rfl, h.mono hs⟩

theorem Stays.left {G G' : Ghost} {w w' : World} {a b : List Nat} (h : Stays G w G' w' (a ++ b)) : Stays G w G' w' a := fun x hx => h x (by simp [hx])
theorem Stays.right {G G' : Ghost} {w w' : World} {a b : List Nat} (h : Stays G w G' w' (a ++ b)) : Stays G w G' w' b := fun x hx => h x (by simp [hx])
theorem Stays.nil {G G' : Ghost} {w w' : World} : Stays G w G' w' [] := fun x hx => by simp at hx

mutual
theorem VRel.mono {G G' : Ghost} {w w' : World} (M : Mono G w G' w') : ∀ (d : DV) {v : Value} {r : List Nat}, VRel G w d v r → Stays G w G' w' r → VRel G' w' d v r
  | .sc _, _, _, h, _ => by simpa [VRel] using h
  | .agg cs, _, _, h, hs => by
    simp only [VRel] at h ⊢
    obtain ⟨l, e, h, h1⟩ := h
    exact ⟨l, e, VRelL.mono M cs h hs, h1⟩
  | .tup cs, _, _, h, hs => by
    simp only [VRel] at h ⊢
    obtain ⟨l, e, h⟩ := h
    exact ⟨l, e, VRelL.mono M cs h hs⟩
  | .sl m sz xs, _, _, h, hs => by
    simp only [VRel] at h ⊢
    obtain ⟨a, cap, e, hl, h⟩ := h
    refine ⟨a, cap, e, hl, ?_⟩
    rcases h with h | ⟨rb, off, ea, hel, hm⟩
    · exact .inl h
    · exact .inr ⟨rb, off, ea, VElems.mono M sz xs hel, hm.mono hs⟩
  | .ptr _ _, _, _, h, _ => by
    simp only [VRel] at h ⊢
    obtain ⟨hr, rb, hb, e⟩ := h
    exact ⟨hr, rb, M.hb _ _ hb, e⟩
  | .cptr cs, _, _, h, _ => by
    simp only [VRel] at h ⊢
    obtain ⟨hr, rb, off, l, e, hl, hh, h1⟩ := h
    exact ⟨hr, rb, off, l, e, VRelL.mono M cs hl Stays.nil, hh.mono M, h1⟩
  | .hsl _ _ _ _ _ _, _, _, h, _ => by
    simp only [VRel] at h ⊢
    obtain ⟨hr, rb, hb, e⟩ := h
    exact ⟨hr, rb, M.hb _ _ hb, e⟩
  | .fn f first cap, _, _, h, _ => by
    simp only [VRel] at h ⊢
    obtain ⟨hr, fa, ca, e, h1, h2⟩ := h
    exact ⟨hr, fa, ca, e, VRelL.mono M first h1 Stays.nil, VRelL.mono M cap h2 Stays.nil⟩
  | .ifc t d, _, _, h, hs => by
    simp only [VRel] at h ⊢
    obtain ⟨u, e, h⟩ := h
    exact ⟨u, e, VRel.mono M d h hs⟩
  | .box cs, _, _, h, hs => by
    simp only [VRel] at h ⊢
    obtain ⟨rb, c, e, rs, ev, hc, hl, er, hi, hB, h1⟩ := h
    subst er
    refine ⟨rb, c, e, rs, ev, ?_, VRelL.mono M cs hl (fun x hx => hs x (by simp [hx])), rfl, ?_, Nat.le_trans M.B hB, h1⟩
    · rw [(hs rb (by simp)).1]; exact hc
    · exact fun o h => hi o ((hs rb (by simp)).2 o h)
  | .lref _ _, _, _, h, _ => by simp [VRel] at h
  | .junk, _, _, h, _ => by simpa [VRel] using h
theorem VRelL.mono {G G' : Ghost} {w w' : World} (M : Mono G w G' w') : ∀ (ds : List DV) {l : List Value} {r : List Nat}, VRelL G w ds l r → Stays G w G' w' r → VRelL G' w' ds l r
  | [], _, _, h, _ => by simpa [VRelL] using h
  | d :: ds, _, _, h, hs => by
    simp only [VRelL] at h ⊢
    obtain ⟨v, vs, r₁, r₂, el, er, h1, h2⟩ := h
    subst er
    exact ⟨v, vs, r₁, r₂, el, rfl, VRel.mono M d h1 hs.left, VRelL.mono M ds h2 hs.right⟩
theorem VElems.mono {G G' : Ghost} {w w' : World} (M : Mono G w G' w') (sz : Nat) : ∀ (ds : List DV) {rb off : Nat}, VElems G w sz ds rb off → VElems G' w' sz ds rb off
  | [], _, _, _ => by simp [VElems]
  | d :: ds, _, _, h => by
    simp only [VElems] at h ⊢
    obtain ⟨⟨v, hv, hsz, hh, h1⟩, h⟩ := h
    exact ⟨⟨v, VRel.mono M d hv Stays.nil, hsz, hh.mono M, h1⟩, VElems.mono M sz ds h⟩
end

mutual
theorem VRel.strip {G : Ghost} {w : World} : ∀ (d : DV) {v : Value} {r : List Nat}, VRel G w d v r → VRel G w (D.strip d) v []
  | .sc _, _, _, h => by simp only [VRel, D.strip] at h ⊢; exact ⟨h.1, h.2.1, trivial⟩
  | .agg cs, _, _, h => by
    simp only [VRel, D.strip] at h ⊢
    obtain ⟨l, e, h, h1⟩ := h
    exact ⟨l, e, VRelL.strip cs h, h1⟩
  | .tup cs, _, _, h => by
    simp only [VRel, D.strip] at h ⊢
    obtain ⟨l, e, h⟩ := h
    exact ⟨l, e, VRelL.strip cs h⟩
  | .sl m sz xs, _, _, h => by
    simp only [VRel, D.strip] at h ⊢
    obtain ⟨a, cap, e, hl, h⟩ := h
    refine ⟨a, cap, e, hl, ?_⟩
    rcases h with ⟨h1, h2, _⟩ | ⟨rb, off, ea, hel, hm⟩
    · exact .inl ⟨h1, h2, trivial⟩
    · refine .inr ⟨rb, off, ea, hel, ?_⟩
      cases m with
      | view => rfl
      | full => exact ⟨rfl, hm.2⟩
      | own => rfl
  | .ptr _ _, _, _, h => by simp only [VRel, D.strip] at h ⊢; exact ⟨trivial, h.2⟩
  | .cptr cs, _, _, h => by simp only [VRel, D.strip] at h ⊢; exact ⟨trivial, h.2⟩
  | .hsl _ _ _ _ _ _, _, _, h => by simp only [VRel, D.strip] at h ⊢; exact ⟨trivial, h.2⟩
  | .fn f first cap, _, _, h => by simp only [VRel, D.strip] at h ⊢; exact ⟨trivial, h.2⟩
  | .ifc t d, _, _, h => by
    simp only [VRel, D.strip] at h ⊢
    obtain ⟨u, e, h⟩ := h
    exact ⟨u, e, VRel.strip d h⟩
  | .box cs, _, _, _ => by simp [VRel, D.strip]
  | .lref _ _, _, _, h => by simp [VRel] at h
  | .junk, _, _, _ => by simp [VRel, D.strip]
theorem VRelL.strip {G : Ghost} {w : World} : ∀ (ds : List DV) {l : List Value} {r : List Nat}, VRelL G w ds l r → VRelL G w (D.stripL ds) l []
  | [], _, _, h => by simp only [VRelL, D.stripL] at h ⊢; exact ⟨h.1, trivial⟩
  | d :: ds, _, _, h => by
    simp only [VRelL, D.stripL] at h ⊢
    obtain ⟨v, vs, r₁, r₂, el, er, h1, h2⟩ := h
    exact ⟨v, vs, [], [], el, rfl, VRel.strip d h1, VRelL.strip ds h2⟩
end

end Go.D
