/- The relation of a function's state: slots, variables' cells, the evaluator's heap; and what a step does to it. -/
import Derived.Test.YtilfhbpehgklbaaQqLem
set_option linter.unusedSimpArgs false
set_option linter.unusedVariables false
namespace Go.D

abbrev HW := Nat → Option Nat

inductive ELoc where
  | v (p : Nat)
  | t (i : Nat)
  deriving DecidableEq

abbrev EW := Nat → Option ELoc

/-- Room behind a row, of which nothing is known. -/
def pad (m : Nat) : List DV := List.replicate m .junk

theorem part_pad {cs : List DV} {k n : Nat} (h : k + n ≤ cs.length) (m : Nat) : ((cs ++ pad m).drop k).take n = (cs.drop k).take n := by
  rw [List.drop_append_of_le_length (by omega), List.take_append_of_le_length (by simp; omega)]

theorem setCells_pad {cs xs : List DV} {k : Nat} (h : k + xs.length ≤ cs.length) (m : Nat) : setCells (cs ++ pad m) k xs = setCells cs k xs ++ pad m := by
  unfold setCells
  rw [List.take_append_of_le_length (by omega), List.drop_append_of_le_length h, List.append_assoc, List.append_assoc, List.append_assoc]

/-- The evaluator's heap in the model's memory. -/
def HRel (G : Ghost) (hw : HW) (w : World) (heap : Heap) : Prop :=
  G.hb.length = heap.length ∧ ∀ (b : Nat) (cs : List DV), heap[b]? = some cs → ∃ rb c e r m, G.hb[b]? = some rb ∧ w.heap[rb]? = some (.cells c e (0, 0)) ∧
    VRelL G w (cs ++ pad m) c.toList r ∧ (rb :: r).Nodup ∧ (∀ x ∈ rb :: r, hw x = some b) ∧ (∀ o, ¬ G.imm rb o) ∧ G.B ≤ rb ∧ Ones c.toList

structure WOk (G : Ghost) (hw : HW) (w : World) : Prop where
  B : G.B ≤ w.heap.size
  imm : ∀ b o, G.imm b o → b < w.heap.size
  hw : ∀ x, hw x ≠ none → x < w.heap.size

/-- What a step may do: 'hand' are the blocks that it was given. -/
structure CPres (G : Ghost) (hw : HW) (w : World) (hand : List Nat) (G' : Ghost) (hw' : HW) (w' : World) : Prop where
  os : w'.os = w.os
  tape : w'.tape = w.tape
  output : w'.output = w.output
  size : w.heap.size ≤ w'.heap.size
  B : G'.B = G.B
  imm : ∀ b o, G.imm b o → G'.imm b o
  cell : ∀ b o, G.imm b o → w'.cell? ⟨b, o, none⟩ = w.cell? ⟨b, o, none⟩
  hb : ∃ ext, G'.hb = G.hb ++ ext
  keep : ∀ x, x < w.heap.size → hw x = none → x ∉ hand → w'.heap[x]? = w.heap[x]? ∧ ∀ o, G'.imm x o → G.imm x o
  hw : ∀ x, hw' x ≠ none → hw x ≠ none ∨ x ∈ hand ∨ w.heap.size ≤ x
  ok : WOk G' hw' w'

theorem CPres.mono {G G' : Ghost} {hw hw' : HW} {w w' : World} {hand : List Nat} (h : CPres G hw w hand G' hw' w') : Mono G w G' w' :=
  ⟨by rw [h.B]; exact Nat.le_refl _, h.imm, h.cell, fun i rb hi => by
    obtain ⟨ext, he⟩ := h.hb
    rw [he, List.getElem?_append_left]
    · exact hi
    · rcases Nat.lt_or_ge i G.hb.length with h | h
      · exact h
      · rw [List.getElem?_eq_none h] at hi; simp at hi⟩

theorem CPres.refl {G : Ghost} {hw : HW} {w : World} (h : WOk G hw w) (hand : List Nat) : CPres G hw w hand G hw w :=
  ⟨rfl, rfl, rfl, Nat.le_refl _, rfl, fun _ _ h => h, fun _ _ _ => rfl, ⟨[], by simp⟩, fun _ _ _ _ => ⟨rfl, fun _ h => h⟩, fun _ h => .inl h, h⟩

theorem CPres.trans {G₀ G₁ G₂ : Ghost} {hw₀ hw₁ hw₂ : HW} {w₀ w₁ w₂ : World} {hand hand' : List Nat} (h : CPres G₀ hw₀ w₀ hand G₁ hw₁ w₁) (k : CPres G₁ hw₁ w₁ hand' G₂ hw₂ w₂)
    (hh : ∀ x ∈ hand', x ∈ hand ∨ hw₀ x ≠ none ∨ w₀.heap.size ≤ x) : CPres G₀ hw₀ w₀ hand G₂ hw₂ w₂ := by
  refine ⟨k.os.trans h.os, k.tape.trans h.tape, k.output.trans h.output, Nat.le_trans h.size k.size, k.B.trans h.B, fun b o ho => k.imm _ _ (h.imm _ _ ho),
    fun b o ho => (k.cell _ _ (h.imm _ _ ho)).trans (h.cell _ _ ho), ?_, ?_, ?_, k.ok⟩
  · obtain ⟨e1, h1⟩ := h.hb
    obtain ⟨e2, h2⟩ := k.hb
    exact ⟨e1 ++ e2, by rw [h2, h1, List.append_assoc]⟩
  · intro x hx h0 hn
    have a := h.keep x hx h0 hn
    have hw1 : hw₁ x = none := by
      rcases Classical.em (hw₁ x = none) with h' | h'
      · exact h'
      · rcases h.hw x h' with h' | h' | h'
        · exact absurd h0 h'
        · exact absurd h' hn
        · omega
    have hn' : x ∉ hand' := fun hx' => by
      rcases hh x hx' with h' | h' | h'
      · exact hn h'
      · exact h' h0
      · omega
    have b := k.keep x (Nat.lt_of_lt_of_le hx h.size) hw1 hn'
    exact ⟨b.1.trans a.1, fun o ho => a.2 o (b.2 o ho)⟩
  · intro x hx
    rcases k.hw x hx with h' | h' | h'
    · exact h.hw x h'
    · rcases hh x h' with h' | h' | h'
      · exact .inr (.inl h')
      · exact .inl h'
      · exact .inr (.inr h')
    · exact .inr (.inr (Nat.le_trans h.size h'))

/-- What a variable or a temporary is. -/
def XRel (G : Ghost) (w : World) (bx : Nat → Option Nat) (d : DV) (v : Value) (r : List Nat) : Prop :=
  match d with
  | .lref p off => r = [] ∧ ∃ rb, bx p = some rb ∧ v = .pointer (some ⟨rb, off, none⟩)
  | d => VRel G w d v r

theorem XRel.of {G : Ghost} {w : World} {bx : Nat → Option Nat} {d : DV} {v : Value} {r : List Nat} (h : VRel G w d v r) : XRel G w bx d v r := by
  cases d <;> first | exact h | simp [VRel] at h

theorem XRel.v {G : Ghost} {w : World} {bx : Nat → Option Nat} {d : DV} {v : Value} {r : List Nat} (h : XRel G w bx d v r) (hn : ∀ p off, d ≠ .lref p off) : VRel G w d v r := by
  cases d <;> first | exact h | exact absurd rfl (hn _ _)

/-- A function's slots: its variables', its temporaries'; which variables are cells of their own; how many slots there are. -/
structure Fr where
  vs : List Nat
  ts : List (Option Nat)
  bxs : List Bool
  nt : Nat

def Fr.slot (F : Fr) : ELoc → Option Nat
  | .v p => F.vs[p]?
  | .t i => (F.ts[i]?).getD none

def St.val (s : St) : ELoc → Option DV
  | .v p => s.vars[p]?
  | .t i => s.tmps[i]?

structure Fr.WF (F : Fr) : Prop where
  inj : ∀ l l' t, F.slot l = some t → F.slot l' = some t → l = l'
  lt : ∀ l t, F.slot l = some t → t < F.nt

/-- Where the call began. -/
structure Entry where
  G : Ghost
  hw : HW
  w : World

/-- What a location's value is. -/
def LRel (F : Fr) (G : Ghost) (bx : Nat → Option Nat) (w : World) (ew : EW) (l : ELoc) (d : DV) (v : Value) : Prop :=
  ∃ r, r.Nodup ∧ (∀ x ∈ r, ew x = some l) ∧ XRel G w bx d v r ∧
    ∀ cs, d = .box cs → ∃ p rb, l = .v p ∧ F.bxs.getD p false = true ∧ bx p = some rb ∧ v = .pointer (some ⟨rb, 0, none⟩)

structure SRel (F : Fr) (E : Entry) (G : Ghost) (hw : HW) (ew : EW) (bx : Nat → Option Nat) (a : Act) (w : World) (s : St) : Prop where
  lv : s.vars.length = F.vs.length
  lt : s.tmps.length = F.ts.length
  loc : ∀ l t d, F.slot l = some t → s.val l = some d → LRel F G bx w ew l d (a.tmps.getD t undef)
  heap : HRel G hw w s.heap
  ok : WOk G hw w
  defers : a.defers = []
  size : F.nt ≤ a.tmps.size
  disj : ∀ x, ew x ≠ none → hw x = none
  ewlt : ∀ x, ew x ≠ none → x < w.heap.size
  hist : CPres E.G E.hw E.w [] G hw w
  histE : ∀ x, ew x ≠ none → E.hw x ≠ none ∨ E.w.heap.size ≤ x

theorem HRel.mono {G G' : Ghost} {hw hw' : HW} {w w' : World} {heap : Heap} (M : Mono G w G' w') (hlen : G'.hb.length = G.hb.length) (h : HRel G hw w heap)
    (hs : ∀ x b, hw x = some b → w'.heap[x]? = w.heap[x]? ∧ ∀ o, G'.imm x o → G.imm x o) (hh : ∀ x b, hw x = some b → hw' x = some b) : HRel G' hw' w' heap := by
  refine ⟨hlen.trans h.1, fun b cs hb => ?_⟩
  obtain ⟨rb, c, e, r, m, h1, h2, h3, h4, h5, h6, h7, h8⟩ := h.2 b cs hb
  refine ⟨rb, c, e, r, m, M.hb _ _ h1, ?_, VRelL.mono M _ h3 (fun x hx => hs x b (h5 x (by simp [hx]))), h4, fun x hx => hh x b (h5 x hx), ?_, Nat.le_trans M.B h7, h8⟩
  · rw [(hs rb b (h5 rb (by simp))).1]; exact h2
  · exact fun o ho => h6 o ((hs rb b (h5 rb (by simp))).2 o ho)

theorem XRel.mono {G G' : Ghost} {w w' : World} {bx bx' : Nat → Option Nat} (M : Mono G w G' w') {d : DV} {v : Value} {r : List Nat} (h : XRel G w bx d v r)
    (hs : Stays G w G' w' r) (hbx : ∀ q off, d = .lref q off → bx' q = bx q) : XRel G' w' bx' d v r := by
  cases d with
  | lref p off =>
    obtain ⟨hr, rb, hb, e⟩ := h
    exact ⟨hr, rb, (hbx p off rfl).trans hb, e⟩
  | _ => exact VRel.mono M _ h hs

theorem getD_set_self {α : Type} (a : Array α) (t : Nat) (v d : α) (h : t < a.size) : (a.setIfInBounds t v).getD t d = v := by
  simp [Array.getD, h]
theorem getD_set_other {α : Type} (a : Array α) (t u : Nat) (v d : α) (h : u ≠ t) : (a.setIfInBounds t v).getD u d = a.getD u d := by
  simp only [Array.getD, Array.size_setIfInBounds]
  split
  · rw [Array.getInternal_eq_getElem, Array.getInternal_eq_getElem, Array.getElem_setIfInBounds]
    rw [if_neg (Ne.symm h)]
  · rfl

/-- A state with one location's value set. -/
def St.put (s : St) (l : Option ELoc) (x : DV) : St :=
  match l with
  | some (.v p) => { s with vars := s.vars.set p x }
  | some (.t i) => { s with tmps := s.tmps.set i x }
  | none => s

theorem St.val_put_self {s : St} {l : ELoc} {x d : DV} (h : s.val l = some d) : (s.put (some l) x).val l = some x := by
  cases l with
  | v p =>
    simp only [St.put, St.val] at *
    have : p < s.vars.length := by
      rcases Nat.lt_or_ge p s.vars.length with h' | h'
      · exact h'
      · rw [List.getElem?_eq_none h'] at h; simp at h
    simp [this]
  | t i =>
    simp only [St.put, St.val] at *
    have : i < s.tmps.length := by
      rcases Nat.lt_or_ge i s.tmps.length with h' | h'
      · exact h'
      · rw [List.getElem?_eq_none h'] at h; simp at h
    simp [this]
theorem St.val_put_other {s : St} {l : Option ELoc} {l' : ELoc} {x : DV} (h : l ≠ some l') : (s.put l x).val l' = s.val l' := by
  cases l with
  | none => rfl
  | some l =>
    cases l <;> cases l' <;> simp only [St.put, St.val] <;> try rfl
    · rw [List.getElem?_set_ne]; intro e; subst e; exact h rfl
    · rw [List.getElem?_set_ne]; intro e; subst e; exact h rfl

/-- THE STEP: operands moved out of M, an operation that was given 'hand', its result written. -/
theorem SRel.finish {F : Fr} {E : Entry} {G : Ghost} {hw : HW} {ew : EW} {bx : Nat → Option Nat} {a : Act} {w : World} {s : St}
    (hF : F.WF) (hS : SRel F E G hw ew bx a w s) (M : List ELoc) (hand : List Nat) (dst : Option ELoc) (dt : Option Nat)
    (hhand : ∀ x ∈ hand, ∃ l, ew x = some l ∧ (l ∈ M ∨ dst = some l))
    {G' : Ghost} {hw' : HW} {w' : World} (hc : CPres G hw w hand G' hw' w') {heap' : Heap} (hH : HRel G' hw' w' heap')
    {s1 : St} (h1v : s1.vars.length = s.vars.length) (h1t : s1.tmps.length = s.tmps.length)
    (hs1 : ∀ l, l ∉ M → s1.val l = s.val l)
    (hsM : ∀ l ∈ M, ∀ t d, F.slot l = some t → s1.val l = some d → ∃ r, r.Nodup ∧ (∀ x ∈ r, ew x = some l ∧ x ∉ hand) ∧ XRel G w bx d (a.tmps.getD t undef) r ∧
      ∀ cs, d = .box cs → ∃ p rb, l = .v p ∧ F.bxs.getD p false = true ∧ bx p = some rb ∧ a.tmps.getD t undef = .pointer (some ⟨rb, 0, none⟩))
    (hd : ∀ l, dst = some l → F.slot l = dt) (hd0 : dst = none → dt = none) (hdt : dst ≠ none → dt ≠ none)
    {bx' : Nat → Option Nat} (hbx : ∀ q, dst ≠ some (.v q) → bx' q = bx q) (hbl : ∀ l q off, s1.val l = some (.lref q off) → bx' q = bx q)
    {d : DV} {v : Value} {r : List Nat} (hx : XRel G' w' bx' d v r) (hn : r.Nodup)
    (hr : ∀ x ∈ r, hw' x = none ∧ x < w'.heap.size ∧ (x ∈ hand ∨ (hw x ≠ none) ∨ w.heap.size ≤ x))
    (hbd : ∀ cs, d = .box cs → ∃ p rb, dst = some (.v p) ∧ F.bxs.getD p false = true ∧ bx' p = some rb ∧ v = .pointer (some ⟨rb, 0, none⟩)) :
    ∃ ew', SRel F E G' hw' ew' bx' (a.put dt v) w' { (s1.put dst d) with heap := heap' } := by
  classical
  let ew' : EW := fun x => if x ∈ r then dst else if x ∈ hand then none else
    match ew x with
    | some l => if dst = some l then none else some l
    | none => none
  have hMono := hc.mono
  -- an old owner that is left alone
  have hold : ∀ x l, ew x = some l → x ∉ hand → dst ≠ some l → ew' x = some l ∧ w'.heap[x]? = w.heap[x]? ∧ (∀ o, G'.imm x o → G.imm x o) := by
    intro x l hl hxh hdl
    have hw0 : hw x = none := hS.disj x (by rw [hl]; simp)
    have hlt : x < w.heap.size := hS.ewlt x (by rw [hl]; simp)
    have hk := hc.keep x hlt hw0 hxh
    refine ⟨?_, hk.1, hk.2⟩
    have hxr : x ∉ r := fun hxr => by
      rcases (hr x hxr).2.2 with h | h | h
      · exact hxh h
      · exact h hw0
      · omega
    simp only [ew', hxr, if_false, hxh, hl, hdl]
  have hew' : ∀ x, ew' x ≠ none → (x ∈ r) ∨ (x ∉ hand ∧ ew x ≠ none) := by
    intro x hx'
    by_cases h1 : x ∈ r
    · exact .inl h1
    · by_cases h2 : x ∈ hand
      · simp [ew', h1, h2] at hx'
      · refine .inr ⟨h2, fun h3 => ?_⟩
        simp [ew', h1, h2, h3] at hx'
  refine ⟨ew', ?_, ?_, ?_, ?_, hc.ok, ?_, ?_, ?_, ?_, ?_, ?_⟩
  · cases dst with
    | none => exact h1v.trans hS.lv
    | some l => cases l <;> simp [St.put, h1v, hS.lv]
  · cases dst with
    | none => exact h1t.trans hS.lt
    | some l => cases l <;> simp [St.put, h1t, hS.lt]
  · intro l t d' hl hv
    replace hv : (s1.put dst d).val l = some d' := hv
    by_cases hdl : dst = some l
    · -- the result's own place
      have hs1l : ∃ d0, s1.val l = some d0 := by
        cases l with
        | v p =>
          have : p < F.vs.length := by
            rcases Nat.lt_or_ge p F.vs.length with h' | h'
            · exact h'
            · simp only [Fr.slot, List.getElem?_eq_none h'] at hl; simp at hl
          exact ⟨s1.vars[p]'(by rw [h1v, hS.lv]; exact this), by simp [St.val, h1v, hS.lv, this]⟩
        | t i =>
          have : i < F.ts.length := by
            rcases Nat.lt_or_ge i F.ts.length with h' | h'
            · exact h'
            · simp only [Fr.slot, List.getElem?_eq_none h'] at hl; simp at hl
          exact ⟨s1.tmps[i]'(by rw [h1t, hS.lt]; exact this), by simp [St.val, h1t, hS.lt, this]⟩
      obtain ⟨d0, hd0'⟩ := hs1l
      subst hdl
      rw [St.val_put_self hd0'] at hv
      obtain rfl : d = d' := by simpa using hv
      have hdt' : dt = some t := (hd l rfl).symm.trans hl
      subst hdt'
      have hlt := hF.lt l t hl
      have e : (a.put (some t) v).tmps.getD t undef = v := by
        simp only [Act.put]; exact getD_set_self _ _ _ _ (Nat.lt_of_lt_of_le hlt hS.size)
      rw [e]
      refine ⟨r, hn, fun x hx' => by simp [ew', hx'], hx, fun cs hcs => ?_⟩
      obtain ⟨p, rb, h1, h2, h3, h4⟩ := hbd cs hcs
      simp at h1
      exact ⟨p, rb, h1, h2, h3, h4⟩
    · rw [St.val_put_other hdl] at hv
      have hne : (a.put dt v).tmps.getD t undef = a.tmps.getD t undef := by
        cases dst with
        | none => rw [hd0 rfl]; rfl
        | some l0 =>
          have h0 := hd l0 rfl
          cases dt with
          | none => rfl
          | some u =>
            simp only [Act.put]
            apply getD_set_other
            intro e; subst e
            exact hdl (by rw [hF.inj l0 l t h0 hl])
      rw [hne]
      have fin : ∀ r0, r0.Nodup → (∀ x ∈ r0, ew x = some l ∧ x ∉ hand) → XRel G w bx d' (a.tmps.getD t undef) r0 →
          (∀ cs, d' = .box cs → ∃ p rb, l = .v p ∧ F.bxs.getD p false = true ∧ bx p = some rb ∧ a.tmps.getD t undef = .pointer (some ⟨rb, 0, none⟩)) →
          LRel F G' bx' w' ew' l d' (a.tmps.getD t undef) := by
        intro r0 hn0 ho hx0 hb0
        refine ⟨r0, hn0, fun x hx' => (hold x l (ho x hx').1 (ho x hx').2 hdl).1, hx0.mono hMono (fun x hx' => (hold x l (ho x hx').1 (ho x hx').2 hdl).2) ?_, ?_⟩
        · intro q off e; exact hbl l q off (by rw [hv, e])
        · intro cs hcs
          obtain ⟨p, rb, h1, h2, h3, h4⟩ := hb0 cs hcs
          subst h1
          exact ⟨p, rb, rfl, h2, (hbx p hdl).trans h3, h4⟩
      by_cases hlM : l ∈ M
      · obtain ⟨r0, hn0, ho, hx0, hb0⟩ := hsM l hlM t d' hl hv
        exact fin r0 hn0 ho hx0 hb0
      · rw [hs1 l hlM] at hv
        obtain ⟨r0, hn0, ho, hx0, hb0⟩ := hS.loc l t d' hl hv
        refine fin r0 hn0 (fun x hx' => ⟨ho x hx', fun hh => ?_⟩) hx0 hb0
        obtain ⟨l', h1, h2⟩ := hhand x hh
        rw [ho x hx'] at h1
        obtain rfl : l = l' := by simpa using h1
        rcases h2 with h2 | h2
        · exact hlM h2
        · exact hdl h2
  · exact hH
  · cases dt <;> simp [Act.put, hS.defers]
  · cases dt <;> simp [Act.put, hS.size]
  · intro x hx'
    rcases hew' x hx' with h | ⟨h1, h2⟩
    · exact (hr x h).1
    · have hw0 := hS.disj x h2
      rcases Classical.em (hw' x = none) with h | h
      · exact h
      · rcases hc.hw x h with h | h | h
        · exact absurd hw0 h
        · exact absurd h h1
        · have := hS.ewlt x h2; omega
  · intro x hx'
    rcases hew' x hx' with h | ⟨h1, h2⟩
    · exact (hr x h).2.1
    · exact Nat.lt_of_lt_of_le (hS.ewlt x h2) hc.size
  · refine hS.hist.trans hc ?_
    intro x hx'
    obtain ⟨l, h1, _⟩ := hhand x hx'
    exact .inr (hS.histE x (by rw [h1]; simp))
  · intro x hx'
    rcases hew' x hx' with h | ⟨h1, h2⟩
    · rcases (hr x h).2.2 with h | h | h
      · obtain ⟨l, h1, _⟩ := hhand x h
        exact hS.histE x (by rw [h1]; simp)
      · rcases hS.hist.hw x h with h | h | h
        · exact .inl h
        · simp at h
        · exact .inr h
      · exact .inr (Nat.le_trans hS.hist.size h)
    · exact hS.histE x h2

end Go.D
