/- Lemmas on the relation: lists of values, elements of slices, cells, values without addresses, new values. -/
import Derived.Test.YtilfhbpehgklbaaQqRel
set_option linter.unusedSimpArgs false
set_option linter.unusedVariables false
namespace Go.D

section
variable {G : Ghost} {w : World}

theorem VRelL.length : ∀ {ds : List DV} {l : List Value} {r : List Nat}, VRelL G w ds l r → l.length = ds.length
  | [], _, _, h => by simp only [VRelL] at h; simp [h.1]
  | d :: ds, _, _, h => by
    simp only [VRelL] at h
    obtain ⟨v, vs, r₁, r₂, el, er, h1, h2⟩ := h
    subst el; simp [VRelL.length h2]

theorem VRelL.append : ∀ {a b : List DV} {la lb : List Value} {ra rb : List Nat}, VRelL G w a la ra → VRelL G w b lb rb → VRelL G w (a ++ b) (la ++ lb) (ra ++ rb)
  | [], b, _, _, _, _, h, k => by simp only [VRelL] at h; simpa [h.1, h.2] using k
  | d :: ds, b, _, _, _, _, h, k => by
    simp only [VRelL] at h
    obtain ⟨v, vs, r₁, r₂, el, er, h1, h2⟩ := h
    subst el; subst er
    simp only [List.cons_append, VRelL]
    exact ⟨v, _, r₁, r₂ ++ _, rfl, by simp, h1, h2.append k⟩

theorem VRelL.split : ∀ (a : List DV) {b : List DV} {l : List Value} {r : List Nat}, VRelL G w (a ++ b) l r →
    ∃ la lb ra rb, l = la ++ lb ∧ r = ra ++ rb ∧ VRelL G w a la ra ∧ VRelL G w b lb rb
  | [], b, l, r, h => ⟨[], l, [], r, rfl, rfl, by simp [VRelL], h⟩
  | d :: ds, b, _, _, h => by
    simp only [List.cons_append, VRelL] at h
    obtain ⟨v, vs, r₁, r₂, el, er, h1, h2⟩ := h
    obtain ⟨la, lb, ra, rb, e1, e2, k1, k2⟩ := VRelL.split ds h2
    subst el; subst er; subst e1; subst e2
    refine ⟨v :: la, lb, r₁ ++ ra, rb, rfl, by simp, ?_, k2⟩
    simp only [VRelL]; exact ⟨v, la, r₁, ra, rfl, rfl, h1, k1⟩

theorem VRelL.cons {d : DV} {ds : List DV} {v : Value} {l : List Value} {r₁ r₂ : List Nat} (h : VRel G w d v r₁) (k : VRelL G w ds l r₂) : VRelL G w (d :: ds) (v :: l) (r₁ ++ r₂) := by
  simp only [VRelL]; exact ⟨v, l, r₁, r₂, rfl, rfl, h, k⟩
theorem VRelL.nil : VRelL G w [] [] [] := by simp [VRelL]
theorem VRelL.one {d : DV} {v : Value} {r : List Nat} (h : VRel G w d v r) : VRelL G w [d] [v] r := by simpa using VRelL.cons h VRelL.nil
theorem VRelL.one_inv {d : DV} {l : List Value} {r : List Nat} (h : VRelL G w [d] l r) : ∃ v, l = [v] ∧ VRel G w d v r := by
  simp only [VRelL] at h
  obtain ⟨v, vs, r₁, r₂, el, er, h1, h2, h3⟩ := h
  subst el; subst h2; subst h3; simp at er; subst er; exact ⟨v, rfl, h1⟩

/-- A row cut in two. -/
theorem VRelL.cut (k : Nat) {ds : List DV} {l : List Value} {r : List Nat} (h : VRelL G w ds l r) :
    ∃ ra rb, r = ra ++ rb ∧ VRelL G w (ds.take k) (l.take k) ra ∧ VRelL G w (ds.drop k) (l.drop k) rb := by
  have h' := h
  rw [← List.take_append_drop k ds] at h
  obtain ⟨la, lb, ra, rb, e1, e2, k1, k2⟩ := VRelL.split _ h
  have hl := k1.length
  have hl' := k2.length
  have ha : la = l.take k := by
    subst e1
    by_cases hk : k ≤ ds.length
    · have : la.length = k := by rw [hl]; simp; omega
      simp [← this]
    · have h1 : la.length = ds.length := by rw [hl]; simp; omega
      have h2 : lb = [] := by
        have : lb.length = 0 := by rw [hl']; simp; omega
        exact List.length_eq_zero_iff.1 this
      subst h2
      rw [List.append_nil, List.take_of_length_le (by omega)]
  have hb : lb = l.drop k := by
    subst e1
    have := congrArg List.length ha
    simp only [List.length_take, List.length_append] at this
    by_cases hk : k ≤ la.length
    · have : la.length = k := by omega
      simp [← this]
    · have h2 : lb = [] := by
        have : lb.length = 0 := by
          have h3 : la.length = ds.length := by rw [hl]; simp; rw [hl] at hk; simp at hk; omega
          rw [hl']; simp; rw [hl] at hk; simp at hk; omega
        exact List.length_eq_zero_iff.1 this
      subst h2
      rw [List.append_nil, List.drop_of_length_le (by omega)]
  subst ha; subst hb
  exact ⟨ra, rb, e2, k1, k2⟩

theorem VRelL.get {ds : List DV} {l : List Value} {r : List Nat} (h : VRelL G w ds l r) {i : Nat} {d : DV} (hi : ds[i]? = some d) :
    ∃ v ra rm rb, l[i]? = some v ∧ r = ra ++ rm ++ rb ∧ VRel G w d v rm ∧ VRelL G w (ds.take i) (l.take i) ra ∧ VRelL G w (ds.drop (i + 1)) (l.drop (i + 1)) rb := by
  obtain ⟨ra, rb, er, h1, h2⟩ := h.cut i
  have hlt : i < ds.length := by
    rcases Nat.lt_or_ge i ds.length with h | h
    · exact h
    · rw [List.getElem?_eq_none h] at hi; simp at hi
  have e : ds.drop i = d :: ds.drop (i + 1) := by
    rw [List.drop_eq_getElem_cons hlt]
    rw [List.getElem?_eq_getElem hlt] at hi
    simp at hi; rw [hi]
  rw [e] at h2
  simp only [VRelL] at h2
  obtain ⟨v, vs, r₁, r₂, el, er', k1, k2⟩ := h2
  have hv : l[i]? = some v := by
    have := congrArg (fun x => x[0]?) el
    simpa using this
  have hvs : vs = l.drop (i + 1) := by
    have := congrArg (List.drop 1) el
    simpa using this.symm
  subst hvs
  exact ⟨v, ra, r₁, r₂, hv, by rw [er, er', List.append_assoc], k1, h1, k2⟩

theorem VRelL.get_strip {ds : List DV} {l : List Value} {r : List Nat} (h : VRelL G w ds l r) {i : Nat} {d : DV} (hi : ds[i]? = some d) :
    ∃ v rm, l[i]? = some v ∧ VRel G w d v rm := by
  obtain ⟨v, _, rm, _, h1, _, h2, _⟩ := h.get hi; exact ⟨v, rm, h1, h2⟩

/-- Parts of a row of cells set anew. -/
theorem VRelL.set {ds xs : List DV} {l vs : List Value} {r rx : List Nat} (h : VRelL G w ds l r) (hx : VRelL G w xs vs rx) {off : Nat} :
    ∃ ra rm rb, r = ra ++ rm ++ rb ∧ VRelL G w (setCells ds off xs) (l.take off ++ vs ++ l.drop (off + vs.length)) (ra ++ rx ++ rb) := by
  obtain ⟨ra, rb, er, h1, h2⟩ := h.cut off
  obtain ⟨rm, rc, er', _, h4⟩ := h2.cut xs.length
  refine ⟨ra, rm, rc, by rw [er, er', List.append_assoc], ?_⟩
  have : (l.drop off).drop xs.length = l.drop (off + vs.length) := by rw [List.drop_drop, hx.length]
  rw [this, List.drop_drop] at h4
  exact (h1.append hx).append h4

theorem stripL_eq (l : List DV) : stripL l = l.map strip := by induction l with
  | nil => rfl
  | cons x r ih => simp [stripL, ih]
theorem freeL_eq (l : List DV) : freeL l = l.all free := by induction l with
  | nil => rfl
  | cons x r ih => simp [freeL, ih]
theorem freshL_eq (l : List DV) : freshL l = l.all fresh := by induction l with
  | nil => rfl
  | cons x r ih => simp [freshL, ih]
theorem hasHsL_eq (l : List DV) : hasHsL l = l.any hasHs := by induction l with
  | nil => rfl
  | cons x r ih => simp [hasHsL, ih]
theorem lookL_eq (h : Heap) (l : List DV) : lookL h l = l.map (look h) := by induction l with
  | nil => rfl
  | cons x r ih => simp [lookL, ih]

theorem Ones.nil : Ones [] := fun _ h => by simp at h
theorem Ones.take {l : List Value} (h : Ones l) (k : Nat) : Ones (l.take k) := fun u hu => h u (List.mem_of_mem_take hu)
theorem Ones.drop {l : List Value} (h : Ones l) (k : Nat) : Ones (l.drop k) := fun u hu => h u (List.mem_of_mem_drop hu)
theorem Ones.append {l m : List Value} (h : Ones l) (k : Ones m) : Ones (l ++ m) := fun u hu => by
  rcases List.mem_append.1 hu with hu | hu
  · exact h u hu
  · exact k u hu

/-- A value's cells. -/
theorem VRel.cells {d : DV} {v : Value} {r : List Nat} (h : VRel G w d v r) (hn : cellsOf d ≠ []) : VRelL G w (cellsOf d) v.cells.toList r ∧ Ones v.cells.toList := by
  have one : ∀ v : Value, v.oneCell' = true → v.cells = #[v] → Ones v.cells.toList := by
    intro v hv e u hu; rw [e] at hu; simp at hu; subst hu; exact hv
  cases d with
  | agg cs =>
    simp only [VRel] at h
    obtain ⟨l, rfl, h, h1⟩ := h
    exact ⟨by simpa [cellsOf, Value.cells] using h, by simpa [Value.cells] using h1⟩
  | sc u =>
    have h' := h
    simp only [VRel] at h'
    obtain ⟨rfl, hp, rfl⟩ := h'
    have hnt : ∀ a, v ≠ .tuple a := by rintro a rfl; simp [cellsOf] at hn
    have e : v.cells = #[v] := by cases v <;> first | rfl | simp [plain] at hp
    have ec : cellsOf (.sc v) = [.sc v] := by cases v <;> first | rfl | exact absurd rfl (hnt _)
    refine ⟨by rw [e, ec]; exact VRelL.one h, one v ?_ e⟩
    cases v <;> first | rfl | (simp [plain] at hp; done) | exact absurd rfl (hnt _)
  | sl m sz xs =>
    have h' := h
    simp only [VRel] at h'
    obtain ⟨a, cap, rfl, _⟩ := h'
    exact ⟨VRelL.one h, one _ rfl rfl⟩
  | ptr b off =>
    have h' := h
    simp only [VRel] at h'
    obtain ⟨_, rb, _, rfl⟩ := h'
    exact ⟨VRelL.one h, one _ rfl rfl⟩
  | cptr cs =>
    have h' := h
    simp only [VRel] at h'
    obtain ⟨_, rb, off, l, rfl, _⟩ := h'
    exact ⟨VRelL.one h, one _ rfl rfl⟩
  | hsl b off len cap sz ag =>
    have h' := h
    simp only [VRel] at h'
    obtain ⟨_, rb, _, cap, rfl, _⟩ := h'
    exact ⟨VRelL.one h, one _ rfl rfl⟩
  | fn f a b =>
    have h' := h
    simp only [VRel] at h'
    obtain ⟨_, fa, ca, rfl, _⟩ := h'
    exact ⟨VRelL.one h, one _ rfl rfl⟩
  | ifc t d =>
    have h' := h
    simp only [VRel] at h'
    obtain ⟨u, rfl, _⟩ := h'
    exact ⟨VRelL.one h, one _ rfl rfl⟩
  | tup _ => simp [cellsOf] at hn
  | box _ => simp [cellsOf] at hn
  | lref _ _ => simp [cellsOf] at hn
  | junk => simp [cellsOf] at hn

theorem VRel.cells_n {d : DV} {v : Value} {r : List Nat} (h : VRel G w d v r) {n : Nat} (hn : (cellsOf d).length = n) (h1 : 1 ≤ n) :
    VRelL G w (cellsOf d) v.cells.toList r ∧ v.cells.size = n ∧ Ones v.cells.toList := by
  have : cellsOf d ≠ [] := by intro e; rw [e] at hn; simp at hn; omega
  have h := h.cells this
  exact ⟨h.1, by have := h.1.length; simpa [hn] using this, h.2⟩

theorem VRelL.ofCells {cs : List DV} {l : List Value} {r : List Nat} (h : VRelL G w cs l r) (ag : Bool) (hn : ag = false → cs.length = 1) (h1 : Ones l) :
    VRel G w (ofCells ag cs) (if ag then .agg l.toArray else l.headD undef) r := by
  cases ag with
  | true => simp only [D.ofCells, VRel, if_true]; exact ⟨l, rfl, h, h1⟩
  | false =>
    match cs, hn rfl with
    | [c], _ =>
      obtain ⟨v, e, h2⟩ := h.one_inv
      subst e
      simpa [D.ofCells] using h2

/-- Elements of a slice. -/
theorem VElems.get {sz : Nat} : ∀ {xs : List DV} {rb off : Nat}, VElems G w sz xs rb off → ∀ {i : Nat} {x : DV}, xs[i]? = some x →
    ∃ v, VRel G w x v [] ∧ v.cells.size = sz ∧ Holds G w rb (off + i * sz) v.cells.toList ∧ Ones v.cells.toList
  | [], _, _, _, i, x, hi => by simp at hi
  | d :: ds, rb, off, h, i, x, hi => by
    simp only [VElems] at h
    cases i with
    | zero => simp at hi; subst hi; simpa using h.1
    | succ i =>
      simp at hi
      obtain ⟨v, h1, h2, h3, h4⟩ := VElems.get h.2 hi
      exact ⟨v, h1, h2, by rw [show off + (i + 1) * sz = off + sz + i * sz by rw [Nat.add_mul]; omega]; exact h3, h4⟩

theorem VElems.append {sz : Nat} : ∀ {xs ys : List DV} {rb off : Nat}, VElems G w sz (xs ++ ys) rb off ↔ VElems G w sz xs rb off ∧ VElems G w sz ys rb (off + xs.length * sz)
  | [], ys, rb, off => by simp [VElems]
  | x :: xs, ys, rb, off => by
    simp only [List.cons_append, VElems, List.length_cons]
    rw [VElems.append, show off + (xs.length + 1) * sz = off + sz + xs.length * sz by rw [Nat.add_mul]; omega]
    constructor
    · rintro ⟨a, b, c⟩; exact ⟨⟨a, b⟩, c⟩
    · rintro ⟨⟨a, b⟩, c⟩; exact ⟨a, b, c⟩

theorem VElems.take {sz k : Nat} {xs : List DV} {rb off : Nat} (h : VElems G w sz xs rb off) : VElems G w sz (xs.take k) rb off := by
  rw [← List.take_append_drop k xs] at h
  exact (VElems.append.1 h).1
theorem VElems.drop {sz k : Nat} {xs : List DV} {rb off : Nat} (hk : k ≤ xs.length) (h : VElems G w sz xs rb off) : VElems G w sz (xs.drop k) rb (off + k * sz) := by
  rw [← List.take_append_drop k xs] at h
  have := (VElems.append.1 h).2
  rwa [List.length_take, Nat.min_eq_left hk] at this

/-- Elements copied to another place. -/
theorem VElems.copy {G' : Ghost} {w' : World} (M : Mono G w G' w') {sz : Nat} {rb' : Nat} : ∀ {xs : List DV} {rb off off' : Nat}, VElems G w sz xs rb off →
    (∀ k, k < xs.length * sz → G'.imm rb' (off' + k) ∧ ∀ c, w.cell? ⟨rb, off + k, none⟩ = some c → w'.cell? ⟨rb', off' + k, none⟩ = some c) → VElems G' w' sz xs rb' off'
  | [], _, _, _, _, _ => by simp [VElems]
  | d :: ds, rb, off, off', h, hc => by
    simp only [VElems] at h ⊢
    obtain ⟨⟨v, hv, hsz, hh, hone⟩, h⟩ := h
    have e : (d :: ds).length * sz = sz + ds.length * sz := by simp [Nat.add_mul]; omega
    rw [e] at hc
    refine ⟨⟨v, VRel.mono M d hv Stays.nil, hsz, ?_, hone⟩, VElems.copy M h ?_⟩
    · intro k c hk
      have hlt : k < v.cells.toList.length := by
        rcases Nat.lt_or_ge k v.cells.toList.length with h | h
        · exact h
        · rw [List.getElem?_eq_none h] at hk; simp at hk
      have hlt' : k < sz := by simpa [hsz] using hlt
      have h2 := hc k (by omega)
      exact ⟨h2.1, h2.2 c (hh k c hk).2⟩
    · intro k hk
      have h2 := hc (sz + k) (by omega)
      rw [show off + sz + k = off + (sz + k) by omega, show off' + sz + k = off' + (sz + k) by omega]
      exact h2

/-- Every cell of the elements is there. -/
theorem VElems.cell {sz : Nat} : ∀ {xs : List DV} {rb off : Nat}, VElems G w sz xs rb off → ∀ k, k < xs.length * sz → ∃ c, w.cell? ⟨rb, off + k, none⟩ = some c ∧ G.imm rb (off + k) ∧ c.oneCell' = true
  | [], _, _, _, k, hk => by simp at hk
  | d :: ds, rb, off, h, k, hk => by
    simp only [VElems] at h
    obtain ⟨⟨v, hv, hsz, hh, hone⟩, h⟩ := h
    have e : (d :: ds).length * sz = sz + ds.length * sz := by simp [Nat.add_mul]; omega
    by_cases h1 : k < sz
    · have : k < v.cells.toList.length := by simpa [hsz] using h1
      have h2 := hh k _ (List.getElem?_eq_getElem this)
      exact ⟨_, h2.2, h2.1, hone _ (List.getElem_mem this)⟩
    · obtain ⟨c, hc⟩ := VElems.cell h (k - sz) (by omega)
      rw [show off + sz + (k - sz) = off + k by omega] at hc
      exact ⟨c, hc⟩

end
end Go.D
