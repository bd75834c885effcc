/- FROM THE ROW's READING OF ARGUMENTS TO THE EVALUATOR's VALUES, AND FROM ITS ANSWER TO THE ROW: a law that the evaluator finds true at all values of its parameters' shapes is lifted to the row's own form. -/
import Derived.Test.YtilfhbpehgklbaaQqFns
import Derived.ProofKit
import Derived.SizedLaws
import Derived.WideShapes
set_option linter.unusedSimpArgs false
set_option linter.unusedVariables false
namespace Go.D
open Go.RowKit Go.ChangeShapes Go.WideShapes

/-- Shapes of parameters. -/
inductive Ty where
  | bool
  | int (k : IntKind)
  | str
  | sl (sz bs : Nat) (e : Ty)
  | agg (fs : List Ty)

def Ty.leaves : Ty → List Ty
  | .agg fs => fs
  | t => [t]

mutual
/-- A value of a shape. -/
def Sh : Ty → DV → Prop
  | .bool, d => ∃ b, d = .sc (.bool b)
  | .int k, d => ∃ n, d = .sc (.int k n) ∧ k.min ≤ n ∧ n ≤ k.max
  | .str, d => ∃ s : ByteArray, d = .sc (.string s) ∧ s.size ≤ reachBytes
  | .sl sz bs e, d => ∃ xs, d = .sl .view sz xs ∧ xs.length * bs ≤ reachBytes ∧ ∀ x ∈ xs, Sh e x
  | .agg fs, d => ∃ cs, d = .agg cs ∧ ShL fs cs
def ShL : List Ty → List DV → Prop
  | [], cs => cs = []
  | t :: ts, cs => ∃ d ds, cs = d :: ds ∧ Sh t d ∧ ShL ts ds
end

def fieldsTy (g : TypeId → Option Ty) (P : Program) : List Field → Nat → Option (List Ty)
  | [], _ => some []
  | f :: fs, off =>
    match g f.type with
    | some ty =>
      if f.offset = off ∧ P.cellsOf f.type = ty.leaves.length then
        match fieldsTy g P fs (off + ty.leaves.length) with
        | some l => some (ty.leaves ++ l)
        | none => none
      else none
    | none => none

/-- A type's shape, if it has one. -/
def tyOf (P : Program) : Nat → TypeId → Option Ty
  | 0, _ => none
  | n + 1, t =>
    match P.underlying t with
    | some .bool => some .bool
    | some (.int k) => some (.int k)
    | some .string => some .str
    | some (.slice e) =>
      match tyOf P n e with
      | some ty => if P.cellsOf e = ty.leaves.length ∧ 1 ≤ ty.leaves.length then some (.sl (P.cellsOf e) (P.bytesOf e) ty) else none
      | none => none
    | some (.struct fs) =>
      match fieldsTy (tyOf P n) P fs.toList 0 with
      | some l => if P.cellsOf t = l.length then some (.agg l) else none
      | none => none
    | some (.array m e) =>
      match tyOf P n e with
      | some ty => if P.cellsOf e = ty.leaves.length ∧ P.cellsOf t = m * ty.leaves.length then some (.agg (List.replicate m ty.leaves).flatten) else none
      | none => none
    | _ => none

theorem ShL.append : ∀ {a b : List Ty} {x y : List DV}, ShL a x → ShL b y → ShL (a ++ b) (x ++ y)
  | [], _, _, _, h, k => by simp only [ShL] at h; subst h; simpa using k
  | t :: ts, _, _, _, h, k => by
    simp only [ShL] at h
    obtain ⟨d, ds, rfl, h1, h2⟩ := h
    simp only [List.cons_append, ShL]
    exact ⟨d, _, rfl, h1, h2.append k⟩

/-- A type's values as one value: of cells. -/
def mkD : Ty → List DV → DV
  | .agg _, ds => .agg ds
  | _, ds => ds.headD .junk
def mkV : Ty → List Value → Value
  | .agg _, cs => .agg cs.toArray
  | _, cs => cs.headD undef

section
variable {G : Ghost} {W : World}

/-- Cells of a shape. -/
def CRel (G : Ghost) (W : World) (ts : List Ty) (cs : List Value) : Prop :=
  ∃ ds, ShL ts ds ∧ VRelL G W ds cs [] ∧ Ones cs ∧ cs.length = ts.length

theorem CRel.nil : CRel G W [] [] := ⟨[], by simp [ShL], VRelL.nil, Ones.nil, rfl⟩
theorem CRel.append {a b : List Ty} {x y : List Value} (h : CRel G W a x) (k : CRel G W b y) : CRel G W (a ++ b) (x ++ y) := by
  obtain ⟨ds, h1, h2, h3, h4⟩ := h
  obtain ⟨es, k1, k2, k3, k4⟩ := k
  exact ⟨ds ++ es, h1.append k1, by simpa using h2.append k2, h3.append k3, by simp [h4, k4]⟩

theorem one_cells {v : Value} (h : v.oneCell' = true) : v.cells.toList = [v] := by
  cases v <;> simp_all [Value.oneCell', Value.cells]

theorem CRel.mk {ty : Ty} {cs : List Value} (h : CRel G W ty.leaves cs) : ∃ d, Sh ty d ∧ VRel G W d (mkV ty cs) [] ∧ (mkV ty cs).cells.toList = cs := by
  obtain ⟨ds, h1, h2, h3, h4⟩ := h
  have one : ∀ t : Ty, ShL [t] ds → cs.length = 1 → ∃ d, Sh t d ∧ VRel G W d (cs.headD undef) [] ∧ (cs.headD undef).cells.toList = cs := by
    intro t g1 g4
    simp only [ShL] at g1
    obtain ⟨d, ds', rfl, gd, rfl⟩ := g1
    obtain ⟨v, rfl, hv⟩ := h2.one_inv
    exact ⟨d, gd, hv, one_cells (h3 v (by simp))⟩
  cases ty with
  | agg fs =>
    simp only [Ty.leaves] at h1 h4
    refine ⟨.agg ds, by simp only [Sh]; exact ⟨ds, rfl, h1⟩, ?_, by simp [mkV, Value.cells]⟩
    simp only [mkV, VRel]
    exact ⟨cs, rfl, h2, h3⟩
  | bool => exact one _ h1 h4
  | int k => exact one _ h1 h4
  | str => exact one _ h1 h4
  | sl a b e => exact one _ h1 h4

theorem mapM_range {α : Type} {F : Nat → Option α} : ∀ {n : Nat} {xs : List α}, (List.range n).mapM F = some xs → xs.length = n ∧ ∀ i x, xs[i]? = some x → F i = some x := by
  intro n
  induction n with
  | zero => intro xs h; simp at h; subst h; simp
  | succ n ih =>
    intro xs h
    rw [List.range_succ, List.mapM_append] at h
    cases h1 : (List.range n).mapM F with
    | none => simp [h1] at h
    | some ys =>
      cases h2 : F n with
      | none => simp [h1, h2] at h
      | some y =>
        simp [h1, h2] at h
        subst h
        obtain ⟨k1, k2⟩ := ih h1
        refine ⟨by simp [k1], fun i x hx => ?_⟩
        rcases Nat.lt_or_ge i ys.length with hi | hi
        · rw [List.getElem?_append_left hi] at hx; exact k2 i x hx
        · rw [List.getElem?_append_right hi] at hx
          have : i - ys.length = 0 := by
            rcases Nat.eq_zero_or_pos (i - ys.length) with h | h
            · exact h
            · rw [List.getElem?_eq_none (by simp; omega)] at hx; simp at hx
          rw [this] at hx
          simp at hx
          subst hx
          have : i = n := by omega
          rw [this]; exact h2

/-- Elements that lie in cells that are never written any more. -/
theorem velems_of {sz : Nat} : ∀ {xs : List DV} {rb off : Nat},
    (∀ i x, xs[i]? = some x → ∃ v, VRel G W x v [] ∧ v.cells.size = sz ∧ Holds G W rb (off + i * sz) v.cells.toList ∧ Ones v.cells.toList) → VElems G W sz xs rb off
  | [], _, _, _ => by simp [VElems]
  | x :: xs, rb, off, h => by
    simp only [VElems]
    refine ⟨by simpa using h 0 x rfl, velems_of fun i y hy => ?_⟩
    have := h (i + 1) y (by simpa using hy)
    rw [show off + sz + i * sz = off + (i + 1) * sz by rw [Nat.succ_mul]; omega]
    exact this

/-- Rows of cells read at an address. -/
theorem cells_read {b off n : Nat} {cs : List Value} (h : W.cells? 0 ⟨b, off, none⟩ n = some cs) : cs.length = n ∧ ∀ k c, cs[k]? = some c → W.cell? ⟨b, off + k, none⟩ = some c := by
  unfold World.cells? at h
  rw [if_pos (Nat.zero_le _)] at h
  obtain ⟨h1, h2⟩ := mapM_range h
  exact ⟨h1, fun k c hk => by simpa [add_plain] using h2 k c hk⟩

end

section
variable {H : Type} {enc : TypeId × Value → H} {P : Program} {G : Ghost} {W : World} {held : Bool}

theorem weightsEach_mem {ts : List TypeId} {ds : List (DataW H)} {j : Nat} {t : TypeId} {d : DataW H} (ht : ts[j]? = some t) (hd : ds[j]? = some d) {n : Nat} (hn : n ∈ d.weights P t) : n ∈ DataW.weightsEach P ts ds :=
  DataW.weights_mem_each ht hd n hn

theorem weightsAll_mem {e : TypeId} : ∀ {ds : List (DataW H)} {d : DataW H}, d ∈ ds → ∀ n ∈ d.weights P e, n ∈ DataW.weightsAll P e ds
  | x :: xs, d, hd, n, hn => by
    simp only [DataW.weightsAll, List.mem_append]
    rcases List.mem_cons.1 hd with rfl | hd
    · exact .inl hn
    · exact .inr (weightsAll_mem hd n hn)

def wAll (P : Program) (d : DataW H) (t : TypeId) : Prop := ∀ x ∈ d.weights P t, x ≤ reachBytes
def pAll (W : World) (ps : List MemPlace) : Prop := ∀ p ∈ ps, p.block < W.heap.size

theorem fields_rel {g : TypeId → Option Ty} {fuel : Nat}
    (ih : ∀ t ty, g t = some ty → ∀ cs d ps, DataW.trod enc P W 0 (fun _ => true) held fuel t cs = some (d, ps) → pAll W ps → wAll P d t → CRel G W ty.leaves cs) (cs : List Value) :
    ∀ (fs : List Field) (off : Nat) (l : List Ty), fieldsTy g P fs off = some l → ∀ xs, (fs.mapM fun f => DataW.trod enc P W 0 (fun _ => true) held fuel f.type ((cs.drop f.offset).take (P.cellsOf f.type))) = some xs →
      (∀ x ∈ xs, pAll W x.2) → (∀ (j : Nat) f x, fs[j]? = some f → xs[j]? = some x → wAll P x.1 f.type) → CRel G W l ((cs.drop off).take l.length)
  | [], off, l, hl, xs, h, _, _ => by
    simp only [fieldsTy, Option.some.injEq] at hl
    subst hl
    simpa using CRel.nil
  | f :: fs, off, l, hl, xs, h, hp, hw => by
    simp only [fieldsTy] at hl
    split at hl
    · rename_i ty hty
      split at hl
      · rename_i hc
        obtain ⟨ho, hc⟩ := hc
        split at hl
        · rename_i l' hl'
          simp only [Option.some.injEq] at hl
          subst hl
          rw [List.mapM_cons] at h
          cases h1 : DataW.trod enc P W 0 (fun _ => true) held fuel f.type ((cs.drop f.offset).take (P.cellsOf f.type)) with
          | none => simp [h1] at h
          | some x =>
            cases h2 : (fs.mapM fun f => DataW.trod enc P W 0 (fun _ => true) held fuel f.type ((cs.drop f.offset).take (P.cellsOf f.type))) with
            | none => simp [h1, h2] at h
            | some xs' =>
              simp [h1, h2] at h
              subst h
              have a := ih f.type ty hty _ x.1 x.2 (by rw [h1]) (hp x (by simp)) (hw 0 f x rfl rfl)
              have b := fields_rel ih cs fs (off + ty.leaves.length) l' hl' xs' h2 (fun y hy => hp y (by simp [hy])) (fun j f' x' hf' hx' => hw (j + 1) f' x' (by simpa using hf') (by simpa using hx'))
              rw [ho, hc] at a
              have e : (cs.drop off).take (ty.leaves ++ l').length = (cs.drop off).take ty.leaves.length ++ (cs.drop (off + ty.leaves.length)).take l'.length := by
                rw [List.length_append, List.take_add, List.drop_drop]
              rw [e]
              exact a.append b
        · simp at hl
      · simp at hl
    · simp at hl

/-- A READING, AND THE EVALUATOR's VALUES. -/
theorem trod_rel (hG : ∀ b o, b < W.heap.size → G.imm b o) : ∀ n t ty, tyOf P n t = some ty → ∀ fuel cs d ps, DataW.trod enc P W 0 (fun _ => true) held fuel t cs = some (d, ps) → pAll W ps → wAll P d t → CRel G W ty.leaves cs := by
  intro n
  induction n with
  | zero => intro t ty h; simp [tyOf] at h
  | succ n ih =>
    intro t ty hty fuel cs d ps h hp hw
    cases fuel with
    | zero => simp [DataW.trod] at h
    | succ fuel =>
      simp only [tyOf] at hty
      cases hu : P.underlying t with
      | none => simp [hu] at hty
      | some desc =>
        rw [hu] at hty
        cases desc with
        | bool =>
          simp only [Option.some.injEq] at hty
          subst hty
          simp only [DataW.trod, hu] at h
          split at h <;> simp_all
          rename_i b
          exact ⟨[.sc (.bool b)], by simp [ShL, Sh, Ty.leaves], VRelL.one (by simp [VRel, plain]), by intro u hu; simp at hu; subst hu; rfl, by simp [Ty.leaves]⟩
        | int k =>
          simp only [Option.some.injEq] at hty
          subst hty
          simp only [DataW.trod, hu] at h
          split at h <;> try (rename_i e; cases e; done)
          all_goals try (simp at h; done)
          rename_i k1 k2 m e
          simp only [Option.some.injEq, TypeDesc.int.injEq] at e
          subst e
          split at h <;> try (simp at h; done)
          rename_i hk
          obtain ⟨rfl, hwf⟩ := hk
          have hwf' : k2.min ≤ m ∧ m ≤ k2.max := by simpa [Lit.wf] using hwf
          exact ⟨[.sc (.int k2 m)], by simp only [ShL, Sh, Ty.leaves]; exact ⟨_, _, rfl, ⟨m, rfl, hwf'⟩, rfl⟩, VRelL.one (by simp [VRel, plain]), by intro u hu; simp at hu; subst hu; rfl, by simp [Ty.leaves]⟩
        | string =>
          simp only [Option.some.injEq] at hty
          subst hty
          simp only [DataW.trod, hu] at h
          split at h <;> try (rename_i e; cases e; done)
          all_goals try (simp at h; done)
          rename_i s e
          split at h <;> try (simp at h; done)
          simp only [Option.some.injEq, Prod.mk.injEq] at h
          obtain ⟨rfl, _⟩ := h
          have hs : s.size ≤ reachBytes := by
            have := hw s.data.toList.length (by simp [DataW.weights])
            simpa using this
          exact ⟨[.sc (.string s)], by simp only [ShL, Sh, Ty.leaves]; exact ⟨_, _, rfl, ⟨s, rfl, hs⟩, rfl⟩, VRelL.one (by simp [VRel, plain]), by intro u hu; simp at hu; subst hu; rfl, by simp [Ty.leaves]⟩
        | slice e =>
          simp only at hty
          split at hty
          · rename_i ety hety
            split at hty
            · rename_i hc
              obtain ⟨hc, hc1⟩ := hc
              simp only [Option.some.injEq] at hty
              subst hty
              simp only [DataW.trod, hu] at h
              split at h <;> try (simp at *; done)
              · -- nil
                refine ⟨[.sl .view (P.cellsOf e) []], ?_, VRelL.one ?_, by intro u hu; simp at hu; subst hu; rfl, by simp [Ty.leaves]⟩
                · simp only [ShL, Sh, Ty.leaves]
                  exact ⟨_, _, rfl, ⟨[], rfl, by simp, by simp⟩, rfl⟩
                · simp only [VRel]
                  exact ⟨none, 0, by simp, by simp, .inl ⟨by simp, rfl, trivial⟩⟩
              · rename_i e' a len cap he' 
                simp only [Option.some.injEq, TypeDesc.slice.injEq] at he'
                subst he'
                split at h
                · rename_i hb
                  obtain ⟨_, hlc, _⟩ := hb
                  cases h1 : (List.range len).mapM (fun i => (W.cells? 0 (a.add (i * P.cellsOf e)) (P.cellsOf e)).bind (DataW.trod enc P W 0 (fun _ => true) held fuel e)) with
                  | none => simp [h1] at h
                  | some elems =>
                    simp only [h1, Option.bind_some, if_true] at h
                    cases h2 : (List.range (cap - len)).mapM (fun j => (W.cells? 0 (a.add ((len + j) * P.cellsOf e)) (P.cellsOf e)).bind (DataW.trod enc P W 0 (fun _ => true) held fuel e)) with
                    | none => simp [h2] at h
                    | some rest =>
                      simp only [h2, Option.map_some, Option.some.injEq, Prod.mk.injEq] at h
                      obtain ⟨rfl, rfl⟩ := h
                      obtain ⟨k1, k2⟩ := mapM_range h1
                      obtain ⟨k3, k4⟩ := mapM_range h2
                      have hwl : len * P.bytesOf e ≤ reachBytes := by
                        have := hw ((elems.length + rest.length) * P.bytesOf e) (by simp [DataW.weights, hu])
                        refine Nat.le_trans (Nat.mul_le_mul_right _ ?_) this
                        omega
                      by_cases hcap : cap = 0
                      · -- nothing
                        have hl0 : len = 0 := by omega
                        subst hcap hl0
                        refine ⟨[.sl .view (P.cellsOf e) []], ?_, VRelL.one ?_, by intro u hu; simp at hu; subst hu; rfl, by simp [Ty.leaves]⟩
                        · simp only [ShL, Sh, Ty.leaves]
                          exact ⟨_, _, rfl, ⟨[], rfl, by simp, by simp⟩, rfl⟩
                        · simp only [VRel]
                          exact ⟨some a, 0, by simp, by simp, .inl ⟨by simp, rfl, trivial⟩⟩
                      -- the address is plain
                      have hspot : a.spot = none := by
                        have read0 : ∃ cs, W.cells? 0 (a.add (0 * P.cellsOf e)) (P.cellsOf e) = some cs := by
                          rcases Nat.eq_zero_or_pos len with hl | hl
                          · have hr : 0 < rest.length := by omega
                            obtain ⟨x, hx⟩ : ∃ x, rest[0]? = some x := ⟨_, List.getElem?_eq_getElem hr⟩
                            have := k4 0 x hx
                            rw [hl, Nat.add_zero] at this
                            cases hcs : W.cells? 0 (a.add (0 * P.cellsOf e)) (P.cellsOf e) with
                            | none => rw [hcs] at this; simp at this
                            | some cs => exact ⟨cs, rfl⟩
                          · have hr : 0 < elems.length := by omega
                            obtain ⟨x, hx⟩ : ∃ x, elems[0]? = some x := ⟨_, List.getElem?_eq_getElem hr⟩
                            have := k2 0 x hx
                            cases hcs : W.cells? 0 (a.add (0 * P.cellsOf e)) (P.cellsOf e) with
                            | none => rw [hcs] at this; simp at this
                            | some cs => exact ⟨cs, rfl⟩
                        obtain ⟨cs0, hcs0⟩ := read0
                        unfold World.cells? at hcs0
                        rw [if_pos (Nat.zero_le _)] at hcs0
                        obtain ⟨q1, q2⟩ := mapM_range hcs0
                        have hpos : 0 < cs0.length := by rw [q1, hc]; exact hc1
                        have := q2 0 _ (List.getElem?_eq_getElem hpos)
                        simp only [Nat.zero_mul, Addr.add, if_true] at this
                        unfold World.cell? at this
                        split at this
                        · split at this
                          · simp at this
                          · rename_i hs; simpa using hs
                        · simp at this
                      obtain ⟨b, off, spot⟩ := a
                      simp only at hspot
                      subst hspot
                      have hblk : b < W.heap.size := by
                        have : MemPlace.cell b (off + 0) ∈ MemPlace.row ⟨b, off, none⟩ ((elems.length + rest.length) * P.cellsOf e) ++ (elems ++ rest).flatMap (·.2) := by
                          refine List.mem_append_left _ ?_
                          unfold MemPlace.row
                          refine List.mem_map.2 ⟨0, List.mem_range.2 ?_, rfl⟩
                          exact Nat.mul_pos (by omega) (by omega)
                        exact hp _ this
                      -- each element
                      have each : ∀ (i : Nat) x, elems[i]? = some x → ∃ cs, W.cells? 0 ⟨b, off + i * P.cellsOf e, none⟩ (P.cellsOf e) = some cs ∧ CRel G W ety.leaves cs := by
                        intro i x hx
                        have hk := k2 i x hx
                        rw [add_plain] at hk
                        cases hcs : W.cells? 0 ⟨b, off + i * P.cellsOf e, none⟩ (P.cellsOf e) with
                        | none => simp [hcs] at hk
                        | some cs =>
                          simp only [hcs, Option.bind_some] at hk
                          refine ⟨cs, rfl, ih e ety hety fuel cs x.1 x.2 (by rw [hk]) (fun p hpx => hp p ?_) (fun y hy => hw y ?_)⟩
                          · exact List.mem_append_right _ (List.mem_flatMap.2 ⟨x, by simp [List.mem_of_getElem? hx], hpx⟩)
                          · simp only [DataW.weights, hu, List.mem_cons, List.mem_append]
                            exact .inr (.inl (weightsAll_mem (List.mem_map.2 ⟨x, List.mem_of_getElem? hx, rfl⟩) y hy))
                      have many : ∀ k, k ≤ len → ∃ xs : List DV, xs.length = k ∧ ∀ i x, xs[i]? = some x → Sh ety x ∧ ∃ v, VRel G W x v [] ∧ v.cells.size = P.cellsOf e ∧ Holds G W b (off + i * P.cellsOf e) v.cells.toList ∧ Ones v.cells.toList := by
                        intro k
                        induction k with
                        | zero => intro _; exact ⟨[], rfl, by simp⟩
                        | succ k ihk =>
                          intro hk
                          obtain ⟨xs, x1, x2⟩ := ihk (by omega)
                          obtain ⟨x, hx⟩ : ∃ x, elems[k]? = some x := ⟨_, List.getElem?_eq_getElem (by omega)⟩
                          obtain ⟨cs, c1, c2⟩ := each k x hx
                          obtain ⟨r1, r2⟩ := cells_read c1
                          obtain ⟨dv, s1, s2, s3⟩ := c2.mk
                          obtain ⟨_, _, _, ones, _⟩ := c2
                          refine ⟨xs ++ [dv], by simp [x1], fun i y hy => ?_⟩
                          rcases Nat.lt_or_ge i xs.length with hi | hi
                          · rw [List.getElem?_append_left hi] at hy; exact x2 i y hy
                          · rw [List.getElem?_append_right hi] at hy
                            have h0 : i - xs.length = 0 := by
                              rcases Nat.eq_zero_or_pos (i - xs.length) with h | h
                              · exact h
                              · rw [List.getElem?_eq_none (by simp; omega)] at hy; simp at hy
                            rw [h0] at hy
                            simp at hy
                            subst hy
                            have hik : i = k := by omega
                            subst hik
                            refine ⟨s1, _, s2, ?_, ?_, by rw [s3]; exact ones⟩
                            · have := congrArg List.length s3
                              simpa [r1] using this
                            · rw [s3]
                              exact fun j c hj => ⟨hG _ _ hblk, r2 j c hj⟩
                      obtain ⟨xs, x1, x2⟩ := many len (Nat.le_refl _)
                      refine ⟨[.sl .view (P.cellsOf e) xs], ?_, VRelL.one ?_, by intro u hu; simp at hu; subst hu; rfl, by simp [Ty.leaves]⟩
                      · simp only [ShL, Sh, Ty.leaves]
                        refine ⟨_, _, rfl, ⟨xs, rfl, by rw [x1]; exact hwl, fun x hx => ?_⟩, rfl⟩
                        obtain ⟨i, hi⟩ := List.mem_iff_getElem?.1 hx
                        exact (x2 i x hi).1
                      · simp only [VRel]
                        refine ⟨some ⟨b, off, none⟩, cap, by rw [x1], by omega, .inr ⟨b, off, rfl, velems_of fun i x hi => (x2 i x hi).2, by simp [MRel]⟩⟩
                · simp at h
            · simp at hty
          · simp at hty
        | struct fs =>
          simp only at hty
          split at hty
          · rename_i l hl
            split at hty
            · rename_i hc
              simp only [Option.some.injEq] at hty
              subst hty
              simp only [DataW.trod, hu] at h
              split at h
              · rename_i hcl
                cases h1 : (fs.toList.mapM fun f => DataW.trod enc P W 0 (fun _ => true) held fuel f.type ((cs.drop f.offset).take (P.cellsOf f.type))) with
                | none => simp [h1] at h
                | some xs =>
                  simp only [h1, Option.map_some, Option.some.injEq, Prod.mk.injEq] at h
                  obtain ⟨rfl, rfl⟩ := h
                  have := fields_rel (G := G) (fun t ty h1 cs d ps h2 h3 h4 => ih t ty h1 fuel cs d ps h2 h3 h4) cs fs.toList 0 l hl xs h1 (fun x hx p hpx => hp p (List.mem_flatMap.2 ⟨x, hx, hpx⟩))
                    (fun j f x hf hx y hy => hw y (by
                      simp only [DataW.weights, hu]
                      exact weightsEach_mem (j := j) (by simpa using congrArg (Option.map Field.type) hf) (by simpa using congrArg (Option.map Prod.fst) hx) hy))
                  simp only [List.drop_zero] at this
                  rw [List.take_of_length_le (by omega)] at this
                  exact this
              · simp at h
            · simp at hty
          · simp at hty
        | array m e =>
          simp only at hty
          split at hty
          · rename_i ety hety
            split at hty
            · rename_i hc
              obtain ⟨hc, hcm⟩ := hc
              simp only [Option.some.injEq] at hty
              subst hty
              simp only [DataW.trod, hu] at h
              split at h
              · rename_i hcl
                cases h1 : ((List.range m).mapM fun i => DataW.trod enc P W 0 (fun _ => true) held fuel e ((cs.drop (i * P.cellsOf e)).take (P.cellsOf e))) with
                | none => simp [h1] at h
                | some xs =>
                  simp only [h1, Option.map_some, Option.some.injEq, Prod.mk.injEq] at h
                  obtain ⟨rfl, rfl⟩ := h
                  obtain ⟨k1, k2⟩ := mapM_range h1
                  have many : ∀ k, k ≤ m → CRel G W (List.replicate k ety.leaves).flatten (cs.take (k * P.cellsOf e)) := by
                    intro k
                    induction k with
                    | zero => intro _; simpa using CRel.nil
                    | succ k ihk =>
                      intro hk
                      have a := ihk (by omega)
                      obtain ⟨x, hx⟩ : ∃ x, xs[k]? = some x := ⟨_, List.getElem?_eq_getElem (by omega)⟩
                      have hxm := List.mem_of_getElem? hx
                      have b := ih e ety hety fuel _ x.1 x.2 (by rw [k2 k x hx]) (fun p hpx => hp p (List.mem_flatMap.2 ⟨x, hxm, hpx⟩)) (fun y hy => hw y (by
                        simp only [DataW.weights, hu]
                        exact weightsAll_mem (List.mem_map.2 ⟨x, hxm, rfl⟩) y hy))
                      rw [List.replicate_succ', List.flatten_append, Nat.succ_mul, List.take_add]
                      simpa using a.append b
                  have := many m (Nat.le_refl _)
                  rw [List.take_of_length_le (by rw [hcl, hcm, hc]; exact Nat.le_refl _)] at this
                  exact this
              · simp at h
            · simp at hty
          · simp at hty
        | _ => simp at hty

end

section
variable {H : Type} {enc : TypeId × Value → H} {P : Program} {G : Ghost} {W : World}

theorem val_eq {n base : Nat} {t : TypeId} {ty : Ty} {v : Value} (h : tyOf P n t = some ty) (hok : Value.okWide P W .any base t v) : mkV ty v.cells.toList = v := by
  cases n with
  | zero => simp [tyOf] at h
  | succ n =>
    simp only [tyOf] at h
    unfold Value.okWide at hok
    cases hu : P.underlying t with
    | none => simp [hu] at h
    | some desc =>
      rw [hu] at h hok
      cases desc with
      | struct fs =>
        obtain ⟨cs, rfl, _⟩ := hok
        simp only at h
        split at h <;> try (simp at h; done)
        split at h <;> simp at h
        subst h
        simp [mkV, Value.cells]
      | array m e =>
        obtain ⟨cs, rfl, _⟩ := hok
        simp only at h
        split at h <;> try (simp at h; done)
        split at h <;> simp at h
        subst h
        simp [mkV, Value.cells]
      | slice e =>
        simp only at h
        split at h <;> try (simp at h; done)
        split at h <;> simp at h
        subst h
        cases v <;> first | rfl | (simp [Cell.okWide, Cell.ok, hu] at hok)
      | bool => simp at h; subst h; cases v <;> first | rfl | (simp [Cell.okWide, Cell.ok, hu] at hok)
      | int k => simp at h; subst h; cases v <;> first | rfl | (simp [Cell.okWide, Cell.ok, hu] at hok)
      | string => simp at h; subst h; cases v <;> first | rfl | (simp [Cell.okWide, Cell.ok, hu] at hok)
      | _ => simp at h

def tysOf (P : Program) (n : Nat) : List TypeId → Option (List Ty)
  | [] => some []
  | t :: ts =>
    match tyOf P n t, tysOf P n ts with
    | some a, some l => some (a :: l)
    | _, _ => none

theorem args_rel (hG : ∀ b o, b < W.heap.size → G.imm b o) {n base : Nat} {held : Bool} : ∀ {ts : List TypeId} {vs : List Value} {ds : List (DataW H)} {ps : List MemPlace} {tys : List Ty}, tysOf P n ts = some tys →
    DataW.TrodAll enc P W 0 (fun _ => true) held ts vs ds ps → pAll W ps → (∀ (j : Nat) t d, ts[j]? = some t → ds[j]? = some d → wAll P d t) →
    (∀ (j : Nat) t v, ts[j]? = some t → vs[j]? = some v → Value.okWide P W .any base t v) → ∃ dvs, ShL tys dvs ∧ VRelL G W dvs vs []
  | [], vs, ds, ps, tys, hty, h, _, _, _ => by
    obtain ⟨rfl, rfl, rfl⟩ := trodAll_nil h
    simp only [tysOf, Option.some.injEq] at hty
    subst hty
    exact ⟨[], by simp [ShL], VRelL.nil⟩
  | t :: ts, vs, ds, ps, tys, hty, h, hp, hw, hv => by
    obtain ⟨v, vs', d, ds', p, q, rfl, rfl, rfl, h1, h2⟩ := trodAll_cons h
    simp only [tysOf] at hty
    split at hty
    · rename_i a l ha hl
      simp only [Option.some.injEq] at hty
      subst hty
      obtain ⟨fuel, hf⟩ := h1
      obtain ⟨dv, s1, s2, _⟩ := (trod_rel hG n t a ha fuel _ _ _ hf (fun x hx => hp x (List.mem_append_left _ hx)) (hw 0 t d rfl rfl)).mk
      rw [val_eq ha (hv 0 t v rfl rfl)] at s2
      obtain ⟨dvs, r1, r2⟩ := args_rel hG hl h2 (fun x hx => hp x (List.mem_append_right _ hx)) (fun j t' d' a b => hw (j + 1) t' d' (by simpa using a) (by simpa using b)) (fun j t' v' a b => hv (j + 1) t' v' (by simpa using a) (by simpa using b))
      exact ⟨dv :: dvs, by simp only [ShL]; exact ⟨dv, dvs, rfl, s1, r1⟩, by simpa using VRelL.cons s2 r2⟩
    · simp at hty

theorem args_below {W' : World} (hl : laidOutB P = true) (hb : Below W.heap.size W W') : ∀ {ts : List TypeId} {vs : List Value} {ds : List (DataW H)} {ps : List MemPlace}, (∀ t ∈ ts, P.readableRec t = true ∧ t < P.types.size) →
    DataW.TrodAll enc P W 0 (fun _ => true) true ts vs ds ps → pAll W ps → DataW.TrodAll enc P W' 0 (fun b => decide (b < W.heap.size)) true ts vs ds ps
  | [], vs, ds, ps, _, h, _ => by
    obtain ⟨rfl, rfl, rfl⟩ := trodAll_nil h
    rfl
  | t :: ts, vs, ds, ps, hr, h, hp => by
    obtain ⟨v, vs', d, ds', p, q, rfl, rfl, rfl, h1, h2⟩ := trodAll_cons h
    exact ⟨p, q, Below.trod hl (hr t (by simp)).1 (hr t (by simp)).2 h1 hb (fun x hx => hp x (List.mem_append_left _ hx)), args_below hl hb (fun t' ht' => hr t' (by simp [ht'])) h2 (fun x hx => hp x (List.mem_append_right _ hx)), rfl⟩

theorem trodAll_len {w : World} {base : Nat} {sp : Nat → Bool} {held : Bool} : ∀ {ts : List TypeId} {vs : List Value} {ds : List (DataW H)} {ps : List MemPlace}, DataW.TrodAll enc P w base sp held ts vs ds ps → ds.length = ts.length
  | [], vs, ds, ps, h => by obtain ⟨rfl, rfl, rfl⟩ := trodAll_nil h; rfl
  | t :: ts, vs, ds, ps, h => by
    obtain ⟨v, vs', d, ds', p, q, rfl, rfl, rfl, _, h2⟩ := trodAll_cons h
    simp [trodAll_len h2]

/-- A LAW THAT THE EVALUATOR FINDS TRUE, IN THE ROW's FORM. -/
theorem law_lifted {C : Checked} {os : Os} {f : FuncId} {fn : Func} {s : ChangeSpec} {tys : List Ty} {fns : FuncId → Option FnIR} {N d n : Nat}
    (own : ownKnob C.prog.godebug = none) (started : os.Started) (noInit : C.prog.inits.idxOf? f = none) (hfn : C.prog.funcs[f]? = some fn)
    (witness : ∃ (w : World) (tape : Tape) (i : Input), w.os = os ∧ (w.forCall tape i).Shaped C.prog ∧ i.vars = [] ∧ Input.okWide C.prog (w.forCall tape i) .any w.heap.size f i ∧
      s.pre6 enc C.prog fn [] false (w.forCall tape i).memory i.args ∧ ({} : Assume).holds C.prog (lone (Frame.enter C.prog f i.args .normal) [] (w.forCall tape i)))
    (hv : s.vars = []) (hs : ∀ ds : List (DataW H), ds.length = fn.params.size → s.fn H ds = { results := [.lit (.bool true)], args := ds })
    (hl : laidOutB C.prog = true) (hread : fn.params.toList.all (fun t => C.prog.readableRec t && decide (t < C.prog.types.size)) = true)
    (htys : tysOf C.prog n fn.params.toList = some tys) (hres0 : fn.resultTypes.toList.map C.prog.underlying = [some .bool])
    (hfns : ∀ f fi, fns f = some fi → okFn C.prog f fi = true)
    (law : ∀ ds, ShL tys ds → ∃ h', evalCall fns N d f ds [] = .ok (.sc (.bool true)) h') :
    ReturnsInHanded {} C os f .any (s.pre6 enc C.prog fn [] false) (s.post enc C.prog fn false true false false) := by
  refine returnsInHanded_of_change_sized (C := C) own started noInit hfn witness ?_
  intro W base args ds gs before hval hW _ hsz _
  obtain ⟨tb, hres, hb⟩ : ∃ tb, fn.resultTypes = #[tb] ∧ C.prog.underlying tb = some .bool := by
    rcases hr : fn.resultTypes with ⟨l⟩
    rw [hr] at hres0
    cases l with
    | nil => simp at hres0
    | cons t l =>
      cases l with
      | nil => exact ⟨t, rfl, by simpa using hres0⟩
      | cons u l => simp at hres0
  have hW' := hW
  obtain ⟨p, q, hA, hV, rfl, hfz, hnd⟩ := hW
  rw [hv] at hV
  obtain ⟨rfl, rfl⟩ := trodVars_none hV
  have hp : pAll W p := fun x hx => by simpa using hW'.lt x (List.mem_append_left _ hx)
  have hw : ∀ (j : Nat) t d, fn.params.toList[j]? = some t → ds[j]? = some d → wAll C.prog d t := by
    intro j t d ht hd x hx
    have hm := DataW.weights_mem_each (P := C.prog) (ts := fn.params.toList ++ s.plain.varTypes C.prog) (ds := ds ++ []) (j := j) (t := t) (d := d)
      (by rw [List.getElem?_append_left (List.getElem?_eq_some_iff.1 ht).1]; exact ht) (by rw [List.append_nil]; exact hd) x hx
    simpa using List.all_eq_true.1 hsz x hm
  let G : Ghost := { B := W.heap.size, imm := fun b _ => b < W.heap.size, hb := [] }
  obtain ⟨dvs, s1, s2⟩ := args_rel (G := G) (fun b o h => h) htys hA hp hw (fun j t v ht hv => hval j t v (by simpa using ht) (by simpa using hv))
  obtain ⟨h', hlaw⟩ := law dvs s1
  have hok : WOk G (fun _ => none) W := ⟨Nat.le_refl _, fun b o h => h, fun x hx => absurd rfl hx⟩
  have hH : HRel G (fun _ => none) W [] := ⟨rfl, fun b cs h => by simp at h⟩
  have key := ((fn_ok hfns N d f dvs [] G (fun _ => none) W args.toList hok hH s2).1 _ _ hlaw).2
  simp only [Array.toArray_toList] at key
  refine key.mono fun e W' ⟨u, he, r, G', hw', hu, _, _, _, _, hc⟩ => ?_
  subst he
  simp only [VRel] at hu
  obtain ⟨rfl, _, _⟩ := hu
  have hB : Below W.heap.size W W' := ⟨hc.os, hc.tape, hc.output, hc.size, fun k hk => (hc.keep k hk rfl (by simp)).1⟩
  have hlen : (ds ++ ([] : List (DataW H))).length = fn.params.size := by
    have := trodAll_len hA
    simpa using this
  refine ⟨_, rfl, ds, [], p ++ [], [], p, [], hW', ?_, ?_, ?_, hB.frame _, fun h => by cases h⟩
  · rw [hs _ hlen, hres]
    exact trodAll_mk1 ⟨1, by simp [DataW.trod, hb, Value.cells]⟩
  · rw [hs _ hlen, List.append_nil]
    exact args_below hl hB (fun t ht => by simpa using List.all_eq_true.1 hread t ht) hA hp
  · rw [hv]
    rw [hs _ hlen]
    rfl

end
end Go.D
