/- The rest of the operations that turn nothing in memory. -/
import Derived.Test.YtilfhbpehgklbaaQqEq
import Derived.Laws.Build
set_option linter.unusedSimpArgs false
set_option linter.unusedVariables false
namespace Go.D

section
variable {P : Program} {F : Fr} {E : Entry} {G : Ghost} {hw : HW} {ew : EW} {bx : Nat → Option Nat} {a : Act} {w : World} {s : St} {o : Oper}

theorem eqL_eqV : ∀ {ks : List Nat} {xs ys : List DV} {l m : List Value} {r r' : List Nat} {b : Bool}, eqL ks xs ys = some b → VRelL G w xs l r → VRelL G w ys m r' → eqV ks l m = some b
  | [], [], [], l, m, _, _, b, h, hx, hy => by
    simp only [VRelL] at hx hy
    simp [eqL] at h; subst h
    rw [hx.1, hy.1]; rfl
  | k :: ks, x :: xs, y :: ys, l, m, _, _, b, h, hx, hy => by
    cases x <;> cases y <;> try (simp [eqL] at h; done)
    rename_i x y
    simp only [eqL] at h
    simp only [VRelL, VRel] at hx hy
    obtain ⟨v, vs, r₁, r₂, rfl, rfl, ⟨rfl, _, rfl⟩, hx⟩ := hx
    obtain ⟨u, us, q₁, q₂, rfl, rfl, ⟨rfl, _, rfl⟩, hy⟩ := hy
    simp only [eqV]
    cases h1 : eqV1 k v u with
    | none => simp [h1] at h
    | some c =>
      cases h2 : eqL ks xs ys with
      | none => simp [h1, h2] at h
      | some d =>
        rw [eqL_eqV h2 hx hy]
        simpa [h1, h2] using h
  | [], [], _ :: _, _, _, _, _, _, h, _, _ => by simp [eqL] at h
  | [], _ :: _, _, _, _, _, _, _, h, _, _ => by simp [eqL] at h
  | k :: ks, [], ys, _, _, _, _, _, h, _, _ => by simp [eqL] at h
  | k :: ks, x :: xs, [], _, _, _, _, _, h, _, _ => by cases x <;> simp [eqL] at h

theorem pure_eqA (hS : SRel F E G hw ew bx a w s) {s0 s1 : Src} {op : BinOp} {t yt : TypeId} {x y : Operand} (h0 : okSrcN F s0 x = true) (h1 : okSrcN F s1 y = true)
    {neg : Bool} (ho : o.op = .binOp op t x y yt) (hop : op = if neg then .neq else .eql) {ks : List Nat} {dp : Nat} (ht : flatK P dp t = some ks) (hdp : dp ≤ 10000) (hag : aggOf P t = some true)
    (hg : P.eqGuardType P.depth t = false) {xs ys : List DV} (hu : (readS s s0).2 = .agg xs) (hv : (readS s s1).2 = .agg ys) {b : Bool} (hz : eqL ks xs ys = some b) (M : List ELoc) :
    PureRes P o a w G bx ew M (.sc (.bool (if neg then !b else b))) := by
  obtain ⟨r, e0⟩ := peek_v hS h0 hu (by simp)
  obtain ⟨r', e1⟩ := peek_v hS h1 hv (by simp)
  simp only [VRel] at e0 e1
  obtain ⟨l, hl, e0, _⟩ := e0
  obtain ⟨m, hm, e1, _⟩ := e1
  have he := (run_equalIn_flat (P := P) (w := w) dp).1 t ks ht 10000 hdp true hag l m b (eqL_eqV hz e0 e1)
  simp only [ofL, if_true] at he
  refine PureRes.sc rfl ?_
  have hgd := run_eqGuard_agg (P := P) w op t x y l.toArray m.toArray hg
  cases neg with
  | true =>
    simp only [if_true] at hop ⊢
    subst hop
    simp only [execOp, ho, hl, hm, Sem.run_bind, hgd, Result.andThen_ok, run_neq_struct, he, Sem.run_pure]
  | false =>
    simp only [Bool.false_eq_true, if_false] at hop ⊢
    subst hop
    simp only [execOp, ho, hl, hm, Sem.run_bind, hgd, Result.andThen_ok, run_eql_struct, he, Sem.run_pure]

/-- The parts of a struct, one behind the other. -/
def okParts (F : Fr) (place : Nat → Option (Nat × Nat)) : List Src → List (Nat × Operand) → List (Nat × Nat) → Bool
  | [], [], [] => true
  | src :: ss, (i, x) :: xs, p :: ps => okSrcN F src x && place i == some p && decide (1 ≤ p.2) && okParts F place ss xs ps
  | _, _, _ => false

theorem foldl_set (off : Nat) : ∀ (l : List Value) (k : Nat) (cs : Array Value), off + k + l.length ≤ cs.size →
    ((l.zipIdx k).foldl (fun cs (x : Value × Nat) => cs.setIfInBounds (off + x.2) x.1) cs).toList = cs.toList.take (off + k) ++ l ++ cs.toList.drop (off + k + l.length)
  | [], k, cs, h => by simp
  | x :: l, k, cs, h => by
    simp only [List.zipIdx_cons, List.foldl_cons, List.length_cons] at h ⊢
    have hk : off + k < cs.toList.length := by simp; omega
    rw [foldl_set off l (k + 1) _ (by simp; omega), Array.toList_setIfInBounds]
    have e1 : (cs.toList.set (off + k) x).take (off + (k + 1)) = cs.toList.take (off + k) ++ [x] := by
      rw [List.take_set, show off + (k + 1) = off + k + 1 by omega, List.take_succ_eq_append_getElem hk, List.set_append_right _ _ (by simp; omega)]
      have : off + k - (cs.toList.take (off + k)).length = 0 := by simp; omega
      rw [this]; rfl
    have e2 : (cs.toList.set (off + k) x).drop (off + (k + 1) + l.length) = cs.toList.drop (off + (k + 1) + l.length) := by
      rw [List.drop_set_of_lt (by omega)]
    rw [e1, e2, show off + (k + 1) + l.length = off + k + (l.length + 1) by omega]
    simp

theorem fill_rel (hS : SRel F E G hw ew bx a w s) (place : Nat → Option (Nat × Nat)) : ∀ (srcs : List Src) (xs : List (Nat × Operand)) (ps : List (Nat × Nat)) (acc : List DV) (cells : Array Value) (r : List Nat) (L : List ELoc) (cs : List DV),
    okParts F place srcs xs ps = true → VRelL G w acc cells.toList r → Ones cells.toList → r.Nodup → (∀ b ∈ r, ∃ l ∈ L, ew b = some l) → (∀ l ∈ L, l ∉ movedL srcs) → (movedL srcs).Nodup →
    fillC acc ps (srcs.map fun x => hand (readS s x)) = some cs →
    ∃ cells' r', Instr.fill place cells (xs.map fun x => (x.1, a.eval x.2)) = some cells' ∧ VRelL G w cs cells'.toList r' ∧ Ones cells'.toList ∧ r'.Nodup ∧ ∀ b ∈ r', ∃ l, (l ∈ L ∨ l ∈ movedL srcs) ∧ ew b = some l
  | [], [], [], acc, cells, r, L, cs, _, hv, hone, hn, ho, _, _, hf => by
    simp [fillC] at hf; subst hf
    exact ⟨cells, r, rfl, hv, hone, hn, fun b hb => by obtain ⟨l, h1, h2⟩ := ho b hb; exact ⟨l, .inl h1, h2⟩⟩
  | src :: ss, (i, x) :: xs, (off, n) :: ps, acc, cells, r, L, cs, hok, hv, hone, hn, ho, hL, hM, hf => by
    simp only [okParts, Bool.and_eq_true, beq_iff_eq, decide_eq_true_eq] at hok
    obtain ⟨⟨⟨hsrc, hpl⟩, hpos⟩, hrest⟩ := hok
    simp only [List.map_cons, fillC] at hf
    split at hf
    · rename_i hcond
      obtain ⟨hlen, hoff⟩ := hcond
      obtain ⟨r1, h1, h2, h3, h4⟩ := handed hS hsrc
      have hnl : ∀ p q, hand (readS s src) ≠ .lref p q := fun p q e => by rw [e] at hlen; simp [cellsOf] at hlen; omega
      obtain ⟨hc, hsz, hones⟩ := (h1.v hnl).cells_n hlen hpos
      obtain ⟨ra, rm, rb, er, hset⟩ := hv.set hc (off := off)
      have hal := hv.length
      have hfill : Instr.fill place cells ((i, a.eval x) :: xs.map fun x => (x.1, a.eval x.2)) =
          Instr.fill place ((a.eval x).cells.zipIdx.foldl (fun cs (c, j) => cs.setIfInBounds (off + j) c) cells) (xs.map fun x => (x.1, a.eval x.2)) := by
        simp only [Instr.fill, hpl]
        rw [if_neg]
        simp only [Array.length_toList] at hal
        simp [hsz]; omega
      have hcells : ((a.eval x).cells.zipIdx.foldl (fun cs (c, j) => cs.setIfInBounds (off + j) c) cells).toList = cells.toList.take off ++ (a.eval x).cells.toList ++ cells.toList.drop (off + (a.eval x).cells.toList.length) := by
        rw [← Array.foldl_toList, Array.toList_zipIdx]
        have := foldl_set off (a.eval x).cells.toList 0 cells (by simp only [Array.length_toList] at hal ⊢; omega)
        simpa using this
      have hnd : (ra ++ r1 ++ rb).Nodup := by
        have hr : (ra ++ rm ++ rb).Nodup := er ▸ hn
        have hdis : ∀ b ∈ r1, b ∉ r := by
          intro b hb hbr
          obtain ⟨hm, l, hl, he⟩ := h3 b hb
          obtain ⟨l', hl', he'⟩ := ho b hbr
          rw [he] at he'; simp at he'; subst he'
          exact hL l hl' (by simp [movedL, hm, hl])
        rw [er] at hdis
        simp only [List.nodup_append, List.mem_append] at hr hdis ⊢
        obtain ⟨⟨q1, q2, q3⟩, q4, q5⟩ := hr
        refine ⟨⟨q1, h2, fun b hb c hc e => ?_⟩, q4, fun b hb c hc e => ?_⟩
        · subst e; exact hdis b hc (.inl (.inl hb))
        · rcases hb with hb | hb
          · exact q5 b (.inl hb) c hc e
          · subst e; exact hdis b hb (.inr hc)
      have hsub : ∀ b ∈ ra ++ r1 ++ rb, ∃ l, (l ∈ L ∨ (src.mvd = true ∧ src.loc = some l)) ∧ ew b = some l := by
        intro b hb
        simp only [List.mem_append] at hb
        rcases hb with (hb | hb) | hb
        · obtain ⟨l, q1, q2⟩ := ho b (by rw [er]; simp [hb]); exact ⟨l, .inl q1, q2⟩
        · obtain ⟨hm, l, hl, he⟩ := h3 b hb; exact ⟨l, .inr ⟨hm, hl⟩, he⟩
        · obtain ⟨l, q1, q2⟩ := ho b (by rw [er]; simp [hb]); exact ⟨l, .inl q1, q2⟩
      have hM' : (movedL ss).Nodup := by
        unfold movedL at hM
        split at hM
        · simp at hM; exact hM.2
        · exact hM
      let L' : List ELoc := match src.mvd, src.loc with | true, some l => l :: L | _, _ => L
      have hL' : ∀ l, l ∈ L' ↔ (l ∈ L ∨ (src.mvd = true ∧ src.loc = some l)) := by
        intro l
        simp only [L']
        cases hm : src.mvd <;> cases hl : src.loc
        · simp
        · simp
        · simp
        · rename_i l0
          simp only [List.mem_cons]
          constructor
          · rintro (rfl | h)
            · exact .inr ⟨trivial, rfl⟩
            · exact .inl h
          · rintro (h | ⟨_, h⟩)
            · exact .inr h
            · simp at h; exact .inl h.symm
      obtain ⟨cells', r', k1, k2, k2o, k3, k4⟩ := fill_rel hS place ss xs ps _ _ (ra ++ r1 ++ rb) L' cs hrest (by rw [hcells]; exact hset) (by rw [hcells]; exact ((hone.take _).append hones).append (hone.drop _)) hnd
        (fun b hb => by obtain ⟨l, q1, q2⟩ := hsub b hb; exact ⟨l, (hL' l).2 q1, q2⟩)
        (fun l hl => by
          rcases (hL' l).1 hl with h | ⟨hm, hl'⟩
          · exact fun h' => hL l h (loc_moved_tail h')
          · intro h'
            unfold movedL at hM
            simp only [hm, hl'] at hM
            simp at hM
            exact hM.1 h') hM' hf
      refine ⟨cells', r', by rw [List.map_cons]; exact hfill.trans k1, k2, k2o, k3, fun b hb => ?_⟩
      obtain ⟨l, q1, q2⟩ := k4 b hb
      refine ⟨l, ?_, q2⟩
      rcases q1 with q1 | q1
      · rcases (hL' l).1 q1 with h | ⟨hm, hl'⟩
        · exact .inl h
        · exact .inr (loc_moved hm hl' _)
      · exact .inr (loc_moved_tail q1)
    · simp at hf
  | [], _ :: _, _, _, _, _, _, _, hok, _, _, _, _, _, _, _ => by simp [okParts] at hok
  | [], [], _ :: _, _, _, _, _, _, hok, _, _, _, _, _, _, _ => by simp [okParts] at hok
  | _ :: _, [], _, _, _, _, _, _, hok, _, _, _, _, _, _, _ => by simp [okParts] at hok
  | _ :: _, _ :: _, [], _, _, _, _, _, hok, _, _, _, _, _, _, _ => by simp [okParts] at hok

/-- Where the parts of a struct or an array lie. -/
def placeOf (P : Program) (t : TypeId) : Nat → Option (Nat × Nat) :=
  match P.underlying t with
  | some (.array _ e) => fun i => some (i * P.cellsOf e, P.cellsOf e)
  | some (.struct fs) => match fs.toList.mapM (fun f => (P.info? f.type).map fun i => (f.offset, i.size)) with | some places => (places.toArray[·]?) | none => fun _ => none
  | _ => fun _ => none

def okBuild (P : Program) (t : TypeId) (zero : List DV) : Bool :=
  (match P.info? t with | some i => (match i.zero with | some z => okConstL zero z.cells.toList && z.cells.toList.all (·.oneCell') | none => false) | none => false) &&
  (match P.underlying t with
   | some (.array _ e) => (P.info? e).isSome
   | some (.struct fs) => (fs.toList.mapM (fun f => (P.info? f.type).map fun i => (f.offset, i.size))).isSome
   | _ => false)

theorem pure_build (hS : SRel F E G hw ew bx a w s) {srcs : List Src} {t : TypeId} {parts : Array (Nat × Operand)} {zero : List DV} {ps : List (Nat × Nat)} (ho : o.op = .build t parts)
    (hb : okBuild P t zero = true) (hp : okParts F (placeOf P t) srcs parts.toList ps = true) (hM : (movedL srcs).Nodup) {cs : List DV} (hf : fillC zero ps (srcs.map fun x => hand (readS s x)) = some cs) :
    PureRes P o a w G bx ew (movedL srcs) (.agg cs) := by
  simp only [okBuild, Bool.and_eq_true] at hb
  obtain ⟨hz, hu⟩ := hb
  cases hi : P.info? t with
  | none => simp [hi] at hz
  | some i =>
    cases hzz : i.zero with
    | none => simp [hi, hzz] at hz
    | some z =>
      simp only [hi, hzz] at hz
      simp only [Bool.and_eq_true, List.all_eq_true] at hz
      obtain ⟨cells', r', k1, k2, k2o, k3, k4⟩ := fill_rel hS (placeOf P t) srcs parts.toList ps zero z.cells [] [] cs hp (okConstL_rel _ hz.1) hz.2 (by simp) (by simp) (by simp) hM hf
      have hbt : P.built t (parts.toList.map fun x => (x.1, a.eval x.2)) = some cells' := by
        unfold Program.built
        unfold placeOf at k1
        cases hud : P.underlying t with
        | none => simp [hud] at hu
        | some d =>
          cases d <;> try (simp [hud] at hu; done)
          case array n e =>
            cases hie : P.info? e with
            | none => simp [hud, hie] at hu
            | some ie =>
              simp only [hud, Program.cellsOf, hie, Option.map_some, Option.getD_some] at k1
              simpa [hi, hzz, hie] using k1
          case struct fs =>
            cases hpl : fs.toList.mapM (fun f => (P.info? f.type).map fun i => (f.offset, i.size)) with
            | none => rw [hud] at hu; simp only [hpl] at hu; simp at hu
            | some places =>
              simp only [hud, hpl] at k1
              simpa [hi, hzz, hpl] using k1
      refine ⟨.agg cells', r', ?_, ?_, k3, ?_, by simp⟩
      · have : (parts.map fun x => (x.1, a.eval x.2)).toList = parts.toList.map fun x => (x.1, a.eval x.2) := by simp
        rw [← this] at hbt
        have := run_build (P := P) w t _ cells' hbt
        simp [execOp, ho, this]
      · refine XRel.of ?_
        simp only [VRel]; exact ⟨cells'.toList, by simp, k2, k2o⟩
      · intro b hb
        obtain ⟨l, q1, q2⟩ := k4 b hb
        rcases q1 with q1 | q1
        · simp at q1
        · exact ⟨l, q1, q2⟩

end
end Go.D
