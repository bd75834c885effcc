/- Slices written out; 'make'. -/
import Derived.Test.YtilfhbpehgklbaaQqCallP
set_option linter.unusedSimpArgs false
set_option linter.unusedVariables false
namespace Go.D

section
variable {P : Program} {F : Fr} {E : Entry} {G : Ghost} {hw : HW} {ew : EW} {bx : Nat → Option Nat} {a : Act} {w : World} {s : St} {o : Oper}

theorem rep_elems {sz : Nat} {z : Value} (hs : z.cells.size = sz) (ho : Ones z.cells.toList) : ∀ ds : List DV, (∀ d ∈ ds, VRel G w d z []) → ElemsL G w sz ds (List.replicate ds.length z.cells.toList).flatten
  | [], _ => by simp [ElemsL]
  | d :: ds, hd => by
    rw [List.length_cons, List.replicate_succ, List.flatten_cons]
    simp only [ElemsL]
    exact ⟨z, _, rfl, hd d (by simp), hs, ho, rep_elems hs ho ds (fun x hx => hd x (by simp [hx]))⟩

theorem rep_cells {cs : List DV} {l : List Value} (h : VRelL G w cs l []) : ∀ n, VRelL G w (List.replicate n cs).flatten (List.replicate n l).flatten []
  | 0 => by simp [VRelL]
  | n + 1 => by
    rw [List.replicate_succ, List.replicate_succ, List.flatten_cons, List.flatten_cons]
    exact VRelL.append (ra := []) (rb := []) h (rep_cells h n)

/-- The elements of a slice that is written out: places, one behind the other. -/
def okEls (F : Fr) : List Src → List (Nat × Operand) → List Nat → Bool
  | [], [], [] => true
  | src :: ss, (i, x) :: xs, p :: ps => okSrcN F src x && i == p && okEls F ss xs ps
  | _, _, _ => false

theorem fillEl_rel (hS : SRel F E G hw ew bx a w s) {sz : Nat} (h1 : 1 ≤ sz) : ∀ (srcs : List Src) (xs : List (Nat × Operand)) (ps : List Nat) (acc : List DV) (cells : Array Value) (l : List DV),
    okEls F srcs xs ps = true → ElemsL G w sz acc cells.toList → (srcs.map fun x => (readS s x).2).all (fun x => (cellsOf x).length == sz) = true → fillEl acc ps (stripL (srcs.map fun x => (readS s x).2)) = some l →
    ∃ cells', Instr.fill (fun i => some (i * sz, sz)) cells (xs.map fun x => (x.1, a.eval x.2)) = some cells' ∧ ElemsL G w sz l cells'.toList ∧ l.length = acc.length
  | [], [], [], acc, cells, l, _, he, _, hf => by
    simp [fillEl, stripL] at hf; subst hf
    exact ⟨cells, rfl, he, rfl⟩
  | src :: ss, (i, x) :: xs, p :: ps, acc, cells, l, hok, he, hall, hf => by
    simp only [okEls, Bool.and_eq_true, beq_iff_eq] at hok
    obtain ⟨⟨hsrc, rfl⟩, hrest⟩ := hok
    simp only [List.map_cons, stripL, fillEl] at hf
    simp only [List.map_cons, List.all_cons, Bool.and_eq_true, beq_iff_eq] at hall
    split at hf
    · rename_i hi
      obtain ⟨r, hr⟩ := peek hS hsrc
      have hnl : ∀ p q, (readS s src).2 ≠ .lref p q := fun p q e => by rw [e] at hall; simp [cellsOf] at hall; omega
      have hv := hr.v hnl
      obtain ⟨_, hsz, hone⟩ := hv.cells_n hall.1 h1
      have hset := he.set hi (VRel.strip _ hv) hsz hone
      have hcl := he.length
      have hlt : i * sz + sz ≤ cells.size := by
        have : (i + 1) * sz ≤ acc.length * sz := Nat.mul_le_mul_right _ hi
        rw [Nat.add_mul] at this
        simp only [Array.length_toList] at hcl; omega
      have hcells : ((a.eval x).cells.zipIdx.foldl (fun cs (c, j) => cs.setIfInBounds (i * sz + j) c) cells).toList = cells.toList.take (i * sz) ++ (a.eval x).cells.toList ++ cells.toList.drop (i * sz + (a.eval x).cells.toList.length) := by
        rw [← Array.foldl_toList, Array.toList_zipIdx]
        have := foldl_set (i * sz) (a.eval x).cells.toList 0 cells (by simp only [Array.length_toList]; omega)
        simpa using this
      obtain ⟨cells', k1, k2, k3⟩ := fillEl_rel hS h1 ss xs ps _ _ l hrest (by rw [hcells]; exact hset) hall.2 hf
      refine ⟨cells', ?_, k2, by rw [k3]; simp⟩
      simp only [List.map_cons, Instr.fill]
      rw [if_neg (by simp [hsz]; omega)]
      exact k1
    · simp at hf
  | [], _ :: _, _, _, _, _, hok, _, _, _ => by simp [okEls] at hok
  | [], [], _ :: _, _, _, _, hok, _, _, _ => by simp [okEls] at hok
  | _ :: _, [], _, _, _, _, hok, _, _, _ => by simp [okEls] at hok
  | _ :: _, _ :: _, [], _, _, _, hok, _, _, _ => by simp [okEls] at hok

def okZero (P : Program) (e : TypeId) (sz : Nat) : Bool :=
  match P.info? e with
  | some i => i.size == sz && (match i.zero with | some z => z.cells.size == sz && z.cells.toList.all (·.oneCell') | none => false)
  | none => false

def zeroIs (P : Program) (e : TypeId) (d : DV) : Bool := match P.info? e with | some i => (match i.zero with | some z => okConst d z | none => false) | none => false
def zeroCellsAre (P : Program) (e : TypeId) (ds : List DV) : Bool := match P.info? e with | some i => (match i.zero with | some z => okConstL ds z.cells.toList | none => false) | none => false

theorem okZero_spec {e : TypeId} {sz : Nat} (h : okZero P e sz = true) : ∃ i z, P.info? e = some i ∧ i.zero = some z ∧ i.size = sz ∧ z.cells.size = sz ∧ Ones z.cells.toList := by
  unfold okZero at h
  cases hi : P.info? e with
  | none => simp [hi] at h
  | some i =>
    cases hz : i.zero with
    | none => simp [hi, hz] at h
    | some z =>
      simp only [hi, hz, Bool.and_eq_true, beq_iff_eq, List.all_eq_true] at h
      exact ⟨i, z, rfl, hz, h.1, h.2.1, h.2.2⟩

theorem step_buildSl (hF : F.WF) (hS : SRel F E G hw ew bx a w s) {i : Nat} {D : Dst} (hD : okDst F i o.dst D = true) {ins : List Src} (hn : (movedL ins).Nodup) {adr : DV} {t e : TypeId} {len sz : Nat} {parts : Array (Nat × Operand)} {zero : List DV} {ps : List Nat}
    (ho : o.op = .buildSlice t len parts) (hu : P.underlying t = some (.slice e)) (hz : okZero P e sz = true) (h1 : 1 ≤ sz) (hlen : len * sz ≤ 2 ^ 24) (hzd : zero.all (zeroIs P e) = true) (hzero : zero.length = len)
    (hok : okEls F ins parts.toList ps = true) (hall : (ins.map fun x => (readS s x).2).all (fun x => (cellsOf x).length == sz) = true) {l : List DV} (hf : fillEl zero ps (stripL (ins.map fun x => (readS s x).2)) = some l) :
    StepRes P F E o a w (writeD i D (.sl (if l.isEmpty then .full else .own) sz l) { (ins.foldl (moveS (.buildSl sz zero ps) adr) s) with heap := s.heap }) := by
  obtain ⟨it, z, hi, hzz, hs, hzs, hone⟩ := okZero_spec hz
  have hzd' : ∀ d ∈ zero, VRel G w d z [] := fun d hd => by
    rw [List.all_eq_true] at hzd
    have := hzd d hd
    simp only [zeroIs, hi, hzz] at this
    exact okConst_rel _ this
  have hm : (madeCells z.cells (len * sz)).toList = (List.replicate len z.cells.toList).flatten := by rw [← hzs]; exact madeCells_flat z.cells len
  have he : ElemsL G w sz zero (madeCells z.cells (len * sz)).toList := by rw [hm, ← hzero]; exact rep_elems hzs hone zero hzd'
  obtain ⟨cells', k1, k2, k3⟩ := fillEl_rel hS h1 ins parts.toList ps zero _ l hok he hall hf
  have hll : l.length = len := by rw [k3, hzero]
  have hnl : ¬ (len * sz > 2 ^ 24) := by omega
  have hparts : (parts.map fun x => (x.1, a.eval x.2)).toList = parts.toList.map fun x => (x.1, a.eval x.2) := by simp
  have hrun : (Instr.buildSlice t len (parts.map fun x => (x.1, a.eval x.2))).run P w = .ok (.slice (some ⟨w.heap.size, 0, none⟩) len len) (w.alloc (.cells cells' e)) := by
    by_cases h0 : len * sz = 0
    · have k1' := k1
      simp only [madeCells, h0] at k1'
      simp only [Instr.buildSlice, Sem.run_bind, run_underlying hu, Result.andThen_ok, run_sizeOf' hi, hs, h0]
      simp [Array.range_zero', newRow] at k1' ⊢
      simp [k1']
    · have k1' := k1
      simp only [madeCells] at k1'
      simp only [Instr.buildSlice, Sem.run_bind, run_underlying hu, Result.andThen_ok, run_sizeOf' hi, hs, Sem.run_ite, hnl, if_false, h0, Sem.run_pure, zeroValue, typeInfo, run_program, hi, hzz]
      simp only [hparts, k1', newRow, Sem.run_bind, run_newObj, Result.andThen_ok, Sem.run_pure, World.alloc_eq]
  cases l with
  | nil =>
    have h0 : len = 0 := by simpa using hll.symm
    subst h0
    refine step_row0 hF hS hD (fun d => by cases d <;> rfl) hn (l := cells'.toList) (e := e) ?_
    simp [execOp, ho, hrun]
  | cons x l =>
    refine step_row hF hS hD (fun d => by cases d <;> rfl) hn (l := cells'.toList) (e := e) ?_ k2
    rw [hll]
    simp [execOp, ho, hrun]

theorem step_mkSl (hF : F.WF) (hS : SRel F E G hw ew bx a w s) {i : Nat} {D : Dst} (hD : okDst F i o.dst D = true) {ins : List Src} (hn : (movedL ins).Nodup) {adr : DV} {t e : TypeId} {sz bytes : Nat} {ag : Bool} {zero : List DV} {x y : Operand}
    (ho : o.op = .makeSlice t x y) (hu : P.underlying t = some (.slice e)) (hz : okZero P e sz = true) (hby : P.bytesOf e = bytes) (hzd : zeroCellsAre P e zero = true) {k k' : IntKind} {n : Int} (hx : a.eval x = .int k n) (hy : a.eval y = .int k' n)
    (h0 : 0 ≤ n) (hroom : n * (bytes + sz + 1) ≤ (room : Int)) :
    StepRes P F E o a w (writeD i D (.hsl s.heap.length 0 n.toNat n.toNat sz ag) { (ins.foldl (moveS (.mkSl sz bytes ag zero) adr) s) with heap := s.heap ++ [(List.replicate n.toNat zero).flatten] }) := by
  obtain ⟨it, z, hi, hzz, hs, hzs, hone⟩ := okZero_spec hz
  simp only [zeroCellsAre, hi, hzz] at hzd
  have hb : it.bytes = bytes := by simpa [Program.bytesOf, hi] using hby
  have hm : (madeCells z.cells (n.toNat * it.size)).toList = (List.replicate n.toNat z.cells.toList).flatten := by rw [hs, ← hzs]; exact madeCells_flat z.cells n.toNat
  have hr1 : (it.bytes : Int) * n ≤ 281474976710656 := by
    have h2 : n * (bytes : Int) ≤ n * (bytes + sz + 1) := Int.mul_le_mul_of_nonneg_left (by omega) h0
    rw [hb, Int.mul_comm]
    simp only [room] at hroom; omega
  have hr2 : n ≤ 9223372036854775807 := by
    have h2 : n * 1 ≤ n * (bytes + sz + 1) := Int.mul_le_mul_of_nonneg_left (by omega) h0
    simp only [room] at hroom; omega
  have hrun := run_make (P := P) w t e it z hu hi hzz k k' n n h0 (Int.le_refl _) hr1 hr2
  refine step_mk hF hS hD (fun d => by cases d <;> rfl) hn (l := (madeCells z.cells (n.toNat * it.size)).toList) (e := e) (Nat.le_refl _) (pm := 0) ?_ ?_ ?_
  · simp [execOp, ho, hx, hy, hrun]
  · rw [hm, pad, List.replicate_zero, List.append_nil]; exact rep_cells (okConstL_rel _ hzd) _
  · rw [hm]
    intro u hu'
    simp only [List.mem_flatten, List.mem_replicate] at hu'
    obtain ⟨l, ⟨_, rfl⟩, hu'⟩ := hu'
    exact hone u hu'

theorem VRelL.junk : ∀ {n : Nat} {l : List Value}, l.length = n → VRelL G w (pad n) l []
  | 0, [], _ => by simp [pad, VRelL]
  | 0, _ :: _, h => by simp at h
  | n + 1, [], h => by simp at h
  | n + 1, v :: l, h => by
    have := VRelL.cons (d := .junk) (v := v) (r₁ := []) (by simp [VRel]) (VRelL.junk (n := n) (l := l) (by simpa using h))
    simpa [pad, List.replicate_succ] using this

theorem ones_zeroCells {z : Array Value} (h : ∀ u ∈ z.toList, u.oneCell' = true) (n : Nat) : Ones (Builtin.zeroCells z n).toList := by
  intro u hu
  simp only [Builtin.zeroCells, Array.toList_map, List.mem_map, Array.toList_range, List.mem_range] at hu
  obtain ⟨i, hi, rfl⟩ := hu
  have hz : 0 < z.size := by
    rcases Nat.eq_zero_or_pos z.size with h | h
    · rw [h] at hi; simp at hi
    · exact h
  have hlt : i % z.size < z.size := Nat.mod_lt _ hz
  rw [getElem!_pos z (i % z.size) hlt]
  exact h _ (by simp)

/-- An append to a slice without room, into the evaluator's heap. -/
theorem step_appH (hF : F.WF) (hS : SRel F E G hw ew bx a w s) {i : Nat} {D : Dst} (hD : okDst F i o.dst D = true) {op : DOp} {adr : DV} (hb : ∀ d, back op d adr = strip d) {ins : List Src} (hn : (movedL ins).Nodup)
    {t u e : TypeId} {it : TypeInfo} {z : Value} {sz : Nat} {ag : Bool} (hu : P.underlying t = some (.slice e)) (hi : P.info? e = some it) (hz : it.zero = some z) (hzs : z.cells.size = sz) (hzo : ∀ u ∈ z.cells.toList, u.oneCell' = true) (hs : it.size = sz) (h1 : 1 ≤ sz) (hni : notInt P u = true)
    {x y : Operand} (ho : o.op = .call { callee := .builtin .append, args := #[x, y], argTypes := #[t, u] })
    {ys : List DV} {r : List Nat} (hx : VRel G w (.sl .full sz []) (a.eval x) r)
    {news : List Value} (hy : Gives P G w (a.eval y) sz ys news) (hroom : ys.length * (it.bytes + 1) ≤ room) (hall : (ys.all (fun x => (cellsOf x).length == sz)) = true) :
    (ys = [] → StepRes P F E o a w (writeD i D (.sl .view sz []) { (ins.foldl (moveS op adr) s) with heap := s.heap })) ∧
    (ys ≠ [] → StepRes P F E o a w (writeD i D (.hsl s.heap.length 0 ys.length ys.length sz ag) { (ins.foldl (moveS op adr) s) with heap := s.heap ++ [ys.flatMap cellsOf] })) := by
  have hl := moves_len op adr ins s
  obtain ⟨d1, d2, d3⟩ := okDst_spec hD
  simp only [VRel, List.length_nil] at hx
  obtain ⟨ad, cap, hval, _, hrel⟩ := hx
  have hcap : cap = 0 := by
    rcases hrel with ⟨_, h, _⟩ | ⟨rb, off, _, _, h⟩
    · exact h
    · simp only [MRel] at h; exact h.2
  subst hcap
  have exec : ∀ v' w', (∀ ty, (Builtin.append_ #[t, u] ty #[a.eval x, a.eval y]).run P w = .ok v' w') → (execOp a.eval o).run P w = .ok (.value v') w' := by
    intro v' w' h
    simp [execOp, ho, resolve, invoke, builtin, h]
  refine ⟨fun hys => ?_, fun hys => ?_⟩
  · subst hys
    have hrun := exec _ _ (fun ty => run_app_same (w := w) hu hi hs hni hval hy (Nat.le_refl _) ty)
    obtain ⟨ew', h⟩ := SRel.finish hF hS (movedL ins) [] (D.loc i) o.dst (by simp) (CPres.refl hS.ok []) hS.heap hl.1 hl.2.1 (fun l h => moves_other op adr ins s l h) (moved_stays hS hb hn []) d1 d2 d3
      (bx' := bx) (fun _ _ => rfl) (fun _ _ _ _ => rfl) (d := .sl .view sz []) (v := .slice ad 0 0) (r := [])
      (by refine .of ?_; simp only [VRel]; exact ⟨_, _, rfl, by simp, .inl ⟨rfl, rfl, trivial⟩⟩) (by simp) (by simp) (fun cs h => by simp at h)
    exact ⟨_, _, G, hw, ew', bx, .inl hrun, writeD_finish h⟩
  · have hyl : 0 < ys.length := List.length_pos_iff.2 hys
    obtain ⟨nc, hnc, hrun⟩ := run_app_grow (w := w) hu hi hz hs hni hval hy (olds := []) (fun w' _ => by rw [hval]; cases ad <;> simp [Builtin.firstCells, loadCells, loadCellsFrom]) (by omega) (by simpa using hroom)
    replace hrun := exec _ _ hrun
    simp only [List.nil_append, Nat.zero_add] at hrun hnc
    have hvl := elems_cells h1 hy.el hall
    refine step_mk (w1 := w.drew) hF (hS.drew _) hD hb hn (l := news ++ (Builtin.zeroCells z.cells (nc - ys.length)).toList) (e := e) hnc (pm := (Builtin.zeroCells z.cells (nc - ys.length)).size) hrun ?_ (hy.el.ones.append (ones_zeroCells hzo _))
    exact VRelL.append (ra := []) (rb := []) (VRelL.mono (CPres.drew hS.ok []).mono _ hvl Stays.nil) (VRelL.junk (by simp))

end
end Go.D
