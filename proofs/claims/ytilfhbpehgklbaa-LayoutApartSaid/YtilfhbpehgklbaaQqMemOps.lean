/- Operations that make or write memory. -/
import Derived.Test.YtilfhbpehgklbaaQqMem
set_option linter.unusedSimpArgs false
set_option linter.unusedVariables false
namespace Go.D

/-- What an operation comes to: a value or nothing, and a state that is related. -/
def StepRes (P : Program) (F : Fr) (E : Entry) (o : Oper) (a : Act) (w : World) (s' : St) : Prop :=
  ∃ v w' G' hw' ew' bx', ((execOp a.eval o).run P w = .ok (.value v) w' ∨ ((execOp a.eval o).run P w = .ok .skip w' ∧ v = undef)) ∧ SRel F E G' hw' ew' bx' (a.put o.dst v) w' s'

section
variable {P : Program} {F : Fr} {E : Entry} {G : Ghost} {hw : HW} {ew : EW} {bx : Nat → Option Nat} {a : Act} {w : World} {s : St} {o : Oper}

theorem step_of_pure (hF : F.WF) (hS : SRel F E G hw ew bx a w s) {i : Nat} {D : Dst} (hD : okDst F i o.dst D = true) {op : DOp} {adr : DV} (hb : ∀ d, back op d adr = strip d) {ins : List Src} (hn : (movedL ins).Nodup)
    {d : DV} (h : PureRes P o a w G bx ew (movedL ins) d) : StepRes P F E o a w (writeD i D d { (ins.foldl (moveS op adr) s) with heap := s.heap }) := by
  obtain ⟨v, r, h1, h2, h3, h4, h5⟩ := h
  obtain ⟨ew', h⟩ := SRel.pure hF hS hD hb hn h2 h3 h4 h5
  exact ⟨v, w, G, hw, ew', bx, .inl h1, h⟩

theorem writeD_finish {F : Fr} {E : Entry} {G' : Ghost} {hw' : HW} {ew' : EW} {bx' : Nat → Option Nat} {a' : Act} {w' : World} {i : Nat} {D : Dst} {d : DV} {s1 : St} {h : Heap}
    (hS : SRel F E G' hw' ew' bx' a' w' { (s1.put (D.loc i) d) with heap := h }) : SRel F E G' hw' ew' bx' a' w' (writeD i D d { s1 with heap := h }) := by
  rw [writeD_put]; cases D <;> exact hS

theorem moves_lref {op : DOp} {adr : DV} (hb : ∀ d, back op d adr = strip d) {ins : List Src} (hn : (movedL ins).Nodup) {l : ELoc} {q off : Nat}
    (h : (ins.foldl (moveS op adr) s).val l = some (.lref q off)) : s.val l = some (.lref q off) := by
  by_cases hl : l ∈ movedL ins
  · cases hd : s.val l with
    | none =>
      exfalso
      have hlen := moves_len op adr ins s
      cases l with
      | v p =>
        simp only [St.val] at hd h
        rw [List.getElem?_eq_none_iff] at hd
        rw [List.getElem?_eq_none (by omega)] at h; simp at h
      | t j =>
        simp only [St.val] at hd h
        rw [List.getElem?_eq_none_iff] at hd
        rw [List.getElem?_eq_none (by omega)] at h; simp at h
    | some d =>
      rw [moves_self op adr ins s l hn hl hd, hb] at h
      simp at h
      rw [strip_not_lref h]
  · rw [moves_other op adr ins s l hl] at h; exact h

theorem boxOk_spec {n p : Nat} (h : boxOk (.bx n) (.v p) s = true) {l : ELoc} {q off : Nat} (hl : s.val l = some (.lref q off)) : q ≠ p := by
  simp only [boxOk, Bool.not_eq_true', Bool.or_eq_false_iff, List.any_eq_false] at h
  rintro rfl
  cases l with
  | v j => simp only [St.val] at hl; exact h.1 _ (List.mem_of_getElem? hl) (by simp [isLref])
  | t j => simp only [St.val] at hl; exact h.2 _ (List.mem_of_getElem? hl) (by simp [isLref])

/-- A variable's own cells, made. -/
theorem step_bx (hF : F.WF) (hS : SRel F E G hw ew bx a w s) {i n p : Nat} (hD : okDst F i o.dst (.v p) = true) (hbp : F.bxs.getD p false = true) (hok : boxOk (.bx n) (.v p) s = true) {adr : DV} {ins : List Src} (hn : (movedL ins).Nodup)
    {v : Value} {d : DV} {r : List Nat} {e : TypeId} (hrun : (execOp a.eval o).run P w = .ok (.value (.pointer (some ⟨w.heap.size, 0, none⟩))) (w.alloc (.cells v.cells e)))
    (hx : VRel G w d v r) (hnr : r.Nodup) (hown : ∀ x ∈ r, ∃ l ∈ movedL ins, ew x = some l) (hlen : (cellsOf d).length = n) (h1 : 1 ≤ n) :
    StepRes P F E o a w (writeD i (.v p) (.box (cellsOf d)) { (ins.foldl (moveS (.bx n) adr) s) with heap := s.heap }) := by
  have hb : ∀ d, back (.bx n) d adr = strip d := fun d => by cases d <;> rfl
  obtain ⟨d1, d2, d3⟩ := okDst_spec hD
  have hl := moves_len (.bx n) adr ins s
  have hc := CPres.alloc hS.ok (.cells v.cells e) r
  have hrw : ∀ x ∈ r, hw x = none ∧ x < w.heap.size := fun x hx' => by
    obtain ⟨l, _, h2⟩ := hown x hx'
    exact ⟨hS.disj x (by rw [h2]; simp), hS.ewlt x (by rw [h2]; simp)⟩
  obtain ⟨hcl, hcs, hone⟩ := hx.cells_n hlen h1
  have hcl' := VRelL.mono hc.mono _ hcl (fun x hx' => ⟨heap_alloc_lt w _ (hrw x hx').2, fun _ h => h⟩)
  obtain ⟨ew', h⟩ := SRel.finish hF hS (movedL ins) r (some (.v p)) o.dst (fun x hx' => by
      obtain ⟨l, h1, h2⟩ := hown x hx'; exact ⟨l, h2, .inl h1⟩)
    hc (hS.heap.mono hc.mono rfl (fun x b hb' => ⟨heap_alloc_lt w _ (hS.ok.hw x (by rw [hb']; simp)), fun _ h => h⟩) (fun _ _ h => h))
    hl.1 hl.2.1 (fun l h => moves_other (.bx n) adr ins s l h) (moved_stays hS hb hn r) d1 d2 d3
    (bx' := fun q => if q = p then some w.heap.size else bx q) (fun q hq => by
      have : q ≠ p := fun e => hq (by rw [e])
      simp [this])
    (fun l q off hl' => by
      have := boxOk_spec hok (moves_lref hb hn hl')
      simp [this])
    (d := .box (cellsOf d)) (v := .pointer (some ⟨w.heap.size, 0, none⟩)) (r := w.heap.size :: r)
    (by
      refine .of ?_
      simp only [VRel]
      refine ⟨w.heap.size, v.cells, e, r, rfl, heap_alloc_eq w _, hcl', rfl, fun k hk => ?_, hS.ok.B, hone⟩
      have := hS.ok.imm _ _ hk; omega)
    (by
      simp only [List.nodup_cons]
      exact ⟨fun h => by have := (hrw _ h).2; omega, hnr⟩)
    (by
      intro x hx'
      simp only [List.mem_cons] at hx'
      rcases hx' with rfl | hx'
      · refine ⟨?_, by simp, .inr (.inr (Nat.le_refl _))⟩
        rcases Classical.em (hw w.heap.size = none) with h | h
        · exact h
        · have := hS.ok.hw _ h; omega
      · have := hrw x hx'
        exact ⟨this.1, by simp; omega, .inl hx'⟩)
    (fun cs _ => ⟨p, w.heap.size, rfl, hbp, by simp, rfl⟩)
  exact ⟨_, _, G, hw, ew', _, .inl hrun, writeD_finish h⟩

/-- A new block of the evaluator's heap. -/
theorem step_hp (hF : F.WF) (hS : SRel F E G hw ew bx a w s) {i n : Nat} {D : Dst} (hD : okDst F i o.dst D = true) {adr : DV} {ins : List Src} (hn : (movedL ins).Nodup)
    {v : Value} {d : DV} {r : List Nat} {e : TypeId} (hrun : (execOp a.eval o).run P w = .ok (.value (.pointer (some ⟨w.heap.size, 0, none⟩))) (w.alloc (.cells v.cells e)))
    (hx : VRel G w d v r) (hnr : r.Nodup) (hown : ∀ x ∈ r, ∃ l ∈ movedL ins, ew x = some l) (hlen : (cellsOf d).length = n) (h1 : 1 ≤ n) :
    StepRes P F E o a w (writeD i D (.ptr s.heap.length 0) { (ins.foldl (moveS (.hp n) adr) s) with heap := s.heap ++ [cellsOf d] }) := by
  have hb : ∀ d, back (.hp n) d adr = strip d := fun d => by cases d <;> rfl
  obtain ⟨d1, d2, d3⟩ := okDst_spec hD
  have hl := moves_len (.hp n) adr ins s
  have hrw : ∀ x ∈ r, hw x = none ∧ x < w.heap.size := fun x hx' => by
    obtain ⟨l, _, h2⟩ := hown x hx'
    exact ⟨hS.disj x (by rw [h2]; simp), hS.ewlt x (by rw [h2]; simp)⟩
  have hc := CPres.allocHeap hS.ok (.cells v.cells e) s.heap.length r (fun x hx' => (hrw x hx').2)
  obtain ⟨hcl, hcs, hone⟩ := hx.cells_n hlen h1
  have hcl' := VRelL.mono hc.mono _ hcl (fun x hx' => ⟨heap_alloc_lt w _ (hrw x hx').2, fun _ h => h⟩)
  have hlt : ∀ x b, hw x = some b → x < w.heap.size := fun x b h => hS.ok.hw x (by rw [h]; simp)
  have hne : ∀ x b, hw x = some b → x ≠ w.heap.size ∧ x ∉ r := fun x b h => ⟨by have := hlt x b h; omega, fun hr => by rw [(hrw x hr).1] at h; simp at h⟩
  have hH : HRel { G with hb := G.hb ++ [w.heap.size] } (fun x => if x = w.heap.size ∨ x ∈ r then some s.heap.length else hw x) (w.alloc (.cells v.cells e)) (s.heap ++ [cellsOf d]) := by
    refine ⟨by simp [hS.heap.1], fun b cs hb' => ?_⟩
    by_cases hlt' : b < s.heap.length
    · rw [List.getElem?_append_left hlt'] at hb'
      obtain ⟨rb, c, e', r', pm, g1, g2, g3, g4, g5, g6, g7, g8⟩ := hS.heap.2 b cs hb'
      refine ⟨rb, c, e', r', pm, hc.mono.hb _ _ g1, ?_, VRelL.mono hc.mono _ g3 (fun x hx' => ⟨heap_alloc_lt w _ (hlt x b (g5 x (by simp [hx']))), fun _ h => h⟩), g4, fun x hx' => ?_, g6, g7, g8⟩
      · rw [heap_alloc_lt w _ (hlt rb b (g5 rb (by simp)))]; exact g2
      · have := hne x b (g5 x hx')
        simp [this.1, this.2, g5 x hx']
    · have hbl : b = s.heap.length := by
        have : b < (s.heap ++ [cellsOf d]).length := by
          rcases Nat.lt_or_ge b (s.heap ++ [cellsOf d]).length with h | h
          · exact h
          · rw [List.getElem?_eq_none h] at hb'; simp at hb'
        simp at this; omega
      subst hbl
      simp at hb'
      subst hb'
      refine ⟨w.heap.size, v.cells, e, r, 0, by rw [← hS.heap.1]; simp, heap_alloc_eq w _, by simpa [pad] using hcl', ?_, fun x hx' => ?_, fun k hk => ?_, hS.ok.B, hone⟩
      · simp only [List.nodup_cons]
        exact ⟨fun h => by have := (hrw _ h).2; omega, hnr⟩
      · simp only [List.mem_cons] at hx'
        simp [hx']
      · have := hS.ok.imm _ _ hk; omega
  obtain ⟨ew', h⟩ := SRel.finish hF hS (movedL ins) r (D.loc i) o.dst (fun x hx' => by
      obtain ⟨l, h1, h2⟩ := hown x hx'; exact ⟨l, h2, .inl h1⟩)
    hc hH hl.1 hl.2.1 (fun l h => moves_other (.hp n) adr ins s l h) (moved_stays hS hb hn r) d1 d2 d3
    (bx' := bx) (fun _ _ => rfl) (fun _ _ _ _ => rfl)
    (d := .ptr s.heap.length 0) (v := .pointer (some ⟨w.heap.size, 0, none⟩)) (r := [])
    (by
      refine .of ?_
      simp only [VRel]
      exact ⟨trivial, w.heap.size, by rw [← hS.heap.1]; simp, rfl⟩)
    (by simp) (by simp) (fun cs h => by simp at h)
  exact ⟨_, _, _, _, ew', _, .inl hrun, writeD_finish h⟩

/-- A row that is made, and never written any more. -/
theorem step_row (hF : F.WF) (hS : SRel F E G hw ew bx a w s) {i : Nat} {D : Dst} (hD : okDst F i o.dst D = true) {op : DOp} {adr : DV} (hb : ∀ d, back op d adr = strip d) {ins : List Src} (hn : (movedL ins).Nodup)
    {sz : Nat} {xs : List DV} {l : List Value} {e : TypeId} (hrun : (execOp a.eval o).run P w = .ok (.value (.slice (some ⟨w.heap.size, 0, none⟩) xs.length xs.length)) (w.alloc (.cells l.toArray e)))
    (hel : ElemsL G w sz xs l) :
    StepRes P F E o a w (writeD i D (.sl .own sz xs) { (ins.foldl (moveS op adr) s) with heap := s.heap }) := by
  obtain ⟨d1, d2, d3⟩ := okDst_spec hD
  have hl := moves_len op adr ins s
  have hc := CPres.allocImm hS.ok (.cells l.toArray e) l.length ([] : List Nat)
  have hlt : ∀ x b, hw x = some b → x < w.heap.size := fun x b h => hS.ok.hw x (by rw [h]; simp)
  obtain ⟨ew', h⟩ := SRel.finish hF hS (movedL ins) [] (D.loc i) o.dst (by simp)
    hc (hS.heap.mono hc.mono rfl (fun x b hb' => ⟨heap_alloc_lt w _ (hlt x b hb'), fun k h => by
        rcases h with h | ⟨rfl, _⟩
        · exact h
        · have := hlt _ b hb'; omega⟩) (fun _ _ h => h))
    hl.1 hl.2.1 (fun l h => moves_other op adr ins s l h) (moved_stays hS hb hn []) d1 d2 d3
    (bx' := bx) (fun _ _ => rfl) (fun _ _ _ _ => rfl)
    (d := .sl .own sz xs) (v := .slice (some ⟨w.heap.size, 0, none⟩) xs.length xs.length) (r := [w.heap.size])
    (by
      refine .of ?_
      simp only [VRel]
      have hel' := hel.length
      refine ⟨_, _, rfl, Nat.le_refl _, .inr ⟨w.heap.size, 0, rfl, ?_, rfl, ⟨_, _, heap_alloc_eq w _, by simp [hel']⟩, fun k hk h => ?_⟩⟩
      · refine (hel.mono hc.mono).elems fun k c hk => ?_
        have hk' : k < l.length := by
          rcases Nat.lt_or_ge k l.length with h | h
          · exact h
          · rw [List.getElem?_eq_none h] at hk; simp at hk
        refine ⟨.inr ⟨rfl, by omega⟩, ?_⟩
        rw [Nat.zero_add, cell_of_block (heap_alloc_eq w _)]
        simpa using hk
      · rcases h with h | ⟨_, h⟩
        · have := hS.ok.imm _ _ h; omega
        · omega)
    (by simp) (fun x hx' => by
        simp at hx'; subst hx'
        refine ⟨?_, by simp, .inr (.inr (Nat.le_refl _))⟩
        rcases Classical.em (hw w.heap.size = none) with h | h
        · exact h
        · have := hS.ok.hw _ h; omega) (fun cs h => by simp at h)
  exact ⟨_, _, _, hw, ew', _, .inl hrun, writeD_finish h⟩

theorem SRel.drew (hS : SRel F E G hw ew bx a w s) (n : Nat) : SRel F E G hw ew bx a { w with drawn := n } s := by
  have M : Mono G w G { w with drawn := n } := ⟨Nat.le_refl _, fun _ _ h => h, fun _ _ _ => rfl, fun _ _ h => h⟩
  have st : ∀ r, Stays G w G { w with drawn := n } r := fun r x _ => ⟨rfl, fun _ h => h⟩
  refine ⟨hS.lv, hS.lt, fun l t d hl hv => ?_, ?_, ⟨hS.ok.B, hS.ok.imm, hS.ok.hw⟩, hS.defers, hS.size, hS.disj, hS.ewlt, ?_, hS.histE⟩
  · obtain ⟨r, h1, h2, h3, h4⟩ := hS.loc l t d hl hv
    exact ⟨r, h1, h2, h3.mono M (st r) (fun _ _ _ => rfl), h4⟩
  · exact hS.heap.mono M rfl (fun x b _ => ⟨rfl, fun _ h => h⟩) (fun _ _ h => h)
  · exact ⟨hS.hist.os, hS.hist.tape, hS.hist.output, hS.hist.size, hS.hist.B, hS.hist.imm, hS.hist.cell, hS.hist.hb, hS.hist.keep, hS.hist.hw, ⟨hS.ok.B, hS.ok.imm, hS.ok.hw⟩⟩

/-- A row without elements that is made. -/
theorem step_row0 (hF : F.WF) (hS : SRel F E G hw ew bx a w s) {i : Nat} {D : Dst} (hD : okDst F i o.dst D = true) {op : DOp} {adr : DV} (hb : ∀ d, back op d adr = strip d) {ins : List Src} (hn : (movedL ins).Nodup)
    {sz : Nat} {l : List Value} {e : TypeId} (hrun : (execOp a.eval o).run P w = .ok (.value (.slice (some ⟨w.heap.size, 0, none⟩) 0 0)) (w.alloc (.cells l.toArray e))) :
    StepRes P F E o a w (writeD i D (.sl .full sz []) { (ins.foldl (moveS op adr) s) with heap := s.heap }) := by
  obtain ⟨d1, d2, d3⟩ := okDst_spec hD
  have hl := moves_len op adr ins s
  have hc := CPres.allocImm hS.ok (.cells l.toArray e) l.length ([] : List Nat)
  have hlt : ∀ x b, hw x = some b → x < w.heap.size := fun x b h => hS.ok.hw x (by rw [h]; simp)
  obtain ⟨ew', h⟩ := SRel.finish hF hS (movedL ins) [] (D.loc i) o.dst (by simp)
    hc (hS.heap.mono hc.mono rfl (fun x b hb' => ⟨heap_alloc_lt w _ (hlt x b hb'), fun k h => by
        rcases h with h | ⟨rfl, _⟩
        · exact h
        · have := hlt _ b hb'; omega⟩) (fun _ _ h => h))
    hl.1 hl.2.1 (fun l h => moves_other op adr ins s l h) (moved_stays hS hb hn []) d1 d2 d3
    (bx' := bx) (fun _ _ => rfl) (fun _ _ _ _ => rfl)
    (d := .sl .full sz []) (v := .slice (some ⟨w.heap.size, 0, none⟩) 0 0) (r := [])
    (by
      refine .of ?_
      simp only [VRel]
      exact ⟨_, _, rfl, by simp, .inl ⟨rfl, rfl, trivial⟩⟩)
    (by simp) (by simp) (fun cs h => by simp at h)
  exact ⟨_, _, _, hw, ew', _, .inl hrun, writeD_finish h⟩

/-- 'make' of a slice. -/
theorem step_mk (hF : F.WF) {w1 : World} (hS : SRel F E G hw ew bx a w1 s) {i : Nat} {D : Dst} (hD : okDst F i o.dst D = true) {op : DOp} {adr : DV} (hb : ∀ d, back op d adr = strip d) {ins : List Src} (hn : (movedL ins).Nodup)
    {n sz cap : Nat} {ag : Bool} {cs : List DV} {l : List Value} {e : TypeId} (hcap : n ≤ cap) (hrun : (execOp a.eval o).run P w = .ok (.value (.slice (some ⟨w1.heap.size, 0, none⟩) n cap)) (w1.alloc (.cells l.toArray e)))
    {pm : Nat} (hcs : VRelL G w1 (cs ++ pad pm) l []) (hone : Ones l) :
    StepRes P F E o a w (writeD i D (.hsl s.heap.length 0 n n sz ag) { (ins.foldl (moveS op adr) s) with heap := s.heap ++ [cs] }) := by
  obtain ⟨d1, d2, d3⟩ := okDst_spec hD
  have hl := moves_len op adr ins s
  have hc := CPres.allocHeap hS.ok (.cells l.toArray e) s.heap.length [] (by simp)
  have hlt : ∀ x b, hw x = some b → x < w1.heap.size := fun x b h => hS.ok.hw x (by rw [h]; simp)
  have hH : HRel { G with hb := G.hb ++ [w1.heap.size] } (fun x => if x = w1.heap.size ∨ x ∈ ([] : List Nat) then some s.heap.length else hw x) (w1.alloc (.cells l.toArray e)) (s.heap ++ [cs]) := by
    refine ⟨by simp [hS.heap.1], fun b cs' hb' => ?_⟩
    by_cases hlt' : b < s.heap.length
    · rw [List.getElem?_append_left hlt'] at hb'
      obtain ⟨rb, c, e', r', pm, g1, g2, g3, g4, g5, g6, g7, g8⟩ := hS.heap.2 b cs' hb'
      refine ⟨rb, c, e', r', pm, hc.mono.hb _ _ g1, ?_, VRelL.mono hc.mono _ g3 (fun x hx' => ⟨heap_alloc_lt w1 _ (hlt x b (g5 x (by simp [hx']))), fun _ h => h⟩), g4, fun x hx' => ?_, g6, g7, g8⟩
      · rw [heap_alloc_lt w1 _ (hlt rb b (g5 rb (by simp)))]; exact g2
      · have := hlt x b (g5 x hx')
        have : x ≠ w1.heap.size := by omega
        simp [this, g5 x hx']
    · have hbl : b = s.heap.length := by
        have : b < (s.heap ++ [cs]).length := by
          rcases Nat.lt_or_ge b (s.heap ++ [cs]).length with h | h
          · exact h
          · rw [List.getElem?_eq_none h] at hb'; simp at hb'
        simp at this; omega
      subst hbl
      simp at hb'
      subst hb'
      refine ⟨w1.heap.size, l.toArray, e, [], pm, by rw [← hS.heap.1]; simp, heap_alloc_eq w1 _, VRelL.mono hc.mono _ hcs Stays.nil, by simp, by simp, fun k hk => ?_, hS.ok.B, hone⟩
      have := hS.ok.imm _ _ hk; omega
  obtain ⟨ew', h⟩ := SRel.finish hF hS (movedL ins) [] (D.loc i) o.dst (by simp)
    hc hH hl.1 hl.2.1 (fun l h => moves_other op adr ins s l h) (moved_stays hS hb hn []) d1 d2 d3
    (bx' := bx) (fun _ _ => rfl) (fun _ _ _ _ => rfl)
    (d := .hsl s.heap.length 0 n n sz ag) (v := .slice (some ⟨w1.heap.size, 0, none⟩) n cap) (r := [])
    (by
      refine .of ?_
      simp only [VRel]
      exact ⟨trivial, w1.heap.size, by rw [← hS.heap.1]; simp, cap, rfl, hcap⟩)
    (by simp) (by simp) (fun cs h => by simp at h)
  exact ⟨_, _, _, _, ew', _, .inl hrun, writeD_finish h⟩

end
end Go.D
