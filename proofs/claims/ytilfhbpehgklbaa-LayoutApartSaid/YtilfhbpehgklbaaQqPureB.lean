/- More operations that make a value and turn nothing in memory: addresses, loads, elements, fields, structs, slices, lengths, conversions. -/
import Derived.Test.YtilfhbpehgklbaaQqPure
import Derived.Laws.Tables
set_option linter.unusedSimpArgs false
set_option linter.unusedVariables false
namespace Go.D

def okFld (P : Program) (st : TypeId) (f off : Nat) : Bool :=
  match P.underlying st with
  | some (.struct fs) => (match fs[f]? with | some fl => fl.offset == off && (match P.info? fl.type with | some i => i.size != 0 | none => false) | none => false)
  | _ => false

/-- A slice type's elements: how many cells. -/
def okEl (P : Program) (t : TypeId) (sz : Nat) : Bool :=
  match P.underlying t with
  | some (.slice e) => (match P.info? e with | some i => i.size == sz | none => false)
  | _ => false

def okArr (P : Program) (t : TypeId) (len sz : Nat) : Bool :=
  match P.underlying t with
  | some (.array n e) => n == len && (match P.info? e with | some i => i.size == sz | none => false)
  | _ => false

section
variable {P : Program} {F : Fr} {E : Entry} {G : Ghost} {hw : HW} {ew : EW} {bx : Nat → Option Nat} {a : Act} {w : World} {s : St} {o : Oper}

theorem okEl_spec {t : TypeId} {sz : Nat} (h : okEl P t sz = true) : ∃ e i, P.underlying t = some (.slice e) ∧ P.info? e = some i ∧ i.size = sz := by
  unfold okEl at h
  split at h
  · rename_i e hu
    cases hi : P.info? e with
    | none => simp [hi] at h
    | some i => simp [hi] at h; exact ⟨e, i, hu, hi, h⟩
  · simp at h

theorem okArr_spec {t : TypeId} {len sz : Nat} (h : okArr P t len sz = true) : ∃ e i, P.underlying t = some (.array len e) ∧ P.info? e = some i ∧ i.size = sz := by
  unfold okArr at h
  split at h
  · rename_i n e hu
    simp only [Bool.and_eq_true, beq_iff_eq] at h
    obtain ⟨rfl, h⟩ := h
    cases hi : P.info? e with
    | none => simp [hi] at h
    | some i => simp [hi] at h; exact ⟨e, i, hu, hi, h⟩
  · simp at h

theorem run_fieldAt {st : TypeId} {f off : Nat} (h : okFld P st f off = true) (rb o : Nat) :
    (Instr.fieldAt st (.pointer (some ⟨rb, o, none⟩)) f).run P w = .ok (.pointer (some ⟨rb, o + off, none⟩)) w := by
  unfold okFld at h
  split at h
  · rename_i fs hu
    cases hf : fs[f]? with
    | none => simp [hf] at h
    | some fl =>
      simp only [hf, Bool.and_eq_true, beq_iff_eq] at h
      cases hi : P.info? fl.type with
      | none => simp [hi] at h
      | some i =>
        simp [hi] at h
        obtain ⟨rfl, hs⟩ := h
        simp [Instr.fieldAt, run_underlying hu, hf, Instr.sureAddr, fieldPlace, run_sizeOf' hi, hs, addr_add]
  · simp at h

theorem okSrc_v {p : Nat} {m : Bool} {x : Operand} (h : okSrc F (.v p m) x = true) : ∃ t, x = .tmp t ∧ F.slot (.v p) = some t := by
  cases x <;> simp [okSrc] at h
  rename_i t; exact ⟨t, rfl, h.1⟩

theorem pure_faB (hS : SRel F E G hw ew bx a w s) {src : Src} {x : Operand} (h : okSrc F src x = true) {p st f off : Nat} {m : Bool} (hp : src = .v p m) (ho : o.op = .fieldAddr st x f)
    (hf : okFld P st f off = true) {cs : List DV} (hd : (readS s src).2 = .box cs) (M : List ELoc) : PureRes P o a w G bx ew M (.lref p off) := by
  obtain ⟨t, hx, hsl⟩ := okSrc_v (hp ▸ h)
  subst hx
  obtain ⟨d, hv⟩ := hS.val_some hsl
  obtain ⟨r, _, _, _, h4⟩ := hS.loc _ _ _ hsl hv
  have e : d = .box cs := by
    subst hp; simp only [readS, St.val] at *; simpa [hv] using hd
  obtain ⟨p', rb, e1, _, hb, hval⟩ := h4 cs e
  simp at e1; subst e1
  refine ⟨.pointer (some ⟨rb, off, none⟩), [], ?_, ⟨rfl, rb, hb, rfl⟩, by simp, by simp, by simp⟩
  have : a.eval (.tmp t) = .pointer (some ⟨rb, 0, none⟩) := hval
  simp [execOp, ho, this, run_fieldAt hf]

theorem pure_fa (hS : SRel F E G hw ew bx a w s) {src : Src} {x : Operand} (h : okSrcN F src x = true) {st f off : Nat} (ho : o.op = .fieldAddr st x f) (hf : okFld P st f off = true) (M : List ELoc) :
    (∀ b k, (readS s src).2 = .ptr b k → PureRes P o a w G bx ew M (.ptr b (k + off))) ∧
    (∀ cs, (readS s src).2 = .cptr cs → PureRes P o a w G bx ew M (.cptr (cs.drop off))) ∧
    (∀ p k, (readS s src).2 = .lref p k → PureRes P o a w G bx ew M (.lref p (k + off))) := by
  refine ⟨fun b k hd => ?_, fun cs hd => ?_, fun p k hd => ?_⟩
  · obtain ⟨r, hv⟩ := peek_v hS h hd (by simp)
    simp only [VRel] at hv
    obtain ⟨_, rb, hb, hval⟩ := hv
    refine PureRes.view (v := .pointer (some ⟨rb, k + off, none⟩)) (by simp only [VRel]; exact ⟨trivial, rb, hb, rfl⟩) (by simp) ?_
    simp [execOp, ho, hval, run_fieldAt hf]
  · obtain ⟨r, hv⟩ := peek_v hS h hd (by simp)
    simp only [VRel] at hv
    obtain ⟨_, rb, k, l, hval, hl, hh, hone⟩ := hv
    refine PureRes.view (v := .pointer (some ⟨rb, k + off, none⟩)) ?_ (by simp) ?_
    · simp only [VRel]
      obtain ⟨ra, rb', er, _, h2⟩ := hl.cut off
      have : rb' = [] := by simp at er; exact er.2
      subst this
      refine ⟨trivial, rb, k + off, l.drop off, rfl, h2, fun j c hj => ?_, hone.drop _⟩
      rw [List.getElem?_drop] at hj
      have := hh (off + j) c hj
      rw [show k + off + j = k + (off + j) by omega]; exact this
    · simp [execOp, ho, hval, run_fieldAt hf]
  · obtain ⟨r, hv⟩ := peek hS h
    rw [hd] at hv
    obtain ⟨_, rb, hb, hval⟩ := hv
    refine ⟨.pointer (some ⟨rb, k + off, none⟩), [], ?_, ⟨rfl, rb, hb, rfl⟩, by simp, by simp, by simp⟩
    simp [execOp, ho, hval, run_fieldAt hf]

/-- A part of cells as a value that is looked at. -/
theorem view_part {cs : List DV} {l : List Value} {r : List Nat} (h : VRelL G w cs l r) (hone : Ones l) {k n : Nat} {ag : Bool} (hn : k + n ≤ cs.length) (h1 : ag = false → n = 1) :
    VRel G w (strip (ofCells ag ((cs.drop k).take n))) (if ag then .agg ((l.drop k).take n).toArray else ((l.drop k).take n).headD undef) [] ∧ ((l.drop k).take n).length = n ∧
      ∀ c, strip (ofCells ag ((cs.drop k).take n)) ≠ .box c := by
  obtain ⟨_, r2, _, _, h2⟩ := h.cut k
  obtain ⟨r3, _, _, h3, _⟩ := h2.cut n
  refine ⟨VRel.strip _ (h3.ofCells ag (fun e => by simp; have := h1 e; omega) ((hone.drop _).take _)), by have := h.length; simp; omega, ?_⟩
  intro c hc
  cases hd : ofCells ag ((cs.drop k).take n) <;> simp [hd, strip] at hc

theorem getElem?_part {α : Type} (l : List α) (k n j : Nat) (c : α) (h : ((l.drop k).take n)[j]? = some c) : l[k + j]? = some c := by
  rw [List.getElem?_take] at h
  split at h
  · rwa [List.getElem?_drop] at h
  · simp at h

/-- A variable's own cells. -/
theorem box_cells (hS : SRel F E G hw ew bx a w s) {p t : Nat} (hsl : F.slot (.v p) = some t) {cs : List DV} (hd : s.vars.getD p .junk = .box cs) :
    ∃ rb c e r, bx p = some rb ∧ a.tmps.getD t undef = .pointer (some ⟨rb, 0, none⟩) ∧ w.heap[rb]? = some (.cells c e (0, 0)) ∧ VRelL G w cs c.toList r ∧ (rb :: r).Nodup ∧
      (∀ x ∈ rb :: r, ew x = some (.v p)) ∧ (∀ k, ¬ G.imm rb k) ∧ G.B ≤ rb ∧ F.bxs.getD p false = true ∧ Ones c.toList := by
  obtain ⟨d, hv⟩ := hS.val_some hsl
  obtain ⟨r, h1, h2, h3, h4⟩ := hS.loc _ _ _ hsl hv
  have e : d = .box cs := by simp only [St.val] at hv; simpa [hv] using hd
  subst e
  obtain ⟨p', rb, e1, hbx, hb, hval⟩ := h4 cs rfl
  simp at e1; subst e1
  simp only [XRel, VRel] at h3
  obtain ⟨rb', c, e, rs, ev, hc, hl, er, hi, hB, hone⟩ := h3
  rw [hval] at ev
  simp at ev; subst ev
  subst er
  exact ⟨rb, c, e, rs, hb, hval, hc, hl, h1, h2, hi, hB, hbx, hone⟩

theorem cell_of_block {rb : Nat} {c : Array Value} {e : TypeId} {fr : Nat × Nat} (h : w.heap[rb]? = some (.cells c e fr)) (k : Nat) : w.cell? ⟨rb, k, none⟩ = c[k]? := by
  simp [World.cell?, h]

theorem pure_ldB (hS : SRel F E G hw ew bx a w s) {s0 : Src} {x : Operand} (h0 : okSrc F s0 x = true) {p q n t : Nat} {ag : Bool} {ty : TypeId} (hsl : F.slot (.v p) = some t)
    (ho : o.op = .load ty x) (hty : okTy P ty n ag = true) {cs : List DV} (hd : s.vars.getD p .junk = .box cs) (M : List ELoc) :
    (∀ k, (readS s s0).2 = .lref q k → q = p ∧ k + n ≤ cs.length → PureRes P o a w G bx ew M (strip (ofCells ag ((cs.drop k).take n)))) ∧
    (∀ m, s0 = .v p m → n ≤ cs.length → PureRes P o a w G bx ew M (strip (ofCells ag (cs.take n)))) := by
  obtain ⟨rb, c, e, r, hb, hval, hc, hl, _, _, _, _, _, hone⟩ := box_cells hS hsl hd
  have h1 := (okTy_spec hty).2.2.2
  refine ⟨fun k hk ⟨hq, hn⟩ => ?_, fun m hs0 hn => ?_⟩
  · subst hq
    obtain ⟨r0, hv0, _⟩ := src_rel hS h0
    have hv := hv0.rel
    rw [hk] at hv
    obtain ⟨_, rb', hb', hval'⟩ := hv
    rw [hb] at hb'
    simp at hb'; subst hb'
    obtain ⟨v1, v2, v3⟩ := view_part hl hone hn h1
    refine PureRes.view v1 v3 ?_
    have := run_loadVar (P := P) (w := w) (rb := rb) (off := k) hty v2 (fun j c' hj => by
      rw [cell_of_block hc]; have := getElem?_part _ _ _ _ _ hj; simpa using this)
    simp [execOp, ho, hval', Instr.loadAt, Instr.sureAddr, this]
  · have hx : a.eval x = a.tmps.getD t undef := by
      obtain ⟨t', hx, hsl'⟩ := okSrc_v (hs0 ▸ h0)
      rw [hsl'] at hsl; simp at hsl; subst hsl; subst hx; rfl
    obtain ⟨v1, v2, v3⟩ := view_part hl hone (k := 0) (by simpa using hn) h1
    simp only [List.drop_zero] at v1 v2 v3
    refine PureRes.view v1 v3 ?_
    have := run_loadVar (P := P) (w := w) (rb := rb) (off := 0) hty v2 (fun j c' hj => by
      rw [cell_of_block hc]; have := getElem?_part (c.toList) 0 n j c' (by simpa using hj); simpa using this)
    simp [execOp, ho, hx, hval, Instr.loadAt, Instr.sureAddr, this]

theorem pure_ldP (hS : SRel F E G hw ew bx a w s) {s0 : Src} {x : Operand} (h0 : okSrcN F s0 x = true) {n : Nat} {ag : Bool} {ty : TypeId}
    (ho : o.op = .load ty x) (hty : okTy P ty n ag = true) (M : List ELoc) :
    (∀ b k cs, (readS s s0).2 = .ptr b k → s.heap[b]? = some cs → k + n ≤ cs.length → PureRes P o a w G bx ew M (strip (ofCells ag ((cs.drop k).take n)))) ∧
    (∀ cs, (readS s s0).2 = .cptr cs → n ≤ cs.length → PureRes P o a w G bx ew M (strip (ofCells ag (cs.take n)))) := by
  have h1 := (okTy_spec hty).2.2.2
  refine ⟨fun b k cs hd hb hn => ?_, fun cs hd hn => ?_⟩
  · obtain ⟨r, hv⟩ := peek_v hS h0 hd (by simp)
    simp only [VRel] at hv
    obtain ⟨_, rb, hrb, hval⟩ := hv
    obtain ⟨rb', c, e, r', pm, g1, g2, g3, _, _, _, _, g8⟩ := hS.heap.2 b cs hb
    rw [hrb] at g1; simp at g1; subst g1
    obtain ⟨v1, v2, v3⟩ := view_part g3 g8 (show k + n ≤ (cs ++ pad pm).length by rw [List.length_append]; omega) h1
    rw [part_pad hn] at v1 v3
    refine PureRes.view v1 v3 ?_
    have := run_loadVar (P := P) (w := w) (rb := rb) (off := k) hty v2 (fun j c' hj => by
      rw [cell_of_block g2]; have := getElem?_part _ _ _ _ _ hj; simpa using this)
    simp [execOp, ho, hval, Instr.loadAt, Instr.sureAddr, this]
  · obtain ⟨r, hv⟩ := peek_v hS h0 hd (by simp)
    simp only [VRel] at hv
    obtain ⟨_, rb, k, l, hval, hl, hh, hone⟩ := hv
    obtain ⟨v1, v2, v3⟩ := view_part hl hone (k := 0) (by simpa using hn) h1
    simp only [List.drop_zero] at v1 v2 v3
    refine PureRes.view v1 v3 ?_
    have := run_loadVar (P := P) (w := w) (rb := rb) (off := k) hty v2 (fun j c' hj => (hh j c' (by have := getElem?_part l 0 n j c' (by simpa using hj); simpa using this)).2)
    simp [execOp, ho, hval, Instr.loadAt, Instr.sureAddr, this]

theorem run_indexAt_sl {t : TypeId} {sz : Nat} (h : okEl P t sz = true) (rb off len cap : Nat) (k : IntKind) (i : Int) (h0 : 0 ≤ i) (h1 : i < (len : Int)) :
    (Instr.indexAt t (.slice (some ⟨rb, off, none⟩) len cap) (.int k i)).run P w = .ok (.pointer (some ⟨rb, off + i.toNat * sz, none⟩)) w := by
  obtain ⟨e, it, hu, hi, hs⟩ := okEl_spec h
  simp [Instr.indexAt, asIntOf, run_underlying hu, h0, h1, run_sizeOf' hi, hs, addr_add]

theorem run_indexAt_arr {t : TypeId} {len sz : Nat} (h : okArr P t len sz = true) (rb off : Nat) (k : IntKind) (i : Int) (h0 : 0 ≤ i) (h1 : i < (len : Int)) :
    (Instr.indexAt t (.pointer (some ⟨rb, off, none⟩)) (.int k i)).run P w = .ok (.pointer (some ⟨rb, off + i.toNat * sz, none⟩)) w := by
  obtain ⟨e, it, hu, hi, hs⟩ := okArr_spec h
  simp [Instr.indexAt, asIntOf, run_underlying hu, Instr.sureAddr, h0, h1, run_sizeOf' hi, hs, addr_add]

theorem pure_ia (hS : SRel F E G hw ew bx a w s) {s0 s1 : Src} {x y : Operand} (h0 : okSrcN F s0 x = true) (h1 : okSrcN F s1 y = true) {t : TypeId} {sz : Nat} (ho : o.op = .indexAddr t x y)
    (ht : okEl P t sz = true) {k : IntKind} {i : Int} (hi : (readS s s1).2 = .sc (.int k i)) (M : List ELoc) :
    (∀ m xs d, (readS s s0).2 = .sl m sz xs → 0 ≤ i → xs[i.toNat]? = some d → PureRes P o a w G bx ew M (.cptr (cellsOf d))) ∧
    (∀ b off len cap sz' ag, (readS s s0).2 = .hsl b off len cap sz' ag → 0 ≤ i → i < (len : Int) → PureRes P o a w G bx ew M (.ptr b (off + i.toNat * sz))) := by
  have hy := scalar hS h1 hi
  refine ⟨fun m xs d hd h0' hx => ?_, fun b off len cap sz' ag hd h0' h1' => ?_⟩
  · obtain ⟨r, hv⟩ := peek_v hS h0 hd (by simp)
    simp only [VRel] at hv
    obtain ⟨ad, cap, hval, hcap, hv⟩ := hv
    have hlt : i.toNat < xs.length := by
      rcases Nat.lt_or_ge i.toNat xs.length with h | h
      · exact h
      · rw [List.getElem?_eq_none h] at hx; simp at hx
    rcases hv with ⟨hz, _⟩ | ⟨rb, off, hsl, hel, _⟩
    · omega
    · subst hsl
      obtain ⟨v, hv1, hv2, hv3, hv4⟩ := hel.get hx
      have hrun := run_indexAt_sl (w := w) ht rb off xs.length cap k i h0' (by omega)
      by_cases hc : cellsOf d = []
      · refine PureRes.view (v := .pointer (some ⟨rb, off + i.toNat * sz, none⟩)) ?_ (by simp) (by simp [execOp, ho, hval, hy, hrun])
        simp only [VRel, hc]
        exact ⟨trivial, rb, _, [], rfl, VRelL.nil, fun j c hj => by simp at hj, Ones.nil⟩
      · refine PureRes.view (v := .pointer (some ⟨rb, off + i.toNat * sz, none⟩)) ?_ (by simp) (by simp [execOp, ho, hval, hy, hrun])
        simp only [VRel]
        exact ⟨trivial, rb, _, _, rfl, (hv1.cells hc).1, hv3, hv4⟩
  · obtain ⟨r, hv⟩ := peek_v hS h0 hd (by simp)
    simp only [VRel] at hv
    obtain ⟨_, rb, hb, cap, hval, _⟩ := hv
    have hrun := run_indexAt_sl (w := w) ht rb off len cap k i h0' h1'
    refine PureRes.view (v := .pointer (some ⟨rb, off + i.toNat * sz, none⟩)) ?_ (by simp) (by simp [execOp, ho, hval, hy, hrun])
    simp only [VRel]; exact ⟨trivial, rb, hb, rfl⟩

theorem pure_iaB (hS : SRel F E G hw ew bx a w s) {s0 s1 : Src} {x y : Operand} (h0 : okSrc F s0 x = true) (h1 : okSrcN F s1 y = true) {t : TypeId} {len sz p : Nat} {m : Bool} (hp : s0 = .v p m) (ho : o.op = .indexAddr t x y)
    (ht : okArr P t len sz = true) {k : IntKind} {i : Int} (hi : (readS s s1).2 = .sc (.int k i)) {cs : List DV} (hd : (readS s s0).2 = .box cs) (h0' : 0 ≤ i) (h1' : i < (len : Int)) (M : List ELoc) :
    PureRes P o a w G bx ew M (.lref p (i.toNat * sz)) := by
  have hy := scalar hS h1 hi
  subst hp
  obtain ⟨u, hx, hsl⟩ := okSrc_v h0
  subst hx
  obtain ⟨rb, c, e, r, hb, hval, _⟩ := box_cells hS hsl (by simpa [readS] using hd)
  have hval' : a.eval (.tmp u) = .pointer (some ⟨rb, 0, none⟩) := hval
  have hrun := run_indexAt_arr (w := w) ht rb 0 k i h0' h1'
  refine ⟨.pointer (some ⟨rb, i.toNat * sz, none⟩), [], ?_, ⟨rfl, rb, hb, rfl⟩, by simp, by simp, by simp⟩
  simp [execOp, ho, hval', hy, hrun]

theorem pure_iaA (hS : SRel F E G hw ew bx a w s) {s0 s1 : Src} {x y : Operand} (h0 : okSrcN F s0 x = true) (h1 : okSrcN F s1 y = true) {t : TypeId} {len sz : Nat} (ho : o.op = .indexAddr t x y)
    (ht : okArr P t len sz = true) {k : IntKind} {i : Int} (hi : (readS s s1).2 = .sc (.int k i)) (h0' : 0 ≤ i) (h1' : i < (len : Int)) (M : List ELoc) :
    (∀ p off, (readS s s0).2 = .lref p off → PureRes P o a w G bx ew M (.lref p (off + i.toNat * sz))) ∧
    (∀ b off, (readS s s0).2 = .ptr b off → PureRes P o a w G bx ew M (.ptr b (off + i.toNat * sz))) ∧
    (∀ cs, (readS s s0).2 = .cptr cs → PureRes P o a w G bx ew M (.cptr (cs.drop (i.toNat * sz)))) := by
  have hy := scalar hS h1 hi
  refine ⟨fun p off hd => ?_, fun b off hd => ?_, fun cs hd => ?_⟩
  · obtain ⟨r, hv⟩ := peek hS h0
    rw [hd] at hv
    obtain ⟨_, rb, hb, hval⟩ := hv
    have hrun := run_indexAt_arr (w := w) ht rb off k i h0' h1'
    refine ⟨.pointer (some ⟨rb, off + i.toNat * sz, none⟩), [], ?_, ⟨rfl, rb, hb, rfl⟩, by simp, by simp, by simp⟩
    simp [execOp, ho, hval, hy, hrun]
  · obtain ⟨r, hv⟩ := peek_v hS h0 hd (by simp)
    simp only [VRel] at hv
    obtain ⟨_, rb, hb, hval⟩ := hv
    have hrun := run_indexAt_arr (w := w) ht rb off k i h0' h1'
    refine PureRes.view (v := .pointer (some ⟨rb, off + i.toNat * sz, none⟩)) ?_ (by simp) (by simp [execOp, ho, hval, hy, hrun])
    simp only [VRel]; exact ⟨trivial, rb, hb, rfl⟩
  · obtain ⟨r, hv⟩ := peek_v hS h0 hd (by simp)
    simp only [VRel] at hv
    obtain ⟨_, rb, off, l, hval, hl, hh, hone⟩ := hv
    have hrun := run_indexAt_arr (w := w) ht rb off k i h0' h1'
    refine PureRes.view (v := .pointer (some ⟨rb, off + i.toNat * sz, none⟩)) ?_ (by simp) (by simp [execOp, ho, hval, hy, hrun])
    simp only [VRel]
    obtain ⟨ra, rb', er, _, h2⟩ := hl.cut (i.toNat * sz)
    have : rb' = [] := by simp at er; exact er.2
    subst this
    refine ⟨trivial, rb, off + i.toNat * sz, l.drop (i.toNat * sz), rfl, h2, fun j c hj => ?_, hone.drop _⟩
    rw [List.getElem?_drop] at hj
    have := hh (i.toNat * sz + j) c hj
    rw [show off + i.toNat * sz + j = off + (i.toNat * sz + j) by omega]; exact this

theorem extract_part (l : List Value) (k n : Nat) : l.toArray.extract k (k + n) = ((l.drop k).take n).toArray := by
  apply Array.ext'
  simp [List.extract]

theorem run_part {t : TypeId} {n : Nat} {ag : Bool} (h : okTy P t n ag = true) (l : List Value) (k : Nat) (hl : k + n ≤ l.length) :
    (part t l.toArray k).run P w = .ok (if ag then .agg ((l.drop k).take n).toArray else ((l.drop k).take n).headD undef) w := by
  obtain ⟨⟨i, hi, hsz⟩, hag, h1, h2⟩ := okTy_spec h
  simp only [part, Sem.run_bind, run_isAgg hag, Result.andThen_ok]
  cases ag with
  | true =>
    simp only [if_true, Sem.run_bind, run_sizeOf' hi, Result.andThen_ok, Sem.run_pure, hsz, extract_part]
  | false =>
    have hn := h2 rfl
    subst hn
    have hk : k < l.length := by omega
    have e : (l.drop k).take 1 = [l[k]] := by
      rw [List.drop_eq_getElem_cons hk]; rfl
    simp [hk, e]

theorem pure_fld (hS : SRel F E G hw ew bx a w s) {s0 : Src} {x : Operand} (h0 : okSrcN F s0 x = true) {st f off n : Nat} {ag : Bool} (ho : o.op = .field st x f)
    (hf : (match P.underlying st with | some (.struct fs) => (match fs[f]? with | some fl => fl.offset == off && okTy P fl.type n ag | none => false) | _ => false) = true)
    {cs : List DV} (hd : (readS s s0).2 = .agg cs) (hn : off + n ≤ cs.length) (M : List ELoc) : PureRes P o a w G bx ew M (strip (ofCells ag ((cs.drop off).take n))) := by
  obtain ⟨r, hv⟩ := peek_v hS h0 hd (by simp)
  simp only [VRel] at hv
  obtain ⟨l, hval, hl, hone⟩ := hv
  split at hf
  · rename_i fs hu
    cases hff : fs[f]? with
    | none => simp [hff] at hf
    | some fl =>
      simp only [hff, Bool.and_eq_true, beq_iff_eq] at hf
      obtain ⟨rfl, hty⟩ := hf
      obtain ⟨v1, v2, v3⟩ := view_part hl hone hn (okTy_spec hty).2.2.2
      refine PureRes.view v1 v3 ?_
      have hll := hl.length
      simp [execOp, ho, hval, Instr.field, run_underlying hu, hff, asAgg, run_part (w := w) hty l fl.offset (by omega)]
  · simp at hf

theorem pure_ix (hS : SRel F E G hw ew bx a w s) {s0 s1 : Src} {x y : Operand} (h0 : okSrcN F s0 x = true) (h1 : okSrcN F s1 y = true) {t : TypeId} {len sz : Nat} {ag : Bool} (ho : o.op = .index t x y)
    (ht : (match P.underlying t with | some (.array n e) => n == len && okTy P e sz ag | _ => false) = true)
    {k : IntKind} {i : Int} (hi : (readS s s1).2 = .sc (.int k i)) {cs : List DV} (hd : (readS s s0).2 = .agg cs) (h0' : 0 ≤ i) (h1' : i < (len : Int)) (hn : i.toNat * sz + sz ≤ cs.length) (M : List ELoc) :
    PureRes P o a w G bx ew M (strip (ofCells ag ((cs.drop (i.toNat * sz)).take sz))) := by
  have hy := scalar hS h1 hi
  obtain ⟨r, hv⟩ := peek_v hS h0 hd (by simp)
  simp only [VRel] at hv
  obtain ⟨l, hval, hl, hone⟩ := hv
  split at ht
  · rename_i n e hu
    simp only [Bool.and_eq_true, beq_iff_eq] at ht
    obtain ⟨rfl, hty⟩ := ht
    obtain ⟨⟨it, hit, hsz⟩, _⟩ := okTy_spec hty
    obtain ⟨v1, v2, v3⟩ := view_part hl hone hn (okTy_spec hty).2.2.2
    refine PureRes.view v1 v3 ?_
    have hll := hl.length
    simp [execOp, ho, hval, hy, Instr.index, asIntOf, run_underlying hu, h0', h1', run_sizeOf' hit, hsz, run_part (w := w) hty l (i.toNat * sz) (by omega)]
  · simp at ht

theorem pure_ixS (hS : SRel F E G hw ew bx a w s) {s0 s1 : Src} {x y : Operand} (h0 : okSrcN F s0 x = true) (h1 : okSrcN F s1 y = true) {t : TypeId} (ho : o.op = .index t x y)
    (ht : P.underlying t = some .string) {k : IntKind} {i : Int} (hi : (readS s s1).2 = .sc (.int k i)) {st : ByteArray} (hd : (readS s s0).2 = .sc (.string st)) (h0' : 0 ≤ i)
    {b : UInt8} (hb : st[i.toNat]? = some b) (M : List ELoc) : PureRes P o a w G bx ew M (.sc (.int .u8 b.toNat)) := by
  have hy := scalar hS h1 hi
  have hx := scalar hS h0 hd
  refine PureRes.sc rfl ?_
  simp [execOp, ho, hx, hy, Instr.index, asIntOf, run_underlying ht, h0', hb]

theorem pure_ext (hS : SRel F E G hw ew bx a w s) {s0 : Src} {x : Operand} (h0 : okSrcN F s0 x = true) {k : Nat} (ho : o.op = .extract x k)
    {cs : List DV} (hd : (readS s s0).2 = .tup cs) {c : DV} (hc : cs[k]? = some c) (M : List ELoc) : PureRes P o a w G bx ew M (strip c) := by
  obtain ⟨r, hv⟩ := peek_v hS h0 hd (by simp)
  simp only [VRel] at hv
  obtain ⟨l, hval, hl⟩ := hv
  obtain ⟨v, rm, h1, h2⟩ := hl.get_strip hc
  refine PureRes.view (VRel.strip _ h2) ?_ ?_
  · intro cs hcs; cases c <;> simp [strip] at hcs
  · simp [execOp, ho, hval, Instr.extract, h1]

end
end Go.D
