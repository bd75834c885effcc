/- Stores, into a variable's own cells and into the evaluator's heap; loads that take. -/
import Derived.Test.YtilfhbpehgklbaaQqMemOps
set_option linter.unusedSimpArgs false
set_option linter.unusedVariables false
namespace Go.D

section
variable {P : Program} {F : Fr} {E : Entry} {G : Ghost} {hw : HW} {ew : EW} {bx : Nat → Option Nat} {a : Act} {w : World} {s : St} {o : Oper}

theorem setRow_eq (w : World) (g : Nat) (old cs : Array Value) (t : TypeId) (hg : w.heap[g]? = some (.cells old t (0, 0))) : (w.setRow g cs).heap[g]? = some (.cells cs t (0, 0)) := setRow_heap w g old cs t _ hg

theorem cell_setRow_ne (w : World) (g : Nat) (cs : Array Value) {b k : Nat} (h : b ≠ g) : (w.setRow g cs).cell? ⟨b, k, none⟩ = w.cell? ⟨b, k, none⟩ := by
  simp [World.cell?, setRow_other w g b cs h]

/-- A row that somebody owns is written. -/
theorem CPres.setRow (ok : WOk G hw w) {g : Nat} {old : Array Value} {e : TypeId} (hg : w.heap[g]? = some (.cells old e (0, 0))) (cs : Array Value) (hand : List Nat) (himm : ∀ k, ¬ G.imm g k) (hh : g ∈ hand ∨ hw g ≠ none)
    (hw' : HW) (hhw : ∀ x, hw' x ≠ none → hw x ≠ none ∨ x ∈ hand) (hlt : ∀ x ∈ hand, x < w.heap.size) : CPres G hw w hand G hw' (w.setRow g cs) := by
  refine ⟨rfl, rfl, rfl, by simp, rfl, fun _ _ h => h, fun b k h => ?_, ⟨[], by simp⟩, fun x hx h0 hn => ⟨setRow_other w g x cs ?_, fun _ h => h⟩, fun x h => ?_, ?_, ?_, ?_⟩
  · exact cell_setRow_ne w g cs (fun e => himm k (e ▸ h))
  · rintro rfl
    rcases hh with h | h
    · exact hn h
    · exact h h0
  · rcases hhw x h with h | h
    · exact .inl h
    · exact .inr (.inl h)
  · simpa using ok.B
  · intro b k h; simpa using ok.imm b k h
  · intro x h
    rcases hhw x h with h | h
    · simpa using ok.hw x h
    · simpa using hlt x h

theorem okTy_store {t : TypeId} {n : Nat} {ag : Bool} (h : okTy P t n ag = true) : ∃ i, P.info? t = some i ∧ i.size = n := (okTy_spec h).1

def okSz (P : Program) (t : TypeId) (n : Nat) : Bool := (match P.info? t with | some i => i.size == n | none => false) && decide (1 ≤ n)
theorem okSz_spec {t : TypeId} {n : Nat} (h : okSz P t n = true) : (∃ i, P.info? t = some i ∧ i.size = n) ∧ 1 ≤ n := by
  simp only [okSz, Bool.and_eq_true, decide_eq_true_eq] at h
  refine ⟨?_, h.2⟩
  cases hi : P.info? t with
  | none => simp [hi] at h
  | some i => simp [hi] at h; exact ⟨i, rfl, h.1⟩

theorem run_storeAt {t : TypeId} {n : Nat} (h : okSz P t n = true) {g k : Nat} {old : Array Value} {e : TypeId} (hg : w.heap[g]? = some (.cells old e (0, 0))) {v : Value} (hv : v.cells.size = n) (hone : Ones v.cells.toList) (hk : k + n ≤ old.size) :
    (Instr.storeAt t (.pointer (some ⟨g, k, none⟩)) v).run P w = .ok () (w.setRow g (old.toList.take k ++ v.cells.toList ++ old.toList.drop (k + v.cells.toList.length)).toArray) := by
  obtain ⟨⟨i, hi, hsz⟩, _⟩ := okSz_spec h
  subst hv
  have := run_storeCells_at P g k e v.cells.toList 0 old w hg (by simp; omega) hone
  simp only [Nat.add_zero] at this
  simp only [Instr.storeAt, Instr.sureAddr, storeVar, Sem.run_bind, Sem.run_pure, Result.andThen_ok, run_sizeOf' hi, hsz, ne_eq, not_true_eq_false, if_false, this]

theorem setCells_length {cs xs : List DV} {off : Nat} (h : off + xs.length ≤ cs.length) : (setCells cs off xs).length = cs.length := by
  simp [setCells]; omega

/-- A store into a variable's own cells. -/
theorem step_stB (hF : F.WF) (hS : SRel F E G hw ew bx a w s) {i n p : Nat} {t : Nat} (hod : o.dst = none) (hsl : F.slot (.v p) = some t) {ins : List Src} (hn : (movedL ins).Nodup) (hnp : ELoc.v p ∉ movedL ins)
    {ty : TypeId} {x y : Operand} (ho : o.op = .store ty x y) (hty : okSz P ty n = true) {rb k : Nat} (hb : bx p = some rb) (hadr : a.eval x = .pointer (some ⟨rb, k, none⟩)) {cs : List DV} (hbox : s.vars.getD p .junk = .box cs)
    {d : DV} {r : List Nat} (hx : VRel G w d (a.eval y) r) (hnr : r.Nodup) (hown : ∀ b ∈ r, ∃ l ∈ movedL ins, ew b = some l) (hlen : (cellsOf d).length = n) (hk : k + n ≤ cs.length) {adr : DV} :
    StepRes P F E o a w (writeD i (.v p) (.box (setCells cs k (cellsOf d))) { (ins.foldl (moveS (.stB p n) adr) s) with heap := s.heap }) := by
  have hbk : ∀ d, back (.stB p n) d adr = strip d := fun d => by cases d <;> rfl
  have hl := moves_len (.stB p n) adr ins s
  have h1 := (okSz_spec hty).2
  obtain ⟨rb', c, e, rs, hb', hval, hc, hcl, hnd, howns, himm, hB, hbxs, hone⟩ := box_cells hS hsl hbox
  rw [hb] at hb'; simp at hb'; subst hb'
  have hcsz : c.size = cs.length := by have := hcl.length; simpa using this
  obtain ⟨hvl, hvs, hvone⟩ := hx.cells_n hlen h1
  obtain ⟨ra, rm, rc, er, hset⟩ := hcl.set hvl (off := k)
  have hrw : ∀ x ∈ r, hw x = none ∧ x < w.heap.size := fun x hx' => by
    obtain ⟨l, _, h2⟩ := hown x hx'
    exact ⟨hS.disj x (by rw [h2]; simp), hS.ewlt x (by rw [h2]; simp)⟩
  have hrbw : ∀ x ∈ rb :: rs, hw x = none ∧ x < w.heap.size := fun x hx' => by
    have h2 := howns x hx'
    exact ⟨hS.disj x (by rw [h2]; simp), hS.ewlt x (by rw [h2]; simp)⟩
  have hdis : ∀ x ∈ r, x ∉ rb :: rs := fun x h1 h2 => by
    obtain ⟨l, hl1, hl2⟩ := hown x h1
    rw [howns x h2] at hl2
    simp at hl2; subst hl2
    exact hnp hl1
  let hand := (rb :: rs) ++ r
  have hhlt : ∀ x ∈ hand, x < w.heap.size := fun x hx' => by
    rcases List.mem_append.1 hx' with h | h
    · exact (hrbw x h).2
    · exact (hrw x h).2
  have hrun := run_storeAt (P := P) (w := w) hty hc hvs hvone (by rw [hcsz]; exact hk)
  let c' : Array Value := (c.toList.take k ++ (a.eval y).cells.toList ++ c.toList.drop (k + (a.eval y).cells.toList.length)).toArray
  have hc' := CPres.setRow hS.ok hc c' hand himm (.inl (by simp [hand])) hw (fun x h => .inl h) hhlt
  have hstay : ∀ q : List Nat, (∀ x ∈ q, x ≠ rb) → Stays G w G (w.setRow rb c') q := fun q hq x hx' => ⟨setRow_other w rb x c' (hq x hx'), fun _ h => h⟩
  have hrsn : ∀ x ∈ rs, x ≠ rb := fun x hx' e => by subst e; simp at hnd; exact hnd.1 hx'
  have hset' : VRelL G (w.setRow rb c') (setCells cs k (cellsOf d)) c'.toList (ra ++ r ++ rc) := by
    refine VRelL.mono hc'.mono _ (by simpa [c'] using hset) (hstay _ fun x hx' e => ?_)
    subst e
    simp only [List.mem_append] at hx'
    rcases hx' with (h | h) | h
    · exact hrsn _ (by rw [er]; simp [h]) rfl
    · exact hdis _ h (by simp)
    · exact hrsn _ (by rw [er]; simp [h]) rfl
  have hsub : ∀ x ∈ rb :: (ra ++ r ++ rc), x ∈ hand := fun x hx' => by
    simp only [List.mem_cons, List.mem_append, hand, er] at hx' ⊢
    rcases hx' with h | (h | h) | h <;> simp [h]
  have hnd' : (rb :: (ra ++ r ++ rc)).Nodup := by
    rw [er] at hnd hdis
    simp only [List.nodup_cons, List.mem_append, List.nodup_append, List.mem_cons, not_or] at hnd hdis ⊢
    obtain ⟨⟨⟨q1, q2⟩, q3⟩, ⟨q4, q5, q6⟩, q7, q8⟩ := hnd
    refine ⟨⟨⟨q1, fun h => (hdis _ h).1 rfl⟩, q3⟩, ⟨q4, hnr, fun b hb c hc e => ?_⟩, q7, fun b hb c hc e => ?_⟩
    · subst e; exact (hdis _ hc).2.1.1 hb
    · rcases hb with hb | hb
      · exact q8 b (.inl hb) c hc e
      · subst e; exact (hdis _ hb).2.2 hc
  have hput : (a.put o.dst undef) = a := by rw [hod]; rfl
  have hlt : ∀ x b, hw x = some b → x < w.heap.size := fun x b h => hS.ok.hw x (by rw [h]; simp)
  have hHR : HRel G hw (w.setRow rb c') s.heap := hS.heap.mono hc'.mono rfl (fun x b hb' => ⟨setRow_other w rb x c' (fun e => by
      subst e; rw [(hrbw _ (by simp)).1] at hb'; simp at hb'), fun _ h => h⟩) (fun _ _ h => h)
  -- the pointer in p's slot stays: written with what it has
  have hslt := hF.lt _ _ hsl
  have hself : a.put (some t) (a.tmps.getD t undef) = a := by
    cases a with
    | mk tm df =>
      simp only [Act.put, Act.mk.injEq, and_true]
      apply Array.ext
      · simp
      · intro j h1 h2
        have hts : t < tm.size := Nat.lt_of_lt_of_le hslt hS.size
        rw [Array.getElem_setIfInBounds]
        split
        · rename_i e; subst e; simp
        · rfl
  obtain ⟨ew', h⟩ := SRel.finish hF hS (movedL ins) hand (some (.v p)) (some t) (fun x hx' => by
      rcases List.mem_append.1 hx' with h | h
      · exact ⟨.v p, howns x h, .inr rfl⟩
      · obtain ⟨l, h1, h2⟩ := hown x h; exact ⟨l, h2, .inl h1⟩)
    hc' hHR hl.1 hl.2.1 (fun l h => moves_other (.stB p n) adr ins s l h) (moved_stays hS hbk hn hand) (fun l e => by simp at e; subst e; exact hsl) (by simp) (by simp)
    (bx' := bx) (fun _ _ => rfl) (fun _ _ _ _ => rfl)
    (d := .box (setCells cs k (cellsOf d))) (v := a.tmps.getD t undef) (r := rb :: (ra ++ r ++ rc))
    (by
      refine .of ?_
      simp only [VRel]
      refine ⟨rb, c', e, ra ++ r ++ rc, hval, setRow_eq w rb c c' e hc, hset', rfl, himm, hB, ?_⟩
      simp only [c']
      exact ((hone.take _).append hvone).append (hone.drop _))
    hnd' (fun x hx' => by
      have hm := hsub x hx'
      refine ⟨?_, by simpa using hhlt x hm, .inl hm⟩
      rcases List.mem_append.1 hm with h | h
      · exact (hrbw x h).1
      · exact (hrw x h).1)
    (fun cs' _ => ⟨p, rb, rfl, hbxs, hb, hval⟩)
  rw [hself] at h
  refine ⟨undef, _, G, hw, ew', bx, .inr ⟨?_, rfl⟩, by rw [hput]; exact writeD_finish (D := .v p) h⟩
  simp [execOp, ho, hadr, hrun, c']

/-- A store into the evaluator's heap. -/
theorem step_stP (hF : F.WF) (hS : SRel F E G hw ew bx a w s) {i n : Nat} (hod : o.dst = none) {ins : List Src} (hn : (movedL ins).Nodup)
    {ty : TypeId} {x y : Operand} (ho : o.op = .store ty x y) (hty : okSz P ty n = true) {rb b k : Nat} (hb : G.hb[b]? = some rb) (hadr : a.eval x = .pointer (some ⟨rb, k, none⟩)) {cs : List DV} (hcs : s.heap[b]? = some cs)
    {d : DV} {r : List Nat} (hx : VRel G w d (a.eval y) r) (hnr : r.Nodup) (hown : ∀ b ∈ r, ∃ l ∈ movedL ins, ew b = some l) (hlen : (cellsOf d).length = n) (hk : k + n ≤ cs.length) {adr : DV} :
    StepRes P F E o a w (writeD i .none undefD { (ins.foldl (moveS (.stP n) adr) s) with heap := s.heap.set b (setCells cs k (cellsOf d)) }) := by
  have hbk : ∀ d, back (.stP n) d adr = strip d := fun d => by cases d <;> rfl
  have hl := moves_len (.stP n) adr ins s
  have h1 := (okSz_spec hty).2
  obtain ⟨rb', c, e, rs, pm, hb', hc, hcl, hnd, howns, himm, hB, hone⟩ := hS.heap.2 b cs hcs
  rw [hb] at hb'; simp at hb'; subst hb'
  have hcsz : cs.length ≤ c.size := by have := hcl.length; rw [List.length_append] at this; simp at this; omega
  obtain ⟨hvl, hvs, hvone⟩ := hx.cells_n hlen h1
  obtain ⟨ra, rm, rc, er, hset⟩ := hcl.set hvl (off := k)
  rw [setCells_pad (by rw [hlen]; exact hk)] at hset
  have hrw : ∀ x ∈ r, hw x = none ∧ x < w.heap.size := fun x hx' => by
    obtain ⟨l, _, h2⟩ := hown x hx'
    exact ⟨hS.disj x (by rw [h2]; simp), hS.ewlt x (by rw [h2]; simp)⟩
  have hlt : ∀ x b, hw x = some b → x < w.heap.size := fun x b h => hS.ok.hw x (by rw [h]; simp)
  have hdis : ∀ x ∈ r, ∀ q, hw x ≠ some q := fun x h q e => by rw [(hrw x h).1] at e; simp at e
  have hrun := run_storeAt (P := P) (w := w) hty hc hvs hvone (Nat.le_trans hk hcsz)
  let c' : Array Value := (c.toList.take k ++ (a.eval y).cells.toList ++ c.toList.drop (k + (a.eval y).cells.toList.length)).toArray
  let hw' : HW := fun x => if x ∈ r then some b else hw x
  have hc' := CPres.setRow hS.ok hc c' r himm (.inr (by rw [howns rb (by simp)]; simp)) hw' (fun x h => by
    by_cases hxr : x ∈ r
    · exact .inr hxr
    · simp [hw', hxr] at h; exact .inl h) (fun x h => (hrw x h).2)
  have hne : ∀ x q, hw x = some q → hw' x = some q := fun x q h => by
    have : x ∉ r := fun hr => hdis x hr q h
    simp [hw', this, h]
  have hrsn : ∀ x ∈ rs, x ≠ rb := fun x hx' e => by subst e; simp at hnd; exact hnd.1 hx'
  have hset' : VRelL G (w.setRow rb c') (setCells cs k (cellsOf d) ++ pad pm) c'.toList (ra ++ r ++ rc) := by
    refine VRelL.mono hc'.mono _ (by simpa [c'] using hset) fun x hx' => ⟨setRow_other w rb x c' ?_, fun _ h => h⟩
    rintro rfl
    simp only [List.mem_append] at hx'
    rcases hx' with (h | h) | h
    · exact hrsn _ (by rw [er]; simp [h]) rfl
    · exact hdis _ h b (howns _ (by simp))
    · exact hrsn _ (by rw [er]; simp [h]) rfl
  have hbl : b < s.heap.length := by
    rcases Nat.lt_or_ge b s.heap.length with h | h
    · exact h
    · rw [List.getElem?_eq_none h] at hcs; simp at hcs
  have hH : HRel G hw' (w.setRow rb c') (s.heap.set b (setCells cs k (cellsOf d))) := by
    refine ⟨by simp [hS.heap.1], fun q cs' hq => ?_⟩
    by_cases hqb : q = b
    · subst hqb
      rw [List.getElem?_set_self hbl] at hq
      simp at hq; subst hq
      refine ⟨rb, c', e, ra ++ r ++ rc, pm, hb, setRow_eq w rb c c' e hc, hset', ?_, fun x hx' => ?_, himm, hB, ((hone.take _).append hvone).append (hone.drop _)⟩
      · rw [er] at hnd
        have hd1 : ∀ x ∈ r, x ≠ rb ∧ x ∉ ra ∧ x ∉ rc := fun x hxr => ⟨fun e => hdis x hxr q (howns x (by simp [e])), fun h => hdis x hxr q (howns x (by simp [er, h])), fun h => hdis x hxr q (howns x (by simp [er, h]))⟩
        simp only [List.nodup_cons, List.mem_append, List.nodup_append, not_or] at hnd ⊢
        obtain ⟨⟨⟨q1, q2⟩, q3⟩, ⟨q4, q5, q6⟩, q7, q8⟩ := hnd
        refine ⟨⟨⟨q1, fun h => (hd1 _ h).1 rfl⟩, q3⟩, ⟨q4, hnr, fun y hy z hz e => ?_⟩, q7, fun y hy z hz e => ?_⟩
        · subst e; exact (hd1 _ hz).2.1 hy
        · rcases hy with hy | hy
          · exact q8 y (.inl hy) z hz e
          · subst e; exact (hd1 _ hy).2.2 hz
      · simp only [List.mem_cons, List.mem_append] at hx'
        rcases hx' with h | (h | h) | h
        · exact hne _ _ (howns x (by simp [h]))
        · exact hne _ _ (howns x (by simp [er, h]))
        · simp [hw', h]
        · exact hne _ _ (howns x (by simp [er, h]))
    · rw [List.getElem?_set_ne (fun e => hqb e.symm)] at hq
      obtain ⟨rb2, c2, e2, r2, pm2, g1, g2, g3, g4, g5, g6, g7, g8⟩ := hS.heap.2 q cs' hq
      have hns : ∀ x ∈ rb2 :: r2, x ≠ rb := fun x hx' e => by
        subst e
        have := g5 _ hx'
        rw [howns _ (by simp)] at this
        simp at this; exact hqb this.symm
      refine ⟨rb2, c2, e2, r2, pm2, g1, ?_, VRelL.mono hc'.mono _ g3 (fun x hx' => ⟨setRow_other w rb x c' (hns x (by simp [hx'])), fun _ h => h⟩), g4, fun x hx' => hne _ _ (g5 x hx'), g6, g7, g8⟩
      rw [setRow_other w rb rb2 c' (hns rb2 (by simp))]; exact g2
  obtain ⟨ew', h⟩ := SRel.finish hF hS (movedL ins) r none none (fun x hx' => by
      obtain ⟨l, h1, h2⟩ := hown x hx'; exact ⟨l, h2, .inl h1⟩)
    hc' hH hl.1 hl.2.1 (fun l h => moves_other (.stP n) adr ins s l h) (moved_stays hS hbk hn r) (by simp) (by simp) (by simp)
    (bx' := bx) (fun _ _ => rfl) (fun _ _ _ _ => rfl)
    (d := .junk) (v := undef) (r := []) (by simp [XRel, VRel]) (by simp) (by simp) (by simp)
  refine ⟨undef, w.setRow rb c', G, hw', ew', bx, .inr ⟨?_, rfl⟩, ?_⟩
  · simp [execOp, ho, hadr, hrun, c']
  · rw [hod]; exact h

end
end Go.D
