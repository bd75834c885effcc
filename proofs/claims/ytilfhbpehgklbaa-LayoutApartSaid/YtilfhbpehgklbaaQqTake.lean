/- Copy; conversions between texts and bytes; loads that take. -/
import Derived.Test.YtilfhbpehgklbaaQqApp
set_option linter.unusedSimpArgs false
set_option linter.unusedVariables false
namespace Go.D

section
variable {P : Program} {F : Fr} {E : Entry} {G : Ghost} {hw : HW} {ew : EW} {bx : Nat → Option Nat} {a : Act} {w : World} {s : St} {o : Oper}

theorem elems_cells {sz : Nat} (h1 : 1 ≤ sz) : ∀ {ys : List DV} {l : List Value}, ElemsL G w sz ys l → (ys.all (fun x => (cellsOf x).length == sz)) = true → VRelL G w (ys.flatMap cellsOf) l []
  | [], l, h, _ => by simp only [ElemsL] at h; subst h; simp [VRelL]
  | d :: ds, l, h, ha => by
    simp only [ElemsL] at h
    obtain ⟨v, rest, rfl, hv, hs, _, hr⟩ := h
    simp only [List.all_cons, Bool.and_eq_true, beq_iff_eq] at ha
    rw [List.flatMap_cons]
    exact VRelL.append (ra := []) (rb := []) (hv.cells_n ha.1 h1).1 (elems_cells h1 hr ha.2)

/-- copy. -/
theorem step_cpy (hF : F.WF) (hS : SRel F E G hw ew bx a w s) {i : Nat} {D : Dst} (hD : okDst F i o.dst D = true) {op : DOp} {adr : DV} (hbk : ∀ d, back op d adr = strip d) {ins : List Src} (hn : (movedL ins).Nodup)
    {t u : TypeId} {sz : Nat} (ht : okEl P t sz = true) (hsz1 : 1 ≤ sz) {x y : Operand} (ho : o.op = .call { callee := .builtin .copy, args := #[x, y], argTypes := #[t, u] })
    {b off len cap : Nat} {rb : Nat} (hb : G.hb[b]? = some rb) (hx : a.eval x = .slice (some ⟨rb, off, none⟩) len cap) {cs : List DV} (hcs : s.heap[b]? = some cs)
    {ys : List DV} {news : List Value} (hy : Gives P G w (a.eval y) sz ys news) (hfit : off + len * sz ≤ cs.length) (hall : ((ys.take len).all (fun x => (cellsOf x).length == sz)) = true) :
    StepRes P F E o a w (writeD i D (.sc (.int .i64 (min ys.length len : Nat))) { (ins.foldl (moveS op adr) s) with heap := s.heap.set b (setCells cs off ((ys.take len).flatMap cellsOf)) }) := by
  obtain ⟨d1, d2, d3⟩ := okDst_spec hD
  have hl := moves_len op adr ins s
  obtain ⟨e, it, hu, hi, hs⟩ := okEl_spec ht
  obtain ⟨rb', c, e', rs, pm, hb', hc, hcl, hnd, howns, himm, hB, hone⟩ := hS.heap.2 b cs hcs
  rw [hb] at hb'; simp at hb'; subst hb'
  have hcsz : cs.length ≤ c.size := by have := hcl.length; rw [List.length_append] at this; simp at this; omega
  let n := min ys.length len
  have hel := hy.el.take len
  have hnews : news.take (len * sz) = news.take (n * sz) := by
    have := hy.el.length
    by_cases h : ys.length ≤ len
    · have e1 : n = ys.length := Nat.min_eq_left h
      rw [List.take_of_length_le (by rw [this]; exact Nat.mul_le_mul_right _ h), e1, List.take_of_length_le (by omega)]
    · have e1 : n = len := Nat.min_eq_right (by omega)
      rw [e1]
  have hvl := elems_cells hsz1 hel hall
  rw [hnews] at hel hvl
  have hones := hel.ones
  have hnl : (news.take (n * sz)).length = n * sz := by
    have := hy.el.length
    rw [List.length_take, this]; exact Nat.min_eq_left (Nat.mul_le_mul_right _ (Nat.min_le_left _ _))
  have hnle : n * sz ≤ len * sz := Nat.mul_le_mul_right _ (Nat.min_le_right _ _)
  obtain ⟨ra, rm, rc, er, hset⟩ := hcl.set hvl (off := off)
  have hfl : ((ys.take len).flatMap cellsOf).length = n * sz := by have := hvl.length; rw [hnl] at this; exact this.symm
  rw [setCells_pad (by rw [hfl]; omega)] at hset
  let c' : Array Value := (c.toList.take off ++ news.take (n * sz) ++ c.toList.drop (off + (news.take (n * sz)).length)).toArray
  have hc' := CPres.setRow hS.ok hc c' [] himm (.inr (by rw [howns rb (by simp)]; simp)) hw (fun x h => .inl h) (by simp)
  have hrsn : ∀ x ∈ rs, x ≠ rb := fun x hx' e => by subst e; simp at hnd; exact hnd.1 hx'
  have hset' : VRelL G (w.setRow rb c') (setCells cs off ((ys.take len).flatMap cellsOf) ++ pad pm) c'.toList (ra ++ [] ++ rc) := by
    refine VRelL.mono hc'.mono _ (by simpa [c'] using hset) fun x hx' => ⟨setRow_other w rb x c' ?_, fun _ h => h⟩
    rintro rfl
    simp only [List.append_nil, List.mem_append] at hx'
    rcases hx' with h | h
    · exact hrsn _ (by rw [er]; simp [h]) rfl
    · exact hrsn _ (by rw [er]; simp [h]) rfl
  have hbl : b < s.heap.length := by
    rcases Nat.lt_or_ge b s.heap.length with h | h
    · exact h
    · rw [List.getElem?_eq_none h] at hcs; simp at hcs
  have hH : HRel G hw (w.setRow rb c') (s.heap.set b (setCells cs off ((ys.take len).flatMap cellsOf))) := by
    refine ⟨by simp [hS.heap.1], fun q cs' hq => ?_⟩
    by_cases hqb : q = b
    · subst hqb
      rw [List.getElem?_set_self hbl] at hq
      simp at hq; subst hq
      refine ⟨rb, c', e', ra ++ [] ++ rc, pm, hb, setRow_eq w rb c c' e' hc, hset', ?_, fun x hx' => howns x ?_, himm, hB, ((hone.take _).append hones).append (hone.drop _)⟩
      · rw [er] at hnd
        simp only [List.nodup_cons, List.mem_append, List.nodup_append, not_or, List.append_nil] at hnd ⊢
        obtain ⟨⟨⟨q1, q2⟩, q3⟩, ⟨q4, q5, q6⟩, q7, q8⟩ := hnd
        exact ⟨⟨q1, q3⟩, q4, q7, fun y hy z hz => q8 y (.inl hy) z hz⟩
      · simp only [List.append_nil, List.mem_cons, List.mem_append, er] at hx' ⊢
        rcases hx' with h | h | h <;> simp [h]
    · rw [List.getElem?_set_ne (fun e => hqb e.symm)] at hq
      obtain ⟨rb2, c2, e2, r2, pm2, g1, g2, g3, g4, g5, g6, g7, g8⟩ := hS.heap.2 q cs' hq
      have hns : ∀ x ∈ rb2 :: r2, x ≠ rb := fun x hx' e => by
        subst e
        have := g5 _ hx'
        rw [howns _ (by simp)] at this
        simp at this; exact hqb this.symm
      refine ⟨rb2, c2, e2, r2, pm2, g1, ?_, VRelL.mono hc'.mono _ g3 (fun x hx' => ⟨setRow_other w rb x c' (hns x (by simp [hx'])), fun _ h => h⟩), g4, g5, g6, g7, g8⟩
      rw [setRow_other w rb rb2 c' (hns rb2 (by simp))]; exact g2
  obtain ⟨ew', h⟩ := SRel.finish hF hS (movedL ins) [] (D.loc i) o.dst (by simp)
    hc' hH hl.1 hl.2.1 (fun l h => moves_other op adr ins s l h) (moved_stays hS hbk hn []) d1 d2 d3
    (bx' := bx) (fun _ _ => rfl) (fun _ _ _ _ => rfl)
    (d := .sc (.int .i64 (n : Nat))) (v := .int .i64 (n : Nat)) (r := []) (by simp [XRel, VRel, plain]) (by simp) (by simp) (by simp)
  refine ⟨_, _, G, hw, ew', bx, .inl ?_, writeD_finish h⟩
  have hst := run_storeCells_at P rb off e' (news.take (n * sz)) 0 c w hc (by rw [hnl]; omega) hones
  simp only [Nat.add_zero] at hst
  have hf := hy.first n (Nat.min_le_left _ _) w (fun _ _ => rfl)
  have hlen := hy.len w
  have hrun : ∀ ty, (Builtin.copy_ #[t, u] ty #[a.eval x, a.eval y]).run P w = .ok (.int .i64 (n : Nat)) (w.setRow rb c') := by
    intro ty
    rw [hx]
    simp only [Builtin.copy_, List.getElem?_toArray, List.getElem?_cons_zero, List.getElem?_cons_succ, Sem.run_bind, run_underlying hu, Result.andThen_ok, Sem.run_pure, hlen, run_sizeOf' hi, hs]
    have : Nat.min ys.length len = n := rfl
    rw [this, hf]
    simp only [Result.andThen_ok, hst, goInt, c']
  simp [execOp, ho, resolve, invoke, builtin, hrun]

/-- '[]byte(s)'. -/
theorem step_cvSB (hF : F.WF) (hS : SRel F E G hw ew bx a w s) {i : Nat} {D : Dst} (hD : okDst F i o.dst D = true) {op : DOp} {adr : DV} (hbk : ∀ d, back op d adr = strip d) {ins : List Src} (hn : (movedL ins).Nodup)
    {src dst e : TypeId} {ud : TypeDesc} (hs : P.underlying src = some ud) (hd : P.underlying dst = some (.slice e)) (he : P.underlying e = some (.int .u8)) {x : Operand} (ho : o.op = .convert src dst x)
    {st : ByteArray} (hx : a.eval x = .string st) :
    StepRes P F E o a w (writeD i D (.sl .view 1 (ofBytes st.data.toList)) { (ins.foldl (moveS op adr) s) with heap := s.heap }) := by
  obtain ⟨d1, d2, d3⟩ := okDst_spec hD
  have hl := moves_len op adr ins s
  have hrun := Lib.run_convert_string_bytes (P := P) w src dst e st hs hd he
  let w' := Lib.bytesWorld w e st
  let G' : Ghost := { G with imm := fun b k => G.imm b k ∨ (b = w.heap.size ∧ k < st.size) }
  have hc' : CPres G hw w [] G' hw w' := by
    refine ⟨rfl, rfl, rfl, by simp only [w', Lib.bytesWorld_size]; omega, rfl, fun _ _ h => .inl h, fun b k h => Lib.bytesWorld_old w e st _ (hS.ok.imm b k h), ⟨[], by simp [G']⟩,
      fun x hx _ _ => ⟨Lib.bytesWorld_at_old w e st x hx, fun k h => ?_⟩, fun _ h => .inl h, ?_, ?_, ?_⟩
    · rcases h with h | ⟨rfl, _⟩
      · exact h
      · omega
    · simp only [w', Lib.bytesWorld_size]; have := hS.ok.B; simp only [G']; omega
    · rintro b k (h | ⟨rfl, _⟩)
      · simp only [w', Lib.bytesWorld_size]; have := hS.ok.imm b k h; omega
      · simp only [w', Lib.bytesWorld_size]; omega
    · intro x h; simp only [w', Lib.bytesWorld_size]; have := hS.ok.hw x h; omega
  have hH : HRel G' hw w' s.heap := hS.heap.mono hc'.mono rfl (fun x b hb' => by
    have h1 := hS.ok.hw x (by rw [hb']; simp)
    refine ⟨Lib.bytesWorld_at_old w e st x h1, fun k h => ?_⟩
    rcases h with h | ⟨rfl, _⟩
    · exact h
    · omega) (fun _ _ h => h)
  obtain ⟨ew', h⟩ := SRel.finish hF hS (movedL ins) [] (D.loc i) o.dst (by simp)
    hc' hH hl.1 hl.2.1 (fun l h => moves_other op adr ins s l h) (moved_stays hS hbk hn []) d1 d2 d3
    (bx' := bx) (fun _ _ => rfl) (fun _ _ _ _ => rfl)
    (d := .sl .view 1 (ofBytes st.data.toList)) (v := .slice (some ⟨w.heap.size, 0, none⟩) st.size (grownCap w st.size 0 e)) (r := [])
    (by
      refine .of ?_
      simp only [VRel]
      have hlen : (ofBytes st.data.toList).length = st.size := by simp only [ofBytes, List.length_map]; rfl
      refine ⟨_, _, by rw [hlen], by rw [hlen]; exact grownCap_ge w st.size 0 e, .inr ⟨w.heap.size, 0, rfl, (bytes_elems _).elems fun k c hk => ?_, rfl⟩⟩
      have hk' : k < (st.data.toList.map fun b => Value.int .u8 b.toNat).length := by
        rcases Nat.lt_or_ge k (st.data.toList.map fun b => Value.int .u8 b.toNat).length with h | h
        · exact h
        · rw [List.getElem?_eq_none h] at hk; simp at hk
      have hks : k < st.size := by rw [List.length_map] at hk'; exact hk'
      refine ⟨.inr ⟨rfl, by omega⟩, ?_⟩
      rw [Nat.zero_add, Lib.bytesWorld_cell w e st k hks, ← hk]
      rw [List.length_map] at hk'
      simp [List.getD, List.getElem?_eq_getElem hk'])
    (by simp) (by simp) (by simp)
  exact ⟨_, _, G', hw, ew', bx, .inl (by simp [execOp, ho, hx, hrun, w']), writeD_finish h⟩

theorem bytesOf_elems : ∀ {ys : List DV} {l : List Value} {bs : List UInt8}, ElemsL G w 1 ys l → bytesOf ys = some bs → ∃ ns : List Int, l = ns.map (Value.int .u8) ∧ bs = ns.map fun n => UInt8.ofNat n.toNat
  | [], l, bs, h, hb => by simp only [ElemsL] at h; simp [bytesOf] at hb; subst h; subst hb; exact ⟨[], rfl, rfl⟩
  | d :: ds, l, bs, h, hb => by
    simp only [ElemsL] at h
    obtain ⟨v, rest, rfl, hv, _, _, hr⟩ := h
    cases d with
    | sc u =>
      cases u with
      | int k n =>
        cases k <;> try (simp [bytesOf] at hb; done)
        simp only [bytesOf, Option.map_eq_some_iff] at hb
        obtain ⟨bs', hb', rfl⟩ := hb
        obtain ⟨ns, rfl, rfl⟩ := bytesOf_elems hr hb'
        simp only [VRel] at hv
        obtain ⟨rfl, _⟩ := hv
        exact ⟨n :: ns, rfl, rfl⟩
      | _ => simp [bytesOf] at hb
    | _ => simp [bytesOf] at hb

/-- 'string(b)'. -/
theorem pure_cvBS {src dst e : TypeId} (hs : P.underlying src = some (.slice e)) (he : P.underlying e = some (.int .u8)) (hd : P.underlying dst = some .string) {x : Operand} (ho : o.op = .convert src dst x)
    {ad : Option Addr} {len cap : Nat} (hx : a.eval x = .slice ad len cap) {ys : List DV} {news : List Value} (hy : Gives P G w (a.eval x) 1 ys news) {bs : List UInt8} (hb : bytesOf ys = some bs) (M : List ELoc) :
    PureRes P o a w G bx ew M (.sc (.string ⟨bs.toArray⟩)) := by
  obtain ⟨ns, hns, rfl⟩ := bytesOf_elems hy.el hb
  have hlen := hy.len w
  have hf := hy.first ys.length (Nat.le_refl _) w (fun _ _ => rfl)
  have hnl := hy.el.length
  rw [List.take_of_length_le (by omega)] at hf
  rw [hx] at hlen hf
  simp only [Builtin.lenOf, Sem.run_pure, Result.ok.injEq, and_true] at hlen
  refine PureRes.sc rfl ?_
  simp only [execOp, ho, hx, Sem.run_bind, run_convert_bytes_string w src dst e ad len cap hs he hd]
  cases ad with
  | none =>
    simp only [Builtin.firstCells, Sem.run_pure, Result.ok.injEq, and_true] at hf
    have : news = [] := by simpa using hf.symm
    rw [this] at hns
    have : ns = [] := by cases ns <;> simp at hns ⊢
    subst this
    simp [Conv.bytesToString]; rfl
  | some q =>
    simp only [Builtin.firstCells, Nat.mul_one, ← hlen] at hf
    have := run_bytesToString (P := P) w q len cap ns (by rw [hf, hns])
    rw [this]
    have hfold : ∀ (ns : List Int) (s : ByteArray), ns.foldl (fun r n => r.push (UInt8.ofNat n.toNat)) s = ⟨s.data ++ (ns.map fun n => UInt8.ofNat n.toNat).toArray⟩ := by
      intro ns
      induction ns with
      | nil => intro s; simp
      | cons n ns ih => intro s; rw [List.foldl_cons, ih]; simp [ByteArray.push]
    have he0 : ByteArray.empty.data = #[] := rfl
    rw [hfold, he0]
    simp

/-- A part of cells that is taken: what is handed on, and what stays. -/
theorem take_part {cs : List DV} {l : List Value} {r : List Nat} (h : VRelL G w cs l r) (hone : Ones l) {k n : Nat} {ag : Bool} (hn : k + n ≤ cs.length) (h1 : ag = false → n = 1) :
    ∃ ra rm rc, r = ra ++ rm ++ rc ∧ VRel G w (ofCells ag ((cs.drop k).take n)) (if ag then .agg ((l.drop k).take n).toArray else ((l.drop k).take n).headD undef) rm ∧ ((l.drop k).take n).length = n ∧
      VRelL G w (setCells cs k (stripL ((cs.drop k).take n))) l (ra ++ rc) := by
  obtain ⟨ra, r2, e1, k1, k2⟩ := h.cut k
  obtain ⟨rm, rc, e2, k3, k4⟩ := k2.cut n
  have hll := h.length
  refine ⟨ra, rm, rc, by rw [e1, e2, List.append_assoc], k3.ofCells ag (fun e => by simp; have := h1 e; omega) ((hone.drop _).take _), by simp; omega, ?_⟩
  have k5 := VRelL.strip _ k3
  have hsl : (stripL ((cs.drop k).take n)).length = n := by rw [stripL_eq]; simp; omega
  have := (k1.append k5).append k4
  have el : l.take k ++ (l.drop k).take n ++ (l.drop k).drop n = l := by rw [List.append_assoc, List.take_append_drop, List.take_append_drop]
  rw [el] at this
  simpa [setCells, hsl, List.append_assoc] using this

/-- A load that takes: out of a variable's own cells. -/
theorem step_ldBT (hF : F.WF) (hS : SRel F E G hw ew bx a w s) {i : Nat} {D : Dst} (hD : okDst F i o.dst D = true) {p n k t : Nat} {ag : Bool} {ty : TypeId} {x : Operand} (hsl : F.slot (.v p) = some t)
    (ho : o.op = .load ty x) (hty : okTy P ty n ag = true) {rb : Nat} (hb : bx p = some rb) (hadr : a.eval x = .pointer (some ⟨rb, k, none⟩)) {cs : List DV} (hbox : s.vars.getD p .junk = .box cs) (hn : k + n ≤ cs.length)
    (hnb : ∀ c, ofCells ag ((cs.drop k).take n) ≠ .box c) {s1 : St} (hs1 : s1 = { s with vars := s.vars.set p (.box (setCells cs k (stripL ((cs.drop k).take n)))) }) :
    StepRes P F E o a w (writeD i D (ofCells ag ((cs.drop k).take n)) { s1 with heap := s.heap }) := by
  obtain ⟨d1, d2, d3⟩ := okDst_spec hD
  obtain ⟨rb', c, e, rs, hb', hval, hc, hcl, hnd, howns, himm, hB, hbxs, hone⟩ := box_cells hS hsl hbox
  rw [hb] at hb'; simp at hb'; subst hb'
  have h1 := (okTy_spec hty).2.2.2
  obtain ⟨ra, rm, rc, er, hv, hlen, hstay⟩ := take_part hcl hone hn h1
  have hrbw : ∀ x ∈ rb :: rs, hw x = none ∧ x < w.heap.size := fun x hx' => by
    have h2 := howns x hx'
    exact ⟨hS.disj x (by rw [h2]; simp), hS.ewlt x (by rw [h2]; simp)⟩
  have hrm : ∀ x ∈ rm, x ∈ rb :: rs := fun x h => by rw [er]; simp [h]
  have hrun := run_loadVar (P := P) (w := w) (rb := rb) (off := k) hty hlen (fun j c' hj => by
    rw [cell_of_block hc]; have := getElem?_part _ _ _ _ _ hj; simpa using this)
  have hpl : p < s.vars.length := by
    rcases Nat.lt_or_ge p s.vars.length with h | h
    · exact h
    · rw [List.getD_eq_getElem?_getD, List.getElem?_eq_none h] at hbox; simp at hbox
  have hnd2 : (rb :: (ra ++ rc)).Nodup ∧ rm.Nodup ∧ ∀ x ∈ rb :: (ra ++ rc), x ∉ rm := by
    rw [er] at hnd
    simp only [List.nodup_cons, List.mem_append, List.nodup_append, not_or, List.mem_cons] at hnd ⊢
    obtain ⟨⟨⟨q1, q2⟩, q3⟩, ⟨q4, q5, q6⟩, q7, q8⟩ := hnd
    refine ⟨⟨⟨q1, q3⟩, q4, q7, fun y hy z hz => q8 y (.inl hy) z hz⟩, q5, fun x hx hm => ?_⟩
    rcases hx with rfl | hx | hx
    · exact q2 hm
    · exact q6 x hx x hm rfl
    · exact q8 x (.inr hm) x hx rfl
  obtain ⟨ew', h⟩ := SRel.finish hF hS [.v p] rm (D.loc i) o.dst (fun x hx' => ⟨.v p, howns x (hrm x hx'), .inl (by simp)⟩)
    (CPres.refl hS.ok rm) hS.heap (s1 := s1) (by simp [hs1]) (by simp [hs1])
    (fun l hl => by
      subst hs1
      cases l with
      | t j => rfl
      | v q =>
        simp only [St.val]
        rw [List.getElem?_set_ne]
        rintro rfl; simp at hl)
    (fun l hl t' d ht hd => by
      simp only [List.mem_singleton] at hl; subst hl
      rw [hsl] at ht; simp at ht; subst ht
      subst hs1
      simp only [St.val, List.getElem?_set_self hpl] at hd
      simp at hd; subst hd
      refine ⟨rb :: (ra ++ rc), hnd2.1, fun x hx' => ⟨howns x ?_, hnd2.2.2 x hx'⟩, .of ?_, fun cs' _ => ⟨p, rb, rfl, hbxs, hb, hval⟩⟩
      · simp only [List.mem_cons, List.mem_append, er] at hx' ⊢
        rcases hx' with h | h | h <;> simp [h]
      · simp only [VRel]
        exact ⟨rb, c, e, ra ++ rc, hval, hc, hstay, rfl, himm, hB, hone⟩)
    d1 d2 d3 (bx' := bx) (fun _ _ => rfl) (fun _ _ _ _ => rfl) (d := ofCells ag ((cs.drop k).take n)) (v := if ag then .agg ((c.toList.drop k).take n).toArray else ((c.toList.drop k).take n).headD undef) (r := rm)
    (.of hv) hnd2.2.1 (fun x hx' => ⟨(hrbw x (hrm x hx')).1, (hrbw x (hrm x hx')).2, .inl hx'⟩) (fun cs h => absurd h (hnb cs))
  exact ⟨_, _, G, hw, ew', bx, .inl (by simp [execOp, ho, hadr, Instr.loadAt, Instr.sureAddr, hrun]), writeD_finish h⟩

/-- A load that takes: out of the evaluator's heap. -/
theorem step_ldPT (hF : F.WF) (hS : SRel F E G hw ew bx a w s) {i : Nat} {D : Dst} (hD : okDst F i o.dst D = true) {op : DOp} {adr : DV} (hbk : ∀ d, back op d adr = strip d) {ins : List Src} (hns : (movedL ins).Nodup) {n k : Nat} {ag : Bool} {ty : TypeId} {x : Operand}
    (ho : o.op = .load ty x) (hty : okTy P ty n ag = true) {rb b : Nat} (hb : G.hb[b]? = some rb) (hadr : a.eval x = .pointer (some ⟨rb, k, none⟩)) {cs : List DV} (hcs : s.heap[b]? = some cs) (hn : k + n ≤ cs.length)
    (hnb : ∀ c, ofCells ag ((cs.drop k).take n) ≠ .box c) :
    StepRes P F E o a w (writeD i D (ofCells ag ((cs.drop k).take n)) { (ins.foldl (moveS op adr) s) with heap := s.heap.set b (setCells cs k (stripL ((cs.drop k).take n))) }) := by
  obtain ⟨d1, d2, d3⟩ := okDst_spec hD
  have hl := moves_len op adr ins s
  obtain ⟨rb', c, e, rs, pm, hb', hc, hcl, hnd, howns, himm, hB, hone⟩ := hS.heap.2 b cs hcs
  rw [hb] at hb'; simp at hb'; subst hb'
  have h1 := (okTy_spec hty).2.2.2
  obtain ⟨ra, rm, rc, er, hv, hlen, hstay⟩ := take_part hcl hone (show k + n ≤ (cs ++ pad pm).length by rw [List.length_append]; omega) h1
  rw [part_pad hn] at hv
  rw [part_pad hn, setCells_pad (by rw [stripL_eq, List.length_map, List.length_take, List.length_drop]; omega)] at hstay
  have hrun := run_loadVar (P := P) (w := w) (rb := rb) (off := k) hty hlen (fun j c' hj => by
    rw [cell_of_block hc]; have := getElem?_part _ _ _ _ _ hj; simpa using this)
  have hbl : b < s.heap.length := by
    rcases Nat.lt_or_ge b s.heap.length with h | h
    · exact h
    · rw [List.getElem?_eq_none h] at hcs; simp at hcs
  have hrm : ∀ x ∈ rm, hw x = some b := fun x h => howns x (by rw [er]; simp [h])
  have hnd2 : (rb :: (ra ++ rc)).Nodup ∧ rm.Nodup ∧ ∀ x ∈ rb :: (ra ++ rc), x ∉ rm := by
    rw [er] at hnd
    simp only [List.nodup_cons, List.mem_append, List.nodup_append, not_or, List.mem_cons] at hnd ⊢
    obtain ⟨⟨⟨q1, q2⟩, q3⟩, ⟨q4, q5, q6⟩, q7, q8⟩ := hnd
    refine ⟨⟨⟨q1, q3⟩, q4, q7, fun y hy z hz => q8 y (.inl hy) z hz⟩, q5, fun x hx hm => ?_⟩
    rcases hx with rfl | hx | hx
    · exact q2 hm
    · exact q6 x hx x hm rfl
    · exact q8 x (.inr hm) x hx rfl
  let hw' : HW := fun x => if x ∈ rm then none else hw x
  have hc' : CPres G hw w [] G hw' w := by
    refine ⟨rfl, rfl, rfl, Nat.le_refl _, rfl, fun _ _ h => h, fun _ _ _ => rfl, ⟨[], by simp⟩, fun _ _ _ _ => ⟨rfl, fun _ h => h⟩, fun x h => ?_, hS.ok.B, hS.ok.imm, fun x h => ?_⟩
    · by_cases hx : x ∈ rm
      · simp [hw', hx] at h
      · simp [hw', hx] at h; exact .inl h
    · by_cases hx : x ∈ rm
      · simp [hw', hx] at h
      · simp [hw', hx] at h; exact hS.ok.hw x h
  have hH : HRel G hw' w (s.heap.set b (setCells cs k (stripL ((cs.drop k).take n)))) := by
    refine ⟨by simp [hS.heap.1], fun q cs' hq => ?_⟩
    by_cases hqb : q = b
    · subst hqb
      rw [List.getElem?_set_self hbl] at hq
      simp at hq; subst hq
      refine ⟨rb, c, e, ra ++ rc, pm, hb, hc, hstay, hnd2.1, fun x hx' => ?_, himm, hB, hone⟩
      have : x ∉ rm := hnd2.2.2 x hx'
      simp only [hw', this, if_false]
      refine howns x ?_
      simp only [List.mem_cons, List.mem_append, er] at hx' ⊢
      rcases hx' with h | h | h <;> simp [h]
    · rw [List.getElem?_set_ne (fun e => hqb e.symm)] at hq
      obtain ⟨rb2, c2, e2, r2, pm2, g1, g2, g3, g4, g5, g6, g7, g8⟩ := hS.heap.2 q cs' hq
      refine ⟨rb2, c2, e2, r2, pm2, g1, g2, g3, g4, fun x hx' => ?_, g6, g7, g8⟩
      have : x ∉ rm := fun h => by
        have h1 := hrm x h
        rw [g5 x hx'] at h1
        simp at h1; exact hqb h1
      simp only [hw', this, if_false]; exact g5 x hx'
  obtain ⟨ew', h⟩ := SRel.finish hF hS (movedL ins) [] (D.loc i) o.dst (by simp)
    hc' hH hl.1 hl.2.1 (fun l h => moves_other op adr ins s l h) (moved_stays hS hbk hns []) d1 d2 d3
    (bx' := bx) (fun _ _ => rfl) (fun _ _ _ _ => rfl) (d := ofCells ag ((cs.drop k).take n)) (v := if ag then .agg ((c.toList.drop k).take n).toArray else ((c.toList.drop k).take n).headD undef) (r := rm)
    (.of hv) hnd2.2.1 (fun x hx' => ⟨by simp [hw', hx'], hS.ok.hw x (by rw [hrm x hx']; simp), .inr (.inl (by rw [hrm x hx']; simp))⟩) (fun cs h => absurd h (hnb cs))
  exact ⟨_, _, G, hw', ew', bx, .inl (by simp [execOp, ho, hadr, Instr.loadAt, Instr.sureAddr, hrun]), writeD_finish h⟩

end
end Go.D
