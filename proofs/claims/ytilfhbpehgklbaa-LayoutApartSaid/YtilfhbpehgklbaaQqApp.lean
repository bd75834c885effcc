/- Append, copy, conversions between texts and bytes; loads that take. -/
import Derived.Test.YtilfhbpehgklbaaQqStore
import Derived.Laws.AppendOwn
import Derived.Lib.ConvBytes
set_option linter.unusedSimpArgs false
set_option linter.unusedVariables false
namespace Go.D

section
variable {P : Program} {F : Fr} {E : Entry} {G : Ghost} {hw : HW} {ew : EW} {bx : Nat → Option Nat} {a : Act} {w : World} {s : St} {o : Oper}

theorem run_loadCells_at {w' : World} {rb off : Nat} {l : List Value} (h : ∀ (k : Nat) c, l[k]? = some c → w'.cell? ⟨rb, off + k, none⟩ = some c) :
    (loadCells ⟨rb, off, none⟩ l.length).run P w' = .ok l.toArray w' :=
  run_loadCells_list w' ⟨rb, off, none⟩ l (fun j v hj => by rw [addr_add]; exact h j v hj)

/-- What a slice, or a text, gives to append and copy. -/
structure Gives (P : Program) (G : Ghost) (w : World) (v : Value) (sz : Nat) (ys : List DV) (news : List Value) : Prop where
  el : ElemsL G w sz ys news
  len : ∀ w' : World, (Builtin.lenOf v).run P w' = .ok ys.length w'
  first : ∀ k, k ≤ ys.length → ∀ w' : World, (∀ b j, w'.cell? ⟨b, j, none⟩ = w.cell? ⟨b, j, none⟩) → (Builtin.firstCells sz k v).run P w' = .ok (news.take (k * sz)).toArray w'

theorem gives_row {rb off len cap sz : Nat} {ys : List DV} {news : List Value} (hl : ys.length = len) (el : ElemsL G w sz ys news) (h : ∀ (k : Nat) c, news[k]? = some c → w.cell? ⟨rb, off + k, none⟩ = some c) :
    Gives P G w (.slice (some ⟨rb, off, none⟩) len cap) sz ys news := by
  refine ⟨el, fun w' => by simp [Builtin.lenOf, hl], fun k hk w' hw' => ?_⟩
  have hn := el.length
  have hlen : (news.take (k * sz)).length = k * sz := by
    rw [List.length_take, hn]
    exact Nat.min_eq_left (Nat.mul_le_mul_right _ hk)
  have := run_loadCells_at (P := P) (w' := w') (rb := rb) (off := off) (l := news.take (k * sz)) (fun j c hj => by
    rw [hw']; apply h; rw [List.getElem?_take] at hj; split at hj
    · exact hj
    · simp at hj)
  rw [hlen] at this
  simp [Builtin.firstCells, this]

theorem bytes_elems (l : List UInt8) : ElemsL G w 1 (ofBytes l) (l.map fun b => Value.int .u8 b.toNat) := by
  induction l with
  | nil => simp [ofBytes, ElemsL]
  | cons b l ih =>
    simp only [ofBytes, List.map_cons, ElemsL]
    refine ⟨.int .u8 b.toNat, _, rfl, by simp [VRel, plain], rfl, ?_, ih⟩
    intro u hu; simp [Value.cells] at hu; subst hu; rfl

theorem gives (hS : SRel F E G hw ew bx a w s) {s0 : Src} {y : Operand} (h0 : okSrcN F s0 y = true) {d : DV} (hd : (readS s s0).2 = d) {sz : Nat} {ys : List DV} (he : elems s.heap d = some (sz, ys)) :
    ∃ news, Gives P G w (a.eval y) sz ys news := by
  have sl : elemsSl s.heap d = some (sz, ys) → ∃ news, Gives P G w (a.eval y) sz ys news := by
    intro he
    cases d with
    | sl m sz' xs =>
      simp only [elemsSl, Option.some.injEq, Prod.mk.injEq] at he
      obtain ⟨rfl, rfl⟩ := he
      obtain ⟨r, hv⟩ := peek_v hS h0 hd (by simp)
      simp only [VRel] at hv
      obtain ⟨ad, cap, hval, hcap, hv⟩ := hv
      rw [hval]
      rcases hv with ⟨hz, rfl, _⟩ | ⟨rb, off, rfl, hel, _⟩
      · have : xs = [] := List.eq_nil_of_length_eq_zero hz
        subst this
        refine ⟨[], rfl, fun w' => by simp [Builtin.lenOf], fun k hk w' _ => ?_⟩
        have hk0 : k = 0 := by simpa using hk
        subst hk0
        cases ad <;> simp [Builtin.firstCells, loadCells, loadCellsFrom]
      · obtain ⟨l, h1, h2⟩ := hel.list
        exact ⟨l, gives_row rfl h1 (fun k c hk => (h2 k c hk).2)⟩
    | hsl b off len cap sz' ag =>
      simp only [elemsSl] at he
      split at he
      · rename_i hc
        obtain ⟨hc1, hc2, hc3⟩ := hc
        simp only [Option.some.injEq, Prod.mk.injEq] at he
        obtain ⟨rfl, rfl⟩ := he
        obtain ⟨r, hv⟩ := peek_v hS h0 hd (by simp)
        simp only [VRel] at hv
        obtain ⟨_, rb, hb, cap', hval, _⟩ := hv
        rw [hval]
        have hbl : b < s.heap.length := by
          rcases Nat.lt_or_ge b s.heap.length with h | h
          · exact h
          · have : b < G.hb.length := by
              rcases Nat.lt_or_ge b G.hb.length with h' | h'
              · exact h'
              · rw [List.getElem?_eq_none h'] at hb; simp at hb
            have := hS.heap.1; omega
        obtain ⟨rb', c, e, r', pm, g1, g2, g3, g4, g5, g6, g7, g8⟩ := hS.heap.2 b _ (List.getElem?_eq_getElem hbl)
        rw [hb] at g1; simp at g1; subst g1
        have hgd : s.heap.getD b [] = s.heap[b] := by simp [hbl]
        rw [hgd] at hc1
        obtain ⟨_, r2, _, _, k2⟩ := g3.cut off
        obtain ⟨r3, _, _, k3, _⟩ := k2.cut (len * sz')
        have hll := g3.length
        rw [part_pad hc1] at k3
        have hel := chunks_elems (G := G) (w := w) (ag := ag) hc2 (fun e => by subst e; simpa using hc3) len k3 ((g8.drop _).take _) (by simp; omega)
        refine ⟨_, gives_row ?_ (by unfold hsElems; rw [hgd]; exact hel) fun k c' hk => ?_⟩
        · have := hel.length
          rw [stripL_eq, List.length_map, hsElems]
          have hch : ∀ (n : Nat) (cs : List DV), (chunks sz' ag n cs).length = n := by
            intro n; induction n with
            | zero => intro cs; rfl
            | succ n ih => intro cs; simp [chunks, ih]
          exact hch _ _
        · rw [cell_of_block g2]
          rw [List.getElem?_take] at hk
          split at hk
          · rw [List.getElem?_drop] at hk; simpa using hk
          · simp at hk
      · simp at he
    | _ => simp [elemsSl] at he
  cases d with
  | sc u =>
    cases u with
    | string st =>
      simp only [elems, Option.some.injEq, Prod.mk.injEq] at he
      obtain ⟨rfl, rfl⟩ := he
      have hv := scalar hS h0 hd
      rw [hv]
      refine ⟨_, bytes_elems _, fun w' => by simp only [Builtin.lenOf, Sem.run_pure, ofBytes, List.length_map]; rfl, fun k hk w' _ => ?_⟩
      simp only [Builtin.firstCells, Sem.run_pure, Nat.mul_one]
      congr 1
      apply Array.ext'
      rw [Array.toList_map, List.toList_toArray, ← List.map_take]
      congr 1
      show (st.extract 0 k).data.toList = _
      rw [ByteArray.data_extract, Array.toList_extract]
      simp [List.extract]
    | _ => exact sl (by simpa [elems] using he)
  | _ => exact sl (by simpa [elems] using he)

def notInt (P : Program) (t : TypeId) : Bool := match P.underlying t with | some (.int _) => false | some _ => true | none => false

theorem run_app_grow {t u e : TypeId} {it : TypeInfo} {z : Value} {sz : Nat} (hu : P.underlying t = some (.slice e)) (hi : P.info? e = some it) (hz : it.zero = some z) (hs : it.size = sz) (hni : notInt P u = true)
    {v y : Value} {ad : Option Addr} {sLen sCap : Nat} (hv : v = .slice ad sLen sCap) {ys : List DV} {news olds : List Value} (hy : Gives P G w y sz ys news)
    (hold : ∀ w' : World, (∀ b j, w'.cell? ⟨b, j, none⟩ = w.cell? ⟨b, j, none⟩) → (Builtin.firstCells sz sLen v).run P w' = .ok olds.toArray w')
    (hg : sCap < sLen + ys.length) (hroom : (sLen + ys.length) * (it.bytes + 1) ≤ room) :
    ∃ newCap, sLen + ys.length ≤ newCap ∧ (∀ ty, (Builtin.append_ #[t, u] ty #[v, y]).run P w =
      .ok (.slice (some ⟨w.heap.size, 0, none⟩) (sLen + ys.length) newCap) (w.drew.alloc (.cells (olds ++ news ++ (Builtin.zeroCells z.cells (newCap - (sLen + ys.length))).toList).toArray e))) := by
  subst hv
  have hni' : ∃ d, P.underlying u = some d ∧ (d matches .int _) = false := by
    unfold notInt at hni
    cases hd : P.underlying u with
    | none => simp [hd] at hni
    | some d => refine ⟨d, rfl, ?_⟩; cases d <;> simp [hd] at hni ⊢
  obtain ⟨d, hd, hdi⟩ := hni'
  have hn : ¬ (sLen + ys.length ≤ sCap) := by omega
  have hbig : (sLen + ys.length) * it.bytes ≤ 140737488355328 := by
    have : (sLen + ys.length) * it.bytes ≤ (sLen + ys.length) * (it.bytes + 1) := Nat.mul_le_mul_left _ (by omega)
    simp only [room] at hroom; omega
  have h48 := growslice_fits (need := sLen + ys.length) (old := sCap) (by omega) hbig
  have hle : sLen + ys.length ≤ 1099511627776 := by
    have : (sLen + ys.length) * 1 ≤ (sLen + ys.length) * (it.bytes + 1) := Nat.mul_le_mul_left _ (by omega)
    simp only [room] at hroom; omega
  have h63 : ¬ (((sLen + ys.length : Nat) : Int) > IntKind.i64.max) := by
    have : IntKind.i64.max = 9223372036854775807 := by decide
    omega
  have h48' : ¬ (Builtin.nextslicecap (sLen + ys.length) sCap * it.bytes > 2 ^ 48) := by omega
  have hcell : ∀ b j, w.drew.cell? ⟨b, j, none⟩ = w.cell? ⟨b, j, none⟩ := fun _ _ => rfl
  have hf := hy.first ys.length (Nat.le_refl _) w.drew hcell
  have hnl := hy.el.length
  rw [List.take_of_length_le (by omega)] at hf
  have ho := hold w.drew hcell
  refine ⟨(Question.appendCap (sLen + ys.length) sCap e).cut (w.tape w.drawn (.appendCap (sLen + ys.length) sCap e)), by simp only [Question.cut]; omega, fun ty => ?_⟩
  have hz1 : (typeInfo e).run P w.drew = .ok it w.drew := by simp [typeInfo, hi]
  have harr : ∀ q : Array Value, olds.toArray ++ news.toArray ++ q = (olds ++ news ++ q.toList).toArray := fun q => by apply Array.ext'; simp
  cases d <;> first
    | (simp at hdi; done)
    | (simp only [Builtin.append_, List.getElem?_toArray, List.getElem?_cons_zero, List.getElem?_cons_succ, Sem.run_bind, run_underlying hu, Result.andThen_ok, run_sizeOf' hi, hs, run_underlying hd, Sem.run_pure,
        Bool.false_eq_true, if_false, hy.len, hn, h63, false_and, typeInfo, run_program, hi, h48', run_choose, Question.forced, ho, hf, zeroValue, hz, Bool.not_false, if_true, run_askRoom, newRow, run_newObj, World.drew_eq, World.alloc_eq, harr]
       rfl)

theorem run_app_room {t u e : TypeId} {it : TypeInfo} {sz : Nat} (hu : P.underlying t = some (.slice e)) (hi : P.info? e = some it) (hs : it.size = sz) (hni : notInt P u = true)
    {v y : Value} {rb off sLen sCap : Nat} (hv : v = .slice (some ⟨rb, off, none⟩) sLen sCap) {ys : List DV} {news : List Value} (hy : Gives P G w y sz ys news)
    (hg : sLen + ys.length ≤ sCap) {c : Array Value} {e' : TypeId} (hc : w.heap[rb]? = some (.cells c e' (0, 0))) (hfit : off + (sLen + ys.length) * sz ≤ c.size) (ty : TypeId) :
    (Builtin.append_ #[t, u] ty #[v, y]).run P w = .ok (.slice (some ⟨rb, off, none⟩) (sLen + ys.length) sCap)
      (w.setRow rb (c.toList.take (off + sLen * sz) ++ news ++ c.toList.drop (off + sLen * sz + news.length)).toArray) := by
  subst hv
  have hni' : ∃ d, P.underlying u = some d ∧ (d matches .int _) = false := by
    unfold notInt at hni
    cases hd : P.underlying u with
    | none => simp [hd] at hni
    | some d => refine ⟨d, rfl, ?_⟩; cases d <;> simp [hd] at hni ⊢
  obtain ⟨d, hd, hdi⟩ := hni'
  have hf := hy.first ys.length (Nat.le_refl _) w (fun _ _ => rfl)
  have hnl := hy.el.length
  rw [List.take_of_length_le (by omega)] at hf
  have hst := run_storeCells_at P rb (off + sLen * sz) e' news 0 c w hc (by rw [hnl]; rw [Nat.add_mul] at hfit; omega) hy.el.ones
  simp only [Nat.add_zero] at hst
  cases d <;> first
    | (simp at hdi; done)
    | (simp only [Builtin.append_, List.getElem?_toArray, List.getElem?_cons_zero, List.getElem?_cons_succ, Sem.run_bind, run_underlying hu, Result.andThen_ok, run_sizeOf' hi, hs, run_underlying hd, Sem.run_pure,
        Bool.false_eq_true, if_false, hy.len, hg, hf, Bool.not_false, if_true, addr_add, hst])

theorem run_app_same {t u e : TypeId} {it : TypeInfo} {sz : Nat} (hu : P.underlying t = some (.slice e)) (hi : P.info? e = some it) (hs : it.size = sz) (hni : notInt P u = true)
    {v y : Value} {ad : Option Addr} {sLen sCap : Nat} (hv : v = .slice ad sLen sCap) {news : List Value} (hy : Gives P G w y sz [] news) (hg : sLen ≤ sCap) (ty : TypeId) :
    (Builtin.append_ #[t, u] ty #[v, y]).run P w = .ok (.slice ad sLen sCap) w := by
  subst hv
  have hni' : ∃ d, P.underlying u = some d ∧ (d matches .int _) = false := by
    unfold notInt at hni
    cases hd : P.underlying u with
    | none => simp [hd] at hni
    | some d => refine ⟨d, rfl, ?_⟩; cases d <;> simp [hd] at hni ⊢
  obtain ⟨d, hd, hdi⟩ := hni'
  have hf := hy.first 0 (Nat.le_refl _) w (fun _ _ => rfl)
  simp only [Nat.zero_mul, List.take_zero] at hf
  have hl := hy.len w
  simp only [List.length_nil] at hl
  cases ad with
  | none =>
    cases d <;> first
      | (simp at hdi; done)
      | (simp only [Builtin.append_, List.getElem?_toArray, List.getElem?_cons_zero, List.getElem?_cons_succ, Sem.run_bind, run_underlying hu, Result.andThen_ok, run_sizeOf' hi, hs, run_underlying hd, Sem.run_pure,
          Bool.false_eq_true, if_false, hl, Nat.add_zero, hg, hf, Bool.not_false, if_true])
  | some ad =>
    cases d <;> first
      | (simp at hdi; done)
      | (simp only [Builtin.append_, List.getElem?_toArray, List.getElem?_cons_zero, List.getElem?_cons_succ, Sem.run_bind, run_underlying hu, Result.andThen_ok, run_sizeOf' hi, hs, run_underlying hd, Sem.run_pure,
          Bool.false_eq_true, if_false, hl, Nat.add_zero, hg, hf, Bool.not_false, if_true, storeCells])

/-- Append. -/
theorem step_app (hF : F.WF) (hS : SRel F E G hw ew bx a w s) {i : Nat} {D : Dst} (hD : okDst F i o.dst D = true) {op : DOp} {adr : DV} (hb : ∀ d, back op d adr = strip d) {ins : List Src} (hn : (movedL ins).Nodup)
    {t u e : TypeId} {it : TypeInfo} {z : Value} {sz : Nat} (hu : P.underlying t = some (.slice e)) (hi : P.info? e = some it) (hz : it.zero = some z) (hzs : z.cells.size = sz) (hs : it.size = sz) (hni : notInt P u = true)
    {x y : Operand} (ho : o.op = .call { callee := .builtin .append, args := #[x, y], argTypes := #[t, u] })
    {m : Mode} {xs ys : List DV} {r : List Nat} (hx : VRel G w (.sl m sz xs) (a.eval x) r) (hnr : r.Nodup) (hown : ∀ b ∈ r, ∃ l ∈ movedL ins, ew b = some l) (hm : m ≠ .view)
    {news : List Value} (hy : Gives P G w (a.eval y) sz ys news) (hroom : (xs.length + ys.length) * (it.bytes + 1) ≤ room) :
    StepRes P F E o a w (writeD i D (.sl (appMode m ys.isEmpty) sz (xs ++ ys)) { (ins.foldl (moveS op adr) s) with heap := s.heap }) := by
  obtain ⟨d1, d2, d3⟩ := okDst_spec hD
  have hl := moves_len op adr ins s
  have hrw : ∀ x ∈ r, hw x = none ∧ x < w.heap.size := fun x hx' => by
    obtain ⟨l, _, h2⟩ := hown x hx'
    exact ⟨hS.disj x (by rw [h2]; simp), hS.ewlt x (by rw [h2]; simp)⟩
  have hlt : ∀ x b, hw x = some b → x < w.heap.size := fun x b h => hS.ok.hw x (by rw [h]; simp)
  have hx' := hx
  simp only [VRel] at hx'
  obtain ⟨ad, cap, hval, hcap, hrel⟩ := hx'
  have exec : ∀ v' w', (∀ ty, (Builtin.append_ #[t, u] ty #[a.eval x, a.eval y]).run P w = .ok v' w') → (execOp a.eval o).run P w = .ok (.value v') w' := by
    intro v' w' h
    simp [execOp, ho, resolve, invoke, builtin, h]
  have hhand : ∀ x ∈ r, ∃ l, ew x = some l ∧ (l ∈ movedL ins ∨ D.loc i = some l) := fun x hx' => by
    obtain ⟨l, h1, h2⟩ := hown x hx'; exact ⟨l, h2, .inl h1⟩
  by_cases hg : xs.length + ys.length ≤ cap
  · by_cases h0 : ys.length = 0
    · -- nothing is appended
      have hys : ys = [] := List.eq_nil_of_length_eq_zero h0
      subst hys
      have hrun := exec _ _ (fun ty => run_app_same (w := w) hu hi hs hni hval hy hcap ty)
      have hmm : appMode m ([] : List DV).isEmpty = m := by cases m <;> first | rfl | exact absurd rfl hm
      rw [hmm, List.append_nil]
      obtain ⟨ew', h⟩ := SRel.finish hF hS (movedL ins) r (D.loc i) o.dst hhand (CPres.refl hS.ok r) hS.heap hl.1 hl.2.1 (fun l h => moves_other op adr ins s l h) (moved_stays hS hb hn r) d1 d2 d3
        (bx' := bx) (fun _ _ => rfl) (fun _ _ _ _ => rfl) (d := .sl m sz xs) (v := .slice ad xs.length cap) (r := r) (by rw [← hval]; exact .of hx) hnr
        (fun x hx' => ⟨(hrw x hx').1, (hrw x hx').2, .inl hx'⟩) (fun cs h => by simp at h)
      exact ⟨_, _, G, hw, ew', bx, .inl hrun, writeD_finish h⟩
    · -- in place
      rcases hrel with ⟨_, hc0, _⟩ | ⟨rb, off, rfl, hel, hmr⟩
      · omega
      · cases m with
        | view => exact absurd rfl hm
        | full => simp only [MRel] at hmr; omega
        | own =>
          simp only [MRel] at hmr
          obtain ⟨rfl, ⟨c, e', hc, hcs⟩, himm⟩ := hmr
          · have hfit : off + (xs.length + ys.length) * sz ≤ c.size := by
              have : (xs.length + ys.length) * sz ≤ cap * sz := Nat.mul_le_mul_right _ hg
              omega
            have hnl := hy.el.length
            have hrun := exec _ _ (fun ty => run_app_room (w := w) hu hi hs hni hval hy hg hc hfit ty)
            let c' : Array Value := (c.toList.take (off + xs.length * sz) ++ news ++ c.toList.drop (off + xs.length * sz + news.length)).toArray
            have hlo : off + xs.length * sz + news.length ≤ c.size := by rw [hnl]; rw [Nat.add_mul] at hfit; omega
            have hc's : c'.size = c.size := by simp [c']; omega
            let G' : Ghost := { G with imm := fun b k => G.imm b k ∨ (b = rb ∧ off + xs.length * sz ≤ k ∧ k < off + xs.length * sz + news.length) }
            have hrbl := (hrw rb (by simp)).2
            have cellOld : ∀ k, k < off + xs.length * sz → (w.setRow rb c').cell? ⟨rb, k, none⟩ = w.cell? ⟨rb, k, none⟩ := by
              intro k hk
              rw [cell_of_block (setRow_eq w rb c c' e' hc), cell_of_block hc]
              simp only [c', List.getElem?_toArray]
              rw [List.append_assoc, List.getElem?_append_left (by simp; omega), List.getElem?_take, if_pos hk]
              simp
            have hc' : CPres G hw w [rb] G' hw (w.setRow rb c') := by
              refine ⟨rfl, rfl, rfl, by simp, rfl, fun _ _ h => .inl h, fun b k h => ?_, ⟨[], by simp [G']⟩, fun x hx _ hnx => ⟨setRow_other w rb x c' (by simpa using hnx), fun k h => ?_⟩, fun _ h => .inl h, ?_⟩
              · by_cases hbb : b = rb
                · subst hbb
                  refine cellOld k ?_
                  rcases Nat.lt_or_ge k (off + xs.length * sz) with h' | h'
                  · exact h'
                  · exact absurd h (himm k h')
                · exact cell_setRow_ne w rb c' hbb
              · rcases h with h | ⟨h, _⟩
                · exact h
                · exact absurd h (by simpa using hnx)
              · refine ⟨by simpa using hS.ok.B, fun b k h => ?_, fun x h => by simpa using hS.ok.hw x h⟩
                rcases h with h | ⟨rfl, _⟩
                · simpa using hS.ok.imm b k h
                · simpa using hrbl
            have hHR : HRel G' hw (w.setRow rb c') s.heap := hS.heap.mono hc'.mono rfl (fun x b hb' => by
              have hne : x ≠ rb := fun e => by subst e; rw [(hrw _ (by simp)).1] at hb'; simp at hb'
              refine ⟨setRow_other w rb x c' hne, fun k h => ?_⟩
              rcases h with h | ⟨h, _⟩
              · exact h
              · exact absurd h hne) (fun _ _ h => h)
            obtain ⟨ew', h⟩ := SRel.finish hF hS (movedL ins) [rb] (D.loc i) o.dst hhand hc' hHR hl.1 hl.2.1 (fun l h => moves_other op adr ins s l h) (moved_stays hS hb hn [rb]) d1 d2 d3
              (bx' := bx) (fun _ _ => rfl) (fun _ _ _ _ => rfl) (d := .sl .own sz (xs ++ ys)) (v := .slice (some ⟨rb, off, none⟩) (xs.length + ys.length) cap) (r := [rb])
              (by
                refine .of ?_
                simp only [VRel]
                refine ⟨_, _, by rw [List.length_append], by rw [List.length_append]; exact hg, .inr ⟨rb, off, rfl, ?_, rfl, ⟨c', e', setRow_eq w rb c c' e' hc, by rw [hc's]; exact hcs⟩, fun k hk h => ?_⟩⟩
                · rw [VElems.append]
                  refine ⟨hel.copy hc'.mono fun k hk => ?_, (hy.el.mono hc'.mono).elems fun k v hk => ?_⟩
                  · obtain ⟨v, hv1, hv2, _⟩ := hel.cell k hk
                    refine ⟨.inl hv2, fun v' hv' => ?_⟩
                    rw [cellOld (off + k) (by omega)]; exact hv'
                  · have hk' : k < news.length := by
                      rcases Nat.lt_or_ge k news.length with h | h
                      · exact h
                      · rw [List.getElem?_eq_none h] at hk; simp at hk
                    refine ⟨.inr ⟨rfl, by omega, by omega⟩, ?_⟩
                    rw [cell_of_block (setRow_eq w rb c c' e' hc)]
                    simp only [c', List.getElem?_toArray]
                    rw [List.append_assoc, List.getElem?_append_right (by simp; omega)]
                    have e1 : off + xs.length * sz + k - (c.toList.take (off + xs.length * sz)).length = k := by simp; omega
                    rw [e1, List.getElem?_append_left hk']; exact hk
                · rw [List.length_append, Nat.add_mul] at hk
                  rcases h with h | ⟨_, h1, h2⟩
                  · exact himm k (by omega) h
                  · omega)
              (by simp) (fun x hx' => by
                have hxr := hrw x hx'
                exact ⟨hxr.1, by simpa using hxr.2, .inl hx'⟩) (fun cs h => by simp at h)
            exact ⟨_, _, G', hw, ew', bx, .inl hrun, writeD_finish h⟩
  · -- it grows
    have h0 : ys.length ≠ 0 := by omega
    obtain ⟨olds, hel1, hfold⟩ : ∃ olds : List Value, ElemsL G w sz xs olds ∧ ∀ w' : World, (∀ b j, w'.cell? ⟨b, j, none⟩ = w.cell? ⟨b, j, none⟩) → (Builtin.firstCells sz xs.length (a.eval x)).run P w' = .ok olds.toArray w' := by
      rcases hrel with ⟨hz0, _, _⟩ | ⟨rb, off, rfl, hel, _⟩
      · have : xs = [] := List.eq_nil_of_length_eq_zero hz0
        subst this
        exact ⟨[], rfl, fun w' _ => by rw [hval]; cases ad <;> simp [Builtin.firstCells, loadCells, loadCellsFrom]⟩
      · obtain ⟨l, h1, h2⟩ := hel.list
        refine ⟨l, h1, fun w' hw' => ?_⟩
        have hll := h1.length
        have := run_loadCells_at (P := P) (w' := w') (rb := rb) (off := off) (l := l) (fun k c hk => by rw [hw']; exact (h2 k c hk).2)
        rw [hll] at this
        rw [hval]; simp [Builtin.firstCells, this]
    obtain ⟨nc, hnc, hrun⟩ := run_app_grow (w := w) hu hi hz hs hni hval hy hfold (by omega) hroom
    replace hrun := exec _ _ hrun
    have ho1 := hel1.length
    have hn1 := hy.el.length
    let cells : List Value := olds ++ news ++ (Builtin.zeroCells z.cells (nc - (xs.length + ys.length))).toList
    have hcl : cells.length = nc * sz := by
      simp only [cells, List.length_append, ho1, hn1, Array.length_toList, size_zeroCells, hzs, ← Nat.add_mul]
      congr 1; omega
    have ok' : WOk G hw w.drew := ⟨hS.ok.B, hS.ok.imm, hS.ok.hw⟩
    have hcA := CPres.allocImm ok' (.cells cells.toArray e) ((xs.length + ys.length) * sz) r
    have hc' : CPres G hw w r _ hw (w.drew.alloc (.cells cells.toArray e)) := (CPres.drew hS.ok r).trans hcA (fun x hx' => .inl hx')
    have hHR := hS.heap.mono hc'.mono rfl (fun x b hb' => by
        have h1 := hlt x b hb'
        refine ⟨heap_alloc_lt w.drew _ h1, fun k h => ?_⟩
        rcases h with h | ⟨rfl, _⟩
        · exact h
        · have : w.drew.heap.size = w.heap.size := rfl
          omega) (fun _ _ h => h)
    have hmode : appMode m ys.isEmpty = .own := by
      cases m with
      | view => rfl
      | own => rfl
      | full =>
        have : ys.isEmpty = false := by cases ys with
          | nil => simp at h0
          | cons => rfl
        simp [appMode, this]
    rw [hmode]
    have hsz : w.drew.heap.size = w.heap.size := rfl
    have hfit : (xs.length + ys.length) * sz ≤ cells.length := by rw [hcl]; exact Nat.mul_le_mul_right _ hnc
    obtain ⟨ew', h⟩ := SRel.finish hF hS (movedL ins) r (D.loc i) o.dst hhand hc' hHR hl.1 hl.2.1 (fun l h => moves_other op adr ins s l h) (moved_stays hS hb hn r) d1 d2 d3
      (bx' := bx) (fun _ _ => rfl) (fun _ _ _ _ => rfl) (d := .sl .own sz (xs ++ ys)) (v := .slice (some ⟨w.heap.size, 0, none⟩) (xs.length + ys.length) nc) (r := [w.heap.size])
      (by
        refine .of ?_
        simp only [VRel]
        refine ⟨_, _, by rw [List.length_append], by rw [List.length_append]; exact hnc, .inr ⟨w.heap.size, 0, rfl, ?_, rfl, ⟨cells.toArray, e, heap_alloc_eq w.drew _, ?_⟩, fun k hk h => ?_⟩⟩
        · refine ((hel1.append hy.el).mono hc'.mono).elems fun k v hk => ?_
          have hk' : k < (olds ++ news).length := by
            rcases Nat.lt_or_ge k (olds ++ news).length with h | h
            · exact h
            · rw [List.getElem?_eq_none h] at hk; simp at hk
          refine ⟨.inr ⟨rfl, ?_⟩, ?_⟩
          · simp only [List.length_append, ho1, hn1, ← Nat.add_mul] at hk'; omega
          · have hq : (w.drew.alloc (.cells cells.toArray e)).heap[w.heap.size]? = some (.cells cells.toArray e) := heap_alloc_eq w.drew _
            rw [Nat.zero_add, cell_of_block hq]
            simp only [cells, List.getElem?_toArray]
            rw [List.getElem?_append_left hk']; exact hk
        · simp [hcl]
        · rw [List.length_append] at hk
          rcases h with h | ⟨_, h⟩
          · have := hS.ok.imm _ _ h; omega
          · omega)
      (by simp) (fun x hx' => by
        simp at hx'; subst hx'
        refine ⟨?_, by simp, .inr (.inr (Nat.le_refl _))⟩
        rcases Classical.em (hw w.heap.size = none) with h | h
        · exact h
        · have := hS.ok.hw _ h; omega) (fun cs h => by simp at h)
    exact ⟨_, _, _, hw, ew', bx, .inl hrun, writeD_finish h⟩

end
end Go.D
