/- Cuts of slices and texts, lengths, conversions, function values, interface values. -/
import Derived.Test.YtilfhbpehgklbaaQqPureC
import Derived.Laws.BytesString
set_option linter.unusedSimpArgs false
set_option linter.unusedVariables false
namespace Go.D

section
variable {P : Program} {F : Fr} {E : Entry} {G : Ghost} {hw : HW} {ew : EW} {bx : Nat → Option Nat} {a : Act} {w : World} {s : St} {o : Oper}

theorem pure_len (hS : SRel F E G hw ew bx a w s) {s0 : Src} {x : Operand} {t : TypeId} (h0 : okSrcN F s0 x = true) (ho : o.op = .call { callee := .builtin .len, args := #[x], argTypes := #[t] })
    {e : TypeId} (ht : P.underlying t = some (.slice e)) (M : List ELoc) :
    (∀ m sz xs, (readS s s0).2 = .sl m sz xs → PureRes P o a w G bx ew M (.sc (.int .i64 xs.length))) ∧
    (∀ b off len cap sz ag, (readS s s0).2 = .hsl b off len cap sz ag → PureRes P o a w G bx ew M (.sc (.int .i64 len))) := by
  refine ⟨fun m sz xs hd => ?_, fun b off len cap sz ag hd => ?_⟩
  · obtain ⟨r, hv⟩ := peek_v hS h0 hd (by simp)
    simp only [VRel] at hv
    obtain ⟨ad, cap, hval, _⟩ := hv
    exact PureRes.sc rfl (by simp [execOp, ho, resolve, invoke, builtin, hval, Builtin.len_, run_underlying ht, goInt])
  · obtain ⟨r, hv⟩ := peek_v hS h0 hd (by simp)
    simp only [VRel] at hv
    obtain ⟨_, rb, _, cap', hval, _⟩ := hv
    exact PureRes.sc rfl (by simp [execOp, ho, resolve, invoke, builtin, hval, Builtin.len_, run_underlying ht, goInt])

theorem pure_lenS (hS : SRel F E G hw ew bx a w s) {s0 : Src} {x : Operand} {t : TypeId} (h0 : okSrcN F s0 x = true) (ho : o.op = .call { callee := .builtin .len, args := #[x], argTypes := #[t] })
    (ht : P.underlying t = some .string) {st : ByteArray} (hd : (readS s s0).2 = .sc (.string st)) (M : List ELoc) : PureRes P o a w G bx ew M (.sc (.int .i64 st.size)) := by
  have hx := scalar hS h0 hd
  exact PureRes.sc rfl (by simp [execOp, ho, resolve, invoke, builtin, hx, Builtin.len_, run_underlying ht, goInt])

theorem pure_lenA {x : Operand} {t : TypeId} (ho : o.op = .call { callee := .builtin .len, args := #[x], argTypes := #[t] }) {n : Nat}
    (ht : (match P.underlying t with | some (.array k _) => k == n | some (.pointer u) => (match P.underlying u with | some (.array k _) => k == n | _ => false) | _ => false) = true) (M : List ELoc) :
    PureRes P o a w G bx ew M (.sc (.int .i64 n)) := by
  split at ht
  · rename_i k e hu
    simp at ht; subst ht
    refine PureRes.sc rfl ?_
    simp [execOp, ho, resolve, invoke, builtin, Builtin.len_, run_underlying hu, goInt]
  · rename_i u hu
    split at ht
    · rename_i k e hu'
      simp at ht; subst ht
      refine PureRes.sc rfl ?_
      simp [execOp, ho, resolve, invoke, builtin, Builtin.len_, run_underlying hu, run_underlying hu', goInt]
    · simp at ht
  · simp at ht

theorem pure_max (hS : SRel F E G hw ew bx a w s) {s0 s1 : Src} {x y : Operand} {ts : Array TypeId} (h0 : okSrcN F s0 x = true) (h1 : okSrcN F s1 y = true)
    (ho : o.op = .call { callee := .builtin .max, args := #[x, y], argTypes := ts }) {k k' : IntKind} {i j : Int} (hi : (readS s s0).2 = .sc (.int k i)) (hj : (readS s s1).2 = .sc (.int k' j)) (M : List ELoc) :
    PureRes P o a w G bx ew M (.sc (.int k (if j > i then j else i))) := by
  have hx := scalar hS h0 hi
  have hy := scalar hS h1 hj
  exact PureRes.sc rfl (by simp [execOp, ho, resolve, invoke, builtin, hx, hy, Builtin.max_, Builtin.max2])

theorem pure_min (hS : SRel F E G hw ew bx a w s) {s0 s1 : Src} {x y : Operand} {ts : Array TypeId} (h0 : okSrcN F s0 x = true) (h1 : okSrcN F s1 y = true)
    (ho : o.op = .call { callee := .builtin .min, args := #[x, y], argTypes := ts }) {k k' : IntKind} {i j : Int} (hi : (readS s s0).2 = .sc (.int k i)) (hj : (readS s s1).2 = .sc (.int k' j)) (M : List ELoc) :
    PureRes P o a w G bx ew M (.sc (.int k (if j < i then j else i))) := by
  have hx := scalar hS h0 hi
  have hy := scalar hS h1 hj
  exact PureRes.sc rfl (by simp [execOp, ho, resolve, invoke, builtin, hx, hy, Builtin.min_, Builtin.min2])

theorem pure_cvI (hS : SRel F E G hw ew bx a w s) {s0 : Src} {x : Operand} {src dst : TypeId} (h0 : okSrcN F s0 x = true) (ho : o.op = .convert src dst x) {k : IntKind}
    (hs : (P.underlying src).isSome = true) (hd : P.underlying dst = some (.int k)) {k' : IntKind} {i : Int} (hi : (readS s s0).2 = .sc (.int k' i)) (M : List ELoc) :
    PureRes P o a w G bx ew M (.sc (.int k (k.wrap i))) := by
  have hx := scalar hS h0 hi
  obtain ⟨d, hs⟩ := Option.isSome_iff_exists.1 hs
  exact PureRes.sc rfl (by simp [execOp, ho, hx, convert, run_underlying hs, run_underlying hd, Conv.intToInt])

theorem pure_cvS (hS : SRel F E G hw ew bx a w s) {s0 : Src} {x : Operand} {src dst : TypeId} (h0 : okSrcN F s0 x = true) (ho : o.op = .convert src dst x)
    (hs : P.underlying src = some .string) (hd : P.underlying dst = some .string) {st : ByteArray} (hi : (readS s s0).2 = .sc (.string st)) (M : List ELoc) :
    PureRes P o a w G bx ew M (.sc (.string st)) := by
  have hx := scalar hS h0 hi
  exact PureRes.sc rfl (by simp [execOp, ho, hx, convert, run_underlying hs, run_underlying hd])

theorem pure_mkIf (hS : SRel F E G hw ew bx a w s) {s0 : Src} {x : Operand} {t : TypeId} (h0 : okSrcN F s0 x = true) (ho : o.op = .makeInterface t x)
    (hc : P.concrete t = true) (hnl : ∀ p off, hand (readS s s0) ≠ .lref p off) : PureRes P o a w G bx ew (movedL [s0]) (.ifc t (hand (readS s s0))) := by
  obtain ⟨r, h1, h2, h3, h4⟩ := handed hS h0
  refine ⟨.iface t (a.eval x), r, by simp [execOp, ho, run_makeInterface w t _ hc], .of ?_, h2, ?_, by simp⟩
  · simp only [VRel]; exact ⟨_, rfl, h1.v hnl⟩
  · intro b hb
    obtain ⟨hm, l, hl, he⟩ := h3 b hb
    exact ⟨l, loc_moved hm hl _, he⟩

/-- Operands in a row, as copies. -/
def okAll (F : Fr) : List Src → List Operand → Bool
  | [], [] => true
  | src :: ss, x :: xs => okSrcN F src x && okAll F ss xs
  | _, _ => false

theorem hands_strip (hS : SRel F E G hw ew bx a w s) : ∀ (ss : List Src) (xs : List Operand), okAll F ss xs = true → (∀ src ∈ ss, ∀ p off, (readS s src).2 ≠ .lref p off) →
    VRelL G w (stripL (ss.map fun x => (readS s x).2)) (xs.map a.eval) []
  | [], [], _, _ => by simp [stripL, VRelL]
  | src :: ss, x :: xs, h, hl => by
    simp only [okAll, Bool.and_eq_true] at h
    obtain ⟨r, hr⟩ := peek hS h.1
    simp only [List.map_cons, stripL]
    exact VRelL.cons (r₁ := []) (VRel.strip _ (hr.v (hl src (by simp)))) (hands_strip hS ss xs h.2 (fun q hq => hl q (by simp [hq])))
  | [], _ :: _, h, _ => by simp [okAll] at h
  | _ :: _, [], h, _ => by simp [okAll] at h

theorem stripL_take (l : List DV) (k : Nat) : stripL (l.take k) = (stripL l).take k := by rw [stripL_eq, stripL_eq, List.map_take]
theorem stripL_drop (l : List DV) (k : Nat) : stripL (l.drop k) = (stripL l).drop k := by rw [stripL_eq, stripL_eq, List.map_drop]

theorem pure_mkFn (hS : SRel F E G hw ew bx a w s) {ss : List Src} {fn : Fn} {first captured : Array Operand} (h : okAll F ss (first.toList ++ captured.toList) = true) (ho : o.op = .makeFunc fn first captured)
    (hl : ∀ src ∈ ss, ∀ p off, (readS s src).2 ≠ .lref p off) (M : List ELoc) :
    PureRes P o a w G bx ew M (.fn fn (stripL ((ss.map fun x => (readS s x).2).take first.size)) (stripL ((ss.map fun x => (readS s x).2).drop first.size))) := by
  have hv := hands_strip hS ss _ h hl
  obtain ⟨ra, rb, er, h1, h2⟩ := hv.cut first.size
  simp at er
  obtain ⟨rfl, rfl⟩ := er
  rw [stripL_take, stripL_drop]
  refine PureRes.view (v := .func fn (first.map a.eval) (captured.map a.eval)) ?_ (by simp) (by simp [execOp, ho, Instr.makeFunc])
  simp only [VRel]
  have ea : ∀ q : Array Operand, (q.map a.eval) = (q.map a.eval).toList.toArray := fun q => by rfl
  refine ⟨trivial, (first.map a.eval).toList, (captured.map a.eval).toList, by rw [← ea, ← ea], ?_, ?_⟩
  · have e : ((first.toList ++ captured.toList).map a.eval).take first.size = (first.map a.eval).toList := by
      rw [List.map_append, ← Array.toList_map, ← Array.toList_map]
      have : (Array.map a.eval first).toList.length = first.size := by simp
      rw [← this, List.take_left]
    rw [← e]; exact h1
  · have e : ((first.toList ++ captured.toList).map a.eval).drop first.size = (captured.map a.eval).toList := by
      rw [List.map_append, ← Array.toList_map, ← Array.toList_map]
      have : (Array.map a.eval first).toList.length = first.size := by simp
      rw [← this, List.drop_left]
    rw [← e]; exact h2

def OptIs (i : Option Int) (v : Option Value) : Prop :=
  match i, v with
  | none, none => True
  | some n, some y => ∃ k, y = .int k n
  | _, _ => False

/-- Optional integers among the operands. -/
def okOpt (F : Fr) (b : Bool) (x : Option Operand) (ss : List Src) : Option (List Src) :=
  match b, x, ss with
  | false, none, ss => some ss
  | true, some y, src :: r => if okSrcN F src y then some r else none
  | _, _, _ => none

theorem okOpt_spec (hS : SRel F E G hw ew bx a w s) {b : Bool} {x : Option Operand} {ss r : List Src} (h : okOpt F b x ss = some r) {i : Option Int} {q : List (Bool × DV)} (ht : takeOpt b (ss.map (readS s)) = some (i, q)) :
    q = r.map (readS s) ∧ OptIs i (x.map a.eval) := by
  cases b with
  | false =>
    cases x with
    | none =>
      simp only [okOpt, Option.some.injEq] at h; subst h
      simp [takeOpt] at ht
      obtain ⟨rfl, rfl⟩ := ht
      exact ⟨rfl, trivial⟩
    | some y => simp [okOpt] at h
  | true =>
    cases x with
    | none => cases ss <;> simp [okOpt] at h
    | some y =>
      cases ss with
      | nil => simp [okOpt] at h
      | cons src ss =>
        simp only [okOpt] at h
        split at h
        · rename_i hok
          simp at h; subst h
          simp only [List.map_cons, takeOpt, if_true] at ht
          split at ht
          · rename_i m k n q' heq
            simp at ht
            obtain ⟨rfl, rfl⟩ := ht
            simp only [List.cons.injEq] at heq
            obtain ⟨h1, h2⟩ := heq
            refine ⟨h2.symm, ?_⟩
            exact ⟨k, scalar hS hok (by rw [h1])⟩
          · simp at ht
        · simp at h

theorem run_sliceBound {v : Value} {k : IntKind} {n : Int} (hv : v = .int k n) {y : Nat} (h0 : 0 ≤ n) (h1 : n ≤ y) (c : BoundsCode) : (Instr.sliceBound v y c).run P w = .ok n.toNat w := by
  subst hv
  simp [Instr.sliceBound, asIntOf, h0, h1]

/-- A slice's bounds. -/
theorem run_bounds {isSl : Bool} {len cap : Nat} {lo hi mx : Option Value} {l u m : Option Int} {rl ru : Nat} {rm : Option Nat} (hcap : len ≤ cap)
    (hlo : OptIs l lo) (hhi : OptIs u hi) (hmx : OptIs m mx)
    (hum : m ≠ none → u ≠ none)
    (h : bounds len l u m = some (rl, ru, rm)) :
    (Instr.sliceBounds isSl len cap lo hi mx).run P w = .ok (rl, ru, rm.getD cap) w ∧ rl ≤ ru ∧ ru ≤ len ∧ (∀ x, rm = some x → ru ≤ x ∧ x ≤ len) := by
  cases m with
  | none =>
    cases mx with
    | some v => simp [OptIs] at hmx
    | none =>
      simp only [bounds] at h
      split at h
      · rename_i hb
        obtain ⟨b1, b2, b3⟩ := hb
        simp at h
        obtain ⟨rfl, rfl, rfl⟩ := h
        cases u with
        | none =>
          cases hi with
          | some v => simp [OptIs] at hhi
          | none =>
            simp only [Option.getD_none] at b1 b2 b3 ⊢
            cases l with
            | none =>
              cases lo with
              | some v => simp [OptIs] at hlo
              | none => exact ⟨by simp [Instr.sliceBounds], by simp, by simp, by simp⟩
            | some i =>
              cases lo with
              | none => simp [OptIs] at hlo
              | some v =>
                obtain ⟨k, rfl⟩ := hlo
                simp only [Option.getD_some] at b1 b2 b3 ⊢
                refine ⟨?_, by omega, by omega, by simp⟩
                simp [Instr.sliceBounds, run_sliceBound (P := P) (w := w) rfl b1 b2]
        | some j =>
          cases hi with
          | none => simp [OptIs] at hhi
          | some v =>
            obtain ⟨k, rfl⟩ := hhi
            simp only [Option.getD_some] at b1 b2 b3 ⊢
            have hj : (Instr.sliceBound (.int k j) cap (if isSl then .sliceAcap else .sliceAlen)).run P w = .ok j.toNat w := run_sliceBound rfl (by omega) (by omega) _
            cases l with
            | none =>
              cases lo with
              | some v => simp [OptIs] at hlo
              | none =>
                refine ⟨?_, by simp, by omega, by simp⟩
                simp only [Instr.sliceBounds, Sem.run_bind, Sem.run_pure, Result.andThen_ok, hj, Option.getD_none]; simp
            | some i =>
              cases lo with
              | none => simp [OptIs] at hlo
              | some v =>
                obtain ⟨k', rfl⟩ := hlo
                simp only [Option.getD_some] at b1 b2 b3 ⊢
                refine ⟨?_, by omega, by omega, by simp⟩
                simp only [Instr.sliceBounds, Sem.run_bind, Sem.run_pure, Result.andThen_ok, hj]
                rw [run_sliceBound (P := P) (w := w) rfl b1 (by omega)]
                simp
      · simp at h
  | some mm =>
    cases mx with
    | none => simp [OptIs] at hmx
    | some vm =>
      obtain ⟨km, rfl⟩ := hmx
      simp only [bounds] at h
      split at h
      · rename_i hb
        obtain ⟨b1, b2, b3, b4⟩ := hb
        simp at h
        obtain ⟨rfl, rfl, rfl⟩ := h
        cases u with
        | none => exact absurd rfl (hum (by simp))
        | some j =>
          cases hi with
          | none => simp [OptIs] at hhi
          | some v =>
            obtain ⟨k, rfl⟩ := hhi
            simp only [Option.getD_some] at b1 b2 b3 b4 ⊢
            have hm : (Instr.sliceBound (.int km mm) cap (if isSl then .slice3Acap else .slice3Alen)).run P w = .ok mm.toNat w := run_sliceBound rfl (by omega) (by omega) _
            have hj : (Instr.sliceBound (.int k j) mm.toNat .slice3B).run P w = .ok j.toNat w := run_sliceBound rfl (by omega) (by omega) _
            cases l with
            | none =>
              cases lo with
              | some v => simp [OptIs] at hlo
              | none =>
                refine ⟨?_, by simp, by omega, by simp; omega⟩
                simp only [Instr.sliceBounds, Sem.run_bind, Sem.run_pure, Result.andThen_ok, hm, hj, Option.getD_none]; simp
            | some i =>
              cases lo with
              | none => simp [OptIs] at hlo
              | some v =>
                obtain ⟨k', rfl⟩ := hlo
                simp only [Option.getD_some] at b1 b2 b3 b4 ⊢
                refine ⟨?_, by omega, by omega, by simp; omega⟩
                simp only [Instr.sliceBounds, Sem.run_bind, Sem.run_pure, Result.andThen_ok, hm, hj]
                rw [run_sliceBound (P := P) (w := w) rfl b1 (by omega)]
                simp
      · simp at h

theorem pure_slc (hS : SRel F E G hw ew bx a w s) {s0 : Src} {ss r1 r2 : List Src} {x : Operand} {lo hi mx : Option Operand} {t : TypeId} {sz : Nat} {bl bh bm : Bool} (h0 : okSrcN F s0 x = true) (ho : o.op = .slice t x lo hi mx)
    (ht : okEl P t sz = true) (h1 : okOpt F bl lo ss = some r1) (h2 : okOpt F bh hi r1 = some r2) (h3 : okOpt F bm mx r2 = some []) (hmh : bm = true → bh = true)
    {m : Mode} {xs : List DV} (hd : (readS s s0).2 = .sl m sz xs) {l u mm : Option Int} {q1 q2 q3 : List (Bool × DV)} (t1 : takeOpt bl (ss.map (readS s)) = some (l, q1)) (t2 : takeOpt bh q1 = some (u, q2)) (t3 : takeOpt bm q2 = some (mm, q3))
    {rl ru : Nat} {rm : Option Nat} (hb : bounds xs.length l u mm = some (rl, ru, rm)) (M : List ELoc) :
    PureRes P o a w G bx ew M (.sl (if rm = some ru then .full else .view) sz ((xs.drop rl).take (ru - rl))) := by
  obtain ⟨e1, f1⟩ := okOpt_spec hS h1 t1
  subst e1
  obtain ⟨e2, f2⟩ := okOpt_spec hS h2 t2
  subst e2
  obtain ⟨e3, f3⟩ := okOpt_spec hS h3 t3
  obtain ⟨r, hv⟩ := peek_v hS h0 hd (by simp)
  simp only [VRel] at hv
  obtain ⟨ad, cap, hval, hcap, hv⟩ := hv
  have hum : mm ≠ none → u ≠ none := by
    intro hm hu
    subst hu
    cases bm with
    | false => simp [takeOpt] at t3; exact hm t3.1.symm
    | true =>
      have := hmh rfl
      subst this
      simp only [takeOpt, if_true] at t2
      split at t2 <;> simp at t2
  obtain ⟨g1, g2, g3, g4⟩ := run_bounds (P := P) (w := w) (isSl := true) hcap f1 f2 f3 hum hb
  obtain ⟨e, it, hu, hi', hs⟩ := okEl_spec ht
  have hrun : (execOp a.eval o).run P w = .ok (.value (.slice (if rm.getD cap = rl then ad else ad.map (·.add (rl * sz))) (ru - rl) (rm.getD cap - rl))) w := by
    simp [execOp, ho, hval, Instr.sliceAt, run_underlying hu, Instr.slice, g1, run_sizeOf' hi', hs]
  have hlen : ((xs.drop rl).take (ru - rl)).length = ru - rl := by simp; omega
  have hmle : ru ≤ rm.getD cap := by
    cases rm with
    | none => simp; omega
    | some x => have := g4 x rfl; simp; omega
  refine PureRes.view (v := .slice (if rm.getD cap = rl then ad else ad.map (·.add (rl * sz))) (ru - rl) (rm.getD cap - rl)) ?_ (by simp) hrun
  simp only [VRel]
  refine ⟨_, _, by rw [hlen], by omega, ?_⟩
  rw [hlen]
  have hfull : rm = some ru → rm.getD cap - rl = ru - rl := by rintro rfl; rfl
  rcases hv with ⟨hz, rfl, _⟩ | ⟨rb, off, rfl, hel, _⟩
  · left
    refine ⟨by omega, ?_, trivial⟩
    cases rm with
    | none => simp
    | some x => have := g4 x rfl; simp; omega
  · right
    by_cases hmz : rm.getD cap = rl
    · have hz : ru - rl = 0 := by omega
      refine ⟨rb, off, by simp [hmz], ?_, ?_⟩
      · have : (xs.drop rl).take (ru - rl) = [] := by rw [hz]; simp
        rw [this]; simp [VElems]
      · split
        · rename_i hf; exact ⟨rfl, hfull hf⟩
        · rfl
    · refine ⟨rb, off + rl * sz, by simp [hmz, addr_add], ?_, ?_⟩
      · exact (hel.drop (by omega)).take
      · split
        · rename_i hf; exact ⟨rfl, hfull hf⟩
        · rfl

theorem pure_slS (hS : SRel F E G hw ew bx a w s) {s0 : Src} {ss r1 : List Src} {x : Operand} {lo hi : Option Operand} {t : TypeId} {bl bh : Bool} (h0 : okSrcN F s0 x = true) (ho : o.op = .slice t x lo hi none)
    (ht : P.underlying t = some .string) (h1 : okOpt F bl lo ss = some r1) (h2 : okOpt F bh hi r1 = some [])
    {st : ByteArray} (hd : (readS s s0).2 = .sc (.string st)) {l u : Option Int} {q1 q2 : List (Bool × DV)} (t1 : takeOpt bl (ss.map (readS s)) = some (l, q1)) (t2 : takeOpt bh q1 = some (u, q2))
    {rl ru : Nat} {rm : Option Nat} (hb : bounds st.size l u none = some (rl, ru, rm)) (M : List ELoc) : PureRes P o a w G bx ew M (.sc (.string (st.extract rl ru))) := by
  obtain ⟨e1, f1⟩ := okOpt_spec hS h1 t1
  subst e1
  obtain ⟨e2, f2⟩ := okOpt_spec hS h2 t2
  have hx := scalar hS h0 hd
  obtain ⟨g1, g2, g3, g4⟩ := run_bounds (P := P) (w := w) (isSl := false) (Nat.le_refl _) f1 f2 (m := none) (mx := none) trivial (by simp) hb
  refine PureRes.sc rfl ?_
  simp [execOp, ho, hx, Instr.sliceAt, run_underlying ht, Instr.slice, g1]

end
end Go.D
