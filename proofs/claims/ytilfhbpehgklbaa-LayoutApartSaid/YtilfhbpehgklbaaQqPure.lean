/- Operations that make a value and turn nothing in memory. -/
import Derived.Test.YtilfhbpehgklbaaQqOps
set_option linter.unusedSimpArgs false
set_option linter.unusedVariables false
namespace Go.D

/-- An operation that comes to a value, and leaves the world alone. -/
def PureRes (P : Program) (o : Oper) (a : Act) (w : World) (G : Ghost) (bx : Nat → Option Nat) (ew : EW) (M : List ELoc) (d : DV) : Prop :=
  ∃ v r, (execOp a.eval o).run P w = .ok (.value v) w ∧ XRel G w bx d v r ∧ r.Nodup ∧ (∀ x ∈ r, ∃ l ∈ M, ew x = some l) ∧ ∀ cs, d ≠ .box cs

def aggOf (P : Program) (t : TypeId) : Option Bool :=
  match P.underlying t with
  | some (.struct _) | some (.array _ _) => some true
  | some _ => some false
  | none => none

def okTy (P : Program) (t : TypeId) (n : Nat) (ag : Bool) : Bool :=
  (match P.info? t with | some i => i.size == n | none => false) && (aggOf P t == some ag) && decide (1 ≤ n) && (ag || n == 1)

theorem okTy_spec {P : Program} {t : TypeId} {n : Nat} {ag : Bool} (h : okTy P t n ag = true) :
    (∃ i, P.info? t = some i ∧ i.size = n) ∧ aggOf P t = some ag ∧ 1 ≤ n ∧ (ag = false → n = 1) := by
  simp only [okTy, Bool.and_eq_true, beq_iff_eq, decide_eq_true_eq, Bool.or_eq_true] at h
  obtain ⟨⟨⟨h1, h2⟩, h3⟩, h4⟩ := h
  refine ⟨?_, h2, h3, ?_⟩
  · cases hi : P.info? t with
    | none => simp [hi] at h1
    | some i => simp [hi] at h1; exact ⟨i, rfl, h1⟩
  · rintro rfl; simpa using h4

theorem run_isAgg {P : Program} {w : World} {t : TypeId} {b : Bool} (h : aggOf P t = some b) : (isAgg t).run P w = .ok b w := by
  unfold aggOf at h
  split at h
  · rename_i f hu; simp at h; subst h; simp [isAgg, run_underlying hu]
  · rename_i f hu; simp at h; subst h; simp [isAgg, run_underlying hu]
  · rename_i d hn1 hn2 hu
    simp at h; subst h
    simp only [isAgg, Sem.run_bind, run_underlying hu, Result.andThen_ok]
    cases d <;> first | rfl | exact absurd rfl (hn1 _) | exact absurd rfl (hn2 _ _)
  · simp at h

theorem run_sizeOf' {P : Program} {w : World} {t : TypeId} {i : TypeInfo} (h : P.info? t = some i) : (sizeOf t).run P w = .ok i.size w := by
  simp [sizeOf, typeInfo, h]

theorem addr_add (rb off n : Nat) : Addr.add ⟨rb, off, none⟩ n = ⟨rb, off + n, none⟩ := by
  unfold Addr.add; split
  · subst_vars; rfl
  · rfl

/-- A load of a variable whose cells are known. -/
theorem run_loadVar {P : Program} {w : World} {t : TypeId} {n : Nat} {ag : Bool} (h : okTy P t n ag = true) {rb off : Nat} {l : List Value} (hl : l.length = n)
    (hc : ∀ (k : Nat) c, l[k]? = some c → w.cell? ⟨rb, off + k, none⟩ = some c) :
    (loadVar t ⟨rb, off, none⟩).run P w = .ok (if ag then .agg l.toArray else l.headD undef) w := by
  obtain ⟨⟨i, hi, hsz⟩, hag, h1, h2⟩ := okTy_spec h
  simp only [loadVar, Sem.run_bind, run_isAgg hag, Result.andThen_ok]
  cases ag with
  | true =>
    simp only [if_true, Sem.run_bind, run_sizeOf' hi, Result.andThen_ok]
    have := run_loadCells_list (P := P) (w := w) ⟨rb, off, none⟩ l (fun j v hj => by rw [addr_add]; exact hc j v hj)
    rw [hsz, ← hl, this]
    simp
  | false =>
    have hn := h2 rfl
    subst hn
    match l, hl with
    | [c], _ =>
      have := hc 0 c rfl
      simp at this
      simp [this]

section
variable {P : Program} {F : Fr} {E : Entry} {G : Ghost} {hw : HW} {ew : EW} {bx : Nat → Option Nat} {a : Act} {w : World} {s : St} {o : Oper}

theorem loc_moved {src : Src} {l : ELoc} (hm : src.mvd = true) (hl : src.loc = some l) (r : List Src) : l ∈ movedL (src :: r) := by
  simp [movedL, hm, hl]
theorem loc_moved_tail {src : Src} {l : ELoc} {r : List Src} (h : l ∈ movedL r) : l ∈ movedL (src :: r) := by
  unfold movedL; split
  · simp [h]
  · exact h

/-- An operand, handed on. -/
theorem handed (hS : SRel F E G hw ew bx a w s) {src : Src} {x : Operand} (h : okSrcN F src x = true) :
    ∃ r, XRel G w bx (hand (readS s src)) (a.eval x) r ∧ r.Nodup ∧ (∀ b ∈ r, src.mvd = true ∧ ∃ l, src.loc = some l ∧ ew b = some l) ∧ ∀ cs, hand (readS s src) ≠ .box cs := by
  have hs : okSrc F src x = true := by simp only [okSrcN, Bool.and_eq_true] at h; exact h.1
  obtain ⟨r, hr, hm⟩ := src_rel hS hs
  obtain ⟨r', hr', h0⟩ := hr.hand src.mvd
  have e : readS s src = (src.mvd, (readS s src).2) := by rw [← hm]
  rw [e]
  refine ⟨r', hr'.rel, hr'.nodup, fun b hb => ?_, ?_⟩
  · by_cases hmv : src.mvd = true
    · exact ⟨hmv, hr'.own b hb⟩
    · rw [h0 (by simpa using hmv)] at hb; simp at hb
  · intro cs
    have := src_nobox hS h
    cases src.mvd with
    | true => exact this cs
    | false =>
      intro hh
      simp only [hand] at hh
      cases hd : (readS s src).2 <;> simp [hd, strip] at hh

/-- An operand that is a scalar. -/
theorem scalar (hS : SRel F E G hw ew bx a w s) {src : Src} {x : Operand} (h : okSrcN F src x = true) {u : Value} (hu : (readS s src).2 = .sc u) : a.eval x = u := by
  have hs : okSrc F src x = true := by simp only [okSrcN, Bool.and_eq_true] at h; exact h.1
  obtain ⟨r, hr, _⟩ := src_rel hS hs
  have := hr.rel
  rw [hu] at this
  simp only [XRel, VRel] at this
  exact this.1

/-- An operand, looked at. -/
theorem peek (hS : SRel F E G hw ew bx a w s) {src : Src} {x : Operand} (h : okSrcN F src x = true) : ∃ r, XRel G w bx (readS s src).2 (a.eval x) r := by
  have hs : okSrc F src x = true := by simp only [okSrcN, Bool.and_eq_true] at h; exact h.1
  obtain ⟨r, hr, _⟩ := src_rel hS hs
  exact ⟨r, hr.rel⟩

theorem peek_v (hS : SRel F E G hw ew bx a w s) {src : Src} {x : Operand} (h : okSrcN F src x = true) {d : DV} (hd : (readS s src).2 = d) (hl : ∀ p off, d ≠ .lref p off) :
    ∃ r, VRel G w d (a.eval x) r := by
  obtain ⟨r, hr⟩ := peek hS h
  rw [hd] at hr
  exact ⟨r, hr.v hl⟩

theorem pure_mv (hS : SRel F E G hw ew bx a w s) {src : Src} {x : Operand} (h : okSrcN F src x = true) (ho : o.op = .move x ∨ o.op = .assign x) :
    PureRes P o a w G bx ew (movedL [src]) (hand (readS s src)) := by
  obtain ⟨r, h1, h2, h3, h4⟩ := handed hS h
  refine ⟨a.eval x, r, ?_, h1, h2, ?_, h4⟩
  · rcases ho with ho | ho <;> simp [execOp, ho]
  · intro b hb
    obtain ⟨hm, l, hl, he⟩ := h3 b hb
    exact ⟨l, loc_moved hm hl _, he⟩

theorem pure_pick (hS : SRel F E G hw ew bx a w s) {s0 s1 s2 : Src} {c x y : Operand} (h0 : okSrcN F s0 c = true) (h1 : okSrcN F s1 x = true) (h2 : okSrcN F s2 y = true)
    (ho : o.op = .pick c x y) {b : Bool} (hb : (readS s s0).2 = .sc (.bool b)) :
    PureRes P o a w G bx ew (movedL [s0, s1, s2]) (if b then hand (readS s s1) else hand (readS s s2)) := by
  have hc := scalar hS h0 hb
  obtain ⟨r1, a1, a2, a3, a4⟩ := handed hS h1
  obtain ⟨r2, b1, b2, b3, b4⟩ := handed hS h2
  cases b with
  | true =>
    refine ⟨a.eval x, r1, by simp [execOp, ho, hc, asBool], by simpa using a1, a2, ?_, by simpa using a4⟩
    intro b hb
    obtain ⟨hm, l, hl, he⟩ := a3 b hb
    exact ⟨l, loc_moved_tail (loc_moved hm hl _), he⟩
  | false =>
    refine ⟨a.eval y, r2, by simp [execOp, ho, hc, asBool], by simpa using b1, b2, ?_, by simpa using b4⟩
    intro b hb
    obtain ⟨hm, l, hl, he⟩ := b3 b hb
    exact ⟨l, loc_moved_tail (loc_moved_tail (loc_moved hm hl _)), he⟩

theorem PureRes.sc {u : Value} {M : List ELoc} (hp : plain u = true) (h : (execOp a.eval o).run P w = .ok (.value u) w) : PureRes P o a w G bx ew M (.sc u) :=
  ⟨u, [], h, by simp [XRel, VRel, hp], by simp, by simp, by simp⟩

theorem PureRes.view {d : DV} {v : Value} {M : List ELoc} (hv : VRel G w d v []) (hb : ∀ cs, d ≠ .box cs) (h : (execOp a.eval o).run P w = .ok (.value v) w) : PureRes P o a w G bx ew M d :=
  ⟨v, [], h, .of hv, by simp, by simp, hb⟩

theorem dbin_int {op : BinOp} {k k' : IntKind} {x y : Int} {u : Value} (h : dbin op (.int k x) (.int k' y) = some u) (t : TypeId) :
    (binOp op t (.int k x) (.int k' y)).run P w = .ok u w ∧ plain u = true := by
  cases op
  case shl =>
    simp only [dbin] at h
    split at h
    · simp at h
    · rename_i hy; simp at h; subst h; simp [binOp, Op.shift, hy, plain]
  case shr =>
    simp only [dbin] at h
    split at h
    · simp at h
    · rename_i hy; simp at h; subst h; simp [binOp, Op.shift, hy, plain]
  case quo =>
    simp only [dbin] at h
    split at h
    · rename_i hk; subst hk
      split at h
      · simp at h
      · rename_i hy; simp at h; subst h; simp [binOp, Op.intDiv, hy, plain]
    · simp at h
  case rem =>
    simp only [dbin] at h
    split at h
    · rename_i hk; subst hk
      split at h
      · simp at h
      · rename_i hy; simp at h; subst h; simp [binOp, Op.intDiv, hy, plain]
    · simp at h
  all_goals
    simp only [dbin] at h
    split at h
    · rename_i hk; subst hk; simp at h; subst h; simp [binOp, Op.intArith, Op.intBits, Op.intCmp, plain]
    · simp at h

theorem dbin_string {op : BinOp} {x y : ByteArray} {u : Value} (h : dbin op (.string x) (.string y) = some u) (t : TypeId) :
    (binOp op t (.string x) (.string y)).run P w = .ok u w ∧ plain u = true := by
  cases op <;> simp [dbin] at h
  · subst h; simp [binOp, Op.stringOp, plain]
  · subst h; simp [binOp, Op.stringOp, plain]

theorem pure_bin (hS : SRel F E G hw ew bx a w s) {s0 s1 : Src} {op : BinOp} {t yt : TypeId} {x y : Operand} (h0 : okSrcN F s0 x = true) (h1 : okSrcN F s1 y = true)
    (ho : o.op = .binOp op t x y yt) {u v z : Value} (hu : (readS s s0).2 = .sc u) (hv : (readS s s1).2 = .sc v) (hz : dbin op u v = some z) (M : List ELoc) :
    PureRes P o a w G bx ew M (.sc z) := by
  have e0 := scalar hS h0 hu
  have e1 := scalar hS h1 hv
  cases u <;> cases v <;> try (simp [dbin] at hz; done)
  · obtain ⟨h, hp⟩ := dbin_int (P := P) (w := w) hz t
    refine PureRes.sc hp ?_
    simp [execOp, ho, e0, e1, eqGuard_at_int, h]
  · obtain ⟨h, hp⟩ := dbin_string (P := P) (w := w) hz t
    refine PureRes.sc hp ?_
    simp [execOp, ho, e0, e1, eqGuard_at_string, h]

theorem run_equalIn_bool (n : Nat) {t : TypeId} (ht : P.underlying t = some .bool) (x y : Bool) : (Op.equalIn (n + 1) t (.bool x) (.bool y)).run P w = .ok (x == y) w := by
  simp [Op.equalIn, run_underlying ht]
theorem run_equal_bool {t : TypeId} (ht : P.underlying t = some .bool) (x y : Bool) : (Op.equal t (.bool x) (.bool y)).run P w = .ok (x == y) w :=
  run_equalIn_bool 9999 ht x y

theorem pure_binB (hS : SRel F E G hw ew bx a w s) {s0 s1 : Src} {op : BinOp} {t yt : TypeId} {x y : Operand} (h0 : okSrcN F s0 x = true) (h1 : okSrcN F s1 y = true)
    (ho : o.op = .binOp op t x y yt) (ht : P.underlying t = some .bool) {u v z : Value} (hu : (readS s s0).2 = .sc u) (hv : (readS s s1).2 = .sc v) (hz : dbinB op u v = some z) (M : List ELoc) :
    PureRes P o a w G bx ew M (.sc z) := by
  have e0 := scalar hS h0 hu
  have e1 := scalar hS h1 hv
  cases u <;> cases v <;> try (simp [dbinB] at hz; done)
  rename_i u v
  have he := run_equal_bool (P := P) (w := w) ht u v
  cases op <;> simp only [dbinB, Option.some.injEq, reduceCtorEq] at hz
  · subst hz
    refine PureRes.sc rfl ?_
    simp only [execOp, ho, e0, e1, eqGuard_at_bool, binOp, Sem.run_bind, Sem.run_pure, Result.andThen_ok, he]
  · subst hz
    refine PureRes.sc rfl ?_
    simp only [execOp, ho, e0, e1, eqGuard_at_bool, binOp, Sem.run_bind, Sem.run_pure, Result.andThen_ok, he]

theorem pure_un (hS : SRel F E G hw ew bx a w s) {s0 : Src} {op : UnOp} {t : TypeId} {x : Operand} (h0 : okSrcN F s0 x = true)
    (ho : o.op = .unOp op t x) {u z : Value} (hu : (readS s s0).2 = .sc u) (hz : dun op u = some z) (M : List ELoc) : PureRes P o a w G bx ew M (.sc z) := by
  have e0 := scalar hS h0 hu
  cases op <;> cases u <;> simp [dun] at hz
  · subst hz; exact PureRes.sc rfl (by simp [execOp, ho, e0, Op.unary, Op.intArith])
  · subst hz; exact PureRes.sc rfl (by simp [execOp, ho, e0, Op.unary, Op.intBits])
  · subst hz; exact PureRes.sc rfl (by simp [execOp, ho, e0, Op.unary])

end
end Go.D
