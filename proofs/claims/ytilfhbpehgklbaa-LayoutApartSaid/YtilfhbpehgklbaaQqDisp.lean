/- WHICH OPERATION OF THE EVALUATOR STANDS FOR WHICH OF THE MACHINE, AND THAT IT DOES. -/
import Derived.Test.YtilfhbpehgklbaaQqInv
set_option linter.unusedSimpArgs false
set_option linter.unusedVariables false
namespace Go.D

def isBoolT (P : Program) (t : TypeId) : Bool := match P.underlying t with | some .bool => true | _ => false
def isStrT (P : Program) (t : TypeId) : Bool := match P.underlying t with | some .string => true | _ => false
def isByteSl (P : Program) (t : TypeId) : Bool := match P.underlying t with | some (.slice e) => (match P.underlying e with | some (.int .u8) => true | _ => false) | _ => false
def isSlT (P : Program) (t : TypeId) : Bool := match P.underlying t with | some (.slice _) => true | _ => false
def okLenA (P : Program) (t : TypeId) (n : Nat) : Bool := match P.underlying t with | some (.array k _) => k == n | some (.pointer u) => (match P.underlying u with | some (.array k _) => k == n | _ => false) | _ => false
def okFieldV (P : Program) (st : TypeId) (f off n : Nat) (ag : Bool) : Bool := match P.underlying st with | some (.struct fs) => (match fs[f]? with | some fl => fl.offset == off && okTy P fl.type n ag | none => false) | _ => false
def okIndexV (P : Program) (t : TypeId) (len sz : Nat) (ag : Bool) : Bool := match P.underlying t with | some (.array n e) => n == len && okTy P e sz ag | _ => false
def elemT (P : Program) (t : TypeId) : TypeId := match P.underlying t with | some (.slice e) => e | _ => 0

/-- 'op' with 'ins' stands for the machine's operation. -/
def okOp (P : Program) (F : Fr) (oop : Op) (op : DOp) (ins : List Src) : Bool :=
  match oop, op, ins with
  | .move x, .mv, [s0] => okSrcN F s0 x
  | .assign x, .mv, [s0] => okSrcN F s0 x
  | .pick c x y, .pick, [s0, s1, s2] => okSrcN F s0 c && okSrcN F s1 x && okSrcN F s2 y
  | .binOp bo t x y _, .bin bo' isB, [s0, s1] => bo == bo' && okSrcN F s0 x && okSrcN F s1 y && (!isB || isBoolT P t)
  | .binOp bo t x y _, .eqA ks neg, [s0, s1] => bo == (if neg then .neq else .eql) && okSrcN F s0 x && okSrcN F s1 y && flatK P 50 t == some ks && aggOf P t == some true && !P.eqGuardType P.depth t
  | .unOp u _ x, .un u', [s0] => u == u' && okSrcN F s0 x
  | .alloc t, .bx n, [.c z] => zeroIs P t z && decide (1 ≤ n)
  | .box _ x, .bx n, [s0] => okSrcN F s0 x && decide (1 ≤ n)
  | .alloc t, .hp n, [.c z] => zeroIs P t z && decide (1 ≤ n)
  | .box _ x, .hp n, [s0] => okSrcN F s0 x && decide (1 ≤ n)
  | .fieldAddr st x f, .faB p off, [.v p' m] => p == p' && okSrc F (.v p' m) x && okFld P st f off
  | .fieldAddr st x f, .fa off, [s0] => okSrcN F s0 x && okFld P st f off
  | .load t x, .ldB p n ag false, [s0, .v p' false] => p == p' && okSrc F s0 x && (F.slot (.v p)).isSome && okTy P t n ag
  | .load t x, .ldB p n ag true, [s0, .v p' true] => p == p' && okSrc F s0 x && !s0.mvd && (F.slot (.v p)).isSome && okTy P t n ag
  | .load t x, .ldB p n ag false, [.v p' false] => p == p' && okSrc F (.v p' false) x && okTy P t n ag
  | .load t x, .ldB p n ag true, [.v p' true] => p == p' && okSrc F (.v p' false) x && okTy P t n ag
  | .load t x, .ldP n ag _, [s0] => okSrcN F s0 x && okTy P t n ag
  | .store t x y, .stB p n, [s0, s1] => okSrc F s0 x && okSrcN F s1 y && okSz P t n && (F.slot (.v p)).isSome && !(movedL [s0, s1]).contains (.v p) && (match s0 with | .v p' _ => p' == p | _ => true)
  | .store t x y, .stP n, [s0, s1] => okSrcN F s0 x && okSrcN F s1 y && okSz P t n
  | .indexAddr t x y, .ia sz, [s0, s1] => okSrcN F s0 x && okSrcN F s1 y && okEl P t sz
  | .indexAddr t x y, .iaB p len sz, [.v p' m, s1] => p == p' && okSrc F (.v p' m) x && okSrcN F s1 y && okArr P t len sz
  | .indexAddr t x y, .iaA len sz, [s0, s1] => okSrcN F s0 x && okSrcN F s1 y && okArr P t len sz
  | .index t x y, .ix len sz ag, [s0, s1] => okSrcN F s0 x && okSrcN F s1 y && okIndexV P t len sz ag
  | .index t x y, .ixS, [s0, s1] => okSrcN F s0 x && okSrcN F s1 y && isStrT P t
  | .field t x f, .fld off n ag, [s0] => okSrcN F s0 x && okFieldV P t f off n ag
  | .extract x k, .ext k', [s0] => k == k' && okSrcN F s0 x
  | .build t parts, .build zero ps, srcs => okBuild P t zero && okParts F (placeOf P t) srcs parts.toList ps
  | .buildSlice t len parts, .buildSl sz zero ps, srcs => isSlT P t && okZero P (elemT P t) sz && decide (1 ≤ sz) && decide (len * sz ≤ 2 ^ 24) && (zero.length == len) && zero.all (zeroIs P (elemT P t)) && okEls F srcs parts.toList ps
  | .makeSlice t x y, .mkSl sz bytes _ zero, [s0, s1] => okSrcN F s0 x && okSrcN F s1 y && isSlT P t && okZero P (elemT P t) sz && (P.bytesOf (elemT P t) == bytes) && zeroCellsAre P (elemT P t) zero
  | .slice t x lo hi mx, .slc sz bl bh bm, s0 :: ss => okSrcN F s0 x && okEl P t sz && (!bm || bh) && (match okOpt F bl lo ss with | some r1 => (match okOpt F bh hi r1 with | some r2 => (match okOpt F bm mx r2 with | some [] => true | _ => false) | none => false) | none => false)
  | .slice t x lo hi none, .slS bl bh, s0 :: ss => okSrcN F s0 x && isStrT P t && (match okOpt F bl lo ss with | some r1 => (match okOpt F bh hi r1 with | some [] => true | _ => false) | none => false)
  | .convert src dst x, .cvI k, [s0] => okSrcN F s0 x && (P.underlying src).isSome && (match P.underlying dst with | some (.int k') => k == k' | _ => false)
  | .convert src dst x, .cvS, [s0] => okSrcN F s0 x && isStrT P src && isStrT P dst
  | .convert src dst x, .cvSB, [s0] => okSrcN F s0 x && (P.underlying src).isSome && isByteSl P dst
  | .convert src dst x, .cvBS, [s0] => okSrcN F s0 x && isByteSl P src && isStrT P dst
  | .makeFunc fn first captured, .mkFn fn' n, srcs => fn == fn' && n == first.size && okAll F srcs (first.toList ++ captured.toList)
  | .makeInterface t x, .mkIf t', [s0] => t == t' && okSrcN F s0 x && P.concrete t
  | .call { callee := .builtin .append, args := ⟨[x, y]⟩, argTypes := ⟨[t, u]⟩ }, .app sz bytes, [s0, s1] =>
    okSrcN F s0 x && okSrcN F s1 y && isSlT P t && okZero P (elemT P t) sz && (P.bytesOf (elemT P t) == bytes) && notInt P u
  | .call { callee := .builtin .append, args := ⟨[x, y]⟩, argTypes := ⟨[t, u]⟩ }, .appH sz bytes _, [s0, s1] =>
    okSrcN F s0 x && okSrcN F s1 y && isSlT P t && okZero P (elemT P t) sz && (P.bytesOf (elemT P t) == bytes) && notInt P u && decide (1 ≤ sz)
  | .call { callee := .builtin .copy, args := ⟨[x, y]⟩, argTypes := ⟨[t, _]⟩ }, .cpy sz, [s0, s1] => okSrcN F s0 x && okSrcN F s1 y && okEl P t sz && decide (1 ≤ sz)
  | .call { callee := .builtin .len, args := ⟨[x]⟩, argTypes := ⟨[t]⟩ }, .len, [s0] => okSrcN F s0 x && isSlT P t
  | .call { callee := .builtin .len, args := ⟨[x]⟩, argTypes := ⟨[t]⟩ }, .lenS, [s0] => okSrcN F s0 x && isStrT P t
  | .call { callee := .builtin .len, args := ⟨[_]⟩, argTypes := ⟨[t]⟩ }, .lenA n, [_] => okLenA P t n
  | .call { callee := .builtin .max, args := ⟨[x, y]⟩, argTypes := _ }, .max, [s0, s1] => okSrcN F s0 x && okSrcN F s1 y
  | .call { callee := .builtin .min, args := ⟨[x, y]⟩, argTypes := _ }, .min, [s0, s1] => okSrcN F s0 x && okSrcN F s1 y
  | .call { callee := .value (.func f), args, argTypes := _ }, .call f', srcs => f == f' && okAll F srcs args.toList
  | .call { callee := .value (.tmp t), args, argTypes := _ }, .callV, s0 :: srcs => okSrcN F s0 (.tmp t) && okAll F srcs args.toList
  | _, _, _ => false

/-- Which variables an operation may turn. -/
def okDst' (F : Fr) (i : Nat) (o : Oper) (q : IOp) : Bool :=
  match q.op with
  | .bx _ => (match q.dst with | .v p => F.bxs.getD p false | _ => false) && okDst F i o.dst q.dst
  | .stB _ _ => o.dst.isNone && (match q.dst with | .none => true | _ => false)
  | .stP _ => o.dst.isNone && (match q.dst with | .none => true | _ => false)
  | _ => okDst F i o.dst q.dst

def nodupB : List ELoc → Bool
  | [] => true
  | x :: l => !l.contains x && nodupB l

theorem nodupB_spec : ∀ {l : List ELoc}, nodupB l = true → l.Nodup
  | [], _ => by simp
  | x :: l, h => by
    simp only [nodupB, Bool.and_eq_true, Bool.not_eq_true', List.contains_eq_mem, decide_eq_false_iff_not] at h
    rw [List.nodup_cons]; exact ⟨h.1, nodupB_spec h.2⟩

/-- The guard of an operation. -/
def okGuard (F : Fr) (ops : Array Oper) (o : Oper) (q : IOp) : Bool :=
  match o.guard, q.guard with
  | none, none => true
  | some (j, b), some (j', b') => j == j' && b == b' && (match ops[j]? with | some oj => oj.dst.isSome && (F.slot (.t j) == oj.dst) | none => false)
  | _, _ => false

def okIOp (P : Program) (F : Fr) (ops : Array Oper) (i : Nat) (o : Oper) (q : IOp) : Bool :=
  okOp P F o.op q.op q.ins && okDst' F i o q && nodupB (movedL q.ins) && okGuard F ops o q

section
variable {P : Program} {F : Fr} {E : Entry} {G : Ghost} {hw : HW} {ew : EW} {bx : Nat → Option Nat} {a : Act} {w : World} {s : St} {o : Oper}

theorem wp_step {s' : St} {next : Act → World → Prop} {Q : Exit → Act → World → Prop} (h : StepRes P F E o a w s')
    (hn : ∀ G' hw' ew' bx' a' w', SRel F E G' hw' ew' bx' a' w' s' → next a' w') : o.wp P a w next Q := by
  obtain ⟨v, w', G', hw', ew', bx', h1, h2⟩ := h
  have := hn _ _ _ _ _ _ h2
  rcases h1 with h1 | ⟨h1, rfl⟩ <;> simp [Oper.wp, Oper.upon, h1, this]

theorem elemT_spec {t : TypeId} (h : isSlT P t = true) : P.underlying t = some (.slice (elemT P t)) := by
  unfold isSlT at h
  unfold elemT
  cases hu : P.underlying t with
  | none => simp [hu] at h
  | some d => cases d <;> simp [hu] at h ⊢

theorem isBoolT_spec {t : TypeId} (h : isBoolT P t = true) : P.underlying t = some .bool := by
  unfold isBoolT at h
  cases hu : P.underlying t with
  | none => simp [hu] at h
  | some d => cases d <;> simp [hu] at h ⊢
theorem isStrT_spec {t : TypeId} (h : isStrT P t = true) : P.underlying t = some .string := by
  unfold isStrT at h
  cases hu : P.underlying t with
  | none => simp [hu] at h
  | some d => cases d <;> simp [hu] at h ⊢
theorem isByteSl_spec {t : TypeId} (h : isByteSl P t = true) : ∃ e, P.underlying t = some (.slice e) ∧ P.underlying e = some (.int .u8) := by
  unfold isByteSl at h
  split at h
  · rename_i e hu
    split at h
    · rename_i he; exact ⟨e, hu, he⟩
    · simp at h
  · simp at h

/-- What a step of the evaluator, that doesn't fail, says of the machine's: a value, or a state. -/
def Good (P : Program) (F : Fr) (E : Entry) (o : Oper) (a : Act) (w : World) (i : Nat) (q : IOp) (s : St) (r : DV) (h : Heap) : Prop :=
  StepRes P F E o a w (writeD i (q.op.dst q.dst) r { (q.ins.foldl (moveS q.op ((q.ins.map (readS s)).headD (false, .junk)).2) s) with heap := h })

theorem pair_eq (s : St) (x : Src) : readS s x = ((readS s x).1, (readS s x).2) := rfl

theorem src_mvd (hS : SRel F E G hw ew bx a w s) {src : Src} {x : Operand} (h : okSrcN F src x = true) : (readS s src).1 = src.mvd := by
  have hs : okSrc F src x = true := by simp only [okSrcN, Bool.and_eq_true] at h; exact h.1
  obtain ⟨r, _, hm⟩ := src_rel hS hs
  exact hm

theorem good_of_pure (hF : F.WF) (hS : SRel F E G hw ew bx a w s) {i : Nat} {op : DOp} {ins : List Src} {D : Dst} {g : Option (Nat × Bool)} (hD : okDst F i o.dst D = true) (hdst : op.dst D = D) (hb : ∀ d adr, back op d adr = strip d) (hn : (movedL ins).Nodup)
    {r : DV} {h : Heap} (hh : h = s.heap) (hp : PureRes P o a w G bx ew (movedL ins) r) : Good P F E o a w i ⟨op, ins, D, g⟩ s r h := by
  subst hh
  unfold Good
  simp only [hdst]
  exact step_of_pure hF hS hD (fun d => hb d _) hn hp

theorem back_strip {op : DOp} (h : ∀ p n ag, op ≠ .ldB p n ag true) (d adr : DV) : back op d adr = strip d := by
  unfold back
  split
  · exact absurd rfl (h _ _ _)
  · rfl

set_option maxHeartbeats 1000000 in
theorem good_all (hF : F.WF) (hS : SRel F E G hw ew bx a w s) {ev : FuncId → List DV → Heap → Res DV} {i : Nat} {q : IOp} (hop : okOp P F o.op q.op q.ins = true) (hD : okDst' F i o q = true) (hn : (movedL q.ins).Nodup) (hbox : boxOk q.op q.dst s = true)
    (hnc : ∀ f, q.op ≠ .call f) (hnv : q.op ≠ .callV) {r : DV} {h : Heap} (hc : compute ev q.op (oldD i (q.op.dst q.dst) s) (q.ins.map (readS s)) s.heap = .ok r h) : Good P F E o a w i q s r h := by
  obtain ⟨op, ins, D, g⟩ := q
  simp only at hop hn hbox hnc hnv hc
  generalize ho : o.op = oop at hop
  unfold okOp at hop
  split at hop
  all_goals (try (simp only [Bool.and_eq_true, beq_iff_eq, Bool.or_eq_true, Bool.not_eq_true', decide_eq_true_eq] at hop))
  · -- move
    rename_i x s0
    obtain ⟨rfl, rfl⟩ := inv_mv hc
    exact good_of_pure hF hS hD rfl (back_strip (by simp)) hn rfl (pure_mv hS hop (.inl ho))
  · rename_i x s0
    obtain ⟨rfl, rfl⟩ := inv_mv hc
    exact good_of_pure hF hS hD rfl (back_strip (by simp)) hn rfl (pure_mv hS hop (.inr ho))
  · rename_i c x y s0 s1 s2
    obtain ⟨b, hb, rfl, rfl⟩ := inv_pick (m0 := (readS s s0).1) (d0 := (readS s s0).2) (m1 := (readS s s1).1) (d1 := (readS s s1).2) (m2 := (readS s s2).1) (d2 := (readS s s2).2) hc
    exact good_of_pure hF hS hD rfl (back_strip (by simp)) hn rfl (pure_pick hS hop.1.1 hop.1.2 hop.2 ho hb)
  · -- bin
    rename_i bo t x y yt bo' isB s0 s1
    obtain ⟨⟨⟨rfl, h0⟩, h1⟩, hB⟩ := hop
    obtain ⟨u, v, z, e0, e1, hz, rfl, rfl⟩ := inv_bin (d0 := (readS s s0).2) (d1 := (readS s s1).2) hc
    cases isB with
    | true =>
      simp only [if_true] at hz
      exact good_of_pure hF hS hD rfl (back_strip (by simp)) hn rfl (pure_binB hS h0 h1 ho (isBoolT_spec (by simpa using hB)) e0 e1 hz _)
    | false =>
      simp only [Bool.false_eq_true, if_false] at hz
      exact good_of_pure hF hS hD rfl (back_strip (by simp)) hn rfl (pure_bin hS h0 h1 ho e0 e1 hz _)
  · -- eqA
    rename_i bo t x y yt ks neg s0 s1
    obtain ⟨⟨⟨⟨⟨hbo, h0⟩, h1⟩, hk⟩, hag⟩, hg⟩ := hop
    obtain ⟨xs, ys, b, e0, e1, hz, rfl, rfl⟩ := inv_eqA (d0 := (readS s s0).2) (d1 := (readS s s1).2) hc
    exact good_of_pure hF hS hD rfl (back_strip (by simp)) hn rfl (pure_eqA hS h0 h1 ho hbo hk (by omega) hag hg e0 e1 hz _)
  · -- un
    rename_i u t x u' s0
    obtain ⟨rfl, h0⟩ := hop
    obtain ⟨x', z, e0, hz, rfl, rfl⟩ := inv_un (d0 := (readS s s0).2) hc
    exact good_of_pure hF hS hD rfl (back_strip (by simp)) hn rfl (pure_un hS h0 ho e0 hz _)
  · -- alloc, a variable's own cells
    rename_i t n z
    obtain ⟨hlen, rfl, rfl⟩ := inv_bx (m0 := false) (d0 := z) hc
    simp only [zeroIs] at hop
    cases hi : P.info? t with
    | none => simp [hi] at hop
    | some it =>
      cases hz : it.zero with
      | none => simp [hi, hz] at hop
      | some zv =>
        simp only [hi, hz] at hop
        simp only [okDst', Bool.and_eq_true] at hD
        cases D with
        | v p =>
          exact step_bx hF hS hD.2 hD.1 hbox hn (v := zv) (e := t) (by simp [execOp, ho, Instr.alloc, zeroValue, typeInfo, hi, hz, newVar, newRow]) (VRel.strip _ (okConst_rel _ hop.1)) (by simp) (by simp) hlen hop.2
        | t => simp at hD
        | none => simp at hD
  · -- box, a variable's own cells
    rename_i t x n s0
    obtain ⟨hlen, rfl, rfl⟩ := inv_bx (m0 := (readS s s0).1) (d0 := (readS s s0).2) hc
    obtain ⟨r, h1, h2, h3, h4⟩ := handed hS hop.1
    have hnl : ∀ p q, hand (readS s s0) ≠ .lref p q := fun p q e => by
      have hlen' : (cellsOf (hand (readS s s0))).length = n := hlen
      rw [e] at hlen'; simp [cellsOf] at hlen'; have := hop.2; omega
    simp only [okDst', Bool.and_eq_true] at hD
    cases D with
    | v p =>
      exact step_bx hF hS hD.2 hD.1 hbox hn (v := a.eval x) (e := t) (by simp [execOp, ho, Instr.box, newVar, newRow]) (h1.v hnl) h2 (fun b hb => by
        obtain ⟨hm, l, hl, he⟩ := h3 b hb; exact ⟨l, loc_moved hm hl _, he⟩) hlen hop.2
    | t => simp at hD
    | none => simp at hD
  · -- alloc, the heap
    rename_i t n z
    obtain ⟨hlen, rfl, rfl⟩ := inv_hp (m0 := false) (d0 := z) hc
    simp only [zeroIs] at hop
    cases hi : P.info? t with
    | none => simp [hi] at hop
    | some it =>
      cases hz : it.zero with
      | none => simp [hi, hz] at hop
      | some zv =>
        simp only [hi, hz] at hop
        exact step_hp hF hS hD hn (v := zv) (e := t) (by simp [execOp, ho, Instr.alloc, zeroValue, typeInfo, hi, hz, newVar, newRow]) (VRel.strip _ (okConst_rel _ hop.1)) (by simp) (by simp) hlen hop.2
  · -- box, the heap
    rename_i t x n s0
    obtain ⟨hlen, rfl, rfl⟩ := inv_hp (m0 := (readS s s0).1) (d0 := (readS s s0).2) hc
    obtain ⟨r, h1, h2, h3, h4⟩ := handed hS hop.1
    have hnl : ∀ p q, hand (readS s s0) ≠ .lref p q := fun p q e => by
      have hlen' : (cellsOf (hand (readS s s0))).length = n := hlen
      rw [e] at hlen'; simp [cellsOf] at hlen'; have := hop.2; omega
    exact step_hp hF hS hD hn (v := a.eval x) (e := t) (by simp [execOp, ho, Instr.box, newVar, newRow]) (h1.v hnl) h2 (fun b hb => by
        obtain ⟨hm, l, hl, he⟩ := h3 b hb; exact ⟨l, loc_moved hm hl _, he⟩) hlen hop.2
  · -- faB
    rename_i st x f p off p' m
    obtain ⟨⟨rfl, h0⟩, hf⟩ := hop
    obtain ⟨cs, e0, rfl, rfl⟩ := inv_faB (d0 := (readS s (.v p m)).2) hc
    exact good_of_pure hF hS hD rfl (back_strip (by simp)) hn rfl (pure_faB hS h0 rfl ho hf e0 _)
  · -- fa
    rename_i st x f off s0
    obtain ⟨rfl, hc | hc | hc⟩ := inv_fa (d0 := (readS s s0).2) hc
    · obtain ⟨b, k, e0, rfl⟩ := hc
      exact good_of_pure hF hS hD rfl (back_strip (by simp)) hn rfl ((pure_fa hS hop.1 ho hop.2 _).1 b k e0)
    · obtain ⟨cs, e0, rfl⟩ := hc
      exact good_of_pure hF hS hD rfl (back_strip (by simp)) hn rfl ((pure_fa hS hop.1 ho hop.2 _).2.1 cs e0)
    · obtain ⟨p, k, e0, rfl⟩ := hc
      exact good_of_pure hF hS hD rfl (back_strip (by simp)) hn rfl ((pure_fa hS hop.1 ho hop.2 _).2.2 p k e0)
  · -- ldB
    rename_i t x p n ag s0 p'
    obtain ⟨⟨⟨rfl, h0⟩, hsl⟩, hty⟩ := hop
    obtain ⟨tp, hsl⟩ := Option.isSome_iff_exists.1 hsl
    obtain ⟨q, k, cs, e0, e1, e2, e3, rfl, hr | hr⟩ := inv_ldB2 (d0 := (readS s s0).2) (d1 := (readS s (.v p false)).2) hc
    · simp at hr
    · obtain ⟨_, rfl⟩ := hr
      exact good_of_pure hF hS hD rfl (back_strip (by simp)) hn rfl ((pure_ldB hS h0 hsl ho hty e1 _).1 k e0 ⟨e2, e3⟩)
  · -- ldB that takes
    rename_i t x p n ag s0 p'
    obtain ⟨⟨⟨⟨rfl, h0⟩, hmv⟩, hsl⟩, hty⟩ := hop
    obtain ⟨tp, hsl⟩ := Option.isSome_iff_exists.1 hsl
    obtain ⟨q, k, cs, e0, e1, rfl, e3, rfl, hr | hr⟩ := inv_ldB2 (d0 := (readS s s0).2) (d1 := (readS s (.v p true)).2) hc
    · obtain ⟨_, rfl, hnb⟩ := hr
      obtain ⟨r0, hr0, _⟩ := src_rel hS h0
      have hrel := hr0.rel
      rw [e0] at hrel
      obtain ⟨_, rb, hb, hval⟩ := hrel
      unfold Good
      have hs0 : ∀ s' : St, moveS (.ldB q n ag true) ((readS s s0).2) s' s0 = s' := by
        intro s'; cases s0 with
        | v p m => simp only [Src.mvd] at hmv; subst hmv; rfl
        | t j m => simp only [Src.mvd] at hmv; subst hmv; rfl
        | c d => rfl
      have e1' : s.vars.getD q .junk = .box cs := e1
      simp only [List.foldl_cons, List.foldl_nil, List.map_cons, List.headD_cons, hs0, DOp.dst]
      refine step_ldBT hF hS hD hsl ho hty hb hval e1' e3 hnb ?_
      simp only [moveS, e0, e1', back]
    · simp at hr
  · -- ldB of the variable itself
    rename_i t x p n ag p'
    obtain ⟨⟨rfl, h0⟩, hty⟩ := hop
    obtain ⟨tp, _, hsl⟩ := okSrc_v h0
    obtain ⟨cs, e0, e3, rfl, hr | hr⟩ := inv_ldB1 (d0 := (readS s (.v p false)).2) hc
    · simp at hr
    · obtain ⟨_, rfl⟩ := hr
      exact good_of_pure hF hS hD rfl (back_strip (by simp)) hn rfl ((pure_ldB (q := p) hS h0 hsl ho hty e0 _).2 false rfl e3)
  · -- .. that takes
    rename_i t x p n ag p'
    obtain ⟨⟨rfl, h0⟩, hty⟩ := hop
    obtain ⟨tp, hx, hsl⟩ := okSrc_v h0
    obtain ⟨cs, e0, e3, rfl, hr | hr⟩ := inv_ldB1 (d0 := (readS s (.v p true)).2) hc
    · obtain ⟨_, rfl, hnb⟩ := hr
      have e1' : s.vars.getD p .junk = .box cs := e0
      obtain ⟨rb, c, e, r, hb, hval, _⟩ := box_cells hS hsl e1'
      unfold Good
      simp only [List.foldl_cons, List.foldl_nil, List.map_cons, List.headD_cons, DOp.dst]
      refine step_ldBT hF hS hD hsl ho hty hb (k := 0) (by subst hx; exact hval) e1' (by omega) hnb ?_
      have e0' : (readS s (.v p true)).2 = .box cs := e0
      simp only [moveS, e0', e1', back]
    · simp at hr
  · -- ldP
    rename_i t x n ag take s0
    rcases inv_ldP (d0 := (readS s s0).2) hc with ⟨b, k, cs, e0, hb, hk, hr | hr⟩ | ⟨cs, e0, hk, rfl, rfl⟩
    · obtain ⟨rfl, rfl, hnb, rfl⟩ := hr
      obtain ⟨r0, hv⟩ := peek_v hS hop.1 e0 (by simp)
      simp only [VRel] at hv
      obtain ⟨_, rb, hrb, hval⟩ := hv
      exact step_ldPT hF hS hD (back_strip (by simp) · _) hn ho hop.2 hrb hval hb hk hnb
    · obtain ⟨rfl, rfl, rfl⟩ := hr
      exact good_of_pure hF hS hD rfl (back_strip (by simp)) hn rfl ((pure_ldP hS hop.1 ho hop.2 _).1 b k cs e0 hb hk)
    · exact good_of_pure hF hS hD rfl (back_strip (by simp)) hn rfl ((pure_ldP hS hop.1 ho hop.2 _).2 cs e0 hk)
  · -- stB
    rename_i t x y p n s0 s1
    obtain ⟨⟨⟨⟨⟨h0, h1⟩, hty⟩, hsl⟩, hnm⟩, hs0⟩ := hop
    obtain ⟨tp, hsl⟩ := Option.isSome_iff_exists.1 hsl
    obtain ⟨cs, k, hold, hk, hlen, rfl, rfl, hadr⟩ := inv_stB (m1 := (readS s s1).1) (d0 := (readS s s0).2) (d1 := (readS s s1).2) hc
    have hold' : s.vars.getD p .junk = .box cs := hold
    obtain ⟨r, g1, g2, g3, g4⟩ := handed hS h1
    have hpos := (okSz_spec hty).2
    have hnl : ∀ p q, hand (readS s s1) ≠ .lref p q := fun p q e => by
      have hlen' : (cellsOf (hand (readS s s1))).length = n := hlen
      rw [e] at hlen'; simp [cellsOf] at hlen'; omega
    simp only [okDst', Bool.and_eq_true, Option.isNone_iff_eq_none] at hD
    have hnp : ELoc.v p ∉ movedL [s0, s1] := by simpa using hnm
    obtain ⟨rb, hb, hval⟩ : ∃ rb, bx p = some rb ∧ a.eval x = .pointer (some ⟨rb, k, none⟩) := by
      rcases hadr with ⟨q, e0, rfl⟩ | ⟨c, e0, rfl⟩
      · obtain ⟨r0, hr0, _⟩ := src_rel hS h0
        have hrel := hr0.rel
        rw [e0] at hrel
        obtain ⟨_, rb, hb, hval⟩ := hrel
        exact ⟨rb, hb, hval⟩
      · cases s0 with
        | v p' m =>
          simp only [beq_iff_eq] at hs0
          subst hs0
          obtain ⟨t', hx, hsl'⟩ := okSrc_v h0
          obtain ⟨rb, c', e, r', hb, hval, _⟩ := box_cells hS hsl' hold'
          exact ⟨rb, hb, by subst hx; exact hval⟩
        | t j m =>
          obtain ⟨t', hx⟩ : ∃ t', x = .tmp t' := by cases x <;> simp [okSrc] at h0; exact ⟨_, rfl⟩
          subst hx
          simp only [okSrc, beq_iff_eq] at h0
          obtain ⟨d, hd⟩ := hS.val_some h0
          obtain ⟨_, _, _, _, q4⟩ := hS.loc _ _ _ h0 hd
          have : (readS s (.t j m)).2 = d := by simp only [readS, St.val] at *; simp [hd]
          rw [this] at e0
          obtain ⟨p', rb, e, _⟩ := q4 c e0
          simp at e
        | c d =>
          have e0' : d = .box c := e0
          subst e0'
          cases x <;> simp [okSrc, okConst] at h0
    exact step_stB hF hS hD.1 hsl hn hnp ho hty hb hval hold' (g1.v hnl) g2 (fun b hb => by
        obtain ⟨hm, l, hl, he⟩ := g3 b hb; exact ⟨l, loc_moved_tail (loc_moved hm hl _), he⟩) hlen hk
  · -- stP
    rename_i t x y n s0 s1
    obtain ⟨⟨h0, h1⟩, hty⟩ := hop
    obtain ⟨b, k, cs, e0, hb, hk, hlen, rfl, rfl⟩ := inv_stP (m1 := (readS s s1).1) (d0 := (readS s s0).2) (d1 := (readS s s1).2) hc
    obtain ⟨r, g1, g2, g3, g4⟩ := handed hS h1
    have hpos := (okSz_spec hty).2
    have hnl : ∀ p q, hand (readS s s1) ≠ .lref p q := fun p q e => by
      have hlen' : (cellsOf (hand (readS s s1))).length = n := hlen
      rw [e] at hlen'; simp [cellsOf] at hlen'; omega
    simp only [okDst', Bool.and_eq_true, Option.isNone_iff_eq_none] at hD
    obtain ⟨r0, hv⟩ := peek_v hS h0 e0 (by simp)
    simp only [VRel] at hv
    obtain ⟨_, rb, hrb, hval⟩ := hv
    cases D with
    | none => exact step_stP hF hS hD.1 hn ho hty hrb hval hb (g1.v hnl) g2 (fun b hb => by
        obtain ⟨hm, l, hl, he⟩ := g3 b hb; exact ⟨l, loc_moved_tail (loc_moved hm hl _), he⟩) hlen hk
    | v p => simp at hD
    | t => simp at hD
  · -- ia
    rename_i t x y sz s0 s1
    obtain ⟨rfl, k, i', e1, h0', hr | hr⟩ := inv_ia (d0 := (readS s s0).2) (d1 := (readS s s1).2) hc
    · obtain ⟨m, xs, d, e0, hd, rfl⟩ := hr
      exact good_of_pure hF hS hD rfl (back_strip (by simp)) hn rfl ((pure_ia hS hop.1.1 hop.1.2 ho hop.2 e1 _).1 m xs d e0 h0' hd)
    · obtain ⟨b, off, len, cap, ag, e0, hlt, rfl⟩ := hr
      exact good_of_pure hF hS hD rfl (back_strip (by simp)) hn rfl ((pure_ia hS hop.1.1 hop.1.2 ho hop.2 e1 _).2 b off len cap sz ag e0 h0' hlt)
  · -- iaB
    rename_i t x y p len sz p' m s1
    obtain ⟨⟨⟨rfl, h0⟩, h1⟩, ht⟩ := hop
    obtain ⟨cs, k, i', e0, e1, g0, g1, rfl, rfl⟩ := inv_iaB (d0 := (readS s (.v p m)).2) (d1 := (readS s s1).2) hc
    exact good_of_pure hF hS hD rfl (back_strip (by simp)) hn rfl (pure_iaB hS h0 h1 rfl ho ht e1 e0 g0 g1 _)
  · -- iaA
    rename_i t x y len sz s0 s1
    obtain ⟨rfl, k, i', e1, g0, g1, hr | hr | hr⟩ := inv_iaA (d0 := (readS s s0).2) (d1 := (readS s s1).2) hc
    · obtain ⟨p, k', e0, rfl⟩ := hr
      exact good_of_pure hF hS hD rfl (back_strip (by simp)) hn rfl ((pure_iaA hS hop.1.1 hop.1.2 ho hop.2 e1 g0 g1 _).1 p k' e0)
    · obtain ⟨p, k', e0, rfl⟩ := hr
      exact good_of_pure hF hS hD rfl (back_strip (by simp)) hn rfl ((pure_iaA hS hop.1.1 hop.1.2 ho hop.2 e1 g0 g1 _).2.1 p k' e0)
    · obtain ⟨cs, e0, rfl⟩ := hr
      exact good_of_pure hF hS hD rfl (back_strip (by simp)) hn rfl ((pure_iaA hS hop.1.1 hop.1.2 ho hop.2 e1 g0 g1 _).2.2 cs e0)
  · -- ix
    rename_i t x y len sz ag s0 s1
    obtain ⟨cs, k, i', e0, e1, g0, g1, g2, rfl, rfl⟩ := inv_ix (d0 := (readS s s0).2) (d1 := (readS s s1).2) hc
    exact good_of_pure hF hS hD rfl (back_strip (by simp)) hn rfl (pure_ix hS hop.1.1 hop.1.2 ho hop.2 e1 e0 g0 g1 g2 _)
  · -- ixS
    rename_i t x y s0 s1
    obtain ⟨st, k, i', b, e0, e1, g0, g1, rfl, rfl⟩ := inv_ixS (d0 := (readS s s0).2) (d1 := (readS s s1).2) hc
    exact good_of_pure hF hS hD rfl (back_strip (by simp)) hn rfl (pure_ixS hS hop.1.1 hop.1.2 ho (isStrT_spec hop.2) e1 e0 g0 g1 _)
  · -- fld
    rename_i t x f off n ag s0
    obtain ⟨cs, e0, g0, rfl, rfl⟩ := inv_fld (d0 := (readS s s0).2) hc
    exact good_of_pure hF hS hD rfl (back_strip (by simp)) hn rfl (pure_fld hS hop.1 ho hop.2 e0 g0 _)
  · -- ext
    rename_i x k k' s0
    obtain ⟨rfl, h0⟩ := hop
    obtain ⟨cs, d, e0, g0, rfl, rfl⟩ := inv_ext (d0 := (readS s s0).2) hc
    exact good_of_pure hF hS hD rfl (back_strip (by simp)) hn rfl (pure_ext hS h0 ho e0 g0 _)
  · -- build
    rename_i t parts zero ps
    obtain ⟨cs, g0, rfl, rfl⟩ := inv_build hc
    rw [List.map_map] at g0
    exact good_of_pure hF hS hD rfl (back_strip (by simp)) hn rfl (pure_build hS ho hop.1 hop.2 hn g0)
  · -- buildSl
    rename_i t len parts sz zero ps
    obtain ⟨⟨⟨⟨⟨⟨h1, h2⟩, h3⟩, h4⟩, h5⟩, h6⟩, h7⟩ := hop
    obtain ⟨g0, l, g1, rfl, rfl⟩ := inv_buildSl hc
    rw [List.map_map] at g1
    exact step_buildSl hF hS hD hn ho (elemT_spec h1) h2 h3 h4 h6 h5 h7 (by rw [List.all_map] at g0 ⊢; exact g0) g1
  · -- mkSl
    rename_i t x y sz bytes ag zero s0 s1
    obtain ⟨⟨⟨⟨⟨h0, h1⟩, h2⟩, h3⟩, h4⟩, h5⟩ := hop
    obtain ⟨k, k', n, e0, e1, g0, g1, rfl, rfl⟩ := inv_mkSl (d0 := (readS s s0).2) (d1 := (readS s s1).2) hc
    exact step_mkSl hF hS hD hn ho (elemT_spec h2) h3 h4 h5 (scalar hS h0 e0) (scalar hS h1 e1) g0 g1
  · -- slc
    rename_i t x lo hi mx sz bl bh bm s0 ss
    obtain ⟨⟨⟨h0, h1⟩, h2⟩, h3⟩ := hop
    obtain ⟨m, ys, l, q1, u, q2, mm, rl, ru, rm, e0, t1, t2, t3, hb, rfl, rfl⟩ := inv_slc (d0 := (readS s s0).2) hc
    split at h3
    · rename_i r1 o1
      split at h3
      · rename_i r2 o2
        split at h3
        · rename_i o3
          exact good_of_pure hF hS hD rfl (back_strip (by simp)) hn rfl (pure_slc hS h0 ho h1 o1 o2 o3 (fun e => by subst e; simpa using h2) e0 t1 t2 t3 hb _)
        · simp at h3
      · simp at h3
    · simp at h3
  · -- slS
    rename_i t x lo hi bl bh s0 ss
    obtain ⟨⟨h0, h1⟩, h3⟩ := hop
    obtain ⟨st, l, q1, u, rl, ru, rm, e0, t1, t2, hb, rfl, rfl⟩ := inv_slS (d0 := (readS s s0).2) hc
    split at h3
    · rename_i r1 o1
      split at h3
      · rename_i o2
        exact good_of_pure hF hS hD rfl (back_strip (by simp)) hn rfl (pure_slS hS h0 ho (isStrT_spec h1) o1 o2 e0 t1 t2 hb _)
      · simp at h3
    · simp at h3
  · -- cvI
    rename_i src dst x k s0
    obtain ⟨⟨h0, h1⟩, h2⟩ := hop
    obtain ⟨k', n, e0, rfl, rfl⟩ := inv_cvI (d0 := (readS s s0).2) hc
    split at h2
    · rename_i k2 hd
      simp only [beq_iff_eq] at h2; subst h2
      exact good_of_pure hF hS hD rfl (back_strip (by simp)) hn rfl (pure_cvI hS h0 ho h1 hd e0 _)
    · simp at h2
  · -- cvS
    rename_i src dst x s0
    obtain ⟨st, e0, rfl, rfl⟩ := inv_cvS (d0 := (readS s s0).2) hc
    exact good_of_pure hF hS hD rfl (back_strip (by simp)) hn rfl (pure_cvS hS hop.1.1 ho (isStrT_spec hop.1.2) (isStrT_spec hop.2) e0 _)
  · -- cvSB
    rename_i src dst x s0
    obtain ⟨⟨h0, h1⟩, h2⟩ := hop
    obtain ⟨st, e0, rfl, rfl⟩ := inv_cvSB (d0 := (readS s s0).2) hc
    obtain ⟨ud, hs⟩ := Option.isSome_iff_exists.1 h1
    obtain ⟨e, hd, he⟩ := isByteSl_spec h2
    exact step_cvSB hF hS hD (back_strip (by simp) · _) hn hs hd he ho (scalar hS h0 e0)
  · -- cvBS
    rename_i src dst x s0
    obtain ⟨⟨h0, h1⟩, h2⟩ := hop
    obtain ⟨ys, l, e0, hb, rfl, rfl⟩ := inv_cvBS (d0 := (readS s s0).2) hc
    obtain ⟨e, hd, he⟩ := isByteSl_spec h1
    have hel : elems s.heap (readS s s0).2 = some (1, ys) := by
      cases hq : (readS s s0).2 with
      | sc u => rw [hq] at e0; simp [elemsSl] at e0
      | _ => rw [hq] at e0; simpa [elems] using e0
    obtain ⟨news, hg⟩ := gives (P := P) hS h0 rfl hel
    obtain ⟨ad, len, cap, hv⟩ : ∃ ad len cap, a.eval x = .slice ad len cap := by
      cases hq : (readS s s0).2 with
      | sl m sz xs =>
        obtain ⟨r, hv⟩ := peek_v hS h0 hq (by simp)
        simp only [VRel] at hv
        obtain ⟨ad, cap, hv, _⟩ := hv
        exact ⟨_, _, _, hv⟩
      | hsl b off len cap sz ag =>
        obtain ⟨r, hv⟩ := peek_v hS h0 hq (by simp)
        simp only [VRel] at hv
        obtain ⟨_, rb, _, cap', hv, _⟩ := hv
        exact ⟨_, _, _, hv⟩
      | _ => rw [hq] at e0; simp [elemsSl] at e0
    exact good_of_pure hF hS hD rfl (back_strip (by simp)) hn rfl (pure_cvBS hd he (isStrT_spec h2) ho hv hg hb _)
  · -- mkFn
    rename_i fn first captured fn' n
    obtain ⟨⟨rfl, rfl⟩, h0⟩ := hop
    obtain ⟨hl, rfl, rfl⟩ := inv_mkFn hc
    rw [List.map_map]
    exact good_of_pure hF hS hD rfl (back_strip (by simp)) hn rfl (pure_mkFn hS h0 ho (fun src hs p off => hl _ (List.mem_map_of_mem hs) p off) _)
  · -- mkIf
    rename_i t x t' s0
    obtain ⟨⟨rfl, h0⟩, h1⟩ := hop
    obtain ⟨hl, rfl, rfl⟩ := inv_mkIf (m0 := (readS s s0).1) (d0 := (readS s s0).2) hc
    refine good_of_pure hF hS hD rfl (back_strip (by simp)) hn rfl (pure_mkIf hS h0 ho h1 ?_)
    intro p off e
    cases hm : (readS s s0).1 with
    | true =>
      rw [pair_eq s s0, hm] at e
      exact hl p off e
    | false =>
      rw [pair_eq s s0, hm] at e
      exact hl p off (strip_not_lref e)
  · -- append
    rename_i x y t u sz bytes s0 s1
    obtain ⟨⟨⟨⟨⟨h0, h1⟩, h2⟩, h3⟩, h4⟩, h5⟩ := hop
    obtain ⟨m, xs, ys, e0, e1, g0, g1, g2, rfl, rfl⟩ := inv_app (m0 := (readS s s0).1) (d0 := (readS s s0).2) (d1 := (readS s s1).2) hc
    obtain ⟨it, z, hi, hz, hs, hzs, _⟩ := okZero_spec h3
    obtain ⟨news, hg⟩ := gives (P := P) hS h1 rfl e1
    have hby : it.bytes = bytes := by simpa [Program.bytesOf, hi] using h4
    have hs0 : okSrc F s0 x = true := by simp only [okSrcN, Bool.and_eq_true] at h0; exact h0.1
    obtain ⟨r, hr, hm⟩ := src_rel hS hs0
    have hrel := hr.rel
    rw [e0] at hrel
    have hv : VRel G w (.sl m sz xs) (a.eval x) r := hrel
    have hown : ∀ b ∈ r, ∃ l ∈ movedL [s0, s1], ew b = some l := by
      intro b hb
      cases m with
      | view => exact absurd rfl g1
      | full =>
        simp only [VRel] at hv
        obtain ⟨_, _, _, _, ⟨_, _, rfl⟩ | ⟨_, _, _, _, rfl, _⟩⟩ := hv <;> simp at hb
      | own =>
        obtain ⟨l, hl, he⟩ := hr.own b hb
        exact ⟨l, loc_moved (by rw [← hm]; exact g2 rfl) hl _, he⟩
    exact step_app hF hS hD (back_strip (by simp) · _) hn (elemT_spec h2) hi hz hzs hs h5 ho hv hr.nodup hown g1 hg (by rw [hby]; exact g0)
  · -- append, into the heap
    rename_i x y t u sz bytes ag s0 s1
    obtain ⟨⟨⟨⟨⟨⟨h0, h1⟩, h2⟩, h3⟩, h4⟩, h5⟩, h6⟩ := hop
    obtain ⟨ys, e0, e1, g0, g1, g2⟩ := inv_appH (m0 := (readS s s0).1) (d0 := (readS s s0).2) (d1 := (readS s s1).2) hc
    obtain ⟨it, z, hi, hz, hs, hzs, hzo⟩ := okZero_spec h3
    obtain ⟨news, hg⟩ := gives (P := P) hS h1 rfl e1
    have hby : it.bytes = bytes := by simpa [Program.bytesOf, hi] using h4
    obtain ⟨r, hv⟩ := peek_v hS h0 e0 (by simp)
    rcases g2 with ⟨hys, rfl, rfl⟩ | ⟨hys, rfl, rfl⟩
    · exact (step_appH (ag := ag) hF hS hD (back_strip (by simp) · _) hn (elemT_spec h2) hi hz hzs hzo hs h6 h5 ho hv hg (by rw [hby]; exact g0) g1).1 hys
    · exact (step_appH (ag := ag) hF hS hD (back_strip (by simp) · _) hn (elemT_spec h2) hi hz hzs hzo hs h6 h5 ho hv hg (by rw [hby]; exact g0) g1).2 hys
  · -- copy
    rename_i x y t u sz s0 s1
    obtain ⟨⟨⟨h0, h1⟩, h2⟩, h3⟩ := hop
    obtain ⟨b, off, len, cap, ag, ys, cs, e0, e1, hb, g0, g1, rfl, rfl⟩ := inv_cpy (d0 := (readS s s0).2) (d1 := (readS s s1).2) hc
    obtain ⟨news, hg⟩ := gives (P := P) hS h1 rfl e1
    obtain ⟨r, hv⟩ := peek_v hS h0 e0 (by simp)
    simp only [VRel] at hv
    obtain ⟨_, rb, hrb, cap', hval, _⟩ := hv
    exact step_cpy hF hS hD (back_strip (by simp) · _) hn h2 h3 ho hrb hval hb hg g0 g1
  · -- len
    rename_i x t s0
    obtain ⟨rfl, hr | hr⟩ := inv_len (d0 := (readS s s0).2) hc
    · obtain ⟨m, sz, xs, e0, rfl⟩ := hr
      exact good_of_pure hF hS hD rfl (back_strip (by simp)) hn rfl ((pure_len hS hop.1 ho (elemT_spec hop.2) _).1 m sz xs e0)
    · obtain ⟨b, off, len, cap, sz, ag, e0, rfl⟩ := hr
      exact good_of_pure hF hS hD rfl (back_strip (by simp)) hn rfl ((pure_len hS hop.1 ho (elemT_spec hop.2) _).2 b off len cap sz ag e0)
  · -- lenS
    rename_i x t s0
    obtain ⟨st, e0, rfl, rfl⟩ := inv_lenS (d0 := (readS s s0).2) hc
    exact good_of_pure hF hS hD rfl (back_strip (by simp)) hn rfl (pure_lenS hS hop.1 ho (isStrT_spec hop.2) e0 _)
  · -- lenA
    rename_i x t n s0
    obtain ⟨rfl, rfl⟩ := inv_lenA (d0 := (readS s s0).2) hc
    exact good_of_pure hF hS hD rfl (back_strip (by simp)) hn rfl (pure_lenA ho hop _)
  · -- max
    rename_i x y ts s0 s1
    obtain ⟨k, k', i', j, e0, e1, rfl, rfl⟩ := inv_max (d0 := (readS s s0).2) (d1 := (readS s s1).2) hc
    exact good_of_pure hF hS hD rfl (back_strip (by simp)) hn rfl (pure_max hS hop.1 hop.2 ho e0 e1 _)
  · -- min
    rename_i x y ts s0 s1
    obtain ⟨k, k', i', j, e0, e1, rfl, rfl⟩ := inv_min (d0 := (readS s s0).2) (d1 := (readS s s1).2) hc
    exact good_of_pure hF hS hD rfl (back_strip (by simp)) hn rfl (pure_min hS hop.1 hop.2 ho e0 e1 _)
  · exact absurd rfl (hnc _)
  · exact absurd rfl hnv
  · simp at hop

end
end Go.D
