/- Regions that keep their order; statements. -/
import Derived.Test.YtilfhbpehgklbaaQqRun
import Derived.LoopN
import Derived.Scope
import Derived.Orders
set_option linter.unusedSimpArgs false
set_option linter.unusedVariables false
namespace Go.D

section
variable {P : Program} {F : Fr} {E : Entry} {G : Ghost} {hw : HW} {ew : EW} {bx : Nat → Option Nat} {a : Act} {w : World} {s : St} {o : Oper} {ev : FuncId → List DV → Heap → Res DV}

theorem SRel.skip (hF : F.WF) (hS : SRel F E G hw ew bx a w s) {i : Nat} {D : Dst} {dt : Option Tmp} (hD : okDst F i dt D = true) : ∃ ew', SRel F E G hw ew' bx (a.put dt undef) w (writeD i D undefD s) := by
  obtain ⟨ew', h⟩ := SRel.pure (op := .mv) (adr := .junk) (ins := []) hF hS hD (fun d => by cases d <;> rfl) (by simp [movedL]) (d := undefD) (v := undef) (r := []) (by simp [undefD, XRel, VRel, plain, undef]) (by simp) (by simp) (by simp [undefD])
  exact ⟨ew', h⟩

theorem runG_wp (hF : F.WF) (hS : SRel F E G hw ew bx a w s) (hev : FnOk P ev) {ops : Array Oper} {i : Nat} {q : IOp} (hi : ops[i]? = some o) (hok : okIOp P F ops i o q = true) {Q : Exit → Act → World → Prop} {K : Act → World → Prop} :
    (∀ s', runG ev i q s = .st s' → (∀ G' hw' ew' bx' a' w', SRel F E G' hw' ew' bx' a' w' s' → K a' w') → wpOp P ops Q i K a w) ∧
    (∀ v h, runG ev i q s = .pan v h → (∀ ch a' w', PanOk E.G E.hw E.w v h ch w' → a'.defers = [] → Q (.panic ch) a' w') → wpOp P ops Q i K a w) := by
  have hok' := hok
  simp only [okIOp, Bool.and_eq_true] at hok'
  obtain ⟨⟨⟨hop, hD⟩, hn⟩, hg⟩ := hok'
  have run := fun (next : Act → World → Prop) => runOp_wp (next := next) (Q := Q) hF hS hev hok
  have skipD : okDst F i o.dst q.dst = true := by
    unfold okDst' at hD
    split at hD
    · simp only [Bool.and_eq_true] at hD; exact hD.2
    · simp only [Bool.and_eq_true, Option.isNone_iff_eq_none] at hD
      cases hd : q.dst with
      | none => rw [hD.1]; rfl
      | v p => rw [hd] at hD; simp at hD
      | t => rw [hd] at hD; simp at hD
    · simp only [Bool.and_eq_true, Option.isNone_iff_eq_none] at hD
      cases hd : q.dst with
      | none => rw [hD.1]; rfl
      | v p => rw [hd] at hD; simp at hD
      | t => rw [hd] at hD; simp at hD
    · exact hD
  have guardV : ∀ j b, o.guard = some (j, b) → ∃ t, F.slot (.t j) = some t ∧ (ops[j]?).bind (·.dst) = some t ∧ q.guard = some (j, b) := by
    intro j b hgo
    unfold okGuard at hg
    rw [hgo] at hg
    cases hq : q.guard with
    | none => rw [hq] at hg; simp at hg
    | some jb =>
      obtain ⟨j', b'⟩ := jb
      rw [hq] at hg
      simp only [Bool.and_eq_true, beq_iff_eq] at hg
      obtain ⟨⟨rfl, rfl⟩, hg⟩ := hg
      cases hoj : ops[j]? with
      | none => rw [hoj] at hg; simp at hg
      | some oj =>
        rw [hoj] at hg
        simp only [Bool.and_eq_true, beq_iff_eq] at hg
        obtain ⟨t, ht⟩ := Option.isSome_iff_exists.1 hg.1
        exact ⟨t, by rw [hg.2, ht], by simp [ht], rfl⟩
  have noG : o.guard = none → q.guard = none := by
    intro h
    unfold okGuard at hg
    rw [h] at hg
    cases hq : q.guard with
    | none => rfl
    | some jb => rw [hq] at hg; simp at hg
  -- what the guard yields
  have yields : ∀ j t, F.slot (.t j) = some t → (ops[j]?).bind (·.dst) = some t → ∀ d, s.tmps.getD j .junk = .sc d → a.tmps[t]? = some d := by
    intro j t ht _ d hd
    obtain ⟨d0, hd0⟩ := hS.val_some ht
    obtain ⟨r, _, _, h3, _⟩ := hS.loc _ _ _ ht hd0
    have : d0 = .sc d := by
      have h0 : s.tmps[j]? = some d0 := hd0
      rw [List.getD_eq_getElem?_getD, h0] at hd
      simpa using hd
    subst this
    simp only [XRel, VRel] at h3
    have hlt := Nat.lt_of_lt_of_le (hF.lt _ _ ht) hS.size
    have := h3.1
    rw [Array.getElem?_eq_getElem hlt]
    simpa [Array.getD, hlt] using this
  unfold wpOp
  simp only [hi]
  cases hgo : o.guard with
  | none =>
    have hw1 : Region.wanted o (yielded ops a.tmps) = true := by simp [Region.wanted, hgo]
    simp only [hw1, if_true]
    have hqg := noG hgo
    refine ⟨fun s' hr hk => ?_, fun v h hr hq => ?_⟩
    · simp only [runG, hqg] at hr; exact .inl ((run K).1 s' hr hk)
    · simp only [runG, hqg] at hr; exact .inl ((run K).2 v h hr hq)
  | some jb =>
    obtain ⟨j, b⟩ := jb
    obtain ⟨t, ht1, ht2, hqg⟩ := guardV j b hgo
    have hyield : ∀ d, s.tmps.getD j .junk = .sc d → yielded ops a.tmps j = (match d with | .bool c => some c | _ => none) := by
      intro d hd
      have := yields j t ht1 ht2 d hd
      unfold yielded
      rw [ht2, Option.bind_some, this]
      cases d <;> rfl
    refine ⟨fun s' hr hk => ?_, fun v h hr hq => ?_⟩
    · simp only [runG, hqg] at hr
      split at hr
      · rename_i c hc
        have hy := hyield _ hc
        simp only at hy
        split at hr
        · rename_i hcb
          have hw1 : Region.wanted o (yielded ops a.tmps) = true := by simp [Region.wanted, hgo, hy, hcb]
          simp only [hw1, if_true]
          exact .inl ((run K).1 s' hr hk)
        · rename_i hcb
          have hw1 : Region.wanted o (yielded ops a.tmps) = false := by simp [Region.wanted, hgo, hy, hcb]
          simp only [hw1, Bool.false_eq_true, if_false]
          simp only [Out.st.injEq] at hr; subst hr
          obtain ⟨ew', hS'⟩ := SRel.skip hF hS skipD
          exact hk _ _ _ _ _ _ hS'
      · rename_i x hc
        have hy := hyield _ hc
        simp only at hy
        have hw1 : Region.wanted o (yielded ops a.tmps) = false := by simp [Region.wanted, hgo, hy]
        simp only [hw1, Bool.false_eq_true, if_false]
        simp only [Out.st.injEq] at hr; subst hr
        obtain ⟨ew', hS'⟩ := SRel.skip hF hS skipD
        exact hk _ _ _ _ _ _ hS'
      · simp at hr
    · simp only [runG, hqg] at hr
      split at hr
      · rename_i c hc
        have hy := hyield _ hc
        simp only at hy
        split at hr
        · rename_i hcb
          have hw1 : Region.wanted o (yielded ops a.tmps) = true := by simp [Region.wanted, hgo, hy, hcb]
          simp only [hw1, if_true]
          exact .inl ((run K).2 v h hr hq)
        · simp at hr
      · simp at hr
      · simp at hr

theorem look_id (h : Heap) : ∀ (d : DV), hasHs d = false → look h d = d
  | .agg cs, hh => by simp only [hasHs] at hh; simp only [look]; rw [lookL_id' h cs hh]
  | .tup cs, hh => by simp only [hasHs] at hh; simp only [look]; rw [lookL_id' h cs hh]
  | .ifc t v, hh => by simp only [hasHs] at hh; simp only [look]; rw [look_id h v hh]
  | .hsl .., hh => by simp [hasHs] at hh
  | .sc _, _ => by simp only [look]
  | .sl .., _ => by simp only [look]
  | .ptr .., _ => by simp only [look]
  | .cptr _, _ => by simp only [look]
  | .fn .., _ => by simp only [look]
  | .box _, _ => by simp only [look]
  | .lref .., _ => by simp only [look]
  | .junk, _ => by simp only [look]
  where
  lookL_id' (h : Heap) : ∀ (ds : List DV), hasHsL ds = false → lookL h ds = ds
  | [], _ => by simp only [lookL]
  | x :: r, hh => by
    simp only [hasHsL, Bool.or_eq_false_iff] at hh
    simp only [lookL]
    rw [look_id h x hh.1, lookL_id' h r hh.2]

theorem callQ_callP {ev : FuncId → List DV → Heap → Res DV} {f : FuncId} {args : List DV} {h : Heap} {r : Res DV} (hr : callQ ev f args h = r) (hn : r ≠ .no) : callP ev f args h = r := by
  unfold callQ at hr
  split at hr
  · exact absurd hr.symm hn
  · rename_i hc
    simp only [Bool.or_eq_true, Bool.not_eq_true', not_or, Bool.not_eq_true, Bool.not_eq_false] at hc
    obtain ⟨h1, h2⟩ := hc
    have hl := look_id.lookL_id' h args h1
    unfold callP
    rw [hl, if_pos h2]
    split at hr
    · rename_i v h' he
      simp only [h1]
      split at hr
      · rename_i hf
        simp only [hf, Bool.not_false, Bool.true_or, Bool.and_self, if_true]; exact hr
      · exact absurd hr.symm hn
    · rename_i v h' he
      simp only [h1]
      split at hr
      · rename_i hf
        simp only [hf, Bool.not_false, Bool.true_or, Bool.and_self, if_true]; exact hr
      · exact absurd hr.symm hn
    · exact absurd hr.symm hn

theorem compute_base {ev : FuncId → List DV → Heap → Res DV} {op : DOp} {old : DV} {xs : List (Bool × DV)} {h : Heap} {r : Res DV} (hr : compute ev op old xs h = r) (hn : r ≠ .no) : compute ev op.base old xs h = r := by
  cases op
  case callQ f =>
    have hr' : (if xs.any (fun x => match x.2 with | .lref .. => true | _ => false) then Res.no else callQ ev f (stripL (xs.map (·.2))) h) = r := hr
    show (if xs.any (fun x => match x.2 with | .lref .. => true | _ => false) then Res.no else callP ev f (stripL (xs.map (·.2))) h) = r
    split at hr'
    · exact absurd hr'.symm hn
    · rename_i hc; rw [if_neg hc]; exact callQ_callP hr' hn
  case callVQ =>
    rcases xs with _ | ⟨⟨m0, d0⟩, xs⟩
    · exact absurd hr.symm hn
    · cases d0 with
      | fn f first cap =>
        cases f with
        | func g =>
          have hr' : (if xs.any (fun x => match x.2 with | .lref .. => true | _ => false) then Res.no else callQ ev g (first ++ stripL (xs.map (·.2)) ++ cap) h) = r := hr
          show (if xs.any (fun x => match x.2 with | .lref .. => true | _ => false) then Res.no else callP ev g (first ++ stripL (xs.map (·.2)) ++ cap) h) = r
          split at hr'
          · exact absurd hr'.symm hn
          · rename_i hc; rw [if_neg hc]; exact callQ_callP hr' hn
        | _ => exact absurd hr.symm hn
      | _ => exact absurd hr.symm hn
  all_goals exact hr

theorem base_dst (op : DOp) (d : Dst) : op.base.dst d = op.dst d := by cases op <;> rfl
theorem base_boxOk (op : DOp) (d : Dst) (s : St) : boxOk op.base d s = boxOk op d s := by cases op <;> rfl
theorem base_back (op : DOp) (x adr : DV) : back op.base x adr = back op x adr := by cases op <;> rfl
theorem base_moveS (op : DOp) (adr : DV) : moveS op.base adr = moveS op adr := by
  funext s src
  cases src with
  | v p m => cases m <;> simp [moveS, base_back]
  | t p m => cases m <;> simp [moveS, base_back]
  | c d => rfl

theorem runOp_base {ev : FuncId → List DV → Heap → Res DV} {i : Nat} {q : IOp} {s : St} : (∀ s', runOp ev i q s = .st s' → runOp ev i q.base s = .st s') ∧ (∀ v h, runOp ev i q s = .pan v h → runOp ev i q.base s = .pan v h) := by
  have key : ∀ o, runOp ev i q s = o → o ≠ .no → runOp ev i q.base s = o := by
    intro o ho hn
    unfold runOp at ho ⊢
    simp only [IOp.base, base_dst, base_boxOk, base_moveS] at ho ⊢
    split at ho
    · rename_i hb
      rw [if_pos hb]
      split at ho
      · rename_i r h hc; rw [compute_base hc (by simp)]; exact ho
      · rename_i r h hc; rw [compute_base hc (by simp)]; exact ho
      · exact absurd ho.symm hn
    · exact absurd ho.symm hn
  exact ⟨fun s' h => key _ h (by simp), fun v h' h => key _ h (by simp)⟩

theorem runG_base {ev : FuncId → List DV → Heap → Res DV} {i : Nat} {q : IOp} {s : St} : (∀ s', runG ev i q s = .st s' → runG ev i q.base s = .st s') ∧ (∀ v h, runG ev i q s = .pan v h → runG ev i q.base s = .pan v h) := by
  have hb : q.base.guard = q.guard ∧ q.base.dst = q.dst := ⟨rfl, rfl⟩
  unfold runG
  simp only [hb.1, hb.2]
  cases hg : q.guard with
  | none => exact runOp_base
  | some jw =>
    obtain ⟨j, want⟩ := jw
    simp only
    cases s.tmps.getD j .junk with
    | sc v =>
      cases v with
      | bool b =>
        by_cases hbw : b = want
        · simp only [hbw, if_true]; exact runOp_base
        · simp only [hbw, if_false]; exact ⟨fun _ h => h, fun _ _ h => h⟩
      | tuple _ => exact ⟨fun _ h => h, fun _ _ h => h⟩
      | _ => exact ⟨fun _ h => by simp at h, fun _ _ h => by simp at h⟩
    | _ => exact ⟨fun _ h => by simp at h, fun _ _ h => by simp at h⟩

/-- The operations of a region, each in its place. -/
def okOps (P : Program) (F : Fr) (ops : Array Oper) : Nat → List IOp → Bool
  | _, [] => true
  | i, q :: r => (match ops[i]? with | some o => okIOp P F ops i o q.base | none => false) && okOps P F ops (i + 1) r

theorem runL_wp (hF : F.WF) (hev : FnOk P ev) {ops : Array Oper} {Q : Exit → Act → World → Prop} : ∀ (l : List IOp) (i : Nat) {G : Ghost} {hw : HW} {ew : EW} {bx : Nat → Option Nat} {a : Act} {w : World} {s : St}, okOps P F ops i l = true → SRel F E G hw ew bx a w s →
    (∀ s', runL ev l i s = .st s' → (∀ G' hw' ew' bx' a' w', SRel F E G' hw' ew' bx' a' w' s' → Q .normal a' w') → wpOps P ops Q (List.range' i l.length) a w) ∧
    (∀ v h, runL ev l i s = .pan v h → (∀ ch a' w', PanOk E.G E.hw E.w v h ch w' → a'.defers = [] → Q (.panic ch) a' w') → wpOps P ops Q (List.range' i l.length) a w)
  | [], i, G, hw, ew, bx, a, w, s, _, hS => by
    refine ⟨fun s' hr hk => ?_, fun v h hr _ => by simp [runL] at hr⟩
    simp only [runL, Out.st.injEq] at hr; subst hr
    simp only [List.length_nil, List.range'_zero, wpOps]
    exact hk _ _ _ _ _ _ hS
  | q :: l, i, G, hw, ew, bx, a, w, s, hok, hS => by
    simp only [okOps, Bool.and_eq_true] at hok
    obtain ⟨h1, h2⟩ := hok
    cases hi : ops[i]? with
    | none => simp [hi] at h1
    | some o =>
      simp only [hi] at h1
      simp only [List.length_cons, List.range'_succ, wpOps_cons]
      have step := fun K => runG_wp (K := K) (Q := Q) hF hS hev hi h1
      refine ⟨fun s' hr hk => ?_, fun v h hr hq => ?_⟩
      · simp only [runL] at hr
        cases hg : runG ev i q s with
        | st s1 =>
          rw [hg] at hr
          exact (step _).1 s1 (runG_base.1 _ hg) (fun G' hw' ew' bx' a' w' hS' => (runL_wp hF hev l (i + 1) h2 hS').1 s' hr hk)
        | pan v h => rw [hg] at hr; simp at hr
        | no => rw [hg] at hr; simp at hr
      · simp only [runL] at hr
        cases hg : runG ev i q s with
        | st s1 =>
          rw [hg] at hr
          exact (step _).1 s1 (runG_base.1 _ hg) (fun G' hw' ew' bx' a' w' hS' => (runL_wp hF hev l (i + 1) h2 hS').2 v h hr hq)
        | pan v1 h1' =>
          rw [hg] at hr
          simp only [Out.pan.injEq] at hr
          obtain ⟨rfl, rfl⟩ := hr
          exact (step _).2 _ _ (runG_base.2 _ _ hg) hq
        | no => rw [hg] at hr; simp at hr

/-- A region's frame: its temporaries' slots. -/
def Fr.with (F : Fr) (ts : List (Option Nat)) : Fr := { F with ts := ts }

def tsOf (ops : Array Oper) (l : List IOp) : List (Option Nat) := List.zipWith (fun o q => match q.dst with | .t => o.dst | _ => Option.none) ops.toList l

/-- No slot twice, and none beyond the frame. -/
def wfB (F : Fr) : Bool :=
  let l := F.vs ++ F.ts.filterMap id
  l.all (fun t => decide (t < F.nt)) && (l.zipIdx.all fun x => l.zipIdx.all fun y => x.1 != y.1 || x.2 == y.2)

theorem SRel.openT (hS : SRel (F.with []) E G hw ew bx a w s) (n : Nat) (ts : List (Option Nat)) (hn : ts.length = n) :
    SRel (F.with ts) E G hw (fun x => match ew x with | some (.v p) => some (.v p) | _ => none) bx a w { s with tmps := List.replicate n .junk } := by
  refine ⟨hS.lv, by simp [hn, Fr.with], fun l t d hl hv => ?_, hS.heap, hS.ok, hS.defers, hS.size, fun x h => ?_, fun x h => ?_, hS.hist, fun x h => ?_⟩
  · cases l with
    | v p =>
      obtain ⟨r, h1, h2, h3, h4⟩ := hS.loc (.v p) t d hl hv
      exact ⟨r, h1, fun x hx => by simp [h2 x hx], h3, h4⟩
    | t i =>
      simp only [St.val] at hv
      have : d = .junk := by
        rw [List.getElem?_replicate] at hv
        split at hv <;> simp at hv; exact hv.symm
      subst this
      exact ⟨[], by simp, by simp, by simp [XRel, VRel], by simp⟩
  · refine hS.disj x fun e => ?_
    rw [e] at h; simp at h
  · refine hS.ewlt x fun e => ?_
    rw [e] at h; simp at h
  · refine hS.histE x fun e => ?_
    rw [e] at h; simp at h

theorem SRel.closeT {ts : List (Option Nat)} (hS : SRel (F.with ts) E G hw ew bx a w s) : SRel (F.with []) E G hw ew bx a w { s with tmps := [] } := by
  refine ⟨hS.lv, rfl, fun l t d hl hv => ?_, hS.heap, hS.ok, hS.defers, hS.size, hS.disj, hS.ewlt, hS.hist, hS.histE⟩
  cases l with
  | v p => exact hS.loc (.v p) t d hl hv
  | t i => simp [St.val] at hv

end
end Go.D
