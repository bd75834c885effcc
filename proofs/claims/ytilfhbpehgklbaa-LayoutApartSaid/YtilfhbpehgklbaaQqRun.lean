/- Operations one behind the other; calls among them. -/
import Derived.Test.YtilfhbpehgklbaaQqDisp
set_option linter.unusedSimpArgs false
set_option linter.unusedVariables false
namespace Go.D

section
variable {P : Program} {F : Fr} {E : Entry} {G : Ghost} {hw : HW} {ew : EW} {bx : Nat → Option Nat} {a : Act} {w : World} {s : St} {o : Oper}

theorem run_callFunc {f : FuncId} (h : hasBody P f) (args : Array Value) : (callFunc f args).run P w = .ok (.enter f args) w := by
  obtain ⟨fn, h1, h2, h3⟩ := h
  simp only [callFunc, Sem.run_bind, run_program, Result.andThen_ok, h1, h2, h3, Bool.false_eq_true, if_false, Sem.run_pure]

theorem noBox_pan {d v : DV} {h h' : Heap} (e : noBox d h = .pan v h') : False := by
  unfold noBox at e
  split at e <;> simp at e

set_option maxHeartbeats 1000000 in
/-- Only calls panic. -/
theorem compute_pan {ev : FuncId → List DV → Heap → Res DV} {op : DOp} {old : DV} {xs : List (Bool × DV)} {h h' : Heap} {v : DV} (hc : compute ev op old xs h = .pan v h') : (∃ f, op = .call f) ∨ op = .callV ∨ (∃ f, op = .callQ f) ∨ op = .callVQ := by
  unfold compute at hc
  split at hc <;> first
    | (simp at hc; done)
    | (exact .inl ⟨_, rfl⟩)
    | (exact .inr (.inl rfl))
    | (exact .inr (.inr (.inl ⟨_, rfl⟩)))
    | (exact .inr (.inr (.inr rfl)))
    | (split at hc <;> first
        | (simp at hc; done)
        | (split at hc <;> first
            | (simp at hc; done)
            | (exact (noBox_pan hc).elim)
            | (split at hc <;> first
                | (simp at hc; done)
                | (exact (noBox_pan hc).elim)
                | (split at hc <;> first
                    | (simp at hc; done)
                    | (split at hc <;> (simp at hc; done))))))

theorem okOp_quiet {oop : Op} {ins : List Src} : (∀ f, okOp P F oop (.callQ f) ins = false) ∧ okOp P F oop .callVQ ins = false := by
  refine ⟨fun f => ?_, ?_⟩ <;> (unfold okOp; split <;> first | rfl | (simp_all; done))

theorem okOp_call {oop : Op} {f : FuncId} {ins : List Src} (h : okOp P F oop (.call f) ins = true) : ∃ args ts, oop = .call { callee := .value (.func f), args := args, argTypes := ts } ∧ okAll F ins args.toList = true := by
  cases oop with
  | call c =>
    obtain ⟨callee, args, ts⟩ := c
    unfold okOp at h
    split at h <;> first | (simp at h; done) | skip
    all_goals (rename_i h1 h2; first | (simp at h1; done) | (simp at h2; done) | skip)
    simp only [Bool.and_eq_true, beq_iff_eq] at h
    simp_all
  | _ => unfold okOp at h; simp at h

theorem okOp_callV {oop : Op} {ins : List Src} (h : okOp P F oop .callV ins = true) : ∃ s0 ss t args ts, ins = s0 :: ss ∧ oop = .call { callee := .value (.tmp t), args := args, argTypes := ts } ∧ okSrcN F s0 (.tmp t) = true ∧ okAll F ss args.toList = true := by
  cases oop with
  | call c =>
    obtain ⟨callee, args, ts⟩ := c
    unfold okOp at h
    split at h <;> first | (simp at h; done) | skip
    all_goals (rename_i h1 h2; first | (simp at h1; done) | (simp at h2; done) | skip)
    simp only [Bool.and_eq_true] at h
    simp_all
    exact ⟨_, _, ⟨rfl, rfl⟩, _, _, ⟨rfl, rfl⟩, h.1, h.2⟩
  | _ => unfold okOp at h; simp at h

/-- A call, taken by what the evaluator says of it. -/
theorem call_wp (hF : F.WF) (hS : SRel F E G hw ew bx a w s) {ev : FuncId → List DV → Heap → Res DV} (hev : FnOk P ev) {i : Nat} {op : DOp} {ins : List Src} {D : Dst} (hD : okDst F i o.dst D = true) (hb : ∀ d adr, back op d adr = strip d)
    (hn : (movedL ins).Nodup) {f : FuncId} {args : List DV} {vals : List Value} (hv : VRelL G w args vals []) (hrun : hasBody P f → (execOp a.eval o).run P w = .ok (.enter f vals.toArray) w) {adr : DV}
    {next : Act → World → Prop} {Q : Exit → Act → World → Prop} :
    (∀ r h, callP ev f args s.heap = .ok r h → (∀ G' hw' ew' bx' a' w', SRel F E G' hw' ew' bx' a' w' (writeD i D r { (ins.foldl (moveS op adr) s) with heap := h }) → next a' w') → o.wp P a w next Q) ∧
    (∀ v h, callP ev f args s.heap = .pan v h → (∀ ch a' w', PanOk E.G E.hw E.w v h ch w' → a'.defers = [] → Q (.panic ch) a' w') → o.wp P a w next Q) := by
  obtain ⟨k1, k2⟩ := callP_ok hev f args s.heap G hw w vals hS.ok hS.heap hv
  obtain ⟨d1, d2, d3⟩ := okDst_spec hD
  have hl := moves_len op adr ins s
  refine ⟨fun r h hc hnx => ?_, fun v h hc hq => ?_⟩
  · obtain ⟨hbody, hcalls⟩ := k1 r h hc
    simp only [Oper.wp, hrun hbody, Oper.upon]
    refine hcalls.mono ?_
    rintro e w' ⟨u, rfl, r', G', hw', g1, g2, g3, g4, g5, g6⟩
    obtain ⟨ew', hS'⟩ := SRel.finish hF hS (movedL ins) [] (D.loc i) o.dst (by simp) g6 g5 hl.1 hl.2.1 (fun l h => moves_other op adr ins s l h) (moved_stays hS (fun d => hb d adr) hn []) d1 d2 d3
      (bx' := bx) (fun _ _ => rfl) (fun _ _ _ _ => rfl) (.of g1) g3 (fun x hx => ⟨(g4 x hx).1, (g4 x hx).2.1, .inr (g4 x hx).2.2⟩) (fun cs e => absurd e (g2 cs))
    exact hnx _ _ _ _ _ _ (writeD_finish hS')
  · obtain ⟨hbody, hcalls⟩ := k2 v h hc
    simp only [Oper.wp, hrun hbody, Oper.upon]
    refine hcalls.mono ?_
    rintro e w' ⟨ch, rfl, u, G', hw', rfl, g1, g2, g3⟩
    exact hq _ _ _ ⟨u, G', hw', rfl, g1, g2, hS.hist.trans g3 (by simp)⟩ hS.defers

theorem vrel_fn {f : FuncId} {first cap : List DV} {v : Value} {r : List Nat} (h : VRel G w (.fn (.func f) first cap) v r) :
    ∃ fa ca : List Value, v = .func (.func f) fa.toArray ca.toArray ∧ VRelL G w first fa [] ∧ VRelL G w cap ca [] := by
  simp only [VRel] at h
  obtain ⟨_, fa, ca, h1, h2, h3⟩ := h
  exact ⟨fa, ca, h1, h2, h3⟩

theorem runOp_wp (hF : F.WF) (hS : SRel F E G hw ew bx a w s) {ev : FuncId → List DV → Heap → Res DV} (hev : FnOk P ev) {ops : Array Oper} {i : Nat} {q : IOp} (hok : okIOp P F ops i o q = true)
    {next : Act → World → Prop} {Q : Exit → Act → World → Prop} :
    (∀ s', runOp ev i q s = .st s' → (∀ G' hw' ew' bx' a' w', SRel F E G' hw' ew' bx' a' w' s' → next a' w') → o.wp P a w next Q) ∧
    (∀ v h, runOp ev i q s = .pan v h → (∀ ch a' w', PanOk E.G E.hw E.w v h ch w' → a'.defers = [] → Q (.panic ch) a' w') → o.wp P a w next Q) := by
  simp only [okIOp, Bool.and_eq_true] at hok
  obtain ⟨⟨⟨hop, hD⟩, hn⟩, _⟩ := hok
  replace hn := nodupB_spec hn
  by_cases hcall : (∃ f, q.op = .call f) ∨ q.op = .callV
  · -- a call
    obtain ⟨op, ins, D, g⟩ := q
    simp only at hop hn hcall
    rcases hcall with ⟨f, rfl⟩ | rfl
    · have hD' : okDst F i o.dst D = true := hD
      obtain ⟨args, ts, ho, hall⟩ := okOp_call hop
      have hbs : ∀ d adr, back (.call f) d adr = strip d := back_strip (by simp)
      have hrun : ∀ vals : List Value, vals = args.toList.map a.eval → hasBody P f → (execOp a.eval o).run P w = .ok (.enter f vals.toArray) w := by
        rintro vals rfl hbody
        simp only [execOp, ho, resolve, Act.eval, Deferred.ofValue, Sem.run_bind, Sem.run_pure, Result.andThen_ok, invoke]
        rw [run_callFunc hbody]
        congr 2
        apply Array.ext'; simp
      refine ⟨fun s' hr hnx => ?_, fun v h hr hq => ?_⟩
      · unfold runOp at hr
        simp only at hr
        split at hr
        · split at hr
          · rename_i r h hc
            simp only [Out.st.injEq] at hr
            subst hr
            obtain ⟨hl, hc⟩ := inv_call (by simp) hc
            rw [List.map_map] at hc
            have hv := hands_strip hS ins _ hall (fun src hs p off => hl _ (List.mem_map_of_mem hs) p off)
            exact (call_wp (Q := Q) hF hS hev hD' hbs hn hv (hrun _ rfl)).1 r h hc hnx
          · simp at hr
          · simp at hr
        · simp at hr
      · unfold runOp at hr
        simp only at hr
        split at hr
        · split at hr
          · simp at hr
          · rename_i v0 h0 hc
            simp only [Out.pan.injEq] at hr
            obtain ⟨rfl, rfl⟩ := hr
            obtain ⟨hl, hc⟩ := inv_call (by simp) hc
            rw [List.map_map] at hc
            have hv := hands_strip hS ins _ hall (fun src hs p off => hl _ (List.mem_map_of_mem hs) p off)
            exact (call_wp (next := next) (adr := .junk) hF hS hev hD' hbs hn hv (hrun _ rfl)).2 _ _ hc hq
          · simp at hr
        · simp at hr
    · have hD' : okDst F i o.dst D = true := hD
      obtain ⟨s0, ss, t, args, ts, rfl, ho, h0, hall⟩ := okOp_callV hop
      have hbs : ∀ d adr, back .callV d adr = strip d := back_strip (by simp)
      -- what is called, and with what
      have main : ∀ {q : Res DV}, q ≠ .no → ∀ {old : DV}, compute ev .callV old ((s0 :: ss).map (readS s)) s.heap = q → ∃ f ds vals, VRelL G w ds vals [] ∧ callP ev f ds s.heap = q ∧ (hasBody P f → (execOp a.eval o).run P w = .ok (.enter f vals.toArray) w) := by
        intro q hq old hc
        obtain ⟨f, first, cap, e0, hl, hc⟩ := inv_callV (d0 := (readS s s0).2) hq hc
        rw [List.map_map] at hc
        have hv := hands_strip hS ss _ hall (fun src hs p off => hl _ (List.mem_map_of_mem hs) p off)
        obtain ⟨r0, hf0⟩ := peek_v hS h0 e0 (by simp)
        obtain ⟨fa, ca, hval, h1, h2⟩ := vrel_fn hf0
        refine ⟨f, _, fa ++ args.toList.map a.eval ++ ca, VRelL.append (ra := []) (rb := []) (VRelL.append (ra := []) (rb := []) h1 hv) h2, hc, fun hbody => ?_⟩
        simp only [execOp, ho, resolve, hval, Deferred.ofValue, Sem.run_bind, Sem.run_pure, Result.andThen_ok, invoke]
        rw [run_callFunc hbody]
        congr 2
        apply Array.ext'; simp
      refine ⟨fun s' hr hnx => ?_, fun v h hr hq => ?_⟩
      · unfold runOp at hr
        simp only at hr
        split at hr
        · split at hr
          · rename_i r h hc
            simp only [Out.st.injEq] at hr
            subst hr
            obtain ⟨f, ds, vals, hv, hcc, hrun⟩ := main (by simp) hc
            exact (call_wp (Q := Q) hF hS hev hD' hbs hn hv hrun).1 r h hcc hnx
          · simp at hr
          · simp at hr
        · simp at hr
      · unfold runOp at hr
        simp only at hr
        split at hr
        · split at hr
          · simp at hr
          · rename_i v0 h0 hc
            simp only [Out.pan.injEq] at hr
            obtain ⟨rfl, rfl⟩ := hr
            obtain ⟨f, ds, vals, hv, hcc, hrun⟩ := main (by simp) hc
            exact (call_wp (next := next) (adr := .junk) hF hS hev hD' hbs hn hv hrun).2 _ _ hcc hq
          · simp at hr
        · simp at hr
  · -- a step of its own
    refine ⟨fun s' hr hnx => ?_, fun v h hr hq => ?_⟩
    · unfold runOp at hr
      simp only at hr
      split at hr
      · rename_i hbox
        split at hr
        · rename_i r h hc
          simp only [Out.st.injEq] at hr
          subst hr
          exact wp_step (good_all hF hS hop hD hn hbox (fun f e => hcall (.inl ⟨f, e⟩)) (fun e => hcall (.inr e)) hc) hnx
        · simp at hr
        · simp at hr
      · simp at hr
    · unfold runOp at hr
      simp only at hr
      split at hr
      · split at hr
        · simp at hr
        · rename_i v0 h0 hc
          rcases compute_pan hc with h1 | h1 | ⟨f, h1⟩ | h1
          · exact absurd (.inl h1) hcall
          · exact absurd (.inr h1) hcall
          · rw [h1, okOp_quiet.1 f] at hop; simp at hop
          · rw [h1, okOp_quiet.2] at hop; simp at hop
        · simp at hr
      · simp at hr

end
end Go.D
