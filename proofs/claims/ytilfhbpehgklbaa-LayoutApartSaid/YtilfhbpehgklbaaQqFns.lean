/- THE EVALUATOR SAYS OF EACH FUNCTION WHAT THE MACHINE DOES. -/
import Derived.Test.YtilfhbpehgklbaaQqFn
set_option linter.unusedSimpArgs false
set_option linter.unusedVariables false
namespace Go.D

def IR.bxl : IR → List Nat
  | .reg ops _ => bxs ops
  | .seq a b => a.bxl ++ b.bxl
  | .cond _ a b => a.bxl ++ b.bxl
  | .block _ a => a.bxl
  | .loop a => a.bxl
  | _ => []

def FnIR.frame (fi : FnIR) (nt : Nat) : Fr := { vs := fi.slots, ts := [], bxs := (List.range fi.nv).map (fun p => fi.body.bxl.contains p), nt := nt }

def ResIR.var : ResIR → Nat
  | .v p => p
  | .b p _ _ => p

def dist : List Nat → Bool
  | [] => true
  | x :: r => !r.contains x && dist r

def okRes (P : Program) (F : Fr) : List ResIR → List ResultVar → Bool
  | [], [] => true
  | .v p :: r, .tmp t :: q => F.slot (.v p) == some t && okRes P F r q
  | .b p n ag :: r, .cell t ty :: q => F.slot (.v p) == some t && okTy P ty n ag && okRes P F r q
  | _, _ => false

def okFn (P : Program) (f : FuncId) (fi : FnIR) : Bool :=
  match P.funcs[f]? with
  | some fn =>
    !(fn.name == "runtime.NumGoroutine") &&
    match fn.body with
    | some c => decide (fi.np ≤ fi.nv) && decide (fi.slots.length = fi.nv) && decide (fi.slots.take fi.np = List.range fi.np) && decide (fi.np ≤ fn.ntmps) &&
        okCode P (fi.frame fn.ntmps) fi.body c && okRes P (fi.frame fn.ntmps) fi.res fn.results.toList && dist (fi.res.map ResIR.var)
    | none => false
  | none => false

section
variable {P : Program} {F : Fr} {E : Entry} {G : Ghost} {hw : HW} {ew : EW} {bx : Nat → Option Nat} {a : Act} {w : World} {s : St} {ev : FuncId → List DV → Heap → Res DV}

def resultOf (tmps : Array Value) : ResultVar → Sem Value
  | .tmp t => pure (tmps.getD t undef)
  | .cell x t => do loadVar t (← asAddr (tmps.getD x undef))

theorem res_one (hS : SRel F E G hw ew bx a w s) {r : ResIR} {rs : List ResIR} {q : ResultVar} {qs : List ResultVar} (hok : okRes P F (r :: rs) (q :: qs) = true) {d : DV} (hd : resOf s r = some d) :
    okRes P F rs qs = true ∧ ∃ v k, (resultOf a.tmps q).run P w = .ok v w ∧ VRel G w d v k ∧ k.Nodup ∧ (∀ x ∈ k, ew x = some (.v r.var)) ∧ ∀ cs, d ≠ .box cs := by
  cases r with
  | v p =>
    cases q with
    | cell t ty => simp [okRes] at hok
    | tmp t =>
      simp only [okRes, Bool.and_eq_true, beq_iff_eq] at hok
      obtain ⟨hsl, hrest⟩ := hok
      refine ⟨hrest, ?_⟩
      obtain ⟨d0, hd0⟩ := hS.val_some hsl
      obtain ⟨k, h1, h2, h3, _⟩ := hS.loc _ _ _ hsl hd0
      have e0 : s.vars.getD p .junk = d0 := by simp only [St.val] at hd0; simp [hd0]
      simp only [resOf, e0] at hd
      refine ⟨a.tmps.getD t undef, k, by simp [resultOf], ?_, h1, h2, ?_⟩
      · cases d0 <;> simp at hd <;> subst hd <;> exact h3
      · intro cs e
        subst e
        cases d0 <;> simp at hd
  | b p n ag =>
    cases q with
    | tmp t => simp [okRes] at hok
    | cell t ty =>
      simp only [okRes, Bool.and_eq_true, beq_iff_eq] at hok
      obtain ⟨⟨hsl, hty⟩, hrest⟩ := hok
      refine ⟨hrest, ?_⟩
      simp only [resOf] at hd
      cases hb : s.vars.getD p .junk with
      | box cs =>
        rw [hb] at hd
        simp only at hd
        split at hd
        · rename_i hn
          obtain ⟨rb, c, e, rs', hb', hval, hc, hl, hnd, hown, _, _, _, hone⟩ := box_cells hS hsl hb
          have hag : ag = false → cs.length = 1 := fun e => by rw [hn]; exact (okTy_spec hty).2.2.2 e
          have hv := hl.ofCells ag hag hone
          have hlen : c.toList.length = n := by rw [hl.length]; exact hn
          have hrun := run_loadVar (P := P) (w := w) (rb := rb) (off := 0) hty hlen (fun j c' hj => by
            rw [cell_of_block hc]; simpa using hj)
          have hd' : d = ofCells ag cs ∧ ∀ c, ofCells ag cs ≠ .box c := by
            split at hd
            · simp at hd
            · rename_i hnb
              simp at hd
              exact ⟨hd.symm, hnb⟩
          obtain ⟨rfl, hnb⟩ := hd'
          refine ⟨_, rs', ?_, hv, (List.nodup_cons.1 hnd).2, fun x hx => hown x (by simp [hx]), hnb⟩
          simp only [resultOf, hval, asAddr]
          simpa using hrun
        · simp at hd
      | _ => rw [hb] at hd; simp at hd

theorem res_all (hS : SRel F E G hw ew bx a w s) : ∀ {rs : List ResIR} {qs : List ResultVar}, okRes P F rs qs = true → dist (rs.map ResIR.var) = true → ∀ {l : List DV}, resAll s rs = some l →
    ∃ vs k, (qs.mapM (resultOf a.tmps)).run P w = .ok vs w ∧ VRelL G w l vs k ∧ k.Nodup ∧ (∀ x ∈ k, ∃ p ∈ rs.map ResIR.var, ew x = some (.v p)) ∧ ∀ d ∈ l, ∀ cs, d ≠ .box cs
  | [], [], _, _, l, hl => by
    simp only [resAll, Option.some.injEq] at hl; subst hl
    exact ⟨[], [], by simp, VRelL.nil, by simp, by simp, by simp⟩
  | [], q :: qs, h, _, _, _ => by simp [okRes] at h
  | r :: rs, [], h, _, _, _ => by cases r <;> simp [okRes] at h
  | r :: rs, q :: qs, hok, hd, l, hl => by
    simp only [resAll] at hl
    cases h1 : resOf s r with
    | none => simp [h1] at hl
    | some d =>
      cases h2 : resAll s rs with
      | none => simp [h1, h2] at hl
      | some l' =>
        simp only [h1, h2, Option.some.injEq] at hl
        subst hl
        obtain ⟨hrest, v, k, e1, e2, e3, e4, e5⟩ := res_one hS hok h1
        simp only [List.map_cons, dist, Bool.and_eq_true, Bool.not_eq_true'] at hd
        obtain ⟨vs, k', f1, f2, f3, f4, f5⟩ := res_all hS hrest hd.2 h2
        refine ⟨v :: vs, k ++ k', ?_, VRelL.cons e2 f2, ?_, ?_, ?_⟩
        · simp only [List.mapM_cons, Sem.run_bind, e1, Result.andThen_ok, f1]
          simp
        · rw [List.nodup_append]
          refine ⟨e3, f3, fun x hx y hy e => ?_⟩
          subst e
          obtain ⟨p, hp, hp2⟩ := f4 x hy
          rw [e4 x hx] at hp2
          simp at hp2
          subst hp2
          have := hd.1
          rw [List.contains_iff_mem.2 hp] at this
          simp at this
        · intro x hx
          rcases List.mem_append.1 hx with hx | hx
          · exact ⟨_, by simp, e4 x hx⟩
          · obtain ⟨p, hp, hp2⟩ := f4 x hx
            exact ⟨p, by simp only [List.map_cons, List.mem_cons]; exact .inr hp, hp2⟩
        · intro d' hd' 
          rcases List.mem_cons.1 hd' with rfl | hd'
          · exact e5
          · exact f5 d' hd'

theorem results_run (fn : Func) (tmps : Array Value) {vs : List Value} (h : (fn.results.toList.mapM (resultOf tmps)).run P w = .ok vs w) :
    (results fn tmps).run P w = .ok (if h : vs.toArray.size = 1 then vs.toArray[0] else .tuple vs.toArray) w := by
  have e : results fn tmps = (fn.results.mapM (resultOf tmps) >>= fun vs => pure (if h : vs.size = 1 then vs[0] else .tuple vs) : Sem Value) := rfl
  rw [e, Array.mapM_eq_mapM_toList]
  simp [h]

theorem out_rel {l : List DV} {vs : List Value} {k : List Nat} (h : VRelL G w l vs k) : VRel G w (outOf l) (if h : vs.toArray.size = 1 then vs.toArray[0] else .tuple vs.toArray) k := by
  match l, vs, h with
  | [], vs, h =>
    simp only [VRelL] at h
    obtain ⟨rfl, rfl⟩ := h
    simp [outOf, undefD, VRel, undef, plain]
  | [d], vs, h =>
    obtain ⟨v, rfl, hv⟩ := h.one_inv
    simpa [outOf] using hv
  | d :: d2 :: l, vs, h =>
    have hlen := h.length
    have : ¬ vs.toArray.size = 1 := by simp at hlen ⊢; omega
    rw [dif_neg this]
    simp only [outOf, VRel]
    exact ⟨vs, rfl, h⟩

theorem out_nobox {l : List DV} (h : ∀ d ∈ l, ∀ cs, d ≠ .box cs) : ∀ cs, outOf l ≠ .box cs := by
  intro cs
  match l with
  | [] => simp [outOf, undefD]
  | [d] => exact h d (by simp) cs
  | d :: d2 :: l => simp [outOf]

theorem VRelL.each {ds : List DV} {l : List Value} (h : VRelL G w ds l []) {i : Nat} {d : DV} (hi : ds[i]? = some d) : ∃ v, l[i]? = some v ∧ VRel G w d v [] := by
  induction ds generalizing l i with
  | nil => simp at hi
  | cons d0 ds ih =>
    simp only [VRelL] at h
    obtain ⟨v, vs, r1, r2, rfl, e, h1, h2⟩ := h
    obtain ⟨e1, e2⟩ := List.append_eq_nil_iff.1 e.symm
    subst e1 e2
    cases i with
    | zero => simp at hi; subst hi; exact ⟨v, by simp, h1⟩
    | succ i => simp at hi; obtain ⟨u, hu, hv⟩ := ih h2 hi; exact ⟨u, by simpa using hu, hv⟩

theorem start_rel {fi : FnIR} {nt : Nat} (h1 : fi.np ≤ fi.nv) (h2 : fi.slots.length = fi.nv) (h3 : fi.slots.take fi.np = List.range fi.np) {args : List DV} {vals : List Value} {h : Heap}
    (hlen : args.length = fi.np) (hok : WOk G hw w) (hH : HRel G hw w h) (hv : VRelL G w args vals []) :
    SRel ((fi.frame nt).with []) ⟨G, hw, w⟩ G hw (fun _ => none) (fun _ => none) { tmps := vals.toArray ++ Array.replicate (nt - vals.toArray.size) undef, defers := [] } w { vars := args ++ List.replicate (fi.nv - fi.np) .junk, tmps := [], heap := h } := by
  have hvl := hv.length
  refine ⟨by simp [Fr.with, FnIR.frame, h2, hlen]; omega, rfl, fun l t d hl hd => ?_, hH, hok, rfl, by simp [Fr.with, FnIR.frame]; omega, by simp, by simp, CPres.refl hok [], by simp⟩
  cases l with
  | t i => simp [St.val] at hd
  | v p =>
    simp only [St.val] at hd
    rcases Nat.lt_or_ge p args.length with hp | hp
    · rw [List.getElem?_append_left hp] at hd
      obtain ⟨v, hv1, hv2⟩ := hv.each hd
      have ht : t = p := by
        simp only [Fr.slot, Fr.with, FnIR.frame] at hl
        have : (fi.slots.take fi.np)[p]? = some t := by rw [List.getElem?_take]; simp [hl]; omega
        rw [h3, List.getElem?_range (by omega)] at this
        simpa using this.symm
      subst ht
      have hget : (vals.toArray ++ Array.replicate (nt - vals.toArray.size) undef).getD t undef = v := by
        have : t < vals.length := by omega
        have hv1' := hv1
        rw [List.getElem?_eq_getElem this] at hv1'
        simp [Array.getD, this]
        rw [if_pos (by omega)]
        simpa using hv1'
      simp only at hget ⊢
      rw [hget]
      refine ⟨[], by simp, by simp, .of hv2, fun cs e => ?_⟩
      subst e
      simp only [VRel] at hv2
      obtain ⟨rb, c, e, rs, _, _, _, hr, _⟩ := hv2
      simp at hr
    · rw [List.getElem?_append_right hp, List.getElem?_replicate] at hd
      split at hd
      · simp at hd; subst hd
        exact ⟨[], by simp, by simp, by simp [XRel, VRel], by simp⟩
      · simp at hd

theorem fn_ok {fns : FuncId → Option FnIR} (hfns : ∀ f fi, fns f = some fi → okFn P f fi = true) (N : Nat) : ∀ d, FnOk P (evalCall fns N d)
  | 0 => by
    intro f args h G hw w vals _ _ _
    exact ⟨fun v h' e => by simp [evalCall] at e, fun v h' e => by simp [evalCall] at e⟩
  | d + 1 => by
    have ih := fn_ok hfns N d
    intro f args h G hw w vals hok hH hv
    cases hf : fns f with
    | none => exact ⟨fun v h' e => by simp [evalCall, hf] at e, fun v h' e => by simp [evalCall, hf] at e⟩
    | some fi =>
      have hfn := hfns f fi hf
      unfold okFn at hfn
      cases hP : P.funcs[f]? with
      | none => simp [hP] at hfn
      | some fn =>
        simp only [hP, Bool.and_eq_true, Bool.not_eq_true'] at hfn
        obtain ⟨hname, hfn⟩ := hfn
        cases hb : fn.body with
        | none => simp [hb] at hfn
        | some c =>
          simp only [hb, Bool.and_eq_true, decide_eq_true_eq] at hfn
          obtain ⟨⟨⟨⟨⟨⟨h1, h2⟩, h3⟩, h4⟩, hcode⟩, hres⟩, hdist⟩ := hfn
          have hbody : hasBody P f := ⟨fn, hP, hname, by simp [hb]⟩
          have hev : ∀ r, evalCall fns N (d + 1) f args h = r → evalF (evalCall fns N d) N fi args h = r := fun r e => by simpa [evalCall, hf] using e
          -- one road for both
          have road : ∀ (R : Ending → World → Prop), (∀ v h', evalF (evalCall fns N d) N fi args h = .ok v h' → ∀ u w', RetOk G hw w v h' u w' → R (.returned u) w') →
              (∀ v h', evalF (evalCall fns N d) N fi args h = .pan v h' → ∀ ch w', PanOk G hw w v h' ch w' → R (.panicked ch) w') →
              (evalF (evalCall fns N d) N fi args h ≠ .no) → Calls P f vals.toArray w R := by
            intro R hret hpan hno
            by_cases hlen : args.length = fi.np
            · have hS := start_rel (nt := fn.ntmps) h1 h2 h3 hlen hok hH hv
              have hEq : evalF (evalCall fns N d) N fi args h = (match evalC (evalCall fns N d) N fi.body { vars := args ++ List.replicate (fi.nv - fi.np) .junk, tmps := [], heap := h } with
                | .norm s => match resAll s fi.res with | some l => .ok (outOf l) s.heap | none => .no
                | .ret s => match resAll s fi.res with | some l => .ok (outOf l) s.heap | none => .no
                | .pan v h => .pan v h
                | _ => .no) := by
                unfold evalF
                rw [if_pos hlen]
                rfl
              have fin : ∀ (s' : St) (l : List DV), resAll s' fi.res = some l → evalF (evalCall fns N d) N fi args h = .ok (outOf l) s'.heap →
                  ∀ G' hw' ew' bx' a' w', SRel ((fi.frame fn.ntmps).with []) ⟨G, hw, w⟩ G' hw' ew' bx' a' w' s' → a'.defers = [] ∧ ∃ v, (results fn a'.tmps).run P w' = .ok v w' ∧ R (.returned v) w' := by
                intro s' l hl he G' hw' ew' bx' a' w' hS'
                refine ⟨hS'.defers, ?_⟩
                have hres' : okRes P ((fi.frame fn.ntmps).with []) fi.res fn.results.toList = true := hres
                obtain ⟨vs, k, k1, k2, k3, k4, k5⟩ := res_all hS' hres' hdist hl
                refine ⟨_, results_run fn a'.tmps k1, hret _ _ he _ _ ⟨k, G', hw', out_rel k2, out_nobox k5, k3, fun x hx => ?_, hS'.heap, hS'.hist⟩⟩
                obtain ⟨p, _, hp⟩ := k4 x hx
                have hne : ew' x ≠ none := by rw [hp]; simp
                exact ⟨hS'.disj x hne, hS'.ewlt x hne, hS'.histE x hne⟩
              refine calls_of_wp hP hb (code_wp (F := fi.frame fn.ntmps) (E := ⟨G, hw, w⟩) (N := N) ih c fi.body hcode hS ?_)
              cases he : evalC (evalCall fns N d) N fi.body { vars := args ++ List.replicate (fi.nv - fi.np) .junk, tmps := [], heap := h } with
              | norm s' =>
                rw [he] at hEq
                simp only at hEq
                cases hl : resAll s' fi.res with
                | none => rw [hl] at hEq; exact absurd hEq hno
                | some l =>
                  rw [hl] at hEq
                  exact fin s' l hl hEq
              | ret s' =>
                rw [he] at hEq
                simp only at hEq
                cases hl : resAll s' fi.res with
                | none => rw [hl] at hEq; exact absurd hEq hno
                | some l =>
                  rw [hl] at hEq
                  exact fin s' l hl hEq
              | pan v h' =>
                rw [he] at hEq
                simp only at hEq
                intro ch a' w' hp hd
                exact ⟨hd, hpan _ _ hEq _ _ hp⟩
              | exit i s' => rw [he] at hEq; exact absurd hEq hno
              | no => rw [he] at hEq; exact absurd hEq hno
            · exact absurd (by unfold evalF; rw [if_neg hlen]) hno
          refine ⟨fun v h' e => ⟨hbody, ?_⟩, fun v h' e => ⟨hbody, ?_⟩⟩
          · have e' := hev _ e
            refine road _ (fun v' h'' he u w' hr => ?_) (fun v' h'' he => ?_) (by rw [e']; simp)
            · rw [e'] at he; simp only [Res.ok.injEq] at he; obtain ⟨rfl, rfl⟩ := he; exact ⟨u, rfl, hr⟩
            · rw [e'] at he; simp at he
          · have e' := hev _ e
            refine road _ (fun v' h'' he => ?_) (fun v' h'' he ch w' hr => ?_) (by rw [e']; simp)
            · rw [e'] at he; simp at he
            · rw [e'] at he; simp only [Res.pan.injEq] at he; obtain ⟨rfl, rfl⟩ := he; exact ⟨ch, rfl, hr⟩

end
end Go.D
