/- Code and its small form; functions. -/
import Derived.Test.YtilfhbpehgklbaaQqAny
set_option linter.unusedSimpArgs false
set_option linter.unusedVariables false
namespace Go.D

section
variable {P : Program} {F : Fr} {E : Entry} {G : Ghost} {hw : HW} {ew : EW} {bx : Nat → Option Nat} {a : Act} {w : World} {s : St} {ev : FuncId → List DV → Heap → Res DV}

theorem wfB_wf {F : Fr} (h : wfB F = true) : F.WF := by
  simp only [wfB, Bool.and_eq_true, List.all_eq_true, decide_eq_true_eq, Bool.or_eq_true, bne_iff_ne, beq_iff_eq] at h
  obtain ⟨h1, h2⟩ := h
  -- a slot's place in the list
  have ix : ∀ (l : ELoc) (t : Nat), F.slot l = some t → ∃ k, (t, k) ∈ (F.vs ++ F.ts.filterMap id).zipIdx ∧ (match l with | .v p => k = p | .t i => k = F.vs.length + ((F.ts.take i).filterMap id).length) := by
    intro l t hl
    cases l with
    | v p =>
      simp only [Fr.slot] at hl
      refine ⟨p, ?_, rfl⟩
      rw [List.mem_zipIdx_iff_getElem?]
      have hp : p < F.vs.length := (List.getElem?_eq_some_iff.1 hl).1
      simp only
      rw [List.getElem?_append_left hp]; exact hl
    | t i =>
      simp only [Fr.slot] at hl
      refine ⟨F.vs.length + ((F.ts.take i).filterMap id).length, ?_, rfl⟩
      rw [List.mem_zipIdx_iff_getElem?]
      simp only
      rw [List.getElem?_append_right (by omega), Nat.add_sub_cancel_left]
      have hi : F.ts[i]? = some (some t) := by
        cases hts : F.ts[i]? with
        | none => simp [hts] at hl
        | some o => simp [hts] at hl; subst hl; rfl
      have hlt : i < F.ts.length := (List.getElem?_eq_some_iff.1 hi).1
      have hspl : F.ts = F.ts.take i ++ some t :: F.ts.drop (i + 1) := by
        have : F.ts.drop i = some t :: F.ts.drop (i + 1) := by
          rw [List.drop_eq_getElem_cons hlt]
          congr 1
          have := List.getElem?_eq_getElem hlt
          rw [hi] at this
          exact (Option.some.inj this).symm
        rw [← this, List.take_append_drop]
      have : F.ts.filterMap id = (F.ts.take i).filterMap id ++ t :: (F.ts.drop (i + 1)).filterMap id := by
        conv => lhs; rw [hspl]
        rw [List.filterMap_append, List.filterMap_cons]
        rfl
      rw [this, List.getElem?_append_right (Nat.le_refl _)]
      simp
  have cnt : ∀ {i j : Nat}, i < j → ∀ {t : Nat}, F.ts[i]? = some (some t) → ((F.ts.take i).filterMap id).length < ((F.ts.take j).filterMap id).length := by
    intro i j hij t hi
    have hlt : i < F.ts.length := (List.getElem?_eq_some_iff.1 hi).1
    have e : F.ts.take (i + 1) = F.ts.take i ++ [some t] := by
      rw [List.take_succ_eq_append_getElem hlt]
      congr 2
      have := List.getElem?_eq_getElem hlt
      rw [hi] at this
      exact (Option.some.inj this).symm
    have e2 : F.ts.take j = F.ts.take (i + 1) ++ (F.ts.drop (i + 1)).take (j - (i + 1)) := by
      rw [← List.take_add]; congr 1; omega
    rw [e2, e]
    simp only [List.filterMap_append, List.length_append, List.filterMap_cons, List.filterMap_nil, id]
    simp
    omega
  have tsome : ∀ {i t : Nat}, F.slot (.t i) = some t → F.ts[i]? = some (some t) := by
    intro i t hl
    simp only [Fr.slot] at hl
    cases hts : F.ts[i]? with
    | none => simp [hts] at hl
    | some o => simp [hts] at hl; subst hl; rfl
  refine ⟨fun l l' t hl hl' => ?_, fun l t hl => ?_⟩
  · obtain ⟨k, hk1, hk2⟩ := ix l t hl
    obtain ⟨k', hk1', hk2'⟩ := ix l' t hl'
    have := h2 _ hk1 _ hk1'
    simp only [ne_eq, not_true_eq_false, false_or] at this
    subst this
    cases l with
    | v p =>
      cases l' with
      | v q => simp only at hk2 hk2'; rw [hk2] at hk2'; rw [hk2']
      | t i =>
        simp only [Fr.slot] at hl
        have hp : p < F.vs.length := (List.getElem?_eq_some_iff.1 hl).1
        simp only at hk2 hk2'; omega
    | t i =>
      cases l' with
      | v q =>
        simp only [Fr.slot] at hl'
        have hp : q < F.vs.length := (List.getElem?_eq_some_iff.1 hl').1
        simp only at hk2 hk2'; omega
      | t j =>
        simp only at hk2 hk2'
        rcases Nat.lt_trichotomy i j with h | h | h
        · have := cnt h (tsome hl); omega
        · rw [h]
        · have := cnt h (tsome hl'); omega
  · obtain ⟨k, hk1, _⟩ := ix l t hl
    refine h1 t ?_
    have := List.mem_zipIdx_iff_getElem?.1 hk1
    exact List.mem_of_getElem? this

def okReg (P : Program) (F : Fr) (draw : Bool) (ops : List IOp) (os : Array Oper) : Bool :=
  ops.length == os.size && wfB (F.with (tsOf os ops)) && okOps P (F.with (tsOf os ops)) os 0 ops &&
    (!draw || (P.follows .mixedOrders && okAny os (ancs os) (bxs ops) (idx ops 0)))

def okCode (P : Program) (F : Fr) : IR → Code → Bool
  | .skip, .skip => true
  | .skip, .label _ => true
  | .reg ops draw, .region _ os d => draw == d && okReg P F d ops os
  | .seq x y, .seq c d => okCode P F x c && okCode P F y d
  | .cond o x y, .cond p c d => okSrcN (F.with []) o p && okCode P F x c && okCode P F y d
  | .block i x, .block j c => i == j && okCode P F x c
  | .loop x, .loop c => okCode P F x c
  | .exit i, .exit j => i == j
  | .ret, .ret => true
  | x, .scope c => okCode P F x c
  | _, _ => false

/-- The postcondition takes what the evaluator says. -/
def Acc (F : Fr) (E : Entry) (Q : Exit → Act → World → Prop) : Ex → Prop
  | .norm s => ∀ G hw ew bx a w, SRel (F.with []) E G hw ew bx a w s → Q .normal a w
  | .exit i s => ∀ G hw ew bx a w, SRel (F.with []) E G hw ew bx a w s → Q (.exit i) a w
  | .ret s => ∀ G hw ew bx a w, SRel (F.with []) E G hw ew bx a w s → Q .ret a w
  | .pan v h => ∀ ch a w, PanOk E.G E.hw E.w v h ch w → a.defers = [] → Q (.panic ch) a w
  | .no => False

theorem okReg_wp (hev : FnOk P ev) {N : Nat} {id : Nat} {draw : Bool} {ops : List IOp} {os : Array Oper} {Q : Exit → Act → World → Prop} (hok : okReg P F draw ops os = true)
    (hS : SRel (F.with []) E G hw ew bx a w s) (hA : Acc F E Q (evalC ev N (.reg ops draw) s)) : (Code.region id os draw).wp P Q a w := by
  simp only [okReg, Bool.and_eq_true, beq_iff_eq, Bool.or_eq_true, Bool.not_eq_true'] at hok
  obtain ⟨⟨⟨hlen, hwf⟩, hops⟩, hd⟩ := hok
  have hF := wfB_wf hwf
  have htl : (tsOf os ops).length = ops.length := by simp [tsOf, hlen]
  have hS1 := SRel.openT hS ops.length (tsOf os ops) htl
  cases draw with
  | false =>
    have run := runL_wp (Q := Q) hF hev ops 0 hops hS1
    have hr : List.range os.size = List.range' 0 ops.length := by rw [hlen, List.range_eq_range']
    refine wp_region ?_
    rw [hr]
    simp only [evalC, Bool.false_eq_true, if_false] at hA
    cases he : runL ev ops 0 { s with tmps := List.replicate ops.length .junk } with
    | st s' =>
      rw [he] at hA
      exact run.1 s' he fun G' hw' ew' bx' a' w' hS' => hA _ _ _ _ _ _ hS'.closeT
    | pan v h =>
      rw [he] at hA
      exact run.2 v h he hA
    | no => rw [he] at hA; exact hA.elim
  | true =>
    obtain ⟨hm, hany⟩ := hd.resolve_left (by simp)
    simp only [evalC, if_true] at hA
    cases he : runX ev (bxs ops) (idx ops 0) { s with tmps := List.replicate ops.length .junk } with
    | none => rw [he] at hA; exact hA.elim
    | some s' =>
      rw [he] at hA
      refine wp_region_any hm ?_
      exact wpAny_D hF hev (s' := s') (fun G' hw' ew' bx' a' w' hS' => hA _ _ _ _ _ _ hS'.closeT) os.size (idx ops 0) _ (left_start hlen hops hany) (by rw [idx_length]; omega) (hS1.drew _) he

theorem code_wp (hev : FnOk P ev) {N : Nat} : ∀ (c : Code) (ir : IR) {Q : Exit → Act → World → Prop} {G : Ghost} {hw : HW} {ew : EW} {bx : Nat → Option Nat} {a : Act} {w : World} {s : St},
    okCode P F ir c = true → SRel (F.with []) E G hw ew bx a w s → Acc F E Q (evalC ev N ir s) → c.wp P Q a w := by
  intro c
  induction c with
  | skip =>
    intro ir Q G hw ew bx a w s hok hS hA
    cases ir <;> simp only [okCode, Bool.false_eq_true] at hok
    simp only [evalC] at hA
    exact wp_skip (hA _ _ _ _ _ _ hS)
  | label l =>
    intro ir Q G hw ew bx a w s hok hS hA
    cases ir <;> simp only [okCode, Bool.false_eq_true] at hok
    simp only [evalC] at hA
    exact wp_label (hA _ _ _ _ _ _ hS)
  | region id os d =>
    intro ir Q G hw ew bx a w s hok hS hA
    cases ir <;> simp only [okCode, Bool.false_eq_true, Bool.and_eq_true, beq_iff_eq] at hok
    rename_i ops draw
    obtain ⟨rfl, hok⟩ := hok
    exact okReg_wp hev hok hS hA
  | seq c d ihc ihd =>
    intro ir Q G hw ew bx a w s hok hS hA
    cases ir <;> simp only [okCode, Bool.false_eq_true, Bool.and_eq_true] at hok
    rename_i x y
    refine wp_seq (ihc x hok.1 hS ?_)
    simp only [evalC] at hA
    cases he : evalC ev N x s with
    | norm s1 =>
      rw [he] at hA
      exact fun G' hw' ew' bx' a' w' hS' => ihd y hok.2 hS' hA
    | exit i s1 => rw [he] at hA; exact hA
    | ret s1 => rw [he] at hA; exact hA
    | pan v h => rw [he] at hA; exact hA
    | no => rw [he] at hA; exact hA
  | cond p c d ihc ihd =>
    intro ir Q G hw ew bx a w s hok hS hA
    cases ir <;> simp only [okCode, Bool.false_eq_true, Bool.and_eq_true] at hok
    rename_i o x y
    obtain ⟨⟨ho, hx⟩, hy⟩ := hok
    simp only [okSrcN, Bool.and_eq_true] at ho
    obtain ⟨r, hrel, _⟩ := src_rel hS ho.1
    simp only [evalC] at hA
    cases hv : (readS s o).2 with
    | sc u =>
      rw [hv] at hA
      cases u with
      | bool t =>
        have hc : a.eval p = .bool t := by
          have h1 := hrel.1
          rw [hv] at h1
          simp only [XRel, VRel] at h1
          exact h1.1
        refine wp_cond hc ?_
        cases t with
        | true => exact ihc x hx hS (by simpa using hA)
        | false => exact ihd y hy hS (by simpa using hA)
      | _ => exact hA.elim
    | _ => rw [hv] at hA; exact hA.elim
  | block id c ih =>
    intro ir Q G hw ew bx a w s hok hS hA
    cases ir <;> simp only [okCode, Bool.false_eq_true, Bool.and_eq_true, beq_iff_eq] at hok
    rename_i i x
    obtain ⟨rfl, hok⟩ := hok
    refine wp_block (ih x hok hS ?_)
    simp only [evalC] at hA
    cases he : evalC ev N x s with
    | norm s1 => rw [he] at hA; exact hA
    | exit j s1 =>
      rw [he] at hA
      intro G' hw' ew' bx' a' w' hS'
      simp only [Exit.inBlock]
      by_cases hj : j = i
      · subst hj
        simp only [if_true] at hA
        simpa using hA _ _ _ _ _ _ hS'
      · simp only [hj, if_false] at hA
        have := hA _ _ _ _ _ _ hS'
        first | simpa [hj] using this | simpa [Ne.symm hj] using this
    | ret s1 => rw [he] at hA; exact hA
    | pan v h => rw [he] at hA; exact hA
    | no => rw [he] at hA; exact hA
  | loop c ih =>
    intro ir Q G hw ew bx a w s hok hS hA
    cases ir <;> simp only [okCode, Bool.false_eq_true] at hok
    rename_i x
    simp only [evalC] at hA
    refine wp_loop_rounds N ?_
    have key : ∀ (n : Nat) {G : Ghost} {hw : HW} {ew : EW} {bx : Nat → Option Nat} {a : Act} {w : World} {s : St}, SRel (F.with []) E G hw ew bx a w s → Acc F E Q (iter (evalC ev N x) n s) → Code.rounds P c Q n a w := by
      intro n
      induction n with
      | zero => intro G hw ew bx a w s _ h; exact h.elim
      | succ n ihn =>
        intro G hw ew bx a w s hS hA
        rw [rounds_succ]
        refine ih x hok hS ?_
        simp only [iter] at hA
        cases he : evalC ev N x s with
        | norm s1 => rw [he] at hA; exact fun G' hw' ew' bx' a' w' hS' => ihn hS' hA
        | exit i s1 => rw [he] at hA; exact hA
        | ret s1 => rw [he] at hA; exact hA
        | pan v h => rw [he] at hA; exact hA
        | no => rw [he] at hA; exact hA
    exact key N hS hA
  | exit i =>
    intro ir Q G hw ew bx a w s hok hS hA
    cases ir <;> simp only [okCode, Bool.false_eq_true, beq_iff_eq] at hok
    subst hok
    simp only [evalC] at hA
    exact wp_exit (hA _ _ _ _ _ _ hS)
  | ret =>
    intro ir Q G hw ew bx a w s hok hS hA
    cases ir <;> simp only [okCode, Bool.false_eq_true] at hok
    simp only [evalC] at hA
    exact wp_ret (hA _ _ _ _ _ _ hS)
  | scope c ih =>
    intro ir Q G hw ew bx a w s hok hS hA
    have hok' : okCode P F ir c = true := by cases ir <;> simpa [okCode] using hok
    refine wp_scope_straight (ih ir hok' hS ?_)
    cases he : evalC ev N ir s with
    | norm s1 => rw [he] at hA; exact hA
    | exit i s1 => rw [he] at hA; exact hA
    | ret s1 => rw [he] at hA; exact hA
    | pan v h => rw [he] at hA; exact hA
    | no => rw [he] at hA; exact hA
  | rangeFunc f ps c d => intro ir Q G hw ew bx a w s hok; cases ir <;> simp [okCode] at hok
  | goto l => intro ir Q G hw ew bx a w s hok; cases ir <;> simp [okCode] at hok
  | refuse y => intro ir Q G hw ew bx a w s hok; cases ir <;> simp [okCode] at hok

end
end Go.D
