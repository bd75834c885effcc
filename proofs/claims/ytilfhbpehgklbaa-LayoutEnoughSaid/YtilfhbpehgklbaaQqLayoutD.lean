/- How much is enough: the law LayoutEnough, in the evaluator. -/
import Derived.Test.YtilfhbpehgklbaaQqLayoutA
import Derived.Test.YtilfhbpehgklbaaQqLayS
set_option linter.unusedSimpArgs false
set_option linter.unusedVariables false
namespace Go.D.Layout
open Go.D
set_option maxRecDepth 100000
set_option maxHeartbeats 2000000
variable {d : Nat} {h : Heap}

/-- A use of an object. -/
structure US where
  strand : Int
  task : List Int
  thing : Int
  obj : Int
  kind : Int
  oobj : Int
  a : Int
  b : Int
  val : Int
  is : Bool
def uC (u : US) : List DV := [I u.strand, .sl .view 1 (ints u.task), I u.thing, I u.obj, I u.kind, I u.oobj, I u.a, I u.b, I u.val, B u.is]
def usD (l : List US) : List DV := l.map fun u => .agg (uC u)
theorem len_usD (l : List US) : (usD l).length = l.length := by simp [usD]
theorem get_usD (l : List US) (i : Nat) : (usD l)[i]? = (l[i]?).map fun u => .agg (uC u) := by simp [usD]
theorem strip_uC (u : US) : stripL (uC u) = uC u := by simp only [uC, stripL, strip, strip_ints, vm]
theorem strip_usD (l : List US) : stripL (usD l) = usD l := stripL_map _ (fun u => by rw [strip_agg, strip_uC]) l
theorem free_uC (u : US) : freeL (uC u) = true := by simp only [uC, freeL, free, free_ints, Bool.and_self]
theorem free_usD (l : List US) : freeL (usD l) = true := freeL_map _ (fun u => by rw [free_agg, free_uC]) l
theorem app1_usD (l : List US) (u : US) : usD l ++ [.agg (uC u)] = usD (l ++ [u]) := by simp [usD]
theorem emp_usD (l : List US) : (usD l).isEmpty = l.isEmpty := by cases l <;> rfl
theorem len_uC (u : US) : (uC u).length = 10 := rfl
theorem take_uC (u : US) : (uC u).take 10 = uC u := rfl
theorem drop_uC_2 (u : US) : (uC u).drop 2 = [I u.thing, I u.obj, I u.kind, I u.oobj, I u.a, I u.b, I u.val, B u.is] := rfl
theorem drop_uC_4 (u : US) : (uC u).drop 4 = [I u.kind, I u.oobj, I u.a, I u.b, I u.val, B u.is] := rfl
theorem drop_uC_0 (u : US) : (uC u).drop 0 = uC u := rfl
theorem drop_uC_10 (u : US) : (uC u).drop 10 = [] := rfl
attribute [go_sem] len_usD get_usD strip_uC strip_usD free_uC free_usD app1_usD emp_usD len_uC take_uC drop_uC_2 drop_uC_4 drop_uC_0 drop_uC_10

/-- Is a use one of those that put into a map; that make something? -/
def putU (u : US) : Bool := decide (u.thing = 1 ∧ u.kind = 2)
def allU (u : US) : Bool := decide ((u.thing = 1 ∧ u.kind = 2) ∨ (u.thing = 2 ∧ u.kind = 4) ∨ (u.thing = 3 ∧ u.kind = 6))
def cnt (p : US → Bool) (l : List US) : Nat := (l.filter p).length
theorem cnt_cons (p : US → Bool) (u : US) (l : List US) : cnt p (u :: l) = (if p u then 1 else 0) + cnt p l := by
  unfold cnt
  by_cases h : p u <;> simp [h]; omega
theorem cnt_le (p : US → Bool) (l : List US) : cnt p l ≤ l.length := List.length_filter_le _ _
theorem cnt_snoc (p : US → Bool) (u : US) (l : List US) : cnt p (l ++ [u]) = cnt p l + (if p u then 1 else 0) := by
  unfold cnt
  by_cases h : p u <;> simp [h]

theorem loop_made (ev : FuncId → List DV → Heap → Res DV) (v0 : DV) (bx : List DV) (us : List US) (mu : Mode) (hl : us.length ≤ 1000) (h0 : isLref v0 2 = false) : ∀ n k, k ≤ us.length → us.length - k < n → ∀ (p a : Nat) (x2 x5 x6 x7 : DV), p ≤ 1000 → a ≤ 1000 → p + (us.length - k) ≤ 1000 → a + (us.length - k) ≤ 1000 → (∀ q, isLref x2 q = false) → (∀ q, isLref x5 q = false) → (∀ q, isLref x6 q = false) → (∀ q, isLref x7 q = false) → ∃ y2 y5 y6 y7 y8,
    iter (evalC ev NN ir25_l0) n ⟨[v0, .box bx, x2, I p, I a, x5, x6, x7, I k, I us.length, .sl mu 10 (usD us)], [], h⟩ =
      .exit 0 ⟨[v0, .box bx, y2, I (p + cnt putU (us.drop k) : Nat), I (a + cnt allU (us.drop k) : Nat), y5, y6, y7, y8, I us.length, .sl mu 10 (usD us)], [], h⟩ := by
  intro n
  induction n with
  | zero => intro k _ h2; omega
  | succ n ih =>
    intro k hk hn p a x2 x5 x6 x7 hp ha hp2 ha2 hx2 hx5 hx6 hx7
    by_cases hlt : k < us.length
    · have hx : us[k]? = some us[k] := List.getElem?_eq_getElem hlt
      have hd : us.drop k = us[k] :: us.drop (k + 1) := List.drop_eq_getElem_cons hlt
      rw [hd, cnt_cons, cnt_cons]
      generalize us[k] = u at *
      have hlt' : (k : Int) < (us.length : Int) := by omega
      have wp := wrap_succ (show p < 4611686018427387904 by omega)
      have wa := wrap_succ (show a < 4611686018427387904 by omega)
      have wk := wrap_succ (show k < 4611686018427387904 by omega)
      have zz : ∀ (b : List DV), setCells b 0 (uC u) = uC u ++ b.drop 10 := fun b => by rw [setCells_zero]; rfl
      by_cases c1 : u.thing = 1 ∧ u.kind = 2
      · obtain ⟨e1, e2⟩ := c1
        have f1 : putU u = true := decide_eq_true ⟨e1, e2⟩
        have f2 : allU u = true := decide_eq_true (.inl ⟨e1, e2⟩)
        rw [f1, f2, if_pos rfl]
        obtain ⟨y2, y5, y6, y7, y8, e⟩ := ih (k + 1) (by omega) (by omega) (p + 1) (a + 1) (.box (uC u)) (B true) (B true) x7 (by omega) (by omega) (by omega) (by omega) (fun q => rfl) (fun q => rfl) (fun q => rfl) hx7
        refine ⟨y2, y5, y6, y7, y8, ?_⟩
        rw [show p + (1 + cnt putU (us.drop (k + 1))) = p + 1 + cnt putU (us.drop (k + 1)) by omega, show a + (1 + cnt allU (us.drop (k + 1))) = a + 1 + cnt allU (us.drop (k + 1)) by omega, ← e]
        have st : evalC ev NN ir25_l0 ⟨[v0, .box bx, x2, I p, I a, x5, x6, x7, I k, I us.length, .sl mu 10 (usD us)], [], h⟩ = .norm ⟨[v0, .box bx, .box (uC u), I (p + 1 : Nat), I (a + 1 : Nat), B true, B true, x7, I (k + 1 : Nat), I us.length, .sl mu 10 (usD us)], [], h⟩ := by
          simp -implicitDefEqProofs (disch := first | omega | (simp only [List.length_set, List.length_replicate]; omega)) only [ir25_l0, hx, wp, wa, wk, h0, hx2, hx5, hx6, hx7, wrap_i64, wrap_u64, wrap_u32, wrap_u16, wrap_u8, dec_t, dec_f, ite_t, ite_f, tmod_e, go_sem, Nat.reduceAdd, Nat.reduceMul, Nat.reduceSub, Nat.reduceLeDiff, Nat.reduceEqDiff, Nat.reduceBEq, Nat.reduceLT, Int.reduceLE, Int.reduceLT, Int.reduceEq, Int.reduceNeg, Int.reduceAdd, Int.reduceMul, Int.reduceSub, Int.reduceToNat, reduceCtorEq, ↓reduceIte]
        rw [iter, st]
      · have f1 : putU u = false := decide_eq_false c1
        by_cases c2 : (u.thing = 2 ∧ u.kind = 4) ∨ (u.thing = 3 ∧ u.kind = 6)
        · have f2 : allU u = true := decide_eq_true (.inr c2)
          rw [f1, f2, if_neg (by simp), if_pos rfl]
          obtain ⟨y2, y5, y6, y7, y8, e⟩ := ih (k + 1) (by omega) (by omega) p (a + 1) (.box (uC u)) (B true) (B false) (B true) (by omega) (by omega) (by omega) (by omega) (fun q => rfl) (fun q => rfl) (fun q => rfl) (fun q => rfl)
          refine ⟨y2, y5, y6, y7, y8, ?_⟩
          rw [Nat.zero_add, show a + (1 + cnt allU (us.drop (k + 1))) = a + 1 + cnt allU (us.drop (k + 1)) by omega, ← e]
          have st : evalC ev NN ir25_l0 ⟨[v0, .box bx, x2, I p, I a, x5, x6, x7, I k, I us.length, .sl mu 10 (usD us)], [], h⟩ = .norm ⟨[v0, .box bx, .box (uC u), I p, I (a + 1 : Nat), B true, B false, B true, I (k + 1 : Nat), I us.length, .sl mu 10 (usD us)], [], h⟩ := by
            by_cases c3 : u.thing = 1
            · exfalso; omega
            · by_cases c4 : u.thing = 2
              · simp -implicitDefEqProofs (disch := first | omega | (simp only [List.length_set, List.length_replicate]; omega)) only [ir25_l0, hx, wp, wa, wk, h0, hx2, hx5, hx6, hx7, wrap_i64, wrap_u64, wrap_u32, wrap_u16, wrap_u8, dec_t, dec_f, ite_t, ite_f, tmod_e, go_sem, Nat.reduceAdd, Nat.reduceMul, Nat.reduceSub, Nat.reduceLeDiff, Nat.reduceEqDiff, Nat.reduceBEq, Nat.reduceLT, Int.reduceLE, Int.reduceLT, Int.reduceEq, Int.reduceNeg, Int.reduceAdd, Int.reduceMul, Int.reduceSub, Int.reduceToNat, reduceCtorEq, ↓reduceIte]
              · simp -implicitDefEqProofs (disch := first | omega | (simp only [List.length_set, List.length_replicate]; omega)) only [ir25_l0, hx, wp, wa, wk, h0, hx2, hx5, hx6, hx7, wrap_i64, wrap_u64, wrap_u32, wrap_u16, wrap_u8, dec_t, dec_f, ite_t, ite_f, tmod_e, go_sem, Nat.reduceAdd, Nat.reduceMul, Nat.reduceSub, Nat.reduceLeDiff, Nat.reduceEqDiff, Nat.reduceBEq, Nat.reduceLT, Int.reduceLE, Int.reduceLT, Int.reduceEq, Int.reduceNeg, Int.reduceAdd, Int.reduceMul, Int.reduceSub, Int.reduceToNat, reduceCtorEq, ↓reduceIte]
          rw [iter, st]
        · have f2 : allU u = false := decide_eq_false (fun h => h.elim c1 c2)
          rw [f1, f2, if_neg (by simp)]
          obtain ⟨y2, y5, y6, y7, y8, e⟩ := ih (k + 1) (by omega) (by omega) p a (.box (uC u)) (B true) (B false) (B false) (by omega) (by omega) (by omega) (by omega) (fun q => rfl) (fun q => rfl) (fun q => rfl) (fun q => rfl)
          refine ⟨y2, y5, y6, y7, y8, ?_⟩
          rw [Nat.zero_add, Nat.zero_add, ← e]
          have st : evalC ev NN ir25_l0 ⟨[v0, .box bx, x2, I p, I a, x5, x6, x7, I k, I us.length, .sl mu 10 (usD us)], [], h⟩ = .norm ⟨[v0, .box bx, .box (uC u), I p, I a, B true, B false, B false, I (k + 1 : Nat), I us.length, .sl mu 10 (usD us)], [], h⟩ := by
            by_cases c3 : u.thing = 1
            · simp -implicitDefEqProofs (disch := first | omega | (simp only [List.length_set, List.length_replicate]; omega)) only [ir25_l0, hx, wp, wa, wk, h0, hx2, hx5, hx6, hx7, wrap_i64, wrap_u64, wrap_u32, wrap_u16, wrap_u8, dec_t, dec_f, ite_t, ite_f, tmod_e, go_sem, Nat.reduceAdd, Nat.reduceMul, Nat.reduceSub, Nat.reduceLeDiff, Nat.reduceEqDiff, Nat.reduceBEq, Nat.reduceLT, Int.reduceLE, Int.reduceLT, Int.reduceEq, Int.reduceNeg, Int.reduceAdd, Int.reduceMul, Int.reduceSub, Int.reduceToNat, reduceCtorEq, ↓reduceIte]
            · by_cases c4 : u.thing = 2
              · simp -implicitDefEqProofs (disch := first | omega | (simp only [List.length_set, List.length_replicate]; omega)) only [ir25_l0, hx, wp, wa, wk, h0, hx2, hx5, hx6, hx7, wrap_i64, wrap_u64, wrap_u32, wrap_u16, wrap_u8, dec_t, dec_f, ite_t, ite_f, tmod_e, go_sem, Nat.reduceAdd, Nat.reduceMul, Nat.reduceSub, Nat.reduceLeDiff, Nat.reduceEqDiff, Nat.reduceBEq, Nat.reduceLT, Int.reduceLE, Int.reduceLT, Int.reduceEq, Int.reduceNeg, Int.reduceAdd, Int.reduceMul, Int.reduceSub, Int.reduceToNat, reduceCtorEq, ↓reduceIte]
              · by_cases c5 : u.thing = 3
                · simp -implicitDefEqProofs (disch := first | omega | (simp only [List.length_set, List.length_replicate]; omega)) only [ir25_l0, hx, wp, wa, wk, h0, hx2, hx5, hx6, hx7, wrap_i64, wrap_u64, wrap_u32, wrap_u16, wrap_u8, dec_t, dec_f, ite_t, ite_f, tmod_e, go_sem, Nat.reduceAdd, Nat.reduceMul, Nat.reduceSub, Nat.reduceLeDiff, Nat.reduceEqDiff, Nat.reduceBEq, Nat.reduceLT, Int.reduceLE, Int.reduceLT, Int.reduceEq, Int.reduceNeg, Int.reduceAdd, Int.reduceMul, Int.reduceSub, Int.reduceToNat, reduceCtorEq, ↓reduceIte]
                · simp -implicitDefEqProofs (disch := first | omega | (simp only [List.length_set, List.length_replicate]; omega)) only [ir25_l0, hx, wp, wa, wk, h0, hx2, hx5, hx6, hx7, wrap_i64, wrap_u64, wrap_u32, wrap_u16, wrap_u8, dec_t, dec_f, ite_t, ite_f, tmod_e, go_sem, Nat.reduceAdd, Nat.reduceMul, Nat.reduceSub, Nat.reduceLeDiff, Nat.reduceEqDiff, Nat.reduceBEq, Nat.reduceLT, Int.reduceLE, Int.reduceLT, Int.reduceEq, Int.reduceNeg, Int.reduceAdd, Int.reduceMul, Int.reduceSub, Int.reduceToNat, reduceCtorEq, ↓reduceIte]
          rw [iter, st]
    · have hka : k = us.length := by omega
      subst hka
      have hlt' : ¬ ((us.length : Nat) : Int) < (us.length : Int) := by omega
      refine ⟨x2, B false, x6, x7, I us.length, ?_⟩
      rw [List.drop_length, show cnt putU [] = 0 from rfl, show cnt allU [] = 0 from rfl]
      simp -implicitDefEqProofs only [iter, ir25_l0, hlt', go_sem, Nat.reduceAdd, Nat.reduceMul, Nat.reduceSub, Nat.reduceLeDiff, Nat.reduceEqDiff, Nat.reduceBEq, Nat.reduceLT, Int.reduceLE, Int.reduceLT, Int.reduceEq, Int.reduceNeg, Int.reduceAdd, Int.reduceMul, Int.reduceSub, Int.reduceToNat, reduceCtorEq, ↓reduceIte]

/-- An elision, of which just the uses and the tasks matter. -/
structure ES where
  er : Int
  va : Int
  xa : List DV
  xb : List DV
  xc : List DV
  xd : List DV
  xf : List DV
  st : Int
  tk : Int
  xg : List DV
  nf : Nat
structure ES.Free (e : ES) : Prop where
  a : freeL e.xa = true
  b : freeL e.xb = true
  c : freeL e.xc = true
  d : freeL e.xd = true
  f : freeL e.xf = true
  g : freeL e.xg = true
def eC (e : ES) (mu : Mode) (us : List US) : List DV := [I e.er, I e.va, .sl .view 1 e.xa, .sl .view 3 e.xb, .sl .view 3 e.xc, .sl .view 3 e.xd, .sl mu 10 (usD us), .sl .view e.nf e.xf, I e.st, I e.tk, .sl .view 1 e.xg]
theorem body_made (ev : FuncId → List DV → Heap → Res DV) (e : ES) (mu : Mode) (us : List US) (hl : us.length ≤ 1000) : evalF ev NN ir25 [.agg (eC e mu us)] [] = .ok (.tup [I (cnt putU us : Nat), I (cnt allU us : Nat)]) [] := by
  obtain ⟨y2, y5, y6, y7, y8, l0⟩ := loop_made (h := []) ev (.agg (stripL (eC e mu us))) [I e.er, I e.va, .sl .view 1 e.xa, .sl .view 3 e.xb, .sl .view 3 e.xc, .sl .view 3 e.xd, .sl (vm mu) 10 (usD us), .sl .view e.nf e.xf, I e.st, I e.tk, .sl .view 1 e.xg] us mu hl rfl NN 0 (by omega) (by unfold NN; omega) 0 0 .junk .junk .junk .junk (by omega) (by omega) (by omega) (by omega) (fun q => rfl) (fun q => rfl) (fun q => rfl) (fun q => rfl)
  simp only [cast0, Nat.zero_add, List.drop_zero] at l0
  simp -implicitDefEqProofs only [eC, go_sem, Nat.reduceAdd, Nat.reduceMul, Nat.reduceSub, Nat.reduceLeDiff, Nat.reduceEqDiff, Nat.reduceBEq, Nat.reduceLT, Int.reduceLE, Int.reduceLT, Int.reduceEq, Int.reduceNeg, Int.reduceAdd, Int.reduceMul, Int.reduceSub, Int.reduceToNat, reduceCtorEq, ↓reduceIte] at l0
  simp -implicitDefEqProofs (disch := first | omega | (simp only [List.length_set, List.length_replicate]; omega)) only [ir25, eC, l0, wrap_i64, wrap_u64, wrap_u32, wrap_u16, wrap_u8, dec_t, dec_f, ite_t, ite_f, tmod_e, go_sem, Nat.reduceAdd, Nat.reduceMul, Nat.reduceSub, Nat.reduceLeDiff, Nat.reduceEqDiff, Nat.reduceBEq, Nat.reduceLT, Int.reduceLE, Int.reduceLT, Int.reduceEq, Int.reduceNeg, Int.reduceAdd, Int.reduceMul, Int.reduceSub, Int.reduceToNat, reduceCtorEq, ↓reduceIte]
theorem p_made (e : ES) (us : List US) (hl : us.length ≤ 1000) (hf : e.Free) : callP (evalCall fns NN (d + 1)) 25 [.agg (eC e .view us)] h = .ok (.tup [I (cnt putU us : Nat), I (cnt allU us : Nat)]) h :=
  callP_of (v := .tup [I (cnt putU us : Nat), I (cnt allU us : Nat)]) (h' := []) (by obtain ⟨f1, f2, f3, f4, f5, f6⟩ := hf; simp -implicitDefEqProofs only [eC, f1, f2, f3, f4, f5, f6, go_sem, Nat.reduceAdd, Nat.reduceMul, Nat.reduceSub, Nat.reduceLeDiff, Nat.reduceEqDiff, Nat.reduceBEq, Nat.reduceLT, Int.reduceLE, Int.reduceLT, Int.reduceEq, Int.reduceNeg, Int.reduceAdd, Int.reduceMul, Int.reduceSub, Int.reduceToNat, reduceCtorEq, ↓reduceIte]) rfl (by rw [call_eq rfl]; exact body_made _ e .view us hl) rfl

/-- How many buckets. -/
def bkF (m p : Int) : Int := if m = 0 then 1 else if p ≤ 2 then 1 else if p ≤ 4 then 2 else if p ≤ 8 then 4 else if p ≤ 16 then 8 else if p ≤ 32 then 16 else if p ≤ 64 then 32 else 64
theorem bk_bd (m p : Int) : 1 ≤ bkF m p ∧ bkF m p ≤ 64 := by
  unfold bkF
  repeat' split
  all_goals omega
theorem loop_For (ev : FuncId → List DV → Heap → Res DV) (v0 v1 v2 v3 v4 v5 v7 v9 v10 v12 : DV) (o : Cf) (hb : o.buckets = 1) (p : Int) :
    iter (evalC ev NN ir12_l0) NN ⟨[v0, v1, v2, v3, v4, v5, .box (CDc o), v7, .junk, v9, v10, I p, v12], [], h⟩ = .exit 0 ⟨[v0, v1, v2, v3, v4, v5, .box (CDc { o with buckets := bkF o.maps p }), v7, B false, v9, v10, I p, v12], [], h⟩ := by
  obtain ⟨o1, o2, o3, o4, o5, o6, o7, o8, o9⟩ := o
  dsimp only at hb
  subst hb
  unfold bkF
  by_cases c0 : o7 = 0
  · simp -implicitDefEqProofs (disch := first | omega | (simp only [List.length_set, List.length_replicate]; omega)) only [ir12_l0, NN_8, it1, wrap_i64, wrap_u64, wrap_u32, wrap_u16, wrap_u8, dec_t, dec_f, ite_t, ite_f, tmod_e, go_sem, Nat.reduceAdd, Nat.reduceMul, Nat.reduceSub, Nat.reduceLeDiff, Nat.reduceEqDiff, Nat.reduceBEq, Nat.reduceLT, Int.reduceLE, Int.reduceLT, Int.reduceEq, Int.reduceNeg, Int.reduceAdd, Int.reduceMul, Int.reduceSub, Int.reduceToNat, reduceCtorEq, ↓reduceIte]
  by_cases c1 : p ≤ 2
  · simp -implicitDefEqProofs (disch := first | omega | (simp only [List.length_set, List.length_replicate]; omega)) only [ir12_l0, NN_8, it1, wrap_i64, wrap_u64, wrap_u32, wrap_u16, wrap_u8, dec_t, dec_f, ite_t, ite_f, tmod_e, go_sem, Nat.reduceAdd, Nat.reduceMul, Nat.reduceSub, Nat.reduceLeDiff, Nat.reduceEqDiff, Nat.reduceBEq, Nat.reduceLT, Int.reduceLE, Int.reduceLT, Int.reduceEq, Int.reduceNeg, Int.reduceAdd, Int.reduceMul, Int.reduceSub, Int.reduceToNat, reduceCtorEq, ↓reduceIte]
  by_cases c2 : p ≤ 4
  · simp -implicitDefEqProofs (disch := first | omega | (simp only [List.length_set, List.length_replicate]; omega)) only [ir12_l0, NN_8, it1, wrap_i64, wrap_u64, wrap_u32, wrap_u16, wrap_u8, dec_t, dec_f, ite_t, ite_f, tmod_e, go_sem, Nat.reduceAdd, Nat.reduceMul, Nat.reduceSub, Nat.reduceLeDiff, Nat.reduceEqDiff, Nat.reduceBEq, Nat.reduceLT, Int.reduceLE, Int.reduceLT, Int.reduceEq, Int.reduceNeg, Int.reduceAdd, Int.reduceMul, Int.reduceSub, Int.reduceToNat, reduceCtorEq, ↓reduceIte]
  by_cases c3 : p ≤ 8
  · simp -implicitDefEqProofs (disch := first | omega | (simp only [List.length_set, List.length_replicate]; omega)) only [ir12_l0, NN_8, it1, wrap_i64, wrap_u64, wrap_u32, wrap_u16, wrap_u8, dec_t, dec_f, ite_t, ite_f, tmod_e, go_sem, Nat.reduceAdd, Nat.reduceMul, Nat.reduceSub, Nat.reduceLeDiff, Nat.reduceEqDiff, Nat.reduceBEq, Nat.reduceLT, Int.reduceLE, Int.reduceLT, Int.reduceEq, Int.reduceNeg, Int.reduceAdd, Int.reduceMul, Int.reduceSub, Int.reduceToNat, reduceCtorEq, ↓reduceIte]
  by_cases c4 : p ≤ 16
  · simp -implicitDefEqProofs (disch := first | omega | (simp only [List.length_set, List.length_replicate]; omega)) only [ir12_l0, NN_8, it1, wrap_i64, wrap_u64, wrap_u32, wrap_u16, wrap_u8, dec_t, dec_f, ite_t, ite_f, tmod_e, go_sem, Nat.reduceAdd, Nat.reduceMul, Nat.reduceSub, Nat.reduceLeDiff, Nat.reduceEqDiff, Nat.reduceBEq, Nat.reduceLT, Int.reduceLE, Int.reduceLT, Int.reduceEq, Int.reduceNeg, Int.reduceAdd, Int.reduceMul, Int.reduceSub, Int.reduceToNat, reduceCtorEq, ↓reduceIte]
  by_cases c5 : p ≤ 32
  · simp -implicitDefEqProofs (disch := first | omega | (simp only [List.length_set, List.length_replicate]; omega)) only [ir12_l0, NN_8, it1, wrap_i64, wrap_u64, wrap_u32, wrap_u16, wrap_u8, dec_t, dec_f, ite_t, ite_f, tmod_e, go_sem, Nat.reduceAdd, Nat.reduceMul, Nat.reduceSub, Nat.reduceLeDiff, Nat.reduceEqDiff, Nat.reduceBEq, Nat.reduceLT, Int.reduceLE, Int.reduceLT, Int.reduceEq, Int.reduceNeg, Int.reduceAdd, Int.reduceMul, Int.reduceSub, Int.reduceToNat, reduceCtorEq, ↓reduceIte]
  by_cases c6 : p ≤ 64
  · simp -implicitDefEqProofs (disch := first | omega | (simp only [List.length_set, List.length_replicate]; omega)) only [ir12_l0, NN_8, it1, wrap_i64, wrap_u64, wrap_u32, wrap_u16, wrap_u8, dec_t, dec_f, ite_t, ite_f, tmod_e, go_sem, Nat.reduceAdd, Nat.reduceMul, Nat.reduceSub, Nat.reduceLeDiff, Nat.reduceEqDiff, Nat.reduceBEq, Nat.reduceLT, Int.reduceLE, Int.reduceLT, Int.reduceEq, Int.reduceNeg, Int.reduceAdd, Int.reduceMul, Int.reduceSub, Int.reduceToNat, reduceCtorEq, ↓reduceIte]
  · simp -implicitDefEqProofs (disch := first | omega | (simp only [List.length_set, List.length_replicate]; omega)) only [ir12_l0, NN_8, it1, wrap_i64, wrap_u64, wrap_u32, wrap_u16, wrap_u8, dec_t, dec_f, ite_t, ite_f, tmod_e, go_sem, Nat.reduceAdd, Nat.reduceMul, Nat.reduceSub, Nat.reduceLeDiff, Nat.reduceEqDiff, Nat.reduceBEq, Nat.reduceLT, Int.reduceLE, Int.reduceLT, Int.reduceEq, Int.reduceNeg, Int.reduceAdd, Int.reduceMul, Int.reduceSub, Int.reduceToNat, reduceCtorEq, ↓reduceIte]

/-- A code, of which just the numbers of things matter. -/
structure CS where
  xa : List DV
  xb : List DV
  mp : Int
  st : Int
  ch : Int
  mn : Int
def cC (c : CS) : List DV := [.sl .view 3 c.xa, .sl .view 1 c.xb, I c.mp, I c.st, I c.ch, I c.mn]
/-- What is enough, but for nodes; and what For tells. -/
def ouC (c : CS) (tk seats p : Int) : Cf := ⟨seats, 0, bkF c.mp p, (seats + 1).tdiv 2, if tk < 1 then 1 else tk, c.xb.length, c.mp, c.st, c.ch⟩
def ndF (c : CS) (seats p a : Int) : Int := 4 + bkF c.mp p * c.mp + c.ch + a + 8 * seats
def forV (c : CS) (tk seats p a : Int) : DV :=
  if May (ouC c tk seats p) then (if 1000 < ndF c seats p a then .tup [.agg (CDc zC), I 8] else .tup [.agg (CDc { ouC c tk seats p with nodes := ndF c seats p a }), I 0]) else .tup [.agg (CDc zC), I 1]
theorem f9 (x0 x1 x2 x3 x4 x5 x6 x7 x8 : Int) : [DV.sc (.int .i64 x0), .sc (.int .i64 x1), .sc (.int .i64 x2), .sc (.int .i64 x3), .sc (.int .i64 x4), .sc (.int .i64 x5), .sc (.int .i64 x6), .sc (.int .i64 x7), .sc (.int .i64 x8)] = CDc ⟨x0, x1, x2, x3, x4, x5, x6, x7, x8⟩ := rfl

theorem body_For (ev : FuncId → List DV → Heap → Res DV) (c : CS) (e : ES) (mu : Mode) (us : List US) (seats : Int) (hs : -9223372036854775808 ≤ seats ∧ seats ≤ 1000) (p a : Nat) (hpa : p ≤ 1000 ∧ a ≤ 1000)
    (q1 : ∀ h, callP ev 25 [.agg (eC e (vm mu) us)] h = .ok (.tup [I p, I a]) h) (q2 : ∀ h c, callP ev 26 [.agg (CDc c)] h = .ok (B (decide (May c))) h) :
    evalF ev NN ir12 [.agg (cC c), .agg (eC e mu us), I seats] [] = .ok (forV c e.tk seats p a) [] := by
  have wq : IntKind.i64.wrap ((seats + 1).tdiv 2) = (seats + 1).tdiv 2 := by
    have h1 := Int.tdiv_mul_add_tmod (seats + 1) 2
    rcases Int.le_total 0 (seats + 1) with h | h
    · have := Int.tmod_eq_emod_of_nonneg (b := 2) h
      exact wrap64_id (by omega) (by omega)
    · have := Int.tmod_eq_emod_of_nonneg (a := -(seats + 1)) (b := 2) (by omega)
      rw [Int.neg_tmod] at this
      exact wrap64_id (by omega) (by omega)
  have l0 := fun v0 v1 v2 v3 v4 v5 v7 v9 v10 v12 h => loop_For (h := h) ev v0 v1 v2 v3 v4 v5 v7 v9 v10 v12 ⟨seats, 0, 1, (seats + 1).tdiv 2, if e.tk < 1 then 1 else e.tk, c.xb.length, c.mp, c.st, c.ch⟩ rfl (p : Int)
  have p1 := q1
  simp only [eC] at p1
  unfold forV
  have hbk := bk_bd c.mp p
  by_cases hm : May (ouC c e.tk seats p)
  · rw [if_pos hm]
    have k0 : 1 ≤ seats ∧ seats ≤ 8 := hm.seats
    have k1 : 0 ≤ c.mp ∧ c.mp ≤ 8 := hm.maps
    have k2 : 0 ≤ c.ch ∧ c.ch ≤ 8 := hm.chans
    have hmm : 0 ≤ bkF c.mp p * c.mp ∧ bkF c.mp p * c.mp ≤ 64 * 8 := ⟨Int.mul_nonneg (by omega) (by omega), Int.mul_le_mul (by omega) (by omega) (by omega) (by omega)⟩
    unfold ouC at hm
    unfold ndF
    by_cases hn : 1000 < 4 + bkF c.mp p * c.mp + c.ch + a + 8 * seats
    · rw [if_pos hn]
      simp -implicitDefEqProofs (disch := first | omega | (simp only [List.length_set, List.length_replicate]; omega)) only [ir12, cC, eC, p1, q2, wq, f9, l0, hm, wrap_i64, wrap_u64, wrap_u32, wrap_u16, wrap_u8, dec_t, dec_f, ite_t, ite_f, tmod_e, go_sem, Nat.reduceAdd, Nat.reduceMul, Nat.reduceSub, Nat.reduceLeDiff, Nat.reduceEqDiff, Nat.reduceBEq, Nat.reduceLT, Int.reduceLE, Int.reduceLT, Int.reduceEq, Int.reduceNeg, Int.reduceAdd, Int.reduceMul, Int.reduceSub, Int.reduceToNat, reduceCtorEq, ↓reduceIte]
      rfl
    · rw [if_neg hn]
      simp -implicitDefEqProofs (disch := first | omega | (simp only [List.length_set, List.length_replicate]; omega)) only [ir12, cC, eC, p1, q2, wq, f9, l0, hm, wrap_i64, wrap_u64, wrap_u32, wrap_u16, wrap_u8, dec_t, dec_f, ite_t, ite_f, tmod_e, go_sem, Nat.reduceAdd, Nat.reduceMul, Nat.reduceSub, Nat.reduceLeDiff, Nat.reduceEqDiff, Nat.reduceBEq, Nat.reduceLT, Int.reduceLE, Int.reduceLT, Int.reduceEq, Int.reduceNeg, Int.reduceAdd, Int.reduceMul, Int.reduceSub, Int.reduceToNat, reduceCtorEq, ↓reduceIte]
      rfl
  · rw [if_neg hm]
    unfold ouC at hm
    simp -implicitDefEqProofs (disch := first | omega | (simp only [List.length_set, List.length_replicate]; omega)) only [ir12, cC, eC, p1, q2, wq, f9, l0, hm, wrap_i64, wrap_u64, wrap_u32, wrap_u16, wrap_u8, dec_t, dec_f, ite_t, ite_f, tmod_e, go_sem, Nat.reduceAdd, Nat.reduceMul, Nat.reduceSub, Nat.reduceLeDiff, Nat.reduceEqDiff, Nat.reduceBEq, Nat.reduceLT, Int.reduceLE, Int.reduceLT, Int.reduceEq, Int.reduceNeg, Int.reduceAdd, Int.reduceMul, Int.reduceSub, Int.reduceToNat, reduceCtorEq, ↓reduceIte]
    rfl

theorem forV_look (c : CS) (tk seats p a : Int) (h' : Heap) : look h' (forV c tk seats p a) = forV c tk seats p a ∧ free (forV c tk seats p a) = true := by
  unfold forV
  split
  · split <;> exact ⟨rfl, rfl⟩
  · exact ⟨rfl, rfl⟩
theorem p_For (c : CS) (e : ES) (us : List US) (seats : Int) (hs : -9223372036854775808 ≤ seats ∧ seats ≤ 1000) (hl : us.length ≤ 1000) (hf : e.Free) (h1 : freeL c.xa = true) (h2 : freeL c.xb = true) :
    callP (evalCall fns NN (d + 3)) 12 [.agg (cC c), .agg (eC e .view us), I seats] h = .ok (forV c e.tk seats (cnt putU us : Nat) (cnt allU us : Nat)) h := by
  have hv := forV_look c e.tk seats (cnt putU us : Nat) (cnt allU us : Nat) []
  have := cnt_le putU us
  have := cnt_le allU us
  have q := callP_of (ev := evalCall fns NN (d + 3)) (h := h) (f := 12) (args := [.agg (cC c), .agg (eC e .view us), I seats]) (v := forV c e.tk seats (cnt putU us : Nat) (cnt allU us : Nat)) (h' := [])
    (by obtain ⟨f1, f2, f3, f4, f5, f6⟩ := hf; simp -implicitDefEqProofs only [cC, eC, f1, f2, f3, f4, f5, f6, h1, h2, go_sem, Nat.reduceAdd, Nat.reduceMul, Nat.reduceSub, Nat.reduceLeDiff, Nat.reduceEqDiff, Nat.reduceBEq, Nat.reduceLT, Int.reduceLE, Int.reduceLT, Int.reduceEq, Int.reduceNeg, Int.reduceAdd, Int.reduceMul, Int.reduceSub, Int.reduceToNat, reduceCtorEq, ↓reduceIte]) rfl
    (by rw [call_eq rfl]; exact body_For _ c e .view us seats hs _ _ ⟨by omega, by omega⟩ (fun h => p_made (d := d + 1) e us hl hf) (fun h c => p_may c)) (by rw [hv.1]; exact hv.2)
  rw [q, hv.1]

theorem fu (x0 x2 x3 x4 x5 x6 x7 x8 : Int) (t : List Int) (b : Bool) : [DV.sc (.int .i64 x0), .sl .view 1 (ints t), .sc (.int .i64 x2), .sc (.int .i64 x3), .sc (.int .i64 x4), .sc (.int .i64 x5), .sc (.int .i64 x6), .sc (.int .i64 x7), .sc (.int .i64 x8), .sc (.bool b)] = uC ⟨x0, t, x2, x3, x4, x5, x6, x7, x8, b⟩ := rfl
/-- What the law is asked of. -/
def inC (c : CS) (e : ES) (us : List US) (u : US) (seats : Int) : List DV := cC c ++ eC e .view us ++ uC u ++ [I seats]

theorem body_Enough (ev : FuncId → List DV → Heap → Res DV) (ha : ∀ h, callP ev 9 [] h = .ok (B true) h) (c : CS) (e : ES) (us : List US) (u : US) (seats : Int) (hs : -9223372036854775808 ≤ seats)
    (A B' D' : Cf) (f hh ii : Int)
    (q1 : ∀ h, us.length ≤ 100 → seats ≤ 100 → callP ev 12 [.agg (cC c), .agg (eC e .view us), I seats] h = .ok (.tup [.agg (CDc A), I f]) h)
    (q2 : ∀ h, us.length ≤ 100 → seats ≤ 100 → callP ev 12 [.agg (cC c), .agg (eC e .view (us ++ [u])), I seats] h = .ok (.tup [.agg (CDc B'), I hh]) h)
    (q3 : ∀ h, us.length ≤ 100 → seats ≤ 100 → callP ev 12 [.agg (cC c), .agg (eC e .view us), I (seats + 1)] h = .ok (.tup [.agg (CDc D'), I ii]) h)
    (q4 : ∀ h, f = 0 → callP ev 10 [.agg (CDc A)] h = .ok (.tup [.agg (LDc A (layF A)), I 0]) h)
    (F1 : ¬ f = 0 → A = ⟨0, 0, 0, 0, 0, 0, 0, 0, 0⟩ ∧ (f = 1 ∨ f = 8))
    (F2 : f = 0 → (1 ≤ A.seats ∧ A.seats ≤ 8) ∧ (0 ≤ A.nodes ∧ A.nodes ≤ 1000) ∧ (0 ≤ A.slots ∧ A.slots ≤ 8) ∧ (0 ≤ A.buckets * A.maps ∧ A.buckets * A.maps ≤ 512))
    (F3 : f = 0 → hh = 0 → A.nodes ≤ B'.nodes ∧ A.buckets ≤ B'.buckets ∧ B'.tasks = A.tasks ∧ B'.nodes ≤ A.nodes + 1 + A.buckets * A.maps)
    (F4 : f = 0 → ii = 0 → D'.nodes = A.nodes + 8 ∧ D'.slots + A.slots = D'.seats ∧ D'.seats = A.seats + 1) :
    evalF ev NN ir4 [.agg (inC c e us u seats)] [] = .ok (B true) [] := by
  have in1 : inC c e us u seats = [.sl .view 3 c.xa, .sl .view 1 c.xb, I c.mp, I c.st, I c.ch, I c.mn, I e.er, I e.va, .sl .view 1 e.xa, .sl .view 3 e.xb, .sl .view 3 e.xc, .sl .view 3 e.xd, .sl .view 10 (usD us), .sl .view e.nf e.xf, I e.st, I e.tk, .sl .view 1 e.xg,
    I u.strand, .sl .view 1 (ints u.task), I u.thing, I u.obj, I u.kind, I u.oobj, I u.a, I u.b, I u.val, B u.is, I seats] := rfl
  rw [in1]
  by_cases g1 : c.xb.length ≤ 40
  · by_cases g2 : us.length ≤ 100
    · by_cases g3 : seats ≤ 100
      · have p1 := fun h => q1 h g2 g3
        have p2 := fun h => q2 h g2 g3
        have p3 := fun h => q3 h g2 g3
        simp only [cC, eC] at p1 p2 p3
        by_cases hf : f = 0
        · have p4 := fun h => q4 h hf
          obtain ⟨b1, b2, b3, b4⟩ := F2 hf
          have hr : us.length * 97 ≤ room := by simp only [room]; omega
          have hr2 : (us.length + 1) * 97 ≤ room := by simp only [room]; omega
          have hr1 : 97 ≤ room := by decide
          cases hu : us.isEmpty with
          | true =>
            obtain rfl : us = [] := List.isEmpty_iff.1 hu
            simp only [List.length_nil, List.nil_append] at *
            by_cases hh0 : hh = 0 <;> by_cases hi0 : ii = 0
            · have f3 := F3 hf hh0; have f4 := F4 hf hi0
              simp -implicitDefEqProofs (disch := first | omega | (simp only [List.length_set, List.length_replicate]; omega)) only [ir4, ha, p1, p2, p3, p4, fu, hr, hr1, wrap_i64, wrap_u64, wrap_u32, wrap_u16, wrap_u8, dec_t, dec_f, ite_t, ite_f, tmod_e, go_sem, Nat.reduceAdd, Nat.reduceMul, Nat.reduceSub, Nat.reduceLeDiff, Nat.reduceEqDiff, Nat.reduceBEq, Nat.reduceLT, Int.reduceLE, Int.reduceLT, Int.reduceEq, Int.reduceNeg, Int.reduceAdd, Int.reduceMul, Int.reduceSub, Int.reduceToNat, reduceCtorEq, ↓reduceIte]
            · have f3 := F3 hf hh0
              simp -implicitDefEqProofs (disch := first | omega | (simp only [List.length_set, List.length_replicate]; omega)) only [ir4, ha, p1, p2, p3, p4, fu, hr, hr1, wrap_i64, wrap_u64, wrap_u32, wrap_u16, wrap_u8, dec_t, dec_f, ite_t, ite_f, tmod_e, go_sem, Nat.reduceAdd, Nat.reduceMul, Nat.reduceSub, Nat.reduceLeDiff, Nat.reduceEqDiff, Nat.reduceBEq, Nat.reduceLT, Int.reduceLE, Int.reduceLT, Int.reduceEq, Int.reduceNeg, Int.reduceAdd, Int.reduceMul, Int.reduceSub, Int.reduceToNat, reduceCtorEq, ↓reduceIte]
            · have f4 := F4 hf hi0
              simp -implicitDefEqProofs (disch := first | omega | (simp only [List.length_set, List.length_replicate]; omega)) only [ir4, ha, p1, p2, p3, p4, fu, hr, hr1, wrap_i64, wrap_u64, wrap_u32, wrap_u16, wrap_u8, dec_t, dec_f, ite_t, ite_f, tmod_e, go_sem, Nat.reduceAdd, Nat.reduceMul, Nat.reduceSub, Nat.reduceLeDiff, Nat.reduceEqDiff, Nat.reduceBEq, Nat.reduceLT, Int.reduceLE, Int.reduceLT, Int.reduceEq, Int.reduceNeg, Int.reduceAdd, Int.reduceMul, Int.reduceSub, Int.reduceToNat, reduceCtorEq, ↓reduceIte]
            · simp -implicitDefEqProofs (disch := first | omega | (simp only [List.length_set, List.length_replicate]; omega)) only [ir4, ha, p1, p2, p3, p4, fu, hr, hr1, wrap_i64, wrap_u64, wrap_u32, wrap_u16, wrap_u8, dec_t, dec_f, ite_t, ite_f, tmod_e, go_sem, Nat.reduceAdd, Nat.reduceMul, Nat.reduceSub, Nat.reduceLeDiff, Nat.reduceEqDiff, Nat.reduceBEq, Nat.reduceLT, Int.reduceLE, Int.reduceLT, Int.reduceEq, Int.reduceNeg, Int.reduceAdd, Int.reduceMul, Int.reduceSub, Int.reduceToNat, reduceCtorEq, ↓reduceIte]
          | false =>
            by_cases hh0 : hh = 0 <;> by_cases hi0 : ii = 0
            · have f3 := F3 hf hh0; have f4 := F4 hf hi0
              simp -implicitDefEqProofs (disch := first | omega | (simp only [List.length_set, List.length_replicate]; omega)) only [ir4, ha, p1, p2, p3, p4, fu, hr, hr2, hu, wrap_i64, wrap_u64, wrap_u32, wrap_u16, wrap_u8, dec_t, dec_f, ite_t, ite_f, tmod_e, go_sem, Nat.reduceAdd, Nat.reduceMul, Nat.reduceSub, Nat.reduceLeDiff, Nat.reduceEqDiff, Nat.reduceBEq, Nat.reduceLT, Int.reduceLE, Int.reduceLT, Int.reduceEq, Int.reduceNeg, Int.reduceAdd, Int.reduceMul, Int.reduceSub, Int.reduceToNat, reduceCtorEq, ↓reduceIte]
            · have f3 := F3 hf hh0
              simp -implicitDefEqProofs (disch := first | omega | (simp only [List.length_set, List.length_replicate]; omega)) only [ir4, ha, p1, p2, p3, p4, fu, hr, hr2, hu, wrap_i64, wrap_u64, wrap_u32, wrap_u16, wrap_u8, dec_t, dec_f, ite_t, ite_f, tmod_e, go_sem, Nat.reduceAdd, Nat.reduceMul, Nat.reduceSub, Nat.reduceLeDiff, Nat.reduceEqDiff, Nat.reduceBEq, Nat.reduceLT, Int.reduceLE, Int.reduceLT, Int.reduceEq, Int.reduceNeg, Int.reduceAdd, Int.reduceMul, Int.reduceSub, Int.reduceToNat, reduceCtorEq, ↓reduceIte]
            · have f4 := F4 hf hi0
              simp -implicitDefEqProofs (disch := first | omega | (simp only [List.length_set, List.length_replicate]; omega)) only [ir4, ha, p1, p2, p3, p4, fu, hr, hr2, hu, wrap_i64, wrap_u64, wrap_u32, wrap_u16, wrap_u8, dec_t, dec_f, ite_t, ite_f, tmod_e, go_sem, Nat.reduceAdd, Nat.reduceMul, Nat.reduceSub, Nat.reduceLeDiff, Nat.reduceEqDiff, Nat.reduceBEq, Nat.reduceLT, Int.reduceLE, Int.reduceLT, Int.reduceEq, Int.reduceNeg, Int.reduceAdd, Int.reduceMul, Int.reduceSub, Int.reduceToNat, reduceCtorEq, ↓reduceIte]
            · simp -implicitDefEqProofs (disch := first | omega | (simp only [List.length_set, List.length_replicate]; omega)) only [ir4, ha, p1, p2, p3, p4, fu, hr, hr2, hu, wrap_i64, wrap_u64, wrap_u32, wrap_u16, wrap_u8, dec_t, dec_f, ite_t, ite_f, tmod_e, go_sem, Nat.reduceAdd, Nat.reduceMul, Nat.reduceSub, Nat.reduceLeDiff, Nat.reduceEqDiff, Nat.reduceBEq, Nat.reduceLT, Int.reduceLE, Int.reduceLT, Int.reduceEq, Int.reduceNeg, Int.reduceAdd, Int.reduceMul, Int.reduceSub, Int.reduceToNat, reduceCtorEq, ↓reduceIte]
        · obtain ⟨hA, hf2⟩ := F1 hf
          rcases hf2 with e1 | e1
          · simp -implicitDefEqProofs (disch := first | omega | (simp only [List.length_set, List.length_replicate]; omega)) only [ir4, ha, p1, f9, hA, wrap_i64, wrap_u64, wrap_u32, wrap_u16, wrap_u8, dec_t, dec_f, ite_t, ite_f, tmod_e, go_sem, Nat.reduceAdd, Nat.reduceMul, Nat.reduceSub, Nat.reduceLeDiff, Nat.reduceEqDiff, Nat.reduceBEq, Nat.reduceLT, Int.reduceLE, Int.reduceLT, Int.reduceEq, Int.reduceNeg, Int.reduceAdd, Int.reduceMul, Int.reduceSub, Int.reduceToNat, reduceCtorEq, ↓reduceIte]
          · simp -implicitDefEqProofs (disch := first | omega | (simp only [List.length_set, List.length_replicate]; omega)) only [ir4, ha, p1, f9, hA, wrap_i64, wrap_u64, wrap_u32, wrap_u16, wrap_u8, dec_t, dec_f, ite_t, ite_f, tmod_e, go_sem, Nat.reduceAdd, Nat.reduceMul, Nat.reduceSub, Nat.reduceLeDiff, Nat.reduceEqDiff, Nat.reduceBEq, Nat.reduceLT, Int.reduceLE, Int.reduceLT, Int.reduceEq, Int.reduceNeg, Int.reduceAdd, Int.reduceMul, Int.reduceSub, Int.reduceToNat, reduceCtorEq, ↓reduceIte]
      · simp -implicitDefEqProofs (disch := first | omega | (simp only [List.length_set, List.length_replicate]; omega)) only [ir4, ha, wrap_i64, wrap_u64, wrap_u32, wrap_u16, wrap_u8, dec_t, dec_f, ite_t, ite_f, tmod_e, go_sem, Nat.reduceAdd, Nat.reduceMul, Nat.reduceSub, Nat.reduceLeDiff, Nat.reduceEqDiff, Nat.reduceBEq, Nat.reduceLT, Int.reduceLE, Int.reduceLT, Int.reduceEq, Int.reduceNeg, Int.reduceAdd, Int.reduceMul, Int.reduceSub, Int.reduceToNat, reduceCtorEq, ↓reduceIte]
    · simp -implicitDefEqProofs (disch := first | omega | (simp only [List.length_set, List.length_replicate]; omega)) only [ir4, ha, wrap_i64, wrap_u64, wrap_u32, wrap_u16, wrap_u8, dec_t, dec_f, ite_t, ite_f, tmod_e, go_sem, Nat.reduceAdd, Nat.reduceMul, Nat.reduceSub, Nat.reduceLeDiff, Nat.reduceEqDiff, Nat.reduceBEq, Nat.reduceLT, Int.reduceLE, Int.reduceLT, Int.reduceEq, Int.reduceNeg, Int.reduceAdd, Int.reduceMul, Int.reduceSub, Int.reduceToNat, reduceCtorEq, ↓reduceIte]
  · simp -implicitDefEqProofs (disch := first | omega | (simp only [List.length_set, List.length_replicate]; omega)) only [ir4, ha, wrap_i64, wrap_u64, wrap_u32, wrap_u16, wrap_u8, dec_t, dec_f, ite_t, ite_f, tmod_e, go_sem, Nat.reduceAdd, Nat.reduceMul, Nat.reduceSub, Nat.reduceLeDiff, Nat.reduceEqDiff, Nat.reduceBEq, Nat.reduceLT, Int.reduceLE, Int.reduceLT, Int.reduceEq, Int.reduceNeg, Int.reduceAdd, Int.reduceMul, Int.reduceSub, Int.reduceToNat, reduceCtorEq, ↓reduceIte]

theorem forV_parts (c : CS) (tk seats p a : Int) : ∃ A f, forV c tk seats p a = .tup [.agg (CDc A), I f] ∧
    ((f = 0 ∧ May (ouC c tk seats p) ∧ ndF c seats p a ≤ 1000 ∧ A = { ouC c tk seats p with nodes := ndF c seats p a }) ∨ (¬ f = 0 ∧ A = ⟨0, 0, 0, 0, 0, 0, 0, 0, 0⟩ ∧ (f = 1 ∨ f = 8))) := by
  unfold forV
  split
  · rename_i hm
    split
    · exact ⟨zC, 8, rfl, .inr ⟨by omega, rfl, .inr rfl⟩⟩
    · exact ⟨_, 0, rfl, .inl ⟨rfl, hm, by omega, rfl⟩⟩
  · exact ⟨zC, 1, rfl, .inr ⟨by omega, rfl, .inl rfl⟩⟩
theorem bk_up {m p q : Int} (h : p ≤ q) : bkF m p ≤ bkF m q := by
  unfold bkF
  repeat' split
  all_goals omega
theorem bk_two {m p q : Int} (h : q ≤ p + 1) : bkF m q ≤ 2 * bkF m p := by
  unfold bkF
  repeat' split
  all_goals omega

theorem law_Enough (d : Nat) (c : CS) (e : ES) (us : List US) (u : US) (seats : Int) (hs : -9223372036854775808 ≤ seats) (hf : e.Free) (h1 : freeL c.xa = true) (h2 : freeL c.xb = true) :
    evalCall fns NN (d + 11) 4 [.agg (inC c e us u seats)] [] = .ok (B true) [] := by
  rw [call_eq rfl]
  obtain ⟨A, f, eA, hA⟩ := forV_parts c e.tk seats (cnt putU us : Nat) (cnt allU us : Nat)
  obtain ⟨B', hh, eB, hB⟩ := forV_parts c e.tk seats (cnt putU (us ++ [u]) : Nat) (cnt allU (us ++ [u]) : Nat)
  obtain ⟨D', ii, eD, hD⟩ := forV_parts c e.tk (seats + 1) (cnt putU us : Nat) (cnt allU us : Nat)
  have cp := cnt_snoc putU u us
  have ca := cnt_snoc allU u us
  have cp1 : cnt putU us ≤ cnt putU (us ++ [u]) ∧ cnt putU (us ++ [u]) ≤ cnt putU us + 1 := by rw [cp]; split <;> omega
  have ca1 : cnt allU us ≤ cnt allU (us ++ [u]) ∧ cnt allU (us ++ [u]) ≤ cnt allU us + 1 := by rw [ca]; split <;> omega
  have hbk := bk_bd c.mp (cnt putU us : Nat)
  refine body_Enough _ (fun h => p_shown) c e us u seats hs A B' D' f hh ii
    (fun h hl hs2 => by rw [p_For (d := d + 7) c e us seats ⟨hs, by omega⟩ (by omega) hf h1 h2, eA])
    (fun h hl hs2 => by rw [p_For (d := d + 7) c e (us ++ [u]) seats ⟨hs, by omega⟩ (by simp; omega) hf h1 h2, eB])
    (fun h hl hs2 => by rw [p_For (d := d + 7) c e us (seats + 1) ⟨by omega, by omega⟩ (by omega) hf h1 h2, eD])
    (fun h hf0 => ?_) (fun hf0 => ?_) (fun hf0 => ?_) (fun hf0 hh0 => ?_) (fun hf0 hi0 => ?_)
  · rcases hA with ⟨_, hm, hn, eA'⟩ | ⟨hx, _⟩
    · have k1 : 0 ≤ c.mp ∧ c.mp ≤ 8 := hm.maps
      have k2 : 0 ≤ c.ch ∧ c.ch ≤ 8 := hm.chans
      have k0 : 1 ≤ seats ∧ seats ≤ 8 := hm.seats
      have hx : 1 * c.mp ≤ bkF c.mp (cnt putU us : Nat) * c.mp := Int.mul_le_mul_of_nonneg_right hbk.1 k1.1
      have ok : OkC A := by
        rw [eA']
        refine ⟨⟨hm.seats, hm.buckets, hm.slots, hm.tasks, hm.cells, hm.maps, hm.stacks, hm.chans, hm.two⟩, ?_, hn⟩
        show c.mp + c.ch ≤ ndF c seats (cnt putU us : Nat) (cnt allU us : Nat)
        unfold ndF
        omega
      rw [p_ROf (d := d + 7), ofV, if_pos ok]
    · exact absurd hf0 hx
  · rcases hA with ⟨hx, _⟩ | ⟨_, h⟩
    · exact absurd hx hf0
    · exact h
  · rcases hA with ⟨_, hm, hn, eA'⟩ | ⟨hx, _⟩
    · have k1 : 0 ≤ c.mp ∧ c.mp ≤ 8 := hm.maps
      have k2 : 0 ≤ c.ch ∧ c.ch ≤ 8 := hm.chans
      have k0 : 1 ≤ seats ∧ seats ≤ 8 := hm.seats
      have k3 : 1 ≤ (seats + 1).tdiv 2 ∧ (seats + 1).tdiv 2 ≤ 8 := hm.slots
      have hmm : 0 ≤ bkF c.mp (cnt putU us : Nat) * c.mp ∧ bkF c.mp (cnt putU us : Nat) * c.mp ≤ 64 * 8 := ⟨Int.mul_nonneg (by omega) (by omega), Int.mul_le_mul (by omega) (by omega) (by omega) (by omega)⟩
      rw [eA']
      refine ⟨k0, ⟨?_, hn⟩, ⟨?_, ?_⟩, hmm.1, ?_⟩
      · show 0 ≤ ndF c seats (cnt putU us : Nat) (cnt allU us : Nat)
        unfold ndF; omega
      · show 0 ≤ (seats + 1).tdiv 2; omega
      · show (seats + 1).tdiv 2 ≤ 8; omega
      · show bkF c.mp (cnt putU us : Nat) * c.mp ≤ 512; omega
    · exact absurd hf0 hx
  · rcases hA with ⟨_, hm, hn, eA'⟩ | ⟨hx, _⟩
    · rcases hB with ⟨_, hm', hn', eB'⟩ | ⟨hx, _⟩
      · have k1 : 0 ≤ c.mp ∧ c.mp ≤ 8 := hm.maps
        have m1 := bk_up (m := c.mp) (p := (cnt putU us : Nat)) (q := (cnt putU (us ++ [u]) : Nat)) (by omega)
        have m2 := bk_two (m := c.mp) (p := (cnt putU us : Nat)) (q := (cnt putU (us ++ [u]) : Nat)) (by omega)
        have n1 := Int.mul_le_mul_of_nonneg_right m1 k1.1
        have n2 := Int.mul_le_mul_of_nonneg_right m2 k1.1
        rw [Int.mul_assoc] at n2
        rw [eA', eB']
        refine ⟨?_, m1, rfl, ?_⟩
        · show ndF c seats (cnt putU us : Nat) (cnt allU us : Nat) ≤ ndF c seats (cnt putU (us ++ [u]) : Nat) (cnt allU (us ++ [u]) : Nat)
          unfold ndF; omega
        · show ndF c seats (cnt putU (us ++ [u]) : Nat) (cnt allU (us ++ [u]) : Nat) ≤ ndF c seats (cnt putU us : Nat) (cnt allU us : Nat) + 1 + bkF c.mp (cnt putU us : Nat) * c.mp
          unfold ndF; omega
      · exact absurd hh0 hx
    · exact absurd hf0 hx
  · rcases hA with ⟨_, hm, hn, eA'⟩ | ⟨hx, _⟩
    · rcases hD with ⟨_, hm', hn', eD'⟩ | ⟨hx, _⟩
      · have k0 : 1 ≤ seats ∧ seats ≤ 8 := hm.seats
        rw [eA', eD']
        refine ⟨?_, ?_, rfl⟩
        · show ndF c (seats + 1) (cnt putU us : Nat) (cnt allU us : Nat) = ndF c seats (cnt putU us : Nat) (cnt allU us : Nat) + 8
          unfold ndF; omega
        · show (seats + 1 + 1).tdiv 2 + (seats + 1).tdiv 2 = seats + 1
          rw [Int.tdiv_eq_ediv_of_nonneg (by omega), Int.tdiv_eq_ediv_of_nonneg (by omega)]; omega
      · exact absurd hi0 hx
    · exact absurd hf0 hx
end Go.D.Layout
