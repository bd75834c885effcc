/- What the functions of 'mem' compute: accesses, one behind the other. -/
import Derived.Test.YtjheedldiikpnaaQqMemB
import Derived.Test.YtjheedldiikpnaaQqMemC
set_option linter.unusedSimpArgs false
set_option linter.unusedVariables false
namespace Go.D.Mem
open Go.D
set_option maxRecDepth 10000
variable {d : Nat} {h : Heap}
set_option maxHeartbeats 4000000

abbrev A4 := Int × Int × Int × Int
def accD (a : A4) : DV := acc a.1 a.2.1 a.2.2.1 a.2.2.2
def accs (l : List A4) : List DV := l.map accD
theorem len_accs (l : List A4) : (accs l).length = l.length := by simp [accs]
theorem get_accs (l : List A4) (i : Nat) : (accs l)[i]? = (l[i]?).map fun a => .agg [I a.1, I a.2.1, I a.2.2.1, I a.2.2.2] := by simp only [accs, List.getElem?_map]; rfl
theorem strip_accs (l : List A4) : stripL (accs l) = accs l := stripL_map _ (fun _ => rfl) l
theorem free_accs (l : List A4) : freeL (accs l) = true := freeL_map _ (fun _ => rfl) l
attribute [go_sem] len_accs get_accs strip_accs free_accs

def stepA (l : List Int) (a : A4) := step l a.1 a.2.1 a.2.2.1 a.2.2.2
def runA : List Int → List A4 → List Int × List (Int × Bool) × Int
  | l, [] => (l, [], 0)
  | l, a :: as => if (stepA l a).2.2 = 0 then ((runA (stepA l a).1 as).1, (stepA l a).2.1 :: (runA (stepA l a).1 as).2.1, (runA (stepA l a).1 as).2.2) else (l, [], (stepA l a).2.2)
def tm {α : Type} : List α → Mode
  | [] => .full
  | _ => .own
theorem tm_app {α : Type} (l : List α) (x : α) : tm (l ++ [x]) = .own := by cases l <;> rfl

theorem step_len (l : List Int) (k c o n : Int) : (step l k c o n).1.length = l.length := by
  unfold step
  split
  · split <;> simp
  · rfl

theorem p_Do' (l : List Int) (a : A4) (hl : l.length ≤ 100000) : callP (evalCall fns NN (d + 2)) 11 [.agg [.sl .view 1 (ints l)], .agg [I a.1, I a.2.1, I a.2.2.1, I a.2.2.2]] h =
    .ok (.tup [.agg [.sl .view 1 (ints (stepA l a).1)], .agg [I (stepA l a).2.1.1, B (stepA l a).2.1.2], I (stepA l a).2.2]) h := p_Do l _ _ _ _ hl

/-- What the loop of 'All' ends with. -/
def QAll (h : Heap) (v0 v1 v8 v9 : DV) (m fm : List Int) (ft : List (Int × Bool)) (fe : Int) : Ex → Prop
  | .exit i s => i = 0 ∧ fe = 0 ∧ ∃ y5 y6 y7 y10 y11 y12 y13 y14 y15, s = ⟨[v0, v1, .box [.sl .view 1 (ints m)], .box [.sl .full 1 []], .box [.sl .view 1 (ints fm)], y5, y6, y7, v8, v9, y10, y11, y12, y13, y14, y15, .sl (tm ft) 2 (ress ft)], [], h⟩
  | .ret s => fe ≠ 0 ∧ ∃ y0 y1 y2 y4 y5 y6 y7 y10 y11 y12 y13 y14 y15 y16, s = ⟨[y0, y1, y2, .box [.sl .view 1 (ints m)], y4, y5, y6, y7, .sl .full 2 [], I fe, y10, y11, y12, y13, y14, y15, y16], [], h⟩
  | _ => False

theorem drop_at {α : Type} {l : List α} {k : Nat} {x : α} (hx : l[k]? = some x) : l.drop k = x :: l.drop (k + 1) := by
  have hlt := (List.getElem?_eq_some_iff.1 hx).1
  rw [List.drop_eq_getElem_cons hlt]
  congr 1
  exact (List.getElem?_eq_some_iff.1 hx).2

theorem loop_All (d : Nat) (m : List Int) (as : List A4) (ma : Mode) (has : as.length ≤ 100000) (v0 v1 v8 v9 : DV) (hv0 : ∀ p, isLref v0 p = false) (hv1 : ∀ p, isLref v1 p = false) (hv8 : ∀ p, isLref v8 p = false) (hv9 : ∀ p, isLref v9 p = false)
    (fm : List Int) (ft : List (Int × Bool)) (fe : Int) : ∀ n k, k ≤ as.length → as.length - k < n → ∀ (cur : List Int) (told : List (Int × Bool)) (x5 x6 x7 x10 x11 x15 : DV),
    cur.length ≤ 100000 → told.length ≤ k → (∀ p, isLref x5 p = false) → (∀ p, isLref x6 p = false) → (∀ p, isLref x7 p = false) → (∀ p, isLref x10 p = false) → (∀ p, isLref x11 p = false) → (∀ p, isLref x15 p = false) →
    fe = (runA cur (as.drop k)).2.2 → (fe = 0 → fm = (runA cur (as.drop k)).1 ∧ ft = told ++ (runA cur (as.drop k)).2.1) →
    QAll h v0 v1 v8 v9 m fm ft fe (iter (evalC (evalCall fns NN (d + 2)) NN ir17_l0) n ⟨[v0, v1, .box [.sl .view 1 (ints m)], .box [.sl .full 1 []], .box [.sl .view 1 (ints cur)], x5, x6, x7, v8, v9, x10, x11, I k, I as.length, .sl ma 4 (accs as), x15, .sl (tm told) 2 (ress told)], [], h⟩) := by
  intro n
  induction n with
  | zero => intro k _ h2; omega
  | succ n ih =>
    intro k hk hn cur told x5 x6 x7 x10 x11 x15 hcur htold h5 h6 h7 h10 h11 h15 hfe hfm
    by_cases hlt : k < as.length
    · obtain ⟨a, hx⟩ : ∃ a, as[k]? = some a := ⟨_, List.getElem?_eq_getElem hlt⟩
      have hlt' : (k : Int) < (as.length : Int) := by omega
      have q := p_Do' (d := d) (h := h) cur a hcur
      rw [drop_at hx, runA] at hfe hfm
      have hroom : (told.length + 1) * 17 ≤ room := by simp only [room]; omega
      have hr0 : 17 ≤ room := by decide
      by_cases he : (stepA cur a).2.2 = 0
      · rw [if_pos he] at hfe hfm
        have e := ih (k + 1) (by omega) (by omega) (stepA cur a).1 (told ++ [(stepA cur a).2.1])
          (.box [I a.1, I a.2.1, I a.2.2.1, I a.2.2.2]) (.box [.sl .view 1 (ints (stepA cur a).1)]) (.box [I (stepA cur a).2.1.1, B (stepA cur a).2.1.2]) (B true) (B false) (I (stepA cur a).2.2)
          (by unfold stepA; rw [step_len]; exact hcur) (by simp; omega) (fun _ => rfl) (fun _ => rfl) (fun _ => rfl) (fun _ => rfl) (fun _ => rfl) (fun _ => rfl) hfe (fun h0 => ⟨(hfm h0).1, by rw [(hfm h0).2]; simp⟩)
        rw [tm_app, he] at e
        refine cast (congrArg _ ?_) e
        cases told with
        | nil => simp -implicitDefEqProofs only [iter, ir17_l0, tm, hlt', hx, q, he, hv0, hv1, hv8, hv9, h5, h6, h7, h10, h11, h15, hroom, hr0, wrap_succ (show k < 4611686018427387904 by omega), go_sem, Nat.reduceAdd, Nat.reduceMul, Nat.reduceSub, Nat.reduceLeDiff, Nat.reduceEqDiff, Nat.reduceBEq, Nat.reduceLT, Int.reduceLE, Int.reduceLT, Int.reduceEq, Int.reduceNeg, Int.reduceAdd, Int.reduceMul, Int.reduceSub, Int.reduceToNat, reduceCtorEq, reduceIte]
        | cons t told =>
          simp only [List.length_cons] at hroom
          simp -implicitDefEqProofs only [iter, ir17_l0, tm, hlt', hx, q, he, hv0, hv1, hv8, hv9, h5, h6, h7, h10, h11, h15, hroom, hr0, wrap_succ (show k < 4611686018427387904 by omega), go_sem, Nat.reduceAdd, Nat.reduceMul, Nat.reduceSub, Nat.reduceLeDiff, Nat.reduceEqDiff, Nat.reduceBEq, Nat.reduceLT, Int.reduceLE, Int.reduceLT, Int.reduceEq, Int.reduceNeg, Int.reduceAdd, Int.reduceMul, Int.reduceSub, Int.reduceToNat, reduceCtorEq, reduceIte]
      · rw [if_neg he] at hfe
        simp only at hfe
        subst hfe
        cases told with
        | nil => simp -implicitDefEqProofs only [iter, ir17_l0, tm, hlt', hx, q, he, hv0, hv1, hv8, hv9, h5, h6, h7, h10, h11, h15, hroom, hr0, go_sem, Nat.reduceAdd, Nat.reduceMul, Nat.reduceSub, Nat.reduceLeDiff, Nat.reduceEqDiff, Nat.reduceBEq, Nat.reduceLT, Int.reduceLE, Int.reduceLT, Int.reduceEq, Int.reduceNeg, Int.reduceAdd, Int.reduceMul, Int.reduceSub, Int.reduceToNat, reduceCtorEq, reduceIte]; exact ⟨he, _, _, _, _, _, _, _, _, _, _, _, _, _, _, rfl⟩
        | cons t told => simp -implicitDefEqProofs only [iter, ir17_l0, tm, hlt', hx, q, he, hv0, hv1, hv8, hv9, h5, h6, h7, h10, h11, h15, hroom, hr0, go_sem, Nat.reduceAdd, Nat.reduceMul, Nat.reduceSub, Nat.reduceLeDiff, Nat.reduceEqDiff, Nat.reduceBEq, Nat.reduceLT, Int.reduceLE, Int.reduceLT, Int.reduceEq, Int.reduceNeg, Int.reduceAdd, Int.reduceMul, Int.reduceSub, Int.reduceToNat, reduceCtorEq, reduceIte]; exact ⟨he, _, _, _, _, _, _, _, _, _, _, _, _, _, _, rfl⟩
    · have hka : k = as.length := by omega
      subst hka
      have hlt' : ¬ ((as.length : Nat) : Int) < (as.length : Int) := by omega
      rw [List.drop_length, runA] at hfe hfm
      obtain ⟨e1, e2⟩ := hfm hfe
      simp only [List.append_nil] at e1 e2 hfe
      subst e1 e2 hfe
      simp -implicitDefEqProofs only [iter, ir17_l0, hlt', go_sem, Nat.reduceAdd, Nat.reduceMul, Nat.reduceSub, Nat.reduceLeDiff, Nat.reduceEqDiff, Nat.reduceBEq, Nat.reduceLT, Int.reduceLE, Int.reduceLT, Int.reduceEq, Int.reduceNeg, Int.reduceAdd, Int.reduceMul, Int.reduceSub, Int.reduceToNat, reduceCtorEq, reduceIte]
      exact ⟨rfl, rfl, _, _, _, _, _, _, _, _, _, rfl⟩

def allOf (l : List Int) (as : List A4) : List Int × List (Int × Bool) × Int :=
  if (runA l as).2.2 = 0 then runA l as else (l, [], (runA l as).2.2)

theorem p_memAll (m : List Int) (as : List A4) (ma : Mode) (hm : m.length ≤ 100000) (has : as.length ≤ 90000) : callP (evalCall fns NN (d + 3)) 17 [.agg [.sl .view 1 (ints m)], .sl ma 4 (accs as)] h =
    .ok (.tup [.agg [.sl .view 1 (ints (allOf m as).1)], .sl (tm (allOf m as).2.1) 2 (ress (allOf m as).2.1), I (allOf m as).2.2]) h := by
  refine callP_of (v := .tup [.agg [.sl .view 1 (ints (allOf m as).1)], .sl (tm (allOf m as).2.1) 2 (ress (allOf m as).2.1), I (allOf m as).2.2]) (h' := []) (by simp -implicitDefEqProofs only [go_sem, Nat.reduceAdd, Nat.reduceMul, Nat.reduceSub, Nat.reduceLeDiff, Nat.reduceEqDiff, Nat.reduceBEq, Nat.reduceLT, Int.reduceLE, Int.reduceLT, Int.reduceEq, Int.reduceNeg, Int.reduceAdd, Int.reduceMul, Int.reduceSub, Int.reduceToNat, reduceCtorEq, reduceIte]) rfl ?_ (by simp -implicitDefEqProofs only [go_sem, Nat.reduceAdd, Nat.reduceMul, Nat.reduceSub, Nat.reduceLeDiff, Nat.reduceEqDiff, Nat.reduceBEq, Nat.reduceLT, Int.reduceLE, Int.reduceLT, Int.reduceEq, Int.reduceNeg, Int.reduceAdd, Int.reduceMul, Int.reduceSub, Int.reduceToNat, reduceCtorEq, reduceIte])
  rw [call_eq rfl]
  have e := loop_All (h := []) d m as ma (by omega) (.agg [.sl .view 1 (ints m)]) (.sl (vm ma) 4 (accs as)) (.sl .full 2 []) (.sc (.int .i64 0)) (fun _ => rfl) (fun _ => rfl) (fun _ => rfl) (fun _ => rfl)
    (runA m as).1 (runA m as).2.1 (runA m as).2.2 NN 0 (by omega) (by unfold NN; omega)
    m [] .junk .junk .junk .junk .junk .junk hm (by simp) (fun _ => rfl) (fun _ => rfl) (fun _ => rfl) (fun _ => rfl) (fun _ => rfl) (fun _ => rfl) rfl (fun _ => ⟨rfl, rfl⟩)
  simp -implicitDefEqProofs only [tm, ress, List.map_nil, go_sem, Nat.reduceAdd, Nat.reduceMul, Nat.reduceSub, Nat.reduceLeDiff, Nat.reduceEqDiff, Nat.reduceBEq, Nat.reduceLT, Int.reduceLE, Int.reduceLT, Int.reduceEq, Int.reduceNeg, Int.reduceAdd, Int.reduceMul, Int.reduceSub, Int.reduceToNat, reduceCtorEq, reduceIte] at e
  simp -implicitDefEqProofs only [ir17, go_sem, Nat.reduceAdd, Nat.reduceMul, Nat.reduceSub, Nat.reduceLeDiff, Nat.reduceEqDiff, Nat.reduceBEq, Nat.reduceLT, Int.reduceLE, Int.reduceLT, Int.reduceEq, Int.reduceNeg, Int.reduceAdd, Int.reduceMul, Int.reduceSub, Int.reduceToNat, reduceCtorEq, reduceIte]
  revert e
  generalize iter _ _ _ = E
  intro e
  cases E with
  | exit i s =>
    obtain ⟨rfl, he, y5, y6, y7, y10, y11, y12, y13, y14, y15, rfl⟩ := e
    have ea : allOf m as = runA m as := by simp [allOf, he]
    rw [ea, he]
    cases hq : (runA m as).2.1 with
    | nil => simp -implicitDefEqProofs only [tm, go_sem, Nat.reduceAdd, Nat.reduceMul, Nat.reduceSub, Nat.reduceLeDiff, Nat.reduceEqDiff, Nat.reduceBEq, Nat.reduceLT, Int.reduceLE, Int.reduceLT, Int.reduceEq, Int.reduceNeg, Int.reduceAdd, Int.reduceMul, Int.reduceSub, Int.reduceToNat, reduceCtorEq, reduceIte]
    | cons t told => simp -implicitDefEqProofs only [tm, go_sem, Nat.reduceAdd, Nat.reduceMul, Nat.reduceSub, Nat.reduceLeDiff, Nat.reduceEqDiff, Nat.reduceBEq, Nat.reduceLT, Int.reduceLE, Int.reduceLT, Int.reduceEq, Int.reduceNeg, Int.reduceAdd, Int.reduceMul, Int.reduceSub, Int.reduceToNat, reduceCtorEq, reduceIte]
  | ret s =>
    obtain ⟨he, y0, y1, y2, y4, y5, y6, y7, y10, y11, y12, y13, y14, y15, y16, rfl⟩ := e
    have ea : allOf m as = (m, [], (runA m as).2.2) := by simp [allOf, he]
    rw [ea]
    simp -implicitDefEqProofs only [tm, go_sem, Nat.reduceAdd, Nat.reduceMul, Nat.reduceSub, Nat.reduceLeDiff, Nat.reduceEqDiff, Nat.reduceBEq, Nat.reduceLT, Int.reduceLE, Int.reduceLT, Int.reduceEq, Int.reduceNeg, Int.reduceAdd, Int.reduceMul, Int.reduceSub, Int.reduceToNat, reduceCtorEq, reduceIte]
    rfl
  | norm s => exact e.elim
  | pan v h => exact e.elim
  | no => exact e.elim
end Go.D.Mem
