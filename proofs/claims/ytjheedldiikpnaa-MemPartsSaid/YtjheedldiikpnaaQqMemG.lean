/- What the reference's 'All' computes. -/
import Derived.Test.YtjheedldiikpnaaQqMemF
set_option linter.unusedSimpArgs false
set_option linter.unusedVariables false
namespace Go.D.Mem
open Go.D
set_option maxRecDepth 10000
variable {d : Nat} {h : Heap}
set_option maxHeartbeats 1000000

def QRAll (h : Heap) (v0 v1 v7 v8 : DV) (m fm : List Int) (ft : List (Int × Bool)) (fe : Int) : Ex → Prop
  | .exit i s => i = 0 ∧ fe = 0 ∧ ∃ y5 y6 y9 y10 y11 y12, s = ⟨[v0, v1, .box [.sl .view 1 (ints m)], .box [.sl .full 1 []], .box [.sl .view 1 (ints fm)], y5, y6, v7, v8, y9, y10, y11, y12, .sl (tm ft) 2 (ress ft)], [], h⟩
  | .ret s => fe ≠ 0 ∧ ∃ y0 y1 y2 y4 y5 y6 y9 y10 y11 y12 y13, s = ⟨[y0, y1, y2, .box [.sl .view 1 (ints m)], y4, y5, y6, .sl .full 2 [], I fe, y9, y10, y11, y12, y13], [], h⟩
  | _ => False

theorem loop_RAll (ev : FuncId → List DV → Heap → Res DV) (q : ∀ h (l : List Int) (a : A4), l.length ≤ 100000 → callP ev 12 [.agg [.sl .view 1 (ints l)], .agg [I a.1, I a.2.1, I a.2.2.1, I a.2.2.2]] h = .ok (.tup [.agg [.sl .view 1 (ints (stepA l a).1)], .agg [I (stepA l a).2.1.1, B (stepA l a).2.1.2], I (stepA l a).2.2]) h)
    (m : List Int) (as : List A4) (ma : Mode) (has : as.length ≤ 100000) (v0 v7 v8 : DV) (hv0 : ∀ p, isLref v0 p = false) (hv7 : ∀ p, isLref v7 p = false) (hv8 : ∀ p, isLref v8 p = false)
    (fm : List Int) (ft : List (Int × Bool)) (fe : Int) : ∀ n k, k ≤ as.length → as.length - k < n → ∀ (cur : List Int) (told : List (Int × Bool)) (x5 x6 x9 x10 x12 : DV),
    cur.length ≤ 100000 → told.length ≤ k → (∀ p, isLref x5 p = false) → (∀ p, isLref x6 p = false) → (∀ p, isLref x9 p = false) → (∀ p, isLref x10 p = false) → (∀ p, isLref x12 p = false) →
    fe = (runA cur (as.drop k)).2.2 → (fe = 0 → fm = (runA cur (as.drop k)).1 ∧ ft = told ++ (runA cur (as.drop k)).2.1) →
    QRAll h v0 (.sl ma 4 (accs as)) v7 v8 m fm ft fe (iter (evalC ev NN ir18_l0) n ⟨[v0, .sl ma 4 (accs as), .box [.sl .view 1 (ints m)], .box [.sl .full 1 []], .box [.sl .view 1 (ints cur)], x5, x6, v7, v8, x9, x10, I k, x12, .sl (tm told) 2 (ress told)], [], h⟩) := by
  intro n
  induction n with
  | zero => intro k _ h2; omega
  | succ n ih =>
    intro k hk hn cur told x5 x6 x9 x10 x12 hcur htold h5 h6 h9 h10 h12 hfe hfm
    by_cases hlt : k < as.length
    · obtain ⟨a, hx⟩ : ∃ a, as[k]? = some a := ⟨_, List.getElem?_eq_getElem hlt⟩
      have hlt' : (k : Int) < (as.length : Int) := by omega
      replace q := q h cur a hcur
      rw [drop_at hx, runA] at hfe hfm
      have hroom : (told.length + 1) * 17 ≤ room := by simp only [room]; omega
      have hr0 : 17 ≤ room := by decide
      by_cases he : (stepA cur a).2.2 = 0
      · rw [if_pos he] at hfe hfm
        have e := ih (k + 1) (by omega) (by omega) (stepA cur a).1 (told ++ [(stepA cur a).2.1])
          (.box [.sl .view 1 (ints (stepA cur a).1)]) (.box [I (stepA cur a).2.1.1, B (stepA cur a).2.1.2]) (B true) (B false) (I (stepA cur a).2.2)
          (by unfold stepA; rw [step_len]; exact hcur) (by simp; omega) (fun _ => rfl) (fun _ => rfl) (fun _ => rfl) (fun _ => rfl) (fun _ => rfl) hfe (fun h0 => ⟨(hfm h0).1, by rw [(hfm h0).2]; simp⟩)
        rw [tm_app, he] at e
        refine cast (congrArg _ ?_) e
        cases told with
        | nil => simp -implicitDefEqProofs only [iter, ir18_l0, tm, hlt', hx, q, he, hv0, hv7, hv8, h5, h6, h9, h10, h12, hroom, hr0, wrap_succ (show k < 4611686018427387904 by omega), go_sem, Nat.reduceAdd, Nat.reduceMul, Nat.reduceSub, Nat.reduceLeDiff, Nat.reduceEqDiff, Nat.reduceBEq, Nat.reduceLT, Int.reduceLE, Int.reduceLT, Int.reduceEq, Int.reduceNeg, Int.reduceAdd, Int.reduceMul, Int.reduceSub, Int.reduceToNat, reduceCtorEq, reduceIte]
        | cons t told =>
          simp only [List.length_cons] at hroom
          simp -implicitDefEqProofs only [iter, ir18_l0, tm, hlt', hx, q, he, hv0, hv7, hv8, h5, h6, h9, h10, h12, hroom, hr0, wrap_succ (show k < 4611686018427387904 by omega), go_sem, Nat.reduceAdd, Nat.reduceMul, Nat.reduceSub, Nat.reduceLeDiff, Nat.reduceEqDiff, Nat.reduceBEq, Nat.reduceLT, Int.reduceLE, Int.reduceLT, Int.reduceEq, Int.reduceNeg, Int.reduceAdd, Int.reduceMul, Int.reduceSub, Int.reduceToNat, reduceCtorEq, reduceIte]
      · rw [if_neg he] at hfe
        simp only at hfe
        subst hfe
        cases told with
        | nil => simp -implicitDefEqProofs only [iter, ir18_l0, tm, hlt', hx, q, he, hv0, hv7, hv8, h5, h6, h9, h10, h12, hroom, hr0, go_sem, Nat.reduceAdd, Nat.reduceMul, Nat.reduceSub, Nat.reduceLeDiff, Nat.reduceEqDiff, Nat.reduceBEq, Nat.reduceLT, Int.reduceLE, Int.reduceLT, Int.reduceEq, Int.reduceNeg, Int.reduceAdd, Int.reduceMul, Int.reduceSub, Int.reduceToNat, reduceCtorEq, reduceIte]; exact ⟨he, _, _, _, _, _, _, _, _, _, _, _, rfl⟩
        | cons t told => simp -implicitDefEqProofs only [iter, ir18_l0, tm, hlt', hx, q, he, hv0, hv7, hv8, h5, h6, h9, h10, h12, hroom, hr0, go_sem, Nat.reduceAdd, Nat.reduceMul, Nat.reduceSub, Nat.reduceLeDiff, Nat.reduceEqDiff, Nat.reduceBEq, Nat.reduceLT, Int.reduceLE, Int.reduceLT, Int.reduceEq, Int.reduceNeg, Int.reduceAdd, Int.reduceMul, Int.reduceSub, Int.reduceToNat, reduceCtorEq, reduceIte]; exact ⟨he, _, _, _, _, _, _, _, _, _, _, _, rfl⟩
    · have hka : k = as.length := by omega
      subst hka
      have hlt' : ¬ ((as.length : Nat) : Int) < (as.length : Int) := by omega
      rw [List.drop_length, runA] at hfe hfm
      obtain ⟨e1, e2⟩ := hfm hfe
      simp only [List.append_nil] at e1 e2 hfe
      subst e1 e2 hfe
      simp -implicitDefEqProofs only [iter, ir18_l0, hlt', go_sem, Nat.reduceAdd, Nat.reduceMul, Nat.reduceSub, Nat.reduceLeDiff, Nat.reduceEqDiff, Nat.reduceBEq, Nat.reduceLT, Int.reduceLE, Int.reduceLT, Int.reduceEq, Int.reduceNeg, Int.reduceAdd, Int.reduceMul, Int.reduceSub, Int.reduceToNat, reduceCtorEq, reduceIte]
      exact ⟨rfl, rfl, _, _, _, _, _, _, rfl⟩

theorem body_RAll (ev : FuncId → List DV → Heap → Res DV) (q : ∀ h (l : List Int) (a : A4), l.length ≤ 100000 → callP ev 12 [.agg [.sl .view 1 (ints l)], .agg [I a.1, I a.2.1, I a.2.2.1, I a.2.2.2]] h = .ok (.tup [.agg [.sl .view 1 (ints (stepA l a).1)], .agg [I (stepA l a).2.1.1, B (stepA l a).2.1.2], I (stepA l a).2.2]) h)
    (m : List Int) (as : List A4) (ma : Mode) (hm : m.length ≤ 100000) (has : as.length ≤ 90000) : evalF ev NN ir18 [.agg [.sl .view 1 (ints m)], .sl ma 4 (accs as)] [] =
    .ok (.tup [.agg [.sl .view 1 (ints (allOf m as).1)], .sl (tm (allOf m as).2.1) 2 (ress (allOf m as).2.1), I (allOf m as).2.2]) [] := by
  have e := loop_RAll (h := []) ev q m as ma (by omega) (.agg [.sl .view 1 (ints m)]) (.sl .full 2 []) (.sc (.int .i64 0)) (fun _ => rfl) (fun _ => rfl) (fun _ => rfl)
    (runA m as).1 (runA m as).2.1 (runA m as).2.2 NN 0 (by omega) (by unfold NN; omega)
    m [] .junk .junk .junk .junk .junk hm (by simp) (fun _ => rfl) (fun _ => rfl) (fun _ => rfl) (fun _ => rfl) (fun _ => rfl) rfl (fun _ => ⟨rfl, rfl⟩)
  simp -implicitDefEqProofs only [tm, ress, List.map_nil, go_sem, Nat.reduceAdd, Nat.reduceMul, Nat.reduceSub, Nat.reduceLeDiff, Nat.reduceEqDiff, Nat.reduceBEq, Nat.reduceLT, Int.reduceLE, Int.reduceLT, Int.reduceEq, Int.reduceNeg, Int.reduceAdd, Int.reduceMul, Int.reduceSub, Int.reduceToNat, reduceCtorEq, reduceIte] at e
  simp -implicitDefEqProofs only [ir18, go_sem, Nat.reduceAdd, Nat.reduceMul, Nat.reduceSub, Nat.reduceLeDiff, Nat.reduceEqDiff, Nat.reduceBEq, Nat.reduceLT, Int.reduceLE, Int.reduceLT, Int.reduceEq, Int.reduceNeg, Int.reduceAdd, Int.reduceMul, Int.reduceSub, Int.reduceToNat, reduceCtorEq, reduceIte]
  revert e
  generalize iter _ _ _ = E
  intro e
  cases E with
  | exit i s =>
    obtain ⟨rfl, he, y5, y6, y9, y10, y11, y12, rfl⟩ := e
    have ea : allOf m as = runA m as := by simp [allOf, he]
    rw [ea, he]
    cases hq : (runA m as).2.1 with
    | nil => simp -implicitDefEqProofs only [tm, go_sem, Nat.reduceAdd, Nat.reduceMul, Nat.reduceSub, Nat.reduceLeDiff, Nat.reduceEqDiff, Nat.reduceBEq, Nat.reduceLT, Int.reduceLE, Int.reduceLT, Int.reduceEq, Int.reduceNeg, Int.reduceAdd, Int.reduceMul, Int.reduceSub, Int.reduceToNat, reduceCtorEq, reduceIte]
    | cons t told => simp -implicitDefEqProofs only [tm, go_sem, Nat.reduceAdd, Nat.reduceMul, Nat.reduceSub, Nat.reduceLeDiff, Nat.reduceEqDiff, Nat.reduceBEq, Nat.reduceLT, Int.reduceLE, Int.reduceLT, Int.reduceEq, Int.reduceNeg, Int.reduceAdd, Int.reduceMul, Int.reduceSub, Int.reduceToNat, reduceCtorEq, reduceIte]
  | ret s =>
    obtain ⟨he, y0, y1, y2, y4, y5, y6, y9, y10, y11, y12, y13, rfl⟩ := e
    have ea : allOf m as = (m, [], (runA m as).2.2) := by simp [allOf, he]
    rw [ea]
    simp -implicitDefEqProofs only [tm, go_sem, Nat.reduceAdd, Nat.reduceMul, Nat.reduceSub, Nat.reduceLeDiff, Nat.reduceEqDiff, Nat.reduceBEq, Nat.reduceLT, Int.reduceLE, Int.reduceLT, Int.reduceEq, Int.reduceNeg, Int.reduceAdd, Int.reduceMul, Int.reduceSub, Int.reduceToNat, reduceCtorEq, reduceIte]
    rfl
  | norm s => exact e.elim
  | pan v h => exact e.elim
  | no => exact e.elim

theorem p_refAll (m : List Int) (as : List A4) (ma : Mode) (hm : m.length ≤ 100000) (has : as.length ≤ 90000) : callP (evalCall fns NN (d + 3)) 18 [.agg [.sl .view 1 (ints m)], .sl ma 4 (accs as)] h =
    .ok (.tup [.agg [.sl .view 1 (ints (allOf m as).1)], .sl (tm (allOf m as).2.1) 2 (ress (allOf m as).2.1), I (allOf m as).2.2]) h := by
  refine callP_of (v := .tup [.agg [.sl .view 1 (ints (allOf m as).1)], .sl (tm (allOf m as).2.1) 2 (ress (allOf m as).2.1), I (allOf m as).2.2]) (h' := []) (by simp -implicitDefEqProofs only [go_sem, Nat.reduceAdd, Nat.reduceMul, Nat.reduceSub, Nat.reduceLeDiff, Nat.reduceEqDiff, Nat.reduceBEq, Nat.reduceLT, Int.reduceLE, Int.reduceLT, Int.reduceEq, Int.reduceNeg, Int.reduceAdd, Int.reduceMul, Int.reduceSub, Int.reduceToNat, reduceCtorEq, reduceIte]) rfl ?_ (by simp -implicitDefEqProofs only [go_sem, Nat.reduceAdd, Nat.reduceMul, Nat.reduceSub, Nat.reduceLeDiff, Nat.reduceEqDiff, Nat.reduceBEq, Nat.reduceLT, Int.reduceLE, Int.reduceLT, Int.reduceEq, Int.reduceNeg, Int.reduceAdd, Int.reduceMul, Int.reduceSub, Int.reduceToNat, reduceCtorEq, reduceIte])
  rw [call_eq rfl]
  exact body_RAll _ (fun h l a hl => p_refDo l a hl) m as ma hm has
end Go.D.Mem
