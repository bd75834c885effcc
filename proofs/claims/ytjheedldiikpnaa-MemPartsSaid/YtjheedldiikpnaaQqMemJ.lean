/- The law MemParts of 'mem', in the evaluator. -/
import Derived.Test.YtjheedldiikpnaaQqMemH
import Derived.Test.YtjheedldiikpnaaQqSymB
set_option linter.unusedSimpArgs false
set_option linter.unusedVariables false
namespace Go.D.Mem
open Go.D
set_option maxRecDepth 10000
variable {d : Nat} {h : Heap}
set_option maxHeartbeats 1000000

theorem runA_app : ∀ (l1 l2 : List A4) (m : List Int), runA m (l1 ++ l2) = if (runA m l1).2.2 = 0 then ((runA (runA m l1).1 l2).1, (runA m l1).2.1 ++ (runA (runA m l1).1 l2).2.1, (runA (runA m l1).1 l2).2.2) else runA m l1
  | [], l2, m => by simp [runA]
  | a :: l1, l2, m => by
    simp only [List.cons_append, runA]
    by_cases he : (stepA m a).2.2 = 0
    · simp only [he, if_true]
      rw [runA_app l1 l2]
      split
      · simp
      · rfl
    · simp [he]
theorem parts_plain (l1 l2 : List A4) (m : List Int) : ((allOf m l1).2.2 ≠ 0 → (allOf m (l1 ++ l2)).2.2 = (allOf m l1).2.2) ∧
    ((allOf m l1).2.2 = 0 → (allOf (allOf m l1).1 l2).2.2 ≠ 0 → (allOf m (l1 ++ l2)).2.2 = (allOf (allOf m l1).1 l2).2.2) ∧
    ((allOf m l1).2.2 = 0 → (allOf (allOf m l1).1 l2).2.2 = 0 → allOf m (l1 ++ l2) = ((allOf (allOf m l1).1 l2).1, (allOf m l1).2.1 ++ (allOf (allOf m l1).1 l2).2.1, 0)) := by
  have e0 : ∀ (m : List Int) l, (allOf m l).2.2 = (runA m l).2.2 := fun m l => by unfold allOf; split <;> rfl
  refine ⟨fun h1 => ?_, fun h1 h2 => ?_, fun h1 h2 => ?_⟩
  · rw [e0] at h1 ⊢
    rw [e0, runA_app, if_neg h1]
  · have h1' := h1
    rw [e0] at h1'
    have ha : allOf m l1 = runA m l1 := by unfold allOf; rw [if_pos h1']
    rw [e0, runA_app, if_pos h1', ha, e0]
  · have h1' := h1
    rw [e0] at h1'
    have ha : allOf m l1 = runA m l1 := by unfold allOf; rw [if_pos h1']
    have h2' := h2
    rw [e0, ha] at h2'
    have hb : allOf (allOf m l1).1 l2 = runA (runA m l1).1 l2 := by rw [ha]; unfold allOf; rw [if_pos h2']
    have hc : (runA m (l1 ++ l2)).2.2 = 0 := by rw [runA_app, if_pos h1']; exact h2'
    rw [hb, ha]
    unfold allOf
    rw [if_pos hc, runA_app, if_pos h1', h2']

theorem drop_accs (l : List A4) (k : Nat) : (accs l).drop k = accs (l.drop k) := by simp [accs]
theorem take_accs (l : List A4) (k : Nat) : (accs l).take k = accs (l.take k) := by simp [accs]
theorem emp_ress (l : List (Int × Bool)) : (ress l).isEmpty = l.isEmpty := by cases l <;> rfl
theorem app_ress2 (a b : List (Int × Bool)) : ress a ++ ress b = ress (a ++ b) := by simp [ress]
attribute [go_sem] drop_accs take_accs emp_ress app_ress2

theorem body_Parts (ev : FuncId → List DV → Heap → Res DV) (K : Ok ev) (m : List Int) (as : List A4) (t : Int) (ht0 : 0 ≤ t) (ht : t ≤ 255) : evalF ev NN ir7 [mD m, .sl .view 4 (accs as), U t] [] = .ok (B true) [] := by
  have hs := K.shown
  by_cases h1 : (60 : Int) < (m.length : Int)
  · simp -implicitDefEqProofs only [ir7, hs, h1, go_sem, Nat.reduceAdd, Nat.reduceMul, Nat.reduceSub, Nat.reduceLeDiff, Nat.reduceEqDiff, Nat.reduceBEq, Nat.reduceLT, Int.reduceLE, Int.reduceLT, Int.reduceEq, Int.reduceNeg, Int.reduceAdd, Int.reduceMul, Int.reduceSub, Int.reduceToNat, reduceCtorEq, reduceIte]
  · by_cases h2 : (30 : Int) < (as.length : Int)
    · simp -implicitDefEqProofs only [ir7, hs, h1, h2, go_sem, Nat.reduceAdd, Nat.reduceMul, Nat.reduceSub, Nat.reduceLeDiff, Nat.reduceEqDiff, Nat.reduceBEq, Nat.reduceLT, Int.reduceLE, Int.reduceLT, Int.reduceEq, Int.reduceNeg, Int.reduceAdd, Int.reduceMul, Int.reduceSub, Int.reduceToNat, reduceCtorEq, reduceIte]
    · obtain ⟨k, hk, hkl⟩ : ∃ k : Nat, Int.tmod t ((as.length + 1 : Nat) : Int) = k ∧ k ≤ as.length := by
        have e : Int.tmod t ((as.length + 1 : Nat) : Int) = t % ((as.length + 1 : Nat) : Int) := Int.tmod_eq_emod_of_nonneg ht0
        have b1 := Int.emod_nonneg t (show ((as.length + 1 : Nat) : Int) ≠ 0 by omega)
        have b2 := Int.emod_lt_of_pos t (show (0 : Int) < ((as.length + 1 : Nat) : Int) by omega)
        exact ⟨(t % ((as.length + 1 : Nat) : Int)).toNat, by rw [e]; omega, by omega⟩
      have w1 : IntKind.i64.wrap t = t := wrap64_id (by omega) (by omega)
      have w2 := wrap_succ (k := as.length) (by omega)
      have w3 : ¬ ((as.length + 1 : Nat) : Int) = 0 := by omega
      have k1 : (k : Int) ≤ (as.length : Int) := by omega
      have pl := parts_plain (as.take k) (as.drop k) m
      rw [List.take_append_drop] at pl
      obtain ⟨p1, p2, p3⟩ := pl
      have l1 := allOf_len m (as.take k)
      have l2 := allOf_len (allOf m (as.take k)).1 (as.drop k)
      rw [List.length_take] at l1
      rw [List.length_drop] at l2
      have q1 := fun h ma => K.allM h m as ma (by omega) (by omega)
      have q2 := fun h ma => K.allM h m (as.take k) ma (by omega) (by rw [List.length_take]; omega)
      have q3 := fun h ma => K.allM h (allOf m (as.take k)).1 (as.drop k) ma (by omega) (by rw [List.length_drop]; omega)
      by_cases e1 : (allOf m (as.take k)).2.2 = 0
      · by_cases e2 : (allOf (allOf m (as.take k)).1 (as.drop k)).2.2 = 0
        · have ea := p3 e1 e2
          have q4 := fun h ma mb => K.sameR h (allOf (allOf m (as.take k)).1 (as.drop k)).1 (allOf (allOf m (as.take k)).1 (as.drop k)).1 ma mb (by omega)
          have q5 := fun h ma mb => K.told h ((allOf m (as.take k)).2.1 ++ (allOf (allOf m (as.take k)).1 (as.drop k)).2.1) ((allOf m (as.take k)).2.1 ++ (allOf (allOf m (as.take k)).1 (as.drop k)).2.1) ma mb (by rw [List.length_append]; omega)
          simp only [allD, ea] at q1
          simp only [allD, e1] at q2
          simp only [allD, e2] at q3
          have r1 : (allOf m (as.take k)).2.1.length * 17 ≤ room := by simp only [room]; omega
          have r2 : ((allOf m (as.take k)).2.1.length + (allOf (allOf m (as.take k)).1 (as.drop k)).2.1.length) * 17 ≤ room := by simp only [room]; omega
          generalize hA : allOf m (as.take k) = A at *
          generalize hB : allOf A.1 (as.drop k) = Bv at *
          have lap : (A.2.1 ++ Bv.2.1).length = A.2.1.length + Bv.2.1.length := List.length_append
          cases hx : A.2.1 with
          | nil =>
            rw [hx] at q1 q2 q5 r1 r2
            simp only [List.nil_append, List.length_nil, Nat.zero_add] at q1 q5 r2
            have r3 : 0 ≤ room := Nat.zero_le _
            cases hy : Bv.2.1 with
            | nil =>
              rw [hy] at q1 q3 q5 r2
              simp -implicitDefEqProofs only [ir7, hs, h1, h2, w1, w2, w3, hk, k1, q1, q2, q3, q4, q5, r1, r2, r3, tm, go_sem, Nat.reduceAdd, Nat.reduceMul, Nat.reduceSub, Nat.reduceLeDiff, Nat.reduceEqDiff, Nat.reduceBEq, Nat.reduceLT, Int.reduceLE, Int.reduceLT, Int.reduceEq, Int.reduceNeg, Int.reduceAdd, Int.reduceMul, Int.reduceSub, Int.reduceToNat, reduceCtorEq, reduceIte]
            | cons y ys =>
              rw [hy] at q1 q3 q5 r2
              simp only [List.length_cons] at r2
              simp -implicitDefEqProofs only [ir7, hs, h1, h2, w1, w2, w3, hk, k1, q1, q2, q3, q4, q5, r1, r2, r3, tm, go_sem, Nat.reduceAdd, Nat.reduceMul, Nat.reduceSub, Nat.reduceLeDiff, Nat.reduceEqDiff, Nat.reduceBEq, Nat.reduceLT, Int.reduceLE, Int.reduceLT, Int.reduceEq, Int.reduceNeg, Int.reduceAdd, Int.reduceMul, Int.reduceSub, Int.reduceToNat, reduceCtorEq, reduceIte]
          | cons x xs =>
            rw [hx] at q1 q2 q5 r1 r2
            simp only [List.length_cons] at r1 r2
            have r3 : 0 ≤ room := Nat.zero_le _
            cases hy : Bv.2.1 with
            | nil =>
              rw [hy] at q1 q3 q5 r2
              simp only [List.append_nil, List.length_nil, Nat.add_zero] at q1 q5 r2
              simp -implicitDefEqProofs only [ir7, hs, h1, h2, w1, w2, w3, hk, k1, q1, q2, q3, q4, q5, r1, r2, r3, tm, go_sem, Nat.reduceAdd, Nat.reduceMul, Nat.reduceSub, Nat.reduceLeDiff, Nat.reduceEqDiff, Nat.reduceBEq, Nat.reduceLT, Int.reduceLE, Int.reduceLT, Int.reduceEq, Int.reduceNeg, Int.reduceAdd, Int.reduceMul, Int.reduceSub, Int.reduceToNat, reduceCtorEq, reduceIte]
            | cons y ys =>
              rw [hy] at q1 q3 q5 r2
              simp only [List.length_cons, List.cons_append] at q1 q5 r2
              simp -implicitDefEqProofs only [ir7, hs, h1, h2, w1, w2, w3, hk, k1, q1, q2, q3, q4, q5, r1, r2, r3, tm, go_sem, Nat.reduceAdd, Nat.reduceMul, Nat.reduceSub, Nat.reduceLeDiff, Nat.reduceEqDiff, Nat.reduceBEq, Nat.reduceLT, Int.reduceLE, Int.reduceLT, Int.reduceEq, Int.reduceNeg, Int.reduceAdd, Int.reduceMul, Int.reduceSub, Int.reduceToNat, reduceCtorEq, reduceIte]
        · have ea := p2 e1 e2
          simp only [allD, ea] at q1
          simp only [allD, e1] at q2
          simp -implicitDefEqProofs only [ir7, hs, h1, h2, w1, w2, w3, hk, k1, q1, q2, q3, e2, go_sem, Nat.reduceAdd, Nat.reduceMul, Nat.reduceSub, Nat.reduceLeDiff, Nat.reduceEqDiff, Nat.reduceBEq, Nat.reduceLT, Int.reduceLE, Int.reduceLT, Int.reduceEq, Int.reduceNeg, Int.reduceAdd, Int.reduceMul, Int.reduceSub, Int.reduceToNat, reduceCtorEq, reduceIte]
      · have ea := p1 e1
        simp only [allD, ea] at q1
        simp -implicitDefEqProofs only [ir7, hs, h1, h2, w1, w2, w3, hk, k1, q1, q2, e1, go_sem, Nat.reduceAdd, Nat.reduceMul, Nat.reduceSub, Nat.reduceLeDiff, Nat.reduceEqDiff, Nat.reduceBEq, Nat.reduceLT, Int.reduceLE, Int.reduceLT, Int.reduceEq, Int.reduceNeg, Int.reduceAdd, Int.reduceMul, Int.reduceSub, Int.reduceToNat, reduceCtorEq, reduceIte]

theorem law_Parts (d : Nat) (m : List Int) (as : List A4) (t : Int) (ht0 : 0 ≤ t) (ht : t ≤ 255) : evalCall fns NN (d + 11) 7 [mD m, .sl .view 4 (accs as), U t] [] = .ok (B true) [] := by
  rw [call_eq rfl]; exact body_Parts _ (ok_ev d) m as t ht0 ht
end Go.D.Mem
