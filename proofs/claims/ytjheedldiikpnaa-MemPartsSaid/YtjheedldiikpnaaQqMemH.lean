/- The laws MemTells, MemAll and MemOwn of 'mem', in the evaluator. -/
import Derived.Test.YtjheedldiikpnaaQqMemE
import Derived.Test.YtjheedldiikpnaaQqMemG
set_option linter.unusedSimpArgs false
set_option linter.unusedVariables false
namespace Go.D.Mem
open Go.D
set_option maxRecDepth 10000
variable {d : Nat} {h : Heap}
set_option maxHeartbeats 1000000

abbrev mD (l : List Int) : DV := .agg [.sl .view 1 (ints l)]
abbrev aD (a : A4) : DV := .agg [I a.1, I a.2.1, I a.2.2.1, I a.2.2.2]
abbrev stD (l : List Int) (a : A4) : DV := .tup [.agg [.sl .view 1 (ints (stepA l a).1)], .agg [I (stepA l a).2.1.1, B (stepA l a).2.1.2], I (stepA l a).2.2]
abbrev allD (l : List Int) (as : List A4) : DV := .tup [.agg [.sl .view 1 (ints (allOf l as).1)], .sl (tm (allOf l as).2.1) 2 (ress (allOf l as).2.1), I (allOf l as).2.2]

/-- What the laws need of the functions that they call. -/
structure Ok (ev : FuncId → List DV → Heap → Res DV) : Prop where
  shown : ∀ h, callP ev 10 [] h = .ok (B true) h
  doM : ∀ h (l : List Int) (a : A4), l.length ≤ 100000 → callP ev 11 [.agg [.sl .view 1 (ints l)], .agg [I a.1, I a.2.1, I a.2.2.1, I a.2.2.2]] h = .ok (stD l a) h
  doR : ∀ h (l : List Int) (a : A4), l.length ≤ 100000 → callP ev 12 [.agg [.sl .view 1 (ints l)], .agg [I a.1, I a.2.1, I a.2.2.1, I a.2.2.2]] h = .ok (stD l a) h
  rightM : ∀ h k c o n, callP ev 13 [.agg [I k, I c, I o, I n]] h = .ok (B (right k c o n)) h
  rightR : ∀ h k c o n, callP ev 14 [.agg [I k, I c, I o, I n]] h = .ok (B (right k c o n)) h
  sameM : ∀ h (a b : List Int), a.length ≤ 90000 → callP ev 15 [.agg [.sl .view 1 (ints a)], .agg [.sl .view 1 (ints b)]] h = .ok (B (decide (a = b))) h
  sameR : ∀ h (a b : List Int) (ma mb : Mode), a.length ≤ 90000 → callP ev 16 [.agg [.sl ma 1 (ints a)], .agg [.sl mb 1 (ints b)]] h = .ok (B (decide (a = b))) h
  told : ∀ h (a b : List (Int × Bool)) (ma mb : Mode), a.length ≤ 90000 → callP ev 19 [.sl ma 2 (ress a), .sl mb 2 (ress b)] h = .ok (B (decide (a = b))) h
  allM : ∀ h (m : List Int) (as : List A4) (ma : Mode), m.length ≤ 100000 → as.length ≤ 90000 → callP ev 17 [.agg [.sl .view 1 (ints m)], .sl ma 4 (accs as)] h = .ok (allD m as) h
  allR : ∀ h (m : List Int) (as : List A4) (ma : Mode), m.length ≤ 100000 → as.length ≤ 90000 → callP ev 18 [.agg [.sl .view 1 (ints m)], .sl ma 4 (accs as)] h = .ok (allD m as) h

theorem ok_ev (d : Nat) : Ok (evalCall fns NN (d + 10)) where
  shown := fun h => p_shown
  doM := fun h l a hl => p_Do' (d := d + 8) l a hl
  doR := fun h l a hl => p_refDo (d := d + 8) l a hl
  rightM := fun h k c o n => p_Right (d := d + 9) k c o n
  rightR := fun h k c o n => p_refRight (d := d + 9) k c o n
  sameM := fun h a b hl => p_memSame (d := d + 8) a b hl
  sameR := fun h a b ma mb hl => p_refSame (d := d + 9) a b ma mb hl
  told := fun h a b ma mb hl => p_Told (d := d + 9) a b ma mb hl
  allM := fun h m as ma hm has => p_memAll (d := d + 7) m as ma hm has
  allR := fun h m as ma hm has => p_refAll (d := d + 7) m as ma hm has

theorem stepA_len (l : List Int) (a : A4) : (stepA l a).1.length = l.length := step_len l _ _ _ _

theorem body_Tells (ev : FuncId → List DV → Heap → Res DV) (K : Ok ev) (m n : List Int) (a : A4) : evalF ev NN ir3 [mD m, mD n, aD a] [] = .ok (B true) [] := by
  have hs := K.shown
  by_cases h1 : (200 : Int) < (m.length : Int)
  · simp -implicitDefEqProofs only [ir3, hs, h1, go_sem, Nat.reduceAdd, Nat.reduceMul, Nat.reduceSub, Nat.reduceLeDiff, Nat.reduceEqDiff, Nat.reduceBEq, Nat.reduceLT, Int.reduceLE, Int.reduceLT, Int.reduceEq, Int.reduceNeg, Int.reduceAdd, Int.reduceMul, Int.reduceSub, Int.reduceToNat, reduceCtorEq, reduceIte]
  · by_cases h2 : (200 : Int) < (n.length : Int)
    · simp -implicitDefEqProofs only [ir3, hs, h1, h2, go_sem, Nat.reduceAdd, Nat.reduceMul, Nat.reduceSub, Nat.reduceLeDiff, Nat.reduceEqDiff, Nat.reduceBEq, Nat.reduceLT, Int.reduceLE, Int.reduceLT, Int.reduceEq, Int.reduceNeg, Int.reduceAdd, Int.reduceMul, Int.reduceSub, Int.reduceToNat, reduceCtorEq, reduceIte]
    · have q1 := fun h => K.doM h m a (by omega)
      have q2 := fun h => K.doR h m a (by omega)
      have q3 := K.rightM
      have q4 := K.rightR
      have q5 := fun h => K.sameM h m n (by omega)
      have q6 := fun h => K.sameR h m n .view .view (by omega)
      have q7 := fun h => K.sameR h (stepA m a).1 (stepA m a).1 .view .view (by rw [stepA_len]; omega)
      simp -implicitDefEqProofs only [ir3, hs, h1, h2, q1, q2, q3, q4, q5, q6, q7, go_sem, Nat.reduceAdd, Nat.reduceMul, Nat.reduceSub, Nat.reduceLeDiff, Nat.reduceEqDiff, Nat.reduceBEq, Nat.reduceLT, Int.reduceLE, Int.reduceLT, Int.reduceEq, Int.reduceNeg, Int.reduceAdd, Int.reduceMul, Int.reduceSub, Int.reduceToNat, reduceCtorEq, reduceIte]

theorem runA_len : ∀ (as : List A4) (l : List Int), (runA l as).1.length = l.length ∧ (runA l as).2.1.length ≤ as.length
  | [], l => by simp [runA]
  | a :: as, l => by
    have := runA_len as (stepA l a).1
    rw [stepA_len] at this
    simp only [runA]
    split
    · simp only [List.length_cons]; exact ⟨this.1, by omega⟩
    · simp
theorem allOf_len (l : List Int) (as : List A4) : (allOf l as).1.length = l.length ∧ (allOf l as).2.1.length ≤ as.length := by
  have := runA_len as l
  unfold allOf
  split
  · exact this
  · simp

theorem body_LAll (ev : FuncId → List DV → Heap → Res DV) (K : Ok ev) (m : List Int) (as : List A4) : evalF ev NN ir4 [mD m, .sl .view 4 (accs as)] [] = .ok (B true) [] := by
  have hs := K.shown
  by_cases h1 : (100 : Int) < (m.length : Int)
  · simp -implicitDefEqProofs only [ir4, hs, h1, go_sem, Nat.reduceAdd, Nat.reduceMul, Nat.reduceSub, Nat.reduceLeDiff, Nat.reduceEqDiff, Nat.reduceBEq, Nat.reduceLT, Int.reduceLE, Int.reduceLT, Int.reduceEq, Int.reduceNeg, Int.reduceAdd, Int.reduceMul, Int.reduceSub, Int.reduceToNat, reduceCtorEq, reduceIte]
  · by_cases h2 : (40 : Int) < (as.length : Int)
    · simp -implicitDefEqProofs only [ir4, hs, h1, h2, go_sem, Nat.reduceAdd, Nat.reduceMul, Nat.reduceSub, Nat.reduceLeDiff, Nat.reduceEqDiff, Nat.reduceBEq, Nat.reduceLT, Int.reduceLE, Int.reduceLT, Int.reduceEq, Int.reduceNeg, Int.reduceAdd, Int.reduceMul, Int.reduceSub, Int.reduceToNat, reduceCtorEq, reduceIte]
    · have hl := allOf_len m as
      have q1 := fun h ma => K.allM h m as ma (by omega) (by omega)
      have q2 := fun h ma => K.allR h m as ma (by omega) (by omega)
      have q3 := fun h ma mb => K.sameR h (allOf m as).1 (allOf m as).1 ma mb (by omega)
      have q4 := fun h ma mb => K.told h (allOf m as).2.1 (allOf m as).2.1 ma mb (by omega)
      simp -implicitDefEqProofs only [ir4, hs, h1, h2, q1, q2, q3, q4, go_sem, Nat.reduceAdd, Nat.reduceMul, Nat.reduceSub, Nat.reduceLeDiff, Nat.reduceEqDiff, Nat.reduceBEq, Nat.reduceLT, Int.reduceLE, Int.reduceLT, Int.reduceEq, Int.reduceNeg, Int.reduceAdd, Int.reduceMul, Int.reduceSub, Int.reduceToNat, reduceCtorEq, reduceIte]

/-- What the loop of MemOwn ends with. -/
def QOwn (h : Heap) (v0 v1 v2 v3 v4 v5 v6 v7 v8 v9 v12 v13 v15 : DV) : Ex → Prop
  | .exit i s => i = 0 ∧ ∃ y10 y11 y14, s = ⟨[v0, v1, v2, v3, v4, v5, v6, v7, v8, v9, y10, y11, v12, v13, y14, v15], [], h⟩
  | _ => False

theorem loop_Own (ev : FuncId → List DV → Heap → Res DV) (m x : List Int) (k c o n : Int) (hml : m.length ≤ 1000) (hx : x.length = m.length) (hsame : ∀ i : Nat, (i : Int) ≠ c → x[i]? = m[i]?) (v0 v1 v5 v6 v7 v8 v9 v12 v13 v15 : DV) : ∀ N j, j ≤ m.length → m.length - j < N → ∀ (x10 x11 : DV),
    QOwn h v0 v1 (.box [.sl .view 1 (ints m)]) (.box [I k, I c, I o, I n]) (.box [.sl .view 1 (ints x)]) v5 v6 v7 v8 v9 v12 v13 v15
      (iter (evalC ev NN ir6_l0) N ⟨[v0, v1, .box [.sl .view 1 (ints m)], .box [I k, I c, I o, I n], .box [.sl .view 1 (ints x)], v5, v6, v7, v8, v9, x10, x11, v12, v13, I j, v15], [], h⟩) := by
  intro N
  induction N with
  | zero => intro j _ h2; omega
  | succ N ih =>
    intro j hj hn x10 x11
    by_cases hlt : j < m.length
    · obtain ⟨y, hy⟩ : ∃ y, m[j]? = some y := ⟨_, List.getElem?_eq_getElem hlt⟩
      obtain ⟨z, hz⟩ : ∃ z, x[j]? = some z := ⟨_, List.getElem?_eq_getElem (by omega)⟩
      have hlt' : (j : Int) < (m.length : Int) := by omega
      have e := ih (j + 1) (by omega) (by omega) (B true) (B false)
      by_cases hjc : (j : Int) = c
      · subst hjc
        refine cast (congrArg _ ?_) e
        simp -implicitDefEqProofs only [iter, ir6_l0, hlt', hy, hz, wrap_succ (show j < 4611686018427387904 by omega), go_sem, Nat.reduceAdd, Nat.reduceMul, Nat.reduceSub, Nat.reduceLeDiff, Nat.reduceEqDiff, Nat.reduceBEq, Nat.reduceLT, Int.reduceLE, Int.reduceLT, Int.reduceEq, Int.reduceNeg, Int.reduceAdd, Int.reduceMul, Int.reduceSub, Int.reduceToNat, reduceCtorEq, reduceIte]
      · have hzy : z = y := by have := hsame j hjc; rw [hy, hz] at this; exact Option.some.inj this
        subst hzy
        refine cast (congrArg _ ?_) e
        simp -implicitDefEqProofs only [iter, ir6_l0, hlt', hy, hz, hjc, wrap_succ (show j < 4611686018427387904 by omega), go_sem, Nat.reduceAdd, Nat.reduceMul, Nat.reduceSub, Nat.reduceLeDiff, Nat.reduceEqDiff, Nat.reduceBEq, Nat.reduceLT, Int.reduceLE, Int.reduceLT, Int.reduceEq, Int.reduceNeg, Int.reduceAdd, Int.reduceMul, Int.reduceSub, Int.reduceToNat, reduceCtorEq, reduceIte]
    · have hka : j = m.length := by omega
      subst hka
      have hlt' : ¬ ((m.length : Nat) : Int) < (m.length : Int) := by omega
      simp -implicitDefEqProofs only [iter, ir6_l0, hlt', go_sem, Nat.reduceAdd, Nat.reduceMul, Nat.reduceSub, Nat.reduceLeDiff, Nat.reduceEqDiff, Nat.reduceBEq, Nat.reduceLT, Int.reduceLE, Int.reduceLT, Int.reduceEq, Int.reduceNeg, Int.reduceAdd, Int.reduceMul, Int.reduceSub, Int.reduceToNat, reduceCtorEq, reduceIte]
      exact ⟨rfl, _, _, _, rfl⟩

theorem body_Own (ev : FuncId → List DV → Heap → Res DV) (K : Ok ev) (m : List Int) (k c o n : Int) : evalF ev NN ir6 [mD m, .agg [I k, I c, I o, I n]] [] = .ok (B true) [] := by
  have hs := K.shown
  by_cases h1 : (100 : Int) < (m.length : Int)
  · simp -implicitDefEqProofs only [ir6, hs, h1, go_sem, Nat.reduceAdd, Nat.reduceMul, Nat.reduceSub, Nat.reduceLeDiff, Nat.reduceEqDiff, Nat.reduceBEq, Nat.reduceLT, Int.reduceLE, Int.reduceLT, Int.reduceEq, Int.reduceNeg, Int.reduceAdd, Int.reduceMul, Int.reduceSub, Int.reduceToNat, reduceCtorEq, reduceIte]
  · have q1 : ∀ h, callP ev 11 [.agg [.sl .view 1 (ints m)], .agg [I k, I c, I o, I n]] h = .ok (stD m (k, c, o, n)) h := fun h => K.doM h m (k, c, o, n) (by omega)
    have q3 := fun h => K.sameR h m m .view .view (by omega)
    cases hr : right k c o n with
    | false =>
      have e : stepA m (k, c, o, n) = (m, (0, false), 1) := by simp [stepA, step, hr]
      simp only [stD, e] at q1
      simp -implicitDefEqProofs only [ir6, hs, h1, q1, q3, go_sem, Nat.reduceAdd, Nat.reduceMul, Nat.reduceSub, Nat.reduceLeDiff, Nat.reduceEqDiff, Nat.reduceBEq, Nat.reduceLT, Int.reduceLE, Int.reduceLT, Int.reduceEq, Int.reduceNeg, Int.reduceAdd, Int.reduceMul, Int.reduceSub, Int.reduceToNat, reduceCtorEq, reduceIte]
    | true =>
      have h0 := right_pos hr
      cases hg : m[c.toNat]? with
      | none =>
        have hlen : (m.length : Int) ≤ c := by
          have := List.getElem?_eq_none_iff.1 hg; omega
        have e : stepA m (k, c, o, n) = (m, (0, false), 12) := by simp [stepA, step, hr, hg]
        simp only [stD, e] at q1
        simp -implicitDefEqProofs only [ir6, hs, h1, q1, q3, hlen, go_sem, Nat.reduceAdd, Nat.reduceMul, Nat.reduceSub, Nat.reduceLeDiff, Nat.reduceEqDiff, Nat.reduceBEq, Nat.reduceLT, Int.reduceLE, Int.reduceLT, Int.reduceEq, Int.reduceNeg, Int.reduceAdd, Int.reduceMul, Int.reduceSub, Int.reduceToNat, reduceCtorEq, reduceIte]
      | some was =>
        have hlt : c.toNat < m.length := (List.getElem?_eq_some_iff.1 hg).1
        have hlen : ¬ (m.length : Int) ≤ c := by omega
        have hc0 : ¬ c < 0 := by omega
        have e : stepA m (k, c, o, n) = (m.set c.toNat (next was k o n).1, (was, (next was k o n).2), 0) := by simp [stepA, step, hr, hg]
        simp only [stD, e] at q1
        have hxg : (m.set c.toNat (next was k o n).1)[c.toNat]? = some (next was k o n).1 := by rw [List.getElem?_set_self hlt]
        have hsame : ∀ i : Nat, (i : Int) ≠ c → (m.set c.toNat (next was k o n).1)[i]? = m[i]? := fun i hi => by rw [List.getElem?_set_ne (by omega)]
        have lp := loop_Own (h := []) ev m (m.set c.toNat (next was k o n).1) k c o n (by omega) (by simp) hsame (.agg [.sl .view 1 (ints m)]) (.agg [I k, I c, I o, I n]) (.box [I was, B (next was k o n).2]) (.sc (.bool false)) (.sc (.bool false)) (.sc (.bool false)) (.sc (.bool false)) (.sc (.bool true)) (.sc (.int .i64 0)) .junk NN 0 (by omega) (by unfold NN; omega) .junk .junk
        simp only [cast0] at lp
        simp -implicitDefEqProofs only [ir6, hs, h1, q1, q3, hlen, hc0, h0, hg, go_sem, Nat.reduceAdd, Nat.reduceMul, Nat.reduceSub, Nat.reduceLeDiff, Nat.reduceEqDiff, Nat.reduceBEq, Nat.reduceLT, Int.reduceLE, Int.reduceLT, Int.reduceEq, Int.reduceNeg, Int.reduceAdd, Int.reduceMul, Int.reduceSub, Int.reduceToNat, reduceCtorEq, reduceIte]
        revert lp
        generalize iter _ _ _ = E
        intro lp
        cases E with
        | exit i s =>
          obtain ⟨rfl, y10, y11, y14, rfl⟩ := lp
          have hk := right_kinds hr
          rcases hk with rfl | rfl | rfl | rfl | rfl
          · have en : next was 1 o n = (was, true) := by simp [next]
            simp only [en] at hxg ⊢
            simp -implicitDefEqProofs only [hxg, hg, h0, go_sem, Nat.reduceAdd, Nat.reduceMul, Nat.reduceSub, Nat.reduceLeDiff, Nat.reduceEqDiff, Nat.reduceBEq, Nat.reduceLT, Int.reduceLE, Int.reduceLT, Int.reduceEq, Int.reduceNeg, Int.reduceAdd, Int.reduceMul, Int.reduceSub, Int.reduceToNat, reduceCtorEq, reduceIte]
          · have en : next was 2 o n = (n, true) := by simp [next]
            simp only [en] at hxg ⊢
            simp -implicitDefEqProofs only [hxg, hg, h0, go_sem, Nat.reduceAdd, Nat.reduceMul, Nat.reduceSub, Nat.reduceLeDiff, Nat.reduceEqDiff, Nat.reduceBEq, Nat.reduceLT, Int.reduceLE, Int.reduceLT, Int.reduceEq, Int.reduceNeg, Int.reduceAdd, Int.reduceMul, Int.reduceSub, Int.reduceToNat, reduceCtorEq, reduceIte]
          · by_cases hw : was = o
            · have en : next was 3 o n = (n, true) := by simp [next, hw]
              simp only [en] at hxg ⊢
              simp -implicitDefEqProofs only [hxg, hg, h0, hw, go_sem, Nat.reduceAdd, Nat.reduceMul, Nat.reduceSub, Nat.reduceLeDiff, Nat.reduceEqDiff, Nat.reduceBEq, Nat.reduceLT, Int.reduceLE, Int.reduceLT, Int.reduceEq, Int.reduceNeg, Int.reduceAdd, Int.reduceMul, Int.reduceSub, Int.reduceToNat, reduceCtorEq, reduceIte]
            · have en : next was 3 o n = (was, false) := by simp [next, hw]
              simp only [en] at hxg ⊢
              simp -implicitDefEqProofs only [hxg, hg, h0, hw, go_sem, Nat.reduceAdd, Nat.reduceMul, Nat.reduceSub, Nat.reduceLeDiff, Nat.reduceEqDiff, Nat.reduceBEq, Nat.reduceLT, Int.reduceLE, Int.reduceLT, Int.reduceEq, Int.reduceNeg, Int.reduceAdd, Int.reduceMul, Int.reduceSub, Int.reduceToNat, reduceCtorEq, reduceIte]
          · have en : next was 4 o n = (IntKind.i64.wrap (was + n), true) := by simp [next]
            simp only [en] at hxg ⊢
            simp -implicitDefEqProofs only [hxg, hg, h0, go_sem, Nat.reduceAdd, Nat.reduceMul, Nat.reduceSub, Nat.reduceLeDiff, Nat.reduceEqDiff, Nat.reduceBEq, Nat.reduceLT, Int.reduceLE, Int.reduceLT, Int.reduceEq, Int.reduceNeg, Int.reduceAdd, Int.reduceMul, Int.reduceSub, Int.reduceToNat, reduceCtorEq, reduceIte]
          · have en : next was 5 o n = (n, true) := by simp [next]
            simp only [en] at hxg ⊢
            simp -implicitDefEqProofs only [hxg, hg, h0, go_sem, Nat.reduceAdd, Nat.reduceMul, Nat.reduceSub, Nat.reduceLeDiff, Nat.reduceEqDiff, Nat.reduceBEq, Nat.reduceLT, Int.reduceLE, Int.reduceLT, Int.reduceEq, Int.reduceNeg, Int.reduceAdd, Int.reduceMul, Int.reduceSub, Int.reduceToNat, reduceCtorEq, reduceIte]
        | ret s => exact lp.elim
        | norm s => exact lp.elim
        | pan v h => exact lp.elim
        | no => exact lp.elim

theorem law_Tells (d : Nat) (m n : List Int) (k c o x : Int) : evalCall fns NN (d + 11) 3 [mD m, mD n, .agg [I k, I c, I o, I x]] [] = .ok (B true) [] := by
  rw [call_eq rfl]; exact body_Tells _ (ok_ev d) m n (k, c, o, x)
theorem law_All (d : Nat) (m : List Int) (as : List A4) : evalCall fns NN (d + 11) 4 [mD m, .sl .view 4 (accs as)] [] = .ok (B true) [] := by
  rw [call_eq rfl]; exact body_LAll _ (ok_ev d) m as
theorem law_Own (d : Nat) (m : List Int) (k c o x : Int) : evalCall fns NN (d + 11) 6 [mD m, .agg [I k, I c, I o, I x]] [] = .ok (B true) [] := by
  rw [call_eq rfl]; exact body_Own _ (ok_ev d) m k c o x
end Go.D.Mem
