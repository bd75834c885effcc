/- What the reference's functions for an access compute. -/
import Derived.Test.YtjheedldiikpnaaQqMemD
set_option linter.unusedSimpArgs false
set_option linter.unusedVariables false
namespace Go.D.Mem
open Go.D
set_option maxRecDepth 10000
variable {d : Nat} {h : Heap}
set_option maxHeartbeats 1000000

theorem right_kinds {k c o n : Int} (hr : right k c o n = true) : k = 1 ∨ k = 2 ∨ k = 3 ∨ k = 4 ∨ k = 5 := by
  simp only [right, Bool.and_eq_true, decide_eq_true_eq] at hr
  obtain ⟨_, hr⟩ := hr
  split at hr
  · omega
  · split at hr
    · omega
    · simp at hr; omega
theorem right_kind {k c o n : Int} (h : k < 1 ∨ 5 < k) : right k c o n = false := by
  cases hr : right k c o n with
  | false => rfl
  | true => have := right_kinds hr; omega

theorem body_refRight (ev : FuncId → List DV → Heap → Res DV) (k c o n : Int) : evalF ev NN ir14 [.agg [I k, I c, I o, I n]] [] = .ok (B (right k c o n)) [] := by
  by_cases h1 : k < 1
  · have e : right k c o n = false := right_kind (by omega)
    simp -implicitDefEqProofs only [ir14, e, h1, go_sem, Nat.reduceAdd, Nat.reduceMul, Nat.reduceSub, Nat.reduceLeDiff, Nat.reduceEqDiff, Nat.reduceBEq, Nat.reduceLT, Int.reduceLE, Int.reduceLT, Int.reduceEq, Int.reduceNeg, Int.reduceAdd, Int.reduceMul, Int.reduceSub, Int.reduceToNat, reduceCtorEq, reduceIte]
  · by_cases h2 : 5 < k
    · have e : right k c o n = false := right_kind (by omega)
      simp -implicitDefEqProofs only [ir14, e, h1, h2, go_sem, Nat.reduceAdd, Nat.reduceMul, Nat.reduceSub, Nat.reduceLeDiff, Nat.reduceEqDiff, Nat.reduceBEq, Nat.reduceLT, Int.reduceLE, Int.reduceLT, Int.reduceEq, Int.reduceNeg, Int.reduceAdd, Int.reduceMul, Int.reduceSub, Int.reduceToNat, reduceCtorEq, reduceIte]
    · by_cases h3 : c < 0
      · have e : right k c o n = false := by
          cases hr : right k c o n with
          | false => rfl
          | true => have := right_pos hr; omega
        simp -implicitDefEqProofs only [ir14, e, h1, h2, h3, go_sem, Nat.reduceAdd, Nat.reduceMul, Nat.reduceSub, Nat.reduceLeDiff, Nat.reduceEqDiff, Nat.reduceBEq, Nat.reduceLT, Int.reduceLE, Int.reduceLT, Int.reduceEq, Int.reduceNeg, Int.reduceAdd, Int.reduceMul, Int.reduceSub, Int.reduceToNat, reduceCtorEq, reduceIte]
      · have h0 : 0 ≤ c := by omega
        have hk : k = 1 ∨ k = 2 ∨ k = 3 ∨ k = 4 ∨ k = 5 := by omega
        rcases hk with rfl | rfl | rfl | rfl | rfl
        · by_cases h7 : n = 0 <;> by_cases h8 : o = 0 <;> simp -implicitDefEqProofs only [ir14, right, h0, h3, h7, h8, go_sem, Nat.reduceAdd, Nat.reduceMul, Nat.reduceSub, Nat.reduceLeDiff, Nat.reduceEqDiff, Nat.reduceBEq, Nat.reduceLT, Int.reduceLE, Int.reduceLT, Int.reduceEq, Int.reduceNeg, Int.reduceAdd, Int.reduceMul, Int.reduceSub, Int.reduceToNat, reduceCtorEq, reduceIte]
        · by_cases h8 : o = 0 <;> simp -implicitDefEqProofs only [ir14, right, h0, h3, h8, true_or, go_sem, Nat.reduceAdd, Nat.reduceMul, Nat.reduceSub, Nat.reduceLeDiff, Nat.reduceEqDiff, Nat.reduceBEq, Nat.reduceLT, Int.reduceLE, Int.reduceLT, Int.reduceEq, Int.reduceNeg, Int.reduceAdd, Int.reduceMul, Int.reduceSub, Int.reduceToNat, reduceCtorEq, reduceIte]
        · simp -implicitDefEqProofs only [ir14, right, h0, h3, or_self, go_sem, Nat.reduceAdd, Nat.reduceMul, Nat.reduceSub, Nat.reduceLeDiff, Nat.reduceEqDiff, Nat.reduceBEq, Nat.reduceLT, Int.reduceLE, Int.reduceLT, Int.reduceEq, Int.reduceNeg, Int.reduceAdd, Int.reduceMul, Int.reduceSub, Int.reduceToNat, reduceCtorEq, reduceIte]
        · by_cases h8 : o = 0 <;> simp -implicitDefEqProofs only [ir14, right, h0, h3, h8, true_or, or_true, go_sem, Nat.reduceAdd, Nat.reduceMul, Nat.reduceSub, Nat.reduceLeDiff, Nat.reduceEqDiff, Nat.reduceBEq, Nat.reduceLT, Int.reduceLE, Int.reduceLT, Int.reduceEq, Int.reduceNeg, Int.reduceAdd, Int.reduceMul, Int.reduceSub, Int.reduceToNat, reduceCtorEq, reduceIte]
        · by_cases h8 : o = 0 <;> simp -implicitDefEqProofs only [ir14, right, h0, h3, h8, true_or, or_true, go_sem, Nat.reduceAdd, Nat.reduceMul, Nat.reduceSub, Nat.reduceLeDiff, Nat.reduceEqDiff, Nat.reduceBEq, Nat.reduceLT, Int.reduceLE, Int.reduceLT, Int.reduceEq, Int.reduceNeg, Int.reduceAdd, Int.reduceMul, Int.reduceSub, Int.reduceToNat, reduceCtorEq, reduceIte]

theorem p_refRight (k c o n : Int) : callP (evalCall fns NN (d + 1)) 14 [.agg [I k, I c, I o, I n]] h = .ok (B (right k c o n)) h :=
  callP_of (v := B (right k c o n)) (h' := []) rfl rfl (by rw [call_eq rfl]; exact body_refRight _ _ _ _ _) rfl

theorem body_with (ev : FuncId → List DV → Heap → Res DV) (l : List Int) (c n : Int) (h0 : 0 ≤ c) (hlt : c.toNat < l.length) (hl : l.length ≤ 100000) :
    evalF ev NN ir21 [.agg [.sl .view 1 (ints l)], I c, I n] [] = .ok (.agg [.hsl 0 0 l.length l.length 1 false]) [ints (l.set c.toNat n)] := by
  have hroom : l.length * 9 ≤ room := by simp only [room]; omega
  have he : l.isEmpty = false := by cases l <;> simp at hlt ⊢
  have hlt' : c < (l.length : Int) := by omega
  simp -implicitDefEqProofs only [ir21, h0, hlt, hlt', Nat.succ_le_of_lt hlt, hroom, he, go_sem, Nat.reduceAdd, Nat.reduceMul, Nat.reduceSub, Nat.reduceLeDiff, Nat.reduceEqDiff, Nat.reduceBEq, Nat.reduceLT, Int.reduceLE, Int.reduceLT, Int.reduceEq, Int.reduceNeg, Int.reduceAdd, Int.reduceMul, Int.reduceSub, Int.reduceToNat, reduceCtorEq, reduceIte]

theorem p_with (l : List Int) (c n : Int) (h0 : 0 ≤ c) (hlt : c.toNat < l.length) (hl : l.length ≤ 100000) :
    callP (evalCall fns NN (d + 1)) 21 [.agg [.sl .view 1 (ints l)], I c, I n] h = .ok (.agg [.sl .view 1 (ints (l.set c.toNat n))]) h := by
  have hlk : look [ints (l.set c.toNat n)] (.hsl 0 0 l.length l.length 1 false) = .sl .view 1 (ints (l.set c.toNat n)) := look_hsl_ints rfl (by simp)
  refine (callP_of (v := .agg [.hsl 0 0 l.length l.length 1 false]) (h' := [ints (l.set c.toNat n)]) (by simp -implicitDefEqProofs only [go_sem, Nat.reduceAdd, Nat.reduceMul, Nat.reduceSub, Nat.reduceLeDiff, Nat.reduceEqDiff, Nat.reduceBEq, Nat.reduceLT, Int.reduceLE, Int.reduceLT, Int.reduceEq, Int.reduceNeg, Int.reduceAdd, Int.reduceMul, Int.reduceSub, Int.reduceToNat, reduceCtorEq, reduceIte]) rfl (by rw [call_eq rfl]; exact body_with _ l c n h0 hlt hl) (by simp -implicitDefEqProofs only [hlk, go_sem, Nat.reduceAdd, Nat.reduceMul, Nat.reduceSub, Nat.reduceLeDiff, Nat.reduceEqDiff, Nat.reduceBEq, Nat.reduceLT, Int.reduceLE, Int.reduceLT, Int.reduceEq, Int.reduceNeg, Int.reduceAdd, Int.reduceMul, Int.reduceSub, Int.reduceToNat, reduceCtorEq, reduceIte])).trans ?_
  simp -implicitDefEqProofs only [hlk, go_sem, Nat.reduceAdd, Nat.reduceMul, Nat.reduceSub, Nat.reduceLeDiff, Nat.reduceEqDiff, Nat.reduceBEq, Nat.reduceLT, Int.reduceLE, Int.reduceLT, Int.reduceEq, Int.reduceNeg, Int.reduceAdd, Int.reduceMul, Int.reduceSub, Int.reduceToNat, reduceCtorEq, reduceIte]

theorem body_refDo (ev : FuncId → List DV → Heap → Res DV) (l : List Int) (k c o n : Int) (qr : ∀ h, callP ev 14 [.agg [I k, I c, I o, I n]] h = .ok (B (right k c o n)) h)
    (qw : ∀ h x, 0 ≤ c → c.toNat < l.length → callP ev 21 [.agg [.sl .view 1 (ints l)], I c, I x] h = .ok (.agg [.sl .view 1 (ints (l.set c.toNat x))]) h) :
    evalF ev NN ir12 [.agg [.sl .view 1 (ints l)], .agg [I k, I c, I o, I n]] [] =
    .ok (.tup [.agg [.sl .view 1 (ints (step l k c o n).1)], .agg [I (step l k c o n).2.1.1, B (step l k c o n).2.1.2], I (step l k c o n).2.2]) [] := by
  cases hr : right k c o n with
  | false =>
    have e : step l k c o n = (l, (0, false), 1) := by simp [step, hr]
    simp -implicitDefEqProofs only [ir12, qr, hr, e, go_sem, Nat.reduceAdd, Nat.reduceMul, Nat.reduceSub, Nat.reduceLeDiff, Nat.reduceEqDiff, Nat.reduceBEq, Nat.reduceLT, Int.reduceLE, Int.reduceLT, Int.reduceEq, Int.reduceNeg, Int.reduceAdd, Int.reduceMul, Int.reduceSub, Int.reduceToNat, reduceCtorEq, reduceIte]
  | true =>
    have h0 := right_pos hr
    cases hg : l[c.toNat]? with
    | none =>
      have hlen : (l.length : Int) ≤ c := by
        have := List.getElem?_eq_none_iff.1 hg; omega
      have e : step l k c o n = (l, (0, false), 12) := by simp [step, hr, hg]
      simp -implicitDefEqProofs only [ir12, qr, hr, hlen, e, go_sem, Nat.reduceAdd, Nat.reduceMul, Nat.reduceSub, Nat.reduceLeDiff, Nat.reduceEqDiff, Nat.reduceBEq, Nat.reduceLT, Int.reduceLE, Int.reduceLT, Int.reduceEq, Int.reduceNeg, Int.reduceAdd, Int.reduceMul, Int.reduceSub, Int.reduceToNat, reduceCtorEq, reduceIte]
    | some was =>
      have hlt : c.toNat < l.length := (List.getElem?_eq_some_iff.1 hg).1
      have hlen : ¬ (l.length : Int) ≤ c := by omega
      have e : step l k c o n = (l.set c.toNat (next was k o n).1, (was, (next was k o n).2), 0) := by simp [step, hr, hg]
      have same : l.set c.toNat was = l := by
        have := List.getElem?_eq_some_iff.1 hg
        rw [← this.2, List.set_getElem_self]
      have hk := right_kinds hr
      rcases hk with rfl | rfl | rfl | rfl | rfl
      · have en : next was 1 o n = (was, true) := by simp [next]
        rw [e, en, same]
        simp -implicitDefEqProofs only [ir12, qr, hr, hlen, hg, h0, go_sem, Nat.reduceAdd, Nat.reduceMul, Nat.reduceSub, Nat.reduceLeDiff, Nat.reduceEqDiff, Nat.reduceBEq, Nat.reduceLT, Int.reduceLE, Int.reduceLT, Int.reduceEq, Int.reduceNeg, Int.reduceAdd, Int.reduceMul, Int.reduceSub, Int.reduceToNat, reduceCtorEq, reduceIte]
      · have en : next was 2 o n = (n, true) := by simp [next]
        rw [e, en]
        simp -implicitDefEqProofs only [ir12, qr, hr, hlen, hg, h0, qw _ n h0 hlt, go_sem, Nat.reduceAdd, Nat.reduceMul, Nat.reduceSub, Nat.reduceLeDiff, Nat.reduceEqDiff, Nat.reduceBEq, Nat.reduceLT, Int.reduceLE, Int.reduceLT, Int.reduceEq, Int.reduceNeg, Int.reduceAdd, Int.reduceMul, Int.reduceSub, Int.reduceToNat, reduceCtorEq, reduceIte]
      · by_cases hw : was = o
        · have en : next was 3 o n = (n, true) := by simp [next, hw]
          rw [e, en]
          simp -implicitDefEqProofs only [ir12, qr, hr, hlen, hg, h0, hw, qw _ n h0 hlt, go_sem, Nat.reduceAdd, Nat.reduceMul, Nat.reduceSub, Nat.reduceLeDiff, Nat.reduceEqDiff, Nat.reduceBEq, Nat.reduceLT, Int.reduceLE, Int.reduceLT, Int.reduceEq, Int.reduceNeg, Int.reduceAdd, Int.reduceMul, Int.reduceSub, Int.reduceToNat, reduceCtorEq, reduceIte]
        · have en : next was 3 o n = (was, false) := by simp [next, hw]
          rw [e, en, same]
          simp -implicitDefEqProofs only [ir12, qr, hr, hlen, hg, h0, hw, go_sem, Nat.reduceAdd, Nat.reduceMul, Nat.reduceSub, Nat.reduceLeDiff, Nat.reduceEqDiff, Nat.reduceBEq, Nat.reduceLT, Int.reduceLE, Int.reduceLT, Int.reduceEq, Int.reduceNeg, Int.reduceAdd, Int.reduceMul, Int.reduceSub, Int.reduceToNat, reduceCtorEq, reduceIte]
      · have en : next was 4 o n = (IntKind.i64.wrap (was + n), true) := by simp [next]
        rw [e, en]
        simp -implicitDefEqProofs only [ir12, qr, hr, hlen, hg, h0, qw _ (IntKind.i64.wrap (was + n)) h0 hlt, go_sem, Nat.reduceAdd, Nat.reduceMul, Nat.reduceSub, Nat.reduceLeDiff, Nat.reduceEqDiff, Nat.reduceBEq, Nat.reduceLT, Int.reduceLE, Int.reduceLT, Int.reduceEq, Int.reduceNeg, Int.reduceAdd, Int.reduceMul, Int.reduceSub, Int.reduceToNat, reduceCtorEq, reduceIte]
      · have en : next was 5 o n = (n, true) := by simp [next]
        rw [e, en]
        simp -implicitDefEqProofs only [ir12, qr, hr, hlen, hg, h0, qw _ n h0 hlt, go_sem, Nat.reduceAdd, Nat.reduceMul, Nat.reduceSub, Nat.reduceLeDiff, Nat.reduceEqDiff, Nat.reduceBEq, Nat.reduceLT, Int.reduceLE, Int.reduceLT, Int.reduceEq, Int.reduceNeg, Int.reduceAdd, Int.reduceMul, Int.reduceSub, Int.reduceToNat, reduceCtorEq, reduceIte]

theorem p_refDo (l : List Int) (a : A4) (hl : l.length ≤ 100000) : callP (evalCall fns NN (d + 2)) 12 [.agg [.sl .view 1 (ints l)], .agg [I a.1, I a.2.1, I a.2.2.1, I a.2.2.2]] h =
    .ok (.tup [.agg [.sl .view 1 (ints (stepA l a).1)], .agg [I (stepA l a).2.1.1, B (stepA l a).2.1.2], I (stepA l a).2.2]) h := by
  refine callP_of (v := .tup [.agg [.sl .view 1 (ints (stepA l a).1)], .agg [I (stepA l a).2.1.1, B (stepA l a).2.1.2], I (stepA l a).2.2]) (h' := []) (by simp -implicitDefEqProofs only [go_sem, Nat.reduceAdd, Nat.reduceMul, Nat.reduceSub, Nat.reduceLeDiff, Nat.reduceEqDiff, Nat.reduceBEq, Nat.reduceLT, Int.reduceLE, Int.reduceLT, Int.reduceEq, Int.reduceNeg, Int.reduceAdd, Int.reduceMul, Int.reduceSub, Int.reduceToNat, reduceCtorEq, reduceIte]) rfl ?_ (by simp -implicitDefEqProofs only [go_sem, Nat.reduceAdd, Nat.reduceMul, Nat.reduceSub, Nat.reduceLeDiff, Nat.reduceEqDiff, Nat.reduceBEq, Nat.reduceLT, Int.reduceLE, Int.reduceLT, Int.reduceEq, Int.reduceNeg, Int.reduceAdd, Int.reduceMul, Int.reduceSub, Int.reduceToNat, reduceCtorEq, reduceIte])
  rw [call_eq rfl]
  exact body_refDo _ l _ _ _ _ (fun h => p_refRight _ _ _ _) (fun h x h0 hlt => p_with l _ x h0 hlt hl)
end Go.D.Mem
