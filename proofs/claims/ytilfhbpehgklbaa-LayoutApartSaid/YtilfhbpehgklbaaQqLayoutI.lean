/- Rows of numbers that are the same. -/
import Derived.Test.YtilfhbpehgklbaaQqLayoutA
set_option linter.unusedSimpArgs false
set_option linter.unusedVariables false
namespace Go.D.Layout
open Go.D
set_option maxRecDepth 10000
set_option maxHeartbeats 1000000
variable {d : Nat} {h : Heap}

theorem take_more {α : Type} [DecidableEq α] {a b : List α} {k : Nat} {x y : α} (ha : a[k]? = some x) (hb : b[k]? = some y) (ht : a.take k = b.take k) : a.take (k + 1) = b.take (k + 1) ↔ x = y := by
  rw [List.take_add_one, List.take_add_one, ha, hb, ht]; simp

theorem loop_Ints (ev : FuncId → List DV → Heap → Res DV) (a b : List Int) (ma mb : Mode) (hab : a.length = b.length) (hl : a.length ≤ 100000) : ∀ n k, k ≤ a.length → a.length - k < n → a.take k = b.take k → ∀ (v3 x4 x5 : DV), ∃ y4 y5 y6,
    iter (evalC ev NN ir17_l0) n ⟨[.sl ma 1 (ints a), .sl mb 1 (ints b), B false, v3, x4, x5, I k], [], h⟩ =
      if a = b then .exit 0 ⟨[.sl ma 1 (ints a), .sl mb 1 (ints b), B false, v3, y4, y5, y6], [], h⟩ else .ret ⟨[.sl ma 1 (ints a), .sl mb 1 (ints b), B false, v3, y4, y5, y6], [], h⟩ := by
  intro n
  induction n with
  | zero => intro k _ h2; omega
  | succ n ih =>
    intro k hk hn ht v3 x4 x5
    by_cases hlt : k < a.length
    · obtain ⟨x, hx⟩ : ∃ x, a[k]? = some x := ⟨_, List.getElem?_eq_getElem hlt⟩
      obtain ⟨y, hy⟩ : ∃ y, b[k]? = some y := ⟨_, List.getElem?_eq_getElem (by omega)⟩
      have hlt' : (k : Int) < (a.length : Int) := by omega
      by_cases hxy : x = y
      · subst hxy
        obtain ⟨y4, y5, y6, e⟩ := ih (k + 1) (by omega) (by omega) ((take_more hx hy ht).2 rfl) v3 (B true) (B false)
        refine ⟨y4, y5, y6, ?_⟩
        simp -implicitDefEqProofs only [iter, ir17_l0, hlt', hx, hy, wrap_succ (show k < 4611686018427387904 by omega), go_sem, Nat.reduceAdd, Nat.reduceMul, Nat.reduceSub, Nat.reduceLeDiff, Nat.reduceEqDiff, Nat.reduceBEq, Nat.reduceLT, Int.reduceLE, Int.reduceLT, Int.reduceEq, Int.reduceNeg, Int.reduceAdd, Int.reduceMul, Int.reduceSub, Int.reduceToNat, reduceCtorEq, ↓reduceIte]
        exact e
      · refine ⟨B true, B true, I k, ?_⟩
        have hne : a ≠ b := fun e => hxy ((take_more hx hy ht).1 (by rw [e]))
        simp -implicitDefEqProofs only [iter, ir17_l0, hlt', hx, hy, hxy, hne, go_sem, Nat.reduceAdd, Nat.reduceMul, Nat.reduceSub, Nat.reduceLeDiff, Nat.reduceEqDiff, Nat.reduceBEq, Nat.reduceLT, Int.reduceLE, Int.reduceLT, Int.reduceEq, Int.reduceNeg, Int.reduceAdd, Int.reduceMul, Int.reduceSub, Int.reduceToNat, reduceCtorEq, ↓reduceIte]
    · have hka : k = a.length := by omega
      subst hka
      have hlt' : ¬ ((a.length : Nat) : Int) < (a.length : Int) := by omega
      have he : a = b := by rwa [List.take_length, hab, List.take_length] at ht
      refine ⟨B false, x5, I a.length, ?_⟩
      rw [if_pos he]
      simp -implicitDefEqProofs only [iter, ir17_l0, hlt', go_sem, Nat.reduceAdd, Nat.reduceMul, Nat.reduceSub, Nat.reduceLeDiff, Nat.reduceEqDiff, Nat.reduceBEq, Nat.reduceLT, Int.reduceLE, Int.reduceLT, Int.reduceEq, Int.reduceNeg, Int.reduceAdd, Int.reduceMul, Int.reduceSub, Int.reduceToNat, reduceCtorEq, ↓reduceIte]

theorem p_Ints (a b : List Int) (ma mb : Mode) (hl : a.length ≤ 90000) : callP (evalCall fns NN (d + 1)) 17 [.sl ma 1 (ints a), .sl mb 1 (ints b)] h = .ok (B (decide (a = b))) h := by
  refine callP_of (v := B (decide (a = b))) (h' := []) (by simp -implicitDefEqProofs only [go_sem, Nat.reduceAdd, Nat.reduceMul, Nat.reduceSub, Nat.reduceLeDiff, Nat.reduceEqDiff, Nat.reduceBEq, Nat.reduceLT, Int.reduceLE, Int.reduceLT, Int.reduceEq, Int.reduceNeg, Int.reduceAdd, Int.reduceMul, Int.reduceSub, Int.reduceToNat, reduceCtorEq, ↓reduceIte]) rfl ?_ rfl
  rw [call_eq rfl]
  generalize evalCall fns NN d = ev
  by_cases hab : a.length = b.length
  · obtain ⟨y4, y5, y6, e⟩ := loop_Ints ev (h := []) a b ma mb hab (by omega) NN 0 (by omega) (by unfold NN; omega) rfl (B false) .junk .junk
    simp only [cast0] at e
    by_cases he : a = b
    · rw [if_pos he] at e
      simp -implicitDefEqProofs only [ir17, hab, he, go_sem, Nat.reduceAdd, Nat.reduceMul, Nat.reduceSub, Nat.reduceLeDiff, Nat.reduceEqDiff, Nat.reduceBEq, Nat.reduceLT, Int.reduceLE, Int.reduceLT, Int.reduceEq, Int.reduceNeg, Int.reduceAdd, Int.reduceMul, Int.reduceSub, Int.reduceToNat, reduceCtorEq, ↓reduceIte] at e ⊢
      simp -implicitDefEqProofs only [e, go_sem, Nat.reduceAdd, Nat.reduceMul, Nat.reduceSub, Nat.reduceLeDiff, Nat.reduceEqDiff, Nat.reduceBEq, Nat.reduceLT, Int.reduceLE, Int.reduceLT, Int.reduceEq, Int.reduceNeg, Int.reduceAdd, Int.reduceMul, Int.reduceSub, Int.reduceToNat, reduceCtorEq, ↓reduceIte]
    · rw [if_neg he] at e
      simp -implicitDefEqProofs only [ir17, hab, he, go_sem, Nat.reduceAdd, Nat.reduceMul, Nat.reduceSub, Nat.reduceLeDiff, Nat.reduceEqDiff, Nat.reduceBEq, Nat.reduceLT, Int.reduceLE, Int.reduceLT, Int.reduceEq, Int.reduceNeg, Int.reduceAdd, Int.reduceMul, Int.reduceSub, Int.reduceToNat, reduceCtorEq, ↓reduceIte] at e ⊢
      simp -implicitDefEqProofs only [e, go_sem, Nat.reduceAdd, Nat.reduceMul, Nat.reduceSub, Nat.reduceLeDiff, Nat.reduceEqDiff, Nat.reduceBEq, Nat.reduceLT, Int.reduceLE, Int.reduceLT, Int.reduceEq, Int.reduceNeg, Int.reduceAdd, Int.reduceMul, Int.reduceSub, Int.reduceToNat, reduceCtorEq, ↓reduceIte]
  · have he : a ≠ b := fun e => hab (by rw [e])
    have hab' : ¬ ((a.length : Int) = (b.length : Int)) := by omega
    simp -implicitDefEqProofs only [ir17, hab', he, go_sem, Nat.reduceAdd, Nat.reduceMul, Nat.reduceSub, Nat.reduceLeDiff, Nat.reduceEqDiff, Nat.reduceBEq, Nat.reduceLT, Int.reduceLE, Int.reduceLT, Int.reduceEq, Int.reduceNeg, Int.reduceAdd, Int.reduceMul, Int.reduceSub, Int.reduceToNat, reduceCtorEq, ↓reduceIte]

end Go.D.Layout
