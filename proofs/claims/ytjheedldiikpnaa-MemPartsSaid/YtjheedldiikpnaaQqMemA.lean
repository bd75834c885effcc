/- What the functions of 'mem' and its reference compute. -/
import Derived.Test.YtjheedldiikpnaaQqSym
import Derived.Test.YtjheedldiikpnaaQqMemIR
set_option linter.unusedSimpArgs false
set_option linter.unusedVariables false
namespace Go.D.Mem
open Go.D
set_option maxRecDepth 10000

def right (k c o n : Int) : Bool := decide (0 ≤ c) && (if k = 1 then decide (n = 0) && decide (o = 0) else if k = 2 ∨ k = 4 ∨ k = 5 then decide (o = 0) else decide (k = 3))
def acc (k c o n : Int) : DV := .agg [I k, I c, I o, I n]
def mm (l : List Int) : DV := .agg [.sl .view 1 (ints l)]
def res (v : Int) (b : Bool) : DV := .agg [I v, B b]
def next (was k o n : Int) : Int × Bool :=
  if k = 2 ∨ k = 5 then (n, true) else if k = 4 then (IntKind.i64.wrap (was + n), true) else if k = 3 then (if was = o then (n, true) else (was, false)) else (was, true)

variable {d : Nat} {h : Heap}
set_option maxHeartbeats 2000000
theorem p_Right (k c o n : Int) : callP (evalCall fns NN (d + 1)) 13 [acc k c o n] h = .ok (B (right k c o n)) h := by
  refine callP_of (v := B (right k c o n)) (h' := []) rfl rfl ?_ rfl
  rw [call_eq rfl]
  by_cases h1 : 0 ≤ c
  all_goals
    by_cases h2 : k = 1
    · subst h2
      by_cases h7 : n = 0 <;> by_cases h8 : o = 0 <;> simp -implicitDefEqProofs only [ir13, acc, right, h1, h7, h8, go_sem, Nat.reduceAdd, Nat.reduceMul, Nat.reduceSub, Nat.reduceLeDiff, Nat.reduceEqDiff, Nat.reduceBEq, Nat.reduceLT, Int.reduceLE, Int.reduceLT, Int.reduceEq, Int.reduceNeg, Int.reduceAdd, Int.reduceMul, Int.reduceSub, Int.reduceToNat, reduceCtorEq, reduceIte]
    · by_cases h3 : k = 2
      · subst h3
        by_cases h8 : o = 0 <;> simp -implicitDefEqProofs only [ir13, acc, right, h1, h8, true_or, go_sem, Nat.reduceAdd, Nat.reduceMul, Nat.reduceSub, Nat.reduceLeDiff, Nat.reduceEqDiff, Nat.reduceBEq, Nat.reduceLT, Int.reduceLE, Int.reduceLT, Int.reduceEq, Int.reduceNeg, Int.reduceAdd, Int.reduceMul, Int.reduceSub, Int.reduceToNat, reduceCtorEq, reduceIte]
      · by_cases h4 : k = 3
        · subst h4
          simp -implicitDefEqProofs only [ir13, acc, right, h1, or_self, false_or, or_false, go_sem, Nat.reduceAdd, Nat.reduceMul, Nat.reduceSub, Nat.reduceLeDiff, Nat.reduceEqDiff, Nat.reduceBEq, Nat.reduceLT, Int.reduceLE, Int.reduceLT, Int.reduceEq, Int.reduceNeg, Int.reduceAdd, Int.reduceMul, Int.reduceSub, Int.reduceToNat, reduceCtorEq, reduceIte]
        · by_cases h5 : k = 4
          · subst h5
            by_cases h8 : o = 0 <;> simp -implicitDefEqProofs only [ir13, acc, right, h1, h8, true_or, or_true, go_sem, Nat.reduceAdd, Nat.reduceMul, Nat.reduceSub, Nat.reduceLeDiff, Nat.reduceEqDiff, Nat.reduceBEq, Nat.reduceLT, Int.reduceLE, Int.reduceLT, Int.reduceEq, Int.reduceNeg, Int.reduceAdd, Int.reduceMul, Int.reduceSub, Int.reduceToNat, reduceCtorEq, reduceIte]
          · by_cases h6 : k = 5
            · subst h6
              by_cases h8 : o = 0 <;> simp -implicitDefEqProofs only [ir13, acc, right, h1, h8, true_or, or_true, go_sem, Nat.reduceAdd, Nat.reduceMul, Nat.reduceSub, Nat.reduceLeDiff, Nat.reduceEqDiff, Nat.reduceBEq, Nat.reduceLT, Int.reduceLE, Int.reduceLT, Int.reduceEq, Int.reduceNeg, Int.reduceAdd, Int.reduceMul, Int.reduceSub, Int.reduceToNat, reduceCtorEq, reduceIte]
            · simp -implicitDefEqProofs only [ir13, acc, right, h1, h2, h3, h4, h5, h6, or_self, go_sem, Nat.reduceAdd, Nat.reduceMul, Nat.reduceSub, Nat.reduceLeDiff, Nat.reduceEqDiff, Nat.reduceBEq, Nat.reduceLT, Int.reduceLE, Int.reduceLT, Int.reduceEq, Int.reduceNeg, Int.reduceAdd, Int.reduceMul, Int.reduceSub, Int.reduceToNat, reduceCtorEq, reduceIte]

theorem p_next (was k c o n : Int) : callP (evalCall fns NN (d + 1)) 20 [I was, acc k c o n] h = .ok (.tup [I (next was k o n).1, B (next was k o n).2]) h := by
  refine callP_of (v := .tup [I (next was k o n).1, B (next was k o n).2]) (h' := []) rfl rfl ?_ rfl
  rw [call_eq rfl]
  by_cases h3 : k = 2
  · subst h3; simp -implicitDefEqProofs only [ir20, acc, next, true_or, go_sem, Nat.reduceAdd, Nat.reduceMul, Nat.reduceSub, Nat.reduceLeDiff, Nat.reduceEqDiff, Nat.reduceBEq, Nat.reduceLT, Int.reduceLE, Int.reduceLT, Int.reduceEq, Int.reduceNeg, Int.reduceAdd, Int.reduceMul, Int.reduceSub, Int.reduceToNat, reduceCtorEq, reduceIte]
  · by_cases h4 : k = 3
    · subst h4; by_cases h8 : was = o
      · subst h8; simp -implicitDefEqProofs only [ir20, acc, next, or_self, go_sem, Nat.reduceAdd, Nat.reduceMul, Nat.reduceSub, Nat.reduceLeDiff, Nat.reduceEqDiff, Nat.reduceBEq, Nat.reduceLT, Int.reduceLE, Int.reduceLT, Int.reduceEq, Int.reduceNeg, Int.reduceAdd, Int.reduceMul, Int.reduceSub, Int.reduceToNat, reduceCtorEq, reduceIte]
      · simp -implicitDefEqProofs only [ir20, acc, next, or_self, h8, go_sem, Nat.reduceAdd, Nat.reduceMul, Nat.reduceSub, Nat.reduceLeDiff, Nat.reduceEqDiff, Nat.reduceBEq, Nat.reduceLT, Int.reduceLE, Int.reduceLT, Int.reduceEq, Int.reduceNeg, Int.reduceAdd, Int.reduceMul, Int.reduceSub, Int.reduceToNat, reduceCtorEq, reduceIte]
    · by_cases h5 : k = 4
      · subst h5; simp -implicitDefEqProofs only [ir20, acc, next, or_self, go_sem, Nat.reduceAdd, Nat.reduceMul, Nat.reduceSub, Nat.reduceLeDiff, Nat.reduceEqDiff, Nat.reduceBEq, Nat.reduceLT, Int.reduceLE, Int.reduceLT, Int.reduceEq, Int.reduceNeg, Int.reduceAdd, Int.reduceMul, Int.reduceSub, Int.reduceToNat, reduceCtorEq, reduceIte]
      · by_cases h6 : k = 5
        · subst h6; simp -implicitDefEqProofs only [ir20, acc, next, or_true, go_sem, Nat.reduceAdd, Nat.reduceMul, Nat.reduceSub, Nat.reduceLeDiff, Nat.reduceEqDiff, Nat.reduceBEq, Nat.reduceLT, Int.reduceLE, Int.reduceLT, Int.reduceEq, Int.reduceNeg, Int.reduceAdd, Int.reduceMul, Int.reduceSub, Int.reduceToNat, reduceCtorEq, reduceIte]
        · simp -implicitDefEqProofs only [ir20, acc, next, h3, h4, h5, h6, or_self, go_sem, Nat.reduceAdd, Nat.reduceMul, Nat.reduceSub, Nat.reduceLeDiff, Nat.reduceEqDiff, Nat.reduceBEq, Nat.reduceLT, Int.reduceLE, Int.reduceLT, Int.reduceEq, Int.reduceNeg, Int.reduceAdd, Int.reduceMul, Int.reduceSub, Int.reduceToNat, reduceCtorEq, reduceIte]
end Go.D.Mem
