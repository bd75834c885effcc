/- The law WireApart of 'wire', in the evaluator. -/
import Derived.Test.YtfbpnbomcogkcaaQqWireB
set_option linter.unusedSimpArgs false
set_option linter.unusedVariables false
namespace Go.D.Wire
open Go.D
set_option maxRecDepth 10000
set_option maxHeartbeats 1000000
variable {d : Nat} {h : Heap}

theorem body_Apart (ev : FuncId → List DV → Heap → Res DV) (ha : ∀ h, callP ev 14 [] h = .ok (B true) h)
    (q1 : ∀ h n, inI n → callP ev 16 [I n] h = .ok (.sl .own 1 (u8s (put n))) h)
    (q3 : ∀ h (a b : List Int) ma mb, a.length ≤ 90000 → callP ev 15 [.sl ma 1 (u8s a), .sl mb 1 (u8s b)] h = .ok (B (decide (a = b))) h) (m n : Int) (hm : inI m) (hn : inI n) :
    evalF ev NN ir9 [I m, I n] [] = .ok (B true) [] := by
  have hl := put_len m
  have p1 := fun h => q1 h m hm
  have p2 := fun h => q1 h n hn
  have p3 := fun h ma mb => q3 h (put m) (put n) ma mb (by omega)
  by_cases hmn : m = n
  · subst hmn
    have hlen : ¬ ((put m).length : Int) < ((put m).length : Int) := by omega
    by_cases h0 : 0 ≤ m
    · have h00 : ¬ m < 0 := by omega
      simp -implicitDefEqProofs only [ir9, ha, p1, p3, h0, h00, hlen, go_sem, Nat.reduceAdd, Nat.reduceMul, Nat.reduceSub, Nat.reduceLeDiff, Nat.reduceEqDiff, Nat.reduceBEq, Nat.reduceLT, Int.reduceLE, Int.reduceLT, Int.reduceEq, Int.reduceNeg, Int.reduceAdd, Int.reduceMul, Int.reduceSub, Int.reduceToNat, reduceCtorEq, reduceIte]
    · have h00 : m < 0 := by omega
      simp -implicitDefEqProofs only [ir9, ha, p1, p3, h0, h00, hlen, go_sem, Nat.reduceAdd, Nat.reduceMul, Nat.reduceSub, Nat.reduceLeDiff, Nat.reduceEqDiff, Nat.reduceBEq, Nat.reduceLT, Int.reduceLE, Int.reduceLT, Int.reduceEq, Int.reduceNeg, Int.reduceAdd, Int.reduceMul, Int.reduceSub, Int.reduceToNat, reduceCtorEq, reduceIte]
  · have hne : ¬ put m = put n := fun e => hmn (put_inj hm hn e)
    by_cases h0 : 0 ≤ m <;> by_cases h1 : 0 ≤ n
    · have h00 : ¬ m < 0 := by omega
      by_cases hle : m ≤ n
      · have hlen : ¬ ((put n).length : Int) < ((put m).length : Int) := by have := put_mono hn (.inl ⟨h0, hle⟩); omega
        simp -implicitDefEqProofs only [ir9, ha, p1, p2, p3, h0, h1, h00, hle, hlen, hmn, hne, go_sem, Nat.reduceAdd, Nat.reduceMul, Nat.reduceSub, Nat.reduceLeDiff, Nat.reduceEqDiff, Nat.reduceBEq, Nat.reduceLT, Int.reduceLE, Int.reduceLT, Int.reduceEq, Int.reduceNeg, Int.reduceAdd, Int.reduceMul, Int.reduceSub, Int.reduceToNat, reduceCtorEq, reduceIte]
      · simp -implicitDefEqProofs only [ir9, ha, p1, p2, p3, h0, h1, h00, hle, hmn, hne, go_sem, Nat.reduceAdd, Nat.reduceMul, Nat.reduceSub, Nat.reduceLeDiff, Nat.reduceEqDiff, Nat.reduceBEq, Nat.reduceLT, Int.reduceLE, Int.reduceLT, Int.reduceEq, Int.reduceNeg, Int.reduceAdd, Int.reduceMul, Int.reduceSub, Int.reduceToNat, reduceCtorEq, reduceIte]
    · simp -implicitDefEqProofs only [ir9, ha, p1, p2, p3, h0, h1, hmn, hne, go_sem, Nat.reduceAdd, Nat.reduceMul, Nat.reduceSub, Nat.reduceLeDiff, Nat.reduceEqDiff, Nat.reduceBEq, Nat.reduceLT, Int.reduceLE, Int.reduceLT, Int.reduceEq, Int.reduceNeg, Int.reduceAdd, Int.reduceMul, Int.reduceSub, Int.reduceToNat, reduceCtorEq, reduceIte]
    · simp -implicitDefEqProofs only [ir9, ha, p1, p2, p3, h0, h1, hmn, hne, go_sem, Nat.reduceAdd, Nat.reduceMul, Nat.reduceSub, Nat.reduceLeDiff, Nat.reduceEqDiff, Nat.reduceBEq, Nat.reduceLT, Int.reduceLE, Int.reduceLT, Int.reduceEq, Int.reduceNeg, Int.reduceAdd, Int.reduceMul, Int.reduceSub, Int.reduceToNat, reduceCtorEq, reduceIte]
    · have h00 : m < 0 := by omega
      by_cases hle : n ≤ m
      · have hlen : ¬ ((put n).length : Int) < ((put m).length : Int) := by have := put_mono hn (.inr ⟨h00, hle⟩); omega
        simp -implicitDefEqProofs only [ir9, ha, p1, p2, p3, h0, h1, h00, hle, hlen, hmn, hne, go_sem, Nat.reduceAdd, Nat.reduceMul, Nat.reduceSub, Nat.reduceLeDiff, Nat.reduceEqDiff, Nat.reduceBEq, Nat.reduceLT, Int.reduceLE, Int.reduceLT, Int.reduceEq, Int.reduceNeg, Int.reduceAdd, Int.reduceMul, Int.reduceSub, Int.reduceToNat, reduceCtorEq, reduceIte]
      · simp -implicitDefEqProofs only [ir9, ha, p1, p2, p3, h0, h1, h00, hle, hmn, hne, go_sem, Nat.reduceAdd, Nat.reduceMul, Nat.reduceSub, Nat.reduceLeDiff, Nat.reduceEqDiff, Nat.reduceBEq, Nat.reduceLT, Int.reduceLE, Int.reduceLT, Int.reduceEq, Int.reduceNeg, Int.reduceAdd, Int.reduceMul, Int.reduceSub, Int.reduceToNat, reduceCtorEq, reduceIte]

theorem law_Apart (d : Nat) (m n : Int) (hm : inI m) (hn : inI n) : evalCall fns NN (d + 11) 9 [I m, I n] [] = .ok (B true) [] := by
  rw [call_eq rfl]
  exact body_Apart _ (fun h => p_alive) (fun h n hn => p_Put (d := d + 9) n hn.1 hn.2) (fun h a b ma mb hl => p_Same (d := d + 9) a b ma mb hl) m n hm hn
end Go.D.Wire
