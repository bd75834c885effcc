/- The laws MemSums and MemOne of 'mem', in the evaluator. -/
import Derived.Test.YtjheedldiikpnaaQqMemD
import Derived.KernelRfl
set_option linter.unusedSimpArgs false
set_option linter.unusedVariables false
namespace Go.D.Mem
open Go.D
set_option maxRecDepth 10000
variable {d : Nat} {h : Heap}
set_option maxHeartbeats 1000000

theorem e_shown : ∀ d, evalCall fns NN (d + 10) 10 [] [] = .ok (B true) [] := fun d => by kernel_rfl
theorem p_shown : callP (evalCall fns NN (d + 10)) 10 [] h = .ok (B true) h := callP_of (v := B true) rfl rfl (e_shown d) rfl

theorem q_add (s x : Int) : callP (evalCall fns NN (d + 2)) 11 [.agg [.sl .view 1 [I 0, I s]], .agg [I 4, I 1, I 0, I x]] h = .ok (.tup [.agg [.sl .view 1 [I 0, I (IntKind.i64.wrap (s + x))]], .agg [I s, B true], I 0]) h := by
  have := p_Do' (d := d) (h := h) [0, s] (4, 1, 0, x) (by simp)
  simpa [stepA, step, right, next, ints] using this

def sumW (s : Int) : List Int → Int
  | [] => s
  | x :: r => sumW (IntKind.i64.wrap (s + x)) r

def QSums (h : Heap) (v0 v1 v5 v9 : DV) (fs : Int) : Ex → Prop
  | .exit i s => i = 0 ∧ ∃ mo y3 y4 y6 y7 y8 y10 y11, vm mo = .view ∧ s = ⟨[v0, v1, .box [.sl mo 1 [I 0, I fs]], y3, y4, v5, y6, y7, y8, v9, y10, y11, I fs], [], h⟩
  | _ => False

theorem loop_Sums (ev : FuncId → List DV → Heap → Res DV) (q : ∀ h s x, callP ev 11 [.agg [.sl .view 1 [I 0, I s]], .agg [I 4, I 1, I 0, I x]] h = .ok (.tup [.agg [.sl .view 1 [I 0, I (IntKind.i64.wrap (s + x))]], .agg [I s, B true], I 0]) h) (l : List Int) (hl : l.length ≤ 40) (v1 : Int) (v5 v9 : DV) (hv5 : ∀ p, isLref v5 p = false) (hv9 : ∀ p, isLref v9 p = false) (fs : Int) : ∀ n k, k ≤ l.length → l.length - k < n → ∀ (mo : Mode) (s : Int) (x3 x4 x6 x7 x8 x11 : DV),
    vm mo = .view → (∀ p, isLref x3 p = false) → (∀ p, isLref x4 p = false) → (∀ p, isLref x6 p = false) → (∀ p, isLref x7 p = false) → (∀ p, isLref x8 p = false) → (∀ p, isLref x11 p = false) → fs = sumW s (l.drop k) →
    QSums h (.sl .view 1 (ints l)) (I v1) v5 v9 fs (iter (evalC ev NN ir8_l0) n ⟨[.sl .view 1 (ints l), I v1, .box [.sl mo 1 [I 0, I s]], x3, x4, v5, x6, x7, x8, v9, I k, x11, I s], [], h⟩) := by
  intro n
  induction n with
  | zero => intro k _ h2; omega
  | succ n ih =>
    intro k hk hn mo s x3 x4 x6 x7 x8 x11 hmo h3 h4 h6 h7 h8 h11 hfs
    by_cases hlt : k < l.length
    · obtain ⟨x, hx⟩ : ∃ x, l[k]? = some x := ⟨_, List.getElem?_eq_getElem hlt⟩
      have hlt' : (k : Int) < (l.length : Int) := by omega
      rw [drop_at hx, sumW] at hfs
      have e := ih (k + 1) (by omega) (by omega) .view (IntKind.i64.wrap (s + x)) (.box [.sl .view 1 [I 0, I (IntKind.i64.wrap (s + x))]]) (.box [I s, B true]) x6 (B true) (B false) (I 0) rfl (fun _ => rfl) (fun _ => rfl) h6 (fun _ => rfl) (fun _ => rfl) (fun _ => rfl) hfs
      refine cast (congrArg _ ?_) e
      simp -implicitDefEqProofs only [iter, ir8_l0, hlt', hx, q, hmo, hv5, hv9, h3, h4, h6, h7, h8, h11, wrap_succ (show k < 4611686018427387904 by omega), go_sem, Nat.reduceAdd, Nat.reduceMul, Nat.reduceSub, Nat.reduceLeDiff, Nat.reduceEqDiff, Nat.reduceBEq, Nat.reduceLT, Int.reduceLE, Int.reduceLT, Int.reduceEq, Int.reduceNeg, Int.reduceAdd, Int.reduceMul, Int.reduceSub, Int.reduceToNat, reduceCtorEq, reduceIte]
    · have hka : k = l.length := by omega
      subst hka
      have hlt' : ¬ ((l.length : Nat) : Int) < (l.length : Int) := by omega
      rw [List.drop_length, sumW] at hfs
      subst hfs
      simp -implicitDefEqProofs only [iter, ir8_l0, hlt', go_sem, Nat.reduceAdd, Nat.reduceMul, Nat.reduceSub, Nat.reduceLeDiff, Nat.reduceEqDiff, Nat.reduceBEq, Nat.reduceLT, Int.reduceLE, Int.reduceLT, Int.reduceEq, Int.reduceNeg, Int.reduceAdd, Int.reduceMul, Int.reduceSub, Int.reduceToNat, reduceCtorEq, reduceIte]
      exact ⟨rfl, _, _, _, _, _, _, _, _, hmo, rfl⟩

theorem body_Sums (ev : FuncId → List DV → Heap → Res DV) (hs : ∀ h, callP ev 10 [] h = .ok (B true) h)
    (q : ∀ h s x, callP ev 11 [.agg [.sl .view 1 [I 0, I s]], .agg [I 4, I 1, I 0, I x]] h = .ok (.tup [.agg [.sl .view 1 [I 0, I (IntKind.i64.wrap (s + x))]], .agg [I s, B true], I 0]) h)
    (q2 : ∀ h s, callP ev 16 [.agg [.sl .view 1 [I 0, I s]], .agg [.sl .view 1 [I 0, I s]]] h = .ok (B true) h) (l : List Int) (v : Int) : evalF ev NN ir8 [.sl .view 1 (ints l), I v] [] = .ok (B true) [] := by
  by_cases hl : (40 : Int) < (l.length : Int)
  · simp -implicitDefEqProofs only [ir8, hs, hl, go_sem, Nat.reduceAdd, Nat.reduceMul, Nat.reduceSub, Nat.reduceLeDiff, Nat.reduceEqDiff, Nat.reduceBEq, Nat.reduceLT, Int.reduceLE, Int.reduceLT, Int.reduceEq, Int.reduceNeg, Int.reduceAdd, Int.reduceMul, Int.reduceSub, Int.reduceToNat, reduceCtorEq, reduceIte]
  · have e := loop_Sums (h := []) ev q l (by omega) v (.sc (.bool false)) (.sc (.bool true)) (fun _ => rfl) (fun _ => rfl) (sumW v l) NN 0 (by omega) (by unfold NN; omega) .own v .junk .junk (.sc (.bool false)) .junk .junk .junk rfl (fun _ => rfl) (fun _ => rfl) (fun _ => rfl) (fun _ => rfl) (fun _ => rfl) (fun _ => rfl) (by simp)
    simp only [cast0] at e
    simp -implicitDefEqProofs only [ir8, hs, hl, go_sem, Nat.reduceAdd, Nat.reduceMul, Nat.reduceSub, Nat.reduceLeDiff, Nat.reduceEqDiff, Nat.reduceBEq, Nat.reduceLT, Int.reduceLE, Int.reduceLT, Int.reduceEq, Int.reduceNeg, Int.reduceAdd, Int.reduceMul, Int.reduceSub, Int.reduceToNat, reduceCtorEq, reduceIte]
    revert e
    generalize iter _ _ _ = E
    intro e
    cases E with
    | exit i s =>
      obtain ⟨rfl, mo, y3, y4, y6, y7, y8, y10, y11, hmo, rfl⟩ := e
      simp -implicitDefEqProofs only [q2, hmo, go_sem, Nat.reduceAdd, Nat.reduceMul, Nat.reduceSub, Nat.reduceLeDiff, Nat.reduceEqDiff, Nat.reduceBEq, Nat.reduceLT, Int.reduceLE, Int.reduceLT, Int.reduceEq, Int.reduceNeg, Int.reduceAdd, Int.reduceMul, Int.reduceSub, Int.reduceToNat, reduceCtorEq, reduceIte]
    | ret s => exact e.elim
    | norm s => exact e.elim
    | pan v h => exact e.elim
    | no => exact e.elim

theorem law_Sums (d : Nat) (l : List Int) (v : Int) : evalCall fns NN (d + 11) 8 [.sl .view 1 (ints l), I v] [] = .ok (B true) [] := by
  rw [call_eq rfl]
  exact body_Sums _ (fun h => p_shown) (fun h s x => q_add (d := d + 8) s x) (fun h s => by
    have q := p_refSame (d := d + 9) (h := h) [0, s] [0, s] .view .view (by simp)
    simpa [ints] using q) l v

theorem q_first (n x : Int) : callP (evalCall fns NN (d + 2)) 11 [.agg [.sl .view 1 [I n]], .agg [I 3, I 0, I n, I x]] h = .ok (.tup [.agg [.sl .view 1 [I x]], .agg [I n, B true], I 0]) h := by
  have := p_Do' (d := d) (h := h) [n] (3, 0, n, x) (by simp)
  simpa [stepA, step, right, next, ints] using this

theorem q_late (n m x : Int) (hm : m ≠ n) : callP (evalCall fns NN (d + 2)) 11 [.agg [.sl .view 1 [I m]], .agg [I 3, I 0, I n, I x]] h = .ok (.tup [.agg [.sl .view 1 [I m]], .agg [I m, B false], I 0]) h := by
  have := p_Do' (d := d) (h := h) [m] (3, 0, n, x) (by simp)
  simpa [stepA, step, right, next, ints, hm] using this

def QOne (h : Heap) (n : Int) (l : List Int) (v11 : DV) (x0 : Int) : Ex → Prop
  | .exit i s => i = 0 ∧ ∃ v3 v4 v5 v6 v7 v8 v9 v10 v12 v13, s = ⟨[I n, .sl .view 1 (ints l), .box [.sl .view 1 [I x0]], v3, v4, v5, v6, v7, v8, v9, v10, v11, v12, v13, I 1], [], h⟩
  | .ret s => ∃ v0 v1 v2 v3 v4 v6 v7 v8 v9 v10 v12 v13 v14, s = ⟨[v0, v1, v2, v3, v4, B true, v6, v7, v8, v9, v10, v11, v12, v13, v14], [], h⟩
  | _ => False

/-- From the second comparison on. -/
theorem loop_One (ev : FuncId → List DV → Heap → Res DV) (n : Int) (q : ∀ h m x, m ≠ n → callP ev 11 [.agg [.sl .view 1 [I m]], .agg [I 3, I 0, I n, I x]] h = .ok (.tup [.agg [.sl .view 1 [I m]], .agg [I m, B false], I 0]) h) (l : List Int) (hl : l.length ≤ 20) (v5 : DV) (hv5 : ∀ p, isLref v5 p = false) (x0 : Int) (hx0 : x0 ≠ n) : ∀ m k, 1 ≤ k → k ≤ l.length → l.length - k < m → ∀ (x3 x4 x6 x7 x8 x9 x10 x13 : DV),
    (∀ p, isLref x3 p = false) → (∀ p, isLref x4 p = false) → (∀ p, isLref x6 p = false) → (∀ p, isLref x7 p = false) → (∀ p, isLref x8 p = false) → (∀ p, isLref x9 p = false) → (∀ p, isLref x10 p = false) → (∀ p, isLref x13 p = false) →
    QOne h n l (B true) x0 (iter (evalC ev NN ir9_l0) m ⟨[I n, .sl .view 1 (ints l), .box [.sl .view 1 [I x0]], x3, x4, v5, x6, x7, x8, x9, x10, B true, I k, x13, I 1], [], h⟩) := by
  intro m
  induction m with
  | zero => intro k _ _ h2; omega
  | succ m ih =>
    intro k hk1 hk hn x3 x4 x6 x7 x8 x9 x10 x13 h3 h4 h6 h7 h8 h9 h10 h13
    by_cases hlt : k < l.length
    · obtain ⟨x, hx⟩ : ∃ x, l[k]? = some x := ⟨_, List.getElem?_eq_getElem hlt⟩
      have hlt' : (k : Int) < (l.length : Int) := by omega
      by_cases hxn : x = n
      · simp -implicitDefEqProofs only [iter, ir9_l0, hlt', hx, hxn, go_sem, Nat.reduceAdd, Nat.reduceMul, Nat.reduceSub, Nat.reduceLeDiff, Nat.reduceEqDiff, Nat.reduceBEq, Nat.reduceLT, Int.reduceLE, Int.reduceLT, Int.reduceEq, Int.reduceNeg, Int.reduceAdd, Int.reduceMul, Int.reduceSub, Int.reduceToNat, reduceCtorEq, reduceIte]
        exact ⟨_, _, _, _, _, _, _, _, _, _, _, _, _, rfl⟩
      · replace q := q h x0 x hx0
        have hk0 : ¬ (k : Int) = 0 := by omega
        have e := ih (k + 1) (by omega) (by omega) (by omega) (.box [.sl .view 1 [I x0]]) (.box [I x0, B false]) x6 (B true) (B false) (B false) (B false) (I 0) (fun _ => rfl) (fun _ => rfl) h6 (fun _ => rfl) (fun _ => rfl) (fun _ => rfl) (fun _ => rfl) (fun _ => rfl)
        refine cast (congrArg _ ?_) e
        simp -implicitDefEqProofs only [iter, ir9_l0, hlt', hx, hxn, hk0, q, hv5, h3, h4, h6, h7, h8, h9, h10, h13, wrap_succ (show k < 4611686018427387904 by omega), go_sem, Nat.reduceAdd, Nat.reduceMul, Nat.reduceSub, Nat.reduceLeDiff, Nat.reduceEqDiff, Nat.reduceBEq, Nat.reduceLT, Int.reduceLE, Int.reduceLT, Int.reduceEq, Int.reduceNeg, Int.reduceAdd, Int.reduceMul, Int.reduceSub, Int.reduceToNat, reduceCtorEq, reduceIte]
    · have hka : k = l.length := by omega
      subst hka
      have hlt' : ¬ ((l.length : Nat) : Int) < (l.length : Int) := by omega
      simp -implicitDefEqProofs only [iter, ir9_l0, hlt', go_sem, Nat.reduceAdd, Nat.reduceMul, Nat.reduceSub, Nat.reduceLeDiff, Nat.reduceEqDiff, Nat.reduceBEq, Nat.reduceLT, Int.reduceLE, Int.reduceLT, Int.reduceEq, Int.reduceNeg, Int.reduceAdd, Int.reduceMul, Int.reduceSub, Int.reduceToNat, reduceCtorEq, reduceIte]
      exact ⟨rfl, _, _, _, _, _, _, _, _, _, _, rfl⟩

theorem body_One (ev : FuncId → List DV → Heap → Res DV) (hs : ∀ h, callP ev 10 [] h = .ok (B true) h) (n : Int)
    (q1 : ∀ h x, callP ev 11 [.agg [.sl .view 1 [I n]], .agg [I 3, I 0, I n, I x]] h = .ok (.tup [.agg [.sl .view 1 [I x]], .agg [I n, B true], I 0]) h)
    (q : ∀ h m x, m ≠ n → callP ev 11 [.agg [.sl .view 1 [I m]], .agg [I 3, I 0, I n, I x]] h = .ok (.tup [.agg [.sl .view 1 [I m]], .agg [I m, B false], I 0]) h)
    (q2 : ∀ h s, callP ev 16 [.agg [.sl .view 1 [I s]], .agg [.sl .view 1 [I s]]] h = .ok (B true) h) (l : List Int) : evalF ev NN ir9 [I n, .sl .view 1 (ints l)] [] = .ok (B true) [] := by
  by_cases hl : (20 : Int) < (l.length : Int)
  · simp -implicitDefEqProofs only [ir9, hs, hl, go_sem, Nat.reduceAdd, Nat.reduceMul, Nat.reduceSub, Nat.reduceLeDiff, Nat.reduceEqDiff, Nat.reduceBEq, Nat.reduceLT, Int.reduceLE, Int.reduceLT, Int.reduceEq, Int.reduceNeg, Int.reduceAdd, Int.reduceMul, Int.reduceSub, Int.reduceToNat, reduceCtorEq, reduceIte]
  · cases l with
    | nil => simp -implicitDefEqProofs only [ir9, hs, ints, List.map_nil, hl, go_sem, Nat.reduceAdd, Nat.reduceMul, Nat.reduceSub, Nat.reduceLeDiff, Nat.reduceEqDiff, Nat.reduceBEq, Nat.reduceLT, Int.reduceLE, Int.reduceLT, Int.reduceEq, Int.reduceNeg, Int.reduceAdd, Int.reduceMul, Int.reduceSub, Int.reduceToNat, reduceCtorEq, reduceIte]
    | cons x l =>
      have hl0 : ¬ (((x :: l).length : Nat) : Int) = 0 := by simp only [List.length_cons]; omega
      have hl1 : (0 : Int) < (((x :: l).length : Nat) : Int) := by simp only [List.length_cons]; omega
      have hx : (x :: l)[0]? = some x := rfl
      generalize hL : x :: l = L at hl hl0 hl1 hx ⊢
      -- the first comparison
      by_cases hxn : x = n
      · simp -implicitDefEqProofs only [ir9, hs, hl, hl0, go_sem, Nat.reduceAdd, Nat.reduceMul, Nat.reduceSub, Nat.reduceLeDiff, Nat.reduceEqDiff, Nat.reduceBEq, Nat.reduceLT, Int.reduceLE, Int.reduceLT, Int.reduceEq, Int.reduceNeg, Int.reduceAdd, Int.reduceMul, Int.reduceSub, Int.reduceToNat, reduceCtorEq, reduceIte]
        simp -implicitDefEqProofs only [iter_NN, ir9_l0, hl1, hx, hxn, go_sem, Nat.reduceAdd, Nat.reduceMul, Nat.reduceSub, Nat.reduceLeDiff, Nat.reduceEqDiff, Nat.reduceBEq, Nat.reduceLT, Int.reduceLE, Int.reduceLT, Int.reduceEq, Int.reduceNeg, Int.reduceAdd, Int.reduceMul, Int.reduceSub, Int.reduceToNat, reduceCtorEq, reduceIte]
      · have e := loop_One (h := []) ev n q L (by omega) (.sc (.bool false)) (fun _ => rfl) x hxn 99999 1 (by omega) (by omega) (by omega) (.box [.sl .view 1 [I x]]) (.box [I n, B true]) (.sc (.bool false)) (.sc (.bool true)) (.sc (.bool false)) (.sc (.bool false)) (.sc (.bool true)) (.sc (.int .i64 0)) (fun _ => rfl) (fun _ => rfl) (fun _ => rfl) (fun _ => rfl) (fun _ => rfl) (fun _ => rfl) (fun _ => rfl) (fun _ => rfl)
        have w1 : IntKind.i64.wrap 1 = 1 := by decide
        have w01 : IntKind.i64.wrap (0 + 1) = 1 := by decide
        simp only [cast1] at e
        have st : evalC ev NN ir9_l0 ⟨[I n, .sl .view 1 (ints L), .box [.sl .own 1 [I n]], .junk, .junk, B false, B false, .junk, .junk, .junk, .junk, B true, I 0, .junk, I 0], [], []⟩ =
            .norm ⟨[I n, .sl .view 1 (ints L), .box [.sl .view 1 [I x]], .box [.sl .view 1 [I x]], .box [I n, B true], B false, B false, B true, B false, B false, B true, B true, I 1, I 0, I 1], [], []⟩ := by
          simp -implicitDefEqProofs only [ir9_l0, hl1, hx, hxn, q1, w1, w01, go_sem, Nat.reduceAdd, Nat.reduceMul, Nat.reduceSub, Nat.reduceLeDiff, Nat.reduceEqDiff, Nat.reduceBEq, Nat.reduceLT, Int.reduceLE, Int.reduceLT, Int.reduceEq, Int.reduceNeg, Int.reduceAdd, Int.reduceMul, Int.reduceSub, Int.reduceToNat, reduceCtorEq, reduceIte]
        simp -implicitDefEqProofs only [ir9, hs, hl, hl0, iter_NN, st, go_sem, Nat.reduceAdd, Nat.reduceMul, Nat.reduceSub, Nat.reduceLeDiff, Nat.reduceEqDiff, Nat.reduceBEq, Nat.reduceLT, Int.reduceLE, Int.reduceLT, Int.reduceEq, Int.reduceNeg, Int.reduceAdd, Int.reduceMul, Int.reduceSub, Int.reduceToNat, reduceCtorEq, reduceIte]
        revert e
        generalize iter _ _ _ = E
        intro e
        cases E with
        | exit i s =>
          obtain ⟨rfl, v3, v4, v5, v6, v7, v8, v9, v10, v12, v13, rfl⟩ := e
          simp -implicitDefEqProofs only [q2, hx, go_sem, Nat.reduceAdd, Nat.reduceMul, Nat.reduceSub, Nat.reduceLeDiff, Nat.reduceEqDiff, Nat.reduceBEq, Nat.reduceLT, Int.reduceLE, Int.reduceLT, Int.reduceEq, Int.reduceNeg, Int.reduceAdd, Int.reduceMul, Int.reduceSub, Int.reduceToNat, reduceCtorEq, reduceIte]
        | ret s =>
          obtain ⟨v0, v1, v2, v3, v4, v6, v7, v8, v9, v10, v12, v13, v14, rfl⟩ := e
          simp -implicitDefEqProofs only [go_sem, Nat.reduceAdd, Nat.reduceMul, Nat.reduceSub, Nat.reduceLeDiff, Nat.reduceEqDiff, Nat.reduceBEq, Nat.reduceLT, Int.reduceLE, Int.reduceLT, Int.reduceEq, Int.reduceNeg, Int.reduceAdd, Int.reduceMul, Int.reduceSub, Int.reduceToNat, reduceCtorEq, reduceIte]
        | norm s => exact e.elim
        | pan v h => exact e.elim
        | no => exact e.elim

theorem law_One (d : Nat) (n : Int) (l : List Int) : evalCall fns NN (d + 11) 9 [I n, .sl .view 1 (ints l)] [] = .ok (B true) [] := by
  rw [call_eq rfl]
  exact body_One _ (fun h => p_shown) n (fun h x => q_first (d := d + 8) n x) (fun h m x hm => q_late (d := d + 8) n m x hm) (fun h s => by
    have q := p_refSame (d := d + 9) (h := h) [s] [s] .view .view (by simp)
    simpa [ints] using q) l
end Go.D.Mem
