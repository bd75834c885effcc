/- The law RingMoves, in the evaluator. -/
import Derived.Test.YtcnancgfgokghaaQqRingA
import Derived.Test.YtcnancgfgokghaaQqRingR4
import Derived.Test.YtcnancgfgokghaaQqRingI
set_option linter.unusedSimpArgs false
set_option linter.unusedVariables false
namespace Go.D.Ring
open Go.D
set_option maxRecDepth 100000
set_option maxHeartbeats 2000000
variable {d : Nat} {h : Heap}

/-- Writes, one behind the other. -/
def wrs (M : List Int) (P : Nat → Nat) (v : Nat → Int) : Nat → List Int
  | 0 => M
  | n + 1 => (wrs M P v n).set (P n) (v n)
theorem wrs_len (M : List Int) (P : Nat → Nat) (v : Nat → Int) : ∀ n, (wrs M P v n).length = M.length
  | 0 => rfl
  | n + 1 => by rw [wrs, List.length_set, wrs_len M P v n]
theorem wrs_other (M : List Int) (P : Nat → Nat) (v : Nat → Int) (q : Nat) : ∀ n, (∀ i, i < n → P i ≠ q) → (wrs M P v n)[q]? = M[q]?
  | 0, _ => rfl
  | n + 1, h => by rw [wrs, List.getElem?_set_ne (h n (by omega)), wrs_other M P v q n (fun i hi => h i (by omega))]
theorem wrs_at (M : List Int) (P : Nat → Nat) (v : Nat → Int) (i : Nat) : ∀ n, i < n → (∀ j k, j < n → k < n → P j = P k → j = k) → P i < M.length → (wrs M P v n)[P i]? = some (v i)
  | 0, h, _, _ => by omega
  | n + 1, h, inj, hl => by
    by_cases e : i = n
    · subst e
      rw [wrs, List.getElem?_set_self (by rw [wrs_len]; exact hl)]
    · rw [wrs, List.getElem?_set_ne (fun h' => e (inj i n (by omega) (by omega) h'.symm)), wrs_at M P v i n (by omega) (fun j k hj hk => inj j k (by omega) (by omega)) hl]

theorem loop_fill (ev : FuncId → List DV → Heap → Res DV) (c : Cf) (l : Lf) (row : List Int) (mr : Mode) (s r t : Int) (M : List Int) (N : Nat) (hN : M.length = N) (P : Nat → Nat) (hP : ∀ i, i < row.length → P i < N) (ht : 0 ≤ t ∧ t ≤ 65535) (hrow : row.length ≤ 70) (hN2 : N ≤ 5000)
    (q : ∀ h (i : Nat), i < row.length → callP ev 12 [.agg (LDc c l), I s, I r, I (t + i)] h = .ok (I (P i : Nat)) h)
    (v0 v1 v2 v3 v4 v7 v8 v9 v12 v13 v14 v15 v16 v18 v20 v25 v26 v27 : DV) : ∀ n i, i ≤ row.length → row.length - i < n → ∀ x10 x11 x24, ∃ y10 y11 y24,
    iter (evalC ev NN ir7_l0) n ⟨[v0, v1, v2, v3, v4, .sl mr 1 (ints row), .box (LDc c l), v7, v8, v9, x10, x11, v12, v13, v14, v15, v16, I r, v18, I s, v20, .hsl 0 0 N N 1 false, I t, I i, x24, v25, v26, v27], [], [ints (wrs M P (row.getD · 0) i)]⟩ =
      .exit 0 ⟨[v0, v1, v2, v3, v4, .sl mr 1 (ints row), .box (LDc c l), v7, v8, v9, y10, y11, v12, v13, v14, v15, v16, I r, v18, I s, v20, .hsl 0 0 N N 1 false, I t, I row.length, y24, v25, v26, v27], [], [ints (wrs M P (row.getD · 0) row.length)]⟩ := by
  intro n
  induction n with
  | zero => intro i _ h2; omega
  | succ n ih =>
    intro i hi hn x10 x11 x24
    by_cases hlt : i < row.length
    · have hlt' : (i : Int) < (row.length : Int) := by omega
      obtain ⟨y10, y11, y24, e⟩ := ih (i + 1) (by omega) (by omega) (B true) (B false) (I (P i))
      refine ⟨y10, y11, y24, ?_⟩
      rw [← e]
      have p := fun h => q h i hlt
      have hp := hP i hlt
      have ws := wrap_succ (show i < 4611686018427387904 by omega)
      have wt : IntKind.i64.wrap (t + (i : Int)) = t + (i : Int) := wrap64_id (by omega) (by omega)
      have hg := getD_some hlt
      have n1 : ¬ ((P i : Nat) : Int) < 0 := by omega
      have n2 : ¬ (N : Int) ≤ ((P i : Nat) : Int) := by omega
      have n3 : ((P i : Nat) : Int) < (N : Int) := by omega
      have hl := wrs_len M P (row.getD · 0) i
      rw [hN] at hl
      have n4 : P i + 1 ≤ (wrs M P (row.getD · 0) i).length := by omega
      have n5 : P i < (wrs M P (row.getD · 0) i).length := by omega
      rw [wrs]
      generalize wrs M P (row.getD · 0) i = W at *
      generalize row.getD i 0 = x at *
      generalize P i = p0 at *
      have st : evalC ev NN ir7_l0 ⟨[v0, v1, v2, v3, v4, .sl mr 1 (ints row), .box (LDc c l), v7, v8, v9, x10, x11, v12, v13, v14, v15, v16, I r, v18, I s, v20, .hsl 0 0 N N 1 false, I t, I i, x24, v25, v26, v27], [], [ints W]⟩ =
          .norm ⟨[v0, v1, v2, v3, v4, .sl mr 1 (ints row), .box (LDc c l), v7, v8, v9, B true, B false, v12, v13, v14, v15, v16, I r, v18, I s, v20, .hsl 0 0 N N 1 false, I t, I (i + 1 : Nat), I p0, v25, v26, v27], [], [ints (W.set p0 x)]⟩ := by
        simp -implicitDefEqProofs only [ir7_l0, hlt', p, ws, wt, hg, n1, n2, n3, n4, n5, go_sem, Nat.reduceAdd, Nat.reduceMul, Nat.reduceSub, Nat.reduceLeDiff, Nat.reduceEqDiff, Nat.reduceBEq, Nat.reduceLT, Int.reduceLE, Int.reduceLT, Int.reduceEq, Int.reduceNeg, Int.reduceAdd, Int.reduceMul, Int.reduceSub, Int.reduceToNat, reduceCtorEq, ↓reduceIte]
      rw [iter, st]
    · have hka : i = row.length := by omega
      subst hka
      have hlt' : ¬ ((row.length : Nat) : Int) < (row.length : Int) := by omega
      refine ⟨B false, x11, x24, ?_⟩
      simp -implicitDefEqProofs only [iter, ir7_l0, hlt', go_sem, Nat.reduceAdd, Nat.reduceMul, Nat.reduceSub, Nat.reduceLeDiff, Nat.reduceEqDiff, Nat.reduceBEq, Nat.reduceLT, Int.reduceLE, Int.reduceLT, Int.reduceEq, Int.reduceNeg, Int.reduceAdd, Int.reduceMul, Int.reduceSub, Int.reduceToNat, reduceCtorEq, ↓reduceIte]

theorem loop_move (ev : FuncId → List DV → Heap → Res DV) (mv : List (Int × Int)) (mm : Mode) (M : List Int) (N : Nat) (hN : M.length = N) (A P : Nat → Nat) (v : Nat → Int) (hmv : ∀ i, i < mv.length → mv[i]? = some (((A i : Nat) : Int), ((P i : Nat) : Int))) (hP : ∀ i, i < mv.length → P i < N ∧ A i < N) (hlen : mv.length ≤ 70) (hN2 : N ≤ 5000)
    (hv : ∀ i, i < mv.length → (wrs M P v i)[A i]? = some (v i))
    (v0 v1 v2 v3 v4 v5 v6 v7 v8 v9 v10 v11 v12 v13 v14 v17 v18 v19 v20 v22 v23 v24 v25 : DV) : ∀ n i, i ≤ mv.length → mv.length - i < n → ∀ x15 x16, ∃ y15 y16 y27,
    iter (evalC ev NN ir7_l1) n ⟨[v0, v1, v2, v3, v4, v5, v6, v7, v8, v9, v10, v11, v12, v13, v14, x15, x16, v17, v18, v19, v20, .hsl 0 0 N N 1 false, v22, v23, v24, v25, .sl mm 2 (prs mv), I i], [], [ints (wrs M P v i)]⟩ =
      .exit 2 ⟨[v0, v1, v2, v3, v4, v5, v6, v7, v8, v9, v10, v11, v12, v13, v14, y15, y16, v17, v18, v19, v20, .hsl 0 0 N N 1 false, v22, v23, v24, v25, .sl mm 2 (prs mv), y27], [], [ints (wrs M P v mv.length)]⟩ := by
  intro n
  induction n with
  | zero => intro i _ h2; omega
  | succ n ih =>
    intro i hi hn x15 x16
    by_cases hlt : i < mv.length
    · have hlt' : (i : Int) < (mv.length : Int) := by omega
      obtain ⟨y15, y16, y27, e⟩ := ih (i + 1) (by omega) (by omega) (B true) (B false)
      refine ⟨y15, y16, y27, ?_⟩
      rw [← e]
      obtain ⟨hp, ha⟩ := hP i hlt
      have hm := hmv i hlt
      have hvi := hv i hlt
      have ws := wrap_succ (show i < 4611686018427387904 by omega)
      have n1 : ¬ ((P i : Nat) : Int) < 0 := by omega
      have n2 : ¬ (N : Int) ≤ ((P i : Nat) : Int) := by omega
      have n3 : ((P i : Nat) : Int) < (N : Int) := by omega
      have a1 : ¬ ((A i : Nat) : Int) < 0 := by omega
      have a2 : ¬ (N : Int) ≤ ((A i : Nat) : Int) := by omega
      have a3 : ((A i : Nat) : Int) < (N : Int) := by omega
      have hl := wrs_len M P v i
      rw [hN] at hl
      have n4 : P i + 1 ≤ (wrs M P v i).length := by omega
      have n5 : P i < (wrs M P v i).length := by omega
      have a4 : A i + 1 ≤ (wrs M P v i).length := by omega
      rw [wrs]
      have hd : ((wrs M P v i).drop (A i)).take 1 = [v i] := by
        rw [List.drop_eq_getElem_cons (by omega), List.take_succ_cons, List.take_zero]
        rw [List.getElem?_eq_getElem (by omega)] at hvi
        simpa using hvi
      generalize wrs M P v i = W at *
      generalize v i = x at *
      generalize P i = p0 at *
      generalize A i = a0 at *
      have z0 : ints [x] = [I x] := rfl
      have st : evalC ev NN ir7_l1 ⟨[v0, v1, v2, v3, v4, v5, v6, v7, v8, v9, v10, v11, v12, v13, v14, x15, x16, v17, v18, v19, v20, .hsl 0 0 N N 1 false, v22, v23, v24, v25, .sl mm 2 (prs mv), I i], [], [ints W]⟩ =
          .norm ⟨[v0, v1, v2, v3, v4, v5, v6, v7, v8, v9, v10, v11, v12, v13, v14, B true, B false, v17, v18, v19, v20, .hsl 0 0 N N 1 false, v22, v23, v24, v25, .sl mm 2 (prs mv), I (i + 1 : Nat)], [], [ints (W.set p0 x)]⟩ := by
        simp -implicitDefEqProofs only [ir7_l1, hlt', hm, ws, n1, n2, n3, n4, n5, a1, a2, a3, a4, hd, z0, go_sem, Nat.reduceAdd, Nat.reduceMul, Nat.reduceSub, Nat.reduceLeDiff, Nat.reduceEqDiff, Nat.reduceBEq, Nat.reduceLT, Int.reduceLE, Int.reduceLT, Int.reduceEq, Int.reduceNeg, Int.reduceAdd, Int.reduceMul, Int.reduceSub, Int.reduceToNat, reduceCtorEq, ↓reduceIte]
      rw [iter, st]
    · have hka : i = mv.length := by omega
      subst hka
      have hlt' : ¬ ((mv.length : Nat) : Int) < (mv.length : Int) := by omega
      refine ⟨B false, x16, I mv.length, ?_⟩
      simp -implicitDefEqProofs only [iter, ir7_l1, hlt', go_sem, Nat.reduceAdd, Nat.reduceMul, Nat.reduceSub, Nat.reduceLeDiff, Nat.reduceEqDiff, Nat.reduceBEq, Nat.reduceLT, Int.reduceLE, Int.reduceLT, Int.reduceEq, Int.reduceNeg, Int.reduceAdd, Int.reduceMul, Int.reduceSub, Int.reduceToNat, reduceCtorEq, ↓reduceIte]

theorem body_LMoves (ev : FuncId → List DV → Heap → Res DV) (ha : ∀ h, callP ev 8 [] h = .ok (B true) h) (c : Cf) (l : Lf) (s0 t0 seat r t : Int) (row : List Int) (mr : Mode)
    (hs0 : 0 ≤ s0 ∧ s0 ≤ 255) (hseat : 0 ≤ seat ∧ seat ≤ 255) (hr : 0 ≤ r ∧ r ≤ 255) (ht : 0 ≤ t ∧ t ≤ 65535)
    (q1 : ∀ h, callP ev 9 [U s0, U t0] h = .ok (.agg (LDc c l)) h)
    (g sv kv z : Int) (N D : Nat) (hg : 1 ≤ g ∧ g ≤ 5) (hsv : seat % (1 + s0 % 3) = sv) (hkv : r % g = kv) (hkv2 : 0 ≤ kv ∧ kv ≤ 100) (hN : l.size = (N : Int)) (hN2 : 1 ≤ N ∧ N ≤ 5000) (hD : D + 2 < N)
    (q2 : ∀ h, callP ev 17 [.agg (LDc c l)] h = .ok (I g) h) (q3 : ∀ h, callP ev 10 [I kv] h = .ok (I z) h)
    (q4 : ∀ h, callP ev 18 [.agg (LDc c l), I sv, I 0] h = .ok (I D) h)
    (P P2 : Nat → Nat) (M1 : List Int) (hM1 : M1 = (((List.replicate N (0 : Int)).set D t).set (D + 1) (t + row.length)).set (D + 2) kv)
    (hP : (row.length : Int) ≤ z → ∀ i, i < row.length → P i < N) (hP2 : (row.length : Int) ≤ z → kv + 1 < g → ∀ i, i < row.length → P2 i < N)
    (q5 : (row.length : Int) ≤ z → ∀ h (i : Nat), i < row.length → callP ev 12 [.agg (LDc c l), I sv, I kv, I (t + i)] h = .ok (I (P i : Nat)) h)
    (mo mo2 : Mode)
    (q6 : (row.length : Int) ≤ z → callP ev 19 [.agg (LDc c l), .agg [.hsl 0 0 N N 1 false], I sv] [ints (wrs M1 P (row.getD · 0) row.length)] = .ok (.sl mo 1 (ints row)) [ints (wrs M1 P (row.getD · 0) row.length)])
    (q7 : ∀ h ma mb, row.length ≤ 70 → callP ev 20 [.sl ma 1 (ints row), .sl mb 1 (ints row)] h = .ok (B true) h)
    (mv : List (Int × Int)) (mm : Mode) (hmv0 : g ≤ kv + 1 → mv = []) (hmv1 : (row.length : Int) ≤ z → kv + 1 < g → mv.length = row.length)
    (hmv2 : (row.length : Int) ≤ z → kv + 1 < g → ∀ i, i < mv.length → mv[i]? = some (((P i : Nat) : Int), ((P2 i : Nat) : Int)))
    (hmv3 : (row.length : Int) ≤ z → kv + 1 < g → ∀ i, i < mv.length → (wrs (wrs M1 P (row.getD · 0) row.length) P2 (row.getD · 0) i)[P i]? = some (row.getD i 0))
    (q8 : ∀ h, callP ev 15 [.agg (LDc c l), I sv, I kv, I t, I (t + row.length)] h = .ok (.sl mm 2 (prs mv)) h)
    (q9 : (row.length : Int) ≤ z → kv + 1 < g → callP ev 19 [.agg (LDc c l), .agg [.hsl 0 0 N N 1 false], I sv] [ints ((wrs (wrs M1 P (row.getD · 0) row.length) P2 (row.getD · 0) row.length).set (D + 2) (kv + 1))] =
      .ok (.sl mo2 1 (ints row)) [ints ((wrs (wrs M1 P (row.getD · 0) row.length) P2 (row.getD · 0) row.length).set (D + 2) (kv + 1))]) (hll : row.length ≤ 2 ^ 50) :
    ∃ h', evalF ev NN ir7 [U s0, U t0, U seat, U r, .sc (.int .u16 t), .sl mr 1 (ints row)] [] = .ok (B true) h' := by
  have hmax : (if 1 < g then g else 1) = g := by split <;> omega
  by_cases c1 : row.length ≤ 70
  · by_cases c2 : (row.length : Int) ≤ z
    · have hroom : (N : Int) * 10 ≤ (room : Int) := by simp only [room]; omega
      have hM1l : M1.length = N := by rw [hM1]; simp
      have t1 : ((D : Int) + 1).toNat = D + 1 := by omega
      have t2 : ((D : Int) + 2).toNat = D + 2 := by omega
      have b0 : D < N := by omega
      have b1 : D + 1 < N := by omega
      have b00 : D + 1 ≤ N := by omega
      have b11 : D + 1 + 1 ≤ N := by omega
      have b22 : D + 2 + 1 ≤ N := by omega
      have wn : IntKind.i64.wrap (t + (row.length : Int)) = t + (row.length : Int) := wrap64_id (by omega) (by omega)
      have p6 := q6 c2
      have p7 := fun h ma mb => q7 h ma mb c1
      obtain ⟨y10, y11, y24, e⟩ := loop_fill ev c l row mr sv kv t M1 N hM1l P (hP c2) ht c1 hN2.2 (q5 c2) (U s0) (U t0) (U seat) (U r) (.sc (.int .u16 t)) (B false) (B false) (B false) .junk .junk .junk .junk .junk (B true) (I D) .junk .junk .junk NN 0 (by omega) (by unfold NN; omega) .junk .junk .junk
      have hw0 : wrs M1 P (row.getD · 0) 0 = M1 := rfl
      have hwl : (wrs M1 P (row.getD · 0) row.length).length = N := by rw [wrs_len]; exact hM1l
      rw [hw0] at e
      generalize hW : wrs M1 P (row.getD · 0) row.length = W at *
      simp only [cast0, hM1] at e
      by_cases c3 : kv + 1 < g
      · have l1 := hmv1 c2 c3
        obtain ⟨y15, y16, y27, e2⟩ := loop_move ev mv mm W N hwl P P2 (row.getD · 0) (hmv2 c2 c3) (fun i hi => ⟨hP2 c2 c3 i (by omega), hP c2 i (by omega)⟩) (by omega) hN2.2 (hmv3 c2 c3)
          (U s0) (U t0) (U seat) (U r) (.sc (.int .u16 t)) (.sl mr 1 (ints row)) (.box (LDc c l)) (B false) (B false) (B false) y10 y11 (B false) (B false) (B false) (I kv) (B true) (I sv) (I D) (I t) (I row.length) y24 (.sl (vm mo) 1 (ints row)) NN 0 (by omega) (by unfold NN; omega) .junk .junk
        have hw1 : wrs W P2 (row.getD · 0) 0 = W := rfl
        have hw2l : (wrs W P2 (row.getD · 0) row.length).length = N := by rw [wrs_len]; exact hwl
        have p9 := q9 c2 c3
        rw [hw1, l1] at e2
        generalize wrs W P2 (row.getD · 0) row.length = W2 at *
        simp only [cast0] at e2
        exact ⟨_, by simp -implicitDefEqProofs (disch := first | omega | (simp only [List.length_set, List.length_replicate]; omega)) only [ir7, ha, q1, q2, q3, q4, hsv, hkv, hmax, hN, hroom, wn, t1, t2, b0, b1, b00, b11, b22, e, p6, p7, q8, l1, e2, p9, hw2l, wrap_i64, wrap_u64, wrap_u32, wrap_u16, wrap_u8, dec_t, dec_f, ite_t, ite_f, tmod_e, go_sem, Nat.reduceAdd, Nat.reduceMul, Nat.reduceSub, Nat.reduceLeDiff, Nat.reduceEqDiff, Nat.reduceBEq, Nat.reduceLT, Int.reduceLE, Int.reduceLT, Int.reduceEq, Int.reduceNeg, Int.reduceAdd, Int.reduceMul, Int.reduceSub, Int.reduceToNat, reduceCtorEq, ↓reduceIte]; rfl⟩
      · have l0 := hmv0 (by omega)
        subst l0
        exact ⟨_, by simp -implicitDefEqProofs (disch := first | omega | (simp only [List.length_set, List.length_replicate]; omega)) only [ir7, ha, q1, q2, q3, q4, hsv, hkv, hmax, hN, hroom, wn, t1, t2, b0, b1, b00, b11, b22, e, p6, p7, q8, wrap_i64, wrap_u64, wrap_u32, wrap_u16, wrap_u8, dec_t, dec_f, ite_t, ite_f, tmod_e, go_sem, Nat.reduceAdd, Nat.reduceMul, Nat.reduceSub, Nat.reduceLeDiff, Nat.reduceEqDiff, Nat.reduceBEq, Nat.reduceLT, Int.reduceLE, Int.reduceLT, Int.reduceEq, Int.reduceNeg, Int.reduceAdd, Int.reduceMul, Int.reduceSub, Int.reduceToNat, reduceCtorEq, ↓reduceIte]; rfl⟩
    · exact ⟨_, by simp -implicitDefEqProofs (disch := first | omega | (simp only [List.length_set, List.length_replicate]; omega)) only [ir7, ha, q1, q2, q3, hsv, hkv, hmax, hN, wrap_i64, wrap_u64, wrap_u32, wrap_u16, wrap_u8, dec_t, dec_f, ite_t, ite_f, tmod_e, go_sem, Nat.reduceAdd, Nat.reduceMul, Nat.reduceSub, Nat.reduceLeDiff, Nat.reduceEqDiff, Nat.reduceBEq, Nat.reduceLT, Int.reduceLE, Int.reduceLT, Int.reduceEq, Int.reduceNeg, Int.reduceAdd, Int.reduceMul, Int.reduceSub, Int.reduceToNat, reduceCtorEq, ↓reduceIte]; rfl⟩
  · exact ⟨_, by simp -implicitDefEqProofs (disch := first | omega | (simp only [List.length_set, List.length_replicate]; omega)) only [ir7, ha, q1, q2, q3, hsv, hkv, hmax, hN, wrap_i64, wrap_u64, wrap_u32, wrap_u16, wrap_u8, dec_t, dec_f, ite_t, ite_f, tmod_e, go_sem, Nat.reduceAdd, Nat.reduceMul, Nat.reduceSub, Nat.reduceLeDiff, Nat.reduceEqDiff, Nat.reduceBEq, Nat.reduceLT, Int.reduceLE, Int.reduceLT, Int.reduceEq, Int.reduceNeg, Int.reduceAdd, Int.reduceMul, Int.reduceSub, Int.reduceToNat, reduceCtorEq, ↓reduceIte]; rfl⟩

theorem cells_row {M : List Int} {c : Cf} {l : Lf} {s r t : Int} {row : List Int} (hM : ∀ i : Nat, i < row.length → M[(placeF c l s r (t + i)).toNat]? = some (row.getD i 0)) : cellsAt M c l s r t row.length = row := by
  apply List.ext_getElem?
  intro i
  unfold cellsAt
  rw [List.getElem?_map]
  by_cases hi : i < row.length
  · rw [List.getElem?_range hi, Option.map_some, List.getD_eq_getElem?_getD, hM i hi, getD_some hi]
    rfl
  · rw [List.getElem?_eq_none (by simp; omega), List.getElem?_eq_none (by omega)]
    rfl

theorem law_Moves (d : Nat) (s0 t0 seat r t : Int) (row : List Int) (mr : Mode) (hs0 : 0 ≤ s0 ∧ s0 ≤ 255) (ht0 : 0 ≤ t0 ∧ t0 ≤ 255) (hseat : 0 ≤ seat ∧ seat ≤ 255) (hr : 0 ≤ r ∧ r ≤ 255) (ht : 0 ≤ t ∧ t ≤ 65535) (hll : row.length ≤ 2 ^ 50) :
    ∃ h', evalCall fns NN (d + 11) 7 [U s0, U t0, U seat, U r, .sc (.int .u16 t), .sl mr 1 (ints row)] [] = .ok (B true) h' := by
  have ok := wh_ok s0 t0
  have hk := ok_lok ok
  have hcs : (whC s0 t0).seats = 1 + s0 % 3 := rfl
  have hrg := rg_bd (whC s0 t0).tasks
  have hsm := mod_bd (i := seat) (s := 1 + s0 % 3) (by omega)
  have hrm := mod_bd (i := r) (s := rgF (whC s0 t0).tasks) (by omega)
  have hrb := ring_bd ok.toMay
  have htk : (layF (whC s0 t0)).task = (layF (whC s0 t0)).ring + (whC s0 t0).seats * (4 * (pwF (whC s0 t0).tasks - 1)) := rfl
  have hsz0 : (layF (whC s0 t0)).size = (layF (whC s0 t0)).task + 4 * (whC s0 t0).tasks := by simp only [layF, whC]; omega
  have hrgv : (layF (whC s0 t0)).ring = (layF (whC s0 t0)).deque + 3 * (whC s0 t0).seats := rfl
  have hdqv : (layF (whC s0 t0)).deque = 4 + (whC s0 t0).seats + (whC s0 t0).seats + 3 * (whC s0 t0).seats := rfl
  have htb := ok.tasks
  have hdq : 0 ≤ (layF (whC s0 t0)).deque ∧ (layF (whC s0 t0)).deque ≤ 20000 := by omega
  obtain ⟨N, hN⟩ := Int.eq_ofNat_of_zero_le (show 0 ≤ (layF (whC s0 t0)).size by omega)
  have hxs : 0 ≤ seat % (1 + s0 % 3) ∧ seat % (1 + s0 % 3) ≤ (whC s0 t0).seats - 1 := by omega
  obtain ⟨D, hD⟩ := Int.eq_ofNat_of_zero_le (show 0 ≤ (layF (whC s0 t0)).deque + 3 * (seat % (1 + s0 % 3)) by omega)
  generalize hsv : seat % (1 + s0 % 3) = sv at *
  generalize hkv : r % rgF (whC s0 t0).tasks = kv at *
  generalize hc : whC s0 t0 = c at *
  have hrp : 0 ≤ ringF c (layF c) sv kv := (ring_pos hk.ring.1).2 ⟨hxs, by omega⟩
  have hz := sz_bd hk.ring.1 hrp
  -- where places lie
  have pin : ∀ i : Nat, (placeF c (layF c) sv kv (t + i)).toNat < N ∧ D + 2 < (placeF c (layF c) sv kv (t + i)).toNat ∧ 0 ≤ placeF c (layF c) sv kv (t + i) := fun i => by
    have := pl_lo ok hrp (i := t + i) (by omega)
    exact ⟨by omega, by omega, by omega⟩
  have pin2 : kv + 1 < rgF c.tasks → ∀ i : Nat, (placeF c (layF c) sv (kv + 1) (t + i)).toNat < N ∧ D + 2 < (placeF c (layF c) sv (kv + 1) (t + i)).toNat ∧ 0 ≤ placeF c (layF c) sv (kv + 1) (t + i) := fun hg i => by
    have hrp2 : 0 ≤ ringF c (layF c) sv (kv + 1) := (ring_pos hk.ring.1).2 ⟨hxs, by omega⟩
    have := pl_lo ok hrp2 (i := t + i) (by omega)
    exact ⟨by omega, by omega, by omega⟩
  let P : Nat → Nat := fun i => (placeF c (layF c) sv kv (t + i)).toNat
  let P2 : Nat → Nat := fun i => (placeF c (layF c) sv (kv + 1) (t + i)).toNat
  have pinj : (row.length : Int) ≤ szF kv → ∀ j k, j < row.length → k < row.length → P j = P k → j = k := fun hl j k hj hk' e => by
    have a := (pin j).2.2
    have b := (pin k).2.2
    have := pl_inj hk.ring.1 hrp (i := t + j) (j := t + k) (by omega) (by omega) (by omega) (by omega) (by show _ = _; have e' : (placeF c (layF c) sv kv (t + j)).toNat = (placeF c (layF c) sv kv (t + k)).toNat := e; omega)
    omega
  have pinj2 : (row.length : Int) ≤ szF kv → kv + 1 < rgF c.tasks → ∀ j k, j < row.length → k < row.length → P2 j = P2 k → j = k := fun hl hg j k hj hk' e => by
    have hrp2 : 0 ≤ ringF c (layF c) sv (kv + 1) := (ring_pos hk.ring.1).2 ⟨hxs, by omega⟩
    have a := (pin2 hg j).2.2
    have b := (pin2 hg k).2.2
    have z1 := sz_p2 (r := kv) (by omega) (by omega)
    have z2 := sz_p2 (r := kv + 1) (by omega) (by omega)
    have z3 := p2_up (r := kv) (q := kv + 1) (by omega) (by omega) (by omega)
    have := pl_inj hk.ring.1 hrp2 (i := t + j) (j := t + k) (by omega) (by omega) (by omega) (by omega) (by show _ = _; have e' : (placeF c (layF c) sv (kv + 1) (t + j)).toNat = (placeF c (layF c) sv (kv + 1) (t + k)).toNat := e; omega)
    omega
  have pne : kv + 1 < rgF c.tasks → ∀ i j, P2 j ≠ P i := fun hg i j e => by
    have hrp2 : 0 ≤ ringF c (layF c) sv (kv + 1) := (ring_pos hk.ring.1).2 ⟨hxs, by omega⟩
    have a := (pin2 hg j).2.2
    have b := (pin i).2.2
    have := pl_ne hk.ring.1 hrp hrp2 (i := t + i) (j := t + j) (by omega) (by omega) (by omega)
    have e' : (placeF c (layF c) sv (kv + 1) (t + j)).toNat = (placeF c (layF c) sv kv (t + i)).toNat := e
    omega
  have htn : inI (t + row.length) := ⟨by omega, by omega⟩
  generalize hM1 : (((List.replicate N (0 : Int)).set D t).set (D + 1) (t + row.length)).set (D + 2) kv = M1
  have hM1l : M1.length = N := by rw [← hM1]; simp
  have hDN : D + 2 < N := by omega
  have m0 : M1[D]? = some t := by rw [← hM1, List.getElem?_set_ne (by omega), List.getElem?_set_ne (by omega), List.getElem?_set_self (by rw [List.length_replicate]; omega)]
  have m1 : M1[D + 1]? = some (t + row.length) := by rw [← hM1, List.getElem?_set_ne (by omega), List.getElem?_set_self (by rw [List.length_set, List.length_replicate]; omega)]
  have m2 : M1[D + 2]? = some kv := by rw [← hM1, List.getElem?_set_self (by rw [List.length_set, List.length_set, List.length_replicate]; omega)]
  have hmvv : (row.length : Int) ≤ szF kv → kv + 1 < rgF c.tasks → movesV c (layF c) sv kv t (t + row.length) = mvF c (layF c) sv kv t row.length := fun hl hg => by
    unfold movesV
    rw [show (t + (row.length : Int) - t).toNat = row.length by omega]
    exact if_pos ⟨decide_eq_true ⟨hrp, ht.1, by omega, by omega⟩, (ring_pos hk.ring.1).2 ⟨hxs, by omega⟩⟩
  generalize hW : wrs M1 P (row.getD · 0) row.length = W
  have hWl : W.length = N := by rw [← hW, wrs_len, hM1l]
  have wo : ∀ q, q ≤ D + 2 → W[q]? = M1[q]? := fun q hq => by rw [← hW]; exact wrs_other _ _ _ _ _ (fun i hi e => by have := (pin i).2.1; have e' : (placeF c (layF c) sv kv (t + i)).toNat = q := e; omega)
  have wa : (row.length : Int) ≤ szF kv → ∀ i, i < row.length → W[P i]? = some (row.getD i 0) := fun hl i hi => by rw [← hW]; exact wrs_at _ _ _ _ _ hi (pinj hl) (by rw [hM1l]; exact (pin i).1)
  generalize hW2 : wrs W P2 (row.getD · 0) row.length = W2
  have hW2l : W2.length = N := by rw [← hW2, wrs_len, hWl]
  have hfit : (row.length : Int) ≤ szF kv → fitsB c (layF c) sv kv t (t + row.length) = true := fun hl => decide_eq_true ⟨hrp, ht.1, by omega, by omega⟩
  have htl : (t + (row.length : Int) - t).toNat = row.length := by omega
  rw [call_eq rfl]
  refine body_LMoves (evalCall fns NN (d + 10)) (fun h => p_awake) c (layF c) s0 t0 seat r t row mr hs0 hseat hr ht (fun h => by rw [← hc]; exact p_where (d := d + 6) s0 t0 hs0 ht0)
    (rgF c.tasks) sv kv (szF kv) N D hrg hsv hkv (by omega) hN (by omega) (by omega)
    (fun h => p_Rings (d := d + 8) _ _ hk.tasks) (fun h => p_Size (d := d + 9) _) (fun h => by rw [← hD, ← Int.add_zero ((layF c).deque + 3 * sv), ← deq_eq (i := 0) hxs (by omega)]; exact p_Deque (d := d + 7) c _ sv 0 hk.seats hdq)
    P P2 M1 hM1.symm (fun hl i hi => (pin i).1) (fun hl hg i hi => (pin2 hg i).1)
    (fun hl h i hi => by
      have e : ((P i : Nat) : Int) = placeF c (layF c) sv kv (t + i) := by show (((placeF c (layF c) sv kv (t + i)).toNat : Nat) : Int) = _; have := (pin i).2.2; omega
      rw [e]; exact p_Place (d := d + 5) c _ sv kv (t + i) hk)
    (md row) (md row)
    (fun hl => by
      rw [hW]
      have p := p_RowH (d := d + 4) c ok W N hWl hN (by omega) sv t (t + row.length) kv hxs htn D hD.symm (by rw [wo D (by omega), m0]) (by rw [wo (D + 1) (by omega), m1]) (by rw [wo (D + 2) (by omega), m2])
      have e : rowV c (layF c) W sv t (t + row.length) kv = row := by
        unfold rowV
        rw [if_pos (hfit hl), htl]
        exact cells_row (wa hl)
      rw [e] at p
      exact p)
    (fun h ma mb hl => by simpa using p_Ints (d := d + 9) (h := h) row row ma mb (by omega))
    (movesV c (layF c) sv kv t (t + row.length)) (md (movesV c (layF c) sv kv t (t + row.length)))
    (fun hg => by unfold movesV; rw [if_neg (fun h => by have := (ring_pos hk.ring.1).1 h.2; omega)])
    (fun hl hg => by
      rw [hmvv hl hg, mvF_len])
    (fun hl hg i hi => by
      rw [hmvv hl hg] at hi ⊢
      rw [mvF_len] at hi
      unfold mvF
      rw [List.getElem?_map, List.getElem?_range hi, Option.map_some]
      have e1 : ((P i : Nat) : Int) = placeF c (layF c) sv kv (t + i) := by show (((placeF c (layF c) sv kv (t + i)).toNat : Nat) : Int) = _; have := (pin i).2.2; omega
      have e2 : ((P2 i : Nat) : Int) = placeF c (layF c) sv (kv + 1) (t + i) := by show (((placeF c (layF c) sv (kv + 1) (t + i)).toNat : Nat) : Int) = _; have := (pin2 hg i).2.2; omega
      rw [e1, e2])
    (fun hl hg i hi => by
      rw [hW, wrs_other _ _ _ _ _ (fun j hj => pne hg i j)]
      refine wa hl i ?_
      rw [hmvv hl hg, mvF_len] at hi
      omega)
    (fun h => p_Moves (d := d + 4) c _ sv kv t (t + row.length) hk htn ⟨by omega, by omega⟩)
    (fun hl hg => by
      rw [hW, hW2]
      have hrp2 : 0 ≤ ringF c (layF c) sv (kv + 1) := (ring_pos hk.ring.1).2 ⟨hxs, by omega⟩
      have z1 := sz_p2 (r := kv) (by omega) (by omega)
      have z2 := sz_p2 (r := kv + 1) (by omega) (by omega)
      have z3 := p2_up (r := kv) (q := kv + 1) (by omega) (by omega) (by omega)
      have z4 := p2_bd kv
      have w2o : ∀ q, q ≤ D + 2 → W2[q]? = M1[q]? := fun q hq => by
        rw [← hW2, wrs_other _ _ _ _ _ (fun i hi e => by have := (pin2 hg i).2.1; have e' : (placeF c (layF c) sv (kv + 1) (t + i)).toNat = q := e; omega)]
        exact wo q hq
      have p := p_RowH (d := d + 4) c ok (W2.set (D + 2) (kv + 1)) N (by rw [List.length_set, hW2l]) hN (by omega) sv t (t + row.length) (kv + 1) hxs htn D hD.symm
        (by rw [List.getElem?_set_ne (by omega), w2o D (by omega), m0]) (by rw [List.getElem?_set_ne (by omega), w2o (D + 1) (by omega), m1]) (by rw [List.getElem?_set_self (by omega)])
      have e : rowV c (layF c) (W2.set (D + 2) (kv + 1)) sv t (t + row.length) (kv + 1) = row := by
        have hfit2 : fitsB c (layF c) sv (kv + 1) t (t + row.length) = true := decide_eq_true ⟨hrp2, ht.1, by omega, by omega⟩
        unfold rowV
        rw [if_pos hfit2, htl]
        refine cells_row (fun i hi => ?_)
        have := (pin2 hg i).2.1
        rw [List.getElem?_set_ne (by omega), ← hW2]
        exact wrs_at _ _ _ i _ hi (pinj2 hl hg) (by rw [hWl]; exact (pin2 hg i).1)
      rw [e] at p
      exact p)
    hll
end Go.D.Ring
