/- Counts of cells: the loops of the law LayoutApart, in the evaluator. -/
import Derived.Test.YtilfhbpehgklbaaQqLayoutC
set_option linter.unusedSimpArgs false
set_option linter.unusedVariables false
namespace Go.D.Layout
open Go.D
set_option maxRecDepth 100000
set_option maxHeartbeats 2000000
variable {d : Nat} {h : Heap}

/-- A row of counts. -/
def vecN (N : Nat) (H : Nat → Nat) : List Int := (List.range N).map fun i => (H i : Int)
theorem vecN_len (N : Nat) (H : Nat → Nat) : (vecN N H).length = N := by simp [vecN]
theorem vecN_get {N : Nat} {H : Nat → Nat} {q : Nat} (hq : q < N) : (vecN N H)[q]? = some (H q : Int) := by
  unfold vecN; rw [List.getElem?_map, List.getElem?_range hq]; rfl
theorem vecN_set {N : Nat} {H : Nat → Nat} {q : Nat} (hq : q < N) : (vecN N H).set q ((H q + 1 : Nat) : Int) = vecN N (fun x => H x + if x = q then 1 else 0) := by
  apply List.ext_getElem?
  intro i
  by_cases hi : i < N
  · by_cases e : i = q
    · subst e
      rw [List.getElem?_set_self (by rw [vecN_len]; exact hi), vecN_get hi, if_pos rfl]
    · rw [List.getElem?_set_ne (fun h => e h.symm), vecN_get hi, vecN_get hi, if_neg e]; rfl
  · rw [List.getElem?_eq_none (by rw [List.length_set, vecN_len]; omega), List.getElem?_eq_none (by rw [vecN_len]; omega)]
theorem vecN_ext {N : Nat} {H K : Nat → Nat} (h : ∀ x, H x = K x) : vecN N H = vecN N K := by
  have : H = K := funext h
  rw [this]

/-- Cells from a place on. -/
def spanF (p : Int) (m x : Nat) : Nat := if p ≤ (x : Int) ∧ (x : Int) < p + m then 1 else 0
theorem span_le (p : Int) (m x : Nat) : spanF p m x ≤ 1 := by unfold spanF; split <;> omega

theorem loop_i (ev : FuncId → List DV → Heap → Res DV) (c : Cf) (l : Lf) (N : Nat) (hN : l.size = (N : Int)) (hN2 : N ≤ 20000) (p : List Int) (mp : Mode) (k : Nat) (pk : Nat) (hp : p[k]? = some (pk : Int)) (m : Nat) (hm : pk + m ≤ N) (H : Nat → Nat) (hH : ∀ x, H x ≤ 100000) (hk : k < 100)
    (v0 v1 v3 v4 v5 v6 v7 v8 v9 v10 v11 v14 v15 v16 v17 v19 v20 v23 v24 v25 v27 v29 : DV) : ∀ n i, i ≤ m → m - i < n → ∀ x12 x13, ∃ y12 y13 y28,
    iter (evalC ev NN ir8_l5) n ⟨[v0, v1, .box (LDc c l), v3, v4, v5, v6, v7, v8, v9, v10, v11, x12, x13, v14, v15, v16, v17, .hsl 0 0 N N 1 false, v19, v20, I k, .sl mp 1 (ints p), v23, v24, v25, I m, v27, I i, v29], [], [ints (vecN N (fun x => H x + spanF pk i x))]⟩ =
      .exit 8 ⟨[v0, v1, .box (LDc c l), v3, v4, v5, v6, v7, v8, v9, v10, v11, y12, y13, v14, v15, v16, v17, .hsl 0 0 N N 1 false, v19, v20, I k, .sl mp 1 (ints p), v23, v24, v25, I m, v27, y28, v29], [], [ints (vecN N (fun x => H x + spanF pk m x))]⟩ := by
  intro n
  induction n with
  | zero => intro i _ h2; omega
  | succ n ih =>
    intro i hi hn x12 x13
    by_cases hlt : i < m
    · obtain ⟨y12, y13, y28, e⟩ := ih (i + 1) (by omega) (by omega) (B true) (B false)
      refine ⟨y12, y13, y28, ?_⟩
      rw [← e]
      have hlt' : (i : Int) < (m : Int) := by omega
      have ws := wrap_succ (show i < 4611686018427387904 by omega)
      have wq : IntKind.i64.wrap ((pk : Int) + (i : Int)) = ((pk + i : Nat) : Int) := by rw [wrap64_id (by omega) (by omega)]; omega
      have hq : pk + i < N := by omega
      have q1 : ¬ (N : Int) ≤ ((pk + i : Nat) : Int) := by omega
      have q2 : ((pk + i : Nat) : Int) < (N : Int) := by omega
      have q3 : pk + i + 1 ≤ N := by omega
      have hg := vecN_get (H := fun x => H x + spanF pk i x) hq
      have hs := vecN_set (H := fun x => H x + spanF pk i x) hq
      have hsp : spanF pk i (pk + i) = 0 := by unfold spanF; rw [if_neg (by omega)]
      have hHq := hH (pk + i)
      rw [hsp, Nat.add_zero] at hg hs
      have wh : IntKind.i64.wrap ((H (pk + i) : Int) + 1) = ((H (pk + i) + 1 : Nat) : Int) := by rw [wrap64_id (by omega) (by omega)]; omega
      have hn1 : vecN N (fun x => H x + spanF pk i x + if x = pk + i then 1 else 0) = vecN N (fun x => H x + spanF pk (i + 1) x) := vecN_ext (fun x => by
        unfold spanF
        by_cases hx : x = pk + i
        · rw [if_pos hx, if_neg (by omega), if_pos (by omega)]
        · rw [if_neg hx]
          by_cases hy : (pk : Int) ≤ (x : Int) ∧ (x : Int) < pk + i
          · rw [if_pos hy, if_pos (by omega)]
          · rw [if_neg hy, if_neg (by omega)])
      rw [hn1] at hs
      have hl := vecN_len N (fun x => H x + spanF pk i x)
      have hd : ((vecN N (fun x => H x + spanF pk i x)).drop (pk + i)).take 1 = [(H (pk + i) : Int)] := by
        rw [List.drop_eq_getElem_cons (by omega), List.take_succ_cons, List.take_zero]
        rw [List.getElem?_eq_getElem (by omega)] at hg
        simpa using hg
      generalize vecN N (fun x => H x + spanF pk i x) = W at *
      generalize vecN N (fun x => H x + spanF pk (i + 1) x) = W2 at *
      have z0 : ∀ x : Int, ints [x] = [I x] := fun x => rfl
      have st : evalC ev NN ir8_l5 ⟨[v0, v1, .box (LDc c l), v3, v4, v5, v6, v7, v8, v9, v10, v11, x12, x13, v14, v15, v16, v17, .hsl 0 0 N N 1 false, v19, v20, I k, .sl mp 1 (ints p), v23, v24, v25, I m, v27, I i, v29], [], [ints W]⟩ =
          .norm ⟨[v0, v1, .box (LDc c l), v3, v4, v5, v6, v7, v8, v9, v10, v11, B true, B false, v14, v15, v16, v17, .hsl 0 0 N N 1 false, v19, v20, I k, .sl mp 1 (ints p), v23, v24, v25, I m, v27, I (i + 1 : Nat), v29], [], [ints W2]⟩ := by
        simp -implicitDefEqProofs only [ir8_l5, hlt', hp, wq, hN, q1, q2, q3, hl, hd, z0, wh, ws, hq, hs, go_sem, Nat.reduceAdd, Nat.reduceMul, Nat.reduceSub, Nat.reduceLeDiff, Nat.reduceEqDiff, Nat.reduceBEq, Nat.reduceLT, Int.reduceLE, Int.reduceLT, Int.reduceEq, Int.reduceNeg, Int.reduceAdd, Int.reduceMul, Int.reduceSub, Int.reduceToNat, reduceCtorEq, ↓reduceIte]
      rw [iter, st]
    · have hka : i = m := by omega
      subst hka
      have hlt' : ¬ ((i : Nat) : Int) < (i : Int) := by omega
      refine ⟨B false, x13, I i, ?_⟩
      simp -implicitDefEqProofs only [iter, ir8_l5, hlt', go_sem, Nat.reduceAdd, Nat.reduceMul, Nat.reduceSub, Nat.reduceLeDiff, Nat.reduceEqDiff, Nat.reduceBEq, Nat.reduceLT, Int.reduceLE, Int.reduceLT, Int.reduceEq, Int.reduceNeg, Int.reduceAdd, Int.reduceMul, Int.reduceSub, Int.reduceToNat, reduceCtorEq, ↓reduceIte]

theorem loop_r (ev : FuncId → List DV → Heap → Res DV) (b : Nat) (hb : b < 16) (v0 v1 v2 v3 v4 v5 v6 v7 v8 v9 v11 v12 v13 v14 v15 v16 v17 v18 v19 v21 v22 v23 v24 v27 v28 v29 : DV) : ∀ n r, r ≤ b → b - r < n → ∀ x10, ∃ y10 y25,
    iter (evalC ev NN ir8_l4) n ⟨[v0, v1, v2, v3, v4, v5, v6, v7, v8, v9, x10, v11, v12, v13, v14, v15, v16, v17, v18, v19, I b, v21, v22, v23, v24, I r, I (4 * 2 ^ r : Nat), v27, v28, v29], [], h⟩ =
      .exit 6 ⟨[v0, v1, v2, v3, v4, v5, v6, v7, v8, v9, y10, v11, v12, v13, v14, v15, v16, v17, v18, v19, I b, v21, v22, v23, v24, y25, I (4 * 2 ^ b : Nat), v27, v28, v29], [], h⟩ := by
  intro n
  induction n with
  | zero => intro r _ h2; omega
  | succ n ih =>
    intro r hr hn x10
    by_cases hlt : r < b
    · obtain ⟨y10, y25, e⟩ := ih (r + 1) (by omega) (by omega) (B true)
      refine ⟨y10, y25, ?_⟩
      rw [← e]
      have hlt' : (r : Int) < (b : Int) := by omega
      have ws := wrap_succ (show r < 4611686018427387904 by omega)
      have h2 : 2 ^ r ≤ 2 ^ 16 := Nat.pow_le_pow_right (by omega) (by omega)
      have w2 : IntKind.i64.wrap (2 * ((4 * 2 ^ r : Nat) : Int)) = ((4 * 2 ^ (r + 1) : Nat) : Int) := by
        rw [Nat.pow_succ, wrap64_id (by omega) (by omega)]; omega
      generalize 4 * 2 ^ r = u at *
      generalize 4 * 2 ^ (r + 1) = u2 at *
      have st : evalC ev NN ir8_l4 ⟨[v0, v1, v2, v3, v4, v5, v6, v7, v8, v9, x10, v11, v12, v13, v14, v15, v16, v17, v18, v19, I b, v21, v22, v23, v24, I r, I u, v27, v28, v29], [], h⟩ =
          .norm ⟨[v0, v1, v2, v3, v4, v5, v6, v7, v8, v9, B true, v11, v12, v13, v14, v15, v16, v17, v18, v19, I b, v21, v22, v23, v24, I (r + 1 : Nat), I u2, v27, v28, v29], [], h⟩ := by
        simp -implicitDefEqProofs only [ir8_l4, hlt', ws, w2, go_sem, Nat.reduceAdd, Nat.reduceMul, Nat.reduceSub, Nat.reduceLeDiff, Nat.reduceEqDiff, Nat.reduceBEq, Nat.reduceLT, Int.reduceLE, Int.reduceLT, Int.reduceEq, Int.reduceNeg, Int.reduceAdd, Int.reduceMul, Int.reduceSub, Int.reduceToNat, reduceCtorEq, ↓reduceIte]
      rw [iter, st]
    · have hka : r = b := by omega
      subst hka
      have hlt' : ¬ ((r : Nat) : Int) < (r : Int) := by omega
      refine ⟨B false, I r, ?_⟩
      simp -implicitDefEqProofs only [iter, ir8_l4, hlt', go_sem, Nat.reduceAdd, Nat.reduceMul, Nat.reduceSub, Nat.reduceLeDiff, Nat.reduceEqDiff, Nat.reduceBEq, Nat.reduceLT, Int.reduceLE, Int.reduceLT, Int.reduceEq, Int.reduceNeg, Int.reduceAdd, Int.reduceMul, Int.reduceSub, Int.reduceToNat, reduceCtorEq, ↓reduceIte]
end Go.D.Layout
