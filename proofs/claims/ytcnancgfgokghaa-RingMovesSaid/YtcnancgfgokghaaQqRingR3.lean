/- What 'ring' computes: a deque's row. -/
import Derived.Test.YtcnancgfgokghaaQqRingR2
set_option linter.unusedSimpArgs false
set_option linter.unusedVariables false
namespace Go.D.Ring
open Go.D
set_option maxRecDepth 100000
set_option maxHeartbeats 1000000
variable {d : Nat} {h : Heap}

/-- What places of a ring have. -/
def cellsAt (M : List Int) (c : Cf) (l : Lf) (seat r top : Int) (n : Nat) : List Int := (List.range n).map fun k : Nat => M.getD (placeF c l seat r (top + k)).toNat 0
theorem cellsAt_snoc (M : List Int) (c : Cf) (l : Lf) (seat r top : Int) (n : Nat) : cellsAt M c l seat r top n ++ [M.getD (placeF c l seat r (top + n)).toNat 0] = cellsAt M c l seat r top (n + 1) :=
  range_snoc (fun k : Nat => M.getD (placeF c l seat r (top + k)).toNat 0) n
theorem cellsAt_len (M : List Int) (c : Cf) (l : Lf) (seat r top : Int) (n : Nat) : (cellsAt M c l seat r top n).length = n := by simp [cellsAt]
theorem getD_some {M : List Int} {i : Nat} (h : i < M.length) : M[i]? = some (M.getD i 0) := by rw [List.getD_eq_getElem?_getD, List.getElem?_eq_getElem h]; rfl

theorem loop_Row (ev : FuncId → List DV → Heap → Res DV) (c : Cf) (l : Lf) (M : List Int) (seat d0 d1 d2 : Int) (v0 v1 v2 v3 v6 v7 v8 v9 v12 v13 v14 : DV) (mm : Mode) (h1 : 0 ≤ ringF c l seat d2) (ht : 0 ≤ d0) (m : Nat) (hm : m ≤ 64) (htm : d0 + m ≤ 9223372036854775807) (H : Heap)
    (hin : ∀ k : Nat, k < m → (placeF c l seat d2 (d0 + k)).toNat < M.length ∧ 0 ≤ placeF c l seat d2 (d0 + k))
    (hl3 : isLref v3 4 = false)
    (q1 : ∀ i, 0 ≤ i → callP ev 33 [I i, .ptr 0 0, .ptr 1 0] H = .ok (I (ringF c l seat d2 + i % szF d2)) H) : ∀ n k, k ≤ m → m - k < n → ∀ x10 x11 x18 x19, ∃ y10 y11 y15 y18 y19,
    iter (evalC ev NN ir19_l1) n ⟨[v0, v1, v2, v3, .box [.sl mm 1 (ints M)], .box [I d0, I d1, I d2], v6, v7, v8, v9, x10, x11, v12, v13, v14, I k, I m, .fn (.func 33) [] [.ptr 0 0, .ptr 1 0], x18, x19, .sl (md (cellsAt M c l seat d2 d0 k)) 1 (ints (cellsAt M c l seat d2 d0 k))], [], H⟩ =
      .exit 2 ⟨[v0, v1, v2, v3, .box [.sl mm 1 (ints M)], .box [I d0, I d1, I d2], v6, v7, v8, v9, y10, y11, v12, v13, v14, y15, I m, .fn (.func 33) [] [.ptr 0 0, .ptr 1 0], y18, y19, .sl (md (cellsAt M c l seat d2 d0 m)) 1 (ints (cellsAt M c l seat d2 d0 m))], [], H⟩ := by
  intro n
  induction n with
  | zero => intro k _ h2; omega
  | succ n ih =>
    intro k hk hn x10 x11 x18 x19
    by_cases hlt : k < m
    · have hlt' : (k : Int) < (m : Int) := by omega
      obtain ⟨hp1, hp2⟩ := hin k hlt
      obtain ⟨y10, y11, y15, y18, y19, e⟩ := ih (k + 1) (by omega) (by omega) (B true) (B false) (I k) (I (placeF c l seat d2 (d0 + k)))
      refine ⟨y10, y11, y15, y18, y19, ?_⟩
      rw [← e]
      have hti : 0 ≤ d0 + (k : Int) := by omega
      have p1 := q1 (d0 + k) hti
      have e1 : ringF c l seat d2 + (d0 + (k : Int)) % szF d2 = placeF c l seat d2 (d0 + k) := by unfold placeF; rw [if_pos ⟨h1, hti⟩]
      rw [e1] at p1
      have ws := wrap_succ (show k < 4611686018427387904 by omega)
      have wt : IntKind.i64.wrap (d0 + (k : Int)) = d0 + (k : Int) := wrap64_id (by omega) (by omega)
      have hl := cellsAt_len M c l seat d2 d0 k
      have sn := cellsAt_snoc M c l seat d2 d0 k
      have mo := md_app (cellsAt M c l seat d2 d0 k) (M.getD (placeF c l seat d2 (d0 + k)).toNat 0)
      rw [sn] at mo
      rw [mo, ← sn]
      generalize cellsAt M c l seat d2 d0 k = acc at *
      have hg := getD_some hp1
      have hnl : ¬ (M.length : Int) ≤ placeF c l seat d2 (d0 + k) := by omega
      generalize M.getD (placeF c l seat d2 (d0 + k)).toNat 0 = x at *
      generalize placeF c l seat d2 (d0 + k) = a at *
      have st : ∀ acc : List Int, acc.length ≤ 64 → evalC ev NN ir19_l1 ⟨[v0, v1, v2, v3, .box [.sl mm 1 (ints M)], .box [I d0, I d1, I d2], v6, v7, v8, v9, x10, x11, v12, v13, v14, I k, I m, .fn (.func 33) [] [.ptr 0 0, .ptr 1 0], x18, x19, .sl (md acc) 1 (ints acc)], [], H⟩ =
          .norm ⟨[v0, v1, v2, v3, .box [.sl mm 1 (ints M)], .box [I d0, I d1, I d2], v6, v7, v8, v9, B true, B false, v12, v13, v14, I (k + 1 : Nat), I m, .fn (.func 33) [] [.ptr 0 0, .ptr 1 0], I k, I a, .sl .own 1 (ints (acc ++ [x]))], [], H⟩ := by
        intro acc ha
        have hr : (acc.length + 1) * 9 ≤ room := by simp only [room]; omega
        have hr1 : 9 ≤ room := by decide
        cases acc with
        | nil => simp -implicitDefEqProofs only [ir19_l1, md, hlt', p1, ws, wt, hg, hnl, hp2, hr1, go_sem, Nat.reduceAdd, Nat.reduceMul, Nat.reduceSub, Nat.reduceLeDiff, Nat.reduceEqDiff, Nat.reduceBEq, Nat.reduceLT, Int.reduceLE, Int.reduceLT, Int.reduceEq, Int.reduceNeg, Int.reduceAdd, Int.reduceMul, Int.reduceSub, Int.reduceToNat, reduceCtorEq, ↓reduceIte]
        | cons x acc =>
          simp only [List.length_cons] at hr
          simp -implicitDefEqProofs only [ir19_l1, md, hlt', p1, ws, wt, hg, hnl, hp2, hr, go_sem, Nat.reduceAdd, Nat.reduceMul, Nat.reduceSub, Nat.reduceLeDiff, Nat.reduceEqDiff, Nat.reduceBEq, Nat.reduceLT, Int.reduceLE, Int.reduceLT, Int.reduceEq, Int.reduceNeg, Int.reduceAdd, Int.reduceMul, Int.reduceSub, Int.reduceToNat, reduceCtorEq, ↓reduceIte]
      rw [iter, st acc (by omega)]
    · have hka : k = m := by omega
      subst hka
      have hlt' : ¬ ((k : Nat) : Int) < (k : Int) := by omega
      refine ⟨B false, x11, I k, x18, x19, ?_⟩
      simp -implicitDefEqProofs only [iter, ir19_l1, hlt', go_sem, Nat.reduceAdd, Nat.reduceMul, Nat.reduceSub, Nat.reduceLeDiff, Nat.reduceEqDiff, Nat.reduceBEq, Nat.reduceLT, Int.reduceLE, Int.reduceLT, Int.reduceEq, Int.reduceNeg, Int.reduceAdd, Int.reduceMul, Int.reduceSub, Int.reduceToNat, reduceCtorEq, ↓reduceIte]

/-- What a deque has. -/
def rowV (c : Cf) (l : Lf) (M : List Int) (seat d0 d1 d2 : Int) : List Int := if fitsB c l seat d2 d0 d1 = true then cellsAt M c l seat d2 d0 (d1 - d0).toNat else []
theorem body_Row (ev : FuncId → List DV → Heap → Res DV) (c : Cf) (l : Lf) (M : List Int) (mm : Mode) (seat d0 d1 d2 : Int) (hk : LOk c l) (hb : inI d1) (b : Nat) (hM : M.length ≤ 100000) (m0 : M[b]? = some d0) (m1 : M[b + 1]? = some d1) (m2 : M[b + 2]? = some d2)
    (hin : ∀ k : Nat, (k : Int) < d1 - d0 → fitsB c l seat d2 d0 d1 = true → (placeF c l seat d2 (d0 + k)).toNat < M.length ∧ 0 ≤ placeF c l seat d2 (d0 + k))
    (q1 : ∀ h, callP ev 18 [.agg (LDc c l), I seat, I 0] h = .ok (I b) h) (q2 : ∀ h, callP ev 18 [.agg (LDc c l), I seat, I 1] h = .ok (I (b + 1 : Nat)) h) (q3 : ∀ h, callP ev 18 [.agg (LDc c l), I seat, I 2] h = .ok (I (b + 2 : Nat)) h)
    (q4 : ∀ h, callP ev 26 [.agg (LDc c l), I seat, I d2, I d0, I d1] h = .ok (B (fitsB c l seat d2 d0 d1)) h)
    (q5 : callP ev 24 [.agg (LDc c l), I seat, I d2] [] = .ok (.fn (.func 33) [] [.ptr 0 0, .ptr 1 0]) [[I (ringF c l seat d2)], [I (szF d2)]])
    (q6 : ∀ f s i, 0 ≤ f ∧ f ≤ 30000 → 0 < s ∧ s ≤ 1000000 → 0 ≤ i → callP ev 33 [I i, .ptr 0 0, .ptr 1 0] [[I f], [I s]] = .ok (I (f + i % s)) [[I f], [I s]]) :
    ∃ h', evalF ev NN ir19 [.agg (LDc c l), .agg [.sl mm 1 (ints M)], I seat] [] = .ok (.sl (md (rowV c l M seat d0 d1 d2)) 1 (ints (rowV c l M seat d0 d1 d2))) h' := by
  obtain ⟨hb1, hb2⟩ := hb
  have hb2' : b + 2 < M.length := by
    rcases Nat.lt_or_ge (b + 2) M.length with h | h
    · exact h
    · rw [List.getElem?_eq_none h] at m2; cases m2
  have n0 : ¬ (b : Int) < 0 := by omega
  have n1 : ¬ ((b + 1 : Nat) : Int) < 0 := by omega
  have n2 : ¬ ((b + 2 : Nat) : Int) < 0 := by omega
  have n3 : ¬ (M.length : Int) ≤ (b : Int) := by omega
  have n4 : ¬ (M.length : Int) ≤ ((b + 1 : Nat) : Int) := by omega
  have n5 : ¬ (M.length : Int) ≤ ((b + 2 : Nat) : Int) := by omega
  have l0 : iter (evalC ev NN ir19_l0) NN ⟨[.agg (LDc c l), .agg [.sl (vm mm) 1 (ints M)], I seat, .box (LDc c l), .box [.sl mm 1 (ints M)], .box [I 0, I 0, I 0], .sl .full 1 [], .junk, .junk, .junk, .junk, .junk, I 0, .junk, .junk, .junk, .junk, .junk, .junk, .junk, .junk], [], []⟩ =
      .exit 0 ⟨[.agg (LDc c l), .agg [.sl (vm mm) 1 (ints M)], I seat, .box (LDc c l), .box [.sl mm 1 (ints M)], .box [I d0, I d1, I d2], .sl .full 1 [], B false, B false, .junk, .junk, .junk, I 3, I 2, I (b + 2 : Nat), .junk, .junk, .junk, .junk, .junk, .junk], [], []⟩ := by
    simp -implicitDefEqProofs (disch := omega) only [ir19_l0, NN_8, it1, q1, q2, q3, m0, m1, m2, n0, n1, n2, n3, n4, n5, wrap_i64, wrap_u64, wrap_u32, wrap_u16, wrap_u8, dec_t, dec_f, ite_t, ite_f, tmod_e, go_sem, Nat.reduceAdd, Nat.reduceMul, Nat.reduceSub, Nat.reduceLeDiff, Nat.reduceEqDiff, Nat.reduceBEq, Nat.reduceLT, Int.reduceLE, Int.reduceLT, Int.reduceEq, Int.reduceNeg, Int.reduceAdd, Int.reduceMul, Int.reduceSub, Int.reduceToNat, reduceCtorEq, ↓reduceIte]
  cases hf : fitsB c l seat d2 d0 d1 with
  | false =>
    have hv : rowV c l M seat d0 d1 d2 = [] := by unfold rowV; rw [if_neg (by rw [hf]; simp)]
    rw [hv]
    exact ⟨_, by simp -implicitDefEqProofs (disch := omega) only [ir19, l0, q4, hf, wrap_i64, wrap_u64, wrap_u32, wrap_u16, wrap_u8, dec_t, dec_f, ite_t, ite_f, tmod_e, go_sem, Nat.reduceAdd, Nat.reduceMul, Nat.reduceSub, Nat.reduceLeDiff, Nat.reduceEqDiff, Nat.reduceBEq, Nat.reduceLT, Int.reduceLE, Int.reduceLT, Int.reduceEq, Int.reduceNeg, Int.reduceAdd, Int.reduceMul, Int.reduceSub, Int.reduceToNat, reduceCtorEq, ↓reduceIte]; rfl⟩
  | true =>
    have hf' := of_decide_eq_true hf
    have hv : rowV c l M seat d0 d1 d2 = cellsAt M c l seat d2 d0 (d1 - d0).toNat := by unfold rowV; rw [if_pos hf]
    rw [hv]
    have z1 := sz_bd hk.ring.1 hf'.1
    have u1 := ring_up (seat := seat) (r := d2) hk.seats hk.ring
    obtain ⟨m, hm⟩ := Int.eq_ofNat_of_zero_le (show 0 ≤ d1 - d0 by omega)
    obtain ⟨y10, y11, y15, y18, y19, e⟩ := loop_Row ev c l M seat d0 d1 d2 (.agg (LDc c l)) (.agg [.sl (vm mm) 1 (ints M)]) (I seat) (.box (LDc c l)) (.sl .full 1 []) (B false) (B false) (B false) (I 3) (I 2) (I (b + 2 : Nat)) mm hf'.1 hf'.2.1 m (by omega) (by omega) [[I (ringF c l seat d2)], [I (szF d2)]]
      (fun k hk => hin k (by omega) hf) rfl (fun i hi => q6 _ _ i ⟨hf'.1, u1⟩ (by omega) hi) NN 0 (by omega) (by unfold NN; omega) .junk .junk .junk .junk
    have e0 : cellsAt M c l seat d2 d0 0 = [] := rfl
    have wm : IntKind.i64.wrap (d1 - d0) = (m : Int) := by rw [hm]; exact wrap64_id (by omega) (by omega)
    have tm : (d1 - d0).toNat = m := by omega
    have p0 : ints [] = [] := rfl
    rw [tm]
    simp only [cast0, e0, p0, md] at e
    refine ⟨[[I (ringF c l seat d2)], [I (szF d2)]], ?_⟩
    simp -implicitDefEqProofs (disch := omega) only [ir19, l0, q4, q5, hf, wm, e, wrap_i64, wrap_u64, wrap_u32, wrap_u16, wrap_u8, dec_t, dec_f, ite_t, ite_f, tmod_e, go_sem, Nat.reduceAdd, Nat.reduceMul, Nat.reduceSub, Nat.reduceLeDiff, Nat.reduceEqDiff, Nat.reduceBEq, Nat.reduceLT, Int.reduceLE, Int.reduceLT, Int.reduceEq, Int.reduceNeg, Int.reduceAdd, Int.reduceMul, Int.reduceSub, Int.reduceToNat, reduceCtorEq, ↓reduceIte]
    rfl
end Go.D.Ring
