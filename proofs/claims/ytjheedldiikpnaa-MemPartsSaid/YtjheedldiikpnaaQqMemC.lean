/- What the functions of 'mem' and its reference compute: memories and rows of results that are the same. -/
import Derived.Test.YtjheedldiikpnaaQqMemA
set_option linter.unusedSimpArgs false
set_option linter.unusedVariables false
namespace Go.D.Mem
open Go.D
set_option maxRecDepth 10000
variable {d : Nat} {h : Heap}
set_option maxHeartbeats 2000000

theorem take_more {α : Type} [DecidableEq α] {a b : List α} {k : Nat} {x y : α} (ha : a[k]? = some x) (hb : b[k]? = some y) (ht : a.take k = b.take k) : a.take (k + 1) = b.take (k + 1) ↔ x = y := by
  rw [List.take_add_one, List.take_add_one, ha, hb, ht]; simp

theorem loop_Equal (ev : FuncId → List DV → Heap → Res DV) (a b : List Int) (ma mb : Mode) (hab : a.length = b.length) (hl : a.length ≤ 100000) : ∀ n k, k ≤ a.length → a.length - k < n → a.take k = b.take k → ∀ (v3 x4 x5 x8 : DV), ∃ y4 y5 y6 y8,
    iter (evalC ev NN ir22_l0) n ⟨[.sl ma 1 (ints a), .sl mb 1 (ints b), B false, v3, x4, x5, I k, I a.length, x8], [], h⟩ =
      if a = b then .exit 0 ⟨[.sl ma 1 (ints a), .sl mb 1 (ints b), B false, v3, y4, y5, y6, I a.length, y8], [], h⟩ else .ret ⟨[.sl ma 1 (ints a), .sl mb 1 (ints b), B false, v3, y4, y5, y6, I a.length, y8], [], h⟩ := by
  intro n
  induction n with
  | zero => intro k _ h2; omega
  | succ n ih =>
    intro k hk hn ht v3 x4 x5 x8
    by_cases hlt : k < a.length
    · obtain ⟨x, hx⟩ : ∃ x, a[k]? = some x := ⟨_, List.getElem?_eq_getElem hlt⟩
      obtain ⟨y, hy⟩ : ∃ y, b[k]? = some y := ⟨_, List.getElem?_eq_getElem (by omega)⟩
      have hlt' : (k : Int) < (a.length : Int) := by omega
      by_cases hxy : x = y
      · subst hxy
        obtain ⟨y4, y5, y6, y8, e⟩ := ih (k + 1) (by omega) (by omega) ((take_more hx hy ht).2 rfl) v3 (B true) (B false) (I k)
        refine ⟨y4, y5, y6, y8, ?_⟩
        simp -implicitDefEqProofs only [iter, ir22_l0, hlt', hx, hy, wrap_succ (show k < 4611686018427387904 by omega), go_sem, Nat.reduceAdd, Nat.reduceMul, Nat.reduceSub, Nat.reduceLeDiff, Nat.reduceEqDiff, Nat.reduceBEq, Nat.reduceLT, Int.reduceLE, Int.reduceLT, Int.reduceEq, Int.reduceNeg, Int.reduceAdd, Int.reduceMul, Int.reduceSub, Int.reduceToNat, reduceCtorEq, reduceIte]
        exact e
      · refine ⟨B true, B true, I k, I k, ?_⟩
        have hne : a ≠ b := fun e => hxy ((take_more hx hy ht).1 (by rw [e]))
        simp -implicitDefEqProofs only [iter, ir22_l0, hlt', hx, hy, hxy, hne, go_sem, Nat.reduceAdd, Nat.reduceMul, Nat.reduceSub, Nat.reduceLeDiff, Nat.reduceEqDiff, Nat.reduceBEq, Nat.reduceLT, Int.reduceLE, Int.reduceLT, Int.reduceEq, Int.reduceNeg, Int.reduceAdd, Int.reduceMul, Int.reduceSub, Int.reduceToNat, reduceCtorEq, reduceIte]
    · have hka : k = a.length := by omega
      subst hka
      have hlt' : ¬ ((a.length : Nat) : Int) < (a.length : Int) := by omega
      have he : a = b := by rwa [List.take_length, hab, List.take_length] at ht
      refine ⟨B false, x5, I a.length, x8, ?_⟩
      rw [if_pos he]
      simp -implicitDefEqProofs only [iter, ir22_l0, hlt', go_sem, Nat.reduceAdd, Nat.reduceMul, Nat.reduceSub, Nat.reduceLeDiff, Nat.reduceEqDiff, Nat.reduceBEq, Nat.reduceLT, Int.reduceLE, Int.reduceLT, Int.reduceEq, Int.reduceNeg, Int.reduceAdd, Int.reduceMul, Int.reduceSub, Int.reduceToNat, reduceCtorEq, reduceIte]

theorem p_Equal (a b : List Int) (ma mb : Mode) (hl : a.length ≤ 90000) : callP (evalCall fns NN (d + 1)) 22 [.sl ma 1 (ints a), .sl mb 1 (ints b)] h = .ok (B (decide (a = b))) h := by
  refine callP_of (v := B (decide (a = b))) (h' := []) (by simp -implicitDefEqProofs only [go_sem, Nat.reduceAdd, Nat.reduceMul, Nat.reduceSub, Nat.reduceLeDiff, Nat.reduceEqDiff, Nat.reduceBEq, Nat.reduceLT, Int.reduceLE, Int.reduceLT, Int.reduceEq, Int.reduceNeg, Int.reduceAdd, Int.reduceMul, Int.reduceSub, Int.reduceToNat, reduceCtorEq, reduceIte]) rfl ?_ rfl
  rw [call_eq rfl]
  by_cases hab : a.length = b.length
  · obtain ⟨y4, y5, y6, y8, e⟩ := loop_Equal (evalCall fns NN d) (h := []) a b ma mb hab (by omega) NN 0 (by omega) (by unfold NN; omega) rfl (B false) .junk .junk .junk
    simp only [cast0] at e
    by_cases he : a = b
    · rw [if_pos he] at e
      simp -implicitDefEqProofs only [ir22, hab, he, go_sem, Nat.reduceAdd, Nat.reduceMul, Nat.reduceSub, Nat.reduceLeDiff, Nat.reduceEqDiff, Nat.reduceBEq, Nat.reduceLT, Int.reduceLE, Int.reduceLT, Int.reduceEq, Int.reduceNeg, Int.reduceAdd, Int.reduceMul, Int.reduceSub, Int.reduceToNat, reduceCtorEq, reduceIte] at e ⊢
      simp -implicitDefEqProofs only [e, go_sem, Nat.reduceAdd, Nat.reduceMul, Nat.reduceSub, Nat.reduceLeDiff, Nat.reduceEqDiff, Nat.reduceBEq, Nat.reduceLT, Int.reduceLE, Int.reduceLT, Int.reduceEq, Int.reduceNeg, Int.reduceAdd, Int.reduceMul, Int.reduceSub, Int.reduceToNat, reduceCtorEq, reduceIte]
    · rw [if_neg he] at e
      simp -implicitDefEqProofs only [ir22, hab, he, go_sem, Nat.reduceAdd, Nat.reduceMul, Nat.reduceSub, Nat.reduceLeDiff, Nat.reduceEqDiff, Nat.reduceBEq, Nat.reduceLT, Int.reduceLE, Int.reduceLT, Int.reduceEq, Int.reduceNeg, Int.reduceAdd, Int.reduceMul, Int.reduceSub, Int.reduceToNat, reduceCtorEq, reduceIte] at e ⊢
      simp -implicitDefEqProofs only [e, go_sem, Nat.reduceAdd, Nat.reduceMul, Nat.reduceSub, Nat.reduceLeDiff, Nat.reduceEqDiff, Nat.reduceBEq, Nat.reduceLT, Int.reduceLE, Int.reduceLT, Int.reduceEq, Int.reduceNeg, Int.reduceAdd, Int.reduceMul, Int.reduceSub, Int.reduceToNat, reduceCtorEq, reduceIte]
  · have he : a ≠ b := fun e => hab (by rw [e])
    have hab' : ¬ ((a.length : Int) = (b.length : Int)) := by omega
    simp -implicitDefEqProofs only [ir22, hab', he, go_sem, Nat.reduceAdd, Nat.reduceMul, Nat.reduceSub, Nat.reduceLeDiff, Nat.reduceEqDiff, Nat.reduceBEq, Nat.reduceLT, Int.reduceLE, Int.reduceLT, Int.reduceEq, Int.reduceNeg, Int.reduceAdd, Int.reduceMul, Int.reduceSub, Int.reduceToNat, reduceCtorEq, reduceIte]

theorem p_memSame (a b : List Int) (hl : a.length ≤ 90000) : callP (evalCall fns NN (d + 2)) 15 [mm a, mm b] h = .ok (B (decide (a = b))) h := by
  refine callP_of (v := B (decide (a = b))) (h' := []) (by simp -implicitDefEqProofs only [mm, go_sem, Nat.reduceAdd, Nat.reduceMul, Nat.reduceSub, Nat.reduceLeDiff, Nat.reduceEqDiff, Nat.reduceBEq, Nat.reduceLT, Int.reduceLE, Int.reduceLT, Int.reduceEq, Int.reduceNeg, Int.reduceAdd, Int.reduceMul, Int.reduceSub, Int.reduceToNat, reduceCtorEq, reduceIte]) rfl ?_ rfl
  rw [call_eq rfl]
  have q := p_Equal (d := d) (h := []) a b .view .view hl
  simp -implicitDefEqProofs only [ir15, mm, q, go_sem, Nat.reduceAdd, Nat.reduceMul, Nat.reduceSub, Nat.reduceLeDiff, Nat.reduceEqDiff, Nat.reduceBEq, Nat.reduceLT, Int.reduceLE, Int.reduceLT, Int.reduceEq, Int.reduceNeg, Int.reduceAdd, Int.reduceMul, Int.reduceSub, Int.reduceToNat, reduceCtorEq, reduceIte]

theorem loop_Same (ev : FuncId → List DV → Heap → Res DV) (a b : List Int) (ma mb : Mode) (v0 v1 : DV) (hab : a.length = b.length) (hl : a.length ≤ 100000) : ∀ n k, k ≤ a.length → a.length - k < n → a.take k = b.take k → ∀ (v5 x6 x7 : DV), ∃ y6 y7 y8,
    iter (evalC ev NN ir16_l0) n ⟨[v0, v1, .box [.sl ma 1 (ints a)], .box [.sl mb 1 (ints b)], B false, v5, x6, x7, I k], [], h⟩ =
      if a = b then .exit 0 ⟨[v0, v1, .box [.sl ma 1 (ints a)], .box [.sl mb 1 (ints b)], B false, v5, y6, y7, y8], [], h⟩ else .ret ⟨[v0, v1, .box [.sl ma 1 (ints a)], .box [.sl mb 1 (ints b)], B false, v5, y6, y7, y8], [], h⟩ := by
  intro n
  induction n with
  | zero => intro k _ h2; omega
  | succ n ih =>
    intro k hk hn ht v5 x6 x7
    by_cases hlt : k < a.length
    · obtain ⟨x, hx⟩ : ∃ x, a[k]? = some x := ⟨_, List.getElem?_eq_getElem hlt⟩
      obtain ⟨y, hy⟩ : ∃ y, b[k]? = some y := ⟨_, List.getElem?_eq_getElem (by omega)⟩
      have hlt' : (k : Int) < (a.length : Int) := by omega
      by_cases hxy : x = y
      · subst hxy
        obtain ⟨y6, y7, y8, e⟩ := ih (k + 1) (by omega) (by omega) ((take_more hx hy ht).2 rfl) v5 (B true) (B false)
        refine ⟨y6, y7, y8, ?_⟩
        simp -implicitDefEqProofs only [iter, ir16_l0, hlt', hx, hy, wrap_succ (show k < 4611686018427387904 by omega), go_sem, Nat.reduceAdd, Nat.reduceMul, Nat.reduceSub, Nat.reduceLeDiff, Nat.reduceEqDiff, Nat.reduceBEq, Nat.reduceLT, Int.reduceLE, Int.reduceLT, Int.reduceEq, Int.reduceNeg, Int.reduceAdd, Int.reduceMul, Int.reduceSub, Int.reduceToNat, reduceCtorEq, reduceIte]
        exact e
      · refine ⟨B true, B true, I k, ?_⟩
        have hne : a ≠ b := fun e => hxy ((take_more hx hy ht).1 (by rw [e]))
        simp -implicitDefEqProofs only [iter, ir16_l0, hlt', hx, hy, hxy, hne, go_sem, Nat.reduceAdd, Nat.reduceMul, Nat.reduceSub, Nat.reduceLeDiff, Nat.reduceEqDiff, Nat.reduceBEq, Nat.reduceLT, Int.reduceLE, Int.reduceLT, Int.reduceEq, Int.reduceNeg, Int.reduceAdd, Int.reduceMul, Int.reduceSub, Int.reduceToNat, reduceCtorEq, reduceIte]
    · have hka : k = a.length := by omega
      subst hka
      have hlt' : ¬ ((a.length : Nat) : Int) < (a.length : Int) := by omega
      have he : a = b := by rwa [List.take_length, hab, List.take_length] at ht
      refine ⟨B false, x7, I a.length, ?_⟩
      rw [if_pos he]
      simp -implicitDefEqProofs only [iter, ir16_l0, hlt', go_sem, Nat.reduceAdd, Nat.reduceMul, Nat.reduceSub, Nat.reduceLeDiff, Nat.reduceEqDiff, Nat.reduceBEq, Nat.reduceLT, Int.reduceLE, Int.reduceLT, Int.reduceEq, Int.reduceNeg, Int.reduceAdd, Int.reduceMul, Int.reduceSub, Int.reduceToNat, reduceCtorEq, reduceIte]

theorem p_refSame (a b : List Int) (ma mb : Mode) (hl : a.length ≤ 90000) : callP (evalCall fns NN (d + 1)) 16 [.agg [.sl ma 1 (ints a)], .agg [.sl mb 1 (ints b)]] h = .ok (B (decide (a = b))) h := by
  refine callP_of (v := B (decide (a = b))) (h' := []) (by simp -implicitDefEqProofs only [go_sem, Nat.reduceAdd, Nat.reduceMul, Nat.reduceSub, Nat.reduceLeDiff, Nat.reduceEqDiff, Nat.reduceBEq, Nat.reduceLT, Int.reduceLE, Int.reduceLT, Int.reduceEq, Int.reduceNeg, Int.reduceAdd, Int.reduceMul, Int.reduceSub, Int.reduceToNat, reduceCtorEq, reduceIte]) rfl ?_ rfl
  rw [call_eq rfl]
  by_cases hab : a.length = b.length
  · obtain ⟨y6, y7, y8, e⟩ := loop_Same (evalCall fns NN d) (h := []) a b ma mb (.agg [.sl (vm ma) 1 (ints a)]) (.agg [.sl (vm mb) 1 (ints b)]) hab (by omega) NN 0 (by omega) (by unfold NN; omega) rfl (B false) .junk .junk
    simp only [cast0] at e
    by_cases he : a = b
    · rw [if_pos he] at e
      simp -implicitDefEqProofs only [ir16, hab, he, go_sem, Nat.reduceAdd, Nat.reduceMul, Nat.reduceSub, Nat.reduceLeDiff, Nat.reduceEqDiff, Nat.reduceBEq, Nat.reduceLT, Int.reduceLE, Int.reduceLT, Int.reduceEq, Int.reduceNeg, Int.reduceAdd, Int.reduceMul, Int.reduceSub, Int.reduceToNat, reduceCtorEq, reduceIte] at e ⊢
      simp -implicitDefEqProofs only [e, go_sem, Nat.reduceAdd, Nat.reduceMul, Nat.reduceSub, Nat.reduceLeDiff, Nat.reduceEqDiff, Nat.reduceBEq, Nat.reduceLT, Int.reduceLE, Int.reduceLT, Int.reduceEq, Int.reduceNeg, Int.reduceAdd, Int.reduceMul, Int.reduceSub, Int.reduceToNat, reduceCtorEq, reduceIte]
    · rw [if_neg he] at e
      simp -implicitDefEqProofs only [ir16, hab, he, go_sem, Nat.reduceAdd, Nat.reduceMul, Nat.reduceSub, Nat.reduceLeDiff, Nat.reduceEqDiff, Nat.reduceBEq, Nat.reduceLT, Int.reduceLE, Int.reduceLT, Int.reduceEq, Int.reduceNeg, Int.reduceAdd, Int.reduceMul, Int.reduceSub, Int.reduceToNat, reduceCtorEq, reduceIte] at e ⊢
      simp -implicitDefEqProofs only [e, go_sem, Nat.reduceAdd, Nat.reduceMul, Nat.reduceSub, Nat.reduceLeDiff, Nat.reduceEqDiff, Nat.reduceBEq, Nat.reduceLT, Int.reduceLE, Int.reduceLT, Int.reduceEq, Int.reduceNeg, Int.reduceAdd, Int.reduceMul, Int.reduceSub, Int.reduceToNat, reduceCtorEq, reduceIte]
  · have he : a ≠ b := fun e => hab (by rw [e])
    have hab' : ¬ ((a.length : Int) = (b.length : Int)) := by omega
    simp -implicitDefEqProofs only [ir16, hab', he, go_sem, Nat.reduceAdd, Nat.reduceMul, Nat.reduceSub, Nat.reduceLeDiff, Nat.reduceEqDiff, Nat.reduceBEq, Nat.reduceLT, Int.reduceLE, Int.reduceLT, Int.reduceEq, Int.reduceNeg, Int.reduceAdd, Int.reduceMul, Int.reduceSub, Int.reduceToNat, reduceCtorEq, reduceIte]

def ress (l : List (Int × Bool)) : List DV := l.map fun p => res p.1 p.2
theorem len_ress (l : List (Int × Bool)) : (ress l).length = l.length := by simp [ress]
theorem get_ress (l : List (Int × Bool)) (i : Nat) : (ress l)[i]? = (l[i]?).map fun p => .agg [I p.1, B p.2] := by simp [ress, res]
theorem strip_ress (l : List (Int × Bool)) : stripL (ress l) = ress l := stripL_map _ (fun _ => rfl) l
theorem free_ress (l : List (Int × Bool)) : freeL (ress l) = true := freeL_map _ (fun _ => rfl) l
theorem app_ress (a : List (Int × Bool)) (x : Int) (b : Bool) : ress a ++ [.agg [I x, B b]] = ress (a ++ [(x, b)]) := by simp [ress, res]
attribute [go_sem] len_ress get_ress strip_ress free_ress app_ress

theorem loop_Told (ev : FuncId → List DV → Heap → Res DV) (a b : List (Int × Bool)) (ma mb : Mode) (hab : a.length = b.length) (hl : a.length ≤ 100000) : ∀ n k, k ≤ a.length → a.length - k < n → a.take k = b.take k → ∀ (v3 x4 x5 : DV), ∃ y4 y5 y6,
    iter (evalC ev NN ir19_l0) n ⟨[.sl ma 2 (ress a), .sl mb 2 (ress b), B false, v3, x4, x5, I k], [], h⟩ =
      if a = b then .exit 0 ⟨[.sl ma 2 (ress a), .sl mb 2 (ress b), B false, v3, y4, y5, y6], [], h⟩ else .ret ⟨[.sl ma 2 (ress a), .sl mb 2 (ress b), B false, v3, y4, y5, y6], [], h⟩ := by
  intro n
  induction n with
  | zero => intro k _ h2; omega
  | succ n ih =>
    intro k hk hn ht v3 x4 x5
    by_cases hlt : k < a.length
    · obtain ⟨x, hx⟩ : ∃ x, a[k]? = some x := ⟨_, List.getElem?_eq_getElem hlt⟩
      obtain ⟨y, hy⟩ : ∃ y, b[k]? = some y := ⟨_, List.getElem?_eq_getElem (by omega)⟩
      have hlt' : (k : Int) < (a.length : Int) := by omega
      by_cases hxy : x = y
      · subst hxy
        obtain ⟨y4, y5, y6, e⟩ := ih (k + 1) (by omega) (by omega) ((take_more hx hy ht).2 rfl) v3 (B true) (B false)
        refine ⟨y4, y5, y6, ?_⟩
        simp -implicitDefEqProofs only [iter, ir19_l0, hlt', hx, hy, wrap_succ (show k < 4611686018427387904 by omega), go_sem, Nat.reduceAdd, Nat.reduceMul, Nat.reduceSub, Nat.reduceLeDiff, Nat.reduceEqDiff, Nat.reduceBEq, Nat.reduceLT, Int.reduceLE, Int.reduceLT, Int.reduceEq, Int.reduceNeg, Int.reduceAdd, Int.reduceMul, Int.reduceSub, Int.reduceToNat, reduceCtorEq, reduceIte]
        exact e
      · refine ⟨B true, B true, I k, ?_⟩
        have hne : a ≠ b := fun e => hxy ((take_more hx hy ht).1 (by rw [e]))
        have hxy' : (decide (x.1 = y.1) && (x.2 == y.2)) = false := by
          obtain ⟨x1, x2⟩ := x
          obtain ⟨y1, y2⟩ := y
          simp only [Prod.mk.injEq] at hxy
          by_cases h1 : x1 = y1
          · have h2 : ¬ x2 = y2 := fun e => hxy ⟨h1, e⟩
            simp [h2]
          · simp [h1]
        simp -implicitDefEqProofs only [iter, ir19_l0, hlt', hx, hy, hxy', hne, go_sem, Nat.reduceAdd, Nat.reduceMul, Nat.reduceSub, Nat.reduceLeDiff, Nat.reduceEqDiff, Nat.reduceBEq, Nat.reduceLT, Int.reduceLE, Int.reduceLT, Int.reduceEq, Int.reduceNeg, Int.reduceAdd, Int.reduceMul, Int.reduceSub, Int.reduceToNat, reduceCtorEq, reduceIte]
    · have hka : k = a.length := by omega
      subst hka
      have hlt' : ¬ ((a.length : Nat) : Int) < (a.length : Int) := by omega
      have he : a = b := by rwa [List.take_length, hab, List.take_length] at ht
      refine ⟨B false, x5, I a.length, ?_⟩
      rw [if_pos he]
      simp -implicitDefEqProofs only [iter, ir19_l0, hlt', go_sem, Nat.reduceAdd, Nat.reduceMul, Nat.reduceSub, Nat.reduceLeDiff, Nat.reduceEqDiff, Nat.reduceBEq, Nat.reduceLT, Int.reduceLE, Int.reduceLT, Int.reduceEq, Int.reduceNeg, Int.reduceAdd, Int.reduceMul, Int.reduceSub, Int.reduceToNat, reduceCtorEq, reduceIte]

theorem p_Told (a b : List (Int × Bool)) (ma mb : Mode) (hl : a.length ≤ 90000) : callP (evalCall fns NN (d + 1)) 19 [.sl ma 2 (ress a), .sl mb 2 (ress b)] h = .ok (B (decide (a = b))) h := by
  refine callP_of (v := B (decide (a = b))) (h' := []) (by simp -implicitDefEqProofs only [go_sem, Nat.reduceAdd, Nat.reduceMul, Nat.reduceSub, Nat.reduceLeDiff, Nat.reduceEqDiff, Nat.reduceBEq, Nat.reduceLT, Int.reduceLE, Int.reduceLT, Int.reduceEq, Int.reduceNeg, Int.reduceAdd, Int.reduceMul, Int.reduceSub, Int.reduceToNat, reduceCtorEq, reduceIte]) rfl ?_ rfl
  rw [call_eq rfl]
  by_cases hab : a.length = b.length
  · obtain ⟨y4, y5, y6, e⟩ := loop_Told (evalCall fns NN d) (h := []) a b ma mb hab (by omega) NN 0 (by omega) (by unfold NN; omega) rfl (B false) .junk .junk
    simp only [cast0] at e
    by_cases he : a = b
    · rw [if_pos he] at e
      simp -implicitDefEqProofs only [ir19, hab, he, go_sem, Nat.reduceAdd, Nat.reduceMul, Nat.reduceSub, Nat.reduceLeDiff, Nat.reduceEqDiff, Nat.reduceBEq, Nat.reduceLT, Int.reduceLE, Int.reduceLT, Int.reduceEq, Int.reduceNeg, Int.reduceAdd, Int.reduceMul, Int.reduceSub, Int.reduceToNat, reduceCtorEq, reduceIte] at e ⊢
      simp -implicitDefEqProofs only [e, go_sem, Nat.reduceAdd, Nat.reduceMul, Nat.reduceSub, Nat.reduceLeDiff, Nat.reduceEqDiff, Nat.reduceBEq, Nat.reduceLT, Int.reduceLE, Int.reduceLT, Int.reduceEq, Int.reduceNeg, Int.reduceAdd, Int.reduceMul, Int.reduceSub, Int.reduceToNat, reduceCtorEq, reduceIte]
    · rw [if_neg he] at e
      simp -implicitDefEqProofs only [ir19, hab, he, go_sem, Nat.reduceAdd, Nat.reduceMul, Nat.reduceSub, Nat.reduceLeDiff, Nat.reduceEqDiff, Nat.reduceBEq, Nat.reduceLT, Int.reduceLE, Int.reduceLT, Int.reduceEq, Int.reduceNeg, Int.reduceAdd, Int.reduceMul, Int.reduceSub, Int.reduceToNat, reduceCtorEq, reduceIte] at e ⊢
      simp -implicitDefEqProofs only [e, go_sem, Nat.reduceAdd, Nat.reduceMul, Nat.reduceSub, Nat.reduceLeDiff, Nat.reduceEqDiff, Nat.reduceBEq, Nat.reduceLT, Int.reduceLE, Int.reduceLT, Int.reduceEq, Int.reduceNeg, Int.reduceAdd, Int.reduceMul, Int.reduceSub, Int.reduceToNat, reduceCtorEq, reduceIte]
  · have he : a ≠ b := fun e => hab (by rw [e])
    have hab' : ¬ ((a.length : Int) = (b.length : Int)) := by omega
    simp -implicitDefEqProofs only [ir19, hab', he, go_sem, Nat.reduceAdd, Nat.reduceMul, Nat.reduceSub, Nat.reduceLeDiff, Nat.reduceEqDiff, Nat.reduceBEq, Nat.reduceLT, Int.reduceLE, Int.reduceLT, Int.reduceEq, Int.reduceNeg, Int.reduceAdd, Int.reduceMul, Int.reduceSub, Int.reduceToNat, reduceCtorEq, reduceIte]
end Go.D.Mem
