/- What the functions of 'wire' and its reference compute: rows that are the same. -/
import Derived.Test.YtfbpnbomcogkcaaQqWireA
import Derived.KernelRfl
set_option linter.unusedSimpArgs false
set_option linter.unusedVariables false
namespace Go.D.Wire
open Go.D
set_option maxRecDepth 10000
set_option maxHeartbeats 1000000
variable {d : Nat} {h : Heap}

theorem take_more {α : Type} [DecidableEq α] {a b : List α} {k : Nat} {x y : α} (ha : a[k]? = some x) (hb : b[k]? = some y) (ht : a.take k = b.take k) : a.take (k + 1) = b.take (k + 1) ↔ x = y := by
  rw [List.take_add_one, List.take_add_one, ha, hb, ht]; simp

theorem loop_Same (ev : FuncId → List DV → Heap → Res DV) (a b : List Int) (ma mb : Mode) (hab : a.length = b.length) (hl : a.length ≤ 100000) : ∀ n k, k ≤ a.length → a.length - k < n → a.take k = b.take k → ∀ (v3 x4 x5 : DV), ∃ y4 y5 y6,
    iter (evalC ev NN ir15_l0) n ⟨[.sl ma 1 (u8s a), .sl mb 1 (u8s b), B false, v3, x4, x5, I k], [], h⟩ =
      if a = b then .exit 0 ⟨[.sl ma 1 (u8s a), .sl mb 1 (u8s b), B false, v3, y4, y5, y6], [], h⟩ else .ret ⟨[.sl ma 1 (u8s a), .sl mb 1 (u8s b), B false, v3, y4, y5, y6], [], h⟩ := by
  intro n
  induction n with
  | zero => intro k _ h2; omega
  | succ n ih =>
    intro k hk hn ht v3 x4 x5
    by_cases hlt : k < a.length
    · obtain ⟨x, hx⟩ : ∃ x, a[k]? = some x := ⟨_, List.getElem?_eq_getElem hlt⟩
      obtain ⟨y, hy⟩ : ∃ y, b[k]? = some y := ⟨_, List.getElem?_eq_getElem (by omega)⟩
      have hlt' : (k : Int) < (a.length : Int) := by omega
      by_cases hxy : x = y
      · subst hxy
        obtain ⟨y4, y5, y6, e⟩ := ih (k + 1) (by omega) (by omega) ((take_more hx hy ht).2 rfl) v3 (B true) (B false)
        refine ⟨y4, y5, y6, ?_⟩
        simp -implicitDefEqProofs only [iter, ir15_l0, hlt', hx, hy, wrap_succ (show k < 4611686018427387904 by omega), go_sem, Nat.reduceAdd, Nat.reduceMul, Nat.reduceSub, Nat.reduceLeDiff, Nat.reduceEqDiff, Nat.reduceBEq, Nat.reduceLT, Int.reduceLE, Int.reduceLT, Int.reduceEq, Int.reduceNeg, Int.reduceAdd, Int.reduceMul, Int.reduceSub, Int.reduceToNat, reduceCtorEq, reduceIte]
        exact e
      · refine ⟨B true, B true, I k, ?_⟩
        have hne : a ≠ b := fun e => hxy ((take_more hx hy ht).1 (by rw [e]))
        simp -implicitDefEqProofs only [iter, ir15_l0, hlt', hx, hy, hxy, hne, go_sem, Nat.reduceAdd, Nat.reduceMul, Nat.reduceSub, Nat.reduceLeDiff, Nat.reduceEqDiff, Nat.reduceBEq, Nat.reduceLT, Int.reduceLE, Int.reduceLT, Int.reduceEq, Int.reduceNeg, Int.reduceAdd, Int.reduceMul, Int.reduceSub, Int.reduceToNat, reduceCtorEq, reduceIte]
    · have hka : k = a.length := by omega
      subst hka
      have hlt' : ¬ ((a.length : Nat) : Int) < (a.length : Int) := by omega
      have he : a = b := by rwa [List.take_length, hab, List.take_length] at ht
      refine ⟨B false, x5, I a.length, ?_⟩
      rw [if_pos he]
      simp -implicitDefEqProofs only [iter, ir15_l0, hlt', go_sem, Nat.reduceAdd, Nat.reduceMul, Nat.reduceSub, Nat.reduceLeDiff, Nat.reduceEqDiff, Nat.reduceBEq, Nat.reduceLT, Int.reduceLE, Int.reduceLT, Int.reduceEq, Int.reduceNeg, Int.reduceAdd, Int.reduceMul, Int.reduceSub, Int.reduceToNat, reduceCtorEq, reduceIte]

theorem p_Same (a b : List Int) (ma mb : Mode) (hl : a.length ≤ 90000) : callP (evalCall fns NN (d + 1)) 15 [.sl ma 1 (u8s a), .sl mb 1 (u8s b)] h = .ok (B (decide (a = b))) h := by
  refine callP_of (v := B (decide (a = b))) (h' := []) (by simp -implicitDefEqProofs only [go_sem, Nat.reduceAdd, Nat.reduceMul, Nat.reduceSub, Nat.reduceLeDiff, Nat.reduceEqDiff, Nat.reduceBEq, Nat.reduceLT, Int.reduceLE, Int.reduceLT, Int.reduceEq, Int.reduceNeg, Int.reduceAdd, Int.reduceMul, Int.reduceSub, Int.reduceToNat, reduceCtorEq, reduceIte]) rfl ?_ rfl
  rw [call_eq rfl]
  generalize evalCall fns NN d = ev
  by_cases hab : a.length = b.length
  · obtain ⟨y4, y5, y6, e⟩ := loop_Same ev (h := []) a b ma mb hab (by omega) NN 0 (by omega) (by unfold NN; omega) rfl (B false) .junk .junk
    simp only [cast0] at e
    by_cases he : a = b
    · rw [if_pos he] at e
      simp -implicitDefEqProofs only [ir15, hab, he, go_sem, Nat.reduceAdd, Nat.reduceMul, Nat.reduceSub, Nat.reduceLeDiff, Nat.reduceEqDiff, Nat.reduceBEq, Nat.reduceLT, Int.reduceLE, Int.reduceLT, Int.reduceEq, Int.reduceNeg, Int.reduceAdd, Int.reduceMul, Int.reduceSub, Int.reduceToNat, reduceCtorEq, reduceIte] at e ⊢
      simp -implicitDefEqProofs only [e, go_sem, Nat.reduceAdd, Nat.reduceMul, Nat.reduceSub, Nat.reduceLeDiff, Nat.reduceEqDiff, Nat.reduceBEq, Nat.reduceLT, Int.reduceLE, Int.reduceLT, Int.reduceEq, Int.reduceNeg, Int.reduceAdd, Int.reduceMul, Int.reduceSub, Int.reduceToNat, reduceCtorEq, reduceIte]
    · rw [if_neg he] at e
      simp -implicitDefEqProofs only [ir15, hab, he, go_sem, Nat.reduceAdd, Nat.reduceMul, Nat.reduceSub, Nat.reduceLeDiff, Nat.reduceEqDiff, Nat.reduceBEq, Nat.reduceLT, Int.reduceLE, Int.reduceLT, Int.reduceEq, Int.reduceNeg, Int.reduceAdd, Int.reduceMul, Int.reduceSub, Int.reduceToNat, reduceCtorEq, reduceIte] at e ⊢
      simp -implicitDefEqProofs only [e, go_sem, Nat.reduceAdd, Nat.reduceMul, Nat.reduceSub, Nat.reduceLeDiff, Nat.reduceEqDiff, Nat.reduceBEq, Nat.reduceLT, Int.reduceLE, Int.reduceLT, Int.reduceEq, Int.reduceNeg, Int.reduceAdd, Int.reduceMul, Int.reduceSub, Int.reduceToNat, reduceCtorEq, reduceIte]
  · have he : a ≠ b := fun e => hab (by rw [e])
    have hab' : ¬ ((a.length : Int) = (b.length : Int)) := by omega
    simp -implicitDefEqProofs only [ir15, hab', he, go_sem, Nat.reduceAdd, Nat.reduceMul, Nat.reduceSub, Nat.reduceLeDiff, Nat.reduceEqDiff, Nat.reduceBEq, Nat.reduceLT, Int.reduceLE, Int.reduceLT, Int.reduceEq, Int.reduceNeg, Int.reduceAdd, Int.reduceMul, Int.reduceSub, Int.reduceToNat, reduceCtorEq, reduceIte]

theorem loop_Ints (ev : FuncId → List DV → Heap → Res DV) (a b : List Int) (ma mb : Mode) (hab : a.length = b.length) (hl : a.length ≤ 100000) : ∀ n k, k ≤ a.length → a.length - k < n → a.take k = b.take k → ∀ (v3 x4 x5 : DV), ∃ y4 y5 y6,
    iter (evalC ev NN ir24_l0) n ⟨[.sl ma 1 (ints a), .sl mb 1 (ints b), B false, v3, x4, x5, I k], [], h⟩ =
      if a = b then .exit 0 ⟨[.sl ma 1 (ints a), .sl mb 1 (ints b), B false, v3, y4, y5, y6], [], h⟩ else .ret ⟨[.sl ma 1 (ints a), .sl mb 1 (ints b), B false, v3, y4, y5, y6], [], h⟩ := by
  intro n
  induction n with
  | zero => intro k _ h2; omega
  | succ n ih =>
    intro k hk hn ht v3 x4 x5
    by_cases hlt : k < a.length
    · obtain ⟨x, hx⟩ : ∃ x, a[k]? = some x := ⟨_, List.getElem?_eq_getElem hlt⟩
      obtain ⟨y, hy⟩ : ∃ y, b[k]? = some y := ⟨_, List.getElem?_eq_getElem (by omega)⟩
      have hlt' : (k : Int) < (a.length : Int) := by omega
      by_cases hxy : x = y
      · subst hxy
        obtain ⟨y4, y5, y6, e⟩ := ih (k + 1) (by omega) (by omega) ((take_more hx hy ht).2 rfl) v3 (B true) (B false)
        refine ⟨y4, y5, y6, ?_⟩
        simp -implicitDefEqProofs only [iter, ir24_l0, hlt', hx, hy, wrap_succ (show k < 4611686018427387904 by omega), go_sem, Nat.reduceAdd, Nat.reduceMul, Nat.reduceSub, Nat.reduceLeDiff, Nat.reduceEqDiff, Nat.reduceBEq, Nat.reduceLT, Int.reduceLE, Int.reduceLT, Int.reduceEq, Int.reduceNeg, Int.reduceAdd, Int.reduceMul, Int.reduceSub, Int.reduceToNat, reduceCtorEq, reduceIte]
        exact e
      · refine ⟨B true, B true, I k, ?_⟩
        have hne : a ≠ b := fun e => hxy ((take_more hx hy ht).1 (by rw [e]))
        simp -implicitDefEqProofs only [iter, ir24_l0, hlt', hx, hy, hxy, hne, go_sem, Nat.reduceAdd, Nat.reduceMul, Nat.reduceSub, Nat.reduceLeDiff, Nat.reduceEqDiff, Nat.reduceBEq, Nat.reduceLT, Int.reduceLE, Int.reduceLT, Int.reduceEq, Int.reduceNeg, Int.reduceAdd, Int.reduceMul, Int.reduceSub, Int.reduceToNat, reduceCtorEq, reduceIte]
    · have hka : k = a.length := by omega
      subst hka
      have hlt' : ¬ ((a.length : Nat) : Int) < (a.length : Int) := by omega
      have he : a = b := by rwa [List.take_length, hab, List.take_length] at ht
      refine ⟨B false, x5, I a.length, ?_⟩
      rw [if_pos he]
      simp -implicitDefEqProofs only [iter, ir24_l0, hlt', go_sem, Nat.reduceAdd, Nat.reduceMul, Nat.reduceSub, Nat.reduceLeDiff, Nat.reduceEqDiff, Nat.reduceBEq, Nat.reduceLT, Int.reduceLE, Int.reduceLT, Int.reduceEq, Int.reduceNeg, Int.reduceAdd, Int.reduceMul, Int.reduceSub, Int.reduceToNat, reduceCtorEq, reduceIte]

theorem p_Ints (a b : List Int) (ma mb : Mode) (hl : a.length ≤ 90000) : callP (evalCall fns NN (d + 1)) 24 [.sl ma 1 (ints a), .sl mb 1 (ints b)] h = .ok (B (decide (a = b))) h := by
  refine callP_of (v := B (decide (a = b))) (h' := []) (by simp -implicitDefEqProofs only [go_sem, Nat.reduceAdd, Nat.reduceMul, Nat.reduceSub, Nat.reduceLeDiff, Nat.reduceEqDiff, Nat.reduceBEq, Nat.reduceLT, Int.reduceLE, Int.reduceLT, Int.reduceEq, Int.reduceNeg, Int.reduceAdd, Int.reduceMul, Int.reduceSub, Int.reduceToNat, reduceCtorEq, reduceIte]) rfl ?_ rfl
  rw [call_eq rfl]
  generalize evalCall fns NN d = ev
  by_cases hab : a.length = b.length
  · obtain ⟨y4, y5, y6, e⟩ := loop_Ints ev (h := []) a b ma mb hab (by omega) NN 0 (by omega) (by unfold NN; omega) rfl (B false) .junk .junk
    simp only [cast0] at e
    by_cases he : a = b
    · rw [if_pos he] at e
      simp -implicitDefEqProofs only [ir24, hab, he, go_sem, Nat.reduceAdd, Nat.reduceMul, Nat.reduceSub, Nat.reduceLeDiff, Nat.reduceEqDiff, Nat.reduceBEq, Nat.reduceLT, Int.reduceLE, Int.reduceLT, Int.reduceEq, Int.reduceNeg, Int.reduceAdd, Int.reduceMul, Int.reduceSub, Int.reduceToNat, reduceCtorEq, reduceIte] at e ⊢
      simp -implicitDefEqProofs only [e, go_sem, Nat.reduceAdd, Nat.reduceMul, Nat.reduceSub, Nat.reduceLeDiff, Nat.reduceEqDiff, Nat.reduceBEq, Nat.reduceLT, Int.reduceLE, Int.reduceLT, Int.reduceEq, Int.reduceNeg, Int.reduceAdd, Int.reduceMul, Int.reduceSub, Int.reduceToNat, reduceCtorEq, reduceIte]
    · rw [if_neg he] at e
      simp -implicitDefEqProofs only [ir24, hab, he, go_sem, Nat.reduceAdd, Nat.reduceMul, Nat.reduceSub, Nat.reduceLeDiff, Nat.reduceEqDiff, Nat.reduceBEq, Nat.reduceLT, Int.reduceLE, Int.reduceLT, Int.reduceEq, Int.reduceNeg, Int.reduceAdd, Int.reduceMul, Int.reduceSub, Int.reduceToNat, reduceCtorEq, reduceIte] at e ⊢
      simp -implicitDefEqProofs only [e, go_sem, Nat.reduceAdd, Nat.reduceMul, Nat.reduceSub, Nat.reduceLeDiff, Nat.reduceEqDiff, Nat.reduceBEq, Nat.reduceLT, Int.reduceLE, Int.reduceLT, Int.reduceEq, Int.reduceNeg, Int.reduceAdd, Int.reduceMul, Int.reduceSub, Int.reduceToNat, reduceCtorEq, reduceIte]
  · have he : a ≠ b := fun e => hab (by rw [e])
    have hab' : ¬ ((a.length : Int) = (b.length : Int)) := by omega
    simp -implicitDefEqProofs only [ir24, hab', he, go_sem, Nat.reduceAdd, Nat.reduceMul, Nat.reduceSub, Nat.reduceLeDiff, Nat.reduceEqDiff, Nat.reduceBEq, Nat.reduceLT, Int.reduceLE, Int.reduceLT, Int.reduceEq, Int.reduceNeg, Int.reduceAdd, Int.reduceMul, Int.reduceSub, Int.reduceToNat, reduceCtorEq, reduceIte]

theorem e_alive : ∀ d, evalCall fns NN (d + 10) 14 [] [] = .ok (B true) [] := fun d => by kernel_rfl
theorem p_alive : callP (evalCall fns NN (d + 10)) 14 [] h = .ok (B true) h := callP_of (v := B true) rfl rfl (e_alive d) rfl

theorem enc_len : ∀ f u, (enc f u).length ≤ f
  | 0, _ => by simp [enc]
  | f + 1, u => by
    unfold enc
    split
    · simp
    · simp only [List.length_cons]; have := enc_len f (u / 128); omega
theorem put_len (n : Int) : (put n).length ≤ 10 := enc_len 10 _

theorem body_Puts (ev : FuncId → List DV → Heap → Res DV) (ha : ∀ h, callP ev 14 [] h = .ok (B true) h) (n : Int)
    (q1 : ∀ h, callP ev 16 [I n] h = .ok (.sl .own 1 (u8s (put n))) h) (q2 : ∀ h, callP ev 17 [I n] h = .ok (.sl .own 1 (u8s (put n))) h)
    (q3 : ∀ h (a : List Int) ma mb, a.length ≤ 90000 → callP ev 15 [.sl ma 1 (u8s a), .sl mb 1 (u8s a)] h = .ok (B true) h) : evalF ev NN ir3 [I n] [] = .ok (B true) [] := by
  have hl := put_len n
  have q4 := fun h ma mb => q3 h (put n) ma mb (by omega)
  simp -implicitDefEqProofs only [ir3, ha, q1, q2, q4, go_sem, Nat.reduceAdd, Nat.reduceMul, Nat.reduceSub, Nat.reduceLeDiff, Nat.reduceEqDiff, Nat.reduceBEq, Nat.reduceLT, Int.reduceLE, Int.reduceLT, Int.reduceEq, Int.reduceNeg, Int.reduceAdd, Int.reduceMul, Int.reduceSub, Int.reduceToNat, reduceCtorEq, reduceIte]

theorem law_Puts (d : Nat) (n : Int) (h1 : -9223372036854775808 ≤ n) (h2 : n ≤ 9223372036854775807) : evalCall fns NN (d + 11) 3 [I n] [] = .ok (B true) [] := by
  rw [call_eq rfl]
  exact body_Puts _ (fun h => p_alive) n (fun h => p_Put (d := d + 9) n h1 h2) (fun h => p_RPut (d := d + 8) n h1 h2) (fun h a ma mb hl => by simpa using p_Same (d := d + 9) a a ma mb hl)
end Go.D.Wire
