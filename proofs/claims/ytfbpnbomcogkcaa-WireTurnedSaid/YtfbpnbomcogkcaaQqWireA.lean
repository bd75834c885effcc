/- What the functions of 'wire' and its reference compute: the bytes of a number. -/
import Derived.Test.YtfbpnbomcogkcaaQqWireV
import Derived.Test.YtfbpnbomcogkcaaQqWireIR
set_option linter.unusedSimpArgs false
set_option linter.unusedVariables false
namespace Go.D.Wire
open Go.D
set_option maxRecDepth 10000
set_option maxHeartbeats 1000000
variable {d : Nat} {h : Heap}

def QPut (h : Heap) (v0 v1 : DV) (fl : List Int) : Ex → Prop
  | .exit i s => i = 0 ∧ ∃ y2 y3, s = ⟨[v0, v1, y2, y3, .sl .own 1 (u8s fl)], [], h⟩
  | _ => False

theorem loop_Put (ev : FuncId → List DV → Heap → Res DV) (v0 v1 : DV) : ∀ f u (l : List Int), u < 128 ^ (f + 1) → l.length + f ≤ 1000 → ∀ n, f < n → ∀ x2,
    QPut h v0 v1 (l ++ enc (f + 1) u) (iter (evalC ev NN ir16_l0) n ⟨[v0, v1, x2, .sc (.int .u64 (u : Int)), .sl (md l) 1 (u8s l)], [], h⟩) := by
  intro f
  induction f with
  | zero =>
    intro u l hu hl n hn x2
    obtain ⟨n, rfl⟩ : ∃ m, n = m + 1 := ⟨n - 1, by omega⟩
    have hu' : (u : Int) < 128 := by omega
    have hu2 : u < 128 := by omega
    have hr : (l.length + 1) * 2 ≤ room := by simp only [room]; omega
    have hr0 : 2 ≤ room := by decide
    rw [enc, if_pos hu2]
    cases l with
    | nil => simp -implicitDefEqProofs only [iter, ir16_l0, md, hu', hr, hr0, u8_small (show u < 256 by omega), go_sem, Nat.reduceAdd, Nat.reduceMul, Nat.reduceSub, Nat.reduceLeDiff, Nat.reduceEqDiff, Nat.reduceBEq, Nat.reduceLT, Int.reduceLE, Int.reduceLT, Int.reduceEq, Int.reduceNeg, Int.reduceAdd, Int.reduceMul, Int.reduceSub, Int.reduceToNat, reduceCtorEq, reduceIte]; exact ⟨rfl, _, _, rfl⟩
    | cons a l =>
      simp only [List.length_cons] at hr
      simp -implicitDefEqProofs only [iter, ir16_l0, md, hu', hr, hr0, u8_small (show u < 256 by omega), go_sem, Nat.reduceAdd, Nat.reduceMul, Nat.reduceSub, Nat.reduceLeDiff, Nat.reduceEqDiff, Nat.reduceBEq, Nat.reduceLT, Int.reduceLE, Int.reduceLT, Int.reduceEq, Int.reduceNeg, Int.reduceAdd, Int.reduceMul, Int.reduceSub, Int.reduceToNat, reduceCtorEq, reduceIte]; exact ⟨rfl, _, _, rfl⟩
  | succ f ih =>
    intro u l hu hl n hn x2
    obtain ⟨n, rfl⟩ : ∃ m, n = m + 1 := ⟨n - 1, by omega⟩
    have hr : (l.length + 1) * 2 ≤ room := by simp only [room]; omega
    have hr0 : 2 ≤ room := by decide
    by_cases hu2 : u < 128
    · have hu' : (u : Int) < 128 := by omega
      rw [enc, if_pos hu2]
      cases l with
      | nil => simp -implicitDefEqProofs only [iter, ir16_l0, md, hu', hr, hr0, u8_small (show u < 256 by omega), go_sem, Nat.reduceAdd, Nat.reduceMul, Nat.reduceSub, Nat.reduceLeDiff, Nat.reduceEqDiff, Nat.reduceBEq, Nat.reduceLT, Int.reduceLE, Int.reduceLT, Int.reduceEq, Int.reduceNeg, Int.reduceAdd, Int.reduceMul, Int.reduceSub, Int.reduceToNat, reduceCtorEq, reduceIte]; exact ⟨rfl, _, _, rfl⟩
      | cons a l =>
        simp only [List.length_cons] at hr
        simp -implicitDefEqProofs only [iter, ir16_l0, md, hu', hr, hr0, u8_small (show u < 256 by omega), go_sem, Nat.reduceAdd, Nat.reduceMul, Nat.reduceSub, Nat.reduceLeDiff, Nat.reduceEqDiff, Nat.reduceBEq, Nat.reduceLT, Int.reduceLE, Int.reduceLT, Int.reduceEq, Int.reduceNeg, Int.reduceAdd, Int.reduceMul, Int.reduceSub, Int.reduceToNat, reduceCtorEq, reduceIte]; exact ⟨rfl, _, _, rfl⟩
    · have hu' : ¬ (u : Int) < 128 := by omega
      rw [enc, if_neg hu2]
      have e := ih (u / 128) (l ++ [((u % 128 + 128 : Nat) : Int)]) (by rw [Nat.pow_succ] at hu; omega) (by simp; omega) n (by omega) (B false)
      rw [md_app] at e
      rw [show l ++ (((u % 128 + 128 : Nat) : Int) :: enc (f + 1) (u / 128)) = (l ++ [((u % 128 + 128 : Nat) : Int)]) ++ enc (f + 1) (u / 128) by simp]
      refine cast (congrArg _ ?_) e
      have o1 := or128 (u : Int)
      have o2 := shr7 (u : Int) (by omega)
      have o3 : (u : Int) % 128 + 128 = ((u % 128 + 128 : Nat) : Int) := by omega
      have o4 : (u : Int) / 128 = ((u / 128 : Nat) : Int) := by omega
      rw [o3] at o1
      rw [o4] at o2
      have st : ∀ l : List Int, (l.length + 1) * 2 ≤ room → evalC ev NN ir16_l0 ⟨[v0, v1, x2, .sc (.int .u64 (u : Int)), .sl (md l) 1 (u8s l)], [], h⟩ = .norm ⟨[v0, v1, B false, .sc (.int .u64 ((u / 128 : Nat) : Int)), .sl .own 1 (u8s (l ++ [((u % 128 + 128 : Nat) : Int)]))], [], h⟩ := by
        intro l hr
        cases l with
        | nil => simp -implicitDefEqProofs only [ir16_l0, md, hu', hr, hr0, o1, o2, go_sem, Nat.reduceAdd, Nat.reduceMul, Nat.reduceSub, Nat.reduceLeDiff, Nat.reduceEqDiff, Nat.reduceBEq, Nat.reduceLT, Int.reduceLE, Int.reduceLT, Int.reduceEq, Int.reduceNeg, Int.reduceAdd, Int.reduceMul, Int.reduceSub, Int.reduceToNat, reduceCtorEq, reduceIte]
        | cons a l =>
          simp only [List.length_cons] at hr
          simp -implicitDefEqProofs only [ir16_l0, md, hu', hr, hr0, o1, o2, go_sem, Nat.reduceAdd, Nat.reduceMul, Nat.reduceSub, Nat.reduceLeDiff, Nat.reduceEqDiff, Nat.reduceBEq, Nat.reduceLT, Int.reduceLE, Int.reduceLT, Int.reduceEq, Int.reduceNeg, Int.reduceAdd, Int.reduceMul, Int.reduceSub, Int.reduceToNat, reduceCtorEq, reduceIte]
      rw [iter, st l hr]

theorem zz_bd {n : Int} (h1 : -9223372036854775808 ≤ n) (h2 : n ≤ 9223372036854775807) : 0 ≤ zz n ∧ zz n < 18446744073709551616 := by unfold zz; split <;> omega

theorem body_Put (ev : FuncId → List DV → Heap → Res DV) (n : Int) (h1 : -9223372036854775808 ≤ n) (h2 : n ≤ 9223372036854775807) : evalF ev NN ir16 [I n] [] = .ok (.sl .own 1 (u8s (put n))) [] := by
  obtain ⟨z0, z1⟩ := zz_bd h1 h2
  have hz : zz n = ((zz n).toNat : Int) := by omega
  have e := loop_Put (h := []) ev (I n) (.sl .full 1 []) 9 (zz n).toNat [] (by omega) (by simp) NN (by unfold NN; omega) .junk
  have q := zz_raw h1 h2
  rw [hz] at q
  simp only [List.nil_append, md] at e
  simp -implicitDefEqProofs only [u8s, List.map_nil, go_sem, Nat.reduceAdd, Nat.reduceMul, Nat.reduceSub, Nat.reduceLeDiff, Nat.reduceEqDiff, Nat.reduceBEq, Nat.reduceLT, Int.reduceLE, Int.reduceLT, Int.reduceEq, Int.reduceNeg, Int.reduceAdd, Int.reduceMul, Int.reduceSub, Int.reduceToNat, reduceCtorEq, reduceIte] at e
  simp -implicitDefEqProofs only [ir16, q, go_sem, Nat.reduceAdd, Nat.reduceMul, Nat.reduceSub, Nat.reduceLeDiff, Nat.reduceEqDiff, Nat.reduceBEq, Nat.reduceLT, Int.reduceLE, Int.reduceLT, Int.reduceEq, Int.reduceNeg, Int.reduceAdd, Int.reduceMul, Int.reduceSub, Int.reduceToNat, reduceCtorEq, reduceIte]
  revert e
  generalize iter _ _ _ = E
  intro e
  cases E with
  | exit i s =>
    obtain ⟨rfl, y2, y3, rfl⟩ := e
    simp -implicitDefEqProofs only [go_sem, Nat.reduceAdd, Nat.reduceMul, Nat.reduceSub, Nat.reduceLeDiff, Nat.reduceEqDiff, Nat.reduceBEq, Nat.reduceLT, Int.reduceLE, Int.reduceLT, Int.reduceEq, Int.reduceNeg, Int.reduceAdd, Int.reduceMul, Int.reduceSub, Int.reduceToNat, reduceCtorEq, reduceIte]
    rfl
  | ret s => exact e.elim
  | norm s => exact e.elim
  | pan v h => exact e.elim
  | no => exact e.elim

theorem p_Put (n : Int) (h1 : -9223372036854775808 ≤ n) (h2 : n ≤ 9223372036854775807) : callP (evalCall fns NN (d + 1)) 16 [I n] h = .ok (.sl .own 1 (u8s (put n))) h :=
  callP_of (v := .sl .own 1 (u8s (put n))) (h' := []) rfl rfl (by rw [call_eq rfl]; exact body_Put _ n h1 h2) (by simp -implicitDefEqProofs only [go_sem, Nat.reduceAdd, Nat.reduceMul, Nat.reduceSub, Nat.reduceLeDiff, Nat.reduceEqDiff, Nat.reduceBEq, Nat.reduceLT, Int.reduceLE, Int.reduceLT, Int.reduceEq, Int.reduceNeg, Int.reduceAdd, Int.reduceMul, Int.reduceSub, Int.reduceToNat, reduceCtorEq, reduceIte])

theorem body_turned (ev : FuncId → List DV → Heap → Res DV) (n : Int) (h1 : -9223372036854775808 ≤ n) (h2 : n ≤ 9223372036854775807) : evalF ev NN ir36 [I n] [] = .ok (W64 (zz n)) [] := by
  by_cases h0 : 0 ≤ n
  · have q := turned_pos h0 h2
    simp -implicitDefEqProofs only [ir36, h0, q, go_sem, Nat.reduceAdd, Nat.reduceMul, Nat.reduceSub, Nat.reduceLeDiff, Nat.reduceEqDiff, Nat.reduceBEq, Nat.reduceLT, Int.reduceLE, Int.reduceLT, Int.reduceEq, Int.reduceNeg, Int.reduceAdd, Int.reduceMul, Int.reduceSub, Int.reduceToNat, reduceCtorEq, reduceIte]
  · have q := turned_neg h0 h1
    simp -implicitDefEqProofs only [ir36, h0, q, go_sem, Nat.reduceAdd, Nat.reduceMul, Nat.reduceSub, Nat.reduceLeDiff, Nat.reduceEqDiff, Nat.reduceBEq, Nat.reduceLT, Int.reduceLE, Int.reduceLT, Int.reduceEq, Int.reduceNeg, Int.reduceAdd, Int.reduceMul, Int.reduceSub, Int.reduceToNat, reduceCtorEq, reduceIte]
theorem p_turned (n : Int) (h1 : -9223372036854775808 ≤ n) (h2 : n ≤ 9223372036854775807) : callP (evalCall fns NN (d + 1)) 36 [I n] h = .ok (W64 (zz n)) h :=
  callP_of (v := W64 (zz n)) (h' := []) rfl rfl (by rw [call_eq rfl]; exact body_turned _ n h1 h2) rfl

def QRPut (h : Heap) (v0 v1 : DV) (fl : List Int) : Ex → Prop
  | .exit i s => i = 0 ∧ ∃ y2, ∃ u : Nat, ∃ l : List Int, u < 128 ∧ l.length ≤ 1000 ∧ fl = l ++ [(u : Int)] ∧ s = ⟨[v0, v1, y2, .sc (.int .u64 (u : Int)), .sl (md l) 1 (u8s l)], [], h⟩
  | _ => False

theorem loop_RPut (ev : FuncId → List DV → Heap → Res DV) (v0 v1 : DV) : ∀ f u (l : List Int), u < 128 ^ (f + 1) → u < 18446744073709551616 → l.length + f ≤ 1000 → ∀ n, f < n → ∀ x2,
    QRPut h v0 v1 (l ++ enc (f + 1) u) (iter (evalC ev NN ir17_l0) n ⟨[v0, v1, x2, .sc (.int .u64 (u : Int)), .sl (md l) 1 (u8s l)], [], h⟩) := by
  intro f
  induction f with
  | zero =>
    intro u l hu h64 hl n hn x2
    obtain ⟨n, rfl⟩ : ∃ m, n = m + 1 := ⟨n - 1, by omega⟩
    have hu' : ¬ (128 : Int) ≤ (u : Int) := by omega
    have hu2 : u < 128 := by omega
    rw [enc, if_pos hu2]
    simp -implicitDefEqProofs only [iter, ir17_l0, hu', go_sem, Nat.reduceAdd, Nat.reduceMul, Nat.reduceSub, Nat.reduceLeDiff, Nat.reduceEqDiff, Nat.reduceBEq, Nat.reduceLT, Int.reduceLE, Int.reduceLT, Int.reduceEq, Int.reduceNeg, Int.reduceAdd, Int.reduceMul, Int.reduceSub, Int.reduceToNat, reduceCtorEq, reduceIte]
    exact ⟨rfl, _, u, l, hu2, by omega, rfl, rfl⟩
  | succ f ih =>
    intro u l hu h64 hl n hn x2
    obtain ⟨n, rfl⟩ : ∃ m, n = m + 1 := ⟨n - 1, by omega⟩
    have hr : (l.length + 1) * 2 ≤ room := by simp only [room]; omega
    have hr0 : 2 ≤ room := by decide
    by_cases hu2 : u < 128
    · have hu' : ¬ (128 : Int) ≤ (u : Int) := by omega
      rw [enc, if_pos hu2]
      simp -implicitDefEqProofs only [iter, ir17_l0, hu', go_sem, Nat.reduceAdd, Nat.reduceMul, Nat.reduceSub, Nat.reduceLeDiff, Nat.reduceEqDiff, Nat.reduceBEq, Nat.reduceLT, Int.reduceLE, Int.reduceLT, Int.reduceEq, Int.reduceNeg, Int.reduceAdd, Int.reduceMul, Int.reduceSub, Int.reduceToNat, reduceCtorEq, reduceIte]
      exact ⟨rfl, _, u, l, hu2, by omega, rfl, rfl⟩
    · have hu' : (128 : Int) ≤ (u : Int) := by omega
      rw [enc, if_neg hu2]
      have e := ih (u / 128) (l ++ [((u % 128 + 128 : Nat) : Int)]) (by rw [Nat.pow_succ] at hu; omega) (by omega) (by simp; omega) n (by omega) (B true)
      rw [md_app] at e
      rw [show l ++ (((u % 128 + 128 : Nat) : Int) :: enc (f + 1) (u / 128)) = (l ++ [((u % 128 + 128 : Nat) : Int)]) ++ enc (f + 1) (u / 128) by simp]
      refine cast (congrArg _ ?_) e
      have o1 := rem128 (u : Int) (by omega)
      have o3 : (u : Int) % 128 + 128 = ((u % 128 + 128 : Nat) : Int) := by omega
      rw [o3] at o1
      have o2 : IntKind.u64.wrap (Int.tdiv (u : Int) 128) = ((u / 128 : Nat) : Int) := by
        rw [Int.tdiv_eq_ediv_of_nonneg (by omega), u64_wrap]
        omega
      have st : ∀ l : List Int, (l.length + 1) * 2 ≤ room → evalC ev NN ir17_l0 ⟨[v0, v1, x2, .sc (.int .u64 (u : Int)), .sl (md l) 1 (u8s l)], [], h⟩ = .norm ⟨[v0, v1, B true, .sc (.int .u64 ((u / 128 : Nat) : Int)), .sl .own 1 (u8s (l ++ [((u % 128 + 128 : Nat) : Int)]))], [], h⟩ := by
        intro l hr
        cases l with
        | nil => simp -implicitDefEqProofs only [ir17_l0, md, hu', hr, hr0, o1, o2, go_sem, Nat.reduceAdd, Nat.reduceMul, Nat.reduceSub, Nat.reduceLeDiff, Nat.reduceEqDiff, Nat.reduceBEq, Nat.reduceLT, Int.reduceLE, Int.reduceLT, Int.reduceEq, Int.reduceNeg, Int.reduceAdd, Int.reduceMul, Int.reduceSub, Int.reduceToNat, reduceCtorEq, reduceIte]
        | cons a l =>
          simp only [List.length_cons] at hr
          simp -implicitDefEqProofs only [ir17_l0, md, hu', hr, hr0, o1, o2, go_sem, Nat.reduceAdd, Nat.reduceMul, Nat.reduceSub, Nat.reduceLeDiff, Nat.reduceEqDiff, Nat.reduceBEq, Nat.reduceLT, Int.reduceLE, Int.reduceLT, Int.reduceEq, Int.reduceNeg, Int.reduceAdd, Int.reduceMul, Int.reduceSub, Int.reduceToNat, reduceCtorEq, reduceIte]
      rw [iter, st l hr]

theorem body_RPut (ev : FuncId → List DV → Heap → Res DV) (n : Int) (h1 : -9223372036854775808 ≤ n) (h2 : n ≤ 9223372036854775807) (q : ∀ h, callP ev 36 [I n] h = .ok (W64 (zz n)) h) :
    evalF ev NN ir17 [I n] [] = .ok (.sl .own 1 (u8s (put n))) [] := by
  obtain ⟨z0, z1⟩ := zz_bd h1 h2
  have hz : zz n = ((zz n).toNat : Int) := by omega
  have e := loop_RPut (h := []) ev (I n) (.sl .full 1 []) 9 (zz n).toNat [] (by omega) (by omega) (by simp) NN (by unfold NN; omega) .junk
  rw [hz] at q
  simp only [List.nil_append, md] at e
  simp -implicitDefEqProofs only [u8s, List.map_nil, go_sem, Nat.reduceAdd, Nat.reduceMul, Nat.reduceSub, Nat.reduceLeDiff, Nat.reduceEqDiff, Nat.reduceBEq, Nat.reduceLT, Int.reduceLE, Int.reduceLT, Int.reduceEq, Int.reduceNeg, Int.reduceAdd, Int.reduceMul, Int.reduceSub, Int.reduceToNat, reduceCtorEq, reduceIte] at e
  simp -implicitDefEqProofs only [ir17, q, go_sem, Nat.reduceAdd, Nat.reduceMul, Nat.reduceSub, Nat.reduceLeDiff, Nat.reduceEqDiff, Nat.reduceBEq, Nat.reduceLT, Int.reduceLE, Int.reduceLT, Int.reduceEq, Int.reduceNeg, Int.reduceAdd, Int.reduceMul, Int.reduceSub, Int.reduceToNat, reduceCtorEq, reduceIte]
  revert e
  generalize iter _ _ _ = E
  intro e
  cases E with
  | exit i s =>
    obtain ⟨rfl, y2, u, l, hu, hl, he, rfl⟩ := e
    have hr : (l.length + 1) * 2 ≤ room := by simp only [room]; omega
    have hr0 : 2 ≤ room := by decide
    rw [put, he]
    cases l with
    | nil => simp -implicitDefEqProofs only [md, hr, hr0, u8_small (show u < 256 by omega), go_sem, Nat.reduceAdd, Nat.reduceMul, Nat.reduceSub, Nat.reduceLeDiff, Nat.reduceEqDiff, Nat.reduceBEq, Nat.reduceLT, Int.reduceLE, Int.reduceLT, Int.reduceEq, Int.reduceNeg, Int.reduceAdd, Int.reduceMul, Int.reduceSub, Int.reduceToNat, reduceCtorEq, reduceIte]
    | cons a l =>
      simp only [List.length_cons] at hr
      simp -implicitDefEqProofs only [md, hr, hr0, u8_small (show u < 256 by omega), go_sem, Nat.reduceAdd, Nat.reduceMul, Nat.reduceSub, Nat.reduceLeDiff, Nat.reduceEqDiff, Nat.reduceBEq, Nat.reduceLT, Int.reduceLE, Int.reduceLT, Int.reduceEq, Int.reduceNeg, Int.reduceAdd, Int.reduceMul, Int.reduceSub, Int.reduceToNat, reduceCtorEq, reduceIte]
  | ret s => exact e.elim
  | norm s => exact e.elim
  | pan v h => exact e.elim
  | no => exact e.elim

theorem p_RPut (n : Int) (h1 : -9223372036854775808 ≤ n) (h2 : n ≤ 9223372036854775807) : callP (evalCall fns NN (d + 2)) 17 [I n] h = .ok (.sl .own 1 (u8s (put n))) h :=
  callP_of (v := .sl .own 1 (u8s (put n))) (h' := []) rfl rfl (by rw [call_eq rfl]; exact body_RPut _ n h1 h2 (fun h => p_turned n h1 h2)) (by simp -implicitDefEqProofs only [go_sem, Nat.reduceAdd, Nat.reduceMul, Nat.reduceSub, Nat.reduceLeDiff, Nat.reduceEqDiff, Nat.reduceBEq, Nat.reduceLT, Int.reduceLE, Int.reduceLT, Int.reduceEq, Int.reduceNeg, Int.reduceAdd, Int.reduceMul, Int.reduceSub, Int.reduceToNat, reduceCtorEq, reduceIte])
end Go.D.Wire
