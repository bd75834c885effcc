/- The law WireOnce of 'wire', in the evaluator. -/
import Derived.Test.YtfbpnbomcogkcaaQqWireE
set_option linter.unusedSimpArgs false
set_option linter.unusedVariables false
namespace Go.D.Wire
open Go.D
set_option maxRecDepth 10000
set_option maxHeartbeats 1000000
variable {d : Nat} {h : Heap}

theorem getF_dec : ∀ (l : List Int) (k f u w n : Nat), k + f = 9 → (∀ x ∈ l, 0 ≤ x ∧ x < 256) → getF k u l = some (w, n) →
    ∃ v m, 1 ≤ m ∧ m ≤ l.length ∧ n = k + m ∧ w = u + v * 128 ^ k ∧ v < 2 * 128 ^ f ∧ (0 < k → 0 < v) ∧ enc (f + 1) v = l.take m ∧ ∀ j, j < m → getF k u (l.take j) = none := by
  intro l
  induction l with
  | nil => intro k f u w n _ _ h; simp [getF] at h
  | cons x r ih =>
    intro k f u w n hk hb hg
    obtain ⟨hx0, hx1⟩ := hb x (by simp)
    rw [getF] at hg
    by_cases hbad : (k = 9 ∧ 1 < x) ∨ 9 < k
    · rw [if_pos hbad] at hg; cases hg
    · rw [if_neg hbad] at hg
      by_cases h128 : x < 128
      · rw [if_pos h128] at hg
        by_cases h0 : x = 0 ∧ 0 < k
        · rw [if_pos h0] at hg; cases hg
        · rw [if_neg h0] at hg
          simp only [Option.some.injEq, Prod.mk.injEq] at hg
          obtain ⟨rfl, rfl⟩ := hg
          refine ⟨(x % 128).toNat, 1, by omega, by simp, rfl, rfl, ?_, fun _ => by omega, ?_, fun j hj => ?_⟩
          · cases f with
            | zero => simp; omega
            | succ f => rw [Nat.pow_succ]; have : 0 < 128 ^ f := Nat.pow_pos (by omega); omega
          · rw [enc, if_pos (by omega)]
            simp
            omega
          · rw [show j = 0 by omega]; rfl
      · rw [if_neg h128] at hg
        obtain ⟨f, rfl⟩ : ∃ g, f = g + 1 := ⟨f - 1, by omega⟩
        obtain ⟨v, m, m1, m2, rfl, rfl, v2, v3, v4, v5⟩ := ih (k + 1) f _ w n (by omega) (fun y hy => hb y (by simp [hy])) hg
        have v0 := v3 (by omega)
        have e2 : (v * 128 + (x % 128).toNat) * 128 ^ k = (x % 128).toNat * 128 ^ k + v * 128 ^ (k + 1) := by
          rw [Nat.add_mul, Nat.pow_succ, Nat.mul_comm (128 ^ k) 128, ← Nat.mul_assoc, Nat.add_comm]
        refine ⟨v * 128 + (x % 128).toNat, m + 1, by omega, by simpa using m2, by omega, by omega, by rw [Nat.pow_succ]; omega, fun _ => by omega, ?_, fun j hj => ?_⟩
        · rw [enc, if_neg (by omega), List.take_succ_cons, ← v4]
          rw [show (v * 128 + (x % 128).toNat) / 128 = v by omega]
          congr 1
          omega
        · cases j with
          | zero => rfl
          | succ j =>
            rw [List.take_succ_cons, getF, if_neg hbad, if_neg h128]
            exact v5 j (by omega)

theorem zz_unzz (u : Nat) : zz (unzz u) = u := by
  unfold unzz zz
  by_cases h : u % 2 = 0
  · rw [if_pos h, if_pos (by omega)]; omega
  · rw [if_neg h, if_neg (by omega)]; omega
theorem unzz_in {u : Nat} (h : u < 18446744073709551616) : inI (unzz u) := by
  unfold unzz inI
  split <;> omega

/-- What is got is what was put, and of less nothing is got. -/
theorem get_dec {b : List Int} (hb : ∀ x ∈ b, 0 ≤ x ∧ x < 256) {w n : Nat} (hg : getF 0 0 b = some (w, n)) :
    1 ≤ n ∧ n ≤ b.length ∧ inI (unzz w) ∧ put (unzz w) = b.take n ∧ ∀ j, j < n → getV (b.take j) = .tup [I 0, I 0, I 3] := by
  obtain ⟨v, m, m1, m2, rfl, rfl, v2, v3, v4, v5⟩ := getF_dec b 0 9 0 w n rfl hb hg
  simp only [Nat.zero_add, Nat.pow_zero, Nat.mul_one] at *
  refine ⟨m1, m2, unzz_in (by omega), ?_, fun j hj => ?_⟩
  · rw [put, zz_unzz, Int.toNat_natCast, v4]
  · unfold getV; rw [v5 j hj]

def QOnce (h : Heap) (v0 v1 : DV) : Ex → Prop
  | .exit i s => i = 0 ∧ ∃ y2 y3 y4 y5 y6 y7 y8 y9 y10 y11 y12 y13, s = ⟨[v0, v1, y2, y3, y4, y5, y6, y7, y8, y9, y10, y11, y12, y13], [], h⟩
  | _ => False

theorem loop_Once (ev : FuncId → List DV → Heap → Res DV) (b : List Int) (mb : Mode) (m : Nat) (hm : m ≤ b.length) (hm2 : m ≤ 1000) (v1 v2 v3 v4 v7 v8 v9 : DV)
    (q : ∀ h mo j, j < m → callP ev 18 [.sl mo 1 (u8s (b.take j))] h = .ok (.tup [I 0, I 0, I 3]) h) : ∀ n k, k ≤ m → m - k < n → ∀ (x5 x6 x12 x13 : DV),
    QOnce h (.sl mb 1 (u8s b)) v1 (iter (evalC ev NN ir6_l0) n ⟨[.sl mb 1 (u8s b), v1, v2, v3, v4, x5, x6, v7, v8, v9, I k, I m, x12, x13], [], h⟩) := by
  intro n
  induction n with
  | zero => intro k _ h2; omega
  | succ n ih =>
    intro k hk hn x5 x6 x12 x13
    by_cases hlt : k < m
    · have hlt' : (k : Int) < (m : Int) := by omega
      have hkb : (k : Int) ≤ (b.length : Int) := by omega
      have q' := fun h mo => q h mo k hlt
      have e := ih (k + 1) (by omega) (by omega) (B true) (B false) (I k) (I 3)
      refine cast (congrArg _ ?_) e
      have st : evalC ev NN ir6_l0 ⟨[.sl mb 1 (u8s b), v1, v2, v3, v4, x5, x6, v7, v8, v9, I k, I m, x12, x13], [], h⟩ = .norm ⟨[.sl mb 1 (u8s b), v1, v2, v3, v4, B true, B false, v7, v8, v9, I (k + 1 : Nat), I m, I k, I 3], [], h⟩ := by
        simp -implicitDefEqProofs only [ir6_l0, hlt', hkb, q', wrap_succ (show k < 4611686018427387904 by omega), go_sem, Nat.reduceAdd, Nat.reduceMul, Nat.reduceSub, Nat.reduceLeDiff, Nat.reduceEqDiff, Nat.reduceBEq, Nat.reduceLT, Int.reduceLE, Int.reduceLT, Int.reduceEq, Int.reduceNeg, Int.reduceAdd, Int.reduceMul, Int.reduceSub, Int.reduceToNat, reduceCtorEq, reduceIte]
      rw [iter, st]
    · have hlt' : ¬ (k : Int) < (m : Int) := by omega
      simp -implicitDefEqProofs only [iter, ir6_l0, hlt', go_sem, Nat.reduceAdd, Nat.reduceMul, Nat.reduceSub, Nat.reduceLeDiff, Nat.reduceEqDiff, Nat.reduceBEq, Nat.reduceLT, Int.reduceLE, Int.reduceLT, Int.reduceEq, Int.reduceNeg, Int.reduceAdd, Int.reduceMul, Int.reduceSub, Int.reduceToNat, reduceCtorEq, reduceIte]
      exact ⟨rfl, _, _, _, _, _, _, _, _, _, _, _, _, rfl⟩

theorem body_Once (ev : FuncId → List DV → Heap → Res DV) (ha : ∀ h, callP ev 14 [] h = .ok (B true) h) (b : List Int) (mb : Mode) (hb : ∀ x ∈ b, 0 ≤ x ∧ x < 256)
    (q1 : ∀ h n, inI n → callP ev 16 [I n] h = .ok (.sl .own 1 (u8s (put n))) h)
    (q2 : ∀ h m (b : List Int), b.length ≤ 1000 → (∀ x ∈ b, 0 ≤ x ∧ x < 256) → callP ev 18 [.sl m 1 (u8s b)] h = .ok (getV b) h)
    (q3 : ∀ h (a : List Int) ma mb, a.length ≤ 90000 → callP ev 15 [.sl ma 1 (u8s a), .sl mb 1 (u8s a)] h = .ok (B true) h) :
    evalF ev NN ir6 [.sl mb 1 (u8s b)] [] = .ok (B true) [] := by
  by_cases hl : b.length ≤ 1000
  · have hl' : ¬ (1000 : Int) < (b.length : Int) := by omega
    have p2 := fun h m => q2 h m b hl hb
    unfold getV at p2
    cases hg : getF 0 0 b with
    | none =>
      simp only [hg] at p2
      simp -implicitDefEqProofs only [ir6, ha, p2, hl', go_sem, Nat.reduceAdd, Nat.reduceMul, Nat.reduceSub, Nat.reduceLeDiff, Nat.reduceEqDiff, Nat.reduceBEq, Nat.reduceLT, Int.reduceLE, Int.reduceLT, Int.reduceEq, Int.reduceNeg, Int.reduceAdd, Int.reduceMul, Int.reduceSub, Int.reduceToNat, reduceCtorEq, reduceIte]
    | some o =>
      obtain ⟨w, m⟩ := o
      simp only [hg] at p2
      obtain ⟨g1, g2, g3, g4, g5⟩ := get_dec hb hg
      have p1 := fun h => q1 h (unzz w) g3
      rw [g4] at p1
      have p3 := fun h ma mb => q3 h (b.take m) ma mb (by simp; omega)
      have i1 : ¬ (m : Int) < 1 := by omega
      have i2 : ¬ (b.length : Int) < (m : Int) := by omega
      have i3 : (m : Int) ≤ (b.length : Int) := by omega
      have e := loop_Once (h := []) ev b mb m g2 (by omega) (B false) (B false) (B false) (B false) (I 0) (I (unzz w)) (I m)
        (fun h mo j hj => by rw [q2 h mo (b.take j) (by simp; omega) (fun x hx => hb x (List.mem_of_mem_take hx)), g5 j hj]) NN 0 (by omega) (by unfold NN; omega) .junk .junk .junk .junk
      simp -implicitDefEqProofs only [go_sem, Nat.reduceAdd, Nat.reduceMul, Nat.reduceSub, Nat.reduceLeDiff, Nat.reduceEqDiff, Nat.reduceBEq, Nat.reduceLT, Int.reduceLE, Int.reduceLT, Int.reduceEq, Int.reduceNeg, Int.reduceAdd, Int.reduceMul, Int.reduceSub, Int.reduceToNat, reduceCtorEq, reduceIte] at e
      simp -implicitDefEqProofs only [ir6, ha, p1, p2, p3, hl', i1, i2, i3, go_sem, Nat.reduceAdd, Nat.reduceMul, Nat.reduceSub, Nat.reduceLeDiff, Nat.reduceEqDiff, Nat.reduceBEq, Nat.reduceLT, Int.reduceLE, Int.reduceLT, Int.reduceEq, Int.reduceNeg, Int.reduceAdd, Int.reduceMul, Int.reduceSub, Int.reduceToNat, reduceCtorEq, reduceIte]
      revert e
      generalize iter _ _ _ = E
      intro e
      cases E with
      | exit i s =>
        obtain ⟨rfl, _, _, _, _, _, _, _, _, _, _, _, _, rfl⟩ := e
        simp -implicitDefEqProofs only [ha, go_sem, Nat.reduceAdd, Nat.reduceMul, Nat.reduceSub, Nat.reduceLeDiff, Nat.reduceEqDiff, Nat.reduceBEq, Nat.reduceLT, Int.reduceLE, Int.reduceLT, Int.reduceEq, Int.reduceNeg, Int.reduceAdd, Int.reduceMul, Int.reduceSub, Int.reduceToNat, reduceCtorEq, reduceIte]
      | ret s => exact e.elim
      | norm s => exact e.elim
      | pan v h => exact e.elim
      | no => exact e.elim
  · have hl' : (1000 : Int) < (b.length : Int) := by omega
    simp -implicitDefEqProofs only [ir6, ha, hl', go_sem, Nat.reduceAdd, Nat.reduceMul, Nat.reduceSub, Nat.reduceLeDiff, Nat.reduceEqDiff, Nat.reduceBEq, Nat.reduceLT, Int.reduceLE, Int.reduceLT, Int.reduceEq, Int.reduceNeg, Int.reduceAdd, Int.reduceMul, Int.reduceSub, Int.reduceToNat, reduceCtorEq, reduceIte]

theorem law_Once (d : Nat) (b : List Int) (mb : Mode) (hb : ∀ x ∈ b, 0 ≤ x ∧ x < 256) : evalCall fns NN (d + 11) 6 [.sl mb 1 (u8s b)] [] = .ok (B true) [] := by
  rw [call_eq rfl]
  exact body_Once _ (fun h => p_alive) b mb hb (fun h n hn => p_Put (d := d + 9) n hn.1 hn.2) (fun h m b hl hb => p_Get (d := d + 9) b m (by omega) hb)
    (fun h a ma mb hl => by simpa using p_Same (d := d + 9) a a ma mb hl)
end Go.D.Wire
