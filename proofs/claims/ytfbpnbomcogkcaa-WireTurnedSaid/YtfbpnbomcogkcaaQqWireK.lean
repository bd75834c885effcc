/- The laws WireSums and WireSeals, in the evaluator. -/
import Derived.Test.YtfbpnbomcogkcaaQqWireJ
set_option linter.unusedSimpArgs false
set_option linter.unusedVariables false
namespace Go.D.Wire
open Go.D
set_option maxRecDepth 10000
set_option maxHeartbeats 1000000
variable {d : Nat} {h : Heap}

theorem openF_len {b l : List Int} {n : Nat} (he : openF b = some (l, n)) : l.length ≤ b.length := by
  unfold openF at he
  split at he
  · split at he
    · split at he
      · split at he
        · simp only [Option.some.injEq, Prod.mk.injEq] at he
          rw [← he.1, List.length_take, List.length_drop]; omega
        · cases he
      · cases he
    · cases he
  · cases he

theorem body_Sums (ev : FuncId → List DV → Heap → Res DV) (ha : ∀ h, callP ev 14 [] h = .ok (B true) h) (b : List Int) (mb : Mode)
    (q1 : ∀ h m, b.length ≤ 1000 → callP ev 29 [.sl m 1 (u8s b)] h = .ok (openV b) h)
    (q2 : ∀ h m, b.length ≤ 1000 → callP ev 30 [.sl m 1 (u8s b)] h = .ok (openV b) h)
    (q3 : ∀ h m, b.length ≤ 1000 → callP ev 31 [.sl m 1 (u8s b)] h = .ok (I (sumV b)) h)
    (q4 : ∀ h m, b.length ≤ 1000 → callP ev 32 [.sl m 1 (u8s b)] h = .ok (I (sumV b)) h)
    (q5 : ∀ h m, b.length ≤ 1000 → callP ev 33 [.sl m 1 (u8s b)] h = .ok (.sl .own 1 (u8s (sealV b))) h)
    (q6 : ∀ h m, b.length ≤ 1000 → callP ev 34 [.sl m 1 (u8s b)] h = .ok (.sl .own 1 (u8s (sealV b))) h)
    (q7 : ∀ h (a : List Int) ma mb, a.length ≤ 90000 → callP ev 15 [.sl ma 1 (u8s a), .sl mb 1 (u8s a)] h = .ok (B true) h) :
    evalF ev NN ir11 [.sl mb 1 (u8s b)] [] = .ok (B true) [] := by
  by_cases hl : b.length ≤ 1000
  · have hl' : ¬ (1000 : Int) < (b.length : Int) := by omega
    have p1 := fun h m => q1 h m hl
    have p2 := fun h m => q2 h m hl
    have p3 := fun h m => q3 h m hl
    have p4 := fun h m => q4 h m hl
    have p5 := fun h m => q5 h m hl
    have p6 := fun h m => q6 h m hl
    have hs := sealV_len b
    have p7 := fun h ma mb => q7 h (sealV b) ma mb (by omega)
    unfold openV at p1 p2
    cases ho : openF b with
    | none =>
      simp only [ho, shut] at p1 p2
      have p8 : ∀ h ma mb, callP ev 15 [.sl ma 1 [], .sl mb 1 []] h = .ok (B true) h := fun h ma mb => by simpa [u8s] using q7 h [] ma mb (by simp)
      simp -implicitDefEqProofs only [ir11, ha, p1, p2, p3, p4, p5, p6, p7, p8, hl', go_sem, Nat.reduceAdd, Nat.reduceMul, Nat.reduceSub, Nat.reduceLeDiff, Nat.reduceEqDiff, Nat.reduceBEq, Nat.reduceLT, Int.reduceLE, Int.reduceLT, Int.reduceEq, Int.reduceNeg, Int.reduceAdd, Int.reduceMul, Int.reduceSub, Int.reduceToNat, reduceCtorEq, reduceIte]
    | some o =>
      obtain ⟨l, n⟩ := o
      simp only [ho] at p1 p2
      have := openF_len ho
      have p8 := fun h ma mb => q7 h l ma mb (by omega)
      simp -implicitDefEqProofs only [ir11, ha, p1, p2, p3, p4, p5, p6, p7, p8, hl', go_sem, Nat.reduceAdd, Nat.reduceMul, Nat.reduceSub, Nat.reduceLeDiff, Nat.reduceEqDiff, Nat.reduceBEq, Nat.reduceLT, Int.reduceLE, Int.reduceLT, Int.reduceEq, Int.reduceNeg, Int.reduceAdd, Int.reduceMul, Int.reduceSub, Int.reduceToNat, reduceCtorEq, reduceIte]
  · have hl' : (1000 : Int) < (b.length : Int) := by omega
    simp -implicitDefEqProofs only [ir11, ha, hl', go_sem, Nat.reduceAdd, Nat.reduceMul, Nat.reduceSub, Nat.reduceLeDiff, Nat.reduceEqDiff, Nat.reduceBEq, Nat.reduceLT, Int.reduceLE, Int.reduceLT, Int.reduceEq, Int.reduceNeg, Int.reduceAdd, Int.reduceMul, Int.reduceSub, Int.reduceToNat, reduceCtorEq, reduceIte]

theorem law_Sums (d : Nat) (b : List Int) (mb : Mode) (hb : ∀ x ∈ b, 0 ≤ x ∧ x < 256) : evalCall fns NN (d + 11) 11 [.sl mb 1 (u8s b)] [] = .ok (B true) [] := by
  rw [call_eq rfl]
  exact body_Sums _ (fun h => p_alive) b mb (fun h m hl => p_Open (d := d + 7) b m (by omega) hb) (fun h m hl => p_ROpen (d := d + 6) b m (by omega) hb)
    (fun h m hl => p_Sum (d := d + 9) b m (by omega) hb) (fun h m hl => p_RSum (d := d + 8) b m (by omega) hb) (fun h m hl => p_Seal (d := d + 8) b m (by omega) hb) (fun h m hl => p_RSeal (d := d + 7) b m (by omega) hb)
    (fun h a ma mb hl => by simpa using p_Same (d := d + 9) a a ma mb hl)

def QSeals (h : Heap) (v0 v1 v2 v3 v6 v8 v11 v12 v13 : DV) : Ex → Prop
  | .exit i s => i = 0 ∧ ∃ y4 y5 y7 y9 y10, s = ⟨[v0, v1, v2, v3, y4, y5, v6, y7, v8, y9, y10, v11, v12, v13], [], h⟩
  | _ => False

theorem loop_Seals (ev : FuncId → List DV → Heap → Res DV) (v0 v1 v2 v3 v11 v12 v13 : DV) (s : List Int) (ms : Mode) (hl : s.length ≤ 90000)
    (q : ∀ h mo j, j < s.length → callP ev 29 [.sl mo 1 (u8s (s.take j))] h = .ok shut h) : ∀ n k, k ≤ s.length → s.length - k < n → ∀ (x4 x5 x9 x10 : DV),
    QSeals h v0 v1 v2 v3 (.sl ms 1 (u8s s)) (I s.length) v11 v12 v13 (iter (evalC ev NN ir12_l0) n ⟨[v0, v1, v2, v3, x4, x5, .sl ms 1 (u8s s), I k, I s.length, x9, x10, v11, v12, v13], [], h⟩) := by
  intro n
  induction n with
  | zero => intro k _ h2; omega
  | succ n ih =>
    intro k hk hn x4 x5 x9 x10
    by_cases hlt : k < s.length
    · have hlt' : (k : Int) < (s.length : Int) := by omega
      have hkb : (k : Int) ≤ (s.length : Int) := by omega
      have q' := fun h mo => q h mo k hlt
      unfold shut at q'
      have e := ih (k + 1) (by omega) (by omega) (B true) (B false) (I k) (I 3)
      refine cast (congrArg _ ?_) e
      have st : evalC ev NN ir12_l0 ⟨[v0, v1, v2, v3, x4, x5, .sl ms 1 (u8s s), I k, I s.length, x9, x10, v11, v12, v13], [], h⟩ = .norm ⟨[v0, v1, v2, v3, B true, B false, .sl ms 1 (u8s s), I (k + 1 : Nat), I s.length, I k, I 3, v11, v12, v13], [], h⟩ := by
        simp -implicitDefEqProofs only [ir12_l0, hlt', hkb, q', wrap_succ (show k < 4611686018427387904 by omega), go_sem, Nat.reduceAdd, Nat.reduceMul, Nat.reduceSub, Nat.reduceLeDiff, Nat.reduceEqDiff, Nat.reduceBEq, Nat.reduceLT, Int.reduceLE, Int.reduceLT, Int.reduceEq, Int.reduceNeg, Int.reduceAdd, Int.reduceMul, Int.reduceSub, Int.reduceToNat, reduceCtorEq, reduceIte]
      rw [iter, st]
    · have hlt' : ¬ (k : Int) < (s.length : Int) := by omega
      simp -implicitDefEqProofs only [iter, ir12_l0, hlt', go_sem, Nat.reduceAdd, Nat.reduceMul, Nat.reduceSub, Nat.reduceLeDiff, Nat.reduceEqDiff, Nat.reduceBEq, Nat.reduceLT, Int.reduceLE, Int.reduceLT, Int.reduceEq, Int.reduceNeg, Int.reduceAdd, Int.reduceMul, Int.reduceSub, Int.reduceToNat, reduceCtorEq, reduceIte]
      exact ⟨rfl, _, _, _, _, _, rfl⟩

theorem body_Seals (ev : FuncId → List DV → Heap → Res DV) (ha : ∀ h, callP ev 14 [] h = .ok (B true) h) (b l : List Int) (mb ml : Mode)
    (q1 : ∀ h m, b.length ≤ 600 → callP ev 33 [.sl m 1 (u8s b)] h = .ok (.sl .own 1 (u8s (sealV b))) h)
    (q2 : ∀ h m, b.length + l.length ≤ 600 → callP ev 29 [.sl m 1 (u8s (sealV b ++ l))] h = .ok (.tup [.sl .view 1 (u8s b), I (sealV b).length, I 0]) h)
    (q3 : ∀ h m j, b.length ≤ 600 → j < (sealV b).length → callP ev 29 [.sl m 1 (u8s ((sealV b).take j))] h = .ok shut h)
    (q7 : ∀ h ma mb, b.length ≤ 600 → callP ev 15 [.sl ma 1 (u8s b), .sl mb 1 (u8s b)] h = .ok (B true) h) (hbl : b.length ≤ 2 ^ 50) (hll : l.length ≤ 2 ^ 50) :
    evalF ev NN ir12 [.sl mb 1 (u8s b), .sl ml 1 (u8s l)] [] = .ok (B true) [] := by
  have w0 : IntKind.i64.wrap ((b.length : Int) + (l.length : Int)) = (b.length : Int) + (l.length : Int) := wrap64_id (by omega) (by omega)
  by_cases hl : b.length + l.length ≤ 600
  · have hl' : ¬ (600 : Int) < (b.length : Int) + (l.length : Int) := by omega
    have p1 := fun h m => q1 h m (by omega)
    have p2 := fun h m => q2 h m hl
    have p7 := fun h ma mb => q7 h ma mb (by omega)
    have hs := sealV_len b
    have hr : ((sealV b).length + l.length) * 2 ≤ room := by simp only [room]; omega
    have e := loop_Seals (h := []) ev (.sl mb 1 (u8s b)) (.sl (vm ml) 1 (u8s l)) (B false) (B false) (.sl .view 1 (u8s b)) (I (sealV b).length) (I 0) (sealV b) .own (by omega)
      (fun h mo j hj => q3 h mo j (by omega) hj) NN 0 (by omega) (by unfold NN; omega) .junk .junk .junk .junk
    generalize sealV b = s at *
    simp -implicitDefEqProofs only [go_sem, Nat.reduceAdd, Nat.reduceMul, Nat.reduceSub, Nat.reduceLeDiff, Nat.reduceEqDiff, Nat.reduceBEq, Nat.reduceLT, Int.reduceLE, Int.reduceLT, Int.reduceEq, Int.reduceNeg, Int.reduceAdd, Int.reduceMul, Int.reduceSub, Int.reduceToNat, reduceCtorEq, reduceIte] at e
    simp -implicitDefEqProofs only [ir12, w0, ha, p1, p2, hl', hr, go_sem, Nat.reduceAdd, Nat.reduceMul, Nat.reduceSub, Nat.reduceLeDiff, Nat.reduceEqDiff, Nat.reduceBEq, Nat.reduceLT, Int.reduceLE, Int.reduceLT, Int.reduceEq, Int.reduceNeg, Int.reduceAdd, Int.reduceMul, Int.reduceSub, Int.reduceToNat, reduceCtorEq, reduceIte]
    revert e
    generalize iter _ _ _ = E
    intro e
    cases E with
    | exit i s =>
      obtain ⟨rfl, _, _, _, _, _, rfl⟩ := e
      simp -implicitDefEqProofs only [ha, p7, go_sem, Nat.reduceAdd, Nat.reduceMul, Nat.reduceSub, Nat.reduceLeDiff, Nat.reduceEqDiff, Nat.reduceBEq, Nat.reduceLT, Int.reduceLE, Int.reduceLT, Int.reduceEq, Int.reduceNeg, Int.reduceAdd, Int.reduceMul, Int.reduceSub, Int.reduceToNat, reduceCtorEq, reduceIte]
    | ret s => exact e.elim
    | norm s => exact e.elim
    | pan v h => exact e.elim
    | no => exact e.elim
  · have hl' : (600 : Int) < (b.length : Int) + (l.length : Int) := by omega
    simp -implicitDefEqProofs only [ir12, ha, w0, hl', go_sem, Nat.reduceAdd, Nat.reduceMul, Nat.reduceSub, Nat.reduceLeDiff, Nat.reduceEqDiff, Nat.reduceBEq, Nat.reduceLT, Int.reduceLE, Int.reduceLT, Int.reduceEq, Int.reduceNeg, Int.reduceAdd, Int.reduceMul, Int.reduceSub, Int.reduceToNat, reduceCtorEq, reduceIte]

theorem law_Seals (d : Nat) (b l : List Int) (mb ml : Mode) (hb : ∀ x ∈ b, 0 ≤ x ∧ x < 256) (hl : ∀ x ∈ l, 0 ≤ x ∧ x < 256) (hbl : b.length ≤ 2 ^ 50) (hll : l.length ≤ 2 ^ 50) :
    evalCall fns NN (d + 11) 12 [.sl mb 1 (u8s b), .sl ml 1 (u8s l)] [] = .ok (B true) [] := by
  rw [call_eq rfl]
  have hs := sealV_len b
  have hsb := sealV_bytes hb
  refine body_Seals _ (fun h => p_alive) b l mb ml (fun h m hl => p_Seal (d := d + 8) b m (by omega) hb) (fun h m h6 => ?_) (fun h m j h6 hj => ?_)
    (fun h ma mb hl => by simpa using p_Same (d := d + 9) b b ma mb (by omega)) hbl hll
  · have p := p_Open (d := d + 7) (h := h) (sealV b ++ l) m (by rw [List.length_append]; omega) (fun x hx => (List.mem_append.1 hx).elim (hsb x) (hl x))
    rw [p, openV, openF_seal (by omega) hb]
  · have p := p_Open (d := d + 7) (h := h) ((sealV b).take j) m (by rw [List.length_take]; omega) (fun x hx => hsb x (List.mem_of_mem_take hx))
    rw [p, openV, openF_short (by omega) hb hj]
end Go.D.Wire
