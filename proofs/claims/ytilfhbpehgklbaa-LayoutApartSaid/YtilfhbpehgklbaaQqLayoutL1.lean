/- What 'layout' and its reference compute: single numbers. -/
import Derived.Test.YtilfhbpehgklbaaQqLD
import Derived.Test.YtilfhbpehgklbaaQqLayoutIR
set_option linter.unusedSimpArgs false
set_option linter.unusedVariables false
namespace Go.D.Layout
open Go.D
set_option maxRecDepth 10000
set_option maxHeartbeats 1000000
variable {d : Nat} {h : Heap}

theorem body_within (ev : FuncId → List DV → Heap → Res DV) (n lo hi : Int) : evalF ev NN ir27 [I n, I lo, I hi] [] = .ok (B (decide (lo ≤ n ∧ n ≤ hi))) [] := by
  by_cases h1 : lo ≤ n
  · simp -implicitDefEqProofs only [ir27, h1, go_sem, Nat.reduceAdd, Nat.reduceMul, Nat.reduceSub, Nat.reduceLeDiff, Nat.reduceEqDiff, Nat.reduceBEq, Nat.reduceLT, Int.reduceLE, Int.reduceLT, Int.reduceEq, Int.reduceNeg, Int.reduceAdd, Int.reduceMul, Int.reduceSub, Int.reduceToNat, reduceCtorEq, ↓reduceIte]
  · simp -implicitDefEqProofs only [ir27, h1, go_sem, Nat.reduceAdd, Nat.reduceMul, Nat.reduceSub, Nat.reduceLeDiff, Nat.reduceEqDiff, Nat.reduceBEq, Nat.reduceLT, Int.reduceLE, Int.reduceLT, Int.reduceEq, Int.reduceNeg, Int.reduceAdd, Int.reduceMul, Int.reduceSub, Int.reduceToNat, reduceCtorEq, ↓reduceIte]
theorem p_within (n lo hi : Int) : callP (evalCall fns NN (d + 1)) 27 [I n, I lo, I hi] h = .ok (B (decide (lo ≤ n ∧ n ≤ hi))) h :=
  callP_of (v := B (decide (lo ≤ n ∧ n ≤ hi))) (h' := []) rfl rfl (by rw [call_eq rfl]; exact body_within _ n lo hi) rfl
theorem body_in (ev : FuncId → List DV → Heap → Res DV) (n lo hi : Int) : evalF ev NN ir23 [I n, I lo, I hi] [] = .ok (B (decide (lo ≤ n ∧ n ≤ hi))) [] := by
  by_cases h1 : lo ≤ n
  · simp -implicitDefEqProofs only [ir23, h1, go_sem, Nat.reduceAdd, Nat.reduceMul, Nat.reduceSub, Nat.reduceLeDiff, Nat.reduceEqDiff, Nat.reduceBEq, Nat.reduceLT, Int.reduceLE, Int.reduceLT, Int.reduceEq, Int.reduceNeg, Int.reduceAdd, Int.reduceMul, Int.reduceSub, Int.reduceToNat, reduceCtorEq, ↓reduceIte]
  · simp -implicitDefEqProofs only [ir23, h1, go_sem, Nat.reduceAdd, Nat.reduceMul, Nat.reduceSub, Nat.reduceLeDiff, Nat.reduceEqDiff, Nat.reduceBEq, Nat.reduceLT, Int.reduceLE, Int.reduceLT, Int.reduceEq, Int.reduceNeg, Int.reduceAdd, Int.reduceMul, Int.reduceSub, Int.reduceToNat, reduceCtorEq, ↓reduceIte]
theorem p_in (n lo hi : Int) : callP (evalCall fns NN (d + 1)) 23 [I n, I lo, I hi] h = .ok (B (decide (lo ≤ n ∧ n ≤ hi))) h :=
  callP_of (v := B (decide (lo ≤ n ∧ n ≤ hi))) (h' := []) rfl rfl (by rw [call_eq rfl]; exact body_in _ n lo hi) rfl

/-- A cell of a part. -/
def plF (fr many size n i : Int) : Int := if (0 ≤ n ∧ n ≤ many - 1) ∧ (0 ≤ i ∧ i ≤ size - 1) then fr + size * n + i else -1
theorem body_place (ev : FuncId → List DV → Heap → Res DV) (q : ∀ h n lo hi, callP ev 27 [I n, I lo, I hi] h = .ok (B (decide (lo ≤ n ∧ n ≤ hi))) h)
    (fr many size n i : Int) (h1 : 0 ≤ many ∧ many ≤ 2000000) (h2 : 0 ≤ size ∧ size ≤ 2000000) (h3 : 0 ≤ fr ∧ fr ≤ 2000000) :
    evalF ev NN ir30 [I fr, I many, I size, I n, I i] [] = .ok (I (plF fr many size n i)) [] := by
  unfold plF
  by_cases c1 : 0 ≤ n ∧ n ≤ many - 1
  · by_cases c2 : 0 ≤ i ∧ i ≤ size - 1
    · have hm : 0 ≤ size * n ∧ size * n ≤ 2000000 * 2000000 := ⟨Int.mul_nonneg h2.1 c1.1, Int.mul_le_mul h2.2 (by omega) c1.1 (by omega)⟩
      simp -implicitDefEqProofs (disch := first | omega | (simp only [List.length_set, List.length_replicate]; omega)) only [ir30, q, wrap_i64, wrap_u64, wrap_u32, wrap_u16, wrap_u8, dec_t, dec_f, ite_t, ite_f, tmod_e, go_sem, Nat.reduceAdd, Nat.reduceMul, Nat.reduceSub, Nat.reduceLeDiff, Nat.reduceEqDiff, Nat.reduceBEq, Nat.reduceLT, Int.reduceLE, Int.reduceLT, Int.reduceEq, Int.reduceNeg, Int.reduceAdd, Int.reduceMul, Int.reduceSub, Int.reduceToNat, reduceCtorEq, ↓reduceIte]
    · simp -implicitDefEqProofs (disch := first | omega | (simp only [List.length_set, List.length_replicate]; omega)) only [ir30, q, wrap_i64, wrap_u64, wrap_u32, wrap_u16, wrap_u8, dec_t, dec_f, ite_t, ite_f, tmod_e, go_sem, Nat.reduceAdd, Nat.reduceMul, Nat.reduceSub, Nat.reduceLeDiff, Nat.reduceEqDiff, Nat.reduceBEq, Nat.reduceLT, Int.reduceLE, Int.reduceLT, Int.reduceEq, Int.reduceNeg, Int.reduceAdd, Int.reduceMul, Int.reduceSub, Int.reduceToNat, reduceCtorEq, ↓reduceIte]
  · simp -implicitDefEqProofs (disch := first | omega | (simp only [List.length_set, List.length_replicate]; omega)) only [ir30, q, wrap_i64, wrap_u64, wrap_u32, wrap_u16, wrap_u8, dec_t, dec_f, ite_t, ite_f, tmod_e, go_sem, Nat.reduceAdd, Nat.reduceMul, Nat.reduceSub, Nat.reduceLeDiff, Nat.reduceEqDiff, Nat.reduceBEq, Nat.reduceLT, Int.reduceLE, Int.reduceLT, Int.reduceEq, Int.reduceNeg, Int.reduceAdd, Int.reduceMul, Int.reduceSub, Int.reduceToNat, reduceCtorEq, ↓reduceIte]
theorem p_place (fr many size n i : Int) (h1 : 0 ≤ many ∧ many ≤ 2000000) (h2 : 0 ≤ size ∧ size ≤ 2000000) (h3 : 0 ≤ fr ∧ fr ≤ 2000000) :
    callP (evalCall fns NN (d + 2)) 30 [I fr, I many, I size, I n, I i] h = .ok (I (plF fr many size n i)) h :=
  callP_of (v := I (plF fr many size n i)) (h' := []) rfl rfl (by rw [call_eq rfl]; exact body_place _ (fun h n lo hi => p_within n lo hi) fr many size n i h1 h2 h3) rfl

theorem it1 (b : St → Ex) (n : Nat) (s : St) : iter b (n + 1) s = match b s with | .norm s' => iter b n s' | e => e := rfl
theorem NN_8 : NN = 99991 + 1 + 1 + 1 + 1 + 1 + 1 + 1 + 1 + 1 := rfl

def Q1 (i0 : Nat) (s0 : St) : Ex → Prop
  | .exit i s => i = i0 ∧ s = s0
  | _ => False

theorem body_rings (ev : FuncId → List DV → Heap → Res DV) (t : Int) (h1 : t ≤ 64) : evalF ev NN ir29 [I t] [] = .ok (I (rgF t)) [] := by
  unfold rgF
  by_cases c4 : t ≤ 4
  · simp -implicitDefEqProofs (disch := first | omega | (simp only [List.length_set, List.length_replicate]; omega)) only [ir29, ir29_l0, NN_8, it1, wrap_i64, wrap_u64, wrap_u32, wrap_u16, wrap_u8, dec_t, dec_f, ite_t, ite_f, tmod_e, go_sem, Nat.reduceAdd, Nat.reduceMul, Nat.reduceSub, Nat.reduceLeDiff, Nat.reduceEqDiff, Nat.reduceBEq, Nat.reduceLT, Int.reduceLE, Int.reduceLT, Int.reduceEq, Int.reduceNeg, Int.reduceAdd, Int.reduceMul, Int.reduceSub, Int.reduceToNat, reduceCtorEq, ↓reduceIte]
  by_cases c8 : t ≤ 8
  · simp -implicitDefEqProofs (disch := first | omega | (simp only [List.length_set, List.length_replicate]; omega)) only [ir29, ir29_l0, NN_8, it1, wrap_i64, wrap_u64, wrap_u32, wrap_u16, wrap_u8, dec_t, dec_f, ite_t, ite_f, tmod_e, go_sem, Nat.reduceAdd, Nat.reduceMul, Nat.reduceSub, Nat.reduceLeDiff, Nat.reduceEqDiff, Nat.reduceBEq, Nat.reduceLT, Int.reduceLE, Int.reduceLT, Int.reduceEq, Int.reduceNeg, Int.reduceAdd, Int.reduceMul, Int.reduceSub, Int.reduceToNat, reduceCtorEq, ↓reduceIte]
  by_cases c16 : t ≤ 16
  · simp -implicitDefEqProofs (disch := first | omega | (simp only [List.length_set, List.length_replicate]; omega)) only [ir29, ir29_l0, NN_8, it1, wrap_i64, wrap_u64, wrap_u32, wrap_u16, wrap_u8, dec_t, dec_f, ite_t, ite_f, tmod_e, go_sem, Nat.reduceAdd, Nat.reduceMul, Nat.reduceSub, Nat.reduceLeDiff, Nat.reduceEqDiff, Nat.reduceBEq, Nat.reduceLT, Int.reduceLE, Int.reduceLT, Int.reduceEq, Int.reduceNeg, Int.reduceAdd, Int.reduceMul, Int.reduceSub, Int.reduceToNat, reduceCtorEq, ↓reduceIte]
  by_cases c32 : t ≤ 32
  · simp -implicitDefEqProofs (disch := first | omega | (simp only [List.length_set, List.length_replicate]; omega)) only [ir29, ir29_l0, NN_8, it1, wrap_i64, wrap_u64, wrap_u32, wrap_u16, wrap_u8, dec_t, dec_f, ite_t, ite_f, tmod_e, go_sem, Nat.reduceAdd, Nat.reduceMul, Nat.reduceSub, Nat.reduceLeDiff, Nat.reduceEqDiff, Nat.reduceBEq, Nat.reduceLT, Int.reduceLE, Int.reduceLT, Int.reduceEq, Int.reduceNeg, Int.reduceAdd, Int.reduceMul, Int.reduceSub, Int.reduceToNat, reduceCtorEq, ↓reduceIte]
  · simp -implicitDefEqProofs (disch := first | omega | (simp only [List.length_set, List.length_replicate]; omega)) only [ir29, ir29_l0, NN_8, it1, wrap_i64, wrap_u64, wrap_u32, wrap_u16, wrap_u8, dec_t, dec_f, ite_t, ite_f, tmod_e, go_sem, Nat.reduceAdd, Nat.reduceMul, Nat.reduceSub, Nat.reduceLeDiff, Nat.reduceEqDiff, Nat.reduceBEq, Nat.reduceLT, Int.reduceLE, Int.reduceLT, Int.reduceEq, Int.reduceNeg, Int.reduceAdd, Int.reduceMul, Int.reduceSub, Int.reduceToNat, reduceCtorEq, ↓reduceIte]
theorem p_rings (t : Int) (h1 : t ≤ 64) : callP (evalCall fns NN (d + 1)) 29 [I t] h = .ok (I (rgF t)) h :=
  callP_of (v := I (rgF t)) (h' := []) rfl rfl (by rw [call_eq rfl]; exact body_rings _ t h1) rfl

theorem body_Rings (ev : FuncId → List DV → Heap → Res DV) (c : Cf) (l : Lf) (q : ∀ h, callP ev 29 [I c.tasks] h = .ok (I (rgF c.tasks)) h) :
    evalF ev NN ir14 [.agg (LDc c l)] [] = .ok (I (rgF c.tasks)) [] := by
  simp -implicitDefEqProofs (disch := first | omega | (simp only [List.length_set, List.length_replicate]; omega)) only [ir14, q, wrap_i64, wrap_u64, wrap_u32, wrap_u16, wrap_u8, dec_t, dec_f, ite_t, ite_f, tmod_e, go_sem, Nat.reduceAdd, Nat.reduceMul, Nat.reduceSub, Nat.reduceLeDiff, Nat.reduceEqDiff, Nat.reduceBEq, Nat.reduceLT, Int.reduceLE, Int.reduceLT, Int.reduceEq, Int.reduceNeg, Int.reduceAdd, Int.reduceMul, Int.reduceSub, Int.reduceToNat, reduceCtorEq, ↓reduceIte]
theorem p_Rings (c : Cf) (l : Lf) (h1 : c.tasks ≤ 64) : callP (evalCall fns NN (d + 2)) 14 [.agg (LDc c l)] h = .ok (I (rgF c.tasks)) h :=
  callP_of (v := I (rgF c.tasks)) (h' := []) rfl rfl (by rw [call_eq rfl]; exact body_Rings _ c l (fun h => p_rings _ h1)) rfl

theorem body_RRings (ev : FuncId → List DV → Heap → Res DV) (c : Cf) (l : Lf) (h1 : c.tasks ≤ 64) : evalF ev NN ir16 [.agg (LDc c l)] [] = .ok (I (rgF c.tasks)) [] := by
  unfold rgF
  by_cases c4 : c.tasks ≤ 4
  · simp -implicitDefEqProofs (disch := first | omega | (simp only [List.length_set, List.length_replicate]; omega)) only [ir16, ir16_l0, NN_8, it1, wrap_i64, wrap_u64, wrap_u32, wrap_u16, wrap_u8, dec_t, dec_f, ite_t, ite_f, tmod_e, go_sem, Nat.reduceAdd, Nat.reduceMul, Nat.reduceSub, Nat.reduceLeDiff, Nat.reduceEqDiff, Nat.reduceBEq, Nat.reduceLT, Int.reduceLE, Int.reduceLT, Int.reduceEq, Int.reduceNeg, Int.reduceAdd, Int.reduceMul, Int.reduceSub, Int.reduceToNat, reduceCtorEq, ↓reduceIte]
  by_cases c8 : c.tasks ≤ 8
  · simp -implicitDefEqProofs (disch := first | omega | (simp only [List.length_set, List.length_replicate]; omega)) only [ir16, ir16_l0, NN_8, it1, wrap_i64, wrap_u64, wrap_u32, wrap_u16, wrap_u8, dec_t, dec_f, ite_t, ite_f, tmod_e, go_sem, Nat.reduceAdd, Nat.reduceMul, Nat.reduceSub, Nat.reduceLeDiff, Nat.reduceEqDiff, Nat.reduceBEq, Nat.reduceLT, Int.reduceLE, Int.reduceLT, Int.reduceEq, Int.reduceNeg, Int.reduceAdd, Int.reduceMul, Int.reduceSub, Int.reduceToNat, reduceCtorEq, ↓reduceIte]
  by_cases c16 : c.tasks ≤ 16
  · simp -implicitDefEqProofs (disch := first | omega | (simp only [List.length_set, List.length_replicate]; omega)) only [ir16, ir16_l0, NN_8, it1, wrap_i64, wrap_u64, wrap_u32, wrap_u16, wrap_u8, dec_t, dec_f, ite_t, ite_f, tmod_e, go_sem, Nat.reduceAdd, Nat.reduceMul, Nat.reduceSub, Nat.reduceLeDiff, Nat.reduceEqDiff, Nat.reduceBEq, Nat.reduceLT, Int.reduceLE, Int.reduceLT, Int.reduceEq, Int.reduceNeg, Int.reduceAdd, Int.reduceMul, Int.reduceSub, Int.reduceToNat, reduceCtorEq, ↓reduceIte]
  by_cases c32 : c.tasks ≤ 32
  · simp -implicitDefEqProofs (disch := first | omega | (simp only [List.length_set, List.length_replicate]; omega)) only [ir16, ir16_l0, NN_8, it1, wrap_i64, wrap_u64, wrap_u32, wrap_u16, wrap_u8, dec_t, dec_f, ite_t, ite_f, tmod_e, go_sem, Nat.reduceAdd, Nat.reduceMul, Nat.reduceSub, Nat.reduceLeDiff, Nat.reduceEqDiff, Nat.reduceBEq, Nat.reduceLT, Int.reduceLE, Int.reduceLT, Int.reduceEq, Int.reduceNeg, Int.reduceAdd, Int.reduceMul, Int.reduceSub, Int.reduceToNat, reduceCtorEq, ↓reduceIte]
  · simp -implicitDefEqProofs (disch := first | omega | (simp only [List.length_set, List.length_replicate]; omega)) only [ir16, ir16_l0, NN_8, it1, wrap_i64, wrap_u64, wrap_u32, wrap_u16, wrap_u8, dec_t, dec_f, ite_t, ite_f, tmod_e, go_sem, Nat.reduceAdd, Nat.reduceMul, Nat.reduceSub, Nat.reduceLeDiff, Nat.reduceEqDiff, Nat.reduceBEq, Nat.reduceLT, Int.reduceLE, Int.reduceLT, Int.reduceEq, Int.reduceNeg, Int.reduceAdd, Int.reduceMul, Int.reduceSub, Int.reduceToNat, reduceCtorEq, ↓reduceIte]
theorem p_RRings (c : Cf) (l : Lf) (h1 : c.tasks ≤ 64) : callP (evalCall fns NN (d + 1)) 16 [.agg (LDc c l)] h = .ok (I (rgF c.tasks)) h :=
  callP_of (v := I (rgF c.tasks)) (h' := []) rfl rfl (by rw [call_eq rfl]; exact body_RRings _ c l h1) rfl

theorem body_room (ev : FuncId → List DV → Heap → Res DV) (n : Int) (h0 : 0 ≤ n) (h1 : n ≤ 5) : evalF ev NN ir24 [I n] [] = .ok (I (4 * (p2F n - 1))) [] := by
  have : n = 0 ∨ n = 1 ∨ n = 2 ∨ n = 3 ∨ n = 4 ∨ n = 5 := by omega
  unfold p2F
  rcases this with rfl | rfl | rfl | rfl | rfl | rfl <;> simp -implicitDefEqProofs (disch := first | omega | (simp only [List.length_set, List.length_replicate]; omega)) only [ir24, ir24_l0, NN_8, it1, wrap_i64, wrap_u64, wrap_u32, wrap_u16, wrap_u8, dec_t, dec_f, ite_t, ite_f, tmod_e, go_sem, Nat.reduceAdd, Nat.reduceMul, Nat.reduceSub, Nat.reduceLeDiff, Nat.reduceEqDiff, Nat.reduceBEq, Nat.reduceLT, Int.reduceLE, Int.reduceLT, Int.reduceEq, Int.reduceNeg, Int.reduceAdd, Int.reduceMul, Int.reduceSub, Int.reduceToNat, reduceCtorEq, ↓reduceIte]
theorem p_room (n : Int) (h0 : 0 ≤ n) (h1 : n ≤ 5) : callP (evalCall fns NN (d + 1)) 24 [I n] h = .ok (I (4 * (p2F n - 1))) h :=
  callP_of (v := I (4 * (p2F n - 1))) (h' := []) rfl rfl (by rw [call_eq rfl]; exact body_room _ n h0 h1) rfl

theorem body_Ring (ev : FuncId → List DV → Heap → Res DV) (c : Cf) (l : Lf) (seat r : Int) (ht : c.tasks ≤ 64) (hs : 0 ≤ c.seats ∧ c.seats ≤ 8) (hl : 0 ≤ l.ring ∧ l.ring ≤ 20000)
    (q1 : ∀ h, callP ev 14 [.agg (LDc c l)] h = .ok (I (rgF c.tasks)) h)
    (q2 : ∀ h n lo hi, callP ev 27 [I n, I lo, I hi] h = .ok (B (decide (lo ≤ n ∧ n ≤ hi))) h)
    (q3 : ∀ h fr many size n i, 0 ≤ many ∧ many ≤ 2000000 → 0 ≤ size ∧ size ≤ 2000000 → 0 ≤ fr ∧ fr ≤ 2000000 → callP ev 30 [I fr, I many, I size, I n, I i] h = .ok (I (plF fr many size n i)) h) :
    evalF ev NN ir15 [.agg (LDc c l), I seat, I r] [] = .ok (I (ringF c l seat r)) [] := by
  have rb := rg_bd c.tasks
  have pb := pw_bd c.tasks
  unfold ringF
  by_cases hr : 0 ≤ r ∧ r ≤ rgF c.tasks - 1
  · have s1 := shl1 (r := rgF c.tasks) (by omega) (by omega)
    have s2 := shl1 (r := r) (by omega) (by omega)
    obtain ⟨p1, p2⟩ := p2_lt hr.1 hr.2
    rw [p2_rg] at s1
    have p3 := fun h => q3 h l.ring c.seats (4 * (pwF c.tasks - 1)) seat (4 * (p2F r - 1)) (by omega) (by omega) (by omega)
    have e : plF l.ring c.seats (4 * (pwF c.tasks - 1)) seat (4 * (p2F r - 1)) = if (0 ≤ seat ∧ seat ≤ c.seats - 1) ∧ (0 ≤ r ∧ r ≤ rgF c.tasks - 1) then l.ring + seat * (4 * (pwF c.tasks - 1)) + 4 * (p2F r - 1) else -1 := by
      unfold plF
      by_cases hc : 0 ≤ seat ∧ seat ≤ c.seats - 1
      · rw [if_pos ⟨hc, by omega⟩, if_pos ⟨hc, hr⟩, Int.mul_comm (4 * (pwF c.tasks - 1)) seat]
      · rw [if_neg (fun h => hc h.1), if_neg (fun h => hc h.1)]
    rw [← e]
    have r0 : ¬ rgF c.tasks < 0 := by omega
    have r1 : ¬ r < 0 := by omega
    simp -implicitDefEqProofs (disch := first | omega | (simp only [List.length_set, List.length_replicate]; omega)) only [ir15, q1, q2, p3, s1, s2, wrap_i64, wrap_u64, wrap_u32, wrap_u16, wrap_u8, dec_t, dec_f, ite_t, ite_f, tmod_e, go_sem, Nat.reduceAdd, Nat.reduceMul, Nat.reduceSub, Nat.reduceLeDiff, Nat.reduceEqDiff, Nat.reduceBEq, Nat.reduceLT, Int.reduceLE, Int.reduceLT, Int.reduceEq, Int.reduceNeg, Int.reduceAdd, Int.reduceMul, Int.reduceSub, Int.reduceToNat, reduceCtorEq, ↓reduceIte]
  · rw [if_neg (fun h => hr h.2)]
    simp -implicitDefEqProofs (disch := first | omega | (simp only [List.length_set, List.length_replicate]; omega)) only [ir15, q1, q2, wrap_i64, wrap_u64, wrap_u32, wrap_u16, wrap_u8, dec_t, dec_f, ite_t, ite_f, tmod_e, go_sem, Nat.reduceAdd, Nat.reduceMul, Nat.reduceSub, Nat.reduceLeDiff, Nat.reduceEqDiff, Nat.reduceBEq, Nat.reduceLT, Int.reduceLE, Int.reduceLT, Int.reduceEq, Int.reduceNeg, Int.reduceAdd, Int.reduceMul, Int.reduceSub, Int.reduceToNat, reduceCtorEq, ↓reduceIte]
theorem p_Ring (c : Cf) (l : Lf) (seat r : Int) (ht : c.tasks ≤ 64) (hs : 0 ≤ c.seats ∧ c.seats ≤ 8) (hl : 0 ≤ l.ring ∧ l.ring ≤ 20000) : callP (evalCall fns NN (d + 3)) 15 [.agg (LDc c l), I seat, I r] h = .ok (I (ringF c l seat r)) h :=
  callP_of (v := I (ringF c l seat r)) (h' := []) rfl rfl (by rw [call_eq rfl]; exact body_Ring _ c l seat r ht hs hl (fun h => p_Rings c l ht) (fun h n lo hi => p_within (d := d + 1) n lo hi) (fun h fr many size n i h1 h2 h3 => p_place fr many size n i h1 h2 h3)) rfl

theorem body_RRing (ev : FuncId → List DV → Heap → Res DV) (c : Cf) (l : Lf) (seat r : Int) (ht : c.tasks ≤ 64) (hs : 0 ≤ c.seats ∧ c.seats ≤ 8) (hl : 0 ≤ l.ring ∧ l.ring ≤ 20000)
    (q1 : ∀ h, callP ev 16 [.agg (LDc c l)] h = .ok (I (rgF c.tasks)) h)
    (q2 : ∀ h n lo hi, callP ev 23 [I n, I lo, I hi] h = .ok (B (decide (lo ≤ n ∧ n ≤ hi))) h)
    (q3 : ∀ h n, 0 ≤ n → n ≤ 5 → callP ev 24 [I n] h = .ok (I (4 * (p2F n - 1))) h) :
    evalF ev NN ir46 [.agg (LDc c l), I seat, I r] [] = .ok (I (ringF c l seat r)) [] := by
  have rb := rg_bd c.tasks
  have pb := pw_bd c.tasks
  unfold ringF
  by_cases hc : 0 ≤ seat ∧ seat ≤ c.seats - 1
  · by_cases hr : 0 ≤ r ∧ r ≤ rgF c.tasks - 1
    · rw [if_pos ⟨hc, hr⟩]
      have p3 := fun h => q3 h (rgF c.tasks) (by omega) (by omega)
      have p4 := fun h => q3 h r (by omega) (by omega)
      rw [p2_rg] at p3
      have pr := p2_bd r
      have hm : 0 ≤ seat * (4 * (pwF c.tasks - 1)) ∧ seat * (4 * (pwF c.tasks - 1)) ≤ 8 * 124 := ⟨Int.mul_nonneg hc.1 (by omega), Int.mul_le_mul (by omega) (by omega) (by omega) (by omega)⟩
      simp -implicitDefEqProofs (disch := first | omega | (simp only [List.length_set, List.length_replicate]; omega)) only [ir46, q1, q2, p3, p4, wrap_i64, wrap_u64, wrap_u32, wrap_u16, wrap_u8, dec_t, dec_f, ite_t, ite_f, tmod_e, go_sem, Nat.reduceAdd, Nat.reduceMul, Nat.reduceSub, Nat.reduceLeDiff, Nat.reduceEqDiff, Nat.reduceBEq, Nat.reduceLT, Int.reduceLE, Int.reduceLT, Int.reduceEq, Int.reduceNeg, Int.reduceAdd, Int.reduceMul, Int.reduceSub, Int.reduceToNat, reduceCtorEq, ↓reduceIte]
    · rw [if_neg (fun h => hr h.2)]
      simp -implicitDefEqProofs (disch := first | omega | (simp only [List.length_set, List.length_replicate]; omega)) only [ir46, q1, q2, wrap_i64, wrap_u64, wrap_u32, wrap_u16, wrap_u8, dec_t, dec_f, ite_t, ite_f, tmod_e, go_sem, Nat.reduceAdd, Nat.reduceMul, Nat.reduceSub, Nat.reduceLeDiff, Nat.reduceEqDiff, Nat.reduceBEq, Nat.reduceLT, Int.reduceLE, Int.reduceLT, Int.reduceEq, Int.reduceNeg, Int.reduceAdd, Int.reduceMul, Int.reduceSub, Int.reduceToNat, reduceCtorEq, ↓reduceIte]
  · rw [if_neg (fun h => hc h.1)]
    simp -implicitDefEqProofs (disch := first | omega | (simp only [List.length_set, List.length_replicate]; omega)) only [ir46, q1, q2, wrap_i64, wrap_u64, wrap_u32, wrap_u16, wrap_u8, dec_t, dec_f, ite_t, ite_f, tmod_e, go_sem, Nat.reduceAdd, Nat.reduceMul, Nat.reduceSub, Nat.reduceLeDiff, Nat.reduceEqDiff, Nat.reduceBEq, Nat.reduceLT, Int.reduceLE, Int.reduceLT, Int.reduceEq, Int.reduceNeg, Int.reduceAdd, Int.reduceMul, Int.reduceSub, Int.reduceToNat, reduceCtorEq, ↓reduceIte]
theorem p_RRing (c : Cf) (l : Lf) (seat r : Int) (ht : c.tasks ≤ 64) (hs : 0 ≤ c.seats ∧ c.seats ≤ 8) (hl : 0 ≤ l.ring ∧ l.ring ≤ 20000) : callP (evalCall fns NN (d + 2)) 46 [.agg (LDc c l), I seat, I r] h = .ok (I (ringF c l seat r)) h :=
  callP_of (v := I (ringF c l seat r)) (h' := []) rfl rfl (by rw [call_eq rfl]; exact body_RRing _ c l seat r ht hs hl (fun h => p_RRings c l ht) (fun h n lo hi => p_in n lo hi) (fun h n h1 h2 => p_room n h1 h2)) rfl

/-- A cell of a seat's deque. -/
def dequeF (c : Cf) (l : Lf) (seat i : Int) : Int := plF l.deque c.seats 3 seat i
theorem body_Deque (ev : FuncId → List DV → Heap → Res DV) (c : Cf) (l : Lf) (seat i : Int) (q : ∀ h, callP ev 30 [I l.deque, I c.seats, I 3, I seat, I i] h = .ok (I (dequeF c l seat i)) h) :
    evalF ev NN ir34 [.agg (LDc c l), I seat, I i] [] = .ok (I (dequeF c l seat i)) [] := by
  simp -implicitDefEqProofs (disch := first | omega | (simp only [List.length_set, List.length_replicate]; omega)) only [ir34, q, wrap_i64, wrap_u64, wrap_u32, wrap_u16, wrap_u8, dec_t, dec_f, ite_t, ite_f, tmod_e, go_sem, Nat.reduceAdd, Nat.reduceMul, Nat.reduceSub, Nat.reduceLeDiff, Nat.reduceEqDiff, Nat.reduceBEq, Nat.reduceLT, Int.reduceLE, Int.reduceLT, Int.reduceEq, Int.reduceNeg, Int.reduceAdd, Int.reduceMul, Int.reduceSub, Int.reduceToNat, reduceCtorEq, ↓reduceIte]
theorem p_Deque (c : Cf) (l : Lf) (seat i : Int) (hs : 0 ≤ c.seats ∧ c.seats ≤ 8) (hl : 0 ≤ l.deque ∧ l.deque ≤ 20000) : callP (evalCall fns NN (d + 3)) 34 [.agg (LDc c l), I seat, I i] h = .ok (I (dequeF c l seat i)) h :=
  callP_of (v := I (dequeF c l seat i)) (h' := []) rfl rfl (by rw [call_eq rfl]; exact body_Deque _ c l seat i (fun h => p_place _ _ _ _ _ (by omega) (by omega) (by omega))) rfl
end Go.D.Layout
