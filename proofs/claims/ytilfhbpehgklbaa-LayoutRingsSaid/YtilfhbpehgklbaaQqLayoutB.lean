/- The laws LayoutMore and LayoutRings, in the evaluator. -/
import Derived.Test.YtilfhbpehgklbaaQqLayoutA
set_option linter.unusedSimpArgs false
set_option linter.unusedVariables false
namespace Go.D.Layout
open Go.D
set_option maxRecDepth 100000
set_option maxHeartbeats 2000000
variable {d : Nat} {h : Heap}

theorem lay_all {c : Cf} (ok : OkC c) : (0 ≤ (layF c).cell ∧ (layF c).cell ≤ 20000) ∧ (0 ≤ (layF c).map ∧ (layF c).map ≤ 20000) ∧ (0 ≤ (layF c).stack ∧ (layF c).stack ≤ 20000) ∧ (0 ≤ (layF c).chan ∧ (layF c).chan ≤ 20000) ∧ (0 ≤ (layF c).node ∧ (layF c).node ≤ 20000) ∧ (0 ≤ (layF c).size ∧ (layF c).size ≤ 20000) := by
  have h0 := ok.seats; have h1 := ok.tasks; have h2 := ok.cells; have h3 := map_bd ok.toMay; have h4 := stack_bd ok.toMay; have h5 := ok.chans; have h6 := ok.nodes; have h7 := ok.maps; have h8 := ring_bd ok.toMay
  simp only [layF]
  refine ⟨⟨?_, ?_⟩, ⟨?_, ?_⟩, ⟨?_, ?_⟩, ⟨?_, ?_⟩, ⟨?_, ?_⟩, ⟨?_, ?_⟩⟩ <;> omega

theorem body_More (ev : FuncId → List DV → Heap → Res DV) (ha : ∀ h, callP ev 9 [] h = .ok (B true) h) (c : Cf) (ok : OkC c) (c1 c2 c3 : Cf) (l l1 l2 l3 : Lf) (e1 e2 e3 : Int)
    (q0 : ∀ h, callP ev 13 [.agg (CDc c)] h = .ok (.tup [.agg (LDc c l), I 0]) h)
    (q1 : ∀ h, callP ev 13 [.agg (CDc { c with nodes := c.nodes + 1 })] h = .ok (.tup [.agg (LDc c1 l1), I e1]) h)
    (q2 : ∀ h, callP ev 13 [.agg (CDc { c with stacks := c.stacks + 1 })] h = .ok (.tup [.agg (LDc c2 l2), I e2]) h)
    (q3 : ∀ h, callP ev 13 [.agg (CDc { c with cells := c.cells + 1 })] h = .ok (.tup [.agg (LDc c3 l3), I e3]) h)
    (b1 : 0 ≤ l.size ∧ l.size ≤ 20000) (b2 : 0 ≤ l.chan ∧ l.chan ≤ 20000) (b3 : 0 ≤ l.map ∧ l.map ≤ 20000)
    (f1 : e1 = 0 → l1.node = l.node ∧ l1.size = l.size + 8)
    (f2 : e2 = 0 → l2.stack = l.stack ∧ l2.map = l.map ∧ l2.chan = l.chan + 1 + c.slots ∧ l2.size = l.size + 1 + c.slots)
    (f3 : e3 = 0 → l3.cell = l.cell ∧ l3.map = l.map + 1 ∧ l3.size = l.size + 1) :
    evalF ev NN ir5 [.agg (CDc c)] [] = .ok (B true) [] := by
  have k1 := ok.nodes
  have k2 := ok.stacks
  have k3 := ok.cells
  have k4 := ok.maps
  have k5 := ok.chans
  have k6 := ok.slots
  by_cases z1 : e1 = 0 <;> by_cases z2 : e2 = 0 <;> by_cases z3 : e3 = 0
  · have g1 := f1 z1; have g2 := f2 z2; have g3 := f3 z3
    simp -implicitDefEqProofs (disch := first | omega | (simp only [List.length_set, List.length_replicate]; omega)) only [ir5, ha, q0, q1, q2, q3, wrap_i64, wrap_u64, wrap_u32, wrap_u16, wrap_u8, dec_t, dec_f, ite_t, ite_f, tmod_e, go_sem, Nat.reduceAdd, Nat.reduceMul, Nat.reduceSub, Nat.reduceLeDiff, Nat.reduceEqDiff, Nat.reduceBEq, Nat.reduceLT, Int.reduceLE, Int.reduceLT, Int.reduceEq, Int.reduceNeg, Int.reduceAdd, Int.reduceMul, Int.reduceSub, Int.reduceToNat, reduceCtorEq, ↓reduceIte]
  · have g1 := f1 z1; have g2 := f2 z2
    simp -implicitDefEqProofs (disch := first | omega | (simp only [List.length_set, List.length_replicate]; omega)) only [ir5, ha, q0, q1, q2, q3, wrap_i64, wrap_u64, wrap_u32, wrap_u16, wrap_u8, dec_t, dec_f, ite_t, ite_f, tmod_e, go_sem, Nat.reduceAdd, Nat.reduceMul, Nat.reduceSub, Nat.reduceLeDiff, Nat.reduceEqDiff, Nat.reduceBEq, Nat.reduceLT, Int.reduceLE, Int.reduceLT, Int.reduceEq, Int.reduceNeg, Int.reduceAdd, Int.reduceMul, Int.reduceSub, Int.reduceToNat, reduceCtorEq, ↓reduceIte]
  · have g1 := f1 z1; have g3 := f3 z3
    simp -implicitDefEqProofs (disch := first | omega | (simp only [List.length_set, List.length_replicate]; omega)) only [ir5, ha, q0, q1, q2, q3, wrap_i64, wrap_u64, wrap_u32, wrap_u16, wrap_u8, dec_t, dec_f, ite_t, ite_f, tmod_e, go_sem, Nat.reduceAdd, Nat.reduceMul, Nat.reduceSub, Nat.reduceLeDiff, Nat.reduceEqDiff, Nat.reduceBEq, Nat.reduceLT, Int.reduceLE, Int.reduceLT, Int.reduceEq, Int.reduceNeg, Int.reduceAdd, Int.reduceMul, Int.reduceSub, Int.reduceToNat, reduceCtorEq, ↓reduceIte]
  · have g1 := f1 z1
    simp -implicitDefEqProofs (disch := first | omega | (simp only [List.length_set, List.length_replicate]; omega)) only [ir5, ha, q0, q1, q2, q3, wrap_i64, wrap_u64, wrap_u32, wrap_u16, wrap_u8, dec_t, dec_f, ite_t, ite_f, tmod_e, go_sem, Nat.reduceAdd, Nat.reduceMul, Nat.reduceSub, Nat.reduceLeDiff, Nat.reduceEqDiff, Nat.reduceBEq, Nat.reduceLT, Int.reduceLE, Int.reduceLT, Int.reduceEq, Int.reduceNeg, Int.reduceAdd, Int.reduceMul, Int.reduceSub, Int.reduceToNat, reduceCtorEq, ↓reduceIte]
  · have g2 := f2 z2; have g3 := f3 z3
    simp -implicitDefEqProofs (disch := first | omega | (simp only [List.length_set, List.length_replicate]; omega)) only [ir5, ha, q0, q1, q2, q3, wrap_i64, wrap_u64, wrap_u32, wrap_u16, wrap_u8, dec_t, dec_f, ite_t, ite_f, tmod_e, go_sem, Nat.reduceAdd, Nat.reduceMul, Nat.reduceSub, Nat.reduceLeDiff, Nat.reduceEqDiff, Nat.reduceBEq, Nat.reduceLT, Int.reduceLE, Int.reduceLT, Int.reduceEq, Int.reduceNeg, Int.reduceAdd, Int.reduceMul, Int.reduceSub, Int.reduceToNat, reduceCtorEq, ↓reduceIte]
  · have g2 := f2 z2
    simp -implicitDefEqProofs (disch := first | omega | (simp only [List.length_set, List.length_replicate]; omega)) only [ir5, ha, q0, q1, q2, q3, wrap_i64, wrap_u64, wrap_u32, wrap_u16, wrap_u8, dec_t, dec_f, ite_t, ite_f, tmod_e, go_sem, Nat.reduceAdd, Nat.reduceMul, Nat.reduceSub, Nat.reduceLeDiff, Nat.reduceEqDiff, Nat.reduceBEq, Nat.reduceLT, Int.reduceLE, Int.reduceLT, Int.reduceEq, Int.reduceNeg, Int.reduceAdd, Int.reduceMul, Int.reduceSub, Int.reduceToNat, reduceCtorEq, ↓reduceIte]
  · have g3 := f3 z3
    simp -implicitDefEqProofs (disch := first | omega | (simp only [List.length_set, List.length_replicate]; omega)) only [ir5, ha, q0, q1, q2, q3, wrap_i64, wrap_u64, wrap_u32, wrap_u16, wrap_u8, dec_t, dec_f, ite_t, ite_f, tmod_e, go_sem, Nat.reduceAdd, Nat.reduceMul, Nat.reduceSub, Nat.reduceLeDiff, Nat.reduceEqDiff, Nat.reduceBEq, Nat.reduceLT, Int.reduceLE, Int.reduceLT, Int.reduceEq, Int.reduceNeg, Int.reduceAdd, Int.reduceMul, Int.reduceSub, Int.reduceToNat, reduceCtorEq, ↓reduceIte]
  · simp -implicitDefEqProofs (disch := first | omega | (simp only [List.length_set, List.length_replicate]; omega)) only [ir5, ha, q0, q1, q2, q3, wrap_i64, wrap_u64, wrap_u32, wrap_u16, wrap_u8, dec_t, dec_f, ite_t, ite_f, tmod_e, go_sem, Nat.reduceAdd, Nat.reduceMul, Nat.reduceSub, Nat.reduceLeDiff, Nat.reduceEqDiff, Nat.reduceBEq, Nat.reduceLT, Int.reduceLE, Int.reduceLT, Int.reduceEq, Int.reduceNeg, Int.reduceAdd, Int.reduceMul, Int.reduceSub, Int.reduceToNat, reduceCtorEq, ↓reduceIte]
theorem body_More0 (ev : FuncId → List DV → Heap → Res DV) (ha : ∀ h, callP ev 9 [] h = .ok (B true) h) (c : Cf)
    (q0 : ∀ h, callP ev 13 [.agg (CDc c)] h = .ok (.tup [.agg (LDc zC zL), I 1]) h) :
    evalF ev NN ir5 [.agg (CDc c)] [] = .ok (B true) [] := by
  simp -implicitDefEqProofs (disch := first | omega | (simp only [List.length_set, List.length_replicate]; omega)) only [ir5, ha, q0, wrap_i64, wrap_u64, wrap_u32, wrap_u16, wrap_u8, dec_t, dec_f, ite_t, ite_f, tmod_e, go_sem, Nat.reduceAdd, Nat.reduceMul, Nat.reduceSub, Nat.reduceLeDiff, Nat.reduceEqDiff, Nat.reduceBEq, Nat.reduceLT, Int.reduceLE, Int.reduceLT, Int.reduceEq, Int.reduceNeg, Int.reduceAdd, Int.reduceMul, Int.reduceSub, Int.reduceToNat, reduceCtorEq, ↓reduceIte]

/-- What Of tells, in two parts. -/
theorem ofV_parts (c : Cf) : ∃ c' l' e, ofV c = .tup [.agg (LDc c' l'), I e] ∧ (e = 0 → OkC c ∧ l' = layF c) := by
  unfold ofV
  split
  · rename_i ok; exact ⟨c, layF c, 0, rfl, fun _ => ⟨ok, rfl⟩⟩
  · exact ⟨zC, zL, 1, rfl, fun h => by omega⟩
theorem law_More (d : Nat) (c : Cf) : evalCall fns NN (d + 11) 5 [.agg (CDc c)] [] = .ok (B true) [] := by
  rw [call_eq rfl]
  by_cases ok : OkC c
  · obtain ⟨c1, l1, e1, h1, g1⟩ := ofV_parts { c with nodes := c.nodes + 1 }
    obtain ⟨c2, l2, e2, h2, g2⟩ := ofV_parts { c with stacks := c.stacks + 1 }
    obtain ⟨c3, l3, e3, h3, g3⟩ := ofV_parts { c with cells := c.cells + 1 }
    have hb := lay_all ok
    refine body_More _ (fun h => p_shown) c ok c1 c2 c3 (layF c) l1 l2 l3 e1 e2 e3 (fun h => by rw [p_Of (d := d + 7), ofV, if_pos ok]) (fun h => by rw [p_Of (d := d + 7), h1]) (fun h => by rw [p_Of (d := d + 7), h2]) (fun h => by rw [p_Of (d := d + 7), h3])
      hb.2.2.2.2.2 hb.2.2.2.1 hb.2.1 (fun h => ?_) (fun h => ?_) (fun h => ?_)
    · rw [(g1 h).2]
      simp only [layF]
      exact ⟨trivial, by omega⟩
    · rw [(g2 h).2]
      simp only [layF]
      have : (c.stacks + 1) * (1 + c.slots) = c.stacks * (1 + c.slots) + (1 + c.slots) := by rw [Int.add_mul, Int.one_mul]
      exact ⟨trivial, trivial, by omega, by omega⟩
    · rw [(g3 h).2]
      simp only [layF]
      exact ⟨trivial, by omega, by omega⟩
  · exact body_More0 _ (fun h => p_shown) c (fun h => by rw [p_Of (d := d + 7), ofV, if_neg ok])

theorem body_LRings (ev : FuncId → List DV → Heap → Res DV) (ha : ∀ h, callP ev 9 [] h = .ok (B true) h) (c : Cf) (l : Lf) (ok : OkC c) (seat sv : Int) (hseat : 0 ≤ seat ∧ seat ≤ 255) (hsv : seat % c.seats = sv) (hsv2 : 0 ≤ sv ∧ sv < c.seats)
    (q1 : ∀ h, callP ev 10 [.agg (CDc c)] h = .ok (.tup [.agg (LDc c l), I 0]) h) (q2 : ∀ h, callP ev 14 [.agg (LDc c l)] h = .ok (I (rgF c.tasks)) h)
    (F : Int → Int → Int) (q3 : ∀ h s r, callP ev 15 [.agg (LDc c l), I s, I r] h = .ok (I (F s r)) h)
    (b : Int) (hb : 0 ≤ b ∧ b ≤ 100000) (f : ∀ r, 0 ≤ r → r ≤ rgF c.tasks - 1 → F sv r = b + 4 * (p2F r - 1)) (f2 : F sv (rgF c.tasks) = -1)
    (f3 : sv + 1 < c.seats → F (sv + 1) 0 = b + 4 * (pwF c.tasks - 1)) (f4 : ¬ sv + 1 < c.seats → l.task = b + 4 * (pwF c.tasks - 1)) :
    evalF ev NN ir6 [.agg (CDc c), U seat] [] = .ok (B true) [] := by
  have hs := ok.seats
  have p0 : p2F 0 = 1 := by decide
  have p1 : p2F 1 = 2 := by decide
  have p2 : p2F 2 = 4 := by decide
  have p3 : p2F 3 = 8 := by decide
  have p4 : p2F 4 = 16 := by decide
  have ht := ok.tasks
  unfold rgF at *
  unfold pwF at *
  by_cases c4 : c.tasks ≤ 4
  · simp only [if_pos c4] at q2 f f2 f3 f4
    have g0 := f 0 (by omega) (by omega)
    rw [p0] at g0
    by_cases hn : sv + 1 < c.seats
    · have f5 := f3 hn
      simp -implicitDefEqProofs (disch := first | omega | (simp only [List.length_set, List.length_replicate]; omega)) only [ir6, ir6_l0, NN_8, it1, ha, q1, q2, q3, hsv, g0, f2, f5, wrap_i64, wrap_u64, wrap_u32, wrap_u16, wrap_u8, dec_t, dec_f, ite_t, ite_f, tmod_e, go_sem, Nat.reduceAdd, Nat.reduceMul, Nat.reduceSub, Nat.reduceLeDiff, Nat.reduceEqDiff, Nat.reduceBEq, Nat.reduceLT, Int.reduceLE, Int.reduceLT, Int.reduceEq, Int.reduceNeg, Int.reduceAdd, Int.reduceMul, Int.reduceSub, Int.reduceToNat, reduceCtorEq, ↓reduceIte]
    · have f5 := f4 hn
      simp -implicitDefEqProofs (disch := first | omega | (simp only [List.length_set, List.length_replicate]; omega)) only [ir6, ir6_l0, NN_8, it1, ha, q1, q2, q3, hsv, g0, f2, f5, wrap_i64, wrap_u64, wrap_u32, wrap_u16, wrap_u8, dec_t, dec_f, ite_t, ite_f, tmod_e, go_sem, Nat.reduceAdd, Nat.reduceMul, Nat.reduceSub, Nat.reduceLeDiff, Nat.reduceEqDiff, Nat.reduceBEq, Nat.reduceLT, Int.reduceLE, Int.reduceLT, Int.reduceEq, Int.reduceNeg, Int.reduceAdd, Int.reduceMul, Int.reduceSub, Int.reduceToNat, reduceCtorEq, ↓reduceIte]
  by_cases c8 : c.tasks ≤ 8
  · simp only [if_neg c4, if_pos c8] at q2 f f2 f3 f4
    have g0 := f 0 (by omega) (by omega)
    have g1 := f 1 (by omega) (by omega)
    rw [p0] at g0
    rw [p1] at g1
    by_cases hn : sv + 1 < c.seats
    · have f5 := f3 hn
      simp -implicitDefEqProofs (disch := first | omega | (simp only [List.length_set, List.length_replicate]; omega)) only [ir6, ir6_l0, NN_8, it1, ha, q1, q2, q3, hsv, g0, g1, f2, f5, wrap_i64, wrap_u64, wrap_u32, wrap_u16, wrap_u8, dec_t, dec_f, ite_t, ite_f, tmod_e, go_sem, Nat.reduceAdd, Nat.reduceMul, Nat.reduceSub, Nat.reduceLeDiff, Nat.reduceEqDiff, Nat.reduceBEq, Nat.reduceLT, Int.reduceLE, Int.reduceLT, Int.reduceEq, Int.reduceNeg, Int.reduceAdd, Int.reduceMul, Int.reduceSub, Int.reduceToNat, reduceCtorEq, ↓reduceIte]
    · have f5 := f4 hn
      simp -implicitDefEqProofs (disch := first | omega | (simp only [List.length_set, List.length_replicate]; omega)) only [ir6, ir6_l0, NN_8, it1, ha, q1, q2, q3, hsv, g0, g1, f2, f5, wrap_i64, wrap_u64, wrap_u32, wrap_u16, wrap_u8, dec_t, dec_f, ite_t, ite_f, tmod_e, go_sem, Nat.reduceAdd, Nat.reduceMul, Nat.reduceSub, Nat.reduceLeDiff, Nat.reduceEqDiff, Nat.reduceBEq, Nat.reduceLT, Int.reduceLE, Int.reduceLT, Int.reduceEq, Int.reduceNeg, Int.reduceAdd, Int.reduceMul, Int.reduceSub, Int.reduceToNat, reduceCtorEq, ↓reduceIte]
  by_cases c16 : c.tasks ≤ 16
  · simp only [if_neg c4, if_neg c8, if_pos c16] at q2 f f2 f3 f4
    have g0 := f 0 (by omega) (by omega)
    have g1 := f 1 (by omega) (by omega)
    have g2 := f 2 (by omega) (by omega)
    rw [p0] at g0
    rw [p1] at g1
    rw [p2] at g2
    by_cases hn : sv + 1 < c.seats
    · have f5 := f3 hn
      simp -implicitDefEqProofs (disch := first | omega | (simp only [List.length_set, List.length_replicate]; omega)) only [ir6, ir6_l0, NN_8, it1, ha, q1, q2, q3, hsv, g0, g1, g2, f2, f5, wrap_i64, wrap_u64, wrap_u32, wrap_u16, wrap_u8, dec_t, dec_f, ite_t, ite_f, tmod_e, go_sem, Nat.reduceAdd, Nat.reduceMul, Nat.reduceSub, Nat.reduceLeDiff, Nat.reduceEqDiff, Nat.reduceBEq, Nat.reduceLT, Int.reduceLE, Int.reduceLT, Int.reduceEq, Int.reduceNeg, Int.reduceAdd, Int.reduceMul, Int.reduceSub, Int.reduceToNat, reduceCtorEq, ↓reduceIte]
    · have f5 := f4 hn
      simp -implicitDefEqProofs (disch := first | omega | (simp only [List.length_set, List.length_replicate]; omega)) only [ir6, ir6_l0, NN_8, it1, ha, q1, q2, q3, hsv, g0, g1, g2, f2, f5, wrap_i64, wrap_u64, wrap_u32, wrap_u16, wrap_u8, dec_t, dec_f, ite_t, ite_f, tmod_e, go_sem, Nat.reduceAdd, Nat.reduceMul, Nat.reduceSub, Nat.reduceLeDiff, Nat.reduceEqDiff, Nat.reduceBEq, Nat.reduceLT, Int.reduceLE, Int.reduceLT, Int.reduceEq, Int.reduceNeg, Int.reduceAdd, Int.reduceMul, Int.reduceSub, Int.reduceToNat, reduceCtorEq, ↓reduceIte]
  by_cases c32 : c.tasks ≤ 32
  · simp only [if_neg c4, if_neg c8, if_neg c16, if_pos c32] at q2 f f2 f3 f4
    have g0 := f 0 (by omega) (by omega)
    have g1 := f 1 (by omega) (by omega)
    have g2 := f 2 (by omega) (by omega)
    have g3 := f 3 (by omega) (by omega)
    rw [p0] at g0
    rw [p1] at g1
    rw [p2] at g2
    rw [p3] at g3
    by_cases hn : sv + 1 < c.seats
    · have f5 := f3 hn
      simp -implicitDefEqProofs (disch := first | omega | (simp only [List.length_set, List.length_replicate]; omega)) only [ir6, ir6_l0, NN_8, it1, ha, q1, q2, q3, hsv, g0, g1, g2, g3, f2, f5, wrap_i64, wrap_u64, wrap_u32, wrap_u16, wrap_u8, dec_t, dec_f, ite_t, ite_f, tmod_e, go_sem, Nat.reduceAdd, Nat.reduceMul, Nat.reduceSub, Nat.reduceLeDiff, Nat.reduceEqDiff, Nat.reduceBEq, Nat.reduceLT, Int.reduceLE, Int.reduceLT, Int.reduceEq, Int.reduceNeg, Int.reduceAdd, Int.reduceMul, Int.reduceSub, Int.reduceToNat, reduceCtorEq, ↓reduceIte]
    · have f5 := f4 hn
      simp -implicitDefEqProofs (disch := first | omega | (simp only [List.length_set, List.length_replicate]; omega)) only [ir6, ir6_l0, NN_8, it1, ha, q1, q2, q3, hsv, g0, g1, g2, g3, f2, f5, wrap_i64, wrap_u64, wrap_u32, wrap_u16, wrap_u8, dec_t, dec_f, ite_t, ite_f, tmod_e, go_sem, Nat.reduceAdd, Nat.reduceMul, Nat.reduceSub, Nat.reduceLeDiff, Nat.reduceEqDiff, Nat.reduceBEq, Nat.reduceLT, Int.reduceLE, Int.reduceLT, Int.reduceEq, Int.reduceNeg, Int.reduceAdd, Int.reduceMul, Int.reduceSub, Int.reduceToNat, reduceCtorEq, ↓reduceIte]
  · simp only [if_neg c4, if_neg c8, if_neg c16, if_neg c32] at q2 f f2 f3 f4
    have g0 := f 0 (by omega) (by omega)
    have g1 := f 1 (by omega) (by omega)
    have g2 := f 2 (by omega) (by omega)
    have g3 := f 3 (by omega) (by omega)
    have g4 := f 4 (by omega) (by omega)
    rw [p0] at g0
    rw [p1] at g1
    rw [p2] at g2
    rw [p3] at g3
    rw [p4] at g4
    by_cases hn : sv + 1 < c.seats
    · have f5 := f3 hn
      simp -implicitDefEqProofs (disch := first | omega | (simp only [List.length_set, List.length_replicate]; omega)) only [ir6, ir6_l0, NN_8, it1, ha, q1, q2, q3, hsv, g0, g1, g2, g3, g4, f2, f5, wrap_i64, wrap_u64, wrap_u32, wrap_u16, wrap_u8, dec_t, dec_f, ite_t, ite_f, tmod_e, go_sem, Nat.reduceAdd, Nat.reduceMul, Nat.reduceSub, Nat.reduceLeDiff, Nat.reduceEqDiff, Nat.reduceBEq, Nat.reduceLT, Int.reduceLE, Int.reduceLT, Int.reduceEq, Int.reduceNeg, Int.reduceAdd, Int.reduceMul, Int.reduceSub, Int.reduceToNat, reduceCtorEq, ↓reduceIte]
    · have f5 := f4 hn
      simp -implicitDefEqProofs (disch := first | omega | (simp only [List.length_set, List.length_replicate]; omega)) only [ir6, ir6_l0, NN_8, it1, ha, q1, q2, q3, hsv, g0, g1, g2, g3, g4, f2, f5, wrap_i64, wrap_u64, wrap_u32, wrap_u16, wrap_u8, dec_t, dec_f, ite_t, ite_f, tmod_e, go_sem, Nat.reduceAdd, Nat.reduceMul, Nat.reduceSub, Nat.reduceLeDiff, Nat.reduceEqDiff, Nat.reduceBEq, Nat.reduceLT, Int.reduceLE, Int.reduceLT, Int.reduceEq, Int.reduceNeg, Int.reduceAdd, Int.reduceMul, Int.reduceSub, Int.reduceToNat, reduceCtorEq, ↓reduceIte]
theorem body_LRings0 (ev : FuncId → List DV → Heap → Res DV) (ha : ∀ h, callP ev 9 [] h = .ok (B true) h) (c : Cf) (seat : Int)
    (q0 : ∀ h, callP ev 10 [.agg (CDc c)] h = .ok (.tup [.agg (LDc zC zL), I 1]) h) :
    evalF ev NN ir6 [.agg (CDc c), U seat] [] = .ok (B true) [] := by
  simp -implicitDefEqProofs (disch := first | omega | (simp only [List.length_set, List.length_replicate]; omega)) only [ir6, ha, q0, wrap_i64, wrap_u64, wrap_u32, wrap_u16, wrap_u8, dec_t, dec_f, ite_t, ite_f, tmod_e, go_sem, Nat.reduceAdd, Nat.reduceMul, Nat.reduceSub, Nat.reduceLeDiff, Nat.reduceEqDiff, Nat.reduceBEq, Nat.reduceLT, Int.reduceLE, Int.reduceLT, Int.reduceEq, Int.reduceNeg, Int.reduceAdd, Int.reduceMul, Int.reduceSub, Int.reduceToNat, reduceCtorEq, ↓reduceIte]
theorem law_LRings (d : Nat) (c : Cf) (seat : Int) (hseat : 0 ≤ seat ∧ seat ≤ 255) : evalCall fns NN (d + 11) 6 [.agg (CDc c), U seat] [] = .ok (B true) [] := by
  rw [call_eq rfl]
  by_cases ok : OkC c
  · have hs := ok.seats
    have hr0 : 0 ≤ (layF c).ring ∧ (layF c).ring ≤ 20000 := by simp only [layF]; omega
    have hsm : 0 ≤ seat % c.seats ∧ seat % c.seats < c.seats := ⟨Int.emod_nonneg _ (by omega), Int.emod_lt_of_pos _ (by omega)⟩
    have hpw := pw_bd c.tasks
    have hrg := rg_bd c.tasks
    have hrb := ring_bd ok.toMay
    have key : ∀ x : Int, 0 ≤ x → x ≤ c.seats - 1 → ∀ r, 0 ≤ r → r ≤ rgF c.tasks - 1 → ringF c (layF c) x r = (layF c).ring + x * (4 * (pwF c.tasks - 1)) + 4 * (p2F r - 1) := fun x h0 h1 r h2 h3 => by
      unfold ringF; rw [if_pos ⟨⟨h0, h1⟩, h2, h3⟩]
    have hx : seat % c.seats * (4 * (pwF c.tasks - 1)) ≤ c.seats * (4 * (pwF c.tasks - 1)) := Int.mul_le_mul_of_nonneg_right (by omega) (by omega)
    have hx0 : 0 ≤ seat % c.seats * (4 * (pwF c.tasks - 1)) := Int.mul_nonneg hsm.1 (by omega)
    have hx1 : (seat % c.seats + 1) * (4 * (pwF c.tasks - 1)) = seat % c.seats * (4 * (pwF c.tasks - 1)) + 4 * (pwF c.tasks - 1) := by rw [Int.add_mul, Int.one_mul]
    have p0 : p2F 0 = 1 := by decide
    refine body_LRings _ (fun h => p_shown) c (layF c) ok seat (seat % c.seats) hseat rfl hsm (fun h => by rw [p_ROf (d := d + 7), ofV, if_pos ok]) (fun h => p_Rings (d := d + 8) c _ ok.tasks.2) (ringF c (layF c))
      (fun h s r => p_Ring (d := d + 7) c _ s r ok.tasks.2 (by omega) hr0) ((layF c).ring + seat % c.seats * (4 * (pwF c.tasks - 1))) (by omega) (fun r h0 h1 => key _ hsm.1 (by omega) r h0 h1) ?_ (fun hn => ?_) (fun hn => ?_)
    · unfold ringF; rw [if_neg (fun h => by omega)]
    · rw [key _ (by omega) (by omega) 0 (by omega) (by omega), p0, hx1]; omega
    · have ht : (layF c).task = (layF c).ring + c.seats * (4 * (pwF c.tasks - 1)) := rfl
      have e : c.seats = seat % c.seats + 1 := by omega
      rw [ht]
      rw [show c.seats * (4 * (pwF c.tasks - 1)) = (seat % c.seats + 1) * (4 * (pwF c.tasks - 1)) by rw [← e], hx1]; omega
  · exact body_LRings0 _ (fun h => p_shown) c seat (fun h => by rw [p_ROf (d := d + 7), ofV, if_neg ok])
end Go.D.Layout
