/- The reference's layouts; which layouts are right; the law LayoutRight, in the evaluator. -/
import Derived.Test.YtilfhbpehgklbaaQqLayoutL2
import Derived.KernelRfl
set_option linter.unusedSimpArgs false
set_option linter.unusedVariables false
namespace Go.D.Layout
open Go.D
set_option maxRecDepth 100000
set_option maxHeartbeats 2000000
variable {d : Nat} {h : Heap}

theorem e_shown : ∀ d, evalCall fns NN (d + 10) 9 [] [] = .ok (B true) [] := fun d => by kernel_rfl
theorem p_shown : callP (evalCall fns NN (d + 10)) 9 [] h = .ok (B true) h := callP_of (v := B true) rfl rfl (e_shown d) rfl

theorem body_Rmay (ev : FuncId → List DV → Heap → Res DV) (q : ∀ h n lo hi, callP ev 23 [I n, I lo, I hi] h = .ok (B (decide (lo ≤ n ∧ n ≤ hi))) h) (c : Cf) :
    evalF ev NN ir22 [.agg (CDc c)] [] = .ok (B (decide (May c))) [] := by
  have l0 : iter (evalC ev NN ir22_l0) NN ⟨[.agg (CDc c), .box (CDc c), B false, .junk, .junk, I 1, B false], [], []⟩ =
      .exit 0 ⟨[.agg (CDc c), .box (CDc c), B false, B false, .junk, I 128, B (decide (Two6 c.buckets))], [], []⟩ := by
    by_cases h2 : Two6 c.buckets
    · rw [decide_eq_true h2]
      rcases h2 with e | e | e | e | e | e | e <;> simp -implicitDefEqProofs (disch := first | omega | (simp only [List.length_set, List.length_replicate]; omega)) only [ir22_l0, NN_8, it1, wrap_i64, wrap_u64, wrap_u32, wrap_u16, wrap_u8, dec_t, dec_f, ite_t, ite_f, tmod_e, go_sem, Nat.reduceAdd, Nat.reduceMul, Nat.reduceSub, Nat.reduceLeDiff, Nat.reduceEqDiff, Nat.reduceBEq, Nat.reduceLT, Int.reduceLE, Int.reduceLT, Int.reduceEq, Int.reduceNeg, Int.reduceAdd, Int.reduceMul, Int.reduceSub, Int.reduceToNat, reduceCtorEq, ↓reduceIte]
    · rw [decide_eq_false h2]
      unfold Two6 at h2
      simp -implicitDefEqProofs (disch := first | omega | (simp only [List.length_set, List.length_replicate]; omega)) only [ir22_l0, NN_8, it1, wrap_i64, wrap_u64, wrap_u32, wrap_u16, wrap_u8, dec_t, dec_f, ite_t, ite_f, tmod_e, go_sem, Nat.reduceAdd, Nat.reduceMul, Nat.reduceSub, Nat.reduceLeDiff, Nat.reduceEqDiff, Nat.reduceBEq, Nat.reduceLT, Int.reduceLE, Int.reduceLT, Int.reduceEq, Int.reduceNeg, Int.reduceAdd, Int.reduceMul, Int.reduceSub, Int.reduceToNat, reduceCtorEq, ↓reduceIte]
  by_cases h2 : Two6 c.buckets
  · rw [decide_eq_true h2] at l0
    by_cases c1 : 1 ≤ c.seats ∧ c.seats ≤ 8
    · by_cases c2 : 1 ≤ c.slots ∧ c.slots ≤ 8
      · by_cases c3 : 1 ≤ c.tasks ∧ c.tasks ≤ 64
        · by_cases c4 : 0 ≤ c.cells ∧ c.cells ≤ 16
          · by_cases c5 : 0 ≤ c.maps ∧ c.maps ≤ 8
            · by_cases c6 : 0 ≤ c.stacks ∧ c.stacks ≤ 8
              · by_cases c7 : 0 ≤ c.chans ∧ c.chans ≤ 8
                · have hm : May c := ⟨c1, by unfold Two6 at h2; omega, c2, c3, c4, c5, c6, c7, h2⟩
                  rw [decide_eq_true hm]
                  simp -implicitDefEqProofs (disch := first | omega | (simp only [List.length_set, List.length_replicate]; omega)) only [ir22, l0, q, wrap_i64, wrap_u64, wrap_u32, wrap_u16, wrap_u8, dec_t, dec_f, ite_t, ite_f, tmod_e, go_sem, Nat.reduceAdd, Nat.reduceMul, Nat.reduceSub, Nat.reduceLeDiff, Nat.reduceEqDiff, Nat.reduceBEq, Nat.reduceLT, Int.reduceLE, Int.reduceLT, Int.reduceEq, Int.reduceNeg, Int.reduceAdd, Int.reduceMul, Int.reduceSub, Int.reduceToNat, reduceCtorEq, ↓reduceIte]
                · rw [decide_eq_false (fun hm => c7 hm.chans)]
                  simp -implicitDefEqProofs (disch := first | omega | (simp only [List.length_set, List.length_replicate]; omega)) only [ir22, l0, q, wrap_i64, wrap_u64, wrap_u32, wrap_u16, wrap_u8, dec_t, dec_f, ite_t, ite_f, tmod_e, go_sem, Nat.reduceAdd, Nat.reduceMul, Nat.reduceSub, Nat.reduceLeDiff, Nat.reduceEqDiff, Nat.reduceBEq, Nat.reduceLT, Int.reduceLE, Int.reduceLT, Int.reduceEq, Int.reduceNeg, Int.reduceAdd, Int.reduceMul, Int.reduceSub, Int.reduceToNat, reduceCtorEq, ↓reduceIte]
              · rw [decide_eq_false (fun hm => c6 hm.stacks)]
                simp -implicitDefEqProofs (disch := first | omega | (simp only [List.length_set, List.length_replicate]; omega)) only [ir22, l0, q, wrap_i64, wrap_u64, wrap_u32, wrap_u16, wrap_u8, dec_t, dec_f, ite_t, ite_f, tmod_e, go_sem, Nat.reduceAdd, Nat.reduceMul, Nat.reduceSub, Nat.reduceLeDiff, Nat.reduceEqDiff, Nat.reduceBEq, Nat.reduceLT, Int.reduceLE, Int.reduceLT, Int.reduceEq, Int.reduceNeg, Int.reduceAdd, Int.reduceMul, Int.reduceSub, Int.reduceToNat, reduceCtorEq, ↓reduceIte]
            · rw [decide_eq_false (fun hm => c5 hm.maps)]
              simp -implicitDefEqProofs (disch := first | omega | (simp only [List.length_set, List.length_replicate]; omega)) only [ir22, l0, q, wrap_i64, wrap_u64, wrap_u32, wrap_u16, wrap_u8, dec_t, dec_f, ite_t, ite_f, tmod_e, go_sem, Nat.reduceAdd, Nat.reduceMul, Nat.reduceSub, Nat.reduceLeDiff, Nat.reduceEqDiff, Nat.reduceBEq, Nat.reduceLT, Int.reduceLE, Int.reduceLT, Int.reduceEq, Int.reduceNeg, Int.reduceAdd, Int.reduceMul, Int.reduceSub, Int.reduceToNat, reduceCtorEq, ↓reduceIte]
          · rw [decide_eq_false (fun hm => c4 hm.cells)]
            simp -implicitDefEqProofs (disch := first | omega | (simp only [List.length_set, List.length_replicate]; omega)) only [ir22, l0, q, wrap_i64, wrap_u64, wrap_u32, wrap_u16, wrap_u8, dec_t, dec_f, ite_t, ite_f, tmod_e, go_sem, Nat.reduceAdd, Nat.reduceMul, Nat.reduceSub, Nat.reduceLeDiff, Nat.reduceEqDiff, Nat.reduceBEq, Nat.reduceLT, Int.reduceLE, Int.reduceLT, Int.reduceEq, Int.reduceNeg, Int.reduceAdd, Int.reduceMul, Int.reduceSub, Int.reduceToNat, reduceCtorEq, ↓reduceIte]
        · rw [decide_eq_false (fun hm => c3 hm.tasks)]
          simp -implicitDefEqProofs (disch := first | omega | (simp only [List.length_set, List.length_replicate]; omega)) only [ir22, l0, q, wrap_i64, wrap_u64, wrap_u32, wrap_u16, wrap_u8, dec_t, dec_f, ite_t, ite_f, tmod_e, go_sem, Nat.reduceAdd, Nat.reduceMul, Nat.reduceSub, Nat.reduceLeDiff, Nat.reduceEqDiff, Nat.reduceBEq, Nat.reduceLT, Int.reduceLE, Int.reduceLT, Int.reduceEq, Int.reduceNeg, Int.reduceAdd, Int.reduceMul, Int.reduceSub, Int.reduceToNat, reduceCtorEq, ↓reduceIte]
      · rw [decide_eq_false (fun hm => c2 hm.slots)]
        simp -implicitDefEqProofs (disch := first | omega | (simp only [List.length_set, List.length_replicate]; omega)) only [ir22, l0, q, wrap_i64, wrap_u64, wrap_u32, wrap_u16, wrap_u8, dec_t, dec_f, ite_t, ite_f, tmod_e, go_sem, Nat.reduceAdd, Nat.reduceMul, Nat.reduceSub, Nat.reduceLeDiff, Nat.reduceEqDiff, Nat.reduceBEq, Nat.reduceLT, Int.reduceLE, Int.reduceLT, Int.reduceEq, Int.reduceNeg, Int.reduceAdd, Int.reduceMul, Int.reduceSub, Int.reduceToNat, reduceCtorEq, ↓reduceIte]
    · rw [decide_eq_false (fun hm => c1 hm.seats)]
      simp -implicitDefEqProofs (disch := first | omega | (simp only [List.length_set, List.length_replicate]; omega)) only [ir22, l0, q, wrap_i64, wrap_u64, wrap_u32, wrap_u16, wrap_u8, dec_t, dec_f, ite_t, ite_f, tmod_e, go_sem, Nat.reduceAdd, Nat.reduceMul, Nat.reduceSub, Nat.reduceLeDiff, Nat.reduceEqDiff, Nat.reduceBEq, Nat.reduceLT, Int.reduceLE, Int.reduceLT, Int.reduceEq, Int.reduceNeg, Int.reduceAdd, Int.reduceMul, Int.reduceSub, Int.reduceToNat, reduceCtorEq, ↓reduceIte]
  · rw [decide_eq_false h2] at l0
    rw [decide_eq_false (fun hm => h2 hm.two)]
    simp -implicitDefEqProofs (disch := first | omega | (simp only [List.length_set, List.length_replicate]; omega)) only [ir22, l0, q, wrap_i64, wrap_u64, wrap_u32, wrap_u16, wrap_u8, dec_t, dec_f, ite_t, ite_f, tmod_e, go_sem, Nat.reduceAdd, Nat.reduceMul, Nat.reduceSub, Nat.reduceLeDiff, Nat.reduceEqDiff, Nat.reduceBEq, Nat.reduceLT, Int.reduceLE, Int.reduceLT, Int.reduceEq, Int.reduceNeg, Int.reduceAdd, Int.reduceMul, Int.reduceSub, Int.reduceToNat, reduceCtorEq, ↓reduceIte]
theorem p_Rmay (c : Cf) : callP (evalCall fns NN (d + 2)) 22 [.agg (CDc c)] h = .ok (B (decide (May c))) h :=
  callP_of (v := B (decide (May c))) (h' := []) rfl rfl (by rw [call_eq rfl]; exact body_Rmay _ (fun h n lo hi => p_in n lo hi) c) rfl

theorem body_ROf (ev : FuncId → List DV → Heap → Res DV) (c : Cf)
    (q1 : ∀ h, callP ev 22 [.agg (CDc c)] h = .ok (B (decide (May c))) h)
    (q2 : ∀ h n lo hi, callP ev 23 [I n, I lo, I hi] h = .ok (B (decide (lo ≤ n ∧ n ≤ hi))) h)
    (q3 : ∀ h l, c.tasks ≤ 64 → callP ev 16 [.agg (LDc c l)] h = .ok (I (rgF c.tasks)) h)
    (q4 : ∀ h n, 0 ≤ n → n ≤ 5 → callP ev 24 [I n] h = .ok (I (4 * (p2F n - 1))) h) :
    evalF ev NN ir10 [.agg (CDc c)] [] = .ok (ofV c) [] := by
  unfold ofV
  by_cases hm : May c
  · have hmp := hm.maps
    have hch := hm.chans
    by_cases hn : c.maps + c.chans ≤ c.nodes ∧ c.nodes ≤ 1000
    · have ok : OkC c := { hm with nodes := hn }
      rw [if_pos ok]
      have hs := hm.seats
      have ht := hm.tasks
      have hc := hm.cells
      have b1 := ring_bd hm
      have b2 := map_bd hm
      have b3 := stack_bd hm
      have hst := hm.stacks
      have hbk := hm.buckets
      have hsl := hm.slots
      have rb := rg_bd c.tasks
      have p3 := fun h l => q3 h l ht.2
      have p4 := fun h => q4 h (rgF c.tasks) (by omega) (by omega)
      rw [p2_rg] at p4
      have e1 : c.maps * (c.buckets + 2) = c.maps * (2 + c.buckets) := by rw [Int.add_comm]
      have e2 : c.stacks * (c.slots + 1) = c.stacks * (1 + c.slots) := by rw [Int.add_comm c.slots]
      simp -implicitDefEqProofs (disch := first | omega | (simp only [List.length_set, List.length_replicate]; omega)) only [ir10, q1, q2, p3, p4, e1, e2, hm, wrap_i64, wrap_u64, wrap_u32, wrap_u16, wrap_u8, dec_t, dec_f, ite_t, ite_f, tmod_e, go_sem, Nat.reduceAdd, Nat.reduceMul, Nat.reduceSub, Nat.reduceLeDiff, Nat.reduceEqDiff, Nat.reduceBEq, Nat.reduceLT, Int.reduceLE, Int.reduceLT, Int.reduceEq, Int.reduceNeg, Int.reduceAdd, Int.reduceMul, Int.reduceSub, Int.reduceToNat, reduceCtorEq, ↓reduceIte]
      rfl
    · rw [if_neg (fun h => hn h.nodes)]
      simp -implicitDefEqProofs (disch := first | omega | (simp only [List.length_set, List.length_replicate]; omega)) only [ir10, q1, q2, hm, wrap_i64, wrap_u64, wrap_u32, wrap_u16, wrap_u8, dec_t, dec_f, ite_t, ite_f, tmod_e, go_sem, Nat.reduceAdd, Nat.reduceMul, Nat.reduceSub, Nat.reduceLeDiff, Nat.reduceEqDiff, Nat.reduceBEq, Nat.reduceLT, Int.reduceLE, Int.reduceLT, Int.reduceEq, Int.reduceNeg, Int.reduceAdd, Int.reduceMul, Int.reduceSub, Int.reduceToNat, reduceCtorEq, ↓reduceIte]
      rfl
  · rw [if_neg (fun h => hm h.toMay)]
    simp -implicitDefEqProofs (disch := first | omega | (simp only [List.length_set, List.length_replicate]; omega)) only [ir10, q1, q2, hm, wrap_i64, wrap_u64, wrap_u32, wrap_u16, wrap_u8, dec_t, dec_f, ite_t, ite_f, tmod_e, go_sem, Nat.reduceAdd, Nat.reduceMul, Nat.reduceSub, Nat.reduceLeDiff, Nat.reduceEqDiff, Nat.reduceBEq, Nat.reduceLT, Int.reduceLE, Int.reduceLT, Int.reduceEq, Int.reduceNeg, Int.reduceAdd, Int.reduceMul, Int.reduceSub, Int.reduceToNat, reduceCtorEq, ↓reduceIte]
    rfl
theorem p_ROf (c : Cf) : callP (evalCall fns NN (d + 3)) 10 [.agg (CDc c)] h = .ok (ofV c) h := by
  have hv := ofV_look c []
  have q := callP_of (ev := evalCall fns NN (d + 3)) (h := h) (f := 10) (args := [.agg (CDc c)]) (v := ofV c) (h' := []) rfl rfl
    (by rw [call_eq rfl]; exact body_ROf _ c (fun h => p_Rmay c) (fun h n lo hi => p_in (d := d + 1) n lo hi) (fun h l ht => p_RRings (d := d + 1) c l ht) (fun h n h0 h1 => p_room (d := d + 1) n h0 h1)) (by rw [hv.1]; exact hv.2)
  rw [q, hv.1]

/-- Is a layout right? -/
def rightB (c : Cf) (l : Lf) : Bool := decide (OkC c ∧ layF c = l)
theorem body_Right (ev : FuncId → List DV → Heap → Res DV) (c : Cf) (l : Lf) (q : ∀ h, callP ev 13 [.agg (CDc c)] h = .ok (ofV c) h) :
    evalF ev NN ir11 [.agg (LDc c l)] [] = .ok (B (rightB c l)) [] := by
  unfold rightB
  unfold ofV at q
  by_cases ok : OkC c
  · simp only [if_pos ok] at q
    by_cases hl : layF c = l
    · have e : decide (OkC c ∧ layF c = l) = true := decide_eq_true ⟨ok, hl⟩
      rw [e]
      simp -implicitDefEqProofs (disch := first | omega | (simp only [List.length_set, List.length_replicate]; omega)) only [ir11, q, hl, wrap_i64, wrap_u64, wrap_u32, wrap_u16, wrap_u8, dec_t, dec_f, ite_t, ite_f, tmod_e, go_sem, Nat.reduceAdd, Nat.reduceMul, Nat.reduceSub, Nat.reduceLeDiff, Nat.reduceEqDiff, Nat.reduceBEq, Nat.reduceLT, Int.reduceLE, Int.reduceLT, Int.reduceEq, Int.reduceNeg, Int.reduceAdd, Int.reduceMul, Int.reduceSub, Int.reduceToNat, reduceCtorEq, ↓reduceIte]
    · have e : decide (OkC c ∧ layF c = l) = false := decide_eq_false (fun h => hl h.2)
      rw [e]
      simp -implicitDefEqProofs (disch := first | omega | (simp only [List.length_set, List.length_replicate]; omega)) only [ir11, q, hl, wrap_i64, wrap_u64, wrap_u32, wrap_u16, wrap_u8, dec_t, dec_f, ite_t, ite_f, tmod_e, go_sem, Nat.reduceAdd, Nat.reduceMul, Nat.reduceSub, Nat.reduceLeDiff, Nat.reduceEqDiff, Nat.reduceBEq, Nat.reduceLT, Int.reduceLE, Int.reduceLT, Int.reduceEq, Int.reduceNeg, Int.reduceAdd, Int.reduceMul, Int.reduceSub, Int.reduceToNat, reduceCtorEq, ↓reduceIte]
  · simp only [if_neg ok] at q
    have e : decide (OkC c ∧ layF c = l) = false := decide_eq_false (fun h => ok h.1)
    rw [e]
    simp -implicitDefEqProofs (disch := first | omega | (simp only [List.length_set, List.length_replicate]; omega)) only [ir11, q, wrap_i64, wrap_u64, wrap_u32, wrap_u16, wrap_u8, dec_t, dec_f, ite_t, ite_f, tmod_e, go_sem, Nat.reduceAdd, Nat.reduceMul, Nat.reduceSub, Nat.reduceLeDiff, Nat.reduceEqDiff, Nat.reduceBEq, Nat.reduceLT, Int.reduceLE, Int.reduceLT, Int.reduceEq, Int.reduceNeg, Int.reduceAdd, Int.reduceMul, Int.reduceSub, Int.reduceToNat, reduceCtorEq, ↓reduceIte]
theorem p_Right (c : Cf) (l : Lf) : callP (evalCall fns NN (d + 4)) 11 [.agg (LDc c l)] h = .ok (B (rightB c l)) h :=
  callP_of (v := B (rightB c l)) (h' := []) rfl rfl (by rw [call_eq rfl]; exact body_Right _ c l (fun h => p_Of c)) rfl

theorem wrap_ne {x y : Int} (hx : inI x) (hy : inI y) (h : ¬ y = 0) : IntKind.i64.wrap (x + y) ≠ x := by
  obtain ⟨x1, x2⟩ := hx
  obtain ⟨y1, y2⟩ := hy
  simp only [IntKind.wrap, IntKind.signed, IntKind.bits, Bool.true_and, ge_iff_le, decide_eq_true_eq]
  split <;> omega

theorem lay_size {c : Cf} (ok : OkC c) : 0 ≤ (layF c).size ∧ (layF c).size ≤ 20000 := by
  have h0 := ok.seats; have h1 := ok.tasks; have h2 := ok.cells; have h3 := map_bd ok.toMay; have h4 := stack_bd ok.toMay; have h5 := ok.chans; have h6 := ok.nodes; have h7 := ok.maps; have h8 := ring_bd ok.toMay
  simp only [layF]; omega

theorem body_LRight (ev : FuncId → List DV → Heap → Res DV) (ha : ∀ h, callP ev 9 [] h = .ok (B true) h) (c : Cf) (t b : Int) (ht : 0 ≤ t ∧ t ≤ 255) (hb : inI b)
    (q1 : ∀ h, callP ev 10 [.agg (CDc c)] h = .ok (ofV c) h) (q2 : ∀ h c l, callP ev 11 [.agg (LDc c l)] h = .ok (B (rightB c l)) h) :
    evalF ev NN ir3 [.agg (CDc c), U t, I b] [] = .ok (B true) [] := by
  unfold ofV at q1
  have zz : setCells (LDc ⟨0, 0, 0, 0, 0, 0, 0, 0, 0⟩ ⟨0, 0, 0, 0, 0, 0, 0, 0, 0, 0, 0, 0, 0, 0, 0, 0⟩) 0 (CDc c) = LDc c zL := rfl
  by_cases ok : OkC c
  · simp only [if_pos ok] at q1
    by_cases b0 : b = 0
    · simp -implicitDefEqProofs (disch := first | omega | (simp only [List.length_set, List.length_replicate]; omega)) only [ir3, ha, q1, q2, b0, wrap_i64, wrap_u64, wrap_u32, wrap_u16, wrap_u8, dec_t, dec_f, ite_t, ite_f, tmod_e, go_sem, Nat.reduceAdd, Nat.reduceMul, Nat.reduceSub, Nat.reduceLeDiff, Nat.reduceEqDiff, Nat.reduceBEq, Nat.reduceLT, Int.reduceLE, Int.reduceLT, Int.reduceEq, Int.reduceNeg, Int.reduceAdd, Int.reduceMul, Int.reduceSub, Int.reduceToNat, reduceCtorEq, ↓reduceIte]
    · have r0 : rightB c (layF c) = true := decide_eq_true ⟨ok, rfl⟩
      have hsz := lay_size ok
      have key : ∀ l : Lf, layF c ≠ l → rightB c l = false := fun l hl => decide_eq_false (fun h => hl h.2)
      have h6 : t % 6 = 0 ∨ t % 6 = 1 ∨ t % 6 = 2 ∨ t % 6 = 3 ∨ t % 6 = 4 ∨ t % 6 = 5 := by omega
      have hbd : 0 ≤ (layF c).ring ∧ (layF c).ring ≤ 20000 ∧ 0 ≤ (layF c).node ∧ (layF c).node ≤ 20000 ∧ 0 ≤ (layF c).map ∧ (layF c).map ≤ 20000 ∧ (layF c).done = 0 := by
        have h0 := ok.seats; have h1 := ok.tasks; have h2 := ok.cells; have h3 := map_bd ok.toMay; have h4 := stack_bd ok.toMay; have h5 := ok.chans; have h6 := ok.nodes; have h7 := ok.maps; have h8 := ring_bd ok.toMay
        simp only [layF, and_true]; omega
      obtain ⟨k1, k2, k3, k4, k5, k6, k7⟩ := hbd
      rcases h6 with e | e | e | e | e | e
      · have r1 := key { layF c with ring := IntKind.i64.wrap ((layF c).ring + b) } (fun h => wrap_ne ⟨by omega, by omega⟩ hb b0 (congrArg Lf.ring h).symm)
        simp -implicitDefEqProofs (disch := first | omega | (simp only [List.length_set, List.length_replicate]; omega)) only [ir3, ha, q1, q2, b0, r0, r1, wrap_i64, wrap_u64, wrap_u32, wrap_u16, wrap_u8, dec_t, dec_f, ite_t, ite_f, tmod_e, go_sem, Nat.reduceAdd, Nat.reduceMul, Nat.reduceSub, Nat.reduceLeDiff, Nat.reduceEqDiff, Nat.reduceBEq, Nat.reduceLT, Int.reduceLE, Int.reduceLT, Int.reduceEq, Int.reduceNeg, Int.reduceAdd, Int.reduceMul, Int.reduceSub, Int.reduceToNat, reduceCtorEq, ↓reduceIte]
      · have r1 := key { layF c with size := IntKind.i64.wrap ((layF c).size + b) } (fun h => wrap_ne ⟨by omega, by omega⟩ hb b0 (congrArg Lf.size h).symm)
        simp -implicitDefEqProofs (disch := first | omega | (simp only [List.length_set, List.length_replicate]; omega)) only [ir3, ha, q1, q2, b0, r0, r1, wrap_i64, wrap_u64, wrap_u32, wrap_u16, wrap_u8, dec_t, dec_f, ite_t, ite_f, tmod_e, go_sem, Nat.reduceAdd, Nat.reduceMul, Nat.reduceSub, Nat.reduceLeDiff, Nat.reduceEqDiff, Nat.reduceBEq, Nat.reduceLT, Int.reduceLE, Int.reduceLT, Int.reduceEq, Int.reduceNeg, Int.reduceAdd, Int.reduceMul, Int.reduceSub, Int.reduceToNat, reduceCtorEq, ↓reduceIte]
      · have r1 := key { layF c with done := IntKind.i64.wrap ((layF c).done + b) } (fun h => wrap_ne ⟨by omega, by omega⟩ hb b0 (congrArg Lf.done h).symm)
        simp -implicitDefEqProofs (disch := first | omega | (simp only [List.length_set, List.length_replicate]; omega)) only [ir3, ha, q1, q2, b0, r0, r1, wrap_i64, wrap_u64, wrap_u32, wrap_u16, wrap_u8, dec_t, dec_f, ite_t, ite_f, tmod_e, go_sem, Nat.reduceAdd, Nat.reduceMul, Nat.reduceSub, Nat.reduceLeDiff, Nat.reduceEqDiff, Nat.reduceBEq, Nat.reduceLT, Int.reduceLE, Int.reduceLT, Int.reduceEq, Int.reduceNeg, Int.reduceAdd, Int.reduceMul, Int.reduceSub, Int.reduceToNat, reduceCtorEq, ↓reduceIte]
      · have r1 := key { layF c with node := IntKind.i64.wrap ((layF c).node + b) } (fun h => wrap_ne ⟨by omega, by omega⟩ hb b0 (congrArg Lf.node h).symm)
        simp -implicitDefEqProofs (disch := first | omega | (simp only [List.length_set, List.length_replicate]; omega)) only [ir3, ha, q1, q2, b0, r0, r1, wrap_i64, wrap_u64, wrap_u32, wrap_u16, wrap_u8, dec_t, dec_f, ite_t, ite_f, tmod_e, go_sem, Nat.reduceAdd, Nat.reduceMul, Nat.reduceSub, Nat.reduceLeDiff, Nat.reduceEqDiff, Nat.reduceBEq, Nat.reduceLT, Int.reduceLE, Int.reduceLT, Int.reduceEq, Int.reduceNeg, Int.reduceAdd, Int.reduceMul, Int.reduceSub, Int.reduceToNat, reduceCtorEq, ↓reduceIte]
      · have r1 := key { layF c with map := IntKind.i64.wrap ((layF c).map + b) } (fun h => wrap_ne ⟨by omega, by omega⟩ hb b0 (congrArg Lf.map h).symm)
        simp -implicitDefEqProofs (disch := first | omega | (simp only [List.length_set, List.length_replicate]; omega)) only [ir3, ha, q1, q2, b0, r0, r1, wrap_i64, wrap_u64, wrap_u32, wrap_u16, wrap_u8, dec_t, dec_f, ite_t, ite_f, tmod_e, go_sem, Nat.reduceAdd, Nat.reduceMul, Nat.reduceSub, Nat.reduceLeDiff, Nat.reduceEqDiff, Nat.reduceBEq, Nat.reduceLT, Int.reduceLE, Int.reduceLT, Int.reduceEq, Int.reduceNeg, Int.reduceAdd, Int.reduceMul, Int.reduceSub, Int.reduceToNat, reduceCtorEq, ↓reduceIte]
      · have hk : ∀ k : Int, 0 < k → rightB { c with tasks := c.tasks + k } (layF c) = false := fun k hk => decide_eq_false (fun h => by
          have h1 := congrArg Lf.cell h.2
          have h2 := congrArg Lf.task h.2
          simp only [layF] at h1 h2
          omega)
        have m4 := hk 4 (by omega)
        have m8 := hk 8 (by omega)
        have m12 := hk 12 (by omega)
        have htk := ok.tasks
        have h3 : b.tmod 2 = -1 ∨ b.tmod 2 = 0 ∨ b.tmod 2 = 1 := by
          rcases Int.le_total 0 b with h | h
          · rw [Int.tmod_eq_emod_of_nonneg h]; omega
          · have := Int.tmod_eq_emod_of_nonneg (a := -b) (b := 2) (by omega)
            rw [Int.neg_tmod] at this; omega
        rcases h3 with e3 | e3 | e3
        · simp -implicitDefEqProofs (disch := first | omega | (simp only [List.length_set, List.length_replicate]; omega)) only [ir3, ha, q1, q2, b0, r0, e3, m4, wrap_i64, wrap_u64, wrap_u32, wrap_u16, wrap_u8, dec_t, dec_f, ite_t, ite_f, tmod_e, go_sem, Nat.reduceAdd, Nat.reduceMul, Nat.reduceSub, Nat.reduceLeDiff, Nat.reduceEqDiff, Nat.reduceBEq, Nat.reduceLT, Int.reduceLE, Int.reduceLT, Int.reduceEq, Int.reduceNeg, Int.reduceAdd, Int.reduceMul, Int.reduceSub, Int.reduceToNat, reduceCtorEq, ↓reduceIte]
        · simp -implicitDefEqProofs (disch := first | omega | (simp only [List.length_set, List.length_replicate]; omega)) only [ir3, ha, q1, q2, b0, r0, e3, m8, wrap_i64, wrap_u64, wrap_u32, wrap_u16, wrap_u8, dec_t, dec_f, ite_t, ite_f, tmod_e, go_sem, Nat.reduceAdd, Nat.reduceMul, Nat.reduceSub, Nat.reduceLeDiff, Nat.reduceEqDiff, Nat.reduceBEq, Nat.reduceLT, Int.reduceLE, Int.reduceLT, Int.reduceEq, Int.reduceNeg, Int.reduceAdd, Int.reduceMul, Int.reduceSub, Int.reduceToNat, reduceCtorEq, ↓reduceIte]
        · simp -implicitDefEqProofs (disch := first | omega | (simp only [List.length_set, List.length_replicate]; omega)) only [ir3, ha, q1, q2, b0, r0, e3, m12, wrap_i64, wrap_u64, wrap_u32, wrap_u16, wrap_u8, dec_t, dec_f, ite_t, ite_f, tmod_e, go_sem, Nat.reduceAdd, Nat.reduceMul, Nat.reduceSub, Nat.reduceLeDiff, Nat.reduceEqDiff, Nat.reduceBEq, Nat.reduceLT, Int.reduceLE, Int.reduceLT, Int.reduceEq, Int.reduceNeg, Int.reduceAdd, Int.reduceMul, Int.reduceSub, Int.reduceToNat, reduceCtorEq, ↓reduceIte]
  · simp only [if_neg ok] at q1
    have r0 : rightB c ⟨0, 0, 0, 0, 0, 0, 0, 0, 0, 0, 0, 0, 0, 0, 0, 0⟩ = false := decide_eq_false (fun h => ok h.1)
    simp -implicitDefEqProofs (disch := first | omega | (simp only [List.length_set, List.length_replicate]; omega)) only [ir3, ha, q1, q2, r0, zz, wrap_i64, wrap_u64, wrap_u32, wrap_u16, wrap_u8, dec_t, dec_f, ite_t, ite_f, tmod_e, go_sem, Nat.reduceAdd, Nat.reduceMul, Nat.reduceSub, Nat.reduceLeDiff, Nat.reduceEqDiff, Nat.reduceBEq, Nat.reduceLT, Int.reduceLE, Int.reduceLT, Int.reduceEq, Int.reduceNeg, Int.reduceAdd, Int.reduceMul, Int.reduceSub, Int.reduceToNat, reduceCtorEq, ↓reduceIte]
theorem law_Right (d : Nat) (c : Cf) (t b : Int) (ht : 0 ≤ t ∧ t ≤ 255) (hb : inI b) : evalCall fns NN (d + 11) 3 [.agg (CDc c), U t, I b] [] = .ok (B true) [] := by
  rw [call_eq rfl]
  exact body_LRight _ (fun h => p_shown) c t b ht hb (fun h => p_ROf (d := d + 7) c) (fun h c l => p_Right (d := d + 6) c l)
end Go.D.Layout
