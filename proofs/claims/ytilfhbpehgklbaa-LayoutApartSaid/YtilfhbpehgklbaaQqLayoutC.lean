/- The places of all kinds, as the program and its reference tell them; the law LayoutTells. Printed by wip/tool/genplaces.py. -/
import Derived.Test.YtilfhbpehgklbaaQqLayoutA
import Derived.Test.YtilfhbpehgklbaaQqLayoutI
set_option linter.unusedSimpArgs false
set_option linter.unusedVariables false
namespace Go.D.Layout
open Go.D
set_option maxRecDepth 100000
set_option maxHeartbeats 2000000
variable {d : Nat} {h : Heap}

/-- What is asked of a layout here. -/
structure LB (c : Cf) (l : Lf) : Prop where
  ok : OkC c
  alive : 0 ≤ l.alive ∧ l.alive ≤ 20000
  owner : 0 ≤ l.owner ∧ l.owner ≤ 20000
  resv : 0 ≤ l.resv ∧ l.resv ≤ 20000
  deque : 0 ≤ l.deque ∧ l.deque ≤ 20000
  ring : 0 ≤ l.ring ∧ l.ring ≤ 20000
  task : 0 ≤ l.task ∧ l.task ≤ 20000
  cell : 0 ≤ l.cell ∧ l.cell ≤ 20000
  map : 0 ≤ l.map ∧ l.map ≤ 20000
  stack : 0 ≤ l.stack ∧ l.stack ≤ 20000
  chan : 0 ≤ l.chan ∧ l.chan ≤ 20000
  node : 0 ≤ l.node ∧ l.node ≤ 20000
theorem ok_lb {c : Cf} (ok : OkC c) : LB c (layF c) := by
  have h0 := ok.seats; have h1 := ok.tasks; have h2 := ok.cells; have h3 := map_bd ok.toMay; have h4 := stack_bd ok.toMay; have h5 := ok.chans; have h6 := ok.nodes; have h7 := ok.maps; have h8 := ring_bd ok.toMay
  constructor
  · exact ok
  all_goals (simp only [layF]; omega)

theorem body_at (ev : FuncId → List DV → Heap → Res DV) (x : Int) (b : Bool) : evalF ev NN ir56 [I x, B b] [] = .ok (I (if b then x else -1)) [] := by
  cases b <;> simp -implicitDefEqProofs (disch := first | omega | (simp only [List.length_set, List.length_replicate]; omega)) only [ir56, wrap_i64, wrap_u64, wrap_u32, wrap_u16, wrap_u8, dec_t, dec_f, ite_t, ite_f, tmod_e, go_sem, Nat.reduceAdd, Nat.reduceMul, Nat.reduceSub, Nat.reduceLeDiff, Nat.reduceEqDiff, Nat.reduceBEq, Nat.reduceLT, Int.reduceLE, Int.reduceLT, Int.reduceEq, Int.reduceNeg, Int.reduceAdd, Int.reduceMul, Int.reduceSub, Int.reduceToNat, reduceCtorEq, ↓reduceIte]
theorem p_at (x : Int) (b : Bool) : callP (evalCall fns NN (d + 1)) 56 [I x, B b] h = .ok (I (if b then x else -1)) h :=
  callP_of (v := I (if b then x else -1)) (h' := []) rfl rfl (by rw [call_eq rfl]; exact body_at _ x b) rfl

def aliveF (c : Cf) (l : Lf) (a : Int) : Int := if 0 ≤ a ∧ a ≤ c.seats - 1 then l.alive + a else -1
theorem body_Alive1 (ev : FuncId → List DV → Heap → Res DV) (c : Cf) (l : Lf) (a : Int) (hl : LB c l) (hi : inI a)
    (q0 : ∀ h n lo hi, callP ev 27 [I n, I lo, I hi] h = .ok (B (decide (lo ≤ n ∧ n ≤ hi))) h)
    (q : ∀ h fr many size n i, 0 ≤ many ∧ many ≤ 2000000 → 0 ≤ size ∧ size ≤ 2000000 → 0 ≤ fr ∧ fr ≤ 2000000 → callP ev 30 [I fr, I many, I size, I n, I i] h = .ok (I (plF fr many size n i)) h) :
    evalF ev NN ir31 [.agg (LDc c l), I a] [] = .ok (I (aliveF c l a)) [] := by
  obtain ⟨⟨⟨k0, k1, k2, k3, k4, k5, k6, k7, -⟩, k8⟩, b1, b2, b3, b4, b5, b6, b7, b8, b9, b10, b11⟩ := hl
  obtain ⟨hi1, hi2⟩ := hi
  have e : plF l.alive c.seats 1 a 0 = aliveF c l a := by
      unfold plF aliveF
      split <;> split <;> first | rfl | omega
  simp -implicitDefEqProofs (disch := first | omega | (simp only [List.length_set, List.length_replicate]; omega)) only [ir31, q0, q, e, wrap_i64, wrap_u64, wrap_u32, wrap_u16, wrap_u8, dec_t, dec_f, ite_t, ite_f, tmod_e, go_sem, Nat.reduceAdd, Nat.reduceMul, Nat.reduceSub, Nat.reduceLeDiff, Nat.reduceEqDiff, Nat.reduceBEq, Nat.reduceLT, Int.reduceLE, Int.reduceLT, Int.reduceEq, Int.reduceNeg, Int.reduceAdd, Int.reduceMul, Int.reduceSub, Int.reduceToNat, reduceCtorEq, ↓reduceIte]
theorem p_Alive1 (c : Cf) (l : Lf) (a : Int) (hl : LB c l) (hi : inI a) : callP (evalCall fns NN (d + 3)) 31 [.agg (LDc c l), I a] h = .ok (I (aliveF c l a)) h :=
  callP_of (v := I (aliveF c l a)) (h' := []) rfl rfl (by rw [call_eq rfl]; exact body_Alive1 _ c l a hl hi (fun h n lo hi => p_within (d := d + 1) n lo hi) (fun h fr many size n i h1 h2 h3 => p_place fr many size n i h1 h2 h3)) rfl
theorem body_Alive2 (ev : FuncId → List DV → Heap → Res DV) (c : Cf) (l : Lf) (a : Int) (hl : LB c l)
    (q0 : ∀ h n lo hi, callP ev 23 [I n, I lo, I hi] h = .ok (B (decide (lo ≤ n ∧ n ≤ hi))) h)
    (q : ∀ h x b, callP ev 56 [I x, B b] h = .ok (I (if b then x else -1)) h) :
    evalF ev NN ir42 [.agg (LDc c l), I a] [] = .ok (I (aliveF c l a)) [] := by
  obtain ⟨⟨⟨k0, k1, k2, k3, k4, k5, k6, k7, -⟩, k8⟩, b1, b2, b3, b4, b5, b6, b7, b8, b9, b10, b11⟩ := hl
  unfold aliveF
  by_cases ca : 0 ≤ a ∧ a ≤ c.seats - 1
  · skip
    simp -implicitDefEqProofs (disch := first | omega | (simp only [List.length_set, List.length_replicate]; omega)) only [ir42, q0, q, wrap_i64, wrap_u64, wrap_u32, wrap_u16, wrap_u8, dec_t, dec_f, ite_t, ite_f, tmod_e, go_sem, Nat.reduceAdd, Nat.reduceMul, Nat.reduceSub, Nat.reduceLeDiff, Nat.reduceEqDiff, Nat.reduceBEq, Nat.reduceLT, Int.reduceLE, Int.reduceLT, Int.reduceEq, Int.reduceNeg, Int.reduceAdd, Int.reduceMul, Int.reduceSub, Int.reduceToNat, reduceCtorEq, ↓reduceIte]
  · simp -implicitDefEqProofs (disch := first | omega | (simp only [List.length_set, List.length_replicate]; omega)) only [ir42, q0, q, wrap_i64, wrap_u64, wrap_u32, wrap_u16, wrap_u8, dec_t, dec_f, ite_t, ite_f, tmod_e, go_sem, Nat.reduceAdd, Nat.reduceMul, Nat.reduceSub, Nat.reduceLeDiff, Nat.reduceEqDiff, Nat.reduceBEq, Nat.reduceLT, Int.reduceLE, Int.reduceLT, Int.reduceEq, Int.reduceNeg, Int.reduceAdd, Int.reduceMul, Int.reduceSub, Int.reduceToNat, reduceCtorEq, ↓reduceIte]
theorem p_Alive2 (c : Cf) (l : Lf) (a : Int) (hl : LB c l) : callP (evalCall fns NN (d + 2)) 42 [.agg (LDc c l), I a] h = .ok (I (aliveF c l a)) h :=
  callP_of (v := I (aliveF c l a)) (h' := []) rfl rfl (by rw [call_eq rfl]; exact body_Alive2 _ c l a hl (fun h n lo hi => p_in n lo hi) (fun h x b => p_at x b)) rfl
def ownerF (c : Cf) (l : Lf) (a : Int) : Int := if 0 ≤ a ∧ a ≤ c.seats - 1 then l.owner + a else -1
theorem body_Owner1 (ev : FuncId → List DV → Heap → Res DV) (c : Cf) (l : Lf) (a : Int) (hl : LB c l) (hi : inI a)
    (q0 : ∀ h n lo hi, callP ev 27 [I n, I lo, I hi] h = .ok (B (decide (lo ≤ n ∧ n ≤ hi))) h)
    (q : ∀ h fr many size n i, 0 ≤ many ∧ many ≤ 2000000 → 0 ≤ size ∧ size ≤ 2000000 → 0 ≤ fr ∧ fr ≤ 2000000 → callP ev 30 [I fr, I many, I size, I n, I i] h = .ok (I (plF fr many size n i)) h) :
    evalF ev NN ir32 [.agg (LDc c l), I a] [] = .ok (I (ownerF c l a)) [] := by
  obtain ⟨⟨⟨k0, k1, k2, k3, k4, k5, k6, k7, -⟩, k8⟩, b1, b2, b3, b4, b5, b6, b7, b8, b9, b10, b11⟩ := hl
  obtain ⟨hi1, hi2⟩ := hi
  have e : plF l.owner c.seats 1 a 0 = ownerF c l a := by
      unfold plF ownerF
      split <;> split <;> first | rfl | omega
  simp -implicitDefEqProofs (disch := first | omega | (simp only [List.length_set, List.length_replicate]; omega)) only [ir32, q0, q, e, wrap_i64, wrap_u64, wrap_u32, wrap_u16, wrap_u8, dec_t, dec_f, ite_t, ite_f, tmod_e, go_sem, Nat.reduceAdd, Nat.reduceMul, Nat.reduceSub, Nat.reduceLeDiff, Nat.reduceEqDiff, Nat.reduceBEq, Nat.reduceLT, Int.reduceLE, Int.reduceLT, Int.reduceEq, Int.reduceNeg, Int.reduceAdd, Int.reduceMul, Int.reduceSub, Int.reduceToNat, reduceCtorEq, ↓reduceIte]
theorem p_Owner1 (c : Cf) (l : Lf) (a : Int) (hl : LB c l) (hi : inI a) : callP (evalCall fns NN (d + 3)) 32 [.agg (LDc c l), I a] h = .ok (I (ownerF c l a)) h :=
  callP_of (v := I (ownerF c l a)) (h' := []) rfl rfl (by rw [call_eq rfl]; exact body_Owner1 _ c l a hl hi (fun h n lo hi => p_within (d := d + 1) n lo hi) (fun h fr many size n i h1 h2 h3 => p_place fr many size n i h1 h2 h3)) rfl
theorem body_Owner2 (ev : FuncId → List DV → Heap → Res DV) (c : Cf) (l : Lf) (a : Int) (hl : LB c l)
    (q0 : ∀ h n lo hi, callP ev 23 [I n, I lo, I hi] h = .ok (B (decide (lo ≤ n ∧ n ≤ hi))) h)
    (q : ∀ h x b, callP ev 56 [I x, B b] h = .ok (I (if b then x else -1)) h) :
    evalF ev NN ir43 [.agg (LDc c l), I a] [] = .ok (I (ownerF c l a)) [] := by
  obtain ⟨⟨⟨k0, k1, k2, k3, k4, k5, k6, k7, -⟩, k8⟩, b1, b2, b3, b4, b5, b6, b7, b8, b9, b10, b11⟩ := hl
  unfold ownerF
  by_cases ca : 0 ≤ a ∧ a ≤ c.seats - 1
  · skip
    simp -implicitDefEqProofs (disch := first | omega | (simp only [List.length_set, List.length_replicate]; omega)) only [ir43, q0, q, wrap_i64, wrap_u64, wrap_u32, wrap_u16, wrap_u8, dec_t, dec_f, ite_t, ite_f, tmod_e, go_sem, Nat.reduceAdd, Nat.reduceMul, Nat.reduceSub, Nat.reduceLeDiff, Nat.reduceEqDiff, Nat.reduceBEq, Nat.reduceLT, Int.reduceLE, Int.reduceLT, Int.reduceEq, Int.reduceNeg, Int.reduceAdd, Int.reduceMul, Int.reduceSub, Int.reduceToNat, reduceCtorEq, ↓reduceIte]
  · simp -implicitDefEqProofs (disch := first | omega | (simp only [List.length_set, List.length_replicate]; omega)) only [ir43, q0, q, wrap_i64, wrap_u64, wrap_u32, wrap_u16, wrap_u8, dec_t, dec_f, ite_t, ite_f, tmod_e, go_sem, Nat.reduceAdd, Nat.reduceMul, Nat.reduceSub, Nat.reduceLeDiff, Nat.reduceEqDiff, Nat.reduceBEq, Nat.reduceLT, Int.reduceLE, Int.reduceLT, Int.reduceEq, Int.reduceNeg, Int.reduceAdd, Int.reduceMul, Int.reduceSub, Int.reduceToNat, reduceCtorEq, ↓reduceIte]
theorem p_Owner2 (c : Cf) (l : Lf) (a : Int) (hl : LB c l) : callP (evalCall fns NN (d + 2)) 43 [.agg (LDc c l), I a] h = .ok (I (ownerF c l a)) h :=
  callP_of (v := I (ownerF c l a)) (h' := []) rfl rfl (by rw [call_eq rfl]; exact body_Owner2 _ c l a hl (fun h n lo hi => p_in n lo hi) (fun h x b => p_at x b)) rfl
def resvF (c : Cf) (l : Lf) (a b : Int) : Int := if (0 ≤ a ∧ a ≤ c.seats - 1) ∧ (0 ≤ b ∧ b ≤ 2) then l.resv + 3 * a + b else -1
theorem body_Resv1 (ev : FuncId → List DV → Heap → Res DV) (c : Cf) (l : Lf) (a b : Int) (hl : LB c l) (hi : inI a)
    (q0 : ∀ h n lo hi, callP ev 27 [I n, I lo, I hi] h = .ok (B (decide (lo ≤ n ∧ n ≤ hi))) h)
    (q : ∀ h fr many size n i, 0 ≤ many ∧ many ≤ 2000000 → 0 ≤ size ∧ size ≤ 2000000 → 0 ≤ fr ∧ fr ≤ 2000000 → callP ev 30 [I fr, I many, I size, I n, I i] h = .ok (I (plF fr many size n i)) h) :
    evalF ev NN ir33 [.agg (LDc c l), I a, I b] [] = .ok (I (resvF c l a b)) [] := by
  obtain ⟨⟨⟨k0, k1, k2, k3, k4, k5, k6, k7, -⟩, k8⟩, b1, b2, b3, b4, b5, b6, b7, b8, b9, b10, b11⟩ := hl
  obtain ⟨hi1, hi2⟩ := hi
  have e : plF l.resv c.seats 3 a b = resvF c l a b := by
      unfold plF resvF
      split <;> split <;> first | rfl | omega
  simp -implicitDefEqProofs (disch := first | omega | (simp only [List.length_set, List.length_replicate]; omega)) only [ir33, q0, q, e, wrap_i64, wrap_u64, wrap_u32, wrap_u16, wrap_u8, dec_t, dec_f, ite_t, ite_f, tmod_e, go_sem, Nat.reduceAdd, Nat.reduceMul, Nat.reduceSub, Nat.reduceLeDiff, Nat.reduceEqDiff, Nat.reduceBEq, Nat.reduceLT, Int.reduceLE, Int.reduceLT, Int.reduceEq, Int.reduceNeg, Int.reduceAdd, Int.reduceMul, Int.reduceSub, Int.reduceToNat, reduceCtorEq, ↓reduceIte]
theorem p_Resv1 (c : Cf) (l : Lf) (a b : Int) (hl : LB c l) (hi : inI a) : callP (evalCall fns NN (d + 3)) 33 [.agg (LDc c l), I a, I b] h = .ok (I (resvF c l a b)) h :=
  callP_of (v := I (resvF c l a b)) (h' := []) rfl rfl (by rw [call_eq rfl]; exact body_Resv1 _ c l a b hl hi (fun h n lo hi => p_within (d := d + 1) n lo hi) (fun h fr many size n i h1 h2 h3 => p_place fr many size n i h1 h2 h3)) rfl
theorem body_Resv2 (ev : FuncId → List DV → Heap → Res DV) (c : Cf) (l : Lf) (a b : Int) (hl : LB c l)
    (q0 : ∀ h n lo hi, callP ev 23 [I n, I lo, I hi] h = .ok (B (decide (lo ≤ n ∧ n ≤ hi))) h)
    (q : ∀ h x b, callP ev 56 [I x, B b] h = .ok (I (if b then x else -1)) h) :
    evalF ev NN ir44 [.agg (LDc c l), I a, I b] [] = .ok (I (resvF c l a b)) [] := by
  obtain ⟨⟨⟨k0, k1, k2, k3, k4, k5, k6, k7, -⟩, k8⟩, b1, b2, b3, b4, b5, b6, b7, b8, b9, b10, b11⟩ := hl
  unfold resvF
  by_cases ca : 0 ≤ a ∧ a ≤ c.seats - 1
  · by_cases cb : 0 ≤ b ∧ b ≤ 2
    · skip
      simp -implicitDefEqProofs (disch := first | omega | (simp only [List.length_set, List.length_replicate]; omega)) only [ir44, q0, q, wrap_i64, wrap_u64, wrap_u32, wrap_u16, wrap_u8, dec_t, dec_f, ite_t, ite_f, tmod_e, go_sem, Nat.reduceAdd, Nat.reduceMul, Nat.reduceSub, Nat.reduceLeDiff, Nat.reduceEqDiff, Nat.reduceBEq, Nat.reduceLT, Int.reduceLE, Int.reduceLT, Int.reduceEq, Int.reduceNeg, Int.reduceAdd, Int.reduceMul, Int.reduceSub, Int.reduceToNat, reduceCtorEq, ↓reduceIte]
    · simp -implicitDefEqProofs (disch := first | omega | (simp only [List.length_set, List.length_replicate]; omega)) only [ir44, q0, q, wrap_i64, wrap_u64, wrap_u32, wrap_u16, wrap_u8, dec_t, dec_f, ite_t, ite_f, tmod_e, go_sem, Nat.reduceAdd, Nat.reduceMul, Nat.reduceSub, Nat.reduceLeDiff, Nat.reduceEqDiff, Nat.reduceBEq, Nat.reduceLT, Int.reduceLE, Int.reduceLT, Int.reduceEq, Int.reduceNeg, Int.reduceAdd, Int.reduceMul, Int.reduceSub, Int.reduceToNat, reduceCtorEq, ↓reduceIte]
  · simp -implicitDefEqProofs (disch := first | omega | (simp only [List.length_set, List.length_replicate]; omega)) only [ir44, q0, q, wrap_i64, wrap_u64, wrap_u32, wrap_u16, wrap_u8, dec_t, dec_f, ite_t, ite_f, tmod_e, go_sem, Nat.reduceAdd, Nat.reduceMul, Nat.reduceSub, Nat.reduceLeDiff, Nat.reduceEqDiff, Nat.reduceBEq, Nat.reduceLT, Int.reduceLE, Int.reduceLT, Int.reduceEq, Int.reduceNeg, Int.reduceAdd, Int.reduceMul, Int.reduceSub, Int.reduceToNat, reduceCtorEq, ↓reduceIte]
theorem p_Resv2 (c : Cf) (l : Lf) (a b : Int) (hl : LB c l) : callP (evalCall fns NN (d + 2)) 44 [.agg (LDc c l), I a, I b] h = .ok (I (resvF c l a b)) h :=
  callP_of (v := I (resvF c l a b)) (h' := []) rfl rfl (by rw [call_eq rfl]; exact body_Resv2 _ c l a b hl (fun h n lo hi => p_in n lo hi) (fun h x b => p_at x b)) rfl
def dqF (c : Cf) (l : Lf) (a b : Int) : Int := if (0 ≤ a ∧ a ≤ c.seats - 1) ∧ (0 ≤ b ∧ b ≤ 2) then l.deque + 3 * a + b else -1
theorem body_Deque1 (ev : FuncId → List DV → Heap → Res DV) (c : Cf) (l : Lf) (a b : Int) (hl : LB c l) (hi : inI a)
    (q0 : ∀ h n lo hi, callP ev 27 [I n, I lo, I hi] h = .ok (B (decide (lo ≤ n ∧ n ≤ hi))) h)
    (q : ∀ h fr many size n i, 0 ≤ many ∧ many ≤ 2000000 → 0 ≤ size ∧ size ≤ 2000000 → 0 ≤ fr ∧ fr ≤ 2000000 → callP ev 30 [I fr, I many, I size, I n, I i] h = .ok (I (plF fr many size n i)) h) :
    evalF ev NN ir34 [.agg (LDc c l), I a, I b] [] = .ok (I (dqF c l a b)) [] := by
  obtain ⟨⟨⟨k0, k1, k2, k3, k4, k5, k6, k7, -⟩, k8⟩, b1, b2, b3, b4, b5, b6, b7, b8, b9, b10, b11⟩ := hl
  obtain ⟨hi1, hi2⟩ := hi
  have e : plF l.deque c.seats 3 a b = dqF c l a b := by
      unfold plF dqF
      split <;> split <;> first | rfl | omega
  simp -implicitDefEqProofs (disch := first | omega | (simp only [List.length_set, List.length_replicate]; omega)) only [ir34, q0, q, e, wrap_i64, wrap_u64, wrap_u32, wrap_u16, wrap_u8, dec_t, dec_f, ite_t, ite_f, tmod_e, go_sem, Nat.reduceAdd, Nat.reduceMul, Nat.reduceSub, Nat.reduceLeDiff, Nat.reduceEqDiff, Nat.reduceBEq, Nat.reduceLT, Int.reduceLE, Int.reduceLT, Int.reduceEq, Int.reduceNeg, Int.reduceAdd, Int.reduceMul, Int.reduceSub, Int.reduceToNat, reduceCtorEq, ↓reduceIte]
theorem p_Deque1 (c : Cf) (l : Lf) (a b : Int) (hl : LB c l) (hi : inI a) : callP (evalCall fns NN (d + 3)) 34 [.agg (LDc c l), I a, I b] h = .ok (I (dqF c l a b)) h :=
  callP_of (v := I (dqF c l a b)) (h' := []) rfl rfl (by rw [call_eq rfl]; exact body_Deque1 _ c l a b hl hi (fun h n lo hi => p_within (d := d + 1) n lo hi) (fun h fr many size n i h1 h2 h3 => p_place fr many size n i h1 h2 h3)) rfl
theorem body_Deque2 (ev : FuncId → List DV → Heap → Res DV) (c : Cf) (l : Lf) (a b : Int) (hl : LB c l)
    (q0 : ∀ h n lo hi, callP ev 23 [I n, I lo, I hi] h = .ok (B (decide (lo ≤ n ∧ n ≤ hi))) h)
    (q : ∀ h x b, callP ev 56 [I x, B b] h = .ok (I (if b then x else -1)) h) :
    evalF ev NN ir45 [.agg (LDc c l), I a, I b] [] = .ok (I (dqF c l a b)) [] := by
  obtain ⟨⟨⟨k0, k1, k2, k3, k4, k5, k6, k7, -⟩, k8⟩, b1, b2, b3, b4, b5, b6, b7, b8, b9, b10, b11⟩ := hl
  unfold dqF
  by_cases ca : 0 ≤ a ∧ a ≤ c.seats - 1
  · by_cases cb : 0 ≤ b ∧ b ≤ 2
    · skip
      simp -implicitDefEqProofs (disch := first | omega | (simp only [List.length_set, List.length_replicate]; omega)) only [ir45, q0, q, wrap_i64, wrap_u64, wrap_u32, wrap_u16, wrap_u8, dec_t, dec_f, ite_t, ite_f, tmod_e, go_sem, Nat.reduceAdd, Nat.reduceMul, Nat.reduceSub, Nat.reduceLeDiff, Nat.reduceEqDiff, Nat.reduceBEq, Nat.reduceLT, Int.reduceLE, Int.reduceLT, Int.reduceEq, Int.reduceNeg, Int.reduceAdd, Int.reduceMul, Int.reduceSub, Int.reduceToNat, reduceCtorEq, ↓reduceIte]
    · simp -implicitDefEqProofs (disch := first | omega | (simp only [List.length_set, List.length_replicate]; omega)) only [ir45, q0, q, wrap_i64, wrap_u64, wrap_u32, wrap_u16, wrap_u8, dec_t, dec_f, ite_t, ite_f, tmod_e, go_sem, Nat.reduceAdd, Nat.reduceMul, Nat.reduceSub, Nat.reduceLeDiff, Nat.reduceEqDiff, Nat.reduceBEq, Nat.reduceLT, Int.reduceLE, Int.reduceLT, Int.reduceEq, Int.reduceNeg, Int.reduceAdd, Int.reduceMul, Int.reduceSub, Int.reduceToNat, reduceCtorEq, ↓reduceIte]
  · simp -implicitDefEqProofs (disch := first | omega | (simp only [List.length_set, List.length_replicate]; omega)) only [ir45, q0, q, wrap_i64, wrap_u64, wrap_u32, wrap_u16, wrap_u8, dec_t, dec_f, ite_t, ite_f, tmod_e, go_sem, Nat.reduceAdd, Nat.reduceMul, Nat.reduceSub, Nat.reduceLeDiff, Nat.reduceEqDiff, Nat.reduceBEq, Nat.reduceLT, Int.reduceLE, Int.reduceLT, Int.reduceEq, Int.reduceNeg, Int.reduceAdd, Int.reduceMul, Int.reduceSub, Int.reduceToNat, reduceCtorEq, ↓reduceIte]
theorem p_Deque2 (c : Cf) (l : Lf) (a b : Int) (hl : LB c l) : callP (evalCall fns NN (d + 2)) 45 [.agg (LDc c l), I a, I b] h = .ok (I (dqF c l a b)) h :=
  callP_of (v := I (dqF c l a b)) (h' := []) rfl rfl (by rw [call_eq rfl]; exact body_Deque2 _ c l a b hl (fun h n lo hi => p_in n lo hi) (fun h x b => p_at x b)) rfl
def taskF (c : Cf) (l : Lf) (a b : Int) : Int := if (1 ≤ a ∧ a ≤ c.tasks) ∧ (0 ≤ b ∧ b ≤ 3) then l.task + 4 * (a - 1) + b else -1
theorem body_Task1 (ev : FuncId → List DV → Heap → Res DV) (c : Cf) (l : Lf) (a b : Int) (hl : LB c l) (hi : inI a)
    (q0 : ∀ h n lo hi, callP ev 27 [I n, I lo, I hi] h = .ok (B (decide (lo ≤ n ∧ n ≤ hi))) h)
    (q : ∀ h fr many size n i, 0 ≤ many ∧ many ≤ 2000000 → 0 ≤ size ∧ size ≤ 2000000 → 0 ≤ fr ∧ fr ≤ 2000000 → callP ev 30 [I fr, I many, I size, I n, I i] h = .ok (I (plF fr many size n i)) h) :
    evalF ev NN ir20 [.agg (LDc c l), I a, I b] [] = .ok (I (taskF c l a b)) [] := by
  obtain ⟨⟨⟨k0, k1, k2, k3, k4, k5, k6, k7, -⟩, k8⟩, b1, b2, b3, b4, b5, b6, b7, b8, b9, b10, b11⟩ := hl
  obtain ⟨hi1, hi2⟩ := hi
  by_cases hp : 1 ≤ a
  · have e : plF l.task c.tasks 4 (a - 1) b = taskF c l a b := by
      unfold plF taskF
      split <;> split <;> first | rfl | omega
    simp -implicitDefEqProofs (disch := first | omega | (simp only [List.length_set, List.length_replicate]; omega)) only [ir20, q0, q, e, wrap_i64, wrap_u64, wrap_u32, wrap_u16, wrap_u8, dec_t, dec_f, ite_t, ite_f, tmod_e, go_sem, Nat.reduceAdd, Nat.reduceMul, Nat.reduceSub, Nat.reduceLeDiff, Nat.reduceEqDiff, Nat.reduceBEq, Nat.reduceLT, Int.reduceLE, Int.reduceLT, Int.reduceEq, Int.reduceNeg, Int.reduceAdd, Int.reduceMul, Int.reduceSub, Int.reduceToNat, reduceCtorEq, ↓reduceIte]
  · have e : taskF c l a b = -1 := by
      unfold taskF
      split <;> omega
    rw [e]
    simp -implicitDefEqProofs (disch := first | omega | (simp only [List.length_set, List.length_replicate]; omega)) only [ir20, q0, wrap_i64, wrap_u64, wrap_u32, wrap_u16, wrap_u8, dec_t, dec_f, ite_t, ite_f, tmod_e, go_sem, Nat.reduceAdd, Nat.reduceMul, Nat.reduceSub, Nat.reduceLeDiff, Nat.reduceEqDiff, Nat.reduceBEq, Nat.reduceLT, Int.reduceLE, Int.reduceLT, Int.reduceEq, Int.reduceNeg, Int.reduceAdd, Int.reduceMul, Int.reduceSub, Int.reduceToNat, reduceCtorEq, ↓reduceIte]
theorem p_Task1 (c : Cf) (l : Lf) (a b : Int) (hl : LB c l) (hi : inI a) : callP (evalCall fns NN (d + 3)) 20 [.agg (LDc c l), I a, I b] h = .ok (I (taskF c l a b)) h :=
  callP_of (v := I (taskF c l a b)) (h' := []) rfl rfl (by rw [call_eq rfl]; exact body_Task1 _ c l a b hl hi (fun h n lo hi => p_within (d := d + 1) n lo hi) (fun h fr many size n i h1 h2 h3 => p_place fr many size n i h1 h2 h3)) rfl
theorem body_Task2 (ev : FuncId → List DV → Heap → Res DV) (c : Cf) (l : Lf) (a b : Int) (hl : LB c l)
    (q0 : ∀ h n lo hi, callP ev 23 [I n, I lo, I hi] h = .ok (B (decide (lo ≤ n ∧ n ≤ hi))) h)
    (q : ∀ h x b, callP ev 56 [I x, B b] h = .ok (I (if b then x else -1)) h) :
    evalF ev NN ir47 [.agg (LDc c l), I a, I b] [] = .ok (I (taskF c l a b)) [] := by
  obtain ⟨⟨⟨k0, k1, k2, k3, k4, k5, k6, k7, -⟩, k8⟩, b1, b2, b3, b4, b5, b6, b7, b8, b9, b10, b11⟩ := hl
  unfold taskF
  by_cases ca : 1 ≤ a ∧ a ≤ c.tasks
  · by_cases cb : 0 ≤ b ∧ b ≤ 3
    · skip
      simp -implicitDefEqProofs (disch := first | omega | (simp only [List.length_set, List.length_replicate]; omega)) only [ir47, q0, q, wrap_i64, wrap_u64, wrap_u32, wrap_u16, wrap_u8, dec_t, dec_f, ite_t, ite_f, tmod_e, go_sem, Nat.reduceAdd, Nat.reduceMul, Nat.reduceSub, Nat.reduceLeDiff, Nat.reduceEqDiff, Nat.reduceBEq, Nat.reduceLT, Int.reduceLE, Int.reduceLT, Int.reduceEq, Int.reduceNeg, Int.reduceAdd, Int.reduceMul, Int.reduceSub, Int.reduceToNat, reduceCtorEq, ↓reduceIte]
    · simp -implicitDefEqProofs (disch := first | omega | (simp only [List.length_set, List.length_replicate]; omega)) only [ir47, q0, q, wrap_i64, wrap_u64, wrap_u32, wrap_u16, wrap_u8, dec_t, dec_f, ite_t, ite_f, tmod_e, go_sem, Nat.reduceAdd, Nat.reduceMul, Nat.reduceSub, Nat.reduceLeDiff, Nat.reduceEqDiff, Nat.reduceBEq, Nat.reduceLT, Int.reduceLE, Int.reduceLT, Int.reduceEq, Int.reduceNeg, Int.reduceAdd, Int.reduceMul, Int.reduceSub, Int.reduceToNat, reduceCtorEq, ↓reduceIte]
  · simp -implicitDefEqProofs (disch := first | omega | (simp only [List.length_set, List.length_replicate]; omega)) only [ir47, q0, q, wrap_i64, wrap_u64, wrap_u32, wrap_u16, wrap_u8, dec_t, dec_f, ite_t, ite_f, tmod_e, go_sem, Nat.reduceAdd, Nat.reduceMul, Nat.reduceSub, Nat.reduceLeDiff, Nat.reduceEqDiff, Nat.reduceBEq, Nat.reduceLT, Int.reduceLE, Int.reduceLT, Int.reduceEq, Int.reduceNeg, Int.reduceAdd, Int.reduceMul, Int.reduceSub, Int.reduceToNat, reduceCtorEq, ↓reduceIte]
theorem p_Task2 (c : Cf) (l : Lf) (a b : Int) (hl : LB c l) : callP (evalCall fns NN (d + 2)) 47 [.agg (LDc c l), I a, I b] h = .ok (I (taskF c l a b)) h :=
  callP_of (v := I (taskF c l a b)) (h' := []) rfl rfl (by rw [call_eq rfl]; exact body_Task2 _ c l a b hl (fun h n lo hi => p_in n lo hi) (fun h x b => p_at x b)) rfl
def cellF (c : Cf) (l : Lf) (a : Int) : Int := if 0 ≤ a ∧ a ≤ c.cells - 1 then l.cell + a else -1
theorem body_Cell1 (ev : FuncId → List DV → Heap → Res DV) (c : Cf) (l : Lf) (a : Int) (hl : LB c l) (hi : inI a)
    (q0 : ∀ h n lo hi, callP ev 27 [I n, I lo, I hi] h = .ok (B (decide (lo ≤ n ∧ n ≤ hi))) h)
    (q : ∀ h fr many size n i, 0 ≤ many ∧ many ≤ 2000000 → 0 ≤ size ∧ size ≤ 2000000 → 0 ≤ fr ∧ fr ≤ 2000000 → callP ev 30 [I fr, I many, I size, I n, I i] h = .ok (I (plF fr many size n i)) h) :
    evalF ev NN ir35 [.agg (LDc c l), I a] [] = .ok (I (cellF c l a)) [] := by
  obtain ⟨⟨⟨k0, k1, k2, k3, k4, k5, k6, k7, -⟩, k8⟩, b1, b2, b3, b4, b5, b6, b7, b8, b9, b10, b11⟩ := hl
  obtain ⟨hi1, hi2⟩ := hi
  have e : plF l.cell c.cells 1 a 0 = cellF c l a := by
      unfold plF cellF
      split <;> split <;> first | rfl | omega
  simp -implicitDefEqProofs (disch := first | omega | (simp only [List.length_set, List.length_replicate]; omega)) only [ir35, q0, q, e, wrap_i64, wrap_u64, wrap_u32, wrap_u16, wrap_u8, dec_t, dec_f, ite_t, ite_f, tmod_e, go_sem, Nat.reduceAdd, Nat.reduceMul, Nat.reduceSub, Nat.reduceLeDiff, Nat.reduceEqDiff, Nat.reduceBEq, Nat.reduceLT, Int.reduceLE, Int.reduceLT, Int.reduceEq, Int.reduceNeg, Int.reduceAdd, Int.reduceMul, Int.reduceSub, Int.reduceToNat, reduceCtorEq, ↓reduceIte]
theorem p_Cell1 (c : Cf) (l : Lf) (a : Int) (hl : LB c l) (hi : inI a) : callP (evalCall fns NN (d + 3)) 35 [.agg (LDc c l), I a] h = .ok (I (cellF c l a)) h :=
  callP_of (v := I (cellF c l a)) (h' := []) rfl rfl (by rw [call_eq rfl]; exact body_Cell1 _ c l a hl hi (fun h n lo hi => p_within (d := d + 1) n lo hi) (fun h fr many size n i h1 h2 h3 => p_place fr many size n i h1 h2 h3)) rfl
theorem body_Cell2 (ev : FuncId → List DV → Heap → Res DV) (c : Cf) (l : Lf) (a : Int) (hl : LB c l)
    (q0 : ∀ h n lo hi, callP ev 23 [I n, I lo, I hi] h = .ok (B (decide (lo ≤ n ∧ n ≤ hi))) h)
    (q : ∀ h x b, callP ev 56 [I x, B b] h = .ok (I (if b then x else -1)) h) :
    evalF ev NN ir48 [.agg (LDc c l), I a] [] = .ok (I (cellF c l a)) [] := by
  obtain ⟨⟨⟨k0, k1, k2, k3, k4, k5, k6, k7, -⟩, k8⟩, b1, b2, b3, b4, b5, b6, b7, b8, b9, b10, b11⟩ := hl
  unfold cellF
  by_cases ca : 0 ≤ a ∧ a ≤ c.cells - 1
  · skip
    simp -implicitDefEqProofs (disch := first | omega | (simp only [List.length_set, List.length_replicate]; omega)) only [ir48, q0, q, wrap_i64, wrap_u64, wrap_u32, wrap_u16, wrap_u8, dec_t, dec_f, ite_t, ite_f, tmod_e, go_sem, Nat.reduceAdd, Nat.reduceMul, Nat.reduceSub, Nat.reduceLeDiff, Nat.reduceEqDiff, Nat.reduceBEq, Nat.reduceLT, Int.reduceLE, Int.reduceLT, Int.reduceEq, Int.reduceNeg, Int.reduceAdd, Int.reduceMul, Int.reduceSub, Int.reduceToNat, reduceCtorEq, ↓reduceIte]
  · simp -implicitDefEqProofs (disch := first | omega | (simp only [List.length_set, List.length_replicate]; omega)) only [ir48, q0, q, wrap_i64, wrap_u64, wrap_u32, wrap_u16, wrap_u8, dec_t, dec_f, ite_t, ite_f, tmod_e, go_sem, Nat.reduceAdd, Nat.reduceMul, Nat.reduceSub, Nat.reduceLeDiff, Nat.reduceEqDiff, Nat.reduceBEq, Nat.reduceLT, Int.reduceLE, Int.reduceLT, Int.reduceEq, Int.reduceNeg, Int.reduceAdd, Int.reduceMul, Int.reduceSub, Int.reduceToNat, reduceCtorEq, ↓reduceIte]
theorem p_Cell2 (c : Cf) (l : Lf) (a : Int) (hl : LB c l) : callP (evalCall fns NN (d + 2)) 48 [.agg (LDc c l), I a] h = .ok (I (cellF c l a)) h :=
  callP_of (v := I (cellF c l a)) (h' := []) rfl rfl (by rw [call_eq rfl]; exact body_Cell2 _ c l a hl (fun h n lo hi => p_in n lo hi) (fun h x b => p_at x b)) rfl
def mapF (c : Cf) (l : Lf) (a b : Int) : Int := if (0 ≤ a ∧ a ≤ c.maps - 1) ∧ (0 ≤ b ∧ b ≤ 1) then l.map + (2 + c.buckets) * a + b else -1
theorem body_Map1 (ev : FuncId → List DV → Heap → Res DV) (c : Cf) (l : Lf) (a b : Int) (hl : LB c l) (hi : inI a)
    (q0 : ∀ h n lo hi, callP ev 27 [I n, I lo, I hi] h = .ok (B (decide (lo ≤ n ∧ n ≤ hi))) h)
    (q : ∀ h fr many size n i, 0 ≤ many ∧ many ≤ 2000000 → 0 ≤ size ∧ size ≤ 2000000 → 0 ≤ fr ∧ fr ≤ 2000000 → callP ev 30 [I fr, I many, I size, I n, I i] h = .ok (I (plF fr many size n i)) h) :
    evalF ev NN ir36 [.agg (LDc c l), I a, I b] [] = .ok (I (mapF c l a b)) [] := by
  obtain ⟨⟨⟨k0, k1, k2, k3, k4, k5, k6, k7, -⟩, k8⟩, b1, b2, b3, b4, b5, b6, b7, b8, b9, b10, b11⟩ := hl
  obtain ⟨hi1, hi2⟩ := hi
  by_cases hp : 0 ≤ b ∧ b ≤ 1
  · have e : plF l.map c.maps (2 + c.buckets) a b = mapF c l a b := by
      unfold plF mapF
      split <;> split <;> first | rfl | omega
    simp -implicitDefEqProofs (disch := first | omega | (simp only [List.length_set, List.length_replicate]; omega)) only [ir36, q0, q, e, wrap_i64, wrap_u64, wrap_u32, wrap_u16, wrap_u8, dec_t, dec_f, ite_t, ite_f, tmod_e, go_sem, Nat.reduceAdd, Nat.reduceMul, Nat.reduceSub, Nat.reduceLeDiff, Nat.reduceEqDiff, Nat.reduceBEq, Nat.reduceLT, Int.reduceLE, Int.reduceLT, Int.reduceEq, Int.reduceNeg, Int.reduceAdd, Int.reduceMul, Int.reduceSub, Int.reduceToNat, reduceCtorEq, ↓reduceIte]
  · have e : mapF c l a b = -1 := by
      unfold mapF
      split <;> omega
    rw [e]
    simp -implicitDefEqProofs (disch := first | omega | (simp only [List.length_set, List.length_replicate]; omega)) only [ir36, q0, wrap_i64, wrap_u64, wrap_u32, wrap_u16, wrap_u8, dec_t, dec_f, ite_t, ite_f, tmod_e, go_sem, Nat.reduceAdd, Nat.reduceMul, Nat.reduceSub, Nat.reduceLeDiff, Nat.reduceEqDiff, Nat.reduceBEq, Nat.reduceLT, Int.reduceLE, Int.reduceLT, Int.reduceEq, Int.reduceNeg, Int.reduceAdd, Int.reduceMul, Int.reduceSub, Int.reduceToNat, reduceCtorEq, ↓reduceIte]
theorem p_Map1 (c : Cf) (l : Lf) (a b : Int) (hl : LB c l) (hi : inI a) : callP (evalCall fns NN (d + 3)) 36 [.agg (LDc c l), I a, I b] h = .ok (I (mapF c l a b)) h :=
  callP_of (v := I (mapF c l a b)) (h' := []) rfl rfl (by rw [call_eq rfl]; exact body_Map1 _ c l a b hl hi (fun h n lo hi => p_within (d := d + 1) n lo hi) (fun h fr many size n i h1 h2 h3 => p_place fr many size n i h1 h2 h3)) rfl
theorem body_Map2 (ev : FuncId → List DV → Heap → Res DV) (c : Cf) (l : Lf) (a b : Int) (hl : LB c l)
    (q0 : ∀ h n lo hi, callP ev 23 [I n, I lo, I hi] h = .ok (B (decide (lo ≤ n ∧ n ≤ hi))) h)
    (q : ∀ h x b, callP ev 56 [I x, B b] h = .ok (I (if b then x else -1)) h) :
    evalF ev NN ir49 [.agg (LDc c l), I a, I b] [] = .ok (I (mapF c l a b)) [] := by
  obtain ⟨⟨⟨k0, k1, k2, k3, k4, k5, k6, k7, -⟩, k8⟩, b1, b2, b3, b4, b5, b6, b7, b8, b9, b10, b11⟩ := hl
  have e1 : (c.buckets + 2) * a = (2 + c.buckets) * a := by rw [Int.add_comm]
  unfold mapF
  by_cases ca : 0 ≤ a ∧ a ≤ c.maps - 1
  · by_cases cb : 0 ≤ b ∧ b ≤ 1
    · have hm : 0 ≤ (2 + c.buckets) * a ∧ (2 + c.buckets) * a ≤ 66 * 8 := ⟨Int.mul_nonneg (by omega) (by omega), Int.mul_le_mul (by omega) (by omega) (by omega) (by omega)⟩
      simp -implicitDefEqProofs (disch := first | omega | (simp only [List.length_set, List.length_replicate]; omega)) only [ir49, q0, q, e1, wrap_i64, wrap_u64, wrap_u32, wrap_u16, wrap_u8, dec_t, dec_f, ite_t, ite_f, tmod_e, go_sem, Nat.reduceAdd, Nat.reduceMul, Nat.reduceSub, Nat.reduceLeDiff, Nat.reduceEqDiff, Nat.reduceBEq, Nat.reduceLT, Int.reduceLE, Int.reduceLT, Int.reduceEq, Int.reduceNeg, Int.reduceAdd, Int.reduceMul, Int.reduceSub, Int.reduceToNat, reduceCtorEq, ↓reduceIte]
    · simp -implicitDefEqProofs (disch := first | omega | (simp only [List.length_set, List.length_replicate]; omega)) only [ir49, q0, q, e1, wrap_i64, wrap_u64, wrap_u32, wrap_u16, wrap_u8, dec_t, dec_f, ite_t, ite_f, tmod_e, go_sem, Nat.reduceAdd, Nat.reduceMul, Nat.reduceSub, Nat.reduceLeDiff, Nat.reduceEqDiff, Nat.reduceBEq, Nat.reduceLT, Int.reduceLE, Int.reduceLT, Int.reduceEq, Int.reduceNeg, Int.reduceAdd, Int.reduceMul, Int.reduceSub, Int.reduceToNat, reduceCtorEq, ↓reduceIte]
  · simp -implicitDefEqProofs (disch := first | omega | (simp only [List.length_set, List.length_replicate]; omega)) only [ir49, q0, q, e1, wrap_i64, wrap_u64, wrap_u32, wrap_u16, wrap_u8, dec_t, dec_f, ite_t, ite_f, tmod_e, go_sem, Nat.reduceAdd, Nat.reduceMul, Nat.reduceSub, Nat.reduceLeDiff, Nat.reduceEqDiff, Nat.reduceBEq, Nat.reduceLT, Int.reduceLE, Int.reduceLT, Int.reduceEq, Int.reduceNeg, Int.reduceAdd, Int.reduceMul, Int.reduceSub, Int.reduceToNat, reduceCtorEq, ↓reduceIte]
theorem p_Map2 (c : Cf) (l : Lf) (a b : Int) (hl : LB c l) : callP (evalCall fns NN (d + 2)) 49 [.agg (LDc c l), I a, I b] h = .ok (I (mapF c l a b)) h :=
  callP_of (v := I (mapF c l a b)) (h' := []) rfl rfl (by rw [call_eq rfl]; exact body_Map2 _ c l a b hl (fun h n lo hi => p_in n lo hi) (fun h x b => p_at x b)) rfl
def bucketF (c : Cf) (l : Lf) (a b : Int) : Int := if (0 ≤ a ∧ a ≤ c.maps - 1) ∧ (0 ≤ b ∧ b ≤ c.buckets - 1) then l.map + (2 + c.buckets) * a + 2 + b else -1
theorem body_Bucket1 (ev : FuncId → List DV → Heap → Res DV) (c : Cf) (l : Lf) (a b : Int) (hl : LB c l) (hi : inI a)
    (q0 : ∀ h n lo hi, callP ev 27 [I n, I lo, I hi] h = .ok (B (decide (lo ≤ n ∧ n ≤ hi))) h)
    (q : ∀ h fr many size n i, 0 ≤ many ∧ many ≤ 2000000 → 0 ≤ size ∧ size ≤ 2000000 → 0 ≤ fr ∧ fr ≤ 2000000 → callP ev 30 [I fr, I many, I size, I n, I i] h = .ok (I (plF fr many size n i)) h) :
    evalF ev NN ir37 [.agg (LDc c l), I a, I b] [] = .ok (I (bucketF c l a b)) [] := by
  obtain ⟨⟨⟨k0, k1, k2, k3, k4, k5, k6, k7, -⟩, k8⟩, b1, b2, b3, b4, b5, b6, b7, b8, b9, b10, b11⟩ := hl
  obtain ⟨hi1, hi2⟩ := hi
  by_cases hp : 0 ≤ b ∧ b ≤ c.buckets - 1
  · have e : plF l.map c.maps (2 + c.buckets) a (2 + b) = bucketF c l a b := by
      unfold plF bucketF
      split <;> split <;> first | rfl | omega
    simp -implicitDefEqProofs (disch := first | omega | (simp only [List.length_set, List.length_replicate]; omega)) only [ir37, q0, q, e, wrap_i64, wrap_u64, wrap_u32, wrap_u16, wrap_u8, dec_t, dec_f, ite_t, ite_f, tmod_e, go_sem, Nat.reduceAdd, Nat.reduceMul, Nat.reduceSub, Nat.reduceLeDiff, Nat.reduceEqDiff, Nat.reduceBEq, Nat.reduceLT, Int.reduceLE, Int.reduceLT, Int.reduceEq, Int.reduceNeg, Int.reduceAdd, Int.reduceMul, Int.reduceSub, Int.reduceToNat, reduceCtorEq, ↓reduceIte]
  · have e : bucketF c l a b = -1 := by
      unfold bucketF
      split <;> omega
    rw [e]
    simp -implicitDefEqProofs (disch := first | omega | (simp only [List.length_set, List.length_replicate]; omega)) only [ir37, q0, wrap_i64, wrap_u64, wrap_u32, wrap_u16, wrap_u8, dec_t, dec_f, ite_t, ite_f, tmod_e, go_sem, Nat.reduceAdd, Nat.reduceMul, Nat.reduceSub, Nat.reduceLeDiff, Nat.reduceEqDiff, Nat.reduceBEq, Nat.reduceLT, Int.reduceLE, Int.reduceLT, Int.reduceEq, Int.reduceNeg, Int.reduceAdd, Int.reduceMul, Int.reduceSub, Int.reduceToNat, reduceCtorEq, ↓reduceIte]
theorem p_Bucket1 (c : Cf) (l : Lf) (a b : Int) (hl : LB c l) (hi : inI a) : callP (evalCall fns NN (d + 3)) 37 [.agg (LDc c l), I a, I b] h = .ok (I (bucketF c l a b)) h :=
  callP_of (v := I (bucketF c l a b)) (h' := []) rfl rfl (by rw [call_eq rfl]; exact body_Bucket1 _ c l a b hl hi (fun h n lo hi => p_within (d := d + 1) n lo hi) (fun h fr many size n i h1 h2 h3 => p_place fr many size n i h1 h2 h3)) rfl
theorem body_Bucket2 (ev : FuncId → List DV → Heap → Res DV) (c : Cf) (l : Lf) (a b : Int) (hl : LB c l)
    (q0 : ∀ h n lo hi, callP ev 23 [I n, I lo, I hi] h = .ok (B (decide (lo ≤ n ∧ n ≤ hi))) h)
    (q : ∀ h x b, callP ev 56 [I x, B b] h = .ok (I (if b then x else -1)) h) :
    evalF ev NN ir50 [.agg (LDc c l), I a, I b] [] = .ok (I (bucketF c l a b)) [] := by
  obtain ⟨⟨⟨k0, k1, k2, k3, k4, k5, k6, k7, -⟩, k8⟩, b1, b2, b3, b4, b5, b6, b7, b8, b9, b10, b11⟩ := hl
  have e1 : (c.buckets + 2) * a = (2 + c.buckets) * a := by rw [Int.add_comm]
  unfold bucketF
  by_cases ca : 0 ≤ a ∧ a ≤ c.maps - 1
  · by_cases cb : 0 ≤ b ∧ b ≤ c.buckets - 1
    · have hm : 0 ≤ (2 + c.buckets) * a ∧ (2 + c.buckets) * a ≤ 66 * 8 := ⟨Int.mul_nonneg (by omega) (by omega), Int.mul_le_mul (by omega) (by omega) (by omega) (by omega)⟩
      simp -implicitDefEqProofs (disch := first | omega | (simp only [List.length_set, List.length_replicate]; omega)) only [ir50, q0, q, e1, wrap_i64, wrap_u64, wrap_u32, wrap_u16, wrap_u8, dec_t, dec_f, ite_t, ite_f, tmod_e, go_sem, Nat.reduceAdd, Nat.reduceMul, Nat.reduceSub, Nat.reduceLeDiff, Nat.reduceEqDiff, Nat.reduceBEq, Nat.reduceLT, Int.reduceLE, Int.reduceLT, Int.reduceEq, Int.reduceNeg, Int.reduceAdd, Int.reduceMul, Int.reduceSub, Int.reduceToNat, reduceCtorEq, ↓reduceIte]
    · simp -implicitDefEqProofs (disch := first | omega | (simp only [List.length_set, List.length_replicate]; omega)) only [ir50, q0, q, e1, wrap_i64, wrap_u64, wrap_u32, wrap_u16, wrap_u8, dec_t, dec_f, ite_t, ite_f, tmod_e, go_sem, Nat.reduceAdd, Nat.reduceMul, Nat.reduceSub, Nat.reduceLeDiff, Nat.reduceEqDiff, Nat.reduceBEq, Nat.reduceLT, Int.reduceLE, Int.reduceLT, Int.reduceEq, Int.reduceNeg, Int.reduceAdd, Int.reduceMul, Int.reduceSub, Int.reduceToNat, reduceCtorEq, ↓reduceIte]
  · simp -implicitDefEqProofs (disch := first | omega | (simp only [List.length_set, List.length_replicate]; omega)) only [ir50, q0, q, e1, wrap_i64, wrap_u64, wrap_u32, wrap_u16, wrap_u8, dec_t, dec_f, ite_t, ite_f, tmod_e, go_sem, Nat.reduceAdd, Nat.reduceMul, Nat.reduceSub, Nat.reduceLeDiff, Nat.reduceEqDiff, Nat.reduceBEq, Nat.reduceLT, Int.reduceLE, Int.reduceLT, Int.reduceEq, Int.reduceNeg, Int.reduceAdd, Int.reduceMul, Int.reduceSub, Int.reduceToNat, reduceCtorEq, ↓reduceIte]
theorem p_Bucket2 (c : Cf) (l : Lf) (a b : Int) (hl : LB c l) : callP (evalCall fns NN (d + 2)) 50 [.agg (LDc c l), I a, I b] h = .ok (I (bucketF c l a b)) h :=
  callP_of (v := I (bucketF c l a b)) (h' := []) rfl rfl (by rw [call_eq rfl]; exact body_Bucket2 _ c l a b hl (fun h n lo hi => p_in n lo hi) (fun h x b => p_at x b)) rfl
def topF (c : Cf) (l : Lf) (a : Int) : Int := if 0 ≤ a ∧ a ≤ c.stacks - 1 then l.stack + (1 + c.slots) * a else -1
theorem body_Top1 (ev : FuncId → List DV → Heap → Res DV) (c : Cf) (l : Lf) (a : Int) (hl : LB c l) (hi : inI a)
    (q0 : ∀ h n lo hi, callP ev 27 [I n, I lo, I hi] h = .ok (B (decide (lo ≤ n ∧ n ≤ hi))) h)
    (q : ∀ h fr many size n i, 0 ≤ many ∧ many ≤ 2000000 → 0 ≤ size ∧ size ≤ 2000000 → 0 ≤ fr ∧ fr ≤ 2000000 → callP ev 30 [I fr, I many, I size, I n, I i] h = .ok (I (plF fr many size n i)) h) :
    evalF ev NN ir38 [.agg (LDc c l), I a] [] = .ok (I (topF c l a)) [] := by
  obtain ⟨⟨⟨k0, k1, k2, k3, k4, k5, k6, k7, -⟩, k8⟩, b1, b2, b3, b4, b5, b6, b7, b8, b9, b10, b11⟩ := hl
  obtain ⟨hi1, hi2⟩ := hi
  have e : plF l.stack c.stacks (1 + c.slots) a 0 = topF c l a := by
      unfold plF topF
      split <;> split <;> first | rfl | omega
  simp -implicitDefEqProofs (disch := first | omega | (simp only [List.length_set, List.length_replicate]; omega)) only [ir38, q0, q, e, wrap_i64, wrap_u64, wrap_u32, wrap_u16, wrap_u8, dec_t, dec_f, ite_t, ite_f, tmod_e, go_sem, Nat.reduceAdd, Nat.reduceMul, Nat.reduceSub, Nat.reduceLeDiff, Nat.reduceEqDiff, Nat.reduceBEq, Nat.reduceLT, Int.reduceLE, Int.reduceLT, Int.reduceEq, Int.reduceNeg, Int.reduceAdd, Int.reduceMul, Int.reduceSub, Int.reduceToNat, reduceCtorEq, ↓reduceIte]
theorem p_Top1 (c : Cf) (l : Lf) (a : Int) (hl : LB c l) (hi : inI a) : callP (evalCall fns NN (d + 3)) 38 [.agg (LDc c l), I a] h = .ok (I (topF c l a)) h :=
  callP_of (v := I (topF c l a)) (h' := []) rfl rfl (by rw [call_eq rfl]; exact body_Top1 _ c l a hl hi (fun h n lo hi => p_within (d := d + 1) n lo hi) (fun h fr many size n i h1 h2 h3 => p_place fr many size n i h1 h2 h3)) rfl
theorem body_Top2 (ev : FuncId → List DV → Heap → Res DV) (c : Cf) (l : Lf) (a : Int) (hl : LB c l)
    (q0 : ∀ h n lo hi, callP ev 23 [I n, I lo, I hi] h = .ok (B (decide (lo ≤ n ∧ n ≤ hi))) h)
    (q : ∀ h x b, callP ev 56 [I x, B b] h = .ok (I (if b then x else -1)) h) :
    evalF ev NN ir51 [.agg (LDc c l), I a] [] = .ok (I (topF c l a)) [] := by
  obtain ⟨⟨⟨k0, k1, k2, k3, k4, k5, k6, k7, -⟩, k8⟩, b1, b2, b3, b4, b5, b6, b7, b8, b9, b10, b11⟩ := hl
  have e1 : (c.slots + 1) * a = (1 + c.slots) * a := by rw [Int.add_comm c.slots]
  unfold topF
  by_cases ca : 0 ≤ a ∧ a ≤ c.stacks - 1
  · have hm : 0 ≤ (1 + c.slots) * a ∧ (1 + c.slots) * a ≤ 9 * 8 := ⟨Int.mul_nonneg (by omega) (by omega), Int.mul_le_mul (by omega) (by omega) (by omega) (by omega)⟩
    simp -implicitDefEqProofs (disch := first | omega | (simp only [List.length_set, List.length_replicate]; omega)) only [ir51, q0, q, e1, wrap_i64, wrap_u64, wrap_u32, wrap_u16, wrap_u8, dec_t, dec_f, ite_t, ite_f, tmod_e, go_sem, Nat.reduceAdd, Nat.reduceMul, Nat.reduceSub, Nat.reduceLeDiff, Nat.reduceEqDiff, Nat.reduceBEq, Nat.reduceLT, Int.reduceLE, Int.reduceLT, Int.reduceEq, Int.reduceNeg, Int.reduceAdd, Int.reduceMul, Int.reduceSub, Int.reduceToNat, reduceCtorEq, ↓reduceIte]
  · simp -implicitDefEqProofs (disch := first | omega | (simp only [List.length_set, List.length_replicate]; omega)) only [ir51, q0, q, e1, wrap_i64, wrap_u64, wrap_u32, wrap_u16, wrap_u8, dec_t, dec_f, ite_t, ite_f, tmod_e, go_sem, Nat.reduceAdd, Nat.reduceMul, Nat.reduceSub, Nat.reduceLeDiff, Nat.reduceEqDiff, Nat.reduceBEq, Nat.reduceLT, Int.reduceLE, Int.reduceLT, Int.reduceEq, Int.reduceNeg, Int.reduceAdd, Int.reduceMul, Int.reduceSub, Int.reduceToNat, reduceCtorEq, ↓reduceIte]
theorem p_Top2 (c : Cf) (l : Lf) (a : Int) (hl : LB c l) : callP (evalCall fns NN (d + 2)) 51 [.agg (LDc c l), I a] h = .ok (I (topF c l a)) h :=
  callP_of (v := I (topF c l a)) (h' := []) rfl rfl (by rw [call_eq rfl]; exact body_Top2 _ c l a hl (fun h n lo hi => p_in n lo hi) (fun h x b => p_at x b)) rfl
def slotF (c : Cf) (l : Lf) (a b : Int) : Int := if (0 ≤ a ∧ a ≤ c.stacks - 1) ∧ (0 ≤ b ∧ b ≤ c.slots - 1) then l.stack + (1 + c.slots) * a + 1 + b else -1
theorem body_Slot1 (ev : FuncId → List DV → Heap → Res DV) (c : Cf) (l : Lf) (a b : Int) (hl : LB c l) (hi : inI a)
    (q0 : ∀ h n lo hi, callP ev 27 [I n, I lo, I hi] h = .ok (B (decide (lo ≤ n ∧ n ≤ hi))) h)
    (q : ∀ h fr many size n i, 0 ≤ many ∧ many ≤ 2000000 → 0 ≤ size ∧ size ≤ 2000000 → 0 ≤ fr ∧ fr ≤ 2000000 → callP ev 30 [I fr, I many, I size, I n, I i] h = .ok (I (plF fr many size n i)) h) :
    evalF ev NN ir39 [.agg (LDc c l), I a, I b] [] = .ok (I (slotF c l a b)) [] := by
  obtain ⟨⟨⟨k0, k1, k2, k3, k4, k5, k6, k7, -⟩, k8⟩, b1, b2, b3, b4, b5, b6, b7, b8, b9, b10, b11⟩ := hl
  obtain ⟨hi1, hi2⟩ := hi
  by_cases hp : 0 ≤ b ∧ b ≤ c.slots - 1
  · have e : plF l.stack c.stacks (1 + c.slots) a (1 + b) = slotF c l a b := by
      unfold plF slotF
      split <;> split <;> first | rfl | omega
    simp -implicitDefEqProofs (disch := first | omega | (simp only [List.length_set, List.length_replicate]; omega)) only [ir39, q0, q, e, wrap_i64, wrap_u64, wrap_u32, wrap_u16, wrap_u8, dec_t, dec_f, ite_t, ite_f, tmod_e, go_sem, Nat.reduceAdd, Nat.reduceMul, Nat.reduceSub, Nat.reduceLeDiff, Nat.reduceEqDiff, Nat.reduceBEq, Nat.reduceLT, Int.reduceLE, Int.reduceLT, Int.reduceEq, Int.reduceNeg, Int.reduceAdd, Int.reduceMul, Int.reduceSub, Int.reduceToNat, reduceCtorEq, ↓reduceIte]
  · have e : slotF c l a b = -1 := by
      unfold slotF
      split <;> omega
    rw [e]
    simp -implicitDefEqProofs (disch := first | omega | (simp only [List.length_set, List.length_replicate]; omega)) only [ir39, q0, wrap_i64, wrap_u64, wrap_u32, wrap_u16, wrap_u8, dec_t, dec_f, ite_t, ite_f, tmod_e, go_sem, Nat.reduceAdd, Nat.reduceMul, Nat.reduceSub, Nat.reduceLeDiff, Nat.reduceEqDiff, Nat.reduceBEq, Nat.reduceLT, Int.reduceLE, Int.reduceLT, Int.reduceEq, Int.reduceNeg, Int.reduceAdd, Int.reduceMul, Int.reduceSub, Int.reduceToNat, reduceCtorEq, ↓reduceIte]
theorem p_Slot1 (c : Cf) (l : Lf) (a b : Int) (hl : LB c l) (hi : inI a) : callP (evalCall fns NN (d + 3)) 39 [.agg (LDc c l), I a, I b] h = .ok (I (slotF c l a b)) h :=
  callP_of (v := I (slotF c l a b)) (h' := []) rfl rfl (by rw [call_eq rfl]; exact body_Slot1 _ c l a b hl hi (fun h n lo hi => p_within (d := d + 1) n lo hi) (fun h fr many size n i h1 h2 h3 => p_place fr many size n i h1 h2 h3)) rfl
theorem body_Slot2 (ev : FuncId → List DV → Heap → Res DV) (c : Cf) (l : Lf) (a b : Int) (hl : LB c l)
    (q0 : ∀ h n lo hi, callP ev 23 [I n, I lo, I hi] h = .ok (B (decide (lo ≤ n ∧ n ≤ hi))) h)
    (q : ∀ h x b, callP ev 56 [I x, B b] h = .ok (I (if b then x else -1)) h) :
    evalF ev NN ir52 [.agg (LDc c l), I a, I b] [] = .ok (I (slotF c l a b)) [] := by
  obtain ⟨⟨⟨k0, k1, k2, k3, k4, k5, k6, k7, -⟩, k8⟩, b1, b2, b3, b4, b5, b6, b7, b8, b9, b10, b11⟩ := hl
  have e1 : (c.slots + 1) * a = (1 + c.slots) * a := by rw [Int.add_comm c.slots]
  unfold slotF
  by_cases ca : 0 ≤ a ∧ a ≤ c.stacks - 1
  · by_cases cb : 0 ≤ b ∧ b ≤ c.slots - 1
    · have hm : 0 ≤ (1 + c.slots) * a ∧ (1 + c.slots) * a ≤ 9 * 8 := ⟨Int.mul_nonneg (by omega) (by omega), Int.mul_le_mul (by omega) (by omega) (by omega) (by omega)⟩
      simp -implicitDefEqProofs (disch := first | omega | (simp only [List.length_set, List.length_replicate]; omega)) only [ir52, q0, q, e1, wrap_i64, wrap_u64, wrap_u32, wrap_u16, wrap_u8, dec_t, dec_f, ite_t, ite_f, tmod_e, go_sem, Nat.reduceAdd, Nat.reduceMul, Nat.reduceSub, Nat.reduceLeDiff, Nat.reduceEqDiff, Nat.reduceBEq, Nat.reduceLT, Int.reduceLE, Int.reduceLT, Int.reduceEq, Int.reduceNeg, Int.reduceAdd, Int.reduceMul, Int.reduceSub, Int.reduceToNat, reduceCtorEq, ↓reduceIte]
    · simp -implicitDefEqProofs (disch := first | omega | (simp only [List.length_set, List.length_replicate]; omega)) only [ir52, q0, q, e1, wrap_i64, wrap_u64, wrap_u32, wrap_u16, wrap_u8, dec_t, dec_f, ite_t, ite_f, tmod_e, go_sem, Nat.reduceAdd, Nat.reduceMul, Nat.reduceSub, Nat.reduceLeDiff, Nat.reduceEqDiff, Nat.reduceBEq, Nat.reduceLT, Int.reduceLE, Int.reduceLT, Int.reduceEq, Int.reduceNeg, Int.reduceAdd, Int.reduceMul, Int.reduceSub, Int.reduceToNat, reduceCtorEq, ↓reduceIte]
  · simp -implicitDefEqProofs (disch := first | omega | (simp only [List.length_set, List.length_replicate]; omega)) only [ir52, q0, q, e1, wrap_i64, wrap_u64, wrap_u32, wrap_u16, wrap_u8, dec_t, dec_f, ite_t, ite_f, tmod_e, go_sem, Nat.reduceAdd, Nat.reduceMul, Nat.reduceSub, Nat.reduceLeDiff, Nat.reduceEqDiff, Nat.reduceBEq, Nat.reduceLT, Int.reduceLE, Int.reduceLT, Int.reduceEq, Int.reduceNeg, Int.reduceAdd, Int.reduceMul, Int.reduceSub, Int.reduceToNat, reduceCtorEq, ↓reduceIte]
theorem p_Slot2 (c : Cf) (l : Lf) (a b : Int) (hl : LB c l) : callP (evalCall fns NN (d + 2)) 52 [.agg (LDc c l), I a, I b] h = .ok (I (slotF c l a b)) h :=
  callP_of (v := I (slotF c l a b)) (h' := []) rfl rfl (by rw [call_eq rfl]; exact body_Slot2 _ c l a b hl (fun h n lo hi => p_in n lo hi) (fun h x b => p_at x b)) rfl
def headF (c : Cf) (l : Lf) (a : Int) : Int := if 0 ≤ a ∧ a ≤ c.chans - 1 then l.chan + 2 * a else -1
theorem body_Head1 (ev : FuncId → List DV → Heap → Res DV) (c : Cf) (l : Lf) (a : Int) (hl : LB c l) (hi : inI a)
    (q0 : ∀ h n lo hi, callP ev 27 [I n, I lo, I hi] h = .ok (B (decide (lo ≤ n ∧ n ≤ hi))) h)
    (q : ∀ h fr many size n i, 0 ≤ many ∧ many ≤ 2000000 → 0 ≤ size ∧ size ≤ 2000000 → 0 ≤ fr ∧ fr ≤ 2000000 → callP ev 30 [I fr, I many, I size, I n, I i] h = .ok (I (plF fr many size n i)) h) :
    evalF ev NN ir40 [.agg (LDc c l), I a] [] = .ok (I (headF c l a)) [] := by
  obtain ⟨⟨⟨k0, k1, k2, k3, k4, k5, k6, k7, -⟩, k8⟩, b1, b2, b3, b4, b5, b6, b7, b8, b9, b10, b11⟩ := hl
  obtain ⟨hi1, hi2⟩ := hi
  have e : plF l.chan c.chans 2 a 0 = headF c l a := by
      unfold plF headF
      split <;> split <;> first | rfl | omega
  simp -implicitDefEqProofs (disch := first | omega | (simp only [List.length_set, List.length_replicate]; omega)) only [ir40, q0, q, e, wrap_i64, wrap_u64, wrap_u32, wrap_u16, wrap_u8, dec_t, dec_f, ite_t, ite_f, tmod_e, go_sem, Nat.reduceAdd, Nat.reduceMul, Nat.reduceSub, Nat.reduceLeDiff, Nat.reduceEqDiff, Nat.reduceBEq, Nat.reduceLT, Int.reduceLE, Int.reduceLT, Int.reduceEq, Int.reduceNeg, Int.reduceAdd, Int.reduceMul, Int.reduceSub, Int.reduceToNat, reduceCtorEq, ↓reduceIte]
theorem p_Head1 (c : Cf) (l : Lf) (a : Int) (hl : LB c l) (hi : inI a) : callP (evalCall fns NN (d + 3)) 40 [.agg (LDc c l), I a] h = .ok (I (headF c l a)) h :=
  callP_of (v := I (headF c l a)) (h' := []) rfl rfl (by rw [call_eq rfl]; exact body_Head1 _ c l a hl hi (fun h n lo hi => p_within (d := d + 1) n lo hi) (fun h fr many size n i h1 h2 h3 => p_place fr many size n i h1 h2 h3)) rfl
theorem body_Head2 (ev : FuncId → List DV → Heap → Res DV) (c : Cf) (l : Lf) (a : Int) (hl : LB c l)
    (q0 : ∀ h n lo hi, callP ev 23 [I n, I lo, I hi] h = .ok (B (decide (lo ≤ n ∧ n ≤ hi))) h)
    (q : ∀ h x b, callP ev 56 [I x, B b] h = .ok (I (if b then x else -1)) h) :
    evalF ev NN ir53 [.agg (LDc c l), I a] [] = .ok (I (headF c l a)) [] := by
  obtain ⟨⟨⟨k0, k1, k2, k3, k4, k5, k6, k7, -⟩, k8⟩, b1, b2, b3, b4, b5, b6, b7, b8, b9, b10, b11⟩ := hl
  unfold headF
  by_cases ca : 0 ≤ a ∧ a ≤ c.chans - 1
  · skip
    simp -implicitDefEqProofs (disch := first | omega | (simp only [List.length_set, List.length_replicate]; omega)) only [ir53, q0, q, wrap_i64, wrap_u64, wrap_u32, wrap_u16, wrap_u8, dec_t, dec_f, ite_t, ite_f, tmod_e, go_sem, Nat.reduceAdd, Nat.reduceMul, Nat.reduceSub, Nat.reduceLeDiff, Nat.reduceEqDiff, Nat.reduceBEq, Nat.reduceLT, Int.reduceLE, Int.reduceLT, Int.reduceEq, Int.reduceNeg, Int.reduceAdd, Int.reduceMul, Int.reduceSub, Int.reduceToNat, reduceCtorEq, ↓reduceIte]
  · simp -implicitDefEqProofs (disch := first | omega | (simp only [List.length_set, List.length_replicate]; omega)) only [ir53, q0, q, wrap_i64, wrap_u64, wrap_u32, wrap_u16, wrap_u8, dec_t, dec_f, ite_t, ite_f, tmod_e, go_sem, Nat.reduceAdd, Nat.reduceMul, Nat.reduceSub, Nat.reduceLeDiff, Nat.reduceEqDiff, Nat.reduceBEq, Nat.reduceLT, Int.reduceLE, Int.reduceLT, Int.reduceEq, Int.reduceNeg, Int.reduceAdd, Int.reduceMul, Int.reduceSub, Int.reduceToNat, reduceCtorEq, ↓reduceIte]
theorem p_Head2 (c : Cf) (l : Lf) (a : Int) (hl : LB c l) : callP (evalCall fns NN (d + 2)) 53 [.agg (LDc c l), I a] h = .ok (I (headF c l a)) h :=
  callP_of (v := I (headF c l a)) (h' := []) rfl rfl (by rw [call_eq rfl]; exact body_Head2 _ c l a hl (fun h n lo hi => p_in n lo hi) (fun h x b => p_at x b)) rfl
def tailF (c : Cf) (l : Lf) (a : Int) : Int := if 0 ≤ a ∧ a ≤ c.chans - 1 then l.chan + 2 * a + 1 else -1
theorem body_Tail1 (ev : FuncId → List DV → Heap → Res DV) (c : Cf) (l : Lf) (a : Int) (hl : LB c l) (hi : inI a)
    (q0 : ∀ h n lo hi, callP ev 27 [I n, I lo, I hi] h = .ok (B (decide (lo ≤ n ∧ n ≤ hi))) h)
    (q : ∀ h fr many size n i, 0 ≤ many ∧ many ≤ 2000000 → 0 ≤ size ∧ size ≤ 2000000 → 0 ≤ fr ∧ fr ≤ 2000000 → callP ev 30 [I fr, I many, I size, I n, I i] h = .ok (I (plF fr many size n i)) h) :
    evalF ev NN ir41 [.agg (LDc c l), I a] [] = .ok (I (tailF c l a)) [] := by
  obtain ⟨⟨⟨k0, k1, k2, k3, k4, k5, k6, k7, -⟩, k8⟩, b1, b2, b3, b4, b5, b6, b7, b8, b9, b10, b11⟩ := hl
  obtain ⟨hi1, hi2⟩ := hi
  have e : plF l.chan c.chans 2 a 1 = tailF c l a := by
      unfold plF tailF
      split <;> split <;> first | rfl | omega
  simp -implicitDefEqProofs (disch := first | omega | (simp only [List.length_set, List.length_replicate]; omega)) only [ir41, q0, q, e, wrap_i64, wrap_u64, wrap_u32, wrap_u16, wrap_u8, dec_t, dec_f, ite_t, ite_f, tmod_e, go_sem, Nat.reduceAdd, Nat.reduceMul, Nat.reduceSub, Nat.reduceLeDiff, Nat.reduceEqDiff, Nat.reduceBEq, Nat.reduceLT, Int.reduceLE, Int.reduceLT, Int.reduceEq, Int.reduceNeg, Int.reduceAdd, Int.reduceMul, Int.reduceSub, Int.reduceToNat, reduceCtorEq, ↓reduceIte]
theorem p_Tail1 (c : Cf) (l : Lf) (a : Int) (hl : LB c l) (hi : inI a) : callP (evalCall fns NN (d + 3)) 41 [.agg (LDc c l), I a] h = .ok (I (tailF c l a)) h :=
  callP_of (v := I (tailF c l a)) (h' := []) rfl rfl (by rw [call_eq rfl]; exact body_Tail1 _ c l a hl hi (fun h n lo hi => p_within (d := d + 1) n lo hi) (fun h fr many size n i h1 h2 h3 => p_place fr many size n i h1 h2 h3)) rfl
theorem body_Tail2 (ev : FuncId → List DV → Heap → Res DV) (c : Cf) (l : Lf) (a : Int) (hl : LB c l)
    (q0 : ∀ h n lo hi, callP ev 23 [I n, I lo, I hi] h = .ok (B (decide (lo ≤ n ∧ n ≤ hi))) h)
    (q : ∀ h x b, callP ev 56 [I x, B b] h = .ok (I (if b then x else -1)) h) :
    evalF ev NN ir54 [.agg (LDc c l), I a] [] = .ok (I (tailF c l a)) [] := by
  obtain ⟨⟨⟨k0, k1, k2, k3, k4, k5, k6, k7, -⟩, k8⟩, b1, b2, b3, b4, b5, b6, b7, b8, b9, b10, b11⟩ := hl
  unfold tailF
  by_cases ca : 0 ≤ a ∧ a ≤ c.chans - 1
  · skip
    simp -implicitDefEqProofs (disch := first | omega | (simp only [List.length_set, List.length_replicate]; omega)) only [ir54, q0, q, wrap_i64, wrap_u64, wrap_u32, wrap_u16, wrap_u8, dec_t, dec_f, ite_t, ite_f, tmod_e, go_sem, Nat.reduceAdd, Nat.reduceMul, Nat.reduceSub, Nat.reduceLeDiff, Nat.reduceEqDiff, Nat.reduceBEq, Nat.reduceLT, Int.reduceLE, Int.reduceLT, Int.reduceEq, Int.reduceNeg, Int.reduceAdd, Int.reduceMul, Int.reduceSub, Int.reduceToNat, reduceCtorEq, ↓reduceIte]
  · simp -implicitDefEqProofs (disch := first | omega | (simp only [List.length_set, List.length_replicate]; omega)) only [ir54, q0, q, wrap_i64, wrap_u64, wrap_u32, wrap_u16, wrap_u8, dec_t, dec_f, ite_t, ite_f, tmod_e, go_sem, Nat.reduceAdd, Nat.reduceMul, Nat.reduceSub, Nat.reduceLeDiff, Nat.reduceEqDiff, Nat.reduceBEq, Nat.reduceLT, Int.reduceLE, Int.reduceLT, Int.reduceEq, Int.reduceNeg, Int.reduceAdd, Int.reduceMul, Int.reduceSub, Int.reduceToNat, reduceCtorEq, ↓reduceIte]
theorem p_Tail2 (c : Cf) (l : Lf) (a : Int) (hl : LB c l) : callP (evalCall fns NN (d + 2)) 54 [.agg (LDc c l), I a] h = .ok (I (tailF c l a)) h :=
  callP_of (v := I (tailF c l a)) (h' := []) rfl rfl (by rw [call_eq rfl]; exact body_Tail2 _ c l a hl (fun h n lo hi => p_in n lo hi) (fun h x b => p_at x b)) rfl
def nodeF (c : Cf) (l : Lf) (a b : Int) : Int := if (1 ≤ a ∧ a ≤ c.nodes) ∧ (0 ≤ b ∧ b ≤ 7) then l.node + 8 * (a - 1) + b else -1
theorem body_Node1 (ev : FuncId → List DV → Heap → Res DV) (c : Cf) (l : Lf) (a b : Int) (hl : LB c l) (hi : inI a)
    (q0 : ∀ h n lo hi, callP ev 27 [I n, I lo, I hi] h = .ok (B (decide (lo ≤ n ∧ n ≤ hi))) h)
    (q : ∀ h fr many size n i, 0 ≤ many ∧ many ≤ 2000000 → 0 ≤ size ∧ size ≤ 2000000 → 0 ≤ fr ∧ fr ≤ 2000000 → callP ev 30 [I fr, I many, I size, I n, I i] h = .ok (I (plF fr many size n i)) h) :
    evalF ev NN ir21 [.agg (LDc c l), I a, I b] [] = .ok (I (nodeF c l a b)) [] := by
  obtain ⟨⟨⟨k0, k1, k2, k3, k4, k5, k6, k7, -⟩, k8⟩, b1, b2, b3, b4, b5, b6, b7, b8, b9, b10, b11⟩ := hl
  obtain ⟨hi1, hi2⟩ := hi
  by_cases hp : 1 ≤ a
  · have e : plF l.node c.nodes 8 (a - 1) b = nodeF c l a b := by
      unfold plF nodeF
      split <;> split <;> first | rfl | omega
    simp -implicitDefEqProofs (disch := first | omega | (simp only [List.length_set, List.length_replicate]; omega)) only [ir21, q0, q, e, wrap_i64, wrap_u64, wrap_u32, wrap_u16, wrap_u8, dec_t, dec_f, ite_t, ite_f, tmod_e, go_sem, Nat.reduceAdd, Nat.reduceMul, Nat.reduceSub, Nat.reduceLeDiff, Nat.reduceEqDiff, Nat.reduceBEq, Nat.reduceLT, Int.reduceLE, Int.reduceLT, Int.reduceEq, Int.reduceNeg, Int.reduceAdd, Int.reduceMul, Int.reduceSub, Int.reduceToNat, reduceCtorEq, ↓reduceIte]
  · have e : nodeF c l a b = -1 := by
      unfold nodeF
      split <;> omega
    rw [e]
    simp -implicitDefEqProofs (disch := first | omega | (simp only [List.length_set, List.length_replicate]; omega)) only [ir21, q0, wrap_i64, wrap_u64, wrap_u32, wrap_u16, wrap_u8, dec_t, dec_f, ite_t, ite_f, tmod_e, go_sem, Nat.reduceAdd, Nat.reduceMul, Nat.reduceSub, Nat.reduceLeDiff, Nat.reduceEqDiff, Nat.reduceBEq, Nat.reduceLT, Int.reduceLE, Int.reduceLT, Int.reduceEq, Int.reduceNeg, Int.reduceAdd, Int.reduceMul, Int.reduceSub, Int.reduceToNat, reduceCtorEq, ↓reduceIte]
theorem p_Node1 (c : Cf) (l : Lf) (a b : Int) (hl : LB c l) (hi : inI a) : callP (evalCall fns NN (d + 3)) 21 [.agg (LDc c l), I a, I b] h = .ok (I (nodeF c l a b)) h :=
  callP_of (v := I (nodeF c l a b)) (h' := []) rfl rfl (by rw [call_eq rfl]; exact body_Node1 _ c l a b hl hi (fun h n lo hi => p_within (d := d + 1) n lo hi) (fun h fr many size n i h1 h2 h3 => p_place fr many size n i h1 h2 h3)) rfl
theorem body_Node2 (ev : FuncId → List DV → Heap → Res DV) (c : Cf) (l : Lf) (a b : Int) (hl : LB c l)
    (q0 : ∀ h n lo hi, callP ev 23 [I n, I lo, I hi] h = .ok (B (decide (lo ≤ n ∧ n ≤ hi))) h)
    (q : ∀ h x b, callP ev 56 [I x, B b] h = .ok (I (if b then x else -1)) h) :
    evalF ev NN ir55 [.agg (LDc c l), I a, I b] [] = .ok (I (nodeF c l a b)) [] := by
  obtain ⟨⟨⟨k0, k1, k2, k3, k4, k5, k6, k7, -⟩, k8⟩, b1, b2, b3, b4, b5, b6, b7, b8, b9, b10, b11⟩ := hl
  unfold nodeF
  by_cases ca : 1 ≤ a ∧ a ≤ c.nodes
  · by_cases cb : 0 ≤ b ∧ b ≤ 7
    · skip
      simp -implicitDefEqProofs (disch := first | omega | (simp only [List.length_set, List.length_replicate]; omega)) only [ir55, q0, q, wrap_i64, wrap_u64, wrap_u32, wrap_u16, wrap_u8, dec_t, dec_f, ite_t, ite_f, tmod_e, go_sem, Nat.reduceAdd, Nat.reduceMul, Nat.reduceSub, Nat.reduceLeDiff, Nat.reduceEqDiff, Nat.reduceBEq, Nat.reduceLT, Int.reduceLE, Int.reduceLT, Int.reduceEq, Int.reduceNeg, Int.reduceAdd, Int.reduceMul, Int.reduceSub, Int.reduceToNat, reduceCtorEq, ↓reduceIte]
    · simp -implicitDefEqProofs (disch := first | omega | (simp only [List.length_set, List.length_replicate]; omega)) only [ir55, q0, q, wrap_i64, wrap_u64, wrap_u32, wrap_u16, wrap_u8, dec_t, dec_f, ite_t, ite_f, tmod_e, go_sem, Nat.reduceAdd, Nat.reduceMul, Nat.reduceSub, Nat.reduceLeDiff, Nat.reduceEqDiff, Nat.reduceBEq, Nat.reduceLT, Int.reduceLE, Int.reduceLT, Int.reduceEq, Int.reduceNeg, Int.reduceAdd, Int.reduceMul, Int.reduceSub, Int.reduceToNat, reduceCtorEq, ↓reduceIte]
  · simp -implicitDefEqProofs (disch := first | omega | (simp only [List.length_set, List.length_replicate]; omega)) only [ir55, q0, q, wrap_i64, wrap_u64, wrap_u32, wrap_u16, wrap_u8, dec_t, dec_f, ite_t, ite_f, tmod_e, go_sem, Nat.reduceAdd, Nat.reduceMul, Nat.reduceSub, Nat.reduceLeDiff, Nat.reduceEqDiff, Nat.reduceBEq, Nat.reduceLT, Int.reduceLE, Int.reduceLT, Int.reduceEq, Int.reduceNeg, Int.reduceAdd, Int.reduceMul, Int.reduceSub, Int.reduceToNat, reduceCtorEq, ↓reduceIte]
theorem p_Node2 (c : Cf) (l : Lf) (a b : Int) (hl : LB c l) : callP (evalCall fns NN (d + 2)) 55 [.agg (LDc c l), I a, I b] h = .ok (I (nodeF c l a b)) h :=
  callP_of (v := I (nodeF c l a b)) (h' := []) rfl rfl (by rw [call_eq rfl]; exact body_Node2 _ c l a b hl (fun h n lo hi => p_in n lo hi) (fun h x b => p_at x b)) rfl

/-- The places of all kinds of two numbers. -/
def plsF (c : Cf) (l : Lf) (a b : Int) : List Int := [aliveF c l a, ownerF c l a, resvF c l a b, dqF c l a b, ringF c l a b, taskF c l a b, cellF c l a, mapF c l a b, bucketF c l a b, topF c l a, slotF c l a b, headF c l a, tailF c l a, nodeF c l a b]
theorem body_places (ev : FuncId → List DV → Heap → Res DV) (c : Cf) (l : Lf) (a b : Int)
    (q0 : ∀ h, callP ev 31 [.agg (LDc c l), I a] h = .ok (I (aliveF c l a)) h)
    (q1 : ∀ h, callP ev 32 [.agg (LDc c l), I a] h = .ok (I (ownerF c l a)) h)
    (q2 : ∀ h, callP ev 33 [.agg (LDc c l), I a, I b] h = .ok (I (resvF c l a b)) h)
    (q3 : ∀ h, callP ev 34 [.agg (LDc c l), I a, I b] h = .ok (I (dqF c l a b)) h)
    (q4 : ∀ h, callP ev 15 [.agg (LDc c l), I a, I b] h = .ok (I (ringF c l a b)) h)
    (q5 : ∀ h, callP ev 20 [.agg (LDc c l), I a, I b] h = .ok (I (taskF c l a b)) h)
    (q6 : ∀ h, callP ev 35 [.agg (LDc c l), I a] h = .ok (I (cellF c l a)) h)
    (q7 : ∀ h, callP ev 36 [.agg (LDc c l), I a, I b] h = .ok (I (mapF c l a b)) h)
    (q8 : ∀ h, callP ev 37 [.agg (LDc c l), I a, I b] h = .ok (I (bucketF c l a b)) h)
    (q9 : ∀ h, callP ev 38 [.agg (LDc c l), I a] h = .ok (I (topF c l a)) h)
    (q10 : ∀ h, callP ev 39 [.agg (LDc c l), I a, I b] h = .ok (I (slotF c l a b)) h)
    (q11 : ∀ h, callP ev 40 [.agg (LDc c l), I a] h = .ok (I (headF c l a)) h)
    (q12 : ∀ h, callP ev 41 [.agg (LDc c l), I a] h = .ok (I (tailF c l a)) h)
    (q13 : ∀ h, callP ev 21 [.agg (LDc c l), I a, I b] h = .ok (I (nodeF c l a b)) h) :
    evalF ev NN ir18 [.agg (LDc c l), I a, I b] [] = .ok (.sl .own 1 (ints (plsF c l a b))) [] := by
  simp -implicitDefEqProofs (disch := first | omega | (simp only [List.length_set, List.length_replicate]; omega)) only [ir18, q0, q1, q2, q3, q4, q5, q6, q7, q8, q9, q10, q11, q12, q13, wrap_i64, wrap_u64, wrap_u32, wrap_u16, wrap_u8, dec_t, dec_f, ite_t, ite_f, tmod_e, go_sem, Nat.reduceAdd, Nat.reduceMul, Nat.reduceSub, Nat.reduceLeDiff, Nat.reduceEqDiff, Nat.reduceBEq, Nat.reduceLT, Int.reduceLE, Int.reduceLT, Int.reduceEq, Int.reduceNeg, Int.reduceAdd, Int.reduceMul, Int.reduceSub, Int.reduceToNat, reduceCtorEq, ↓reduceIte]
  rfl
theorem p_places (c : Cf) (l : Lf) (a b : Int) (hl : LB c l) (hi : inI a) : callP (evalCall fns NN (d + 4)) 18 [.agg (LDc c l), I a, I b] h = .ok (.sl .own 1 (ints (plsF c l a b))) h :=
  callP_of (v := .sl .own 1 (ints (plsF c l a b))) (h' := []) rfl rfl (by rw [call_eq rfl]; exact body_places _ c l a b (fun h => p_Alive1 c l a hl hi) (fun h => p_Owner1 c l a hl hi) (fun h => p_Resv1 c l a b hl hi) (fun h => p_Deque1 c l a b hl hi) (fun h => p_Ring c l a b hl.ok.tasks.2 (by have := hl.ok.seats; omega) hl.ring) (fun h => p_Task1 c l a b hl hi) (fun h => p_Cell1 c l a hl hi) (fun h => p_Map1 c l a b hl hi) (fun h => p_Bucket1 c l a b hl hi) (fun h => p_Top1 c l a hl hi) (fun h => p_Slot1 c l a b hl hi) (fun h => p_Head1 c l a hl hi) (fun h => p_Tail1 c l a hl hi) (fun h => p_Node1 c l a b hl hi)) rfl
theorem body_All (ev : FuncId → List DV → Heap → Res DV) (c : Cf) (l : Lf) (a b : Int)
    (q0 : ∀ h, callP ev 42 [.agg (LDc c l), I a] h = .ok (I (aliveF c l a)) h)
    (q1 : ∀ h, callP ev 43 [.agg (LDc c l), I a] h = .ok (I (ownerF c l a)) h)
    (q2 : ∀ h, callP ev 44 [.agg (LDc c l), I a, I b] h = .ok (I (resvF c l a b)) h)
    (q3 : ∀ h, callP ev 45 [.agg (LDc c l), I a, I b] h = .ok (I (dqF c l a b)) h)
    (q4 : ∀ h, callP ev 46 [.agg (LDc c l), I a, I b] h = .ok (I (ringF c l a b)) h)
    (q5 : ∀ h, callP ev 47 [.agg (LDc c l), I a, I b] h = .ok (I (taskF c l a b)) h)
    (q6 : ∀ h, callP ev 48 [.agg (LDc c l), I a] h = .ok (I (cellF c l a)) h)
    (q7 : ∀ h, callP ev 49 [.agg (LDc c l), I a, I b] h = .ok (I (mapF c l a b)) h)
    (q8 : ∀ h, callP ev 50 [.agg (LDc c l), I a, I b] h = .ok (I (bucketF c l a b)) h)
    (q9 : ∀ h, callP ev 51 [.agg (LDc c l), I a] h = .ok (I (topF c l a)) h)
    (q10 : ∀ h, callP ev 52 [.agg (LDc c l), I a, I b] h = .ok (I (slotF c l a b)) h)
    (q11 : ∀ h, callP ev 53 [.agg (LDc c l), I a] h = .ok (I (headF c l a)) h)
    (q12 : ∀ h, callP ev 54 [.agg (LDc c l), I a] h = .ok (I (tailF c l a)) h)
    (q13 : ∀ h, callP ev 55 [.agg (LDc c l), I a, I b] h = .ok (I (nodeF c l a b)) h) :
    evalF ev NN ir19 [.agg (LDc c l), I a, I b] [] = .ok (.sl .own 1 (ints (plsF c l a b))) [] := by
  simp -implicitDefEqProofs (disch := first | omega | (simp only [List.length_set, List.length_replicate]; omega)) only [ir19, q0, q1, q2, q3, q4, q5, q6, q7, q8, q9, q10, q11, q12, q13, wrap_i64, wrap_u64, wrap_u32, wrap_u16, wrap_u8, dec_t, dec_f, ite_t, ite_f, tmod_e, go_sem, Nat.reduceAdd, Nat.reduceMul, Nat.reduceSub, Nat.reduceLeDiff, Nat.reduceEqDiff, Nat.reduceBEq, Nat.reduceLT, Int.reduceLE, Int.reduceLT, Int.reduceEq, Int.reduceNeg, Int.reduceAdd, Int.reduceMul, Int.reduceSub, Int.reduceToNat, reduceCtorEq, ↓reduceIte]
  rfl
theorem p_All (c : Cf) (l : Lf) (a b : Int) (hl : LB c l) (hi : inI a) : callP (evalCall fns NN (d + 3)) 19 [.agg (LDc c l), I a, I b] h = .ok (.sl .own 1 (ints (plsF c l a b))) h :=
  callP_of (v := .sl .own 1 (ints (plsF c l a b))) (h' := []) rfl rfl (by rw [call_eq rfl]; exact body_All _ c l a b (fun h => p_Alive2 c l a hl) (fun h => p_Owner2 c l a hl) (fun h => p_Resv2 c l a b hl) (fun h => p_Deque2 c l a b hl) (fun h => p_RRing c l a b hl.ok.tasks.2 (by have := hl.ok.seats; omega) hl.ring) (fun h => p_Task2 c l a b hl) (fun h => p_Cell2 c l a hl) (fun h => p_Map2 c l a b hl) (fun h => p_Bucket2 c l a b hl) (fun h => p_Top2 c l a hl) (fun h => p_Slot2 c l a b hl) (fun h => p_Head2 c l a hl) (fun h => p_Tail2 c l a hl) (fun h => p_Node2 c l a b hl)) rfl

theorem body_Tells (ev : FuncId → List DV → Heap → Res DV) (ha : ∀ h, callP ev 9 [] h = .ok (B true) h) (c : Cf) (l : Lf) (a b : Int) (n : Int) (pl : List Int) (m : Mode)
    (q1 : ∀ h, callP ev 13 [.agg (CDc c)] h = .ok (.tup [.agg (LDc c l), I 0]) h) (q2 : ∀ h, callP ev 10 [.agg (CDc c)] h = .ok (.tup [.agg (LDc c l), I 0]) h)
    (q3 : ∀ h, callP ev 11 [.agg (LDc c l)] h = .ok (B true) h) (q4 : ∀ h, callP ev 14 [.agg (LDc c l)] h = .ok (I n) h) (q5 : ∀ h, callP ev 16 [.agg (LDc c l)] h = .ok (I n) h)
    (q6 : ∀ h, callP ev 18 [.agg (LDc c l), I a, I b] h = .ok (.sl m 1 (ints pl)) h) (q7 : ∀ h, callP ev 19 [.agg (LDc c l), I a, I b] h = .ok (.sl m 1 (ints pl)) h)
    (q8 : ∀ h ma mb, callP ev 17 [.sl ma 1 (ints pl), .sl mb 1 (ints pl)] h = .ok (B true) h) :
    evalF ev NN ir7 [.agg (CDc c), I a, I b] [] = .ok (B true) [] := by
  simp -implicitDefEqProofs (disch := first | omega | (simp only [List.length_set, List.length_replicate]; omega)) only [ir7, ha, q1, q2, q3, q4, q5, q6, q7, q8, wrap_i64, wrap_u64, wrap_u32, wrap_u16, wrap_u8, dec_t, dec_f, ite_t, ite_f, tmod_e, go_sem, Nat.reduceAdd, Nat.reduceMul, Nat.reduceSub, Nat.reduceLeDiff, Nat.reduceEqDiff, Nat.reduceBEq, Nat.reduceLT, Int.reduceLE, Int.reduceLT, Int.reduceEq, Int.reduceNeg, Int.reduceAdd, Int.reduceMul, Int.reduceSub, Int.reduceToNat, reduceCtorEq, ↓reduceIte]
theorem body_Tells0 (ev : FuncId → List DV → Heap → Res DV) (ha : ∀ h, callP ev 9 [] h = .ok (B true) h) (c : Cf) (a b : Int)
    (q1 : ∀ h, callP ev 13 [.agg (CDc c)] h = .ok (.tup [.agg (LDc zC zL), I 1]) h) (q2 : ∀ h, callP ev 10 [.agg (CDc c)] h = .ok (.tup [.agg (LDc zC zL), I 1]) h) :
    evalF ev NN ir7 [.agg (CDc c), I a, I b] [] = .ok (B true) [] := by
  simp -implicitDefEqProofs (disch := first | omega | (simp only [List.length_set, List.length_replicate]; omega)) only [ir7, ha, q1, q2, wrap_i64, wrap_u64, wrap_u32, wrap_u16, wrap_u8, dec_t, dec_f, ite_t, ite_f, tmod_e, go_sem, Nat.reduceAdd, Nat.reduceMul, Nat.reduceSub, Nat.reduceLeDiff, Nat.reduceEqDiff, Nat.reduceBEq, Nat.reduceLT, Int.reduceLE, Int.reduceLT, Int.reduceEq, Int.reduceNeg, Int.reduceAdd, Int.reduceMul, Int.reduceSub, Int.reduceToNat, reduceCtorEq, ↓reduceIte]
theorem law_Tells (d : Nat) (c : Cf) (a b : Int) (hi : inI a) : evalCall fns NN (d + 11) 7 [.agg (CDc c), I a, I b] [] = .ok (B true) [] := by
  rw [call_eq rfl]
  by_cases ok : OkC c
  · have hl := ok_lb ok
    refine body_Tells _ (fun h => p_shown) c (layF c) a b (rgF c.tasks) (plsF c (layF c) a b) .own (fun h => by rw [p_Of (d := d + 7), ofV, if_pos ok]) (fun h => by rw [p_ROf (d := d + 7), ofV, if_pos ok])
      (fun h => by have p := p_Right (d := d + 6) (h := h) c (layF c); rw [show rightB c (layF c) = true from decide_eq_true ⟨ok, rfl⟩] at p; exact p) (fun h => p_Rings (d := d + 8) c _ ok.tasks.2) (fun h => p_RRings (d := d + 9) c _ ok.tasks.2)
      (fun h => p_places (d := d + 6) c _ a b hl hi) (fun h => p_All (d := d + 7) c _ a b hl hi) (fun h ma mb => by simpa using p_Ints (d := d + 9) (h := h) (plsF c (layF c) a b) (plsF c (layF c) a b) ma mb (by simp [plsF]))
  · exact body_Tells0 _ (fun h => p_shown) c a b (fun h => by rw [p_Of (d := d + 7), ofV, if_neg ok]) (fun h => by rw [p_ROf (d := d + 7), ofV, if_neg ok])
end Go.D.Layout
