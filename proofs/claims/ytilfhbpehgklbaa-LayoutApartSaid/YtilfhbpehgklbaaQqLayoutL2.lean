/- What 'layout' computes: layouts. -/
import Derived.Test.YtilfhbpehgklbaaQqLayoutL1
set_option linter.unusedSimpArgs false
set_option linter.unusedVariables false
namespace Go.D.Layout
open Go.D
set_option maxRecDepth 10000
set_option maxHeartbeats 1000000
variable {d : Nat} {h : Heap}

theorem st_may (ev : FuncId → List DV → Heap → Res DV) (q : ∀ h n lo hi, callP ev 27 [I n, I lo, I hi] h = .ok (B (decide (lo ≤ n ∧ n ≤ hi))) h)
    (c0 c1 c2 cs : List DV) (x3 x4 x5 x6 : DV) (k : Nat) (hk : k < 8) (hlen : cs.length = 24) (a lo hi : Int) (e : (cs.drop (k * 3)).take 3 = [I a, I lo, I hi]) (h3 : ∀ p, isLref x3 p = false) (h4 : ∀ p, isLref x4 p = false) (h5 : ∀ p, isLref x5 p = false) (h6 : ∀ p, isLref x6 p = false) :
    evalC ev NN ir26_l0 ⟨[.agg c0, .box c1, .box c2, x3, x4, x5, x6, I k, .agg cs], [], h⟩ =
      if lo ≤ a ∧ a ≤ hi then .norm ⟨[.agg c0, .box c1, .box c2, .box [I a, I lo, I hi], x4, B true, B false, I (k + 1 : Nat), .agg cs], [], h⟩
      else .ret ⟨[.agg c0, .box c1, .box c2, .box [I a, I lo, I hi], B false, B true, B true, I k, .agg cs], [], h⟩ := by
  have hk3 : k * 3 + 3 ≤ cs.length := by omega
  have hs := wrap_succ (show k < 4611686018427387904 by omega)
  by_cases hc : lo ≤ a ∧ a ≤ hi
  · simp -implicitDefEqProofs (disch := first | omega | (simp only [List.length_set, List.length_replicate]; omega)) only [ir26_l0, q, e, h3, h4, h5, h6, hs, hlen, wrap_i64, wrap_u64, wrap_u32, wrap_u16, wrap_u8, dec_t, dec_f, ite_t, ite_f, tmod_e, go_sem, Nat.reduceAdd, Nat.reduceMul, Nat.reduceSub, Nat.reduceLeDiff, Nat.reduceEqDiff, Nat.reduceBEq, Nat.reduceLT, Int.reduceLE, Int.reduceLT, Int.reduceEq, Int.reduceNeg, Int.reduceAdd, Int.reduceMul, Int.reduceSub, Int.reduceToNat, reduceCtorEq, ↓reduceIte]
  · simp -implicitDefEqProofs (disch := first | omega | (simp only [List.length_set, List.length_replicate]; omega)) only [ir26_l0, q, e, h3, h4, h5, h6, hs, hlen, wrap_i64, wrap_u64, wrap_u32, wrap_u16, wrap_u8, dec_t, dec_f, ite_t, ite_f, tmod_e, go_sem, Nat.reduceAdd, Nat.reduceMul, Nat.reduceSub, Nat.reduceLeDiff, Nat.reduceEqDiff, Nat.reduceBEq, Nat.reduceLT, Int.reduceLE, Int.reduceLT, Int.reduceEq, Int.reduceNeg, Int.reduceAdd, Int.reduceMul, Int.reduceSub, Int.reduceToNat, reduceCtorEq, ↓reduceIte]

def QMay (h : Heap) (ok : Bool) (c0 c1 c2 cs : List DV) (v4 : DV) : Ex → Prop
  | .exit i s => i = 0 ∧ ok = true ∧ ∃ y3 y5 y6 y7, s = ⟨[.agg c0, .box c1, .box c2, y3, v4, y5, y6, y7, .agg cs], [], h⟩
  | .ret s => ok = false ∧ ∃ y3 y5 y6 y7, s = ⟨[.agg c0, .box c1, .box c2, y3, B false, y5, y6, y7, .agg cs], [], h⟩
  | _ => False
def inB (x : Int × Int × Int) : Bool := decide (x.2.1 ≤ x.1 ∧ x.1 ≤ x.2.2)
theorem loop_may (ev : FuncId → List DV → Heap → Res DV) (q : ∀ h n lo hi, callP ev 27 [I n, I lo, I hi] h = .ok (B (decide (lo ≤ n ∧ n ≤ hi))) h)
    (c0 c1 c2 cs : List DV) (x4 : DV) (h4 : ∀ p, isLref x4 p = false) (hlen : cs.length = 24) : ∀ (bs : List (Int × Int × Int)) (k n : Nat), k + bs.length = 8 → bs.length < n → (cs.drop (k * 3)) = bs.flatMap (fun x => [I x.1, I x.2.1, I x.2.2]) →
    ∀ x3 x5 x6, (∀ p, isLref x3 p = false) → (∀ p, isLref x5 p = false) → (∀ p, isLref x6 p = false) →
    QMay h (bs.all inB) c0 c1 c2 cs x4 (iter (evalC ev NN ir26_l0) n ⟨[.agg c0, .box c1, .box c2, x3, x4, x5, x6, I k, .agg cs], [], h⟩) := by
  intro bs
  induction bs with
  | nil =>
    intro k n hk hn _ x3 x5 x6 _ _ _
    simp at hk; subst hk
    obtain ⟨n, rfl⟩ : ∃ m, n = m + 1 := ⟨n - 1, by simp at hn; omega⟩
    have c8 : ((8 : Nat) : Int) = 8 := rfl
    simp -implicitDefEqProofs (disch := first | omega | (simp only [List.length_set, List.length_replicate]; omega)) only [iter, ir26_l0, c8, wrap_i64, wrap_u64, wrap_u32, wrap_u16, wrap_u8, dec_t, dec_f, ite_t, ite_f, tmod_e, go_sem, Nat.reduceAdd, Nat.reduceMul, Nat.reduceSub, Nat.reduceLeDiff, Nat.reduceEqDiff, Nat.reduceBEq, Nat.reduceLT, Int.reduceLE, Int.reduceLT, Int.reduceEq, Int.reduceNeg, Int.reduceAdd, Int.reduceMul, Int.reduceSub, Int.reduceToNat, reduceCtorEq, ↓reduceIte]
    exact ⟨rfl, rfl, _, _, _, _, rfl⟩
  | cons b bs ih =>
    intro k n hk hn hd x3 x5 x6 h3 h5 h6
    obtain ⟨a, lo, hi⟩ := b
    simp only [List.length_cons] at hk hn
    obtain ⟨n, rfl⟩ : ∃ m, n = m + 1 := ⟨n - 1, by omega⟩
    have e : (cs.drop (k * 3)).take 3 = [I a, I lo, I hi] := by rw [hd]; rfl
    have hd2 : cs.drop ((k + 1) * 3) = bs.flatMap (fun x => [I x.1, I x.2.1, I x.2.2]) := by
      rw [Nat.add_mul, Nat.one_mul, ← List.drop_drop, hd]; rfl
    rw [iter, st_may ev q c0 c1 c2 cs x3 x4 x5 x6 k (by omega) hlen a lo hi e h3 h4 h5 h6]
    by_cases hc : lo ≤ a ∧ a ≤ hi
    · rw [if_pos hc]
      have := ih (k + 1) n (by omega) (by omega) hd2 (.box [I a, I lo, I hi]) (B true) (B false) (fun p => rfl) (fun p => rfl) (fun p => rfl)
      have hb : inB (a, lo, hi) = true := decide_eq_true hc
      rw [List.all_cons, hb, Bool.true_and]
      exact this
    · rw [if_neg hc]
      have hb : inB (a, lo, hi) = false := decide_eq_false hc
      rw [List.all_cons, hb, Bool.false_and]
      exact ⟨rfl, _, _, _, _, rfl⟩

/-- The bounds of a conf. -/
def bnds (c : Cf) : List (Int × Int × Int) := [(c.seats, 1, 8), (c.buckets, 1, 64), (c.slots, 1, 8), (c.tasks, 1, 64), (c.cells, 0, 16), (c.maps, 0, 8), (c.stacks, 0, 8), (c.chans, 0, 8)]
theorem bnds_may (c : Cf) : (bnds c).all inB = true ↔ ((1 ≤ c.seats ∧ c.seats ≤ 8) ∧ (1 ≤ c.buckets ∧ c.buckets ≤ 64) ∧ (1 ≤ c.slots ∧ c.slots ≤ 8) ∧ (1 ≤ c.tasks ∧ c.tasks ≤ 64) ∧ (0 ≤ c.cells ∧ c.cells ≤ 16) ∧ (0 ≤ c.maps ∧ c.maps ≤ 8) ∧ (0 ≤ c.stacks ∧ c.stacks ≤ 8) ∧ (0 ≤ c.chans ∧ c.chans ≤ 8)) := by
  simp only [bnds, List.all_cons, List.all_nil, inB, Bool.and_true, Bool.and_eq_true, decide_eq_true_eq]

theorem body_may (ev : FuncId → List DV → Heap → Res DV) (q : ∀ h n lo hi, callP ev 27 [I n, I lo, I hi] h = .ok (B (decide (lo ≤ n ∧ n ≤ hi))) h) (c : Cf) :
    evalF ev NN ir26 [.agg (CDc c)] [] = .ok (B (decide (May c))) [] := by
  have e := loop_may (h := []) ev q (CDc c) (CDc c) ((bnds c).flatMap (fun x => [I x.1, I x.2.1, I x.2.2])) ((bnds c).flatMap (fun x => [I x.1, I x.2.1, I x.2.2])) (B false) (fun p => rfl) rfl (bnds c) 0 NN rfl (by unfold NN; show 8 < 100000; omega) rfl .junk .junk .junk (fun p => rfl) (fun p => rfl) (fun p => rfl)
  have hm := bnds_may c
  generalize (bnds c).all inB = ok at *
  simp -implicitDefEqProofs only [bnds, List.flatMap_cons, List.flatMap_nil, go_sem, Nat.reduceAdd, Nat.reduceMul, Nat.reduceSub, Nat.reduceLeDiff, Nat.reduceEqDiff, Nat.reduceBEq, Nat.reduceLT, Int.reduceLE, Int.reduceLT, Int.reduceEq, Int.reduceNeg, Int.reduceAdd, Int.reduceMul, Int.reduceSub, Int.reduceToNat, reduceCtorEq, ↓reduceIte] at e
  simp -implicitDefEqProofs (disch := first | omega | (simp only [List.length_set, List.length_replicate]; omega)) only [ir26, wrap_i64, wrap_u64, wrap_u32, wrap_u16, wrap_u8, dec_t, dec_f, ite_t, ite_f, tmod_e, go_sem, Nat.reduceAdd, Nat.reduceMul, Nat.reduceSub, Nat.reduceLeDiff, Nat.reduceEqDiff, Nat.reduceBEq, Nat.reduceLT, Int.reduceLE, Int.reduceLT, Int.reduceEq, Int.reduceNeg, Int.reduceAdd, Int.reduceMul, Int.reduceSub, Int.reduceToNat, reduceCtorEq, ↓reduceIte]
  revert e
  generalize iter _ _ _ = E
  intro e
  cases E with
  | exit i s =>
    obtain ⟨rfl, rfl, _, _, _, _, rfl⟩ := e
    have hm := hm.1 rfl
    have hb := and_two hm.2.1
    have hd : decide (May c) = decide (Two6 c.buckets) := by
      have : May c ↔ Two6 c.buckets := ⟨fun h => h.two, fun h => ⟨hm.1, hm.2.1, hm.2.2.1, hm.2.2.2.1, hm.2.2.2.2.1, hm.2.2.2.2.2.1, hm.2.2.2.2.2.2.1, hm.2.2.2.2.2.2.2, h⟩⟩
      simp only [this]
    rw [hd]
    simp only [← hb]
    simp -implicitDefEqProofs (disch := first | omega | (simp only [List.length_set, List.length_replicate]; omega)) only [wrap_i64, wrap_u64, wrap_u32, wrap_u16, wrap_u8, dec_t, dec_f, ite_t, ite_f, tmod_e, go_sem, Nat.reduceAdd, Nat.reduceMul, Nat.reduceSub, Nat.reduceLeDiff, Nat.reduceEqDiff, Nat.reduceBEq, Nat.reduceLT, Int.reduceLE, Int.reduceLT, Int.reduceEq, Int.reduceNeg, Int.reduceAdd, Int.reduceMul, Int.reduceSub, Int.reduceToNat, reduceCtorEq, ↓reduceIte]
  | ret s =>
    obtain ⟨rfl, _, _, _, _, rfl⟩ := e
    have hd : decide (May c) = false := decide_eq_false (fun h => by have := hm.2 ⟨h.seats, h.buckets, h.slots, h.tasks, h.cells, h.maps, h.stacks, h.chans⟩; simp at this)
    rw [hd]
    simp -implicitDefEqProofs (disch := first | omega | (simp only [List.length_set, List.length_replicate]; omega)) only [wrap_i64, wrap_u64, wrap_u32, wrap_u16, wrap_u8, dec_t, dec_f, ite_t, ite_f, tmod_e, go_sem, Nat.reduceAdd, Nat.reduceMul, Nat.reduceSub, Nat.reduceLeDiff, Nat.reduceEqDiff, Nat.reduceBEq, Nat.reduceLT, Int.reduceLE, Int.reduceLT, Int.reduceEq, Int.reduceNeg, Int.reduceAdd, Int.reduceMul, Int.reduceSub, Int.reduceToNat, reduceCtorEq, ↓reduceIte]
  | norm s => exact e.elim
  | pan v h => exact e.elim
  | no => exact e.elim
theorem p_may (c : Cf) : callP (evalCall fns NN (d + 2)) 26 [.agg (CDc c)] h = .ok (B (decide (May c))) h :=
  callP_of (v := B (decide (May c))) (h' := []) rfl rfl (by rw [call_eq rfl]; exact body_may _ (fun h n lo hi => p_within n lo hi) c) rfl

theorem body_part (ev : FuncId → List DV → Heap → Res DV) (a n : Int) (ha : 0 ≤ a ∧ a ≤ 100000) (hn : 0 ≤ n ∧ n ≤ 100000) : evalF ev NN ir28 [I n, .ptr 0 0] [[I a]] = .ok (I a) [[I (a + n)]] := by
  have e : a + n - n = a := by omega
  simp -implicitDefEqProofs (disch := first | omega | (simp only [List.length_set, List.length_replicate]; omega)) only [ir28, e, wrap_i64, wrap_u64, wrap_u32, wrap_u16, wrap_u8, dec_t, dec_f, ite_t, ite_f, tmod_e, go_sem, Nat.reduceAdd, Nat.reduceMul, Nat.reduceSub, Nat.reduceLeDiff, Nat.reduceEqDiff, Nat.reduceBEq, Nat.reduceLT, Int.reduceLE, Int.reduceLT, Int.reduceEq, Int.reduceNeg, Int.reduceAdd, Int.reduceMul, Int.reduceSub, Int.reduceToNat, reduceCtorEq, ↓reduceIte]
theorem p_part (a n : Int) (ha : 0 ≤ a ∧ a ≤ 100000) (hn : 0 ≤ n ∧ n ≤ 100000) : callP (evalCall fns NN (d + 1)) 28 [I n, .ptr 0 0] [[I a]] = .ok (I a) [[I (a + n)]] := by
  rw [callP_ptr rfl, call_eq rfl]
  exact body_part _ a n ha hn

/-- What Of tells. -/
def ofV (c : Cf) : DV := if OkC c then .tup [.agg (LDc c (layF c)), I 0] else .tup [.agg (LDc zC zL), I 1]

theorem body_Of (ev : FuncId → List DV → Heap → Res DV) (c : Cf)
    (q1 : ∀ h, callP ev 26 [.agg (CDc c)] h = .ok (B (decide (May c))) h)
    (q2 : ∀ h n lo hi, callP ev 27 [I n, I lo, I hi] h = .ok (B (decide (lo ≤ n ∧ n ≤ hi))) h)
    (q3 : ∀ h, c.tasks ≤ 64 → callP ev 29 [I c.tasks] h = .ok (I (rgF c.tasks)) h)
    (q4 : ∀ a n, 0 ≤ a ∧ a ≤ 100000 → 0 ≤ n ∧ n ≤ 100000 → callP ev 28 [I n, .ptr 0 0] [[I a]] = .ok (I a) [[I (a + n)]]) :
    ∃ h', evalF ev NN ir13 [.agg (CDc c)] [] = .ok (ofV c) h' := by
  unfold ofV
  by_cases hm : May c
  · have hmp := hm.maps
    have hch := hm.chans
    by_cases hn : c.maps + c.chans ≤ c.nodes ∧ c.nodes ≤ 1000
    · have ok : OkC c := { hm with nodes := hn }
      rw [if_pos ok]
      have hs := hm.seats
      have ht := hm.tasks
      have hc := hm.cells
      have b1 := ring_bd hm
      have b2 := map_bd hm
      have b3 := stack_bd hm
      have hst := hm.stacks
      have hbk := hm.buckets
      have hsl := hm.slots
      have pb := pw_bd c.tasks
      have rb := rg_bd c.tasks
      have s1 := shl1 (r := rgF c.tasks) (by omega) (by omega)
      rw [p2_rg] at s1
      have r0 : ¬ rgF c.tasks < 0 := by omega
      have e1 : c.seats * 4 * (pwF c.tasks - 1) = c.seats * (4 * (pwF c.tasks - 1)) := Int.mul_assoc _ _ _
      have p3 := fun h => q3 h ht.2
      exact ⟨_, by simp -implicitDefEqProofs (disch := first | omega | (simp only [List.length_set, List.length_replicate]; omega)) only [ir13, q1, q2, p3, q4, s1, e1, hm, wrap_i64, wrap_u64, wrap_u32, wrap_u16, wrap_u8, dec_t, dec_f, ite_t, ite_f, tmod_e, go_sem, Nat.reduceAdd, Nat.reduceMul, Nat.reduceSub, Nat.reduceLeDiff, Nat.reduceEqDiff, Nat.reduceBEq, Nat.reduceLT, Int.reduceLE, Int.reduceLT, Int.reduceEq, Int.reduceNeg, Int.reduceAdd, Int.reduceMul, Int.reduceSub, Int.reduceToNat, reduceCtorEq, ↓reduceIte]; rfl⟩
    · rw [if_neg (fun h => hn h.nodes)]
      exact ⟨_, by simp -implicitDefEqProofs (disch := first | omega | (simp only [List.length_set, List.length_replicate]; omega)) only [ir13, q1, q2, hm, wrap_i64, wrap_u64, wrap_u32, wrap_u16, wrap_u8, dec_t, dec_f, ite_t, ite_f, tmod_e, go_sem, Nat.reduceAdd, Nat.reduceMul, Nat.reduceSub, Nat.reduceLeDiff, Nat.reduceEqDiff, Nat.reduceBEq, Nat.reduceLT, Int.reduceLE, Int.reduceLT, Int.reduceEq, Int.reduceNeg, Int.reduceAdd, Int.reduceMul, Int.reduceSub, Int.reduceToNat, reduceCtorEq, ↓reduceIte]; rfl⟩
  · rw [if_neg (fun h => hm h.toMay)]
    exact ⟨_, by simp -implicitDefEqProofs (disch := first | omega | (simp only [List.length_set, List.length_replicate]; omega)) only [ir13, q1, q2, hm, wrap_i64, wrap_u64, wrap_u32, wrap_u16, wrap_u8, dec_t, dec_f, ite_t, ite_f, tmod_e, go_sem, Nat.reduceAdd, Nat.reduceMul, Nat.reduceSub, Nat.reduceLeDiff, Nat.reduceEqDiff, Nat.reduceBEq, Nat.reduceLT, Int.reduceLE, Int.reduceLT, Int.reduceEq, Int.reduceNeg, Int.reduceAdd, Int.reduceMul, Int.reduceSub, Int.reduceToNat, reduceCtorEq, ↓reduceIte]; rfl⟩
theorem ofV_look (c : Cf) (h' : Heap) : look h' (ofV c) = ofV c ∧ free (ofV c) = true := by
  unfold ofV; split <;> exact ⟨rfl, rfl⟩
theorem p_Of (c : Cf) : callP (evalCall fns NN (d + 3)) 13 [.agg (CDc c)] h = .ok (ofV c) h := by
  obtain ⟨h', e⟩ := body_Of (evalCall fns NN (d + 2)) c (fun h => p_may c) (fun h n lo hi => p_within (d := d + 1) n lo hi) (fun h ht => p_rings (d := d + 1) _ ht) (fun a n ha hn => p_part (d := d + 1) a n ha hn)
  have hv := ofV_look c h'
  have q := callP_of (ev := evalCall fns NN (d + 3)) (h := h) (f := 13) (args := [.agg (CDc c)]) (v := ofV c) (h' := h') rfl rfl (by rw [call_eq rfl]; exact e) (by rw [hv.1]; exact hv.2)
  rw [q, hv.1]
end Go.D.Layout
