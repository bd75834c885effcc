/- The law LayoutApart, in the evaluator: the end. -/
import Derived.Test.YtilfhbpehgklbaaQqLayoutJ
set_option linter.unusedSimpArgs false
set_option linter.unusedVariables false
namespace Go.D.Layout
open Go.D
set_option maxRecDepth 100000
set_option maxHeartbeats 2000000
variable {d : Nat} {h : Heap}

theorem mn_1 (b k : Nat) (h : k ≠ 4) : mnF b k = 1 := by unfold mnF; rw [if_neg h]
theorem p2_nat {b : Nat} (h : b ≤ 4) : p2F (b : Int) = ((2 ^ b : Nat) : Int) := by
  have : b = 0 ∨ b = 1 ∨ b = 2 ∨ b = 3 ∨ b = 4 := by omega
  rcases this with rfl | rfl | rfl | rfl | rfl <;> decide
theorem fit_F {c : Cf} (ok : OkC c) {N : Nat} (hN : (layF c).size = (N : Int)) (a b : Nat) (hb : b < 16) : Fit (plsF c (layF c) a b) b N (rgF c.tasks) := by
  have lb := ok_lb ok
  have h0 := ok.seats
  have b1 : (layF c).alive = 4 := rfl
  have b2 : (layF c).owner = (layF c).alive + c.seats := rfl
  have b3 : (layF c).resv = (layF c).owner + c.seats := rfl
  have b4 : (layF c).deque = (layF c).resv + 3 * c.seats := rfl
  have b5 : (layF c).ring = (layF c).deque + 3 * c.seats := rfl
  have r6 := ring_bd ok.toMay
  have b6 : (layF c).task = (layF c).ring + c.seats * (4 * (pwF c.tasks - 1)) := rfl
  have b7 : (layF c).cell = (layF c).task + 4 * c.tasks := rfl
  have b8 : (layF c).map = (layF c).cell + c.cells := rfl
  have r9 := map_bd ok.toMay
  have b9 : (layF c).stack = (layF c).map + c.maps * (2 + c.buckets) := rfl
  have r10 := stack_bd ok.toMay
  have b10 : (layF c).chan = (layF c).stack + c.stacks * (1 + c.slots) := rfl
  have b11 : (layF c).node = (layF c).chan + 2 * c.chans := rfl
  have b12 : (layF c).size = (layF c).node + 8 * c.nodes := rfl
  have k1 := ok.tasks
  have k2 := ok.cells
  have k3 := ok.chans
  have k4 := ok.buckets
  have k5 := ok.slots
  have k6 := ok.nodes
  have k7 := ok.maps
  have hpw := pw_bd c.tasks
  have e4 : (plsF c (layF c) a b).getD 4 0 = ringF c (layF c) a b := rfl
  have hring : ¬ (plsF c (layF c) a b).getD 4 0 < 0 → ((0 : Int) ≤ a ∧ (a : Int) ≤ c.seats - 1) ∧ ((0 : Int) ≤ b ∧ (b : Int) ≤ rgF c.tasks - 1) := by
    rw [e4]; unfold ringF; intro h
    exact Classical.byContradiction fun hn => h (by rw [if_neg hn]; decide)
  refine ⟨rfl, fun k hk hs => ?_, fun h => by have := hring h; omega⟩
  have hs1 : ¬ (plsF c (layF c) a b).getD k 0 < 0 := fun h => hs (.inl h)
  have h14 : k = 0 ∨ k = 1 ∨ k = 2 ∨ k = 3 ∨ k = 4 ∨ k = 5 ∨ k = 6 ∨ k = 7 ∨ k = 8 ∨ k = 9 ∨ k = 10 ∨ k = 11 ∨ k = 12 ∨ k = 13 := by omega
  rcases h14 with rfl | rfl | rfl | rfl | rfl | rfl | rfl | rfl | rfl | rfl | rfl | rfl | rfl | rfl
  · rw [mn_1 b _ (by omega)]; revert hs1; show ¬ aliveF c (layF c) a < 0 → aliveF c (layF c) a + _ ≤ _; unfold aliveF; split <;> omega
  · rw [mn_1 b _ (by omega)]; revert hs1; show ¬ ownerF c (layF c) a < 0 → ownerF c (layF c) a + _ ≤ _; unfold ownerF; split <;> omega
  · rw [mn_1 b _ (by omega)]; revert hs1; show ¬ resvF c (layF c) a b < 0 → resvF c (layF c) a b + _ ≤ _; unfold resvF; split <;> omega
  · rw [mn_1 b _ (by omega)]; revert hs1; show ¬ dqF c (layF c) a b < 0 → dqF c (layF c) a b + _ ≤ _; unfold dqF; split <;> omega
  · have hc := hring hs1
    have hr := rg_bd c.tasks
    have hb4 : b ≤ 4 := by omega
    have em : mnF b 4 = 4 * 2 ^ b := rfl
    have hp2 := p2_lt hc.2.1 hc.2.2
    have hpn := p2_nat hb4
    rw [e4, em]
    unfold ringF
    rw [if_pos hc]
    have hm : (a : Int) * (4 * (pwF c.tasks - 1)) + 4 * (pwF c.tasks - 1) ≤ c.seats * (4 * (pwF c.tasks - 1)) := by
      have e : (a : Int) * (4 * (pwF c.tasks - 1)) + 4 * (pwF c.tasks - 1) = (a + 1) * (4 * (pwF c.tasks - 1)) := by rw [Int.add_mul, Int.one_mul]
      rw [e]
      exact Int.mul_le_mul_of_nonneg_right (by omega) (by omega)
    generalize (a : Int) * (4 * (pwF c.tasks - 1)) = u at *
    generalize c.seats * (4 * (pwF c.tasks - 1)) = v at *
    generalize 2 ^ b = w at *
    omega
  · rw [mn_1 b _ (by omega)]; revert hs1; show ¬ taskF c (layF c) a b < 0 → taskF c (layF c) a b + _ ≤ _; unfold taskF; split <;> omega
  · rw [mn_1 b _ (by omega)]; revert hs1; show ¬ cellF c (layF c) a < 0 → cellF c (layF c) a + _ ≤ _; unfold cellF; split <;> omega
  · rw [mn_1 b _ (by omega)]; revert hs1; show ¬ mapF c (layF c) a b < 0 → mapF c (layF c) a b + _ ≤ _; unfold mapF; intro h
    split
    · rename_i hc
      have hm : (2 + c.buckets) * (a + 1) ≤ (2 + c.buckets) * c.maps := Int.mul_le_mul_of_nonneg_left (by omega) (by omega)
      rw [Int.mul_add, Int.mul_one, Int.mul_comm _ c.maps] at hm
      omega
    · omega
  · rw [mn_1 b _ (by omega)]; revert hs1; show ¬ bucketF c (layF c) a b < 0 → bucketF c (layF c) a b + _ ≤ _; unfold bucketF; intro h
    split
    · rename_i hc
      have hm : (2 + c.buckets) * (a + 1) ≤ (2 + c.buckets) * c.maps := Int.mul_le_mul_of_nonneg_left (by omega) (by omega)
      rw [Int.mul_add, Int.mul_one, Int.mul_comm _ c.maps] at hm
      omega
    · omega
  · rw [mn_1 b _ (by omega)]; revert hs1; show ¬ topF c (layF c) a < 0 → topF c (layF c) a + _ ≤ _; unfold topF; intro h
    split
    · rename_i hc
      have hm : (1 + c.slots) * (a + 1) ≤ (1 + c.slots) * c.stacks := Int.mul_le_mul_of_nonneg_left (by omega) (by omega)
      rw [Int.mul_add, Int.mul_one, Int.mul_comm _ c.stacks] at hm
      omega
    · omega
  · rw [mn_1 b _ (by omega)]; revert hs1; show ¬ slotF c (layF c) a b < 0 → slotF c (layF c) a b + _ ≤ _; unfold slotF; intro h
    split
    · rename_i hc
      have hm : (1 + c.slots) * (a + 1) ≤ (1 + c.slots) * c.stacks := Int.mul_le_mul_of_nonneg_left (by omega) (by omega)
      rw [Int.mul_add, Int.mul_one, Int.mul_comm _ c.stacks] at hm
      omega
    · omega
  · rw [mn_1 b _ (by omega)]; revert hs1; show ¬ headF c (layF c) a < 0 → headF c (layF c) a + _ ≤ _; unfold headF; split <;> omega
  · rw [mn_1 b _ (by omega)]; revert hs1; show ¬ tailF c (layF c) a < 0 → tailF c (layF c) a + _ ≤ _; unfold tailF; split <;> omega
  · rw [mn_1 b _ (by omega)]; revert hs1; show ¬ nodeF c (layF c) a b < 0 → nodeF c (layF c) a b + _ ≤ _; unfold nodeF; split <;> omega

theorem vecN_drop {N : Nat} {H : Nat → Nat} {q : Nat} (hq : q < N) : ((vecN N H).drop q).take 1 = [(H q : Int)] := by
  have hl := vecN_len N H
  have hg := vecN_get (H := H) hq
  rw [List.drop_eq_getElem_cons (by omega), List.take_succ_cons, List.take_zero]
  rw [List.getElem?_eq_getElem (by omega)] at hg
  simpa using hg
def mk4 (k x : Nat) : Nat := if x < k then 1 else 0
theorem mk4_set {N : Nat} {k : Nat} (hk : k < N) : (vecN N (mk4 k)).set k 1 = vecN N (mk4 (k + 1)) := by
  have e : mk4 k k = 0 := if_neg (by omega)
  have := vecN_set (H := mk4 k) hk
  rw [e] at this
  rw [show ((0 + 1 : Nat) : Int) = 1 from rfl] at this
  rw [this]
  exact vecN_ext fun x => by unfold mk4; split <;> split <;> split <;> omega
theorem mk4_drop {N : Nat} {k : Nat} (hk : k < N) : ((vecN N (mk4 k)).drop k).take 1 = [0] := by
  rw [vecN_drop hk, show mk4 k k = 0 from if_neg (by omega)]; rfl
theorem mk4_zero (N : Nat) : List.replicate N (0 : Int) = vecN N (mk4 0) := by
  apply List.ext_getElem?
  intro i
  by_cases hi : i < N
  · rw [vecN_get hi, List.getElem?_replicate, if_pos hi]; rfl
  · rw [List.getElem?_eq_none (by rw [List.length_replicate]; omega), List.getElem?_eq_none (by rw [vecN_len]; omega)]

theorem body_Apart0 (ev : FuncId → List DV → Heap → Res DV) (ha : ∀ h, callP ev 9 [] h = .ok (B true) h) (c : Cf)
    (q1 : ∀ h, callP ev 10 [.agg (CDc c)] h = .ok (.tup [.agg (LDc zC zL), I 1]) h) :
    evalF ev NN ir8 [.agg (CDc c)] [] = .ok (B true) [] := by
  simp -implicitDefEqProofs (disch := first | omega | (simp only [List.length_set, List.length_replicate]; omega)) only [ir8, ha, q1, wrap_i64, wrap_u64, wrap_u32, wrap_u16, wrap_u8, dec_t, dec_f, ite_t, ite_f, tmod_e, go_sem, Nat.reduceAdd, Nat.reduceMul, Nat.reduceSub, Nat.reduceLeDiff, Nat.reduceEqDiff, Nat.reduceBEq, Nat.reduceLT, Int.reduceLE, Int.reduceLT, Int.reduceEq, Int.reduceNeg, Int.reduceAdd, Int.reduceMul, Int.reduceSub, Int.reduceToNat, reduceCtorEq, ↓reduceIte]
theorem body_Apart1 (ev : FuncId → List DV → Heap → Res DV) (ha : ∀ h, callP ev 9 [] h = .ok (B true) h) (c : Cf) (l : Lf)
    (q1 : ∀ h, callP ev 10 [.agg (CDc c)] h = .ok (.tup [.agg (LDc c l), I 0]) h) (hn : ¬ (c.seats ≤ 2 ∧ c.tasks ≤ 9 ∧ c.buckets ≤ 8 ∧ c.nodes ≤ 20)) :
    evalF ev NN ir8 [.agg (CDc c)] [] = .ok (B true) [] := by
  by_cases h1 : c.seats ≤ 2
  · by_cases h2 : c.tasks ≤ 9
    · by_cases h3 : c.buckets ≤ 8
      · have h4 : ¬ c.nodes ≤ 20 := fun h4 => hn ⟨h1, h2, h3, h4⟩
        simp -implicitDefEqProofs (disch := first | omega | (simp only [List.length_set, List.length_replicate]; omega)) only [ir8, ha, q1, wrap_i64, wrap_u64, wrap_u32, wrap_u16, wrap_u8, dec_t, dec_f, ite_t, ite_f, tmod_e, go_sem, Nat.reduceAdd, Nat.reduceMul, Nat.reduceSub, Nat.reduceLeDiff, Nat.reduceEqDiff, Nat.reduceBEq, Nat.reduceLT, Int.reduceLE, Int.reduceLT, Int.reduceEq, Int.reduceNeg, Int.reduceAdd, Int.reduceMul, Int.reduceSub, Int.reduceToNat, reduceCtorEq, ↓reduceIte]
      · simp -implicitDefEqProofs (disch := first | omega | (simp only [List.length_set, List.length_replicate]; omega)) only [ir8, ha, q1, wrap_i64, wrap_u64, wrap_u32, wrap_u16, wrap_u8, dec_t, dec_f, ite_t, ite_f, tmod_e, go_sem, Nat.reduceAdd, Nat.reduceMul, Nat.reduceSub, Nat.reduceLeDiff, Nat.reduceEqDiff, Nat.reduceBEq, Nat.reduceLT, Int.reduceLE, Int.reduceLT, Int.reduceEq, Int.reduceNeg, Int.reduceAdd, Int.reduceMul, Int.reduceSub, Int.reduceToNat, reduceCtorEq, ↓reduceIte]
    · simp -implicitDefEqProofs (disch := first | omega | (simp only [List.length_set, List.length_replicate]; omega)) only [ir8, ha, q1, wrap_i64, wrap_u64, wrap_u32, wrap_u16, wrap_u8, dec_t, dec_f, ite_t, ite_f, tmod_e, go_sem, Nat.reduceAdd, Nat.reduceMul, Nat.reduceSub, Nat.reduceLeDiff, Nat.reduceEqDiff, Nat.reduceBEq, Nat.reduceLT, Int.reduceLE, Int.reduceLT, Int.reduceEq, Int.reduceNeg, Int.reduceAdd, Int.reduceMul, Int.reduceSub, Int.reduceToNat, reduceCtorEq, ↓reduceIte]
  · simp -implicitDefEqProofs (disch := first | omega | (simp only [List.length_set, List.length_replicate]; omega)) only [ir8, ha, q1, wrap_i64, wrap_u64, wrap_u32, wrap_u16, wrap_u8, dec_t, dec_f, ite_t, ite_f, tmod_e, go_sem, Nat.reduceAdd, Nat.reduceMul, Nat.reduceSub, Nat.reduceLeDiff, Nat.reduceEqDiff, Nat.reduceBEq, Nat.reduceLT, Int.reduceLE, Int.reduceLT, Int.reduceEq, Int.reduceNeg, Int.reduceAdd, Int.reduceMul, Int.reduceSub, Int.reduceToNat, reduceCtorEq, ↓reduceIte]
theorem body_Apart (ev : FuncId → List DV → Heap → Res DV) (ha : ∀ h, callP ev 9 [] h = .ok (B true) h) (c : Cf) (l : Lf) (N : Nat) (hN : l.size = (N : Int)) (hN2 : N ≤ 20000) (hN4 : 4 < N) (g : Int) (P : Nat → Nat → List Int) (mo : Mode)
    (hl : l.done = 0 ∧ l.count = 1 ∧ l.era = 2 ∧ l.free = 3)
    (q1 : ∀ h, callP ev 10 [.agg (CDc c)] h = .ok (.tup [.agg (LDc c l), I 0]) h) (q4 : ∀ h, callP ev 14 [.agg (LDc c l)] h = .ok (I g) h)
    (q : ∀ h (a b : Nat), a < 64 → b < 16 → callP ev 18 [.agg (LDc c l), I a, I b] h = .ok (.sl mo 1 (ints (P a b))) h)
    (F : ∀ a b, a < 64 → b < 16 → Fit (P a b) b N g)
    (all : ∀ x, x < N → mk4 4 x + sumR (fun a => sumR (fun b => sumR (cK (P a b) b · x) 14) 16) 64 = 1)
    (hn : c.seats ≤ 2 ∧ c.tasks ≤ 9 ∧ c.buckets ≤ 8 ∧ c.nodes ≤ 20) :
    ∃ h', evalF ev NN ir8 [.agg (CDc c)] [] = .ok (B true) h' := by
  have hx : ∀ x, mk4 4 x ≤ 100 := fun x => by unfold mk4; split <;> omega
  obtain ⟨y5, y6, y7, y8, y9, y10, y11, y12, y13, y20, y21, y22, y23, y24, y25, y26, y28, y19, e⟩ := loop_a ev c l N hN hN2 P mo g F (mk4 4) hx q (.agg (CDc c)) (.box (CDc c)) (B false) (B false) .junk .junk (I 0) (B true) .junk NN 0 (by omega) (by unfold NN; omega) .junk .junk .junk .junk .junk .junk .junk .junk .junk .junk .junk .junk .junk .junk .junk .junk .junk
  have h00 : vecN N (fun x => mk4 4 x + sumR (fun a => sumR (fun b => sumR (cK (P a b) b · x) 14) 16) 0) = vecN N (mk4 4) := vecN_ext (fun x => rfl)
  rw [h00] at e
  generalize hM : vecN N (fun x => mk4 4 x + sumR (fun a => sumR (fun b => sumR (cK (P a b) b · x) 14) 16) 64) = M at e
  have hMl : M.length = N := by rw [← hM, vecN_len]
  have hM1 : ∀ i, i < N → M[i]? = some 1 := fun i hi => by rw [← hM, vecN_get hi, all i hi]; rfl
  obtain ⟨y14, y15, y29, e2⟩ := loop_last ev c l N hN hN2 M hMl hM1 (.agg (CDc c)) (.box (CDc c)) (B false) (B false) y5 y6 y7 y8 y9 y10 y11 y12 y13 (I 0) (B true) y19 y20 y21 y22 y23 y24 y25 y26 (I g) y28 NN 0 (by omega) (by unfold NN; omega) .junk .junk
  have w0 := mk4_zero N
  have d0 := mk4_drop (N := N) (k := 0) (by omega)
  have d1 := mk4_drop (N := N) (k := 1) (by omega)
  have d2 := mk4_drop (N := N) (k := 2) (by omega)
  have d3 := mk4_drop (N := N) (k := 3) (by omega)
  have s0 := mk4_set (N := N) (k := 0) (by omega)
  have s1 := mk4_set (N := N) (k := 1) (by omega)
  have s2 := mk4_set (N := N) (k := 2) (by omega)
  have s3 := mk4_set (N := N) (k := 3) (by omega)
  have l0 := vecN_len N (mk4 0)
  have l1 := vecN_len N (mk4 1)
  have l2 := vecN_len N (mk4 2)
  have l3 := vecN_len N (mk4 3)
  have l4 := vecN_len N (mk4 4)
  simp only [Nat.zero_add, Nat.reduceAdd] at s0 s1 s2 s3
  generalize vecN N (mk4 0) = W0 at *
  generalize vecN N (mk4 1) = W1 at *
  generalize vecN N (mk4 2) = W2 at *
  generalize vecN N (mk4 3) = W3 at *
  generalize vecN N (mk4 4) = W4 at *
  obtain ⟨n1, n2, n3, n4⟩ := hn
  obtain ⟨a1, a2, a3, a4⟩ := hl
  simp only [cast0] at e e2
  have z0 : ∀ x : Int, ints [x] = [I x] := fun x => rfl
  clear all F q hM hM1 hx h00
  rw [List.drop_zero] at d0
  have s00 : I 1 :: ints (List.drop 1 W0) = ints W1 := by
    rw [← s0]
    cases W0 with
    | nil => simp at l0; omega
    | cons x W => rfl
  clear s0
  have hroom : (N : Int) * 10 ≤ (room : Int) := by simp only [room]; omega
  exact ⟨[ints M], by simp -implicitDefEqProofs (disch := first | omega | (simp only [List.length_set, List.length_replicate]; omega)) only [ir8, ha, q1, q4, hN, a1, a2, a3, a4, w0, d0, d1, d2, d3, s00, s1, s2, s3, l0, l1, l2, l3, l4, z0, hroom, e, e2, wrap_i64, wrap_u64, wrap_u32, wrap_u16, wrap_u8, dec_t, dec_f, ite_t, ite_f, tmod_e, go_sem, Nat.reduceAdd, Nat.reduceMul, Nat.reduceSub, Nat.reduceLeDiff, Nat.reduceEqDiff, Nat.reduceBEq, Nat.reduceLT, Int.reduceLE, Int.reduceLT, Int.reduceEq, Int.reduceNeg, Int.reduceAdd, Int.reduceMul, Int.reduceSub, Int.reduceToNat, reduceCtorEq, ↓reduceIte]⟩
theorem law_Apart (d : Nat) (c : Cf) : ∃ h', evalCall fns NN (d + 11) 8 [.agg (CDc c)] [] = .ok (B true) h' := by
  rw [call_eq rfl]
  by_cases ok : OkC c
  · have q1 := fun h => p_ROf (d := d + 7) (h := h) c
    simp only [ofV, if_pos ok] at q1
    by_cases hn : c.seats ≤ 2 ∧ c.tasks ≤ 9 ∧ c.buckets ≤ 8 ∧ c.nodes ≤ 20
    · have hl := ok_lb ok
      have b12 : (layF c).size = (layF c).node + 8 * c.nodes := rfl
      have b11 : (layF c).node = (layF c).chan + 2 * c.chans := rfl
      have k1 := hl.chan
      have k2 := hl.node
      have k3 := ok.chans
      have k4 := ok.nodes
      have k5 := ok.maps
      have k6 := ok.seats
      have k7 : (layF c).alive + 8 * c.seats ≤ (layF c).chan ∧ (layF c).chan ≤ 15000 := by
        have r6 := ring_bd ok.toMay
        have r9 := map_bd ok.toMay
        have r10 := stack_bd ok.toMay
        have := ok.tasks
        have := ok.cells
        simp only [layF]; omega
      have k8 : (layF c).alive = 4 := rfl
      have hN : (layF c).size = (((layF c).size.toNat : Nat) : Int) := by omega
      refine body_Apart _ (fun h => p_shown) c (layF c) (layF c).size.toNat hN (by omega) (by omega) (rgF c.tasks) (fun a b => plsF c (layF c) a b) .own ⟨rfl, rfl, rfl, rfl⟩ q1 (fun h => p_Rings (d := d + 8) c _ ok.tasks.2)
        (fun h a b ha hb => p_places (d := d + 6) c _ a b hl ⟨by omega, by omega⟩) (fun a b ha hb => fit_F ok hN a b hb) (fun x hx => ?_) hn
      exact all_one ok hn.1 hn.2.1 hn.2.2.1 hn.2.2.2 (by omega)
    · exact ⟨[], body_Apart1 _ (fun h => p_shown) c (layF c) q1 hn⟩
  · have q1 := fun h => p_ROf (d := d + 7) (h := h) c
    simp only [ofV, if_neg ok] at q1
    exact ⟨[], body_Apart0 _ (fun h => p_shown) c q1⟩
end Go.D.Layout
