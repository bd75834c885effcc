/- The laws RingTells, RingRound, RingApart and RingEnough, in the evaluator. -/
import Derived.Test.YtcnancgfgokghaaQqRingR2
import Derived.KernelRfl
set_option linter.unusedSimpArgs false
set_option linter.unusedVariables false
namespace Go.D.Ring
open Go.D
set_option maxRecDepth 10000
set_option maxHeartbeats 2000000
variable {d : Nat} {h : Heap}

/-- The conf of so many seats and tasks. -/
def whC (s t : Int) : Cf := ⟨1 + s % 3, 0, 1, 1, 1 + t % 64, 0, 0, 0, 0⟩
theorem wh_ok (s t : Int) : OkC (whC s t) where
  seats := by simp only [whC]; omega
  buckets := by simp only [whC]; omega
  slots := by simp only [whC]; omega
  tasks := by simp only [whC]; omega
  cells := by simp only [whC]; omega
  maps := by simp only [whC]; omega
  stacks := by simp only [whC]; omega
  chans := by simp only [whC]; omega
  two := by simp only [whC]; exact .inl rfl
  nodes := by simp only [whC]; omega
theorem wh_lok (s t : Int) : LOk (whC s t) (layF (whC s t)) where
  tasks := by simp only [whC]; omega
  seats := by simp only [whC]; omega
  ring := by simp only [whC, layF]; omega
theorem body_where (ev : FuncId → List DV → Heap → Res DV) (s t : Int) (hs : 0 ≤ s ∧ s ≤ 255) (ht : 0 ≤ t ∧ t ≤ 255)
    (q : ∀ h, callP ev 22 [.agg [I (1 + s % 3), I 0, I 1, I 1, I (1 + t % 64), I 0, I 0, I 0, I 0]] h = .ok (.tup [.agg (LDc (whC s t) (layF (whC s t))), I 0]) h) :
    evalF ev NN ir9 [U s, U t] [] = .ok (.agg (LDc (whC s t) (layF (whC s t)))) [] := by
  simp -implicitDefEqProofs (disch := omega) only [ir9, q, wrap_i64, wrap_u64, wrap_u32, wrap_u16, wrap_u8, dec_t, dec_f, ite_t, ite_f, tmod_e, go_sem, Nat.reduceAdd, Nat.reduceMul, Nat.reduceSub, Nat.reduceLeDiff, Nat.reduceEqDiff, Nat.reduceBEq, Nat.reduceLT, Int.reduceLE, Int.reduceLT, Int.reduceEq, Int.reduceNeg, Int.reduceAdd, Int.reduceMul, Int.reduceSub, Int.reduceToNat, reduceCtorEq, ↓reduceIte]
theorem p_where (s t : Int) (hs : 0 ≤ s ∧ s ≤ 255) (ht : 0 ≤ t ∧ t ≤ 255) : callP (evalCall fns NN (d + 4)) 9 [U s, U t] h = .ok (.agg (LDc (whC s t) (layF (whC s t)))) h :=
  callP_of (v := .agg (LDc (whC s t) (layF (whC s t)))) (h' := []) rfl rfl (by
    rw [call_eq rfl]
    exact body_where _ s t hs ht (fun h => by have p := p_Of (d := d) (h := h) (whC s t); rw [ofV, if_pos (wh_ok s t)] at p; exact p)) rfl
theorem e_awake : ∀ d, evalCall fns NN (d + 10) 8 [] [] = .ok (B true) [] := fun d => by kernel_rfl
theorem p_awake : callP (evalCall fns NN (d + 10)) 8 [] h = .ok (B true) h := callP_of (v := B true) rfl rfl (e_awake d) rfl

theorem body_Tells (ev : FuncId → List DV → Heap → Res DV) (ha : ∀ h, callP ev 8 [] h = .ok (B true) h) (c : Cf) (l : Lf) (s t seat r top bot : Int)
    (q1 : ∀ h, callP ev 9 [U s, U t] h = .ok (.agg (LDc c l)) h)
    (x1 x2 : Int) (mv : List (Int × Int)) (mo : Mode)
    (q2 : ∀ h, callP ev 10 [I r] h = .ok (I x1) h) (q3 : ∀ h, callP ev 11 [I r] h = .ok (I x1) h)
    (q4 : ∀ h, callP ev 12 [.agg (LDc c l), I seat, I r, I top] h = .ok (I x2) h) (q5 : ∀ h, callP ev 13 [.agg (LDc c l), I seat, I r, I top] h = .ok (I x2) h)
    (q6 : ∀ h, callP ev 15 [.agg (LDc c l), I seat, I r, I top, I bot] h = .ok (.sl mo 2 (prs mv)) h) (q7 : ∀ h, callP ev 16 [.agg (LDc c l), I seat, I r, I top, I bot] h = .ok (.sl mo 2 (prs mv)) h)
    (q8 : ∀ h ma mb, callP ev 14 [.sl ma 2 (prs mv), .sl mb 2 (prs mv)] h = .ok (B true) h) :
    evalF ev NN ir3 [U s, U t, I seat, I r, I top, I bot] [] = .ok (B true) [] := by
  by_cases c1 : 100 < IntKind.i64.wrap (bot - top)
  · by_cases c2 : 0 ≤ top
    · simp -implicitDefEqProofs only [ir3, ha, q1, q2, q3, q4, q5, q6, q7, q8, c1, c2, go_sem, Nat.reduceAdd, Nat.reduceMul, Nat.reduceSub, Nat.reduceLeDiff, Nat.reduceEqDiff, Nat.reduceBEq, Nat.reduceLT, Int.reduceLE, Int.reduceLT, Int.reduceEq, Int.reduceNeg, Int.reduceAdd, Int.reduceMul, Int.reduceSub, Int.reduceToNat, reduceCtorEq, ↓reduceIte]
    · simp -implicitDefEqProofs only [ir3, ha, q1, q2, q3, q4, q5, q6, q7, q8, c1, c2, go_sem, Nat.reduceAdd, Nat.reduceMul, Nat.reduceSub, Nat.reduceLeDiff, Nat.reduceEqDiff, Nat.reduceBEq, Nat.reduceLT, Int.reduceLE, Int.reduceLT, Int.reduceEq, Int.reduceNeg, Int.reduceAdd, Int.reduceMul, Int.reduceSub, Int.reduceToNat, reduceCtorEq, ↓reduceIte]
  · simp -implicitDefEqProofs only [ir3, ha, q1, q2, q3, q4, q5, q6, q7, q8, c1, go_sem, Nat.reduceAdd, Nat.reduceMul, Nat.reduceSub, Nat.reduceLeDiff, Nat.reduceEqDiff, Nat.reduceBEq, Nat.reduceLT, Int.reduceLE, Int.reduceLT, Int.reduceEq, Int.reduceNeg, Int.reduceAdd, Int.reduceMul, Int.reduceSub, Int.reduceToNat, reduceCtorEq, ↓reduceIte]
theorem law_Tells (d : Nat) (s t seat r top bot : Int) (hs : 0 ≤ s ∧ s ≤ 255) (ht : 0 ≤ t ∧ t ≤ 255) (hr : inI r) (hb : inI bot) :
    evalCall fns NN (d + 11) 3 [U s, U t, I seat, I r, I top, I bot] [] = .ok (B true) [] := by
  rw [call_eq rfl]
  have hk := wh_lok s t
  have hl := movesV_len (whC s t) (layF (whC s t)) seat r top bot hk
  exact body_Tells _ (fun h => p_awake) (whC s t) (layF (whC s t)) s t seat r top bot (fun h => p_where (d := d + 6) s t hs ht) _ _ _ _
    (fun h => p_Size (d := d + 9) r) (fun h => p_RSize (d := d + 9) r) (fun h => p_Place (d := d + 5) _ _ seat r top hk) (fun h => p_RPlace (d := d + 7) _ _ seat r top hk)
    (fun h => p_Moves (d := d + 4) _ _ seat r top bot hk hb hr) (fun h => p_RMoves (d := d + 6) _ _ seat r top bot hk hb hr) (fun h ma mb => by simpa using p_Pairs (d := d + 9) (h := h) (movesV (whC s t) (layF (whC s t)) seat r top bot) (movesV (whC s t) (layF (whC s t)) seat r top bot) ma mb (by omega))

theorem body_Round (ev : FuncId → List DV → Heap → Res DV) (ha : ∀ h, callP ev 8 [] h = .ok (B true) h) (c : Cf) (l : Lf) (s t seat r i more : Int) (hs : 0 ≤ s ∧ s ≤ 255) (hseat : 0 ≤ seat ∧ seat ≤ 255) (hr : 0 ≤ r ∧ r ≤ 255) (hi : 0 ≤ i ∧ i ≤ 4294967295) (hm : 0 ≤ more ∧ more ≤ 255)
    (q1 : ∀ h, callP ev 9 [U s, U t] h = .ok (.agg (LDc c l)) h) (a b n g : Int)
    (q2 : ∀ h, callP ev 12 [.agg (LDc c l), I (seat % (1 + s % 3)), I (r % 8), I i] h = .ok (I a) h)
    (q3 : ∀ h, callP ev 12 [.agg (LDc c l), I (seat % (1 + s % 3)), I (r % 8), I (i + more)] h = .ok (I b) h)
    (q4 : ∀ h, callP ev 10 [I (r % 8)] h = .ok (I n) h) (q5 : ∀ h, callP ev 17 [.agg (LDc c l)] h = .ok (I g) h)
    (F1 : a < 0 → g ≤ r % 8 ∧ b = -1) (F2 : ¬ a < 0 → 4 ≤ n ∧ r % 8 < g ∧ (a = b ↔ more % n = 0)) :
    evalF ev NN ir4 [U s, U t, U seat, U r, .sc (.int .u32 i), U more] [] = .ok (B true) [] := by
  by_cases c1 : a < 0
  · obtain ⟨f1, f2⟩ := F1 c1
    simp -implicitDefEqProofs (disch := omega) only [ir4, ha, q1, q2, q3, q4, q5, wrap_i64, wrap_u64, wrap_u32, wrap_u16, wrap_u8, dec_t, dec_f, ite_t, ite_f, tmod_e, go_sem, Nat.reduceAdd, Nat.reduceMul, Nat.reduceSub, Nat.reduceLeDiff, Nat.reduceEqDiff, Nat.reduceBEq, Nat.reduceLT, Int.reduceLE, Int.reduceLT, Int.reduceEq, Int.reduceNeg, Int.reduceAdd, Int.reduceMul, Int.reduceSub, Int.reduceToNat, reduceCtorEq, ↓reduceIte]
  · obtain ⟨f1, f2, f3⟩ := F2 c1
    by_cases c2 : a = b
    · have f4 := f3.1 c2
      simp -implicitDefEqProofs (disch := omega) only [ir4, ha, q1, q2, q3, q4, q5, f4, wrap_i64, wrap_u64, wrap_u32, wrap_u16, wrap_u8, dec_t, dec_f, ite_t, ite_f, tmod_e, go_sem, Nat.reduceAdd, Nat.reduceMul, Nat.reduceSub, Nat.reduceLeDiff, Nat.reduceEqDiff, Nat.reduceBEq, Nat.reduceLT, Int.reduceLE, Int.reduceLT, Int.reduceEq, Int.reduceNeg, Int.reduceAdd, Int.reduceMul, Int.reduceSub, Int.reduceToNat, reduceCtorEq, ↓reduceIte]
    · have f4 : ¬ more % n = 0 := fun h => c2 (f3.2 h)
      simp -implicitDefEqProofs (disch := omega) only [ir4, ha, q1, q2, q3, q4, q5, f4, wrap_i64, wrap_u64, wrap_u32, wrap_u16, wrap_u8, dec_t, dec_f, ite_t, ite_f, tmod_e, go_sem, Nat.reduceAdd, Nat.reduceMul, Nat.reduceSub, Nat.reduceLeDiff, Nat.reduceEqDiff, Nat.reduceBEq, Nat.reduceLT, Int.reduceLE, Int.reduceLT, Int.reduceEq, Int.reduceNeg, Int.reduceAdd, Int.reduceMul, Int.reduceSub, Int.reduceToNat, reduceCtorEq, ↓reduceIte]
theorem law_Round (d : Nat) (s t seat r i more : Int) (hs : 0 ≤ s ∧ s ≤ 255) (ht : 0 ≤ t ∧ t ≤ 255) (hseat : 0 ≤ seat ∧ seat ≤ 255) (hr : 0 ≤ r ∧ r ≤ 255) (hi : 0 ≤ i ∧ i ≤ 4294967295) (hm : 0 ≤ more ∧ more ≤ 255) :
    evalCall fns NN (d + 11) 4 [U s, U t, U seat, U r, .sc (.int .u32 i), U more] [] = .ok (B true) [] := by
  rw [call_eq rfl]
  have hk := wh_lok s t
  have hsm := mod_bd (i := seat) (s := 1 + s % 3) (by omega)
  have hp := ring_pos (c := whC s t) (seat := seat % (1 + s % 3)) (r := r % 8) hk.ring.1
  have hcs : (whC s t).seats = 1 + s % 3 := rfl
  refine body_Round _ (fun h => p_awake) (whC s t) (layF (whC s t)) s t seat r i more hs hseat hr hi hm (fun h => p_where (d := d + 6) s t hs ht) _ _ _ _
    (fun h => p_Place (d := d + 5) _ _ _ _ _ hk) (fun h => p_Place (d := d + 5) _ _ _ _ _ hk) (fun h => p_Size (d := d + 9) _) (fun h => p_Rings (d := d + 8) _ _ hk.tasks) (fun hn => ?_) (fun hn => ?_)
  · have h0 : ¬ 0 ≤ ringF (whC s t) (layF (whC s t)) (seat % (1 + s % 3)) (r % 8) := fun h => by
      unfold placeF at hn
      rw [if_pos ⟨h, hi.1⟩] at hn
      have := sz_bd hk.ring.1 h
      have := mod_bd (i := i) (s := szF (r % 8)) (by omega)
      omega
    refine ⟨?_, by unfold placeF; rw [if_neg (fun h => h0 h.1)]⟩
    have := mt hp.2 h0
    rw [hcs] at this
    omega
  · have h0 : 0 ≤ ringF (whC s t) (layF (whC s t)) (seat % (1 + s % 3)) (r % 8) := by
      apply Classical.byContradiction
      intro h
      unfold placeF at hn
      rw [if_neg (fun h' => h h'.1)] at hn
      omega
    have h1 := hp.1 h0
    have h2 := rg_bd (whC s t).tasks
    have h3 := sz_bd hk.ring.1 h0
    have h4 := sz_p2 (r := r % 8) (by omega) (by omega)
    refine ⟨h3.1, by omega, ?_⟩
    unfold placeF
    rw [if_pos ⟨h0, hi.1⟩, if_pos ⟨h0, by omega⟩]
    rw [h4]
    have : r % 8 = 0 ∨ r % 8 = 1 ∨ r % 8 = 2 ∨ r % 8 = 3 ∨ r % 8 = 4 := by omega
    have p0 : p2F 0 = 1 := by decide
    have p1 : p2F 1 = 2 := by decide
    have p2 : p2F 2 = 4 := by decide
    have p3 : p2F 3 = 8 := by decide
    have p4 : p2F 4 = 16 := by decide
    rcases this with e | e | e | e | e <;> rw [e] <;> simp only [p0, p1, p2, p3, p4] <;> omega

theorem body_Enough (ev : FuncId → List DV → Heap → Res DV) (ha : ∀ h, callP ev 8 [] h = .ok (B true) h) (c : Cf) (l : Lf) (s t : Int) (ht : 0 ≤ t ∧ t ≤ 255)
    (q1 : ∀ h, callP ev 9 [U s, U t] h = .ok (.agg (LDc c l)) h) (p : Int → Int)
    (q2 : ∀ h r, callP ev 12 [.agg (LDc c l), I 0, I r, I 0] h = .ok (I (p r)) h)
    (q4 : ∀ h r, callP ev 10 [I r] h = .ok (I (szF r)) h) (q5 : ∀ h, callP ev 17 [.agg (LDc c l)] h = .ok (I (rgF (1 + t % 64))) h)
    (hp : ∀ r, 0 ≤ r → r ≤ rgF (1 + t % 64) - 1 → ¬ p r < 0) (hp2 : p (rgF (1 + t % 64)) = -1) :
    evalF ev NN ir6 [U s, U t] [] = .ok (B true) [] := by
  have z0 : szF 0 = 4 := by decide
  have z1 : szF 1 = 8 := by decide
  have z2 : szF 2 = 16 := by decide
  have z3 : szF 3 = 32 := by decide
  have z4 : szF 4 = 64 := by decide
  unfold rgF at *
  by_cases c4 : 1 + t % 64 ≤ 4
  · simp only [if_pos c4] at q5 hp hp2
    simp -implicitDefEqProofs (disch := omega) only [ir6, ir6_l0, NN_8, it1, ha, q1, q2, q4, q5, hp, hp2, z0, z1, z2, z3, z4, wrap_i64, wrap_u64, wrap_u32, wrap_u16, wrap_u8, dec_t, dec_f, ite_t, ite_f, tmod_e, go_sem, Nat.reduceAdd, Nat.reduceMul, Nat.reduceSub, Nat.reduceLeDiff, Nat.reduceEqDiff, Nat.reduceBEq, Nat.reduceLT, Int.reduceLE, Int.reduceLT, Int.reduceEq, Int.reduceNeg, Int.reduceAdd, Int.reduceMul, Int.reduceSub, Int.reduceToNat, reduceCtorEq, ↓reduceIte]
  by_cases c8 : 1 + t % 64 ≤ 8
  · simp only [if_neg c4, if_pos c8] at q5 hp hp2
    simp -implicitDefEqProofs (disch := omega) only [ir6, ir6_l0, NN_8, it1, ha, q1, q2, q4, q5, hp, hp2, z0, z1, z2, z3, z4, wrap_i64, wrap_u64, wrap_u32, wrap_u16, wrap_u8, dec_t, dec_f, ite_t, ite_f, tmod_e, go_sem, Nat.reduceAdd, Nat.reduceMul, Nat.reduceSub, Nat.reduceLeDiff, Nat.reduceEqDiff, Nat.reduceBEq, Nat.reduceLT, Int.reduceLE, Int.reduceLT, Int.reduceEq, Int.reduceNeg, Int.reduceAdd, Int.reduceMul, Int.reduceSub, Int.reduceToNat, reduceCtorEq, ↓reduceIte]
  by_cases c16 : 1 + t % 64 ≤ 16
  · simp only [if_neg c4, if_neg c8, if_pos c16] at q5 hp hp2
    simp -implicitDefEqProofs (disch := omega) only [ir6, ir6_l0, NN_8, it1, ha, q1, q2, q4, q5, hp, hp2, z0, z1, z2, z3, z4, wrap_i64, wrap_u64, wrap_u32, wrap_u16, wrap_u8, dec_t, dec_f, ite_t, ite_f, tmod_e, go_sem, Nat.reduceAdd, Nat.reduceMul, Nat.reduceSub, Nat.reduceLeDiff, Nat.reduceEqDiff, Nat.reduceBEq, Nat.reduceLT, Int.reduceLE, Int.reduceLT, Int.reduceEq, Int.reduceNeg, Int.reduceAdd, Int.reduceMul, Int.reduceSub, Int.reduceToNat, reduceCtorEq, ↓reduceIte]
  by_cases c32 : 1 + t % 64 ≤ 32
  · simp only [if_neg c4, if_neg c8, if_neg c16, if_pos c32] at q5 hp hp2
    simp -implicitDefEqProofs (disch := omega) only [ir6, ir6_l0, NN_8, it1, ha, q1, q2, q4, q5, hp, hp2, z0, z1, z2, z3, z4, wrap_i64, wrap_u64, wrap_u32, wrap_u16, wrap_u8, dec_t, dec_f, ite_t, ite_f, tmod_e, go_sem, Nat.reduceAdd, Nat.reduceMul, Nat.reduceSub, Nat.reduceLeDiff, Nat.reduceEqDiff, Nat.reduceBEq, Nat.reduceLT, Int.reduceLE, Int.reduceLT, Int.reduceEq, Int.reduceNeg, Int.reduceAdd, Int.reduceMul, Int.reduceSub, Int.reduceToNat, reduceCtorEq, ↓reduceIte]
  · simp only [if_neg c4, if_neg c8, if_neg c16, if_neg c32] at q5 hp hp2
    simp -implicitDefEqProofs (disch := omega) only [ir6, ir6_l0, NN_8, it1, ha, q1, q2, q4, q5, hp, hp2, z0, z1, z2, z3, z4, wrap_i64, wrap_u64, wrap_u32, wrap_u16, wrap_u8, dec_t, dec_f, ite_t, ite_f, tmod_e, go_sem, Nat.reduceAdd, Nat.reduceMul, Nat.reduceSub, Nat.reduceLeDiff, Nat.reduceEqDiff, Nat.reduceBEq, Nat.reduceLT, Int.reduceLE, Int.reduceLT, Int.reduceEq, Int.reduceNeg, Int.reduceAdd, Int.reduceMul, Int.reduceSub, Int.reduceToNat, reduceCtorEq, ↓reduceIte]
theorem law_Enough (d : Nat) (s t : Int) (hs : 0 ≤ s ∧ s ≤ 255) (ht : 0 ≤ t ∧ t ≤ 255) : evalCall fns NN (d + 11) 6 [U s, U t] [] = .ok (B true) [] := by
  rw [call_eq rfl]
  have hk := wh_lok s t
  have hct : (whC s t).tasks = 1 + t % 64 := rfl
  have hcs : (whC s t).seats = 1 + s % 3 := rfl
  refine body_Enough _ (fun h => p_awake) (whC s t) (layF (whC s t)) s t ht (fun h => p_where (d := d + 6) s t hs ht) (fun r => placeF (whC s t) (layF (whC s t)) 0 r 0)
    (fun h r => p_Place (d := d + 5) _ _ _ _ _ hk) (fun h r => p_Size (d := d + 9) _) (fun h => p_Rings (d := d + 8) _ _ hk.tasks) (fun r h0 h1 hn => ?_) ?_
  · have hr := (ring_pos (c := whC s t) (seat := 0) (r := r) hk.ring.1).2 ⟨⟨by omega, by omega⟩, h0, by rw [hct]; exact h1⟩
    unfold placeF at hn
    rw [if_pos ⟨hr, by omega⟩] at hn
    have := sz_bd hk.ring.1 hr
    have := mod_bd (i := 0) (s := szF r) (by omega)
    omega
  · show placeF _ _ _ _ _ = -1
    unfold placeF
    rw [if_neg (fun h => by have := (ring_pos hk.ring.1).1 h.1; rw [hct] at this; omega)]

theorem body_Apart (ev : FuncId → List DV → Heap → Res DV) (ha : ∀ h, callP ev 8 [] h = .ok (B true) h) (c : Cf) (l : Lf) (s t s0 s1 r0 r1 i k : Int) (hs : 0 ≤ s ∧ s ≤ 255) (hs0 : 0 ≤ s0 ∧ s0 ≤ 255) (hs1 : 0 ≤ s1 ∧ s1 ≤ 255) (hr0 : 0 ≤ r0 ∧ r0 ≤ 255) (hr1 : 0 ≤ r1 ∧ r1 ≤ 255) (hi : 0 ≤ i ∧ i ≤ 65535) (hk : 0 ≤ k ∧ k ≤ 65535)
    (q1 : ∀ h, callP ev 9 [U s, U t] h = .ok (.agg (LDc c l)) h) (x y a b : Int) (hx : s0 % (1 + s % 3) = x) (hy : s1 % (1 + s % 3) = y)
    (q2 : ∀ h, callP ev 12 [.agg (LDc c l), I x, I (r0 % 8), I i] h = .ok (I a) h)
    (q3 : ∀ h, callP ev 12 [.agg (LDc c l), I y, I (r1 % 8), I k] h = .ok (I b) h)
    (F1 : 0 ≤ a → l.ring ≤ a ∧ a < l.task) (F2 : 0 ≤ a → 0 ≤ b → a = b → x = y ∧ r0 % 8 = r1 % 8) :
    evalF ev NN ir5 [U s, U t, .agg [U s0, U s1], .agg [U r0, U r1], .sc (.int .u16 i), .sc (.int .u16 k)] [] = .ok (B true) [] := by
  by_cases c1 : 0 ≤ a
  · obtain ⟨f1, f2⟩ := F1 c1
    by_cases c2 : 0 ≤ b
    · by_cases c3 : a = b
      · obtain ⟨f3, f4⟩ := F2 c1 c2 c3
        simp -implicitDefEqProofs (disch := omega) only [ir5, ha, q1, q2, q3, hx, hy, wrap_i64, wrap_u64, wrap_u32, wrap_u16, wrap_u8, dec_t, dec_f, ite_t, ite_f, tmod_e, go_sem, Nat.reduceAdd, Nat.reduceMul, Nat.reduceSub, Nat.reduceLeDiff, Nat.reduceEqDiff, Nat.reduceBEq, Nat.reduceLT, Int.reduceLE, Int.reduceLT, Int.reduceEq, Int.reduceNeg, Int.reduceAdd, Int.reduceMul, Int.reduceSub, Int.reduceToNat, reduceCtorEq, ↓reduceIte]
      · simp -implicitDefEqProofs (disch := omega) only [ir5, ha, q1, q2, q3, hx, hy, wrap_i64, wrap_u64, wrap_u32, wrap_u16, wrap_u8, dec_t, dec_f, ite_t, ite_f, tmod_e, go_sem, Nat.reduceAdd, Nat.reduceMul, Nat.reduceSub, Nat.reduceLeDiff, Nat.reduceEqDiff, Nat.reduceBEq, Nat.reduceLT, Int.reduceLE, Int.reduceLT, Int.reduceEq, Int.reduceNeg, Int.reduceAdd, Int.reduceMul, Int.reduceSub, Int.reduceToNat, reduceCtorEq, ↓reduceIte]
    · simp -implicitDefEqProofs (disch := omega) only [ir5, ha, q1, q2, q3, hx, hy, wrap_i64, wrap_u64, wrap_u32, wrap_u16, wrap_u8, dec_t, dec_f, ite_t, ite_f, tmod_e, go_sem, Nat.reduceAdd, Nat.reduceMul, Nat.reduceSub, Nat.reduceLeDiff, Nat.reduceEqDiff, Nat.reduceBEq, Nat.reduceLT, Int.reduceLE, Int.reduceLT, Int.reduceEq, Int.reduceNeg, Int.reduceAdd, Int.reduceMul, Int.reduceSub, Int.reduceToNat, reduceCtorEq, ↓reduceIte]
  · simp -implicitDefEqProofs (disch := omega) only [ir5, ha, q1, q2, q3, hx, hy, wrap_i64, wrap_u64, wrap_u32, wrap_u16, wrap_u8, dec_t, dec_f, ite_t, ite_f, tmod_e, go_sem, Nat.reduceAdd, Nat.reduceMul, Nat.reduceSub, Nat.reduceLeDiff, Nat.reduceEqDiff, Nat.reduceBEq, Nat.reduceLT, Int.reduceLE, Int.reduceLT, Int.reduceEq, Int.reduceNeg, Int.reduceAdd, Int.reduceMul, Int.reduceSub, Int.reduceToNat, reduceCtorEq, ↓reduceIte]

/-- Where a place lies. -/
theorem place_in {c : Cf} {l : Lf} {x r i : Int} (hk : LOk c l) (h : 0 ≤ placeF c l x r i) :
    (0 ≤ x ∧ x ≤ c.seats - 1) ∧ (0 ≤ r ∧ r ≤ rgF c.tasks - 1) ∧ l.ring + x * (4 * (pwF c.tasks - 1)) + 4 * (p2F r - 1) ≤ placeF c l x r i ∧ placeF c l x r i < l.ring + x * (4 * (pwF c.tasks - 1)) + 4 * (p2F r - 1) + 4 * p2F r := by
  by_cases hc : 0 ≤ ringF c l x r ∧ 0 ≤ i
  · have h1 := (ring_pos hk.ring.1).1 hc.1
    have h2 := rg_bd c.tasks
    have h3 := sz_p2 (r := r) (by omega) (by omega)
    have h4 := p2_bd r
    have h5 := mod_bd (i := i) (s := szF r) (by omega)
    unfold placeF at h ⊢
    rw [if_pos hc] at h ⊢
    have hrf : ringF c l x r = l.ring + x * (4 * (pwF c.tasks - 1)) + 4 * (p2F r - 1) := by unfold ringF; rw [if_pos h1]
    exact ⟨h1.1, h1.2, by omega, by omega⟩
  · unfold placeF at h
    rw [if_neg hc] at h; omega
theorem p2_step {r q t : Int} (h0 : 0 ≤ r) (h : r < q) (hq : q ≤ 5) : 2 * p2F r ≤ p2F q := by
  unfold p2F
  repeat' split
  all_goals omega
theorem law_Apart (d : Nat) (s t s0 s1 r0 r1 i k : Int) (hs : 0 ≤ s ∧ s ≤ 255) (ht : 0 ≤ t ∧ t ≤ 255) (hs0 : 0 ≤ s0 ∧ s0 ≤ 255) (hs1 : 0 ≤ s1 ∧ s1 ≤ 255) (hr0 : 0 ≤ r0 ∧ r0 ≤ 255) (hr1 : 0 ≤ r1 ∧ r1 ≤ 255) (hi : 0 ≤ i ∧ i ≤ 65535) (hki : 0 ≤ k ∧ k ≤ 65535) :
    evalCall fns NN (d + 11) 5 [U s, U t, .agg [U s0, U s1], .agg [U r0, U r1], .sc (.int .u16 i), .sc (.int .u16 k)] [] = .ok (B true) [] := by
  rw [call_eq rfl]
  have hk := wh_lok s t
  have hpw := pw_bd (whC s t).tasks
  refine body_Apart _ (fun h => p_awake) (whC s t) (layF (whC s t)) s t s0 s1 r0 r1 i k hs hs0 hs1 hr0 hr1 hi hki (fun h => p_where (d := d + 6) s t hs ht) _ _ _ _ rfl rfl
    (fun h => p_Place (d := d + 5) _ _ _ _ _ hk) (fun h => p_Place (d := d + 5) _ _ _ _ _ hk) (fun ha => ?_) (fun ha hb hab => ?_)
  · obtain ⟨h1, h2, h3, h4⟩ := place_in hk ha
    have h5 := p2_lt h2.1 h2.2
    have h6 := p2_bd (r0 % 8)
    have hm : (s0 % (1 + s % 3) + 1) * (4 * (pwF (whC s t).tasks - 1)) ≤ (whC s t).seats * (4 * (pwF (whC s t).tasks - 1)) := Int.mul_le_mul_of_nonneg_right (by omega) (by omega)
    have hm0 : 0 ≤ s0 % (1 + s % 3) * (4 * (pwF (whC s t).tasks - 1)) := Int.mul_nonneg h1.1 (by omega)
    rw [Int.add_mul, Int.one_mul] at hm
    have ht : (layF (whC s t)).task = (layF (whC s t)).ring + (whC s t).seats * (4 * (pwF (whC s t).tasks - 1)) := rfl
    omega
  · obtain ⟨h1, h2, h3, h4⟩ := place_in hk ha
    obtain ⟨g1, g2, g3, g4⟩ := place_in hk hb
    have h5 := p2_lt h2.1 h2.2
    have g5 := p2_lt g2.1 g2.2
    have h6 := p2_bd (r0 % 8)
    have g6 := p2_bd (r1 % 8)
    rw [hab] at h3 h4
    generalize placeF (whC s t) (layF (whC s t)) (s1 % (1 + s % 3)) (r1 % 8) k = a at *
    generalize s0 % (1 + s % 3) = x at *
    generalize s1 % (1 + s % 3) = y at *
    have hrg := rg_bd (whC s t).tasks
    have key : ∀ x y : Int, x < y → x * (4 * (pwF (whC s t).tasks - 1)) + 4 * (pwF (whC s t).tasks - 1) ≤ y * (4 * (pwF (whC s t).tasks - 1)) := by
      intro x y hxy
      have := Int.mul_le_mul_of_nonneg_right (show x + 1 ≤ y by omega) (show 0 ≤ 4 * (pwF (whC s t).tasks - 1) by omega)
      rwa [Int.add_mul, Int.one_mul] at this
    have hxy : x = y := by
      rcases Int.lt_trichotomy x y with h | h | h
      · have := key x y h; omega
      · exact h
      · have := key y x h; omega
    subst hxy
    refine ⟨rfl, ?_⟩
    rcases Int.lt_trichotomy (r0 % 8) (r1 % 8) with h | h | h
    · have := p2_step (t := 0) h2.1 h (by omega); omega
    · exact h
    · have := p2_step (t := 0) g2.1 h (by omega); omega
end Go.D.Ring
