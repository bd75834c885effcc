/- What 'ring' and its reference compute: sizes and places. -/
import Derived.Test.YtcnancgfgokghaaQqRingL2
set_option linter.unusedSimpArgs false
set_option linter.unusedVariables false
namespace Go.D.Ring
open Go.D
set_option maxRecDepth 10000
set_option maxHeartbeats 1000000
variable {d : Nat} {h : Heap}

/-- How many cells a ring has. -/
def szF (r : Int) : Int := if 0 ≤ r ∧ r < 16 then 4 * 2 ^ r.toNat else 0
theorem shl4 {r : Int} (h0 : 0 ≤ r) (h1 : r < 16) : IntKind.i64.wrap (4 * 2 ^ min r.toNat IntKind.i64.bits) = 4 * 2 ^ r.toNat := by
  have key : ∀ n : Fin 16, IntKind.i64.wrap (4 * 2 ^ min n.val IntKind.i64.bits) = 4 * 2 ^ n.val := by decide
  have := key ⟨r.toNat, by omega⟩
  exact this
theorem sz_p2 {r : Int} (h0 : 0 ≤ r) (h1 : r ≤ 5) : szF r = 4 * p2F r := by
  have : r = 0 ∨ r = 1 ∨ r = 2 ∨ r = 3 ∨ r = 4 ∨ r = 5 := by omega
  rcases this with rfl | rfl | rfl | rfl | rfl | rfl <;> decide
theorem body_Size (ev : FuncId → List DV → Heap → Res DV) (r : Int) : evalF ev NN ir10 [I r] [] = .ok (I (szF r)) [] := by
  unfold szF
  by_cases c1 : 0 ≤ r
  · by_cases c2 : r < 16
    · have e := shl4 c1 c2
      have r0 : ¬ r < 0 := by omega
      simp -implicitDefEqProofs (disch := omega) only [ir10, e, wrap_i64, wrap_u64, wrap_u32, wrap_u16, wrap_u8, dec_t, dec_f, ite_t, ite_f, tmod_e, go_sem, Nat.reduceAdd, Nat.reduceMul, Nat.reduceSub, Nat.reduceLeDiff, Nat.reduceEqDiff, Nat.reduceBEq, Nat.reduceLT, Int.reduceLE, Int.reduceLT, Int.reduceEq, Int.reduceNeg, Int.reduceAdd, Int.reduceMul, Int.reduceSub, Int.reduceToNat, reduceCtorEq, ↓reduceIte]
    · simp -implicitDefEqProofs (disch := omega) only [ir10, wrap_i64, wrap_u64, wrap_u32, wrap_u16, wrap_u8, dec_t, dec_f, ite_t, ite_f, tmod_e, go_sem, Nat.reduceAdd, Nat.reduceMul, Nat.reduceSub, Nat.reduceLeDiff, Nat.reduceEqDiff, Nat.reduceBEq, Nat.reduceLT, Int.reduceLE, Int.reduceLT, Int.reduceEq, Int.reduceNeg, Int.reduceAdd, Int.reduceMul, Int.reduceSub, Int.reduceToNat, reduceCtorEq, ↓reduceIte]
  · simp -implicitDefEqProofs (disch := omega) only [ir10, wrap_i64, wrap_u64, wrap_u32, wrap_u16, wrap_u8, dec_t, dec_f, ite_t, ite_f, tmod_e, go_sem, Nat.reduceAdd, Nat.reduceMul, Nat.reduceSub, Nat.reduceLeDiff, Nat.reduceEqDiff, Nat.reduceBEq, Nat.reduceLT, Int.reduceLE, Int.reduceLT, Int.reduceEq, Int.reduceNeg, Int.reduceAdd, Int.reduceMul, Int.reduceSub, Int.reduceToNat, reduceCtorEq, ↓reduceIte]
theorem p_Size (r : Int) : callP (evalCall fns NN (d + 1)) 10 [I r] h = .ok (I (szF r)) h :=
  callP_of (v := I (szF r)) (h' := []) rfl rfl (by rw [call_eq rfl]; exact body_Size _ r) rfl

/-- A seat's ring that there is. -/
theorem ring_pos {c : Cf} {l : Lf} {seat r : Int} (hl : 0 ≤ l.ring) : 0 ≤ ringF c l seat r ↔ (0 ≤ seat ∧ seat ≤ c.seats - 1) ∧ (0 ≤ r ∧ r ≤ rgF c.tasks - 1) := by
  unfold ringF
  have := pw_bd c.tasks
  have := p2_bd r
  constructor
  · intro h
    by_cases hc : (0 ≤ seat ∧ seat ≤ c.seats - 1) ∧ (0 ≤ r ∧ r ≤ rgF c.tasks - 1)
    · exact hc
    · rw [if_neg hc] at h; omega
  · intro hc
    rw [if_pos hc]
    have : 0 ≤ seat * (4 * (pwF c.tasks - 1)) := Int.mul_nonneg hc.1.1 (by omega)
    omega
theorem ring_up {c : Cf} {l : Lf} {seat r : Int} (hs : 0 ≤ c.seats ∧ c.seats ≤ 8) (hl : 0 ≤ l.ring ∧ l.ring ≤ 20000) : ringF c l seat r ≤ 30000 := by
  unfold ringF
  have := pw_bd c.tasks
  have := p2_bd r
  split
  · rename_i hc
    have : seat * (4 * (pwF c.tasks - 1)) ≤ 8 * 124 := Int.mul_le_mul (by omega) (by omega) (by omega) (by omega)
    omega
  · omega

/-- What is asked of a layout here. -/
structure LOk (c : Cf) (l : Lf) : Prop where
  tasks : c.tasks ≤ 64
  seats : 0 ≤ c.seats ∧ c.seats ≤ 8
  ring : 0 ≤ l.ring ∧ l.ring ≤ 20000

theorem body_there (ev : FuncId → List DV → Heap → Res DV) (c : Cf) (l : Lf) (seat r : Int) (hk : LOk c l)
    (q1 : ∀ h, callP ev 21 [.agg (LDc c l), I seat, I r] h = .ok (I (ringF c l seat r)) h) (q2 : ∀ h, callP ev 10 [I r] h = .ok (I (szF r)) h) :
    evalF ev NN ir23 [.agg (LDc c l), I seat, I r] [] = .ok (B (decide (0 ≤ ringF c l seat r))) [] := by
  by_cases hc : 0 ≤ ringF c l seat r
  · have h1 := (ring_pos hk.ring.1).1 hc
    have h2 := rg_bd c.tasks
    have h3 := sz_p2 (r := r) (by omega) (by omega)
    have h4 := p2_bd r
    simp -implicitDefEqProofs (disch := omega) only [ir23, q1, q2, wrap_i64, wrap_u64, wrap_u32, wrap_u16, wrap_u8, dec_t, dec_f, ite_t, ite_f, tmod_e, go_sem, Nat.reduceAdd, Nat.reduceMul, Nat.reduceSub, Nat.reduceLeDiff, Nat.reduceEqDiff, Nat.reduceBEq, Nat.reduceLT, Int.reduceLE, Int.reduceLT, Int.reduceEq, Int.reduceNeg, Int.reduceAdd, Int.reduceMul, Int.reduceSub, Int.reduceToNat, reduceCtorEq, ↓reduceIte]
  · simp -implicitDefEqProofs (disch := omega) only [ir23, q1, q2, wrap_i64, wrap_u64, wrap_u32, wrap_u16, wrap_u8, dec_t, dec_f, ite_t, ite_f, tmod_e, go_sem, Nat.reduceAdd, Nat.reduceMul, Nat.reduceSub, Nat.reduceLeDiff, Nat.reduceEqDiff, Nat.reduceBEq, Nat.reduceLT, Int.reduceLE, Int.reduceLT, Int.reduceEq, Int.reduceNeg, Int.reduceAdd, Int.reduceMul, Int.reduceSub, Int.reduceToNat, reduceCtorEq, ↓reduceIte]
theorem p_there (c : Cf) (l : Lf) (seat r : Int) (hk : LOk c l) : callP (evalCall fns NN (d + 4)) 23 [.agg (LDc c l), I seat, I r] h = .ok (B (decide (0 ≤ ringF c l seat r))) h :=
  callP_of (v := B (decide (0 ≤ ringF c l seat r))) (h' := []) rfl rfl (by rw [call_eq rfl]; exact body_there _ c l seat r hk (fun h => p_Ring c l seat r hk.tasks hk.seats hk.ring) (fun h => p_Size (d := d + 2) r)) rfl

theorem body_rplace (ev : FuncId → List DV → Heap → Res DV) (c : Cf) (l : Lf) (seat r : Int)
    (q1 : ∀ h, callP ev 21 [.agg (LDc c l), I seat, I r] h = .ok (I (ringF c l seat r)) h) (q2 : ∀ h, callP ev 10 [I r] h = .ok (I (szF r)) h) :
    evalF ev NN ir24 [.agg (LDc c l), I seat, I r] [] = .ok (.fn (.func 33) [] [.ptr 0 0, .ptr 1 0]) [[I (ringF c l seat r)], [I (szF r)]] := by
  simp -implicitDefEqProofs (disch := omega) only [ir24, q1, q2, wrap_i64, wrap_u64, wrap_u32, wrap_u16, wrap_u8, dec_t, dec_f, ite_t, ite_f, tmod_e, go_sem, Nat.reduceAdd, Nat.reduceMul, Nat.reduceSub, Nat.reduceLeDiff, Nat.reduceEqDiff, Nat.reduceBEq, Nat.reduceLT, Int.reduceLE, Int.reduceLT, Int.reduceEq, Int.reduceNeg, Int.reduceAdd, Int.reduceMul, Int.reduceSub, Int.reduceToNat, reduceCtorEq, ↓reduceIte]
theorem body_rplace2 (ev : FuncId → List DV → Heap → Res DV) (c : Cf) (l : Lf) (seat r : Int) (x y : List DV)
    (q1 : ∀ h, callP ev 21 [.agg (LDc c l), I seat, I r] h = .ok (I (ringF c l seat r)) h) (q2 : ∀ h, callP ev 10 [I r] h = .ok (I (szF r)) h) :
    evalF ev NN ir24 [.agg (LDc c l), I seat, I r] [x, y] = .ok (.fn (.func 33) [] [.ptr 2 0, .ptr 3 0]) [x, y, [I (ringF c l seat r)], [I (szF r)]] := by
  simp -implicitDefEqProofs (disch := omega) only [ir24, q1, q2, wrap_i64, wrap_u64, wrap_u32, wrap_u16, wrap_u8, dec_t, dec_f, ite_t, ite_f, tmod_e, go_sem, Nat.reduceAdd, Nat.reduceMul, Nat.reduceSub, Nat.reduceLeDiff, Nat.reduceEqDiff, Nat.reduceBEq, Nat.reduceLT, Int.reduceLE, Int.reduceLT, Int.reduceEq, Int.reduceNeg, Int.reduceAdd, Int.reduceMul, Int.reduceSub, Int.reduceToNat, reduceCtorEq, ↓reduceIte]
theorem callP_open {ev : FuncId → List DV → Heap → Res DV} {f : FuncId} {args : List DV} {v : DV} {h' : Heap} (ha : freeL args = true) (hs : hasHsL args = false) (he : ev f args [] = .ok v h') (hv : free (look h' v) = false) :
    callP ev f args h = ev f args h := by
  unfold callP
  rw [lookL_still h args hs, if_pos ha, he]
  simp [hv, hs]
theorem p_rplace (c : Cf) (l : Lf) (seat r : Int) (hk : LOk c l) : callP (evalCall fns NN (d + 4)) 24 [.agg (LDc c l), I seat, I r] [] = .ok (.fn (.func 33) [] [.ptr 0 0, .ptr 1 0]) [[I (ringF c l seat r)], [I (szF r)]] := by
  have e : evalCall fns NN (d + 4) 24 [.agg (LDc c l), I seat, I r] [] = _ := (call_eq rfl _).trans (body_rplace (evalCall fns NN (d + 3)) c l seat r (fun h => p_Ring c l seat r hk.tasks hk.seats hk.ring) (fun h => p_Size (d := d + 2) r))
  rw [callP_open rfl rfl e rfl, e]
theorem p_rplace2 (c : Cf) (l : Lf) (seat r : Int) (hk : LOk c l) (x y : List DV) : callP (evalCall fns NN (d + 4)) 24 [.agg (LDc c l), I seat, I r] [x, y] = .ok (.fn (.func 33) [] [.ptr 2 0, .ptr 3 0]) [x, y, [I (ringF c l seat r)], [I (szF r)]] := by
  have e : evalCall fns NN (d + 4) 24 [.agg (LDc c l), I seat, I r] [] = _ := (call_eq rfl _).trans (body_rplace (evalCall fns NN (d + 3)) c l seat r (fun h => p_Ring c l seat r hk.tasks hk.seats hk.ring) (fun h => p_Size (d := d + 2) r))
  rw [callP_open rfl rfl e rfl, call_eq rfl]
  exact body_rplace2 _ c l seat r x y (fun h => p_Ring c l seat r hk.tasks hk.seats hk.ring) (fun h => p_Size (d := d + 2) r)

theorem mod_bd {i s : Int} (h : 0 < s) : 0 ≤ i % s ∧ i % s < s := ⟨Int.emod_nonneg i (by omega), Int.emod_lt_of_pos i h⟩
theorem body_pl1 (ev : FuncId → List DV → Heap → Res DV) (f s i : Int) (hf : 0 ≤ f ∧ f ≤ 30000) (hs : 0 < s ∧ s ≤ 1000000) (hi : 0 ≤ i) :
    evalF ev NN ir33 [I i, .ptr 0 0, .ptr 1 0] [[I f], [I s]] = .ok (I (f + i % s)) [[I f], [I s]] := by
  have hm := mod_bd (i := i) hs.1
  simp -implicitDefEqProofs (disch := omega) only [ir33, wrap_i64, wrap_u64, wrap_u32, wrap_u16, wrap_u8, dec_t, dec_f, ite_t, ite_f, tmod_e, go_sem, Nat.reduceAdd, Nat.reduceMul, Nat.reduceSub, Nat.reduceLeDiff, Nat.reduceEqDiff, Nat.reduceBEq, Nat.reduceLT, Int.reduceLE, Int.reduceLT, Int.reduceEq, Int.reduceNeg, Int.reduceAdd, Int.reduceMul, Int.reduceSub, Int.reduceToNat, reduceCtorEq, ↓reduceIte]
theorem body_pl1b (ev : FuncId → List DV → Heap → Res DV) (f s f2 s2 i : Int) (hf : 0 ≤ f ∧ f ≤ 30000) (hs : 0 < s ∧ s ≤ 1000000) (hi : 0 ≤ i) :
    evalF ev NN ir33 [I i, .ptr 0 0, .ptr 1 0] [[I f], [I s], [I f2], [I s2]] = .ok (I (f + i % s)) [[I f], [I s], [I f2], [I s2]] := by
  have hm := mod_bd (i := i) hs.1
  simp -implicitDefEqProofs (disch := omega) only [ir33, wrap_i64, wrap_u64, wrap_u32, wrap_u16, wrap_u8, dec_t, dec_f, ite_t, ite_f, tmod_e, go_sem, Nat.reduceAdd, Nat.reduceMul, Nat.reduceSub, Nat.reduceLeDiff, Nat.reduceEqDiff, Nat.reduceBEq, Nat.reduceLT, Int.reduceLE, Int.reduceLT, Int.reduceEq, Int.reduceNeg, Int.reduceAdd, Int.reduceMul, Int.reduceSub, Int.reduceToNat, reduceCtorEq, ↓reduceIte]
theorem body_pl2 (ev : FuncId → List DV → Heap → Res DV) (f s f2 s2 i : Int) (hf : 0 ≤ f2 ∧ f2 ≤ 30000) (hs : 0 < s2 ∧ s2 ≤ 1000000) (hi : 0 ≤ i) :
    evalF ev NN ir33 [I i, .ptr 2 0, .ptr 3 0] [[I f], [I s], [I f2], [I s2]] = .ok (I (f2 + i % s2)) [[I f], [I s], [I f2], [I s2]] := by
  have hm := mod_bd (i := i) hs.1
  simp -implicitDefEqProofs (disch := omega) only [ir33, wrap_i64, wrap_u64, wrap_u32, wrap_u16, wrap_u8, dec_t, dec_f, ite_t, ite_f, tmod_e, go_sem, Nat.reduceAdd, Nat.reduceMul, Nat.reduceSub, Nat.reduceLeDiff, Nat.reduceEqDiff, Nat.reduceBEq, Nat.reduceLT, Int.reduceLE, Int.reduceLT, Int.reduceEq, Int.reduceNeg, Int.reduceAdd, Int.reduceMul, Int.reduceSub, Int.reduceToNat, reduceCtorEq, ↓reduceIte]

/-- The cell of a place. -/
def placeF (c : Cf) (l : Lf) (seat r i : Int) : Int := if 0 ≤ ringF c l seat r ∧ 0 ≤ i then ringF c l seat r + i % szF r else -1
theorem sz_bd {c : Cf} {l : Lf} {seat r : Int} (hl : 0 ≤ l.ring) (h : 0 ≤ ringF c l seat r) : 4 ≤ szF r ∧ szF r ≤ 64 := by
  have h1 := (ring_pos hl).1 h
  have h2 := rg_bd c.tasks
  have h3 := sz_p2 (r := r) (by omega) (by omega)
  have h4 := p2_lt h1.2.1 h1.2.2
  have h5 := pw_bd c.tasks
  omega
theorem body_Place (ev : FuncId → List DV → Heap → Res DV) (c : Cf) (l : Lf) (seat r i : Int) (hk : LOk c l)
    (q1 : ∀ h, callP ev 23 [.agg (LDc c l), I seat, I r] h = .ok (B (decide (0 ≤ ringF c l seat r))) h)
    (q2 : callP ev 24 [.agg (LDc c l), I seat, I r] [] = .ok (.fn (.func 33) [] [.ptr 0 0, .ptr 1 0]) [[I (ringF c l seat r)], [I (szF r)]])
    (q3 : ∀ f s i, 0 ≤ f ∧ f ≤ 30000 → 0 < s ∧ s ≤ 1000000 → 0 ≤ i → callP ev 33 [I i, .ptr 0 0, .ptr 1 0] [[I f], [I s]] = .ok (I (f + i % s)) [[I f], [I s]]) :
    ∃ h', evalF ev NN ir12 [.agg (LDc c l), I seat, I r, I i] [] = .ok (I (placeF c l seat r i)) h' := by
  unfold placeF
  by_cases hc : 0 ≤ ringF c l seat r
  · by_cases hi : 0 ≤ i
    · have h1 := sz_bd hk.ring.1 hc
      have h2 := ring_up (seat := seat) (r := r) hk.seats hk.ring
      exact ⟨_, by simp -implicitDefEqProofs (disch := omega) only [ir12, q1, q2, q3, wrap_i64, wrap_u64, wrap_u32, wrap_u16, wrap_u8, dec_t, dec_f, ite_t, ite_f, tmod_e, go_sem, Nat.reduceAdd, Nat.reduceMul, Nat.reduceSub, Nat.reduceLeDiff, Nat.reduceEqDiff, Nat.reduceBEq, Nat.reduceLT, Int.reduceLE, Int.reduceLT, Int.reduceEq, Int.reduceNeg, Int.reduceAdd, Int.reduceMul, Int.reduceSub, Int.reduceToNat, reduceCtorEq, ↓reduceIte]; rfl⟩
    · exact ⟨_, by simp -implicitDefEqProofs (disch := omega) only [ir12, q1, q2, wrap_i64, wrap_u64, wrap_u32, wrap_u16, wrap_u8, dec_t, dec_f, ite_t, ite_f, tmod_e, go_sem, Nat.reduceAdd, Nat.reduceMul, Nat.reduceSub, Nat.reduceLeDiff, Nat.reduceEqDiff, Nat.reduceBEq, Nat.reduceLT, Int.reduceLE, Int.reduceLT, Int.reduceEq, Int.reduceNeg, Int.reduceAdd, Int.reduceMul, Int.reduceSub, Int.reduceToNat, reduceCtorEq, ↓reduceIte]; rfl⟩
  · exact ⟨_, by simp -implicitDefEqProofs (disch := omega) only [ir12, q1, q2, wrap_i64, wrap_u64, wrap_u32, wrap_u16, wrap_u8, dec_t, dec_f, ite_t, ite_f, tmod_e, go_sem, Nat.reduceAdd, Nat.reduceMul, Nat.reduceSub, Nat.reduceLeDiff, Nat.reduceEqDiff, Nat.reduceBEq, Nat.reduceLT, Int.reduceLE, Int.reduceLT, Int.reduceEq, Int.reduceNeg, Int.reduceAdd, Int.reduceMul, Int.reduceSub, Int.reduceToNat, reduceCtorEq, ↓reduceIte]; rfl⟩
theorem p_Place (c : Cf) (l : Lf) (seat r i : Int) (hk : LOk c l) : callP (evalCall fns NN (d + 5)) 12 [.agg (LDc c l), I seat, I r, I i] h = .ok (I (placeF c l seat r i)) h := by
  obtain ⟨h', e⟩ := body_Place (evalCall fns NN (d + 4)) c l seat r i hk (fun h => p_there c l seat r hk) (p_rplace c l seat r hk) (fun f s i hf hs hi => by rw [callP_ptr rfl, call_eq rfl]; exact body_pl1 _ f s i hf hs hi)
  exact callP_of (v := I (placeF c l seat r i)) (h' := h') rfl rfl (by rw [call_eq rfl]; exact e) rfl

def fitsB (c : Cf) (l : Lf) (seat r top bot : Int) : Bool := decide (0 ≤ ringF c l seat r ∧ 0 ≤ top ∧ top ≤ bot ∧ bot - top ≤ szF r)
theorem body_fits (ev : FuncId → List DV → Heap → Res DV) (c : Cf) (l : Lf) (seat r top bot : Int) (hb : inI bot)
    (q1 : ∀ h, callP ev 23 [.agg (LDc c l), I seat, I r] h = .ok (B (decide (0 ≤ ringF c l seat r))) h)
    (q2 : ∀ h, callP ev 10 [I r] h = .ok (I (szF r)) h) :
    evalF ev NN ir26 [.agg (LDc c l), I seat, I r, I top, I bot] [] = .ok (B (fitsB c l seat r top bot)) [] := by
  obtain ⟨hb1, hb2⟩ := hb
  unfold fitsB
  by_cases hc : 0 ≤ ringF c l seat r
  · by_cases h0 : 0 ≤ top
    · by_cases h1 : top ≤ bot
      · by_cases h2 : bot - top ≤ szF r
        · simp -implicitDefEqProofs (disch := omega) only [ir26, q1, q2, wrap_i64, wrap_u64, wrap_u32, wrap_u16, wrap_u8, dec_t, dec_f, ite_t, ite_f, tmod_e, go_sem, Nat.reduceAdd, Nat.reduceMul, Nat.reduceSub, Nat.reduceLeDiff, Nat.reduceEqDiff, Nat.reduceBEq, Nat.reduceLT, Int.reduceLE, Int.reduceLT, Int.reduceEq, Int.reduceNeg, Int.reduceAdd, Int.reduceMul, Int.reduceSub, Int.reduceToNat, reduceCtorEq, ↓reduceIte]
        · simp -implicitDefEqProofs (disch := omega) only [ir26, q1, q2, wrap_i64, wrap_u64, wrap_u32, wrap_u16, wrap_u8, dec_t, dec_f, ite_t, ite_f, tmod_e, go_sem, Nat.reduceAdd, Nat.reduceMul, Nat.reduceSub, Nat.reduceLeDiff, Nat.reduceEqDiff, Nat.reduceBEq, Nat.reduceLT, Int.reduceLE, Int.reduceLT, Int.reduceEq, Int.reduceNeg, Int.reduceAdd, Int.reduceMul, Int.reduceSub, Int.reduceToNat, reduceCtorEq, ↓reduceIte]
      · simp -implicitDefEqProofs (disch := omega) only [ir26, q1, q2, wrap_i64, wrap_u64, wrap_u32, wrap_u16, wrap_u8, dec_t, dec_f, ite_t, ite_f, tmod_e, go_sem, Nat.reduceAdd, Nat.reduceMul, Nat.reduceSub, Nat.reduceLeDiff, Nat.reduceEqDiff, Nat.reduceBEq, Nat.reduceLT, Int.reduceLE, Int.reduceLT, Int.reduceEq, Int.reduceNeg, Int.reduceAdd, Int.reduceMul, Int.reduceSub, Int.reduceToNat, reduceCtorEq, ↓reduceIte]
    · simp -implicitDefEqProofs (disch := omega) only [ir26, q1, q2, wrap_i64, wrap_u64, wrap_u32, wrap_u16, wrap_u8, dec_t, dec_f, ite_t, ite_f, tmod_e, go_sem, Nat.reduceAdd, Nat.reduceMul, Nat.reduceSub, Nat.reduceLeDiff, Nat.reduceEqDiff, Nat.reduceBEq, Nat.reduceLT, Int.reduceLE, Int.reduceLT, Int.reduceEq, Int.reduceNeg, Int.reduceAdd, Int.reduceMul, Int.reduceSub, Int.reduceToNat, reduceCtorEq, ↓reduceIte]
  · simp -implicitDefEqProofs (disch := omega) only [ir26, q1, q2, wrap_i64, wrap_u64, wrap_u32, wrap_u16, wrap_u8, dec_t, dec_f, ite_t, ite_f, tmod_e, go_sem, Nat.reduceAdd, Nat.reduceMul, Nat.reduceSub, Nat.reduceLeDiff, Nat.reduceEqDiff, Nat.reduceBEq, Nat.reduceLT, Int.reduceLE, Int.reduceLT, Int.reduceEq, Int.reduceNeg, Int.reduceAdd, Int.reduceMul, Int.reduceSub, Int.reduceToNat, reduceCtorEq, ↓reduceIte]
theorem p_fits (c : Cf) (l : Lf) (seat r top bot : Int) (hk : LOk c l) (hb : inI bot) : callP (evalCall fns NN (d + 5)) 26 [.agg (LDc c l), I seat, I r, I top, I bot] h = .ok (B (fitsB c l seat r top bot)) h :=
  callP_of (v := B (fitsB c l seat r top bot)) (h' := []) rfl rfl (by rw [call_eq rfl]; exact body_fits _ c l seat r top bot hb (fun h => p_there c l seat r hk) (fun h => p_Size (d := d + 3) r)) rfl

/-! The reference. -/
theorem loop_RSize (ev : FuncId → List DV → Heap → Res DV) (v1 v2 : DV) (r : Nat) (hr : r < 16) : ∀ n k, k ≤ r → r - k < n → ∀ x3, ∃ y3,
    iter (evalC ev NN ir11_l0) n ⟨[I r, v1, v2, x3, I k, I (4 * 2 ^ k)], [], h⟩ = .exit 0 ⟨[I r, v1, v2, y3, I r, I (4 * 2 ^ r)], [], h⟩ := by
  intro n
  induction n with
  | zero => intro k _ h2; omega
  | succ n ih =>
    intro k hk hn x3
    by_cases hlt : k < r
    · obtain ⟨y3, e⟩ := ih (k + 1) (by omega) (by omega) (B true)
      refine ⟨y3, ?_⟩
      rw [← e]
      have hb : (2 : Int) ^ k ≤ 2 ^ 16 := by exact_mod_cast Nat.pow_le_pow_right (by omega) (by omega : k ≤ 16)
      have hb0 : (0 : Int) < 2 ^ k := by exact_mod_cast Nat.pow_pos (by omega)
      have h16 : (2 : Int) ^ 16 = 65536 := by decide
      have e2 : 2 * (4 * (2 : Int) ^ k) = 4 * 2 ^ (k + 1) := by rw [Int.pow_succ]; omega
      have w1 : IntKind.i64.wrap (2 * (4 * (2 : Int) ^ k)) = 4 * 2 ^ (k + 1) := by rw [← e2]; exact wrap64_id (by omega) (by omega)
      have st : evalC ev NN ir11_l0 ⟨[I r, v1, v2, x3, I k, I (4 * 2 ^ k)], [], h⟩ = .norm ⟨[I r, v1, v2, B true, I (k + 1 : Nat), I (4 * 2 ^ (k + 1))], [], h⟩ := by
        have hlt' : (k : Int) < (r : Int) := by omega
        simp -implicitDefEqProofs only [ir11_l0, hlt', w1, wrap_succ (show k < 4611686018427387904 by omega), go_sem, Nat.reduceAdd, Nat.reduceMul, Nat.reduceSub, Nat.reduceLeDiff, Nat.reduceEqDiff, Nat.reduceBEq, Nat.reduceLT, Int.reduceLE, Int.reduceLT, Int.reduceEq, Int.reduceNeg, Int.reduceAdd, Int.reduceMul, Int.reduceSub, Int.reduceToNat, reduceCtorEq, ↓reduceIte]
      rw [iter, st]
    · have hkr : k = r := by omega
      subst hkr
      have hlt' : ¬ (k : Int) < (k : Int) := by omega
      refine ⟨B false, ?_⟩
      simp -implicitDefEqProofs only [iter, ir11_l0, hlt', go_sem, Nat.reduceAdd, Nat.reduceMul, Nat.reduceSub, Nat.reduceLeDiff, Nat.reduceEqDiff, Nat.reduceBEq, Nat.reduceLT, Int.reduceLE, Int.reduceLT, Int.reduceEq, Int.reduceNeg, Int.reduceAdd, Int.reduceMul, Int.reduceSub, Int.reduceToNat, reduceCtorEq, ↓reduceIte]
theorem body_RSize (ev : FuncId → List DV → Heap → Res DV) (r : Int) : evalF ev NN ir11 [I r] [] = .ok (I (szF r)) [] := by
  unfold szF
  by_cases c1 : 0 ≤ r
  · by_cases c2 : r < 16
    · obtain ⟨r, rfl⟩ := Int.eq_ofNat_of_zero_le c1
      obtain ⟨y3, e⟩ := loop_RSize (h := []) ev (I 0) (B false) r (by omega) NN 0 (by omega) (by unfold NN; omega) .junk
      simp only [cast0, Int.pow_zero, Int.mul_one] at e
      rw [if_pos ⟨c1, c2⟩]
      simp -implicitDefEqProofs (disch := omega) only [ir11, e, wrap_i64, wrap_u64, wrap_u32, wrap_u16, wrap_u8, dec_t, dec_f, ite_t, ite_f, tmod_e, go_sem, Nat.reduceAdd, Nat.reduceMul, Nat.reduceSub, Nat.reduceLeDiff, Nat.reduceEqDiff, Nat.reduceBEq, Nat.reduceLT, Int.reduceLE, Int.reduceLT, Int.reduceEq, Int.reduceNeg, Int.reduceAdd, Int.reduceMul, Int.reduceSub, Int.reduceToNat, reduceCtorEq, ↓reduceIte]
    · simp -implicitDefEqProofs (disch := omega) only [ir11, wrap_i64, wrap_u64, wrap_u32, wrap_u16, wrap_u8, dec_t, dec_f, ite_t, ite_f, tmod_e, go_sem, Nat.reduceAdd, Nat.reduceMul, Nat.reduceSub, Nat.reduceLeDiff, Nat.reduceEqDiff, Nat.reduceBEq, Nat.reduceLT, Int.reduceLE, Int.reduceLT, Int.reduceEq, Int.reduceNeg, Int.reduceAdd, Int.reduceMul, Int.reduceSub, Int.reduceToNat, reduceCtorEq, ↓reduceIte]
  · simp -implicitDefEqProofs (disch := omega) only [ir11, wrap_i64, wrap_u64, wrap_u32, wrap_u16, wrap_u8, dec_t, dec_f, ite_t, ite_f, tmod_e, go_sem, Nat.reduceAdd, Nat.reduceMul, Nat.reduceSub, Nat.reduceLeDiff, Nat.reduceEqDiff, Nat.reduceBEq, Nat.reduceLT, Int.reduceLE, Int.reduceLT, Int.reduceEq, Int.reduceNeg, Int.reduceAdd, Int.reduceMul, Int.reduceSub, Int.reduceToNat, reduceCtorEq, ↓reduceIte]
theorem p_RSize (r : Int) : callP (evalCall fns NN (d + 1)) 11 [I r] h = .ok (I (szF r)) h :=
  callP_of (v := I (szF r)) (h' := []) rfl rfl (by rw [call_eq rfl]; exact body_RSize _ r) rfl

theorem ring_neg {c : Cf} {l : Lf} {seat r : Int} (hl : 0 ≤ l.ring) (h : ¬ 0 ≤ ringF c l seat r) : ringF c l seat r = -1 := by
  have h1 := mt (ring_pos (c := c) (seat := seat) (r := r) hl).2 h
  unfold ringF
  rw [if_neg h1]
theorem body_RPlace (ev : FuncId → List DV → Heap → Res DV) (c : Cf) (l : Lf) (seat r i : Int) (hk : LOk c l)
    (q1 : ∀ h, callP ev 25 [.agg (LDc c l), I seat, I r] h = .ok (I (ringF c l seat r)) h)
    (q2 : ∀ h, callP ev 11 [I r] h = .ok (I (szF r)) h) :
    evalF ev NN ir13 [.agg (LDc c l), I seat, I r, I i] [] = .ok (I (placeF c l seat r i)) [] := by
  unfold placeF
  by_cases hc : 0 ≤ ringF c l seat r
  · have h1 := sz_bd hk.ring.1 hc
    have h2 := ring_up (seat := seat) (r := r) hk.seats hk.ring
    have hm := mod_bd (i := i) (s := szF r) (by omega)
    by_cases hi : 0 ≤ i
    · simp -implicitDefEqProofs (disch := omega) only [ir13, q1, q2, wrap_i64, wrap_u64, wrap_u32, wrap_u16, wrap_u8, dec_t, dec_f, ite_t, ite_f, tmod_e, go_sem, Nat.reduceAdd, Nat.reduceMul, Nat.reduceSub, Nat.reduceLeDiff, Nat.reduceEqDiff, Nat.reduceBEq, Nat.reduceLT, Int.reduceLE, Int.reduceLT, Int.reduceEq, Int.reduceNeg, Int.reduceAdd, Int.reduceMul, Int.reduceSub, Int.reduceToNat, reduceCtorEq, ↓reduceIte]
    · simp -implicitDefEqProofs (disch := omega) only [ir13, q1, q2, wrap_i64, wrap_u64, wrap_u32, wrap_u16, wrap_u8, dec_t, dec_f, ite_t, ite_f, tmod_e, go_sem, Nat.reduceAdd, Nat.reduceMul, Nat.reduceSub, Nat.reduceLeDiff, Nat.reduceEqDiff, Nat.reduceBEq, Nat.reduceLT, Int.reduceLE, Int.reduceLT, Int.reduceEq, Int.reduceNeg, Int.reduceAdd, Int.reduceMul, Int.reduceSub, Int.reduceToNat, reduceCtorEq, ↓reduceIte]
  · simp -implicitDefEqProofs (disch := omega) only [ir13, q1, q2, wrap_i64, wrap_u64, wrap_u32, wrap_u16, wrap_u8, dec_t, dec_f, ite_t, ite_f, tmod_e, go_sem, Nat.reduceAdd, Nat.reduceMul, Nat.reduceSub, Nat.reduceLeDiff, Nat.reduceEqDiff, Nat.reduceBEq, Nat.reduceLT, Int.reduceLE, Int.reduceLT, Int.reduceEq, Int.reduceNeg, Int.reduceAdd, Int.reduceMul, Int.reduceSub, Int.reduceToNat, reduceCtorEq, ↓reduceIte]
theorem p_RPlace (c : Cf) (l : Lf) (seat r i : Int) (hk : LOk c l) : callP (evalCall fns NN (d + 3)) 13 [.agg (LDc c l), I seat, I r, I i] h = .ok (I (placeF c l seat r i)) h :=
  callP_of (v := I (placeF c l seat r i)) (h' := []) rfl rfl (by rw [call_eq rfl]; exact body_RPlace _ c l seat r i hk (fun h => p_RRing c l seat r hk.tasks hk.seats hk.ring) (fun h => p_RSize (d := d + 1) r)) rfl

theorem body_RFits (ev : FuncId → List DV → Heap → Res DV) (c : Cf) (l : Lf) (seat r top bot : Int) (hk : LOk c l) (hb : inI bot)
    (q1 : ∀ h, callP ev 25 [.agg (LDc c l), I seat, I r] h = .ok (I (ringF c l seat r)) h)
    (q2 : ∀ h, callP ev 11 [I r] h = .ok (I (szF r)) h) :
    evalF ev NN ir27 [.agg (LDc c l), I seat, I r, I top, I bot] [] = .ok (B (fitsB c l seat r top bot)) [] := by
  obtain ⟨hb1, hb2⟩ := hb
  unfold fitsB
  by_cases hc : 0 ≤ ringF c l seat r
  · have hz := sz_bd hk.ring.1 hc
    by_cases h0 : 0 ≤ top
    · by_cases h1 : top ≤ bot
      · by_cases h2 : bot - top ≤ szF r
        · simp -implicitDefEqProofs (disch := omega) only [ir27, q1, q2, wrap_i64, wrap_u64, wrap_u32, wrap_u16, wrap_u8, dec_t, dec_f, ite_t, ite_f, tmod_e, go_sem, Nat.reduceAdd, Nat.reduceMul, Nat.reduceSub, Nat.reduceLeDiff, Nat.reduceEqDiff, Nat.reduceBEq, Nat.reduceLT, Int.reduceLE, Int.reduceLT, Int.reduceEq, Int.reduceNeg, Int.reduceAdd, Int.reduceMul, Int.reduceSub, Int.reduceToNat, reduceCtorEq, ↓reduceIte]
        · simp -implicitDefEqProofs (disch := omega) only [ir27, q1, q2, wrap_i64, wrap_u64, wrap_u32, wrap_u16, wrap_u8, dec_t, dec_f, ite_t, ite_f, tmod_e, go_sem, Nat.reduceAdd, Nat.reduceMul, Nat.reduceSub, Nat.reduceLeDiff, Nat.reduceEqDiff, Nat.reduceBEq, Nat.reduceLT, Int.reduceLE, Int.reduceLT, Int.reduceEq, Int.reduceNeg, Int.reduceAdd, Int.reduceMul, Int.reduceSub, Int.reduceToNat, reduceCtorEq, ↓reduceIte]
      · simp -implicitDefEqProofs (disch := omega) only [ir27, q1, q2, wrap_i64, wrap_u64, wrap_u32, wrap_u16, wrap_u8, dec_t, dec_f, ite_t, ite_f, tmod_e, go_sem, Nat.reduceAdd, Nat.reduceMul, Nat.reduceSub, Nat.reduceLeDiff, Nat.reduceEqDiff, Nat.reduceBEq, Nat.reduceLT, Int.reduceLE, Int.reduceLT, Int.reduceEq, Int.reduceNeg, Int.reduceAdd, Int.reduceMul, Int.reduceSub, Int.reduceToNat, reduceCtorEq, ↓reduceIte]
    · simp -implicitDefEqProofs (disch := omega) only [ir27, q1, q2, wrap_i64, wrap_u64, wrap_u32, wrap_u16, wrap_u8, dec_t, dec_f, ite_t, ite_f, tmod_e, go_sem, Nat.reduceAdd, Nat.reduceMul, Nat.reduceSub, Nat.reduceLeDiff, Nat.reduceEqDiff, Nat.reduceBEq, Nat.reduceLT, Int.reduceLE, Int.reduceLT, Int.reduceEq, Int.reduceNeg, Int.reduceAdd, Int.reduceMul, Int.reduceSub, Int.reduceToNat, reduceCtorEq, ↓reduceIte]
  · simp -implicitDefEqProofs (disch := omega) only [ir27, q1, q2, wrap_i64, wrap_u64, wrap_u32, wrap_u16, wrap_u8, dec_t, dec_f, ite_t, ite_f, tmod_e, go_sem, Nat.reduceAdd, Nat.reduceMul, Nat.reduceSub, Nat.reduceLeDiff, Nat.reduceEqDiff, Nat.reduceBEq, Nat.reduceLT, Int.reduceLE, Int.reduceLT, Int.reduceEq, Int.reduceNeg, Int.reduceAdd, Int.reduceMul, Int.reduceSub, Int.reduceToNat, reduceCtorEq, ↓reduceIte]
theorem p_RFits (c : Cf) (l : Lf) (seat r top bot : Int) (hk : LOk c l) (hb : inI bot) : callP (evalCall fns NN (d + 3)) 27 [.agg (LDc c l), I seat, I r, I top, I bot] h = .ok (B (fitsB c l seat r top bot)) h :=
  callP_of (v := B (fitsB c l seat r top bot)) (h' := []) rfl rfl (by rw [call_eq rfl]; exact body_RFits _ c l seat r top bot hk hb (fun h => p_RRing c l seat r hk.tasks hk.seats hk.ring) (fun h => p_RSize (d := d + 1) r)) rfl
end Go.D.Ring
