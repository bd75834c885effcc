/- Places of rings: where they lie; rows. -/
import Derived.Test.YtcnancgfgokghaaQqRingR3
set_option linter.unusedSimpArgs false
set_option linter.unusedVariables false
namespace Go.D.Ring
open Go.D
set_option maxRecDepth 100000
set_option maxHeartbeats 1000000
variable {d : Nat} {h : Heap}

theorem ok_lok {c : Cf} (ok : OkC c) : LOk c (layF c) where
  tasks := ok.tasks.2
  seats := by have := ok.seats; omega
  ring := by have := ok.seats; simp only [layF]; omega
theorem pl_eq {c : Cf} {l : Lf} {x r i : Int} (hl : 0 ≤ l.ring) (h : 0 ≤ ringF c l x r) (hi : 0 ≤ i) : placeF c l x r i = l.ring + x * (4 * (pwF c.tasks - 1)) + 4 * (p2F r - 1) + i % (4 * p2F r) := by
  have h1 := (ring_pos hl).1 h
  have h2 := rg_bd c.tasks
  have h3 := sz_p2 (r := r) (by omega) (by omega)
  unfold placeF
  rw [if_pos ⟨h, hi⟩, h3]
  unfold ringF
  rw [if_pos h1]
/-- A place lies among the rings. -/
theorem pl_lo {c : Cf} (ok : OkC c) {x r i : Int} (h : 0 ≤ ringF c (layF c) x r) (hi : 0 ≤ i) : (layF c).ring ≤ placeF c (layF c) x r i ∧ placeF c (layF c) x r i < (layF c).task := by
  have hk := ok_lok ok
  have h1 := (ring_pos hk.ring.1).1 h
  have hpw := pw_bd c.tasks
  have h5 := p2_lt h1.2.1 h1.2.2
  rw [pl_eq hk.ring.1 h hi]
  have hm := mod_bd (i := i) (s := 4 * p2F r) (by omega)
  have hx : (x + 1) * (4 * (pwF c.tasks - 1)) ≤ c.seats * (4 * (pwF c.tasks - 1)) := Int.mul_le_mul_of_nonneg_right (by omega) (by omega)
  have hx0 : 0 ≤ x * (4 * (pwF c.tasks - 1)) := Int.mul_nonneg h1.1.1 (by omega)
  rw [Int.add_mul, Int.one_mul] at hx
  have ht : (layF c).task = (layF c).ring + c.seats * (4 * (pwF c.tasks - 1)) := rfl
  omega
/-- As many places as there are cells are cells of their own. -/
theorem pl_inj {c : Cf} {l : Lf} {x r i j : Int} (hl : 0 ≤ l.ring) (h : 0 ≤ ringF c l x r) (hi : 0 ≤ i) (hj : 0 ≤ j) (hij : i - j < szF r) (hji : j - i < szF r) (e : placeF c l x r i = placeF c l x r j) : i = j := by
  have h1 := (ring_pos hl).1 h
  have h2 := rg_bd c.tasks
  have h3 := sz_p2 (r := r) (by omega) (by omega)
  rw [pl_eq hl h hi, pl_eq hl h hj] at e
  rw [h3] at hij hji
  have : r = 0 ∨ r = 1 ∨ r = 2 ∨ r = 3 ∨ r = 4 := by omega
  have p0 : p2F 0 = 1 := by decide
  have p1 : p2F 1 = 2 := by decide
  have p2 : p2F 2 = 4 := by decide
  have p3 : p2F 3 = 8 := by decide
  have p4 : p2F 4 = 16 := by decide
  rcases this with e' | e' | e' | e' | e' <;> rw [e'] at e hij hji <;> simp only [p0, p1, p2, p3, p4] at e hij hji <;> omega
theorem p2_up {r q : Int} (h0 : 0 ≤ r) (h : r < q) (hq : q ≤ 5) : 2 * p2F r ≤ p2F q := by
  unfold p2F
  repeat' split
  all_goals omega
/-- Two rings of a seat have no cell in common. -/
theorem pl_ne {c : Cf} {l : Lf} {x r q i j : Int} (hl : 0 ≤ l.ring) (h : 0 ≤ ringF c l x r) (h' : 0 ≤ ringF c l x q) (hi : 0 ≤ i) (hj : 0 ≤ j) (hrq : r < q) : placeF c l x r i < placeF c l x q j := by
  have h1 := (ring_pos hl).1 h
  have h1' := (ring_pos hl).1 h'
  have h2 := rg_bd c.tasks
  have h3 := p2_up h1.2.1 hrq (by omega)
  have h4 := p2_bd r
  rw [pl_eq hl h hi, pl_eq hl h' hj]
  have hm := mod_bd (i := i) (s := 4 * p2F r) (by omega)
  have hm' := mod_bd (i := j) (s := 4 * p2F q) (by omega)
  omega
theorem deq_eq {c : Cf} {l : Lf} {x i : Int} (hx : 0 ≤ x ∧ x ≤ c.seats - 1) (hi : 0 ≤ i ∧ i ≤ 2) : dequeF c l x i = l.deque + 3 * x + i := by
  unfold dequeF plF
  rw [if_pos ⟨hx, by omega⟩]

theorem fresh_md (l : List Int) : fresh (.sl (md l) 1 (ints l)) = true := by
  cases l with
  | nil => rfl
  | cons x l => simp only [fresh, md, fresh_ints]; rfl
/-- A deque's row, of a memory that lies in the heap. -/
theorem p_RowH (c : Cf) (ok : OkC c) (M : List Int) (N : Nat) (hN : M.length = N) (hsz : (layF c).size = (N : Int)) (hN2 : N ≤ 100000) (x d0 d1 d2 : Int) (hx : 0 ≤ x ∧ x ≤ c.seats - 1) (hb : inI d1) (b : Nat) (hbd : (b : Int) = (layF c).deque + 3 * x) (m0 : M[b]? = some d0) (m1 : M[b + 1]? = some d1) (m2 : M[b + 2]? = some d2) :
    callP (evalCall fns NN (d + 6)) 19 [.agg (LDc c (layF c)), .agg [.hsl 0 0 N N 1 false], I x] [ints M] = .ok (.sl (md (rowV c (layF c) M x d0 d1 d2)) 1 (ints (rowV c (layF c) M x d0 d1 d2))) [ints M] := by
  have hk := ok_lok ok
  have hdq : 0 ≤ (layF c).deque ∧ (layF c).deque ≤ 20000 := by have := ok.seats; simp only [layF]; omega
  have hts : (layF c).task ≤ (layF c).size := by
    have h1 := ok.tasks; have h2 := ok.cells; have h3 := map_bd ok.toMay; have h4 := stack_bd ok.toMay; have h5 := ok.chans; have h6 := ok.nodes; have h7 := ok.maps
    simp only [layF]; omega
  obtain ⟨h', e⟩ := body_Row (evalCall fns NN (d + 5)) c (layF c) M .view x d0 d1 d2 hk hb b (by omega) m0 m1 m2 (fun k hkm hf => by
      have hf' := of_decide_eq_true hf
      have := pl_lo ok hf'.1 (i := d0 + k) (by omega)
      have h0 : 0 ≤ (layF c).ring := hk.ring.1
      exact ⟨by omega, by omega⟩)
    (fun h => by rw [hbd, ← Int.add_zero ((layF c).deque + 3 * x), ← deq_eq (i := 0) hx (by omega)]; exact p_Deque (d := d + 2) c _ x 0 hk.seats hdq)
    (fun h => by rw [show ((b + 1 : Nat) : Int) = (layF c).deque + 3 * x + 1 by omega, ← deq_eq (i := 1) hx (by omega)]; exact p_Deque (d := d + 2) c _ x 1 hk.seats hdq)
    (fun h => by rw [show ((b + 2 : Nat) : Int) = (layF c).deque + 3 * x + 2 by omega, ← deq_eq (i := 2) hx (by omega)]; exact p_Deque (d := d + 2) c _ x 2 hk.seats hdq)
    (fun h => p_fits c _ x d2 d0 d1 hk hb) (p_rplace (d := d + 1) c _ x d2 hk)
    (fun f s i hf hs hi => by rw [callP_ptr rfl, call_eq rfl]; exact body_pl1 _ f s i hf hs hi)
  refine callP_look (args' := [.agg (LDc c (layF c)), .agg [.sl .view 1 (ints M)], I x]) (v := .sl (md (rowV c (layF c) M x d0 d1 d2)) 1 (ints (rowV c (layF c) M x d0 d1 d2))) (h' := h') ?_ (by simp -implicitDefEqProofs only [go_sem, Nat.reduceAdd, Nat.reduceMul, Nat.reduceSub, Nat.reduceLeDiff, Nat.reduceEqDiff, Nat.reduceBEq, Nat.reduceLT, Int.reduceLE, Int.reduceLT, Int.reduceEq, Int.reduceNeg, Int.reduceAdd, Int.reduceMul, Int.reduceSub, Int.reduceToNat, reduceCtorEq, ↓reduceIte]) (by rw [call_eq rfl]; exact e) (by simp -implicitDefEqProofs only [go_sem, Nat.reduceAdd, Nat.reduceMul, Nat.reduceSub, Nat.reduceLeDiff, Nat.reduceEqDiff, Nat.reduceBEq, Nat.reduceLT, Int.reduceLE, Int.reduceLT, Int.reduceEq, Int.reduceNeg, Int.reduceAdd, Int.reduceMul, Int.reduceSub, Int.reduceToNat, reduceCtorEq, ↓reduceIte]) ?_
  · show [DV.agg (lookL _ (LDc c (layF c))), DV.agg [look [ints M] (.hsl 0 0 N N 1 false)], I x] = _
    rw [lookL_LDc, look_hsl_ints (l := M) rfl hN.symm]
  · exact fresh_md _
end Go.D.Ring
