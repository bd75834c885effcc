/- The law WireBack of 'wire', in the evaluator. -/
import Derived.Test.YtfbpnbomcogkcaaQqWireD
set_option linter.unusedSimpArgs false
set_option linter.unusedVariables false
namespace Go.D.Wire
open Go.D
set_option maxRecDepth 10000
set_option maxHeartbeats 1000000
variable {d : Nat} {h : Heap}

theorem getF_enc (r : List Int) : ∀ f k u v, k + f = 9 → v < 128 ^ (f + 1) → v * 128 ^ k < 18446744073709551616 → (0 < k → 0 < v) →
    getF k u (enc (f + 1) v ++ r) = some (u + v * 128 ^ k, k + (enc (f + 1) v).length) := by
  intro f
  induction f with
  | zero =>
    intro k u v hk hv h64 h0
    have hk' : k = 9 := by omega
    subst hk'
    have hv1 : v ≤ 1 := by omega
    have e : enc (0 + 1) v = [(v : Int)] := by rw [enc, if_pos (by omega)]
    rw [e, List.cons_append, List.nil_append, getF, if_neg (by omega), if_pos (by omega), if_neg (by omega)]
    rw [show ((v : Int) % 128).toNat = v by omega]
    rfl
  | succ f ih =>
    intro k u v hk hv h64 h0
    by_cases hs : v < 128
    · have e : enc (f + 1 + 1) v = [(v : Int)] := by rw [enc, if_pos hs]
      rw [e, List.cons_append, List.nil_append, getF, if_neg (by omega), if_pos (by omega), if_neg (by omega)]
      rw [show ((v : Int) % 128).toNat = v by omega]
      rfl
    · have e : enc (f + 1 + 1) v = ((v % 128 + 128 : Nat) : Int) :: enc (f + 1) (v / 128) := by rw [enc, if_neg hs]
      have e2 : v * 128 ^ k = v % 128 * 128 ^ k + v / 128 * 128 ^ (k + 1) := by
        rw [Nat.pow_succ, Nat.mul_comm (128 ^ k) 128, ← Nat.mul_assoc, ← Nat.add_mul]
        congr 1
        omega
      rw [e, List.cons_append, getF, if_neg (by omega), if_neg (by omega), ih (k + 1) _ (v / 128) (by omega) (by rw [Nat.pow_succ] at hv; omega) (by omega) (by omega)]
      rw [show (((v % 128 + 128 : Nat) : Int) % 128).toNat = v % 128 by omega, List.length_cons]
      congr 2
      · omega
      · omega

theorem unzz_zz {n : Int} : unzz (zz n).toNat = n := by
  unfold unzz zz
  by_cases h : 0 ≤ n
  · rw [if_pos h, if_pos (by omega)]; omega
  · rw [if_neg h, if_neg (by omega)]; omega

theorem get_put {n : Int} (hn : inI n) (r : List Int) : getF 0 0 (put n ++ r) = some ((zz n).toNat, (put n).length) := by
  obtain ⟨z0, z1⟩ := zz_bd hn.1 hn.2
  unfold put
  rw [getF_enc r 9 0 0 (zz n).toNat (by omega) (zz_lt hn) (by omega) (by omega)]
  simp
theorem getV_put {n : Int} (hn : inI n) (r : List Int) : getV (put n ++ r) = .tup [I n, I (put n).length, I 0] := by
  unfold getV
  rw [get_put hn r]
  simp only [unzz_zz]
theorem enc_bytes : ∀ f u, ∀ x ∈ enc f u, 0 ≤ x ∧ x < 256
  | 0, _, x, hx => by simp [enc] at hx
  | f + 1, u, x, hx => by
    unfold enc at hx
    split at hx
    · simp at hx; omega
    · rcases List.mem_cons.1 hx with rfl | hx
      · omega
      · exact enc_bytes f _ x hx
theorem put_bytes (n : Int) : ∀ x ∈ put n, 0 ≤ x ∧ x < 256 := enc_bytes 10 _

theorem body_Back (ev : FuncId → List DV → Heap → Res DV) (ha : ∀ h, callP ev 14 [] h = .ok (B true) h) (n : Int) (l : List Int) (ml : Mode)
    (q1 : ∀ h, callP ev 16 [I n] h = .ok (.sl .own 1 (u8s (put n))) h)
    (q2 : ∀ h m, l.length ≤ 1000 → callP ev 18 [.sl m 1 (u8s (put n ++ l))] h = .ok (.tup [I n, I (put n).length, I 0]) h) :
    evalF ev NN ir5 [I n, .sl ml 1 (u8s l)] [] = .ok (B true) [] := by
  have hp := put_len n
  have hp0 : 1 ≤ (put n).length := by
    have := enc_ne (f := 10) (u := (zz n).toNat) (by omega)
    unfold put
    cases hh : enc 10 (zz n).toNat with
    | nil => exact absurd hh this
    | cons => simp
  by_cases hl : l.length ≤ 1000
  · have hl' : ¬ (1000 : Int) < (l.length : Int) := by omega
    have q3 := fun h m => q2 h m hl
    have hr : ((put n).length + l.length) * 2 ≤ room := by simp only [room]; omega
    have h1 : (1 : Int) ≤ ((put n).length : Int) := by omega
    have h10 : ((put n).length : Int) ≤ 10 := by omega
    simp -implicitDefEqProofs only [ir5, ha, q1, q3, hl', hr, h1, h10, go_sem, Nat.reduceAdd, Nat.reduceMul, Nat.reduceSub, Nat.reduceLeDiff, Nat.reduceEqDiff, Nat.reduceBEq, Nat.reduceLT, Int.reduceLE, Int.reduceLT, Int.reduceEq, Int.reduceNeg, Int.reduceAdd, Int.reduceMul, Int.reduceSub, Int.reduceToNat, reduceCtorEq, reduceIte]
  · have hl' : (1000 : Int) < (l.length : Int) := by omega
    simp -implicitDefEqProofs only [ir5, ha, hl', go_sem, Nat.reduceAdd, Nat.reduceMul, Nat.reduceSub, Nat.reduceLeDiff, Nat.reduceEqDiff, Nat.reduceBEq, Nat.reduceLT, Int.reduceLE, Int.reduceLT, Int.reduceEq, Int.reduceNeg, Int.reduceAdd, Int.reduceMul, Int.reduceSub, Int.reduceToNat, reduceCtorEq, reduceIte]

theorem law_Back (d : Nat) (n : Int) (l : List Int) (ml : Mode) (hn : inI n) (hb : ∀ x ∈ l, 0 ≤ x ∧ x < 256) : evalCall fns NN (d + 11) 5 [I n, .sl ml 1 (u8s l)] [] = .ok (B true) [] := by
  rw [call_eq rfl]
  refine body_Back _ (fun h => p_alive) n l ml (fun h => p_Put (d := d + 9) n hn.1 hn.2) (fun h m hl => ?_)
  rw [← getV_put hn l]
  have hp := put_len n
  refine p_Get (d := d + 9) _ m (by simp; omega) (fun x hx => ?_)
  rcases List.mem_append.1 hx with hx | hx
  · exact put_bytes n x hx
  · exact hb x hx
end Go.D.Wire
