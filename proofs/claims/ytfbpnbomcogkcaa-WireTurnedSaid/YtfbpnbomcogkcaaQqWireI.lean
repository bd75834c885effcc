/- The reference's Get is wire.Get, in the evaluator. -/
import Derived.Test.YtfbpnbomcogkcaaQqWireF
set_option linter.unusedSimpArgs false
set_option linter.unusedVariables false
namespace Go.D.Wire
open Go.D
set_option maxRecDepth 10000
set_option maxHeartbeats 1000000
variable {d : Nat} {h : Heap}

/-- How many bytes ahead go on, n at most. -/
def lead : Nat → List Int → Nat
  | 0, _ => 0
  | _, [] => 0
  | n + 1, x :: r => if 128 ≤ x then lead n r + 1 else 0

theorem lead_len : ∀ n b, lead n b ≤ n ∧ lead n b ≤ b.length
  | 0, b => by simp [lead]
  | n + 1, [] => by simp [lead]
  | n + 1, x :: r => by
    have := lead_len n r
    unfold lead
    split
    · simp only [List.length_cons]; omega
    · simp

/-- What the bytes are, folded from the top. -/
def fold7 : List Int → Nat
  | [] => 0
  | x :: r => (128 * fold7 r + (x % 128).toNat) % 18446744073709551616
theorem fold7_lt (l : List Int) : fold7 l < 18446744073709551616 := by cases l <;> (unfold fold7; omega)

theorem lead_enc (r : List Int) : ∀ f v n, v < 128 ^ f → 0 < f → f ≤ n → lead n (enc f v ++ r) + 1 = (enc f v).length
  | 0, _, _, _, h0, _ => by omega
  | f + 1, v, 0, _, _, h => by omega
  | f + 1, v, n + 1, hv, _, hn => by
    rw [Nat.pow_succ] at hv
    unfold enc
    split
    · rw [List.cons_append, lead, if_neg (by omega)]; rfl
    · cases f with
      | zero => omega
      | succ f =>
        rw [List.cons_append, lead, if_pos (by omega), lead_enc r (f + 1) (v / 128) n (by omega) (by omega) (by omega)]
        rfl
theorem fold7_enc : ∀ f v, v < 128 ^ f → fold7 (enc f v) = v % 18446744073709551616
  | 0, v, hv => by simp at hv; subst hv; rfl
  | f + 1, v, hv => by
    rw [Nat.pow_succ] at hv
    unfold enc
    split
    · simp only [fold7]; omega
    · rw [fold7, fold7_enc f (v / 128) (by omega)]; omega

/-- What the reference says. -/
theorem ref_none {b : List Int} (hb : ∀ x ∈ b, 0 ≤ x ∧ x < 256) (hg : getF 0 0 b = none) : put (unzz (fold7 (b.take (lead 10 b + 1)))) ≠ b.take (lead 10 b + 1) := by
  intro e
  have hin : inI (unzz (fold7 (b.take (lead 10 b + 1)))) := unzz_in (fold7_lt _)
  have h := get_put hin (b.drop (lead 10 b + 1))
  rw [e, List.take_append_drop, hg] at h
  cases h
theorem ref_some {b : List Int} (hb : ∀ x ∈ b, 0 ≤ x ∧ x < 256) {w n : Nat} (hg : getF 0 0 b = some (w, n)) :
    lead 10 b + 1 = n ∧ n ≤ 10 ∧ fold7 (b.take n) = w := by
  obtain ⟨v, m, m1, m2, rfl, rfl, v2, v3, v4, v5⟩ := getF_dec b 0 9 0 w n rfl hb hg
  simp only [Nat.zero_add, Nat.pow_zero, Nat.mul_one] at *
  have hv : v < 128 ^ 10 := by omega
  have hl := lead_enc (b.drop m) 10 v 10 hv (by omega) (by omega)
  have e : enc (9 + 1) v = enc 10 v := rfl
  rw [e] at v4
  rw [v4, List.take_append_drop, List.length_take] at hl
  have := enc_len 10 v
  rw [v4, List.length_take] at this
  refine ⟨by omega, by omega, ?_⟩
  rw [← v4, fold7_enc 10 v hv]
  omega

def QLead (h : Heap) (v1 v2 v3 x5 x6 x7 x8 x10 u x12 : DV) (b : List Int) (mb : Mode) (k : Nat) : Ex → Prop
  | .exit i s => i = 0 ∧ ∃ y4, s = ⟨[.sl mb 1 (u8s b), v1, v2, v3, y4, x5, x6, x7, x8, I k, x10, u, x12], [], h⟩
  | _ => False

theorem loop_Lead (ev : FuncId → List DV → Heap → Res DV) (v1 v2 v3 x5 x6 x7 x8 x10 u x12 : DV) (b : List Int) (mb : Mode) (hl : b.length ≤ 90000) : ∀ n f k, k + f = 10 → f < n → k ≤ b.length → ∀ x4,
    QLead h v1 v2 v3 x5 x6 x7 x8 x10 u x12 b mb (k + lead f (b.drop k)) (iter (evalC ev NN ir19_l0) n ⟨[.sl mb 1 (u8s b), v1, v2, v3, x4, x5, x6, x7, x8, I k, x10, u, x12], [], h⟩) := by
  intro n
  induction n with
  | zero => intro f k _ h2; omega
  | succ n ih =>
    intro f k hf hn hk x4
    by_cases hlt : k < b.length
    · have hx : b[k]? = some b[k] := List.getElem?_eq_getElem hlt
      have hd : b.drop k = b[k] :: b.drop (k + 1) := List.drop_eq_getElem_cons hlt
      rw [hd]
      generalize b[k] = x at *
      have hlt' : (k : Int) < (b.length : Int) := by omega
      cases f with
      | zero =>
        have hk10 : k = 10 := by omega
        subst hk10
        have cc : ((10 : Nat) : Int) = 10 := rfl
        rw [cc] at hlt'
        rw [lead]
        simp -implicitDefEqProofs only [iter, ir19_l0, cc, hlt', go_sem, Nat.reduceAdd, Nat.reduceMul, Nat.reduceSub, Nat.reduceLeDiff, Nat.reduceEqDiff, Nat.reduceBEq, Nat.reduceLT, Int.reduceLE, Int.reduceLT, Int.reduceEq, Int.reduceNeg, Int.reduceAdd, Int.reduceMul, Int.reduceSub, Int.reduceToNat, reduceCtorEq, reduceIte]
        exact ⟨rfl, _, rfl⟩
      | succ f =>
        have h10 : (k : Int) < 10 := by omega
        by_cases h128 : 128 ≤ x
        · have e := ih f (k + 1) (by omega) (by omega) (by omega) (B true)
          rw [lead, if_pos h128, show k + (lead f (b.drop (k + 1)) + 1) = k + 1 + lead f (b.drop (k + 1)) by omega]
          refine cast (congrArg _ ?_) e
          have st : evalC ev NN ir19_l0 ⟨[.sl mb 1 (u8s b), v1, v2, v3, x4, x5, x6, x7, x8, I k, x10, u, x12], [], h⟩ = .norm ⟨[.sl mb 1 (u8s b), v1, v2, v3, B true, x5, x6, x7, x8, I (k + 1 : Nat), x10, u, x12], [], h⟩ := by
            simp -implicitDefEqProofs only [ir19_l0, hlt', h10, hx, h128, wrap_succ (show k < 4611686018427387904 by omega), go_sem, Nat.reduceAdd, Nat.reduceMul, Nat.reduceSub, Nat.reduceLeDiff, Nat.reduceEqDiff, Nat.reduceBEq, Nat.reduceLT, Int.reduceLE, Int.reduceLT, Int.reduceEq, Int.reduceNeg, Int.reduceAdd, Int.reduceMul, Int.reduceSub, Int.reduceToNat, reduceCtorEq, reduceIte]
          rw [iter, st]
        · rw [lead, if_neg h128]
          simp -implicitDefEqProofs only [iter, ir19_l0, hlt', h10, hx, h128, go_sem, Nat.reduceAdd, Nat.reduceMul, Nat.reduceSub, Nat.reduceLeDiff, Nat.reduceEqDiff, Nat.reduceBEq, Nat.reduceLT, Int.reduceLE, Int.reduceLT, Int.reduceEq, Int.reduceNeg, Int.reduceAdd, Int.reduceMul, Int.reduceSub, Int.reduceToNat, reduceCtorEq, reduceIte]
          exact ⟨rfl, _, rfl⟩
    · have hka : k = b.length := by omega
      have hd : b.drop k = [] := by rw [hka]; exact List.drop_length
      have hlt' : ¬ (k : Int) < (b.length : Int) := by omega
      have hz : lead f [] = 0 := by cases f <;> rfl
      rw [hd, hz]
      simp -implicitDefEqProofs only [iter, ir19_l0, hlt', go_sem, Nat.reduceAdd, Nat.reduceMul, Nat.reduceSub, Nat.reduceLeDiff, Nat.reduceEqDiff, Nat.reduceBEq, Nat.reduceLT, Int.reduceLE, Int.reduceLT, Int.reduceEq, Int.reduceNeg, Int.reduceAdd, Int.reduceMul, Int.reduceSub, Int.reduceToNat, reduceCtorEq, reduceIte]
      exact ⟨rfl, _, rfl⟩

def QFold (h : Heap) (v1 v2 v3 x4 x5 x7 x8 x9 x12 : DV) (b : List Int) (mb : Mode) (u : Nat) : Ex → Prop
  | .exit i s => i = 2 ∧ ∃ y6 y10, s = ⟨[.sl mb 1 (u8s b), v1, v2, v3, x4, x5, y6, x7, x8, x9, y10, W64 u, x12], [], h⟩
  | _ => False

theorem fold_raw {u y : Nat} (hu : u < 18446744073709551616) (hy : y < 128) : IntKind.u64.wrap (IntKind.u64.wrap (128 * (u : Int)) + (y : Int)) = (((128 * u + y) % 18446744073709551616 : Nat) : Int) := by
  rw [u64_wrap, u64_wrap]; omega
theorem rem_u8 {x : Int} (h0 : 0 ≤ x) : x.tmod 128 = ((x % 128).toNat : Int) := by
  rw [Int.tmod_eq_emod_of_nonneg h0]; omega

/-- The fold, from the top down: what is done above, and how many are still to come. -/
theorem loop_Fold (ev : FuncId → List DV → Heap → Res DV) (v1 v2 v3 x4 x5 x7 x8 x9 x12 : DV) (b : List Int) (mb : Mode) (hl : b.length ≤ 90000) (hb : ∀ x ∈ b, 0 ≤ x ∧ x < 256) (m : Nat) (hm : m ≤ b.length) : ∀ n k, k ≤ m → k < n → ∀ x6,
    QFold h v1 v2 v3 x4 x5 x7 x8 x9 x12 b mb (fold7 (b.take m)) (iter (evalC ev NN ir19_l1) n ⟨[.sl mb 1 (u8s b), v1, v2, v3, x4, x5, x6, x7, x8, x9, I ((k : Int) - 1), W64 (fold7 ((b.take m).drop k)), x12], [], h⟩) := by
  intro n
  induction n with
  | zero => intro k _ h2; omega
  | succ n ih =>
    intro k hk hn x6
    cases k with
    | zero =>
      have h0 : ¬ (0 : Int) ≤ ((0 : Nat) : Int) - 1 := by omega
      rw [List.drop_zero]
      simp -implicitDefEqProofs only [iter, ir19_l1, h0, go_sem, Nat.reduceAdd, Nat.reduceMul, Nat.reduceSub, Nat.reduceLeDiff, Nat.reduceEqDiff, Nat.reduceBEq, Nat.reduceLT, Int.reduceLE, Int.reduceLT, Int.reduceEq, Int.reduceNeg, Int.reduceAdd, Int.reduceMul, Int.reduceSub, Int.reduceToNat, reduceCtorEq, reduceIte]
      exact ⟨rfl, _, _, rfl⟩
    | succ k =>
      have hlt : k < b.length := by omega
      have hx : b[k]? = some b[k] := List.getElem?_eq_getElem hlt
      have hlt2 : k < (b.take m).length := by rw [List.length_take]; omega
      have hd : (b.take m).drop k = b[k] :: (b.take m).drop (k + 1) := by
        rw [List.drop_eq_getElem_cons hlt2, List.getElem_take]
      obtain ⟨hx0, hx1⟩ := hb b[k] (List.getElem_mem hlt)
      have e := ih k (by omega) (by omega) (B true)
      rw [hd] at e
      generalize b[k] = x at *
      rw [fold7] at e
      have f0 := fold7_lt ((b.take m).drop (k + 1))
      generalize fold7 ((b.take m).drop (k + 1)) = u at *
      have hk1 : ((k + 1 : Nat) : Int) - 1 = (k : Int) := by omega
      rw [hk1]
      have hk0 : (0 : Int) ≤ (k : Int) := by omega
      have a0 := rem_u8 hx0
      have a1 := fold_raw (y := (x % 128).toNat) f0 (by omega)
      have a2 : IntKind.u64.wrap ((x % 128).toNat : Int) = ((x % 128).toNat : Int) := u64_small (by omega)
      have a3 : IntKind.i64.wrap ((k : Int) - 1) = (k : Int) - 1 := wrap64_id (by omega) (by omega)
      generalize (x % 128).toNat = y at *
      refine cast (congrArg _ ?_) e
      have st : evalC ev NN ir19_l1 ⟨[.sl mb 1 (u8s b), v1, v2, v3, x4, x5, x6, x7, x8, x9, I (k : Int), W64 (u : Nat), x12], [], h⟩ = .norm ⟨[.sl mb 1 (u8s b), v1, v2, v3, x4, x5, B true, x7, x8, x9, I ((k : Int) - 1), W64 (((128 * u + y) % 18446744073709551616 : Nat) : Int), x12], [], h⟩ := by
        simp -implicitDefEqProofs only [ir19_l1, hx, a0, a1, a2, a3, go_sem, Nat.reduceAdd, Nat.reduceMul, Nat.reduceSub, Nat.reduceLeDiff, Nat.reduceEqDiff, Nat.reduceBEq, Nat.reduceLT, Int.reduceLE, Int.reduceLT, Int.reduceEq, Int.reduceNeg, Int.reduceAdd, Int.reduceMul, Int.reduceSub, Int.reduceToNat, reduceCtorEq, reduceIte]
      rw [iter, st]

theorem half_raw {u : Nat} (h : u < 18446744073709551616) : IntKind.i64.wrap (IntKind.u64.wrap (Int.tdiv (u : Int) 2)) = ((u / 2 : Nat) : Int) := by
  rw [Int.tdiv_eq_ediv_of_nonneg (by omega), u64_wrap, wrap64_id (by omega) (by omega)]; omega
theorem rem2_raw (u : Nat) : Int.tmod (u : Int) 2 = ((u % 2 : Nat) : Int) := by
  rw [Int.tmod_eq_emod_of_nonneg (by omega)]; omega

theorem body_RGet (ev : FuncId → List DV → Heap → Res DV) (b : List Int) (mb : Mode) (hl : b.length ≤ 90000) (hb : ∀ x ∈ b, 0 ≤ x ∧ x < 256)
    (q1 : ∀ h n, inI n → callP ev 17 [I n] h = .ok (.sl .own 1 (u8s (put n))) h)
    (q2 : ∀ h (a b : List Int) ma mb, a.length ≤ 90000 → callP ev 15 [.sl ma 1 (u8s a), .sl mb 1 (u8s b)] h = .ok (B (decide (a = b))) h) :
    evalF ev NN ir19 [.sl mb 1 (u8s b)] [] = .ok (getV b) [] := by
  have e := loop_Lead (h := []) ev (I 0) (I 0) (I 0) .junk .junk .junk .junk .junk (W64 0) .junk b mb hl NN 10 0 (by omega) (by unfold NN; omega) (by omega) .junk
  simp only [List.drop_zero, Nat.zero_add] at e
  simp -implicitDefEqProofs only [go_sem, Nat.reduceAdd, Nat.reduceMul, Nat.reduceSub, Nat.reduceLeDiff, Nat.reduceEqDiff, Nat.reduceBEq, Nat.reduceLT, Int.reduceLE, Int.reduceLT, Int.reduceEq, Int.reduceNeg, Int.reduceAdd, Int.reduceMul, Int.reduceSub, Int.reduceToNat, reduceCtorEq, reduceIte] at e
  simp -implicitDefEqProofs only [ir19, go_sem, Nat.reduceAdd, Nat.reduceMul, Nat.reduceSub, Nat.reduceLeDiff, Nat.reduceEqDiff, Nat.reduceBEq, Nat.reduceLT, Int.reduceLE, Int.reduceLT, Int.reduceEq, Int.reduceNeg, Int.reduceAdd, Int.reduceMul, Int.reduceSub, Int.reduceToNat, reduceCtorEq, reduceIte]
  revert e
  generalize iter _ _ _ = E
  intro e
  cases E with
  | exit i s =>
    obtain ⟨rfl, y4, rfl⟩ := e
    obtain ⟨l1, l2⟩ := lead_len 10 b
    have w1 := wrap_succ (show lead 10 b < 4611686018427387904 by omega)
    have hn := @ref_none b hb
    have hs := @ref_some b hb
    generalize lead 10 b = k at *
    unfold getV
    by_cases hk : k = b.length
    · have hg : getF 0 0 b = none := by
        cases hg : getF 0 0 b with
        | none => rfl
        | some o => obtain ⟨w, n⟩ := o; have := hs hg; obtain ⟨g1, g2, _⟩ := get_dec hb hg; omega
      rw [hg]
      have hk' : (k : Int) = (b.length : Int) := by omega
      simp -implicitDefEqProofs only [hk', go_sem, Nat.reduceAdd, Nat.reduceMul, Nat.reduceSub, Nat.reduceLeDiff, Nat.reduceEqDiff, Nat.reduceBEq, Nat.reduceLT, Int.reduceLE, Int.reduceLT, Int.reduceEq, Int.reduceNeg, Int.reduceAdd, Int.reduceMul, Int.reduceSub, Int.reduceToNat, reduceCtorEq, reduceIte]
    · have hk' : ¬ (k : Int) = (b.length : Int) := by omega
      by_cases h10 : k = 10
      · have hg : getF 0 0 b = none := by
          cases hg : getF 0 0 b with
          | none => rfl
          | some o => obtain ⟨w, n⟩ := o; have := hs hg; omega
        rw [hg]
        subst h10
        have cc : ((10 : Nat) : Int) = 10 := rfl
        rw [cc] at hk'
        simp -implicitDefEqProofs only [cc, hk', go_sem, Nat.reduceAdd, Nat.reduceMul, Nat.reduceSub, Nat.reduceLeDiff, Nat.reduceEqDiff, Nat.reduceBEq, Nat.reduceLT, Int.reduceLE, Int.reduceLT, Int.reduceEq, Int.reduceNeg, Int.reduceAdd, Int.reduceMul, Int.reduceSub, Int.reduceToNat, reduceCtorEq, reduceIte]
      · have h10' : ¬ (k : Int) = 10 := by omega
        have e := loop_Fold (h := []) ev (I 0) (I 0) (I 0) y4 (B false) .junk .junk (I k) .junk b mb hl hb (k + 1) (by omega) NN (k + 1) (by omega) (by unfold NN; omega) .junk
        rw [show ((k + 1 : Nat) : Int) - 1 = (k : Int) by omega, show (b.take (k + 1)).drop (k + 1) = [] from List.drop_eq_nil_of_le (by rw [List.length_take]; omega), show fold7 [] = 0 from rfl] at e
        simp -implicitDefEqProofs only [go_sem, Nat.reduceAdd, Nat.reduceMul, Nat.reduceSub, Nat.reduceLeDiff, Nat.reduceEqDiff, Nat.reduceBEq, Nat.reduceLT, Int.reduceLE, Int.reduceLT, Int.reduceEq, Int.reduceNeg, Int.reduceAdd, Int.reduceMul, Int.reduceSub, Int.reduceToNat, reduceCtorEq, reduceIte] at e
        simp -implicitDefEqProofs only [hk', h10', go_sem, Nat.reduceAdd, Nat.reduceMul, Nat.reduceSub, Nat.reduceLeDiff, Nat.reduceEqDiff, Nat.reduceBEq, Nat.reduceLT, Int.reduceLE, Int.reduceLT, Int.reduceEq, Int.reduceNeg, Int.reduceAdd, Int.reduceMul, Int.reduceSub, Int.reduceToNat, reduceCtorEq, reduceIte]
        revert e
        generalize iter _ _ _ = E
        intro e
        cases E with
        | exit i s =>
          obtain ⟨rfl, y6, y10, rfl⟩ := e
          have f0 := fold7_lt (b.take (k + 1))
          have hin := unzz_in f0
          have a0 := half_raw f0
          have a1 := rem2_raw (fold7 (b.take (k + 1)))
          have p1 := fun h => q1 h _ hin
          have hpl := put_len (unzz (fold7 (b.take (k + 1))))
          have p2 := fun h ma mb => q2 h (put (unzz (fold7 (b.take (k + 1))))) (b.take (k + 1)) ma mb (by omega)
          have key : getF 0 0 b = if put (unzz (fold7 (b.take (k + 1)))) = b.take (k + 1) then some (fold7 (b.take (k + 1)), k + 1) else none := by
            cases hg : getF 0 0 b with
            | none => rw [if_neg (hn hg)]
            | some o =>
              obtain ⟨w, n⟩ := o
              obtain ⟨s1, s2, s3⟩ := hs hg
              obtain ⟨_, _, _, g4, _⟩ := get_dec hb hg
              subst s1
              rw [s3, if_pos g4]
          rw [key]
          have i1 : ((k + 1 : Nat) : Int) ≤ (b.length : Int) := by omega
          generalize fold7 (b.take (k + 1)) = u at *
          generalize hl' : b.take (k + 1) = l at *
          by_cases hp : u % 2 = 0
          · have c1 : ¬ ((u % 2 : Nat) : Int) = 1 := by omega
            have hz : unzz u = ((u / 2 : Nat) : Int) := by unfold unzz; rw [if_pos hp]
            rw [← hz] at a0
            by_cases hs : put (unzz u) = l
            · rw [if_pos hs]
              rw [hs] at p1 p2
              simp -implicitDefEqProofs only [a0, a1, c1, p1, p2, w1, i1, hl', go_sem, Nat.reduceAdd, Nat.reduceMul, Nat.reduceSub, Nat.reduceLeDiff, Nat.reduceEqDiff, Nat.reduceBEq, Nat.reduceLT, Int.reduceLE, Int.reduceLT, Int.reduceEq, Int.reduceNeg, Int.reduceAdd, Int.reduceMul, Int.reduceSub, Int.reduceToNat, reduceCtorEq, reduceIte]
            · rw [if_neg hs]
              simp -implicitDefEqProofs only [a0, a1, c1, p1, p2, w1, i1, hs, hl', go_sem, Nat.reduceAdd, Nat.reduceMul, Nat.reduceSub, Nat.reduceLeDiff, Nat.reduceEqDiff, Nat.reduceBEq, Nat.reduceLT, Int.reduceLE, Int.reduceLT, Int.reduceEq, Int.reduceNeg, Int.reduceAdd, Int.reduceMul, Int.reduceSub, Int.reduceToNat, reduceCtorEq, reduceIte]
          · have c1 : ((u % 2 : Nat) : Int) = 1 := by omega
            have hz : unzz u = -((u / 2 : Nat) : Int) - 1 := by unfold unzz; rw [if_neg hp]
            have w2 : IntKind.i64.wrap (0 - ((u / 2 : Nat) : Int)) = -((u / 2 : Nat) : Int) := by rw [wrap64_id (by omega) (by omega)]; omega
            have w3 : IntKind.i64.wrap (-((u / 2 : Nat) : Int) - 1) = unzz u := by rw [hz, wrap64_id (by omega) (by omega)]
            by_cases hs : put (unzz u) = l
            · rw [if_pos hs]
              rw [hs] at p1 p2
              simp -implicitDefEqProofs only [a0, a1, c1, p1, p2, w1, w2, w3, i1, hl', go_sem, Nat.reduceAdd, Nat.reduceMul, Nat.reduceSub, Nat.reduceLeDiff, Nat.reduceEqDiff, Nat.reduceBEq, Nat.reduceLT, Int.reduceLE, Int.reduceLT, Int.reduceEq, Int.reduceNeg, Int.reduceAdd, Int.reduceMul, Int.reduceSub, Int.reduceToNat, reduceCtorEq, reduceIte]
            · rw [if_neg hs]
              simp -implicitDefEqProofs only [a0, a1, c1, p1, p2, w1, w2, w3, i1, hs, hl', go_sem, Nat.reduceAdd, Nat.reduceMul, Nat.reduceSub, Nat.reduceLeDiff, Nat.reduceEqDiff, Nat.reduceBEq, Nat.reduceLT, Int.reduceLE, Int.reduceLT, Int.reduceEq, Int.reduceNeg, Int.reduceAdd, Int.reduceMul, Int.reduceSub, Int.reduceToNat, reduceCtorEq, reduceIte]
        | ret s => exact e.elim
        | norm s => exact e.elim
        | pan v h => exact e.elim
        | no => exact e.elim
  | ret s => exact e.elim
  | norm s => exact e.elim
  | pan v h => exact e.elim
  | no => exact e.elim

theorem p_RGet (b : List Int) (mb : Mode) (hl : b.length ≤ 90000) (hb : ∀ x ∈ b, 0 ≤ x ∧ x < 256) : callP (evalCall fns NN (d + 3)) 19 [.sl mb 1 (u8s b)] h = .ok (getV b) h := by
  have hv : ∀ h' : Heap, look h' (getV b) = getV b ∧ free (getV b) = true := by intro h'; unfold getV; split <;> exact ⟨rfl, rfl⟩
  have q := callP_of (ev := evalCall fns NN (d + 3)) (h := h) (f := 19) (args := [.sl mb 1 (u8s b)]) (v := getV b) (h' := []) (by simp -implicitDefEqProofs only [go_sem, Nat.reduceAdd, Nat.reduceMul, Nat.reduceSub, Nat.reduceLeDiff, Nat.reduceEqDiff, Nat.reduceBEq, Nat.reduceLT, Int.reduceLE, Int.reduceLT, Int.reduceEq, Int.reduceNeg, Int.reduceAdd, Int.reduceMul, Int.reduceSub, Int.reduceToNat, reduceCtorEq, reduceIte]) rfl
    (by rw [call_eq rfl]; exact body_RGet _ b mb hl hb (fun h n hn => p_RPut n hn.1 hn.2) (fun h a b ma mb hl => p_Same a b ma mb hl)) (by rw [(hv []).1]; exact (hv []).2)
  rw [q, (hv []).1]
end Go.D.Wire
