/- What wire.Get computes. -/
import Derived.Test.YtfbpnbomcogkcaaQqWireC
import Derived.Test.YtfbpnbomcogkcaaQqWireD1
set_option linter.unusedSimpArgs false
set_option linter.unusedVariables false
namespace Go.D.Wire
open Go.D
set_option maxRecDepth 10000
set_option maxHeartbeats 1000000
variable {d : Nat} {h : Heap}

/-- The number that bytes begin with, raw, and how many bytes it takes. -/
def getF : Nat → Nat → List Int → Option (Nat × Nat)
  | _, _, [] => none
  | k, u, x :: r =>
    if (k = 9 ∧ 1 < x) ∨ 9 < k then none
    else if x < 128 then (if x = 0 ∧ 0 < k then none else some (u + (x % 128).toNat * 128 ^ k, k + 1))
    else getF (k + 1) (u + (x % 128).toNat * 128 ^ k) r

theorem and127 (x : Int) : IntKind.u8.wrap (((BitVec.ofInt IntKind.u8.bits x &&& ~~~BitVec.ofInt IntKind.u8.bits 128).toNat : Nat) : Int) = ((x % 128).toNat : Int) := by
  have hb : IntKind.u8.bits = 8 := rfl
  rw [hb, u8_wrap]
  have key : ∀ x : BitVec 8, (x &&& ~~~BitVec.ofInt 8 128).toNat = x.toNat % 128 := by decide
  rw [key, BitVec.toNat_ofInt]
  omega
theorem w7 {k : Nat} (h : k ≤ 100000) : IntKind.i64.wrap (7 * (k : Int)) = ((7 * k : Nat) : Int) := by
  rw [show 7 * (k : Int) = ((7 * k : Nat) : Int) by omega]
  exact wrap64_id (by omega) (by omega)
theorem p7 {k : Nat} (h : k ≤ 9) : (2 : Int) ^ min (7 * k) IntKind.u64.bits = ((128 ^ k : Nat) : Int) := by
  rw [show min (7 * k) IntKind.u64.bits = 7 * k from Nat.min_eq_left (by simp [IntKind.bits]; omega), Int.pow_mul]
  norm_cast
theorem u64_small {n : Nat} (h : n < 18446744073709551616) : IntKind.u64.wrap (n : Int) = n := by rw [u64_wrap]; omega
theorem ofNat64 {a : Nat} (h : a < 18446744073709551616) : (BitVec.ofInt IntKind.u64.bits (a : Int)).toNat = a := by
  have hb : IntKind.u64.bits = 64 := rfl
  rw [hb, ofInt_nat _ (by omega) (by omega)]; rfl
theorem or_add {k u y : Nat} (hu : u < 128 ^ k) : u ||| (y * 128 ^ k) = u + y * 128 ^ k := by
  rw [show (128 : Nat) ^ k = 2 ^ (7 * k) by rw [Nat.pow_mul]] at *
  rw [Nat.or_comm, ← Nat.shiftLeft_eq, ← Nat.shiftLeft_add_eq_or_of_lt hu, Nat.add_comm]
theorem or_raw {k u y : Nat} (hu : u < 128 ^ k) (hs : u + y * 128 ^ k < 18446744073709551616) :
    IntKind.u64.wrap (((BitVec.ofInt IntKind.u64.bits (u : Int) ||| BitVec.ofInt IntKind.u64.bits ((y * 128 ^ k : Nat) : Int)).toNat : Nat) : Int) = ((u + y * 128 ^ k : Nat) : Int) := by
  rw [BitVec.toNat_or, ofNat64 (by omega), ofNat64 (by omega), or_add hu, u64_small (by omega)]

/-- The facts of a round. -/
theorem round {k u : Nat} {x : Int} (hu : u < 128 ^ k) (hk : k ≤ 8 ∨ (k = 9 ∧ x ≤ 1 ∧ 0 ≤ x)) : u + (x % 128).toNat * 128 ^ k < 18446744073709551616 ∧ u + (x % 128).toNat * 128 ^ k < 128 ^ (k + 1) := by
  have h1 : (x % 128).toNat ≤ 127 := by omega
  have h2 : (x % 128).toNat * 128 ^ k ≤ 127 * 128 ^ k := Nat.mul_le_mul_right _ h1
  rw [Nat.pow_succ]
  refine ⟨?_, by omega⟩
  rcases hk with hk | ⟨rfl, h, h'⟩
  · have : 128 ^ k ≤ 128 ^ 8 := Nat.pow_le_pow_right (by omega) hk
    omega
  · have : (x % 128).toNat ≤ 1 := by omega
    have h2 : (x % 128).toNat * 128 ^ 9 ≤ 1 * 128 ^ 9 := Nat.mul_le_mul_right _ this
    omega

theorem st_Get (ev : FuncId → List DV → Heap → Res DV) (v0 v1 v2 v3 x4 x5 x6 x7 x11 x12 : DV) (b : List Int) (mb : Mode) (k u : Nat) (x : Int) (hk : k ≤ 8) (hl : b.length ≤ 100000) (hkl : k < b.length) (hx : b[k]? = some x) (h128 : ¬ x < 128) (hx2 : x < 256) (hu : u < 128 ^ k) :
    ∃ y4 y5 y6 y7, evalC ev NN ir18_l0 ⟨[v0, v1, v2, v3, x4, x5, x6, x7, I k, I b.length, .sl mb 1 (u8s b), x11, x12, W64 u], [], h⟩ =
      .norm ⟨[v0, v1, v2, v3, y4, y5, y6, y7, I (k + 1 : Nat), I b.length, .sl mb 1 (u8s b), I k, U x, W64 ((u + (x % 128).toNat * 128 ^ k : Nat) : Int)], [], h⟩ := by
  refine ⟨B true, B false, B false, x7, ?_⟩
  have hlt' : (k : Int) < (b.length : Int) := by omega
  have h9 : ¬ (k : Int) = 9 := by omega
  have h9' : ¬ k = 9 := by omega
  have hg : ¬ (9 : Int) < (k : Int) := by omega
  have hg' : ¬ 9 < k := by omega
  obtain ⟨r1, r2⟩ := round (x := x) hu (.inl hk)
  have a0 := and127 x
  have a1 := u64_small (n := (x % 128).toNat) (by omega)
  have a2 := w7 (k := k) (by omega)
  have a3 : ¬ ((7 * k : Nat) : Int) < 0 := by omega
  have a4 := p7 (k := k) (by omega)
  have a5 : ((x % 128).toNat : Int) * ((128 ^ k : Nat) : Int) = (((x % 128).toNat * 128 ^ k : Nat) : Int) := by norm_cast
  have a6 := u64_small (n := (x % 128).toNat * 128 ^ k) (by omega)
  have a7 := or_raw hu r1
  generalize (x % 128).toNat = y at *
  generalize 128 ^ k = z at *
  simp -implicitDefEqProofs only [ir18_l0, hlt', hx, h9, hg, h128, hg', h9', a0, a1, a2, a3, a4, a5, a6, a7, wrap_succ (show k < 4611686018427387904 by omega), go_sem, Nat.reduceAdd, Nat.reduceMul, Nat.reduceSub, Nat.reduceLeDiff, Nat.reduceEqDiff, Nat.reduceBEq, Nat.reduceLT, Int.reduceLE, Int.reduceLT, Int.reduceEq, Int.reduceNeg, Int.reduceAdd, Int.reduceMul, Int.reduceSub, Int.reduceToNat, reduceCtorEq, reduceIte]

def QGet (o : Option (Nat × Nat)) (h : Heap) (v0 v1 v2 v3 : DV) : Ex → Prop
  | .exit i s => i = 0 ∧ o = none ∧ ∃ y4 y5 y6 y7 y8 y9 y10 y11 y12 y13, s = ⟨[v0, v1, v2, v3, y4, y5, y6, y7, y8, y9, y10, y11, y12, y13], [], h⟩
  | .ret s => ∃ u n, o = some (u, n) ∧ ∃ y4 y5 y6 y7 y8 y9 y10 y11 y12 y13, s = ⟨[v0, I (unzz u), I n, I 0, y4, y5, y6, y7, y8, y9, y10, y11, y12, y13], [], h⟩
  | _ => False

theorem loop_Get (ev : FuncId → List DV → Heap → Res DV) (v0 v1 v2 v3 : DV) (b : List Int) (mb : Mode) (hl : b.length ≤ 90000) (hb : ∀ x ∈ b, 0 ≤ x ∧ x < 256) : ∀ n k u, k ≤ b.length → b.length - k < n → k ≤ 9 → u < 128 ^ k → ∀ (x4 x5 x6 x7 x11 x12 : DV),
    QGet (getF k u (b.drop k)) h v0 v1 v2 v3 (iter (evalC ev NN ir18_l0) n ⟨[v0, v1, v2, v3, x4, x5, x6, x7, I k, I b.length, .sl mb 1 (u8s b), x11, x12, W64 u], [], h⟩) := by
  intro n
  induction n with
  | zero => intro k u _ h2; omega
  | succ n ih =>
    intro k u hk hn hk9 hu x4 x5 x6 x7 x11 x12
    by_cases hlt : k < b.length
    · have hx : b[k]? = some b[k] := List.getElem?_eq_getElem hlt
      have hd : b.drop k = b[k] :: b.drop (k + 1) := List.drop_eq_getElem_cons hlt
      obtain ⟨hx0, hx2⟩ := hb b[k] (List.getElem_mem hlt)
      rw [hd]
      generalize b[k] = x at *
      have hlt' : (k : Int) < (b.length : Int) := by omega
      have hg9 : ¬ (9 : Int) < (k : Int) := by omega
      by_cases hbad : k = 9 ∧ 1 < x
      · obtain ⟨h9, hx1⟩ := hbad
        rw [getF, if_pos (.inl ⟨h9, hx1⟩)]
        subst h9
        have hlt9 : (9 : Int) < (b.length : Int) := by omega
        have cc : ((9 : Nat) : Int) = 9 := rfl
        simp -implicitDefEqProofs only [iter, ir18_l0, cc, hlt9, hx, hx1, go_sem, Nat.reduceAdd, Nat.reduceMul, Nat.reduceSub, Nat.reduceLeDiff, Nat.reduceEqDiff, Nat.reduceBEq, Nat.reduceLT, Int.reduceLE, Int.reduceLT, Int.reduceEq, Int.reduceNeg, Int.reduceAdd, Int.reduceMul, Int.reduceSub, Int.reduceToNat, reduceCtorEq, reduceIte]
        exact ⟨rfl, rfl, _, _, _, _, _, _, _, _, _, _, rfl⟩
      by_cases h128 : x < 128
      · have hk' : k ≤ 8 ∨ (k = 9 ∧ x ≤ 1 ∧ 0 ≤ x) := by omega
        obtain ⟨r1, r2⟩ := round (x := x) hu hk'
        have a0 := and127 x
        have a1 := u64_small (n := (x % 128).toNat) (by omega)
        have a2 := w7 (k := k) (by omega)
        have a3 : ¬ ((7 * k : Nat) : Int) < 0 := by omega
        have a4 := p7 (k := k) (by omega)
        have a5 : ((x % 128).toNat : Int) * ((128 ^ k : Nat) : Int) = (((x % 128).toNat * 128 ^ k : Nat) : Int) := by norm_cast
        have a6 := u64_small (n := (x % 128).toNat * 128 ^ k) (by omega)
        have a7 := or_raw hu r1
        have uz := unzz_raw r1
        rw [getF, if_neg (by omega), if_pos h128]
        generalize (x % 128).toNat = y at *
        generalize 128 ^ k = z at *
        by_cases h9 : k = 9
        · subst h9
          have hlt9 : (9 : Int) < (b.length : Int) := by omega
          have cc : ((9 : Nat) : Int) = 9 := rfl
          have h1 : ¬ (1 : Int) < x := by omega
          have b2 : IntKind.i64.wrap 63 = ((7 * 9 : Nat) : Int) := by decide
          have b2' : IntKind.i64.wrap (7 * 9) = ((7 * 9 : Nat) : Int) := by decide
          by_cases h0 : x = 0
          · rw [if_pos ⟨h0, by omega⟩]
            subst h0
            simp -implicitDefEqProofs only [iter, ir18_l0, cc, hlt9, hx, h1, h128, a0, a1, b2, b2', a3, a4, a5, a6, a7, go_sem, Nat.reduceAdd, Nat.reduceMul, Nat.reduceSub, Nat.reduceLeDiff, Nat.reduceEqDiff, Nat.reduceBEq, Nat.reduceLT, Int.reduceLE, Int.reduceLT, Int.reduceEq, Int.reduceNeg, Int.reduceAdd, Int.reduceMul, Int.reduceSub, Int.reduceToNat, reduceCtorEq, reduceIte]
            exact ⟨rfl, rfl, _, _, _, _, _, _, _, _, _, _, rfl⟩
          · rw [if_neg (by omega)]
            simp -implicitDefEqProofs only [iter, ir18_l0, cc, hlt9, hx, h1, h128, h0, a0, a1, b2, b2', a3, a4, a5, a6, a7, uz, show IntKind.i64.wrap 10 = 10 by decide, go_sem, Nat.reduceAdd, Nat.reduceMul, Nat.reduceSub, Nat.reduceLeDiff, Nat.reduceEqDiff, Nat.reduceBEq, Nat.reduceLT, Int.reduceLE, Int.reduceLT, Int.reduceEq, Int.reduceNeg, Int.reduceAdd, Int.reduceMul, Int.reduceSub, Int.reduceToNat, reduceCtorEq, reduceIte]
            exact ⟨_, _, rfl, _, _, _, _, _, _, _, _, _, _, rfl⟩
        · have h9' : ¬ (k : Int) = 9 := by omega
          have uk := wrap_succ (show k < 4611686018427387904 by omega)
          by_cases h0 : x = 0
          · subst h0
            by_cases hk0 : 0 < k
            · have hk0' : (0 : Int) < (k : Int) := by omega
              rw [if_pos ⟨rfl, hk0⟩]
              simp -implicitDefEqProofs only [iter, ir18_l0, hlt', hx, h9', hg9, h128, hk0, hk0', a0, a1, a2, a3, a4, a5, a6, a7, go_sem, Nat.reduceAdd, Nat.reduceMul, Nat.reduceSub, Nat.reduceLeDiff, Nat.reduceEqDiff, Nat.reduceBEq, Nat.reduceLT, Int.reduceLE, Int.reduceLT, Int.reduceEq, Int.reduceNeg, Int.reduceAdd, Int.reduceMul, Int.reduceSub, Int.reduceToNat, reduceCtorEq, reduceIte]
              exact ⟨rfl, rfl, _, _, _, _, _, _, _, _, _, _, rfl⟩
            · have hk0' : ¬ (0 : Int) < (k : Int) := by omega
              rw [if_neg (by omega)]
              simp -implicitDefEqProofs only [iter, ir18_l0, hlt', hx, h9', hg9, h128, hk0, hk0', a0, a1, a2, a3, a4, a5, a6, a7, uz, uk, go_sem, Nat.reduceAdd, Nat.reduceMul, Nat.reduceSub, Nat.reduceLeDiff, Nat.reduceEqDiff, Nat.reduceBEq, Nat.reduceLT, Int.reduceLE, Int.reduceLT, Int.reduceEq, Int.reduceNeg, Int.reduceAdd, Int.reduceMul, Int.reduceSub, Int.reduceToNat, reduceCtorEq, reduceIte]
              exact ⟨_, _, rfl, _, _, _, _, _, _, _, _, _, _, rfl⟩
          · rw [if_neg (by omega)]
            simp -implicitDefEqProofs only [iter, ir18_l0, hlt', hx, h9', hg9, h128, h0, a0, a1, a2, a3, a4, a5, a6, a7, uz, uk, go_sem, Nat.reduceAdd, Nat.reduceMul, Nat.reduceSub, Nat.reduceLeDiff, Nat.reduceEqDiff, Nat.reduceBEq, Nat.reduceLT, Int.reduceLE, Int.reduceLT, Int.reduceEq, Int.reduceNeg, Int.reduceAdd, Int.reduceMul, Int.reduceSub, Int.reduceToNat, reduceCtorEq, reduceIte]
            exact ⟨_, _, rfl, _, _, _, _, _, _, _, _, _, _, rfl⟩
      · by_cases h8 : k ≤ 8
        · obtain ⟨y4, y5, y6, y7, st⟩ := st_Get (h := h) ev v0 v1 v2 v3 x4 x5 x6 x7 x11 x12 b mb k u x h8 (by omega) hlt hx h128 hx2 hu
          have e := ih (k + 1) _ (by omega) (by omega) (by omega) (round (x := x) hu (.inl h8)).2 y4 y5 y6 y7 (I k) (U x)
          have hg : getF k u (x :: b.drop (k + 1)) = getF (k + 1) (u + (x % 128).toNat * 128 ^ k) (b.drop (k + 1)) := by
            rw [getF, if_neg (by omega), if_neg h128]
          rw [hg]
          refine cast (congrArg _ ?_) e
          rw [iter, st]
        · have hk9' : k = 9 := by omega
          omega
    · have hka : k = b.length := by omega
      subst hka
      have hlt' : ¬ ((b.length : Nat) : Int) < (b.length : Int) := by omega
      rw [List.drop_length]
      simp -implicitDefEqProofs only [iter, ir18_l0, hlt', go_sem, Nat.reduceAdd, Nat.reduceMul, Nat.reduceSub, Nat.reduceLeDiff, Nat.reduceEqDiff, Nat.reduceBEq, Nat.reduceLT, Int.reduceLE, Int.reduceLT, Int.reduceEq, Int.reduceNeg, Int.reduceAdd, Int.reduceMul, Int.reduceSub, Int.reduceToNat, reduceCtorEq, reduceIte]
      exact ⟨rfl, rfl, _, _, _, _, _, _, _, _, _, _, rfl⟩

/-- What is got of bytes. -/
def getV (b : List Int) : DV := match getF 0 0 b with
  | some (u, n) => .tup [I (unzz u), I n, I 0]
  | none => .tup [I 0, I 0, I 3]

theorem body_Get (ev : FuncId → List DV → Heap → Res DV) (b : List Int) (mb : Mode) (hl : b.length ≤ 90000) (hb : ∀ x ∈ b, 0 ≤ x ∧ x < 256) : evalF ev NN ir18 [.sl mb 1 (u8s b)] [] = .ok (getV b) [] := by
  have e := loop_Get (h := []) ev (.sl (vm mb) 1 (u8s b)) (I 0) (I 0) (I 0) b mb hl hb NN 0 0 (by omega) (by unfold NN; omega) (by omega) (by simp) .junk .junk .junk .junk .junk .junk
  simp only [List.drop_zero] at e
  simp -implicitDefEqProofs only [go_sem, Nat.reduceAdd, Nat.reduceMul, Nat.reduceSub, Nat.reduceLeDiff, Nat.reduceEqDiff, Nat.reduceBEq, Nat.reduceLT, Int.reduceLE, Int.reduceLT, Int.reduceEq, Int.reduceNeg, Int.reduceAdd, Int.reduceMul, Int.reduceSub, Int.reduceToNat, reduceCtorEq, reduceIte] at e
  simp -implicitDefEqProofs only [ir18, go_sem, Nat.reduceAdd, Nat.reduceMul, Nat.reduceSub, Nat.reduceLeDiff, Nat.reduceEqDiff, Nat.reduceBEq, Nat.reduceLT, Int.reduceLE, Int.reduceLT, Int.reduceEq, Int.reduceNeg, Int.reduceAdd, Int.reduceMul, Int.reduceSub, Int.reduceToNat, reduceCtorEq, reduceIte]
  revert e
  generalize iter _ _ _ = E
  intro e
  unfold getV
  cases E with
  | exit i s =>
    obtain ⟨rfl, ho, _, _, _, _, _, _, _, _, _, _, rfl⟩ := e
    rw [ho]
    simp -implicitDefEqProofs only [go_sem, Nat.reduceAdd, Nat.reduceMul, Nat.reduceSub, Nat.reduceLeDiff, Nat.reduceEqDiff, Nat.reduceBEq, Nat.reduceLT, Int.reduceLE, Int.reduceLT, Int.reduceEq, Int.reduceNeg, Int.reduceAdd, Int.reduceMul, Int.reduceSub, Int.reduceToNat, reduceCtorEq, reduceIte]
  | ret s =>
    obtain ⟨u, n, ho, _, _, _, _, _, _, _, _, _, _, rfl⟩ := e
    rw [ho]
    simp -implicitDefEqProofs only [go_sem, Nat.reduceAdd, Nat.reduceMul, Nat.reduceSub, Nat.reduceLeDiff, Nat.reduceEqDiff, Nat.reduceBEq, Nat.reduceLT, Int.reduceLE, Int.reduceLT, Int.reduceEq, Int.reduceNeg, Int.reduceAdd, Int.reduceMul, Int.reduceSub, Int.reduceToNat, reduceCtorEq, reduceIte]
  | norm s => exact e.elim
  | pan v h => exact e.elim
  | no => exact e.elim

theorem p_Get (b : List Int) (mb : Mode) (hl : b.length ≤ 90000) (hb : ∀ x ∈ b, 0 ≤ x ∧ x < 256) : callP (evalCall fns NN (d + 1)) 18 [.sl mb 1 (u8s b)] h = .ok (getV b) h := by
  have hv : ∀ h' : Heap, look h' (getV b) = getV b ∧ free (getV b) = true := by intro h'; unfold getV; split <;> exact ⟨rfl, rfl⟩
  have q := callP_of (ev := evalCall fns NN (d + 1)) (h := h) (f := 18) (args := [.sl mb 1 (u8s b)]) (v := getV b) (h' := []) (by simp -implicitDefEqProofs only [go_sem, Nat.reduceAdd, Nat.reduceMul, Nat.reduceSub, Nat.reduceLeDiff, Nat.reduceEqDiff, Nat.reduceBEq, Nat.reduceLT, Int.reduceLE, Int.reduceLT, Int.reduceEq, Int.reduceNeg, Int.reduceAdd, Int.reduceMul, Int.reduceSub, Int.reduceToNat, reduceCtorEq, reduceIte]) rfl (by rw [call_eq rfl]; exact body_Get _ b mb hl hb) (by rw [(hv []).1]; exact (hv []).2)
  rw [q, (hv []).1]
end Go.D.Wire
