/- Sums of 'wire', in the evaluator. -/
import Derived.Test.YtfbpnbomcogkcaaQqWireG
set_option linter.unusedSimpArgs false
set_option linter.unusedVariables false
namespace Go.D.Wire
open Go.D
set_option maxRecDepth 10000
set_option maxHeartbeats 1000000
variable {d : Nat} {h : Heap}

/-- The two sums of bytes. -/
def sumF : Int → Int → List Int → Int × Int
  | x, y, [] => (x, y)
  | x, y, c :: r => sumF ((x + c) % 65521) ((y + (x + c) % 65521) % 65521) r

def QSum (h : Heap) (v0 v1 : DV) (o : Int × Int) : Ex → Prop
  | .exit i s => i = 0 ∧ ∃ y2 y3 y4 y5 y7, s = ⟨[v0, v1, y2, y3, y4, y5, I o.1, y7, I o.2], [], h⟩
  | _ => False

theorem tmod_pos {a : Int} (h : 0 ≤ a) : a.tmod 65521 = a % 65521 := Int.tmod_eq_emod_of_nonneg h

theorem loop_Sum (ev : FuncId → List DV → Heap → Res DV) (v0 v1 : DV) (b : List Int) (mb : Mode) (hl : b.length ≤ 90000) (hb : ∀ x ∈ b, 0 ≤ x ∧ x < 256) : ∀ n k, k ≤ b.length → b.length - k < n → ∀ (x y : Int) (x2 x7 : DV), 0 ≤ x → x < 65521 → 0 ≤ y → y < 65521 →
    QSum h v0 v1 (sumF x y (b.drop k)) (iter (evalC ev NN ir31_l0) n ⟨[v0, v1, x2, I k, I b.length, .sl mb 1 (u8s b), I x, x7, I y], [], h⟩) := by
  intro n
  induction n with
  | zero => intro k _ h2; omega
  | succ n ih =>
    intro k hk hn x y x2 x7 hx0 hx1 hy0 hy1
    by_cases hlt : k < b.length
    · have hx : b[k]? = some b[k] := List.getElem?_eq_getElem hlt
      have hd : b.drop k = b[k] :: b.drop (k + 1) := List.drop_eq_getElem_cons hlt
      obtain ⟨hc0, hc1⟩ := hb b[k] (List.getElem_mem hlt)
      rw [hd]
      generalize b[k] = c at *
      have hlt' : (k : Int) < (b.length : Int) := by omega
      have a0 : IntKind.i64.wrap c = c := wrap64_id (by omega) (by omega)
      have a1 : IntKind.i64.wrap (x + c) = x + c := wrap64_id (by omega) (by omega)
      have a2 := tmod_pos (a := x + c) (by omega)
      have a3 : IntKind.i64.wrap ((x + c) % 65521) = (x + c) % 65521 := wrap64_id (by omega) (by omega)
      have a4 : IntKind.i64.wrap (y + (x + c) % 65521) = y + (x + c) % 65521 := wrap64_id (by omega) (by omega)
      have a5 := tmod_pos (a := y + (x + c) % 65521) (by omega)
      have a6 : IntKind.i64.wrap ((y + (x + c) % 65521) % 65521) = (y + (x + c) % 65521) % 65521 := wrap64_id (by omega) (by omega)
      have e := ih (k + 1) (by omega) (by omega) ((x + c) % 65521) ((y + (x + c) % 65521) % 65521) (B true) (U c) (by omega) (by omega) (by omega) (by omega)
      rw [sumF]
      refine cast (congrArg _ ?_) e
      have st : evalC ev NN ir31_l0 ⟨[v0, v1, x2, I k, I b.length, .sl mb 1 (u8s b), I x, x7, I y], [], h⟩ = .norm ⟨[v0, v1, B true, I (k + 1 : Nat), I b.length, .sl mb 1 (u8s b), I ((x + c) % 65521), U c, I ((y + (x + c) % 65521) % 65521)], [], h⟩ := by
        simp -implicitDefEqProofs only [ir31_l0, hlt', hx, a0, a1, a2, a3, a4, a5, a6, wrap_succ (show k < 4611686018427387904 by omega), go_sem, Nat.reduceAdd, Nat.reduceMul, Nat.reduceSub, Nat.reduceLeDiff, Nat.reduceEqDiff, Nat.reduceBEq, Nat.reduceLT, Int.reduceLE, Int.reduceLT, Int.reduceEq, Int.reduceNeg, Int.reduceAdd, Int.reduceMul, Int.reduceSub, Int.reduceToNat, reduceCtorEq, reduceIte]
      rw [iter, st]
    · have hka : k = b.length := by omega
      subst hka
      have hlt' : ¬ ((b.length : Nat) : Int) < (b.length : Int) := by omega
      rw [List.drop_length]
      simp -implicitDefEqProofs only [iter, ir31_l0, hlt', go_sem, Nat.reduceAdd, Nat.reduceMul, Nat.reduceSub, Nat.reduceLeDiff, Nat.reduceEqDiff, Nat.reduceBEq, Nat.reduceLT, Int.reduceLE, Int.reduceLT, Int.reduceEq, Int.reduceNeg, Int.reduceAdd, Int.reduceMul, Int.reduceSub, Int.reduceToNat, reduceCtorEq, reduceIte]
      exact ⟨rfl, _, _, _, _, _, rfl⟩

theorem sum_raw {x y : Nat} (hx : x < 65536) (hy : y < 65536) : IntKind.i64.wrap (((BitVec.ofInt IntKind.i64.bits (IntKind.i64.wrap ((y : Int) * 2 ^ min 16 IntKind.i64.bits)) ||| BitVec.ofInt IntKind.i64.bits (x : Int)).toNat : Nat) : Int) = 65536 * (y : Int) + x := by
  have hb : IntKind.i64.bits = 64 := rfl
  have e : IntKind.i64.wrap ((y : Int) * 2 ^ min 16 64) = ((y * 2 ^ 16 : Nat) : Int) := by
    rw [show (min 16 64 : Nat) = 16 from rfl, wrap64_id (by omega) (by omega)]; omega
  rw [hb, e, BitVec.toNat_or, ofInt_nat _ (by omega) (by omega), ofInt_nat _ (by omega) (by omega), Int.toNat_natCast, Int.toNat_natCast,
    ← Nat.shiftLeft_eq, ← Nat.shiftLeft_add_eq_or_of_lt (by omega), Nat.shiftLeft_eq, wrap64_id (by omega) (by omega)]
  omega

/-- A sum of bytes. -/
def sumV (b : List Int) : Int := 65536 * (sumF 1 0 b).2 + (sumF 1 0 b).1

theorem sumF_bd : ∀ (b : List Int) (x y : Int), 0 ≤ x → x < 65521 → 0 ≤ y → y < 65521 → 0 ≤ (sumF x y b).1 ∧ (sumF x y b).1 < 65521 ∧ 0 ≤ (sumF x y b).2 ∧ (sumF x y b).2 < 65521
  | [], x, y, h1, h2, h3, h4 => ⟨h1, h2, h3, h4⟩
  | c :: r, x, y, h1, h2, h3, h4 => sumF_bd r _ _ (by omega) (by omega) (by omega) (by omega)
theorem sumV_in (b : List Int) : 0 ≤ sumV b ∧ sumV b < 4294967296 := by
  have := sumF_bd b 1 0 (by omega) (by omega) (by omega) (by omega)
  unfold sumV; omega

theorem body_Sum (ev : FuncId → List DV → Heap → Res DV) (b : List Int) (mb : Mode) (hl : b.length ≤ 90000) (hb : ∀ x ∈ b, 0 ≤ x ∧ x < 256) : evalF ev NN ir31 [.sl mb 1 (u8s b)] [] = .ok (I (sumV b)) [] := by
  have e := loop_Sum (h := []) ev (.sl (vm mb) 1 (u8s b)) (I 0) b mb hl hb NN 0 (by omega) (by unfold NN; omega) 1 0 .junk .junk (by omega) (by omega) (by omega) (by omega)
  simp only [List.drop_zero] at e
  simp -implicitDefEqProofs only [go_sem, Nat.reduceAdd, Nat.reduceMul, Nat.reduceSub, Nat.reduceLeDiff, Nat.reduceEqDiff, Nat.reduceBEq, Nat.reduceLT, Int.reduceLE, Int.reduceLT, Int.reduceEq, Int.reduceNeg, Int.reduceAdd, Int.reduceMul, Int.reduceSub, Int.reduceToNat, reduceCtorEq, reduceIte] at e
  simp -implicitDefEqProofs only [ir31, go_sem, Nat.reduceAdd, Nat.reduceMul, Nat.reduceSub, Nat.reduceLeDiff, Nat.reduceEqDiff, Nat.reduceBEq, Nat.reduceLT, Int.reduceLE, Int.reduceLT, Int.reduceEq, Int.reduceNeg, Int.reduceAdd, Int.reduceMul, Int.reduceSub, Int.reduceToNat, reduceCtorEq, reduceIte]
  revert e
  generalize iter _ _ _ = E
  intro e
  unfold sumV
  obtain ⟨b1, b2, b3, b4⟩ := sumF_bd b 1 0 (by omega) (by omega) (by omega) (by omega)
  generalize sumF 1 0 b = o at *
  obtain ⟨x, y⟩ := o
  dsimp only at *
  obtain ⟨x, rfl⟩ := Int.eq_ofNat_of_zero_le b1
  obtain ⟨y, rfl⟩ := Int.eq_ofNat_of_zero_le b3
  have q := sum_raw (x := x) (y := y) (by omega) (by omega)
  have q16 : ¬ (16 : Int) < 0 := by omega
  cases E with
  | exit i s =>
    obtain ⟨rfl, _, _, _, _, _, rfl⟩ := e
    simp -implicitDefEqProofs only [q16, go_sem, Nat.reduceAdd, Nat.reduceMul, Nat.reduceSub, Nat.reduceLeDiff, Nat.reduceEqDiff, Nat.reduceBEq, Nat.reduceLT, Int.reduceLE, Int.reduceLT, Int.reduceEq, Int.reduceNeg, Int.reduceAdd, Int.reduceMul, Int.reduceSub, Int.reduceToNat, reduceCtorEq, reduceIte]
    exact congrArg (fun z => Res.ok (I z) []) q
  | ret s => exact e.elim
  | norm s => exact e.elim
  | pan v h => exact e.elim
  | no => exact e.elim
theorem p_Sum (b : List Int) (mb : Mode) (hl : b.length ≤ 90000) (hb : ∀ x ∈ b, 0 ≤ x ∧ x < 256) : callP (evalCall fns NN (d + 1)) 31 [.sl mb 1 (u8s b)] h = .ok (I (sumV b)) h :=
  callP_of (v := I (sumV b)) (h' := []) (by simp -implicitDefEqProofs only [go_sem, Nat.reduceAdd, Nat.reduceMul, Nat.reduceSub, Nat.reduceLeDiff, Nat.reduceEqDiff, Nat.reduceBEq, Nat.reduceLT, Int.reduceLE, Int.reduceLT, Int.reduceEq, Int.reduceNeg, Int.reduceAdd, Int.reduceMul, Int.reduceSub, Int.reduceToNat, reduceCtorEq, reduceIte]) rfl (by rw [call_eq rfl]; exact body_Sum _ b mb hl hb) rfl

def QRSum (h : Heap) (o : Int × Int) : Ex → Prop
  | .exit i s => i = 0 ∧ ∃ y0 y1 y2 y3 y4, s = ⟨[y0, y1, y2, y3, y4, I o.1, I o.2], [], h⟩
  | _ => False

theorem loop_RSum (ev : FuncId → List DV → Heap → Res DV) (v1 v2 : DV) (b : List Int) (mb : Mode) (hl : b.length ≤ 90000) (hb : ∀ x ∈ b, 0 ≤ x ∧ x < 256) : ∀ n k, k ≤ b.length → b.length - k < n → ∀ (x y : Int) (x3 : DV), 0 ≤ x → x < 65521 → 0 ≤ y → y < 65521 →
    QRSum h (sumF x y (b.drop k)) (iter (evalC ev NN ir38_l0) n ⟨[.sl mb 1 (u8s b), v1, v2, x3, I k, I x, I y], [], h⟩) := by
  intro n
  induction n with
  | zero => intro k _ h2; omega
  | succ n ih =>
    intro k hk hn x y x3 hx0 hx1 hy0 hy1
    by_cases hlt : k < b.length
    · have hx : b[k]? = some b[k] := List.getElem?_eq_getElem hlt
      have hd : b.drop k = b[k] :: b.drop (k + 1) := List.drop_eq_getElem_cons hlt
      obtain ⟨hc0, hc1⟩ := hb b[k] (List.getElem_mem hlt)
      rw [hd]
      generalize b[k] = c at *
      have hlt' : (k : Int) < (b.length : Int) := by omega
      have a0 : IntKind.i64.wrap c = c := wrap64_id (by omega) (by omega)
      have a1 : IntKind.i64.wrap (x + c) = x + c := wrap64_id (by omega) (by omega)
      have a2 := tmod_pos (a := x + c) (by omega)
      have a4 : IntKind.i64.wrap (y + (x + c) % 65521) = y + (x + c) % 65521 := wrap64_id (by omega) (by omega)
      have a5 := tmod_pos (a := y + (x + c) % 65521) (by omega)
      have e := ih (k + 1) (by omega) (by omega) ((x + c) % 65521) ((y + (x + c) % 65521) % 65521) (B true) (by omega) (by omega) (by omega) (by omega)
      rw [sumF]
      refine cast (congrArg _ ?_) e
      have st : evalC ev NN ir38_l0 ⟨[.sl mb 1 (u8s b), v1, v2, x3, I k, I x, I y], [], h⟩ = .norm ⟨[.sl mb 1 (u8s b), v1, v2, B true, I (k + 1 : Nat), I ((x + c) % 65521), I ((y + (x + c) % 65521) % 65521)], [], h⟩ := by
        simp -implicitDefEqProofs only [ir38_l0, hlt', hx, a0, a1, a2, a4, a5, wrap_succ (show k < 4611686018427387904 by omega), go_sem, Nat.reduceAdd, Nat.reduceMul, Nat.reduceSub, Nat.reduceLeDiff, Nat.reduceEqDiff, Nat.reduceBEq, Nat.reduceLT, Int.reduceLE, Int.reduceLT, Int.reduceEq, Int.reduceNeg, Int.reduceAdd, Int.reduceMul, Int.reduceSub, Int.reduceToNat, reduceCtorEq, reduceIte]
      rw [iter, st]
    · have hka : k = b.length := by omega
      subst hka
      have hlt' : ¬ ((b.length : Nat) : Int) < (b.length : Int) := by omega
      rw [List.drop_length]
      simp -implicitDefEqProofs only [iter, ir38_l0, hlt', go_sem, Nat.reduceAdd, Nat.reduceMul, Nat.reduceSub, Nat.reduceLeDiff, Nat.reduceEqDiff, Nat.reduceBEq, Nat.reduceLT, Int.reduceLE, Int.reduceLT, Int.reduceEq, Int.reduceNeg, Int.reduceAdd, Int.reduceMul, Int.reduceSub, Int.reduceToNat, reduceCtorEq, reduceIte]
      exact ⟨rfl, _, _, _, _, _, rfl⟩

theorem body_sums (ev : FuncId → List DV → Heap → Res DV) (b : List Int) (mb : Mode) (hl : b.length ≤ 90000) (hb : ∀ x ∈ b, 0 ≤ x ∧ x < 256) : evalF ev NN ir38 [.sl mb 1 (u8s b)] [] = .ok (.tup [I (sumF 1 0 b).1, I (sumF 1 0 b).2]) [] := by
  have e := loop_RSum (h := []) ev (I 0) (I 0) b mb hl hb NN 0 (by omega) (by unfold NN; omega) 1 0 .junk (by omega) (by omega) (by omega) (by omega)
  simp only [List.drop_zero] at e
  simp -implicitDefEqProofs only [go_sem, Nat.reduceAdd, Nat.reduceMul, Nat.reduceSub, Nat.reduceLeDiff, Nat.reduceEqDiff, Nat.reduceBEq, Nat.reduceLT, Int.reduceLE, Int.reduceLT, Int.reduceEq, Int.reduceNeg, Int.reduceAdd, Int.reduceMul, Int.reduceSub, Int.reduceToNat, reduceCtorEq, reduceIte] at e
  simp -implicitDefEqProofs only [ir38, go_sem, Nat.reduceAdd, Nat.reduceMul, Nat.reduceSub, Nat.reduceLeDiff, Nat.reduceEqDiff, Nat.reduceBEq, Nat.reduceLT, Int.reduceLE, Int.reduceLT, Int.reduceEq, Int.reduceNeg, Int.reduceAdd, Int.reduceMul, Int.reduceSub, Int.reduceToNat, reduceCtorEq, reduceIte]
  revert e
  generalize iter _ _ _ = E
  intro e
  cases E with
  | exit i s =>
    obtain ⟨rfl, _, _, _, _, _, rfl⟩ := e
    simp -implicitDefEqProofs only [go_sem, Nat.reduceAdd, Nat.reduceMul, Nat.reduceSub, Nat.reduceLeDiff, Nat.reduceEqDiff, Nat.reduceBEq, Nat.reduceLT, Int.reduceLE, Int.reduceLT, Int.reduceEq, Int.reduceNeg, Int.reduceAdd, Int.reduceMul, Int.reduceSub, Int.reduceToNat, reduceCtorEq, reduceIte]
  | ret s => exact e.elim
  | norm s => exact e.elim
  | pan v h => exact e.elim
  | no => exact e.elim
theorem p_sums (b : List Int) (mb : Mode) (hl : b.length ≤ 90000) (hb : ∀ x ∈ b, 0 ≤ x ∧ x < 256) : callP (evalCall fns NN (d + 1)) 38 [.sl mb 1 (u8s b)] h = .ok (.tup [I (sumF 1 0 b).1, I (sumF 1 0 b).2]) h :=
  callP_of (v := .tup [I (sumF 1 0 b).1, I (sumF 1 0 b).2]) (h' := []) (by simp -implicitDefEqProofs only [go_sem, Nat.reduceAdd, Nat.reduceMul, Nat.reduceSub, Nat.reduceLeDiff, Nat.reduceEqDiff, Nat.reduceBEq, Nat.reduceLT, Int.reduceLE, Int.reduceLT, Int.reduceEq, Int.reduceNeg, Int.reduceAdd, Int.reduceMul, Int.reduceSub, Int.reduceToNat, reduceCtorEq, reduceIte]) rfl (by rw [call_eq rfl]; exact body_sums _ b mb hl hb) rfl
theorem body_RSum (ev : FuncId → List DV → Heap → Res DV) (b : List Int) (mb : Mode) 
    (q : ∀ h m, callP ev 38 [.sl m 1 (u8s b)] h = .ok (.tup [I (sumF 1 0 b).1, I (sumF 1 0 b).2]) h) : evalF ev NN ir32 [.sl mb 1 (u8s b)] [] = .ok (I (sumV b)) [] := by
  obtain ⟨b1, b2, b3, b4⟩ := sumF_bd b 1 0 (by omega) (by omega) (by omega) (by omega)
  unfold sumV
  generalize sumF 1 0 b = o at *
  have w1 : IntKind.i64.wrap (65536 * o.2) = 65536 * o.2 := wrap64_id (by omega) (by omega)
  have w2 : IntKind.i64.wrap (65536 * o.2 + o.1) = 65536 * o.2 + o.1 := wrap64_id (by omega) (by omega)
  simp -implicitDefEqProofs only [ir32, q, w1, w2, go_sem, Nat.reduceAdd, Nat.reduceMul, Nat.reduceSub, Nat.reduceLeDiff, Nat.reduceEqDiff, Nat.reduceBEq, Nat.reduceLT, Int.reduceLE, Int.reduceLT, Int.reduceEq, Int.reduceNeg, Int.reduceAdd, Int.reduceMul, Int.reduceSub, Int.reduceToNat, reduceCtorEq, reduceIte]
theorem p_RSum (b : List Int) (mb : Mode) (hl : b.length ≤ 90000) (hb : ∀ x ∈ b, 0 ≤ x ∧ x < 256) : callP (evalCall fns NN (d + 2)) 32 [.sl mb 1 (u8s b)] h = .ok (I (sumV b)) h :=
  callP_of (v := I (sumV b)) (h' := []) (by simp -implicitDefEqProofs only [go_sem, Nat.reduceAdd, Nat.reduceMul, Nat.reduceSub, Nat.reduceLeDiff, Nat.reduceEqDiff, Nat.reduceBEq, Nat.reduceLT, Int.reduceLE, Int.reduceLT, Int.reduceEq, Int.reduceNeg, Int.reduceAdd, Int.reduceMul, Int.reduceSub, Int.reduceToNat, reduceCtorEq, reduceIte]) rfl (by rw [call_eq rfl]; exact body_RSum _ b mb (fun h m => p_sums b m hl hb)) rfl
end Go.D.Wire
