/- Seals of 'wire', and the laws WireSums and WireSeals, in the evaluator. -/
import Derived.Test.YtfbpnbomcogkcaaQqWireH
import Derived.Test.YtfbpnbomcogkcaaQqWireI
set_option linter.unusedSimpArgs false
set_option linter.unusedVariables false
namespace Go.D.Wire
open Go.D
set_option maxRecDepth 10000
set_option maxHeartbeats 1000000
variable {d : Nat} {h : Heap}

/-- Bytes, sealed. -/
def sealV (b : List Int) : List Int := (put b.length ++ b) ++ put (sumV b)
theorem sealV_len (b : List Int) : (sealV b).length ≤ b.length + 20 := by
  have := put_len b.length
  have := put_len (sumV b)
  simp only [sealV, List.length_append]; omega
theorem sealV_bytes {b : List Int} (hb : ∀ x ∈ b, 0 ≤ x ∧ x < 256) : ∀ x ∈ sealV b, 0 ≤ x ∧ x < 256 := by
  intro x hx
  simp only [sealV, List.mem_append] at hx
  rcases hx with (hx | hx) | hx
  · exact put_bytes _ x hx
  · exact hb x hx
  · exact put_bytes _ x hx
theorem sumV_inI (b : List Int) : inI (sumV b) := by have := sumV_in b; exact ⟨by omega, by omega⟩
theorem len_inI {b : List Int} (h : b.length ≤ 90000) : inI (b.length : Int) := ⟨by omega, by omega⟩

theorem body_Seal (ev : FuncId → List DV → Heap → Res DV) (b : List Int) (mb : Mode) (hl : b.length ≤ 80000)
    (q1 : ∀ h n, inI n → callP ev 16 [I n] h = .ok (.sl .own 1 (u8s (put n))) h)
    (q2 : ∀ h m, callP ev 31 [.sl m 1 (u8s b)] h = .ok (I (sumV b)) h) :
    evalF ev NN ir33 [.sl mb 1 (u8s b)] [] = .ok (.sl .own 1 (u8s (sealV b))) [] := by
  have hp := put_len b.length
  have hp2 := put_len (sumV b)
  have p1 := fun h => q1 h _ (len_inI (b := b) (by omega))
  have p2 := fun h => q1 h _ (sumV_inI b)
  have hr : ((put b.length).length + b.length) * 2 ≤ room := by simp only [room]; omega
  have hr2 : ((put b.length ++ b).length + (put (sumV b)).length) * 2 ≤ room := by simp only [room, List.length_append]; omega
  simp -implicitDefEqProofs only [ir33, p1, p2, q2, hr, hr2, go_sem, Nat.reduceAdd, Nat.reduceMul, Nat.reduceSub, Nat.reduceLeDiff, Nat.reduceEqDiff, Nat.reduceBEq, Nat.reduceLT, Int.reduceLE, Int.reduceLT, Int.reduceEq, Int.reduceNeg, Int.reduceAdd, Int.reduceMul, Int.reduceSub, Int.reduceToNat, reduceCtorEq, reduceIte]
  rfl
theorem body_RSeal (ev : FuncId → List DV → Heap → Res DV) (b : List Int) (mb : Mode) (hl : b.length ≤ 80000)
    (q1 : ∀ h n, inI n → callP ev 17 [I n] h = .ok (.sl .own 1 (u8s (put n))) h)
    (q2 : ∀ h m, callP ev 32 [.sl m 1 (u8s b)] h = .ok (I (sumV b)) h) :
    evalF ev NN ir34 [.sl mb 1 (u8s b)] [] = .ok (.sl .own 1 (u8s (sealV b))) [] := by
  have hp := put_len b.length
  have hp2 := put_len (sumV b)
  have p1 := fun h => q1 h _ (len_inI (b := b) (by omega))
  have p2 := fun h => q1 h _ (sumV_inI b)
  have hr : ((put b.length).length + b.length) * 2 ≤ room := by simp only [room]; omega
  have hr2 : ((put b.length ++ b).length + (put (sumV b)).length) * 2 ≤ room := by simp only [room, List.length_append]; omega
  simp -implicitDefEqProofs only [ir34, p1, p2, q2, hr, hr2, go_sem, Nat.reduceAdd, Nat.reduceMul, Nat.reduceSub, Nat.reduceLeDiff, Nat.reduceEqDiff, Nat.reduceBEq, Nat.reduceLT, Int.reduceLE, Int.reduceLT, Int.reduceEq, Int.reduceNeg, Int.reduceAdd, Int.reduceMul, Int.reduceSub, Int.reduceToNat, reduceCtorEq, reduceIte]
  rfl
theorem p_Seal (b : List Int) (mb : Mode) (hl : b.length ≤ 80000) (hb : ∀ x ∈ b, 0 ≤ x ∧ x < 256) : callP (evalCall fns NN (d + 2)) 33 [.sl mb 1 (u8s b)] h = .ok (.sl .own 1 (u8s (sealV b))) h :=
  callP_of (v := .sl .own 1 (u8s (sealV b))) (h' := []) (by simp -implicitDefEqProofs only [go_sem, Nat.reduceAdd, Nat.reduceMul, Nat.reduceSub, Nat.reduceLeDiff, Nat.reduceEqDiff, Nat.reduceBEq, Nat.reduceLT, Int.reduceLE, Int.reduceLT, Int.reduceEq, Int.reduceNeg, Int.reduceAdd, Int.reduceMul, Int.reduceSub, Int.reduceToNat, reduceCtorEq, reduceIte]) rfl (by rw [call_eq rfl]; exact body_Seal _ b mb hl (fun h n hn => p_Put n hn.1 hn.2) (fun h m => p_Sum b m (by omega) hb)) (by simp -implicitDefEqProofs only [go_sem, Nat.reduceAdd, Nat.reduceMul, Nat.reduceSub, Nat.reduceLeDiff, Nat.reduceEqDiff, Nat.reduceBEq, Nat.reduceLT, Int.reduceLE, Int.reduceLT, Int.reduceEq, Int.reduceNeg, Int.reduceAdd, Int.reduceMul, Int.reduceSub, Int.reduceToNat, reduceCtorEq, reduceIte])
theorem p_RSeal (b : List Int) (mb : Mode) (hl : b.length ≤ 80000) (hb : ∀ x ∈ b, 0 ≤ x ∧ x < 256) : callP (evalCall fns NN (d + 3)) 34 [.sl mb 1 (u8s b)] h = .ok (.sl .own 1 (u8s (sealV b))) h :=
  callP_of (v := .sl .own 1 (u8s (sealV b))) (h' := []) (by simp -implicitDefEqProofs only [go_sem, Nat.reduceAdd, Nat.reduceMul, Nat.reduceSub, Nat.reduceLeDiff, Nat.reduceEqDiff, Nat.reduceBEq, Nat.reduceLT, Int.reduceLE, Int.reduceLT, Int.reduceEq, Int.reduceNeg, Int.reduceAdd, Int.reduceMul, Int.reduceSub, Int.reduceToNat, reduceCtorEq, reduceIte]) rfl (by rw [call_eq rfl]; exact body_RSeal _ b mb hl (fun h n hn => p_RPut n hn.1 hn.2) (fun h m => p_RSum b m (by omega) hb)) (by simp -implicitDefEqProofs only [go_sem, Nat.reduceAdd, Nat.reduceMul, Nat.reduceSub, Nat.reduceLeDiff, Nat.reduceEqDiff, Nat.reduceBEq, Nat.reduceLT, Int.reduceLE, Int.reduceLT, Int.reduceEq, Int.reduceNeg, Int.reduceAdd, Int.reduceMul, Int.reduceSub, Int.reduceToNat, reduceCtorEq, reduceIte])

/-- Nothing is opened. -/
def shut : DV := .tup [.sl .full 1 [], I 0, I 3]
/-- What bytes open as: what was sealed, and how many bytes it takes. -/
def openF (b : List Int) : Option (List Int × Nat) := match getF 0 0 b with
  | some (w, n) => if 0 ≤ unzz w ∧ unzz w ≤ b.length - n then
      (match getF 0 0 (b.drop (n + (unzz w).toNat)) with
      | some (w2, n2) => if unzz w2 = sumV ((b.drop n).take (unzz w).toNat) then some ((b.drop n).take (unzz w).toNat, n + (unzz w).toNat + n2) else none
      | none => none)
    else none
  | none => none
def openV (b : List Int) : DV := match openF b with
  | some (l, n) => .tup [.sl .view 1 (u8s l), I n, I 0]
  | none => shut

theorem sb_bst {l : List Int} (hb : ∀ x ∈ l, 0 ≤ x ∧ x < 256) : sb (bst l) = l := by
  unfold sb bst
  simp only [List.map_map]
  conv => rhs; rw [← List.map_id l]
  apply List.map_congr_left
  intro x hx
  have := hb x hx
  simp
  omega

theorem body_Open (ev : FuncId → List DV → Heap → Res DV) (b : List Int) (mb : Mode) (hl : b.length ≤ 90000) (hb : ∀ x ∈ b, 0 ≤ x ∧ x < 256)
    (q1 : ∀ h m, callP ev 20 [.sl m 1 (u8s b)] h = .ok (textV b) h)
    (q2 : ∀ h m k, callP ev 18 [.sl m 1 (u8s (b.drop k))] h = .ok (getV (b.drop k)) h)
    (q3 : ∀ h m (l : List Int), l.length ≤ 90000 → (∀ x ∈ l, 0 ≤ x ∧ x < 256) → callP ev 31 [.sl m 1 (u8s l)] h = .ok (I (sumV l)) h) : evalF ev NN ir29 [.sl mb 1 (u8s b)] [] = .ok (openV b) [] := by
  unfold openV openF shut
  unfold textV at q1
  cases hg : getF 0 0 b with
  | none =>
    simp only [hg] at q1
    simp -implicitDefEqProofs only [ir29, q1, go_sem, Nat.reduceAdd, Nat.reduceMul, Nat.reduceSub, Nat.reduceLeDiff, Nat.reduceEqDiff, Nat.reduceBEq, Nat.reduceLT, Int.reduceLE, Int.reduceLT, Int.reduceEq, Int.reduceNeg, Int.reduceAdd, Int.reduceMul, Int.reduceSub, Int.reduceToNat, reduceCtorEq, reduceIte]
  | some o =>
    obtain ⟨w, n⟩ := o
    simp only [hg] at q1
    obtain ⟨g1, g2, g3, g4, g5⟩ := get_dec hb hg
    dsimp only
    generalize unzz w = t at *
    by_cases h0 : 0 ≤ t ∧ t ≤ (b.length : Int) - (n : Int)
    · obtain ⟨t, rfl⟩ := Int.eq_ofNat_of_zero_le h0.1
      rw [if_pos h0]
      simp only [if_pos h0, Int.toNat_natCast] at q1 ⊢
      have hlb : ((b.drop n).take t).length ≤ 90000 := by rw [List.length_take, List.length_drop]; omega
      have hbb : ∀ x ∈ (b.drop n).take t, 0 ≤ x ∧ x < 256 := fun x hx => hb x (List.mem_of_mem_drop (List.mem_of_mem_take hx))
      have hsb := sb_bst hbb
      have p3 := fun h m => q3 h m _ hlb hbb
      have p2 := fun h m => q2 h m (n + t)
      have c0 : (n : Int) + (t : Int) = ((n + t : Nat) : Int) := by omega
      rw [c0] at q1
      have c1 : ((n + t : Nat) : Int) ≤ (b.length : Int) := by omega
      generalize (b.drop n).take t = l at *
      unfold getV at p2
      cases hg2 : getF 0 0 (b.drop (n + t)) with
      | none =>
        simp only [hg2] at p2
        simp -implicitDefEqProofs only [ir29, q1, p2, c1, go_sem, Nat.reduceAdd, Nat.reduceMul, Nat.reduceSub, Nat.reduceLeDiff, Nat.reduceEqDiff, Nat.reduceBEq, Nat.reduceLT, Int.reduceLE, Int.reduceLT, Int.reduceEq, Int.reduceNeg, Int.reduceAdd, Int.reduceMul, Int.reduceSub, Int.reduceToNat, reduceCtorEq, reduceIte]
      | some o2 =>
        obtain ⟨w2, n2⟩ := o2
        simp only [hg2] at p2
        obtain ⟨_, g22, _, _, _⟩ := get_dec (fun x hx => hb x (List.mem_of_mem_drop hx)) hg2
        rw [List.length_drop] at g22
        have wa : IntKind.i64.wrap (((n + t : Nat) : Int) + (n2 : Int)) = ((n + t + n2 : Nat) : Int) := by rw [wrap64_id (by omega) (by omega)]; omega
        dsimp only
        by_cases hs : unzz w2 = sumV l
        · rw [if_pos hs]
          rw [hs] at p2
          simp -implicitDefEqProofs only [ir29, q1, p2, p3, c1, hsb, wa, go_sem, Nat.reduceAdd, Nat.reduceMul, Nat.reduceSub, Nat.reduceLeDiff, Nat.reduceEqDiff, Nat.reduceBEq, Nat.reduceLT, Int.reduceLE, Int.reduceLT, Int.reduceEq, Int.reduceNeg, Int.reduceAdd, Int.reduceMul, Int.reduceSub, Int.reduceToNat, reduceCtorEq, reduceIte]
        · rw [if_neg hs]
          simp -implicitDefEqProofs only [ir29, q1, p2, p3, c1, hsb, hs, go_sem, Nat.reduceAdd, Nat.reduceMul, Nat.reduceSub, Nat.reduceLeDiff, Nat.reduceEqDiff, Nat.reduceBEq, Nat.reduceLT, Int.reduceLE, Int.reduceLT, Int.reduceEq, Int.reduceNeg, Int.reduceAdd, Int.reduceMul, Int.reduceSub, Int.reduceToNat, reduceCtorEq, reduceIte]
    · rw [if_neg h0]
      simp only [if_neg h0] at q1
      simp -implicitDefEqProofs only [ir29, q1, go_sem, Nat.reduceAdd, Nat.reduceMul, Nat.reduceSub, Nat.reduceLeDiff, Nat.reduceEqDiff, Nat.reduceBEq, Nat.reduceLT, Int.reduceLE, Int.reduceLT, Int.reduceEq, Int.reduceNeg, Int.reduceAdd, Int.reduceMul, Int.reduceSub, Int.reduceToNat, reduceCtorEq, reduceIte]

theorem openV_look (b : List Int) : ∀ h' : Heap, look h' (openV b) = openV b ∧ free (openV b) = true := by
  intro h'
  unfold openV shut
  split
  · exact ⟨rfl, by simp -implicitDefEqProofs only [go_sem, Nat.reduceAdd, Nat.reduceMul, Nat.reduceSub, Nat.reduceLeDiff, Nat.reduceEqDiff, Nat.reduceBEq, Nat.reduceLT, Int.reduceLE, Int.reduceLT, Int.reduceEq, Int.reduceNeg, Int.reduceAdd, Int.reduceMul, Int.reduceSub, Int.reduceToNat, reduceCtorEq, reduceIte]⟩
  · exact ⟨rfl, rfl⟩
theorem p_Open (b : List Int) (mb : Mode) (hl : b.length ≤ 90000) (hb : ∀ x ∈ b, 0 ≤ x ∧ x < 256) : callP (evalCall fns NN (d + 3)) 29 [.sl mb 1 (u8s b)] h = .ok (openV b) h := by
  have hv := openV_look b
  have q := callP_of (ev := evalCall fns NN (d + 3)) (h := h) (f := 29) (args := [.sl mb 1 (u8s b)]) (v := openV b) (h' := []) (by simp -implicitDefEqProofs only [go_sem, Nat.reduceAdd, Nat.reduceMul, Nat.reduceSub, Nat.reduceLeDiff, Nat.reduceEqDiff, Nat.reduceBEq, Nat.reduceLT, Int.reduceLE, Int.reduceLT, Int.reduceEq, Int.reduceNeg, Int.reduceAdd, Int.reduceMul, Int.reduceSub, Int.reduceToNat, reduceCtorEq, reduceIte]) rfl
    (by rw [call_eq rfl]; exact body_Open _ b mb hl hb (fun h m => p_GetText b m hl hb) (fun h m k => p_Get (d := d + 1) _ m (by rw [List.length_drop]; omega) (fun x hx => hb x (List.mem_of_mem_drop hx))) (fun h m l hl hb => p_Sum (d := d + 1) l m hl hb))
    (by rw [(hv []).1]; exact (hv []).2)
  rw [q, (hv []).1]

theorem body_ROpen (ev : FuncId → List DV → Heap → Res DV) (b : List Int) (mb : Mode) (hl : b.length ≤ 90000) (hb : ∀ x ∈ b, 0 ≤ x ∧ x < 256)
    (q1 : ∀ h m, callP ev 19 [.sl m 1 (u8s b)] h = .ok (getV b) h)
    (q2 : ∀ h m k, callP ev 19 [.sl m 1 (u8s (b.drop k))] h = .ok (getV (b.drop k)) h)
    (q3 : ∀ h m (l : List Int), l.length ≤ 90000 → (∀ x ∈ l, 0 ≤ x ∧ x < 256) → callP ev 32 [.sl m 1 (u8s l)] h = .ok (I (sumV l)) h) : evalF ev NN ir30 [.sl mb 1 (u8s b)] [] = .ok (openV b) [] := by
  unfold openV openF shut
  unfold getV at q1
  cases hg : getF 0 0 b with
  | none =>
    simp only [hg] at q1
    simp -implicitDefEqProofs only [ir30, q1, go_sem, Nat.reduceAdd, Nat.reduceMul, Nat.reduceSub, Nat.reduceLeDiff, Nat.reduceEqDiff, Nat.reduceBEq, Nat.reduceLT, Int.reduceLE, Int.reduceLT, Int.reduceEq, Int.reduceNeg, Int.reduceAdd, Int.reduceMul, Int.reduceSub, Int.reduceToNat, reduceCtorEq, reduceIte]
  | some o =>
    obtain ⟨w, n⟩ := o
    simp only [hg] at q1
    obtain ⟨g1, g2, g3, g4, g5⟩ := get_dec hb hg
    dsimp only
    generalize unzz w = t at *
    have ws : IntKind.i64.wrap ((b.length : Int) - (n : Int)) = (b.length : Int) - (n : Int) := wrap64_id (by omega) (by omega)
    by_cases h0 : 0 ≤ t
    · obtain ⟨t, rfl⟩ := Int.eq_ofNat_of_zero_le h0
      have h0' : ¬ (t : Int) < 0 := by omega
      by_cases h1 : (t : Int) ≤ (b.length : Int) - (n : Int)
      · have h1' : ¬ (b.length : Int) - (n : Int) < (t : Int) := by omega
        rw [if_pos ⟨h0, h1⟩]
        simp only [Int.toNat_natCast]
        have hlb : ((b.drop n).take t).length ≤ 90000 := by rw [List.length_take, List.length_drop]; omega
        have hbb : ∀ x ∈ (b.drop n).take t, 0 ≤ x ∧ x < 256 := fun x hx => hb x (List.mem_of_mem_drop (List.mem_of_mem_take hx))
        have p3 := fun h m => q3 h m _ hlb hbb
        have p2 := fun h m => q2 h m (n + t)
        have wa : IntKind.i64.wrap ((n : Int) + (t : Int)) = ((n + t : Nat) : Int) := by rw [wrap64_id (by omega) (by omega)]; omega
        have c1 : ((n + t : Nat) : Int) ≤ (b.length : Int) := by omega
        have c2 : (n : Int) ≤ ((n + t : Nat) : Int) := by omega
        have c3 : n + t - n = t := by omega
        generalize hl' : (b.drop n).take t = l at *
        unfold getV at p2
        cases hg2 : getF 0 0 (b.drop (n + t)) with
        | none =>
          simp only [hg2] at p2
          simp -implicitDefEqProofs only [ir30, q1, p2, c1, ws, wa, h0', h1', go_sem, Nat.reduceAdd, Nat.reduceMul, Nat.reduceSub, Nat.reduceLeDiff, Nat.reduceEqDiff, Nat.reduceBEq, Nat.reduceLT, Int.reduceLE, Int.reduceLT, Int.reduceEq, Int.reduceNeg, Int.reduceAdd, Int.reduceMul, Int.reduceSub, Int.reduceToNat, reduceCtorEq, reduceIte]
        | some o2 =>
          obtain ⟨w2, n2⟩ := o2
          simp only [hg2] at p2
          obtain ⟨_, g22, _, _, _⟩ := get_dec (fun x hx => hb x (List.mem_of_mem_drop hx)) hg2
          rw [List.length_drop] at g22
          have wb : IntKind.i64.wrap (((n + t : Nat) : Int) + (n2 : Int)) = ((n + t + n2 : Nat) : Int) := by rw [wrap64_id (by omega) (by omega)]; omega
          dsimp only
          by_cases hs : unzz w2 = sumV l
          · rw [if_pos hs]
            rw [hs] at p2
            simp -implicitDefEqProofs only [ir30, q1, p2, p3, c1, c2, c3, ws, wa, wb, h0', h1', hl', go_sem, Nat.reduceAdd, Nat.reduceMul, Nat.reduceSub, Nat.reduceLeDiff, Nat.reduceEqDiff, Nat.reduceBEq, Nat.reduceLT, Int.reduceLE, Int.reduceLT, Int.reduceEq, Int.reduceNeg, Int.reduceAdd, Int.reduceMul, Int.reduceSub, Int.reduceToNat, reduceCtorEq, reduceIte]
          · rw [if_neg hs]
            simp -implicitDefEqProofs only [ir30, q1, p2, p3, c1, c2, c3, ws, wa, h0', h1', hs, hl', go_sem, Nat.reduceAdd, Nat.reduceMul, Nat.reduceSub, Nat.reduceLeDiff, Nat.reduceEqDiff, Nat.reduceBEq, Nat.reduceLT, Int.reduceLE, Int.reduceLT, Int.reduceEq, Int.reduceNeg, Int.reduceAdd, Int.reduceMul, Int.reduceSub, Int.reduceToNat, reduceCtorEq, reduceIte]
      · have h1' : (b.length : Int) - (n : Int) < (t : Int) := by omega
        rw [if_neg (by omega)]
        simp -implicitDefEqProofs only [ir30, q1, ws, h0', h1', go_sem, Nat.reduceAdd, Nat.reduceMul, Nat.reduceSub, Nat.reduceLeDiff, Nat.reduceEqDiff, Nat.reduceBEq, Nat.reduceLT, Int.reduceLE, Int.reduceLT, Int.reduceEq, Int.reduceNeg, Int.reduceAdd, Int.reduceMul, Int.reduceSub, Int.reduceToNat, reduceCtorEq, reduceIte]
    · have h0' : t < 0 := by omega
      rw [if_neg (by omega)]
      simp -implicitDefEqProofs only [ir30, q1, ws, h0', go_sem, Nat.reduceAdd, Nat.reduceMul, Nat.reduceSub, Nat.reduceLeDiff, Nat.reduceEqDiff, Nat.reduceBEq, Nat.reduceLT, Int.reduceLE, Int.reduceLT, Int.reduceEq, Int.reduceNeg, Int.reduceAdd, Int.reduceMul, Int.reduceSub, Int.reduceToNat, reduceCtorEq, reduceIte]
theorem p_ROpen (b : List Int) (mb : Mode) (hl : b.length ≤ 90000) (hb : ∀ x ∈ b, 0 ≤ x ∧ x < 256) : callP (evalCall fns NN (d + 4)) 30 [.sl mb 1 (u8s b)] h = .ok (openV b) h := by
  have hv := openV_look b
  have q := callP_of (ev := evalCall fns NN (d + 4)) (h := h) (f := 30) (args := [.sl mb 1 (u8s b)]) (v := openV b) (h' := []) (by simp -implicitDefEqProofs only [go_sem, Nat.reduceAdd, Nat.reduceMul, Nat.reduceSub, Nat.reduceLeDiff, Nat.reduceEqDiff, Nat.reduceBEq, Nat.reduceLT, Int.reduceLE, Int.reduceLT, Int.reduceEq, Int.reduceNeg, Int.reduceAdd, Int.reduceMul, Int.reduceSub, Int.reduceToNat, reduceCtorEq, reduceIte]) rfl
    (by rw [call_eq rfl]; exact body_ROpen _ b mb hl hb (fun h m => p_RGet b m hl hb) (fun h m k => p_RGet _ m (by rw [List.length_drop]; omega) (fun x hx => hb x (List.mem_of_mem_drop hx))) (fun h m l hl hb => p_RSum (d := d + 1) l m hl hb))
    (by rw [(hv []).1]; exact (hv []).2)
  rw [q, (hv []).1]

/-- What was sealed is opened. -/
theorem openF_seal {b : List Int} (hl : b.length ≤ 80000) (hb : ∀ x ∈ b, 0 ≤ x ∧ x < 256) (r : List Int) : openF (sealV b ++ r) = some (b, (sealV b).length) := by
  have e : sealV b ++ r = put b.length ++ (b ++ (put (sumV b) ++ r)) := by simp [sealV, List.append_assoc]
  have hlen : (sealV b).length = (put b.length).length + b.length + (put (sumV b)).length := by simp only [sealV, List.length_append]
  unfold openF
  rw [e, get_put (len_inI (by omega))]
  simp only [unzz_zz, Int.toNat_natCast]
  rw [if_pos ⟨by omega, by simp only [List.length_append]; omega⟩]
  rw [List.drop_left, List.take_left, ← List.drop_drop, List.drop_left, List.drop_left, get_put (sumV_inI b)]
  simp only [unzz_zz, if_pos, hlen]
/-- Of less nothing is. -/
theorem openF_short {b : List Int} (hl : b.length ≤ 80000) (hb : ∀ x ∈ b, 0 ≤ x ∧ x < 256) {k : Nat} (hk : k < (sealV b).length) : openF ((sealV b).take k) = none := by
  have hlen : (sealV b).length = (put b.length).length + b.length + (put (sumV b)).length := by simp only [sealV, List.length_append]
  have hin := len_inI (b := b) (by omega)
  have hsh : ∀ {n : Int}, inI n → ∀ j, j < (put n).length → getF 0 0 ((put n).take j) = none := by
    intro n hn j hj
    have g := get_put hn []
    rw [List.append_nil] at g
    obtain ⟨_, _, _, _, h5⟩ := get_dec (put_bytes n) g
    have := h5 j hj
    unfold getV at this
    cases hh : getF 0 0 ((put n).take j) with
    | none => rfl
    | some o => obtain ⟨u, m⟩ := o; rw [hh] at this; simp at this
  unfold openF
  by_cases h1 : k < (put b.length).length
  · have e : (sealV b).take k = (put b.length).take k := by
      rw [sealV, List.append_assoc, List.take_append_of_le_length (by omega)]
    rw [e, hsh hin k h1]
  · obtain ⟨j, rfl⟩ : ∃ j, k = (put b.length).length + j := ⟨k - (put b.length).length, by omega⟩
    have e : (sealV b).take ((put b.length).length + j) = put b.length ++ (b ++ put (sumV b)).take j := by
      rw [sealV, List.append_assoc, List.take_append, List.take_of_length_le (by omega)]
      congr 2; omega
    rw [e, get_put hin]
    simp only [unzz_zz, Int.toNat_natCast]
    by_cases h2 : j < b.length
    · rw [if_neg (by simp only [List.length_append, List.length_take]; omega)]
    · obtain ⟨i, rfl⟩ : ∃ i, j = b.length + i := ⟨j - b.length, by omega⟩
      have e2 : (b ++ put (sumV b)).take (b.length + i) = b ++ (put (sumV b)).take i := by
        rw [List.take_append, List.take_of_length_le (by omega)]
        congr 2; omega
      rw [e2, if_pos ⟨by omega, by simp only [List.length_append, List.length_take]; omega⟩]
      rw [← List.drop_drop, List.drop_left, List.drop_left, hsh (sumV_inI b) i (by omega)]
end Go.D.Wire
