/- The reference's rows of numbers, and what is got of rows. -/
import Derived.Test.YtfbpnbomcogkcaaQqWireM
set_option linter.unusedSimpArgs false
set_option linter.unusedVariables false
namespace Go.D.Wire
open Go.D
set_option maxRecDepth 10000
set_option maxHeartbeats 1000000
variable {d : Nat} {h : Heap}

theorem rowV_look (b : List Int) : ∀ h' : Heap, look h' (rowV b) = rowV b ∧ free (rowV b) = true := by
  intro h'
  unfold rowV
  split
  · exact ⟨rfl, by simp -implicitDefEqProofs only [go_sem, Nat.reduceAdd, Nat.reduceMul, Nat.reduceSub, Nat.reduceLeDiff, Nat.reduceEqDiff, Nat.reduceBEq, Nat.reduceLT, Int.reduceLE, Int.reduceLT, Int.reduceEq, Int.reduceNeg, Int.reduceAdd, Int.reduceMul, Int.reduceSub, Int.reduceToNat, reduceCtorEq, reduceIte]⟩
  · exact ⟨rfl, rfl⟩
theorem p_GetNums (b : List Int) (mb : Mode) (hl : b.length ≤ 90000) (hb : ∀ x ∈ b, 0 ≤ x ∧ x < 256) : callP (evalCall fns NN (d + 3)) 22 [.sl mb 1 (u8s b)] h = .ok (rowV b) h := by
  have g : ∀ a h m, callP (evalCall fns NN (d + 1)) 18 [.sl m 1 (u8s (b.drop a))] h = .ok (getV (b.drop a)) h := fun a h m =>
    p_Get _ m (by rw [List.length_drop]; omega) (fun x hx => hb x (List.mem_of_mem_drop hx))
  obtain ⟨h', e⟩ := body_GetNums (evalCall fns NN (d + 2)) b mb hl hb (fun m => p_reader b m)
    (fun m a ha hg => by rw [callP_ptr rfl, call_eq rfl]; exact body_next0 _ b m a ha hl (g a) hg)
    (fun m a w n ha hg => by rw [callP_ptr rfl, call_eq rfl]; exact body_next1 _ b m a w n ha hl (g a) hg)
    (fun m a => by rw [callP_ptr rfl, call_eq rfl]; exact body_upto _ _ a)
  have hv := rowV_look b
  have q := callP_of (ev := evalCall fns NN (d + 3)) (h := h) (f := 22) (args := [.sl mb 1 (u8s b)]) (v := rowV b) (h' := h') (by simp -implicitDefEqProofs only [go_sem, Nat.reduceAdd, Nat.reduceMul, Nat.reduceSub, Nat.reduceLeDiff, Nat.reduceEqDiff, Nat.reduceBEq, Nat.reduceLT, Int.reduceLE, Int.reduceLT, Int.reduceEq, Int.reduceNeg, Int.reduceAdd, Int.reduceMul, Int.reduceSub, Int.reduceToNat, reduceCtorEq, reduceIte]) rfl (by rw [call_eq rfl]; exact e) (by rw [(hv h').1]; exact (hv h').2)
  rw [q, (hv h').1]

def QRGN (b : List Int) (m : Mode) (h : Heap) (o : Option (List Int × Nat)) (acc : List Int) (v0 v1 v2 v3 v7 v8 : DV) : Ex → Prop
  | .exit i s => i = 0 ∧ ∃ l e, o = some (l, e) ∧ ∃ y4 y5 y6 y9 y11 y13 y14, s = ⟨[v0, v1, v2, v3, y4, y5, y6, v7, v8, y9, I e, y11, .sl (md (acc ++ l)) 1 (ints (acc ++ l)), y13, y14], [], h⟩
  | .ret s => o = none ∧ ∃ y4 y5 y6 y7 y8 y9 y10 y11 y12 y13 y14, s = ⟨[v0, .sl .full 1 [], I 0, I 3, y4, y5, y6, y7, y8, y9, y10, y11, y12, y13, y14], [], h⟩
  | _ => False
theorem QRGN_cons {b : List Int} {m : Mode} {o : Option (List Int × Nat)} {acc : List Int} {x : Int} {v0 v1 v2 v3 v7 v8 : DV} {E : Ex} (h' : QRGN b m h o (acc ++ [x]) v0 v1 v2 v3 v7 v8 E) :
    QRGN b m h (o.map fun p => (x :: p.1, p.2)) acc v0 v1 v2 v3 v7 v8 E := by
  cases E with
  | exit i s =>
    obtain ⟨rfl, l, e, rfl, y4, y5, y6, y9, y11, y13, y14, rfl⟩ := h'
    exact ⟨rfl, x :: l, e, rfl, y4, y5, y6, y9, y11, y13, y14, by simp only [List.append_assoc, List.cons_append, List.nil_append]⟩
  | ret s =>
    obtain ⟨rfl, h⟩ := h'
    exact ⟨rfl, h⟩
  | norm s => exact h'.elim
  | pan v h => exact h'.elim
  | no => exact h'.elim

theorem loop_RGN (ev : FuncId → List DV → Heap → Res DV) (v1 v2 v3 v7 : DV) (b : List Int) (m : Mode) (hl : b.length ≤ 90000) (hb : ∀ x ∈ b, 0 ≤ x ∧ x < 256)
    (q : ∀ h m a, callP ev 19 [.sl m 1 (u8s (b.drop a))] h = .ok (getV (b.drop a)) h) :
    ∀ n k j a, a ≤ b.length → b.length - a < n → ∀ (acc : List Int) (x4 x5 x6 x11 x13 x14 : DV), acc.length ≤ a → k ≤ a →
    QRGN b m h (rdF j a b) acc (.sl m 1 (u8s b)) v1 v2 v3 v7 (I (k + j : Nat))
      (iter (evalC ev NN ir23_l0) n ⟨[.sl m 1 (u8s b), v1, v2, v3, x4, x5, x6, v7, I (k + j : Nat), I k, I a, x11, .sl (md acc) 1 (ints acc), x13, x14], [], h⟩) := by
  intro n
  induction n with
  | zero => intro k j a _ h2; omega
  | succ n ih =>
    intro k j a ha hn acc x4 x5 x6 x11 x13 x14 hacc hka
    cases j with
    | zero =>
      have hlt' : ¬ (k : Int) < (k : Int) := by omega
      rw [rdF]
      simp -implicitDefEqProofs only [iter, ir23_l0, hlt', go_sem, Nat.reduceAdd, Nat.reduceMul, Nat.reduceSub, Nat.reduceLeDiff, Nat.reduceEqDiff, Nat.reduceBEq, Nat.reduceLT, Int.reduceLE, Int.reduceLT, Int.reduceEq, Int.reduceNeg, Int.reduceAdd, Int.reduceMul, Int.reduceSub, Int.reduceToNat, reduceCtorEq, reduceIte]
      exact ⟨rfl, [], a, rfl, _, _, _, _, _, _, _, by simp only [List.append_nil]; rfl⟩
    | succ j =>
      have hlt' : (k : Int) < ((k + (j + 1) : Nat) : Int) := by omega
      have hab : (a : Int) ≤ (b.length : Int) := by omega
      have p := fun h m => q h m a
      unfold getV at p
      rw [rdF]
      cases hg : getF 0 0 (b.drop a) with
      | none =>
        simp only [hg] at p
        simp -implicitDefEqProofs only [iter, ir23_l0, hlt', p, hab, go_sem, Nat.reduceAdd, Nat.reduceMul, Nat.reduceSub, Nat.reduceLeDiff, Nat.reduceEqDiff, Nat.reduceBEq, Nat.reduceLT, Int.reduceLE, Int.reduceLT, Int.reduceEq, Int.reduceNeg, Int.reduceAdd, Int.reduceMul, Int.reduceSub, Int.reduceToNat, reduceCtorEq, reduceIte]
        exact ⟨rfl, _, _, _, _, _, _, _, _, _, _, _, rfl⟩
      | some o =>
        obtain ⟨w, c⟩ := o
        simp only [hg] at p
        obtain ⟨g1, g2, g3⟩ := getF_bd hb hg
        have e := ih (k + 1) j (a + c) g2 (by omega) (acc ++ [unzz w]) x4 (B true) (B false) (I 0) (I (unzz w)) (I c) (by simp; omega) (by omega)
        rw [md_app] at e
        have hr : (acc.length + 1) * 9 ≤ room := by simp only [room]; omega
        have hr1 : 9 ≤ room := by decide
        have wa : IntKind.i64.wrap ((a : Int) + (c : Int)) = ((a + c : Nat) : Int) := by rw [wrap64_id (by omega) (by omega)]; omega
        have e2 : k + (j + 1) = k + 1 + j := by omega
        rw [e2] at hlt' ⊢
        have st : ∀ acc : List Int, (acc.length + 1) * 9 ≤ room → evalC ev NN ir23_l0 ⟨[.sl m 1 (u8s b), v1, v2, v3, x4, x5, x6, v7, I (k + 1 + j : Nat), I k, I a, x11, .sl (md acc) 1 (ints acc), x13, x14], [], h⟩ =
            .norm ⟨[.sl m 1 (u8s b), v1, v2, v3, x4, B true, B false, v7, I (k + 1 + j : Nat), I (k + 1 : Nat), I (a + c : Nat), I 0, .sl .own 1 (ints (acc ++ [unzz w])), I (unzz w), I c], [], h⟩ := by
          intro acc hr
          cases acc with
          | nil => simp -implicitDefEqProofs only [ir23_l0, md, hlt', p, hab, wa, hr1, wrap_succ (show k < 4611686018427387904 by omega), go_sem, Nat.reduceAdd, Nat.reduceMul, Nat.reduceSub, Nat.reduceLeDiff, Nat.reduceEqDiff, Nat.reduceBEq, Nat.reduceLT, Int.reduceLE, Int.reduceLT, Int.reduceEq, Int.reduceNeg, Int.reduceAdd, Int.reduceMul, Int.reduceSub, Int.reduceToNat, reduceCtorEq, reduceIte]
          | cons x acc =>
            simp only [List.length_cons] at hr
            simp -implicitDefEqProofs only [ir23_l0, md, hlt', p, hab, wa, hr, wrap_succ (show k < 4611686018427387904 by omega), go_sem, Nat.reduceAdd, Nat.reduceMul, Nat.reduceSub, Nat.reduceLeDiff, Nat.reduceEqDiff, Nat.reduceBEq, Nat.reduceLT, Int.reduceLE, Int.reduceLT, Int.reduceEq, Int.reduceNeg, Int.reduceAdd, Int.reduceMul, Int.reduceSub, Int.reduceToNat, reduceCtorEq, reduceIte]
        rw [iter, st acc hr]
        exact QRGN_cons e

theorem body_RGetNums (ev : FuncId → List DV → Heap → Res DV) (b : List Int) (mb : Mode) (hl : b.length ≤ 90000) (hb : ∀ x ∈ b, 0 ≤ x ∧ x < 256)
    (q0 : ∀ h m, callP ev 19 [.sl m 1 (u8s b)] h = .ok (getV b) h)
    (q : ∀ h m a, callP ev 19 [.sl m 1 (u8s (b.drop a))] h = .ok (getV (b.drop a)) h) :
    evalF ev NN ir23 [.sl mb 1 (u8s b)] [] = .ok (rowV b) [] := by
  unfold rowV numsF
  unfold getV at q0
  cases hg : getF 0 0 b with
  | none =>
    simp only [hg] at q0
    simp -implicitDefEqProofs only [ir23, q0, go_sem, Nat.reduceAdd, Nat.reduceMul, Nat.reduceSub, Nat.reduceLeDiff, Nat.reduceEqDiff, Nat.reduceBEq, Nat.reduceLT, Int.reduceLE, Int.reduceLT, Int.reduceEq, Int.reduceNeg, Int.reduceAdd, Int.reduceMul, Int.reduceSub, Int.reduceToNat, reduceCtorEq, reduceIte]
  | some o =>
    obtain ⟨w, n⟩ := o
    simp only [hg] at q0
    obtain ⟨g1, g2, g3⟩ := getF_bd (a := 0) hb (by simpa using hg)
    simp only [Nat.zero_add] at g2
    by_cases h0 : 0 ≤ unzz w
    · simp only [if_pos h0]
      generalize unzz w = t at *
      obtain ⟨t, rfl⟩ := Int.eq_ofNat_of_zero_le h0
      simp only [Int.toNat_natCast]
      have h0' : ¬ (t : Int) < 0 := by omega
      have e := loop_RGN (h := []) ev (.sl .full 1 []) (I 0) (I 0) (I 0) b mb hl hb q NN 0 t n (by omega) (by unfold NN; omega) [] (B false) .junk .junk .junk .junk .junk (by simp) (by omega)
      simp only [cast0, Nat.zero_add, md, List.nil_append] at e
      simp -implicitDefEqProofs only [ints, List.map_nil, go_sem, Nat.reduceAdd, Nat.reduceMul, Nat.reduceSub, Nat.reduceLeDiff, Nat.reduceEqDiff, Nat.reduceBEq, Nat.reduceLT, Int.reduceLE, Int.reduceLT, Int.reduceEq, Int.reduceNeg, Int.reduceAdd, Int.reduceMul, Int.reduceSub, Int.reduceToNat, reduceCtorEq, reduceIte] at e
      simp -implicitDefEqProofs only [ir23, q0, h0', go_sem, Nat.reduceAdd, Nat.reduceMul, Nat.reduceSub, Nat.reduceLeDiff, Nat.reduceEqDiff, Nat.reduceBEq, Nat.reduceLT, Int.reduceLE, Int.reduceLT, Int.reduceEq, Int.reduceNeg, Int.reduceAdd, Int.reduceMul, Int.reduceSub, Int.reduceToNat, reduceCtorEq, reduceIte]
      revert e
      generalize iter _ _ _ = E
      intro e
      cases E with
      | exit i s =>
        obtain ⟨rfl, l, e, ho, _, _, _, _, _, _, _, rfl⟩ := e
        rw [ho]
        simp -implicitDefEqProofs only [go_sem, Nat.reduceAdd, Nat.reduceMul, Nat.reduceSub, Nat.reduceLeDiff, Nat.reduceEqDiff, Nat.reduceBEq, Nat.reduceLT, Int.reduceLE, Int.reduceLT, Int.reduceEq, Int.reduceNeg, Int.reduceAdd, Int.reduceMul, Int.reduceSub, Int.reduceToNat, reduceCtorEq, reduceIte]
      | ret s =>
        obtain ⟨ho, _, _, _, _, _, _, _, _, _, _, _, rfl⟩ := e
        rw [ho]
        simp -implicitDefEqProofs only [go_sem, Nat.reduceAdd, Nat.reduceMul, Nat.reduceSub, Nat.reduceLeDiff, Nat.reduceEqDiff, Nat.reduceBEq, Nat.reduceLT, Int.reduceLE, Int.reduceLT, Int.reduceEq, Int.reduceNeg, Int.reduceAdd, Int.reduceMul, Int.reduceSub, Int.reduceToNat, reduceCtorEq, reduceIte]
      | norm s => exact e.elim
      | pan v h => exact e.elim
      | no => exact e.elim
    · have h0' : unzz w < 0 := by omega
      simp only [if_neg h0]
      simp -implicitDefEqProofs only [ir23, q0, h0', go_sem, Nat.reduceAdd, Nat.reduceMul, Nat.reduceSub, Nat.reduceLeDiff, Nat.reduceEqDiff, Nat.reduceBEq, Nat.reduceLT, Int.reduceLE, Int.reduceLT, Int.reduceEq, Int.reduceNeg, Int.reduceAdd, Int.reduceMul, Int.reduceSub, Int.reduceToNat, reduceCtorEq, reduceIte]
theorem p_RGetNums (b : List Int) (mb : Mode) (hl : b.length ≤ 90000) (hb : ∀ x ∈ b, 0 ≤ x ∧ x < 256) : callP (evalCall fns NN (d + 4)) 23 [.sl mb 1 (u8s b)] h = .ok (rowV b) h := by
  have hv := rowV_look b
  have q := callP_of (ev := evalCall fns NN (d + 4)) (h := h) (f := 23) (args := [.sl mb 1 (u8s b)]) (v := rowV b) (h' := []) (by simp -implicitDefEqProofs only [go_sem, Nat.reduceAdd, Nat.reduceMul, Nat.reduceSub, Nat.reduceLeDiff, Nat.reduceEqDiff, Nat.reduceBEq, Nat.reduceLT, Int.reduceLE, Int.reduceLT, Int.reduceEq, Int.reduceNeg, Int.reduceAdd, Int.reduceMul, Int.reduceSub, Int.reduceToNat, reduceCtorEq, reduceIte]) rfl
    (by rw [call_eq rfl]; exact body_RGetNums _ b mb hl hb (fun h m => p_RGet b m hl hb) (fun h m k => p_RGet _ m (by rw [List.length_drop]; omega) (fun x hx => hb x (List.mem_of_mem_drop hx))))
    (by rw [(hv []).1]; exact (hv []).2)
  rw [q, (hv []).1]

/-- What was put is got. -/
theorem rdF_flat : ∀ (l : List Int), (∀ x ∈ l, inI x) → ∀ (pre r : List Int), rdF l.length pre.length (pre ++ (flatL l ++ r)) = some (l, (pre ++ flatL l).length)
  | [], _, pre, r => by simp [rdF, flatL]
  | n :: l, hin, pre, r => by
    have hn := hin n (by simp)
    have e : pre ++ (flatL (n :: l) ++ r) = (pre ++ put n) ++ (flatL l ++ r) := by simp [flatL]
    have ih := rdF_flat l (fun x hx => hin x (by simp [hx])) (pre ++ put n) r
    have g : getF 0 0 ((pre ++ (flatL (n :: l) ++ r)).drop pre.length) = some ((zz n).toNat, (put n).length) := by
      rw [List.drop_left, show flatL (n :: l) ++ r = put n ++ (flatL l ++ r) by simp [flatL], get_put hn]
    rw [List.length_cons, rdF, g]
    dsimp only
    rw [unzz_zz, e, ← List.length_append, ih]
    simp [flatL, Nat.add_assoc]
theorem get_short {n : Int} (hn : inI n) {j : Nat} (hj : j < (put n).length) : getF 0 0 ((put n).take j) = none := by
  have g := get_put hn []
  rw [List.append_nil] at g
  obtain ⟨_, _, _, _, h5⟩ := get_dec (put_bytes n) g
  have := h5 j hj
  unfold getV at this
  cases hh : getF 0 0 ((put n).take j) with
  | none => rfl
  | some o => obtain ⟨u, m⟩ := o; rw [hh] at this; simp at this
theorem rdF_short : ∀ (l : List Int), (∀ x ∈ l, inI x) → ∀ (pre : List Int) (j : Nat), j < (flatL l).length → rdF l.length pre.length (pre ++ (flatL l).take j) = none
  | [], _, pre, j, h => by simp [flatL] at h
  | n :: l, hin, pre, j, h => by
    have hn := hin n (by simp)
    have ef : flatL (n :: l) = put n ++ flatL l := by simp [flatL]
    rw [ef] at h ⊢
    rw [List.length_append] at h
    rw [List.length_cons, rdF, List.drop_left]
    by_cases h1 : j < (put n).length
    · rw [List.take_append_of_le_length (by omega), get_short hn h1]
    · have e : (put n ++ flatL l).take j = put n ++ (flatL l).take (j - (put n).length) := by rw [List.take_append, List.take_of_length_le (by omega)]
      rw [e, get_put hn]
      dsimp only
      rw [← List.append_assoc, ← List.length_append, rdF_short l (fun x hx => hin x (by simp [hx])) (pre ++ put n) _ (by omega)]
      rfl
theorem numsF_put {l : List Int} (hl : l.length ≤ 8000) (hin : ∀ x ∈ l, inI x) (r : List Int) : numsF (numsV l ++ r) = some (l, (numsV l).length) := by
  have hi : inI (l.length : Int) := ⟨by omega, by omega⟩
  unfold numsF
  rw [numsV, List.append_assoc, get_put hi]
  dsimp only
  rw [unzz_zz, if_pos (by omega), Int.toNat_natCast, rdF_flat l hin]
theorem numsF_short {l : List Int} (hl : l.length ≤ 8000) (hin : ∀ x ∈ l, inI x) : numsF ((numsV l).take ((numsV l).length - 1)) = none := by
  have hi : inI (l.length : Int) := ⟨by omega, by omega⟩
  have hf := flatL_len l
  have hp := put_pos (l.length : Int)
  unfold numsF
  by_cases h0 : l.length = 0
  · have e : l = [] := List.eq_nil_of_length_eq_zero h0
    subst e
    have e : numsV [] = put (([] : List Int).length : Int) := by simp [numsV, flatL]
    rw [e, get_short hi (by omega)]
  · have e : (numsV l).take ((numsV l).length - 1) = put l.length ++ (flatL l).take ((flatL l).length - 1) := by
      rw [numsV, List.take_append, List.take_of_length_le (by rw [List.length_append]; omega)]
      congr 2
      rw [List.length_append]; omega
    rw [e, get_put hi]
    dsimp only
    rw [unzz_zz, if_pos (by omega), Int.toNat_natCast, rdF_short l hin _ _ (by omega)]
end Go.D.Wire
