/- Rows of numbers of 'wire', in the evaluator. -/
import Derived.Test.YtfbpnbomcogkcaaQqWireI
import Derived.Test.YtfbpnbomcogkcaaQqWireG
set_option linter.unusedSimpArgs false
set_option linter.unusedVariables false
namespace Go.D.Wire
open Go.D
set_option maxRecDepth 10000
set_option maxHeartbeats 1000000
variable {d : Nat} {h : Heap}

/-- Numbers' bytes. -/
def flatL (l : List Int) : List Int := l.flatMap put
def numsV (l : List Int) : List Int := put l.length ++ flatL l
theorem put_pos (n : Int) : 1 ≤ (put n).length := by
  have := enc_ne (f := 10) (u := (zz n).toNat) (by omega)
  unfold put
  cases hh : enc 10 (zz n).toNat with
  | nil => exact absurd hh this
  | cons => simp
theorem flatL_len : ∀ l : List Int, l.length ≤ (flatL l).length ∧ (flatL l).length ≤ 10 * l.length
  | [] => by simp [flatL]
  | n :: l => by
    have := flatL_len l
    have h1 := put_pos n
    have h2 := put_len n
    simp only [flatL, List.flatMap_cons, List.length_append, List.length_cons] at this ⊢
    omega
theorem flatL_bytes (l : List Int) : ∀ x ∈ flatL l, 0 ≤ x ∧ x < 256 := by
  intro x hx
  simp only [flatL, List.mem_flatMap] at hx
  obtain ⟨n, _, hx⟩ := hx
  exact put_bytes n x hx
theorem numsV_bytes (l : List Int) : ∀ x ∈ numsV l, 0 ≤ x ∧ x < 256 := fun x hx => (List.mem_append.1 hx).elim (put_bytes _ x) (flatL_bytes l x)
theorem numsV_len (l : List Int) : (numsV l).length ≤ 10 * l.length + 10 := by
  have := flatL_len l
  have := put_len l.length
  simp only [numsV, List.length_append]; omega

theorem flatL_snoc (l : List Int) (n : Int) : flatL (l ++ [n]) = flatL l ++ put n := by simp [flatL]

def QNums (h : Heap) (v0 v1 v4 v5 : DV) (o : List Int) : Ex → Prop
  | .exit i s => i = 0 ∧ ∃ y2 y3 y7, s = ⟨[v0, v1, y2, y3, v4, v5, .sl .own 1 (u8s o), y7], [], h⟩
  | _ => False
theorem loop_Nums (ev : FuncId → List DV → Heap → Res DV) (v0 v1 : DV) (l : List Int) (ml : Mode) (hl : l.length ≤ 8000) (hin : ∀ x ∈ l, inI x)
    (q : ∀ h n, inI n → callP ev 16 [I n] h = .ok (.sl .own 1 (u8s (put n))) h) : ∀ n k, k ≤ l.length → l.length - k < n → ∀ (acc : List Int) (x2 x7 : DV), acc.length ≤ 10 * k + 10 →
    QNums h v0 v1 (I l.length) (.sl ml 1 (ints l)) (acc ++ flatL (l.drop k)) (iter (evalC ev NN ir27_l0) n ⟨[v0, v1, x2, I k, I l.length, .sl ml 1 (ints l), .sl .own 1 (u8s acc), x7], [], h⟩) := by
  intro n
  induction n with
  | zero => intro k _ h2; omega
  | succ n ih =>
    intro k hk hn acc x2 x7 ha
    by_cases hlt : k < l.length
    · have hx : l[k]? = some l[k] := List.getElem?_eq_getElem hlt
      have hd : l.drop k = l[k] :: l.drop (k + 1) := List.drop_eq_getElem_cons hlt
      have hi := hin l[k] (List.getElem_mem hlt)
      rw [hd]
      generalize l[k] = c at *
      have hlt' : (k : Int) < (l.length : Int) := by omega
      have p := fun h => q h c hi
      have hp := put_len c
      have hr : (acc.length + (put c).length) * 2 ≤ room := by simp only [room]; omega
      have e := ih (k + 1) (by omega) (by omega) (acc ++ put c) (B true) (I c) (by rw [List.length_append]; omega)
      rw [show acc ++ flatL (c :: l.drop (k + 1)) = acc ++ put c ++ flatL (l.drop (k + 1)) by simp [flatL]]
      refine cast (congrArg _ ?_) e
      have st : evalC ev NN ir27_l0 ⟨[v0, v1, x2, I k, I l.length, .sl ml 1 (ints l), .sl .own 1 (u8s acc), x7], [], h⟩ = .norm ⟨[v0, v1, B true, I (k + 1 : Nat), I l.length, .sl ml 1 (ints l), .sl .own 1 (u8s (acc ++ put c)), I c], [], h⟩ := by
        simp -implicitDefEqProofs only [ir27_l0, hlt', hx, p, hr, wrap_succ (show k < 4611686018427387904 by omega), go_sem, Nat.reduceAdd, Nat.reduceMul, Nat.reduceSub, Nat.reduceLeDiff, Nat.reduceEqDiff, Nat.reduceBEq, Nat.reduceLT, Int.reduceLE, Int.reduceLT, Int.reduceEq, Int.reduceNeg, Int.reduceAdd, Int.reduceMul, Int.reduceSub, Int.reduceToNat, reduceCtorEq, reduceIte]
      rw [iter, st]
    · have hka : k = l.length := by omega
      subst hka
      have hlt' : ¬ ((l.length : Nat) : Int) < (l.length : Int) := by omega
      rw [List.drop_length, show flatL [] = [] from rfl, List.append_nil]
      simp -implicitDefEqProofs only [iter, ir27_l0, hlt', go_sem, Nat.reduceAdd, Nat.reduceMul, Nat.reduceSub, Nat.reduceLeDiff, Nat.reduceEqDiff, Nat.reduceBEq, Nat.reduceLT, Int.reduceLE, Int.reduceLT, Int.reduceEq, Int.reduceNeg, Int.reduceAdd, Int.reduceMul, Int.reduceSub, Int.reduceToNat, reduceCtorEq, reduceIte]
      exact ⟨rfl, _, _, _, rfl⟩
theorem body_Nums (ev : FuncId → List DV → Heap → Res DV) (l : List Int) (ml : Mode) (hl : l.length ≤ 8000) (hin : ∀ x ∈ l, inI x)
    (q : ∀ h n, inI n → callP ev 16 [I n] h = .ok (.sl .own 1 (u8s (put n))) h) : evalF ev NN ir27 [.sl ml 1 (ints l)] [] = .ok (.sl .own 1 (u8s (numsV l))) [] := by
  have hp := put_len l.length
  have e := loop_Nums (h := []) ev (.sl (vm ml) 1 (ints l)) (.sl .full 1 []) l ml hl hin q NN 0 (by omega) (by unfold NN; omega) (put l.length) .junk .junk (by omega)
  simp only [List.drop_zero] at e
  have p := fun h => q h l.length ⟨by omega, by omega⟩
  simp -implicitDefEqProofs only [go_sem, Nat.reduceAdd, Nat.reduceMul, Nat.reduceSub, Nat.reduceLeDiff, Nat.reduceEqDiff, Nat.reduceBEq, Nat.reduceLT, Int.reduceLE, Int.reduceLT, Int.reduceEq, Int.reduceNeg, Int.reduceAdd, Int.reduceMul, Int.reduceSub, Int.reduceToNat, reduceCtorEq, reduceIte] at e
  simp -implicitDefEqProofs only [ir27, p, go_sem, Nat.reduceAdd, Nat.reduceMul, Nat.reduceSub, Nat.reduceLeDiff, Nat.reduceEqDiff, Nat.reduceBEq, Nat.reduceLT, Int.reduceLE, Int.reduceLT, Int.reduceEq, Int.reduceNeg, Int.reduceAdd, Int.reduceMul, Int.reduceSub, Int.reduceToNat, reduceCtorEq, reduceIte]
  revert e
  generalize iter _ _ _ = E
  intro e
  cases E with
  | exit i s =>
    obtain ⟨rfl, _, _, _, rfl⟩ := e
    simp -implicitDefEqProofs only [go_sem, Nat.reduceAdd, Nat.reduceMul, Nat.reduceSub, Nat.reduceLeDiff, Nat.reduceEqDiff, Nat.reduceBEq, Nat.reduceLT, Int.reduceLE, Int.reduceLT, Int.reduceEq, Int.reduceNeg, Int.reduceAdd, Int.reduceMul, Int.reduceSub, Int.reduceToNat, reduceCtorEq, reduceIte]
    rfl
  | ret s => exact e.elim
  | norm s => exact e.elim
  | pan v h => exact e.elim
  | no => exact e.elim
theorem p_Nums (l : List Int) (ml : Mode) (hl : l.length ≤ 8000) (hin : ∀ x ∈ l, inI x) : callP (evalCall fns NN (d + 2)) 27 [.sl ml 1 (ints l)] h = .ok (.sl .own 1 (u8s (numsV l))) h :=
  callP_of (v := .sl .own 1 (u8s (numsV l))) (h' := []) (by simp -implicitDefEqProofs only [go_sem, Nat.reduceAdd, Nat.reduceMul, Nat.reduceSub, Nat.reduceLeDiff, Nat.reduceEqDiff, Nat.reduceBEq, Nat.reduceLT, Int.reduceLE, Int.reduceLT, Int.reduceEq, Int.reduceNeg, Int.reduceAdd, Int.reduceMul, Int.reduceSub, Int.reduceToNat, reduceCtorEq, reduceIte]) rfl (by rw [call_eq rfl]; exact body_Nums _ l ml hl hin (fun h n hn => p_Put n hn.1 hn.2)) (by simp -implicitDefEqProofs only [go_sem, Nat.reduceAdd, Nat.reduceMul, Nat.reduceSub, Nat.reduceLeDiff, Nat.reduceEqDiff, Nat.reduceBEq, Nat.reduceLT, Int.reduceLE, Int.reduceLT, Int.reduceEq, Int.reduceNeg, Int.reduceAdd, Int.reduceMul, Int.reduceSub, Int.reduceToNat, reduceCtorEq, reduceIte])

def QRNums (h : Heap) (v0 v1 : DV) (o : List Int) : Ex → Prop
  | .exit i s => i = 0 ∧ ∃ y2 y3, s = ⟨[v0, v1, y2, y3, .sl .own 1 (u8s o)], [], h⟩
  | _ => False
theorem loop_RNums (ev : FuncId → List DV → Heap → Res DV) (v1 : DV) (l : List Int) (ml : Mode) (hl : l.length ≤ 8000) (hin : ∀ x ∈ l, inI x)
    (q : ∀ h n, inI n → callP ev 17 [I n] h = .ok (.sl .own 1 (u8s (put n))) h) : ∀ n k, k ≤ l.length → l.length - k < n → ∀ (acc : List Int) (x2 : DV), acc.length ≤ 10 * k + 10 →
    QRNums h (.sl ml 1 (ints l)) v1 (acc ++ flatL (l.drop k)) (iter (evalC ev NN ir28_l0) n ⟨[.sl ml 1 (ints l), v1, x2, I k, .sl .own 1 (u8s acc)], [], h⟩) := by
  intro n
  induction n with
  | zero => intro k _ h2; omega
  | succ n ih =>
    intro k hk hn acc x2 ha
    by_cases hlt : k < l.length
    · have hx : l[k]? = some l[k] := List.getElem?_eq_getElem hlt
      have hd : l.drop k = l[k] :: l.drop (k + 1) := List.drop_eq_getElem_cons hlt
      have hi := hin l[k] (List.getElem_mem hlt)
      rw [hd]
      generalize l[k] = c at *
      have hlt' : (k : Int) < (l.length : Int) := by omega
      have p := fun h => q h c hi
      have hp := put_len c
      have hr : (acc.length + (put c).length) * 2 ≤ room := by simp only [room]; omega
      have e := ih (k + 1) (by omega) (by omega) (acc ++ put c) (B true) (by rw [List.length_append]; omega)
      rw [show acc ++ flatL (c :: l.drop (k + 1)) = acc ++ put c ++ flatL (l.drop (k + 1)) by simp [flatL]]
      refine cast (congrArg _ ?_) e
      have st : evalC ev NN ir28_l0 ⟨[.sl ml 1 (ints l), v1, x2, I k, .sl .own 1 (u8s acc)], [], h⟩ = .norm ⟨[.sl ml 1 (ints l), v1, B true, I (k + 1 : Nat), .sl .own 1 (u8s (acc ++ put c))], [], h⟩ := by
        simp -implicitDefEqProofs only [ir28_l0, hlt', hx, p, hr, wrap_succ (show k < 4611686018427387904 by omega), go_sem, Nat.reduceAdd, Nat.reduceMul, Nat.reduceSub, Nat.reduceLeDiff, Nat.reduceEqDiff, Nat.reduceBEq, Nat.reduceLT, Int.reduceLE, Int.reduceLT, Int.reduceEq, Int.reduceNeg, Int.reduceAdd, Int.reduceMul, Int.reduceSub, Int.reduceToNat, reduceCtorEq, reduceIte]
      rw [iter, st]
    · have hka : k = l.length := by omega
      subst hka
      have hlt' : ¬ ((l.length : Nat) : Int) < (l.length : Int) := by omega
      rw [List.drop_length, show flatL [] = [] from rfl, List.append_nil]
      simp -implicitDefEqProofs only [iter, ir28_l0, hlt', go_sem, Nat.reduceAdd, Nat.reduceMul, Nat.reduceSub, Nat.reduceLeDiff, Nat.reduceEqDiff, Nat.reduceBEq, Nat.reduceLT, Int.reduceLE, Int.reduceLT, Int.reduceEq, Int.reduceNeg, Int.reduceAdd, Int.reduceMul, Int.reduceSub, Int.reduceToNat, reduceCtorEq, reduceIte]
      exact ⟨rfl, _, _, rfl⟩
theorem body_RNums (ev : FuncId → List DV → Heap → Res DV) (l : List Int) (ml : Mode) (hl : l.length ≤ 8000) (hin : ∀ x ∈ l, inI x)
    (q : ∀ h n, inI n → callP ev 17 [I n] h = .ok (.sl .own 1 (u8s (put n))) h) : evalF ev NN ir28 [.sl ml 1 (ints l)] [] = .ok (.sl .own 1 (u8s (numsV l))) [] := by
  have hp := put_len l.length
  have e := loop_RNums (h := []) ev (.sl .full 1 []) l ml hl hin q NN 0 (by omega) (by unfold NN; omega) (put l.length) .junk (by omega)
  simp only [List.drop_zero] at e
  have p := fun h => q h l.length ⟨by omega, by omega⟩
  simp -implicitDefEqProofs only [go_sem, Nat.reduceAdd, Nat.reduceMul, Nat.reduceSub, Nat.reduceLeDiff, Nat.reduceEqDiff, Nat.reduceBEq, Nat.reduceLT, Int.reduceLE, Int.reduceLT, Int.reduceEq, Int.reduceNeg, Int.reduceAdd, Int.reduceMul, Int.reduceSub, Int.reduceToNat, reduceCtorEq, reduceIte] at e
  simp -implicitDefEqProofs only [ir28, p, go_sem, Nat.reduceAdd, Nat.reduceMul, Nat.reduceSub, Nat.reduceLeDiff, Nat.reduceEqDiff, Nat.reduceBEq, Nat.reduceLT, Int.reduceLE, Int.reduceLT, Int.reduceEq, Int.reduceNeg, Int.reduceAdd, Int.reduceMul, Int.reduceSub, Int.reduceToNat, reduceCtorEq, reduceIte]
  revert e
  generalize iter _ _ _ = E
  intro e
  cases E with
  | exit i s =>
    obtain ⟨rfl, _, _, rfl⟩ := e
    simp -implicitDefEqProofs only [go_sem, Nat.reduceAdd, Nat.reduceMul, Nat.reduceSub, Nat.reduceLeDiff, Nat.reduceEqDiff, Nat.reduceBEq, Nat.reduceLT, Int.reduceLE, Int.reduceLT, Int.reduceEq, Int.reduceNeg, Int.reduceAdd, Int.reduceMul, Int.reduceSub, Int.reduceToNat, reduceCtorEq, reduceIte]
    rfl
  | ret s => exact e.elim
  | norm s => exact e.elim
  | pan v h => exact e.elim
  | no => exact e.elim
theorem p_RNums (l : List Int) (ml : Mode) (hl : l.length ≤ 8000) (hin : ∀ x ∈ l, inI x) : callP (evalCall fns NN (d + 3)) 28 [.sl ml 1 (ints l)] h = .ok (.sl .own 1 (u8s (numsV l))) h :=
  callP_of (v := .sl .own 1 (u8s (numsV l))) (h' := []) (by simp -implicitDefEqProofs only [go_sem, Nat.reduceAdd, Nat.reduceMul, Nat.reduceSub, Nat.reduceLeDiff, Nat.reduceEqDiff, Nat.reduceBEq, Nat.reduceLT, Int.reduceLE, Int.reduceLT, Int.reduceEq, Int.reduceNeg, Int.reduceAdd, Int.reduceMul, Int.reduceSub, Int.reduceToNat, reduceCtorEq, reduceIte]) rfl (by rw [call_eq rfl]; exact body_RNums _ l ml hl hin (fun h n hn => p_RPut n hn.1 hn.2)) (by simp -implicitDefEqProofs only [go_sem, Nat.reduceAdd, Nat.reduceMul, Nat.reduceSub, Nat.reduceLeDiff, Nat.reduceEqDiff, Nat.reduceBEq, Nat.reduceLT, Int.reduceLE, Int.reduceLT, Int.reduceEq, Int.reduceNeg, Int.reduceAdd, Int.reduceMul, Int.reduceSub, Int.reduceToNat, reduceCtorEq, reduceIte])

/-- So many numbers, from a place on. -/
def rdF : Nat → Nat → List Int → Option (List Int × Nat)
  | 0, a, _ => some ([], a)
  | k + 1, a, b => match getF 0 0 (b.drop a) with
    | none => none
    | some (w, n) => (rdF k (a + n) b).map fun p => (unzz w :: p.1, p.2)
theorem getF_bd {b : List Int} (hb : ∀ x ∈ b, 0 ≤ x ∧ x < 256) {a w n : Nat} (hg : getF 0 0 (b.drop a) = some (w, n)) : 1 ≤ n ∧ a + n ≤ b.length ∧ inI (unzz w) := by
  obtain ⟨h1, h2, h3, _⟩ := get_dec (fun x hx => hb x (List.mem_of_mem_drop hx)) hg
  rw [List.length_drop] at h2
  exact ⟨h1, by omega, h3⟩
theorem rdF_bd {b : List Int} (hb : ∀ x ∈ b, 0 ≤ x ∧ x < 256) : ∀ k a l e, rdF k a b = some (l, e) → l.length = k ∧ a + k ≤ max e b.length ∧ (a ≤ b.length → e ≤ b.length ∧ a + k ≤ b.length)
  | 0, a, l, e, h => by simp only [rdF, Option.some.injEq, Prod.mk.injEq] at h; obtain ⟨rfl, rfl⟩ := h; exact ⟨rfl, by omega, fun h => ⟨h, h⟩⟩
  | k + 1, a, l, e, h => by
    rw [rdF] at h
    split at h
    · cases h
    · rename_i w n hg
      rw [Option.map_eq_some_iff] at h
      obtain ⟨⟨l', e'⟩, hr, h⟩ := h
      simp only [Prod.mk.injEq] at h
      obtain ⟨rfl, rfl⟩ := h
      obtain ⟨g1, g2, _⟩ := getF_bd hb hg
      obtain ⟨h1, h2, h3⟩ := rdF_bd hb k (a + n) l' e' hr
      exact ⟨by simp [h1], by omega, fun _ => by have := h3 (by omega); exact ⟨this.1, by omega⟩⟩

/-- What row of numbers is got of bytes. -/
def numsF (b : List Int) : Option (List Int × Nat) := match getF 0 0 b with
  | some (w, n) => if 0 ≤ unzz w then rdF (unzz w).toNat n b else none
  | none => none
def rowV (b : List Int) : DV := match numsF b with
  | some (l, e) => .tup [.sl (md l) 1 (ints l), I e, I 0]
  | none => .tup [.sl .full 1 [], I 0, I 3]

theorem callP_open {ev : FuncId → List DV → Heap → Res DV} {f : FuncId} {args : List DV} {v : DV} {h' : Heap} (ha : freeL args = true) (hs : hasHsL args = false) (he : ev f args [] = .ok v h') (hv : free (look h' v) = false) :
    callP ev f args h = ev f args h := by
  unfold callP
  rw [lookL_still h args hs, if_pos ha, he]
  simp [hv, hs]

theorem body_reader (ev : FuncId → List DV → Heap → Res DV) (b : List Int) (mb : Mode) : evalF ev NN ir37 [.sl mb 1 (u8s b)] [] =
    .ok (.tup [.fn (.func 39) [] [.ptr 0 0, .ptr 1 0], .fn (.func 40) [] [.ptr 1 0]]) [[.sl mb 1 (u8s b)], [I 0]] := by
  simp -implicitDefEqProofs only [ir37, go_sem, Nat.reduceAdd, Nat.reduceMul, Nat.reduceSub, Nat.reduceLeDiff, Nat.reduceEqDiff, Nat.reduceBEq, Nat.reduceLT, Int.reduceLE, Int.reduceLT, Int.reduceEq, Int.reduceNeg, Int.reduceAdd, Int.reduceMul, Int.reduceSub, Int.reduceToNat, reduceCtorEq, reduceIte]
theorem p_reader (b : List Int) (mb : Mode) : callP (evalCall fns NN (d + 1)) 37 [.sl mb 1 (u8s b)] [] =
    .ok (.tup [.fn (.func 39) [] [.ptr 0 0, .ptr 1 0], .fn (.func 40) [] [.ptr 1 0]]) [[.sl mb 1 (u8s b)], [I 0]] := by
  have e : evalCall fns NN (d + 1) 37 [.sl mb 1 (u8s b)] [] = _ := (call_eq rfl _).trans (body_reader (evalCall fns NN d) b mb)
  rw [callP_open (by simp -implicitDefEqProofs only [go_sem, Nat.reduceAdd, Nat.reduceMul, Nat.reduceSub, Nat.reduceLeDiff, Nat.reduceEqDiff, Nat.reduceBEq, Nat.reduceLT, Int.reduceLE, Int.reduceLT, Int.reduceEq, Int.reduceNeg, Int.reduceAdd, Int.reduceMul, Int.reduceSub, Int.reduceToNat, reduceCtorEq, reduceIte]) rfl e rfl, e]

theorem body_next0 (ev : FuncId → List DV → Heap → Res DV) (b : List Int) (mb : Mode) (a : Nat) (ha : a ≤ b.length) (hl : b.length ≤ 90000)
    (q : ∀ h m, callP ev 18 [.sl m 1 (u8s (b.drop a))] h = .ok (getV (b.drop a)) h) (hg : getF 0 0 (b.drop a) = none) :
    evalF ev NN ir39 [.ptr 0 0, .ptr 1 0] [[.sl mb 1 (u8s b)], [I a]] = .ok (.tup [I 0, B false]) [[.sl mb 1 (u8s b)], [I a]] := by
  unfold getV at q
  simp only [hg] at q
  have h1 : (a : Int) ≤ (b.length : Int) := by omega
  have w : IntKind.i64.wrap ((a : Int) + 0) = (a : Int) := by rw [wrap64_id (by omega) (by omega)]; omega
  simp -implicitDefEqProofs only [ir39, q, h1, w, go_sem, Nat.reduceAdd, Nat.reduceMul, Nat.reduceSub, Nat.reduceLeDiff, Nat.reduceEqDiff, Nat.reduceBEq, Nat.reduceLT, Int.reduceLE, Int.reduceLT, Int.reduceEq, Int.reduceNeg, Int.reduceAdd, Int.reduceMul, Int.reduceSub, Int.reduceToNat, reduceCtorEq, reduceIte]
theorem body_next1 (ev : FuncId → List DV → Heap → Res DV) (b : List Int) (mb : Mode) (a w n : Nat) (ha : a + n ≤ b.length) (hl : b.length ≤ 90000)
    (q : ∀ h m, callP ev 18 [.sl m 1 (u8s (b.drop a))] h = .ok (getV (b.drop a)) h) (hg : getF 0 0 (b.drop a) = some (w, n)) :
    evalF ev NN ir39 [.ptr 0 0, .ptr 1 0] [[.sl mb 1 (u8s b)], [I a]] = .ok (.tup [I (unzz w), B true]) [[.sl mb 1 (u8s b)], [I (a + n : Nat)]] := by
  unfold getV at q
  simp only [hg] at q
  have h1 : (a : Int) ≤ (b.length : Int) := by omega
  have w : IntKind.i64.wrap ((a : Int) + (n : Int)) = ((a + n : Nat) : Int) := by rw [wrap64_id (by omega) (by omega)]; omega
  simp -implicitDefEqProofs only [ir39, q, h1, w, go_sem, Nat.reduceAdd, Nat.reduceMul, Nat.reduceSub, Nat.reduceLeDiff, Nat.reduceEqDiff, Nat.reduceBEq, Nat.reduceLT, Int.reduceLE, Int.reduceLT, Int.reduceEq, Int.reduceNeg, Int.reduceAdd, Int.reduceMul, Int.reduceSub, Int.reduceToNat, reduceCtorEq, reduceIte]
theorem body_upto (ev : FuncId → List DV → Heap → Res DV) (x : DV) (a : Int) : evalF ev NN ir40 [.ptr 1 0] [[x], [I a]] = .ok (I a) [[x], [I a]] := by
  simp -implicitDefEqProofs only [ir40, go_sem, Nat.reduceAdd, Nat.reduceMul, Nat.reduceSub, Nat.reduceLeDiff, Nat.reduceEqDiff, Nat.reduceBEq, Nat.reduceLT, Int.reduceLE, Int.reduceLT, Int.reduceEq, Int.reduceNeg, Int.reduceAdd, Int.reduceMul, Int.reduceSub, Int.reduceToNat, reduceCtorEq, reduceIte]

def QGN (b : List Int) (m : Mode) (o : Option (List Int × Nat)) (acc : List Int) (v0 v1 v2 v3 v7 v8 v9 v15 : DV) : Ex → Prop
  | .exit i s => i = 0 ∧ ∃ l e, o = some (l, e) ∧ ∃ y4 y5 y6 y10 y11 y12 y14, s = ⟨[v0, v1, v2, v3, y4, y5, y6, v7, v8, v9, y10, y11, y12, .sl (md (acc ++ l)) 1 (ints (acc ++ l)), y14, v15], [], [[.sl m 1 (u8s b)], [I e]]⟩
  | .ret s => o = none ∧ ∃ y4 y5 y6 y7 y8 y9 y10 y11 y12 y13 y14 y15 hh, s = ⟨[v0, .sl .full 1 [], I 0, I 3, y4, y5, y6, y7, y8, y9, y10, y11, y12, y13, y14, y15], [], hh⟩
  | _ => False

theorem QGN_cons {b : List Int} {m : Mode} {o : Option (List Int × Nat)} {acc : List Int} {x : Int} {v0 v1 v2 v3 v7 v8 v9 v15 : DV} {E : Ex} (h : QGN b m o (acc ++ [x]) v0 v1 v2 v3 v7 v8 v9 v15 E) :
    QGN b m (o.map fun p => (x :: p.1, p.2)) acc v0 v1 v2 v3 v7 v8 v9 v15 E := by
  cases E with
  | exit i s =>
    obtain ⟨rfl, l, e, rfl, y4, y5, y6, y10, y11, y12, y14, rfl⟩ := h
    exact ⟨rfl, x :: l, e, rfl, y4, y5, y6, y10, y11, y12, y14, by simp only [List.append_assoc, List.cons_append, List.nil_append]⟩
  | ret s =>
    obtain ⟨rfl, h⟩ := h
    exact ⟨rfl, h⟩
  | norm s => exact h.elim
  | pan v h => exact h.elim
  | no => exact h.elim

theorem loop_GN (ev : FuncId → List DV → Heap → Res DV) (v0 v1 v2 v3 v8 v9 v15 : DV) (b : List Int) (m : Mode) (hl : b.length ≤ 90000) (hb : ∀ x ∈ b, 0 ≤ x ∧ x < 256)
    (q0 : ∀ a, a ≤ b.length → getF 0 0 (b.drop a) = none → callP ev 39 [.ptr 0 0, .ptr 1 0] [[.sl m 1 (u8s b)], [I a]] = .ok (.tup [I 0, B false]) [[.sl m 1 (u8s b)], [I a]])
    (q1 : ∀ a w n, a + n ≤ b.length → getF 0 0 (b.drop a) = some (w, n) → callP ev 39 [.ptr 0 0, .ptr 1 0] [[.sl m 1 (u8s b)], [I a]] = .ok (.tup [I (unzz w), B true]) [[.sl m 1 (u8s b)], [I (a + n : Nat)]]) :
    ∀ n k j a, a ≤ b.length → b.length - a < n → ∀ (acc : List Int) (x4 x5 x6 x12 x14 : DV), acc.length ≤ a → k ≤ a →
    QGN b m (rdF j a b) acc v0 v1 v2 v3 (.fn (.func 39) [] [.ptr 0 0, .ptr 1 0]) v8 v9 v15
      (iter (evalC ev NN ir22_l0) n ⟨[v0, v1, v2, v3, x4, x5, x6, .fn (.func 39) [] [.ptr 0 0, .ptr 1 0], v8, v9, I k, I (k + j : Nat), x12, .sl (md acc) 1 (ints acc), x14, v15], [], [[.sl m 1 (u8s b)], [I a]]⟩) := by
  intro n
  induction n with
  | zero => intro k j a _ h2; omega
  | succ n ih =>
    intro k j a ha hn acc x4 x5 x6 x12 x14 hacc hka
    cases j with
    | zero =>
      have hlt' : ¬ (k : Int) < (k : Int) := by omega
      rw [rdF]
      simp -implicitDefEqProofs only [iter, ir22_l0, hlt', go_sem, Nat.reduceAdd, Nat.reduceMul, Nat.reduceSub, Nat.reduceLeDiff, Nat.reduceEqDiff, Nat.reduceBEq, Nat.reduceLT, Int.reduceLE, Int.reduceLT, Int.reduceEq, Int.reduceNeg, Int.reduceAdd, Int.reduceMul, Int.reduceSub, Int.reduceToNat, reduceCtorEq, reduceIte]
      exact ⟨rfl, [], a, rfl, _, _, _, _, _, _, _, by simp only [List.append_nil]; rfl⟩
    | succ j =>
      have hlt' : (k : Int) < ((k + (j + 1) : Nat) : Int) := by omega
      rw [rdF]
      cases hg : getF 0 0 (b.drop a) with
      | none =>
        have p := q0 a ha hg
        simp -implicitDefEqProofs only [iter, ir22_l0, hlt', p, go_sem, Nat.reduceAdd, Nat.reduceMul, Nat.reduceSub, Nat.reduceLeDiff, Nat.reduceEqDiff, Nat.reduceBEq, Nat.reduceLT, Int.reduceLE, Int.reduceLT, Int.reduceEq, Int.reduceNeg, Int.reduceAdd, Int.reduceMul, Int.reduceSub, Int.reduceToNat, reduceCtorEq, reduceIte]
        exact ⟨rfl, _, _, _, _, _, _, _, _, _, _, _, _, _, rfl⟩
      | some o =>
        obtain ⟨w, c⟩ := o
        obtain ⟨g1, g2, g3⟩ := getF_bd hb hg
        have p := q1 a w c g2 hg
        have e := ih (k + 1) j (a + c) g2 (by omega) (acc ++ [unzz w]) x4 (B true) (B false) (B true) (I (unzz w)) (by simp; omega) (by omega)
        rw [md_app] at e
        have hr : (acc.length + 1) * 9 ≤ room := by simp only [room]; omega
        have hr1 : 9 ≤ room := by decide
        have st : ∀ acc : List Int, (acc.length + 1) * 9 ≤ room → evalC ev NN ir22_l0 ⟨[v0, v1, v2, v3, x4, x5, x6, .fn (.func 39) [] [.ptr 0 0, .ptr 1 0], v8, v9, I k, I (k + (j + 1) : Nat), x12, .sl (md acc) 1 (ints acc), x14, v15], [], [[.sl m 1 (u8s b)], [I a]]⟩ =
            .norm ⟨[v0, v1, v2, v3, x4, B true, B false, .fn (.func 39) [] [.ptr 0 0, .ptr 1 0], v8, v9, I (k + 1 : Nat), I (k + 1 + j : Nat), B true, .sl .own 1 (ints (acc ++ [unzz w])), I (unzz w), v15], [], [[.sl m 1 (u8s b)], [I (a + c : Nat)]]⟩ := by
          intro acc hr
          have e2 : k + (j + 1) = k + 1 + j := by omega
          rw [e2] at hlt' ⊢
          cases acc with
          | nil => simp -implicitDefEqProofs only [ir22_l0, md, hlt', p, hr1, wrap_succ (show k < 4611686018427387904 by omega), go_sem, Nat.reduceAdd, Nat.reduceMul, Nat.reduceSub, Nat.reduceLeDiff, Nat.reduceEqDiff, Nat.reduceBEq, Nat.reduceLT, Int.reduceLE, Int.reduceLT, Int.reduceEq, Int.reduceNeg, Int.reduceAdd, Int.reduceMul, Int.reduceSub, Int.reduceToNat, reduceCtorEq, reduceIte]
          | cons x acc =>
            simp only [List.length_cons] at hr
            simp -implicitDefEqProofs only [ir22_l0, md, hlt', p, hr, wrap_succ (show k < 4611686018427387904 by omega), go_sem, Nat.reduceAdd, Nat.reduceMul, Nat.reduceSub, Nat.reduceLeDiff, Nat.reduceEqDiff, Nat.reduceBEq, Nat.reduceLT, Int.reduceLE, Int.reduceLT, Int.reduceEq, Int.reduceNeg, Int.reduceAdd, Int.reduceMul, Int.reduceSub, Int.reduceToNat, reduceCtorEq, reduceIte]
        rw [iter, st acc hr]
        exact QGN_cons e

theorem body_GetNums (ev : FuncId → List DV → Heap → Res DV) (b : List Int) (mb : Mode) (hl : b.length ≤ 90000) (hb : ∀ x ∈ b, 0 ≤ x ∧ x < 256)
    (q : ∀ m, callP ev 37 [.sl m 1 (u8s b)] [] = .ok (.tup [.fn (.func 39) [] [.ptr 0 0, .ptr 1 0], .fn (.func 40) [] [.ptr 1 0]]) [[.sl m 1 (u8s b)], [I 0]])
    (q0 : ∀ m a, a ≤ b.length → getF 0 0 (b.drop a) = none → callP ev 39 [.ptr 0 0, .ptr 1 0] [[.sl m 1 (u8s b)], [I a]] = .ok (.tup [I 0, B false]) [[.sl m 1 (u8s b)], [I a]])
    (q1 : ∀ m a w n, a + n ≤ b.length → getF 0 0 (b.drop a) = some (w, n) → callP ev 39 [.ptr 0 0, .ptr 1 0] [[.sl m 1 (u8s b)], [I a]] = .ok (.tup [I (unzz w), B true]) [[.sl m 1 (u8s b)], [I (a + n : Nat)]])
    (q2 : ∀ m a, callP ev 40 [.ptr 1 0] [[.sl m 1 (u8s b)], [I a]] = .ok (I a) [[.sl m 1 (u8s b)], [I a]]) :
    ∃ h', evalF ev NN ir22 [.sl mb 1 (u8s b)] [] = .ok (rowV b) h' := by
  unfold rowV numsF
  cases hg : getF 0 0 b with
  | none =>
    have p := q0 (vm mb) 0 (by omega) (by simpa using hg)
    simp only [cast0] at p
    exact ⟨_, by simp -implicitDefEqProofs only [ir22, q, p, go_sem, Nat.reduceAdd, Nat.reduceMul, Nat.reduceSub, Nat.reduceLeDiff, Nat.reduceEqDiff, Nat.reduceBEq, Nat.reduceLT, Int.reduceLE, Int.reduceLT, Int.reduceEq, Int.reduceNeg, Int.reduceAdd, Int.reduceMul, Int.reduceSub, Int.reduceToNat, reduceCtorEq, reduceIte]; rfl⟩
  | some o =>
    obtain ⟨w, n⟩ := o
    obtain ⟨g1, g2, g3⟩ := getF_bd (a := 0) hb (by simpa using hg)
    have p := q1 (vm mb) 0 w n g2 (by simpa using hg)
    simp only [cast0, Nat.zero_add] at p g2
    by_cases h0 : 0 ≤ unzz w
    · simp only [if_pos h0]
      generalize unzz w = t at *
      obtain ⟨t, rfl⟩ := Int.eq_ofNat_of_zero_le h0
      simp only [Int.toNat_natCast]
      have h0' : ¬ (t : Int) < 0 := by omega
      by_cases hm : t ≤ b.length
      · have hm' : ¬ (b.length : Int) < (t : Int) := by omega
        have e := loop_GN ev (.sl (vm mb) 1 (u8s b)) (.sl .full 1 []) (I 0) (I 0) (B true) (I t) (.fn (.func 40) [] [.ptr 1 0]) b (vm mb) hl hb (q0 _) (q1 _) NN 0 t n (by omega) (by unfold NN; omega) [] (B false) .junk .junk .junk .junk (by simp) (by omega)
        simp only [cast0, Nat.zero_add, md, List.nil_append] at e
        simp -implicitDefEqProofs only [ints, List.map_nil, go_sem, Nat.reduceAdd, Nat.reduceMul, Nat.reduceSub, Nat.reduceLeDiff, Nat.reduceEqDiff, Nat.reduceBEq, Nat.reduceLT, Int.reduceLE, Int.reduceLT, Int.reduceEq, Int.reduceNeg, Int.reduceAdd, Int.reduceMul, Int.reduceSub, Int.reduceToNat, reduceCtorEq, reduceIte] at e
        simp -implicitDefEqProofs only [ir22, q, p, h0', hm', go_sem, Nat.reduceAdd, Nat.reduceMul, Nat.reduceSub, Nat.reduceLeDiff, Nat.reduceEqDiff, Nat.reduceBEq, Nat.reduceLT, Int.reduceLE, Int.reduceLT, Int.reduceEq, Int.reduceNeg, Int.reduceAdd, Int.reduceMul, Int.reduceSub, Int.reduceToNat, reduceCtorEq, reduceIte]
        revert e
        generalize iter _ _ _ = E
        intro e
        cases E with
        | exit i s =>
          obtain ⟨rfl, l, e, ho, _, _, _, _, _, _, _, rfl⟩ := e
          rw [ho]
          exact ⟨_, by simp -implicitDefEqProofs only [q2, go_sem, Nat.reduceAdd, Nat.reduceMul, Nat.reduceSub, Nat.reduceLeDiff, Nat.reduceEqDiff, Nat.reduceBEq, Nat.reduceLT, Int.reduceLE, Int.reduceLT, Int.reduceEq, Int.reduceNeg, Int.reduceAdd, Int.reduceMul, Int.reduceSub, Int.reduceToNat, reduceCtorEq, reduceIte]; rfl⟩
        | ret s =>
          obtain ⟨ho, _, _, _, _, _, _, _, _, _, _, _, _, _, rfl⟩ := e
          rw [ho]
          exact ⟨_, by simp -implicitDefEqProofs only [go_sem, Nat.reduceAdd, Nat.reduceMul, Nat.reduceSub, Nat.reduceLeDiff, Nat.reduceEqDiff, Nat.reduceBEq, Nat.reduceLT, Int.reduceLE, Int.reduceLT, Int.reduceEq, Int.reduceNeg, Int.reduceAdd, Int.reduceMul, Int.reduceSub, Int.reduceToNat, reduceCtorEq, reduceIte]; rfl⟩
        | norm s => exact e.elim
        | pan v h => exact e.elim
        | no => exact e.elim
      · have hm' : (b.length : Int) < (t : Int) := by omega
        have hn : rdF t n b = none := by
          cases hr : rdF t n b with
          | none => rfl
          | some o => obtain ⟨l, e⟩ := o; have := (rdF_bd hb _ _ _ _ hr).2.2 g2; omega
        rw [hn]
        exact ⟨_, by simp -implicitDefEqProofs only [ir22, q, p, h0', hm', go_sem, Nat.reduceAdd, Nat.reduceMul, Nat.reduceSub, Nat.reduceLeDiff, Nat.reduceEqDiff, Nat.reduceBEq, Nat.reduceLT, Int.reduceLE, Int.reduceLT, Int.reduceEq, Int.reduceNeg, Int.reduceAdd, Int.reduceMul, Int.reduceSub, Int.reduceToNat, reduceCtorEq, reduceIte]; rfl⟩
    · have h0' : unzz w < 0 := by omega
      simp only [if_neg h0]
      exact ⟨_, by simp -implicitDefEqProofs only [ir22, q, p, h0', go_sem, Nat.reduceAdd, Nat.reduceMul, Nat.reduceSub, Nat.reduceLeDiff, Nat.reduceEqDiff, Nat.reduceBEq, Nat.reduceLT, Int.reduceLE, Int.reduceLT, Int.reduceEq, Int.reduceNeg, Int.reduceAdd, Int.reduceMul, Int.reduceSub, Int.reduceToNat, reduceCtorEq, reduceIte]; rfl⟩
end Go.D.Wire
