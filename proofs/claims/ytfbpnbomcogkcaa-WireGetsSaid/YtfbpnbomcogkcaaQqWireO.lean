/- The laws WireRows, WireTwo and WireGets, in the evaluator. -/
import Derived.Test.YtfbpnbomcogkcaaQqWireN
set_option linter.unusedSimpArgs false
set_option linter.unusedVariables false
namespace Go.D.Wire
open Go.D
set_option maxRecDepth 10000
set_option maxHeartbeats 1000000
variable {d : Nat} {h : Heap}

theorem body_Rows (ev : FuncId → List DV → Heap → Res DV) (ha : ∀ h, callP ev 14 [] h = .ok (B true) h) (l r : List Int) (ml mr : Mode) (s : List Int) (hs1 : l.length ≤ 300 → 1 ≤ s.length ∧ s.length ≤ 5000)
    (q1 : ∀ h m, l.length ≤ 300 → callP ev 27 [.sl m 1 (ints l)] h = .ok (.sl .own 1 (u8s s)) h)
    (q2 : ∀ h m, l.length ≤ 300 → callP ev 28 [.sl m 1 (ints l)] h = .ok (.sl .own 1 (u8s s)) h)
    (q3 : ∀ h m, l.length ≤ 300 → r.length ≤ 1000 → callP ev 22 [.sl m 1 (u8s (s ++ r))] h = .ok (.tup [.sl (md l) 1 (ints l), I s.length, I 0]) h)
    (q4 : ∀ h m, l.length ≤ 300 → callP ev 22 [.sl m 1 (u8s (s.take (s.length - 1)))] h = .ok (.tup [.sl .full 1 [], I 0, I 3]) h)
    (q5 : ∀ h (a : List Int) ma mb, a.length ≤ 90000 → callP ev 15 [.sl ma 1 (u8s a), .sl mb 1 (u8s a)] h = .ok (B true) h)
    (q6 : ∀ h (a : List Int) ma mb, a.length ≤ 90000 → callP ev 24 [.sl ma 1 (ints a), .sl mb 1 (ints a)] h = .ok (B true) h) :
    evalF ev NN ir8 [.sl ml 1 (ints l), .sl mr 1 (u8s r)] [] = .ok (B true) [] := by
  by_cases hs : l.length ≤ 300
  · have hs' : ¬ (300 : Int) < (l.length : Int) := by omega
    by_cases hl : r.length ≤ 1000
    · have hl' : ¬ (1000 : Int) < (r.length : Int) := by omega
      obtain ⟨hpos, hbig⟩ := hs1 hs
      have p1 := fun h m => q1 h m hs
      have p2 := fun h m => q2 h m hs
      have p3 := fun h m => q3 h m hs hl
      have p4 := fun h m => q4 h m hs
      have p5 := fun h ma mb => q5 h s ma mb (by omega)
      have p6 := fun h ma mb => q6 h l ma mb (by omega)
      have hr : (s.length + r.length) * 2 ≤ room := by simp only [room]; omega
      have w1 : IntKind.i64.wrap ((s.length : Int) - 1) = ((s.length - 1 : Nat) : Int) := by rw [wrap64_id (by omega) (by omega)]; omega
      have w2 : ((s.length - 1 : Nat) : Int) ≤ (s.length : Int) := by omega
      have w3 : (if (0 : Int) < ((s.length - 1 : Nat) : Int) then ((s.length - 1 : Nat) : Int) else 0) = ((s.length - 1 : Nat) : Int) := by split <;> omega
      simp -implicitDefEqProofs only [ir8, ha, p1, p2, p3, p4, p5, p6, hs', hl', hr, w1, w2, w3, go_sem, Nat.reduceAdd, Nat.reduceMul, Nat.reduceSub, Nat.reduceLeDiff, Nat.reduceEqDiff, Nat.reduceBEq, Nat.reduceLT, Int.reduceLE, Int.reduceLT, Int.reduceEq, Int.reduceNeg, Int.reduceAdd, Int.reduceMul, Int.reduceSub, Int.reduceToNat, reduceCtorEq, reduceIte]
    · have hl' : (1000 : Int) < (r.length : Int) := by omega
      simp -implicitDefEqProofs only [ir8, ha, hs', hl', go_sem, Nat.reduceAdd, Nat.reduceMul, Nat.reduceSub, Nat.reduceLeDiff, Nat.reduceEqDiff, Nat.reduceBEq, Nat.reduceLT, Int.reduceLE, Int.reduceLT, Int.reduceEq, Int.reduceNeg, Int.reduceAdd, Int.reduceMul, Int.reduceSub, Int.reduceToNat, reduceCtorEq, reduceIte]
  · have hs' : (300 : Int) < (l.length : Int) := by omega
    simp -implicitDefEqProofs only [ir8, ha, hs', go_sem, Nat.reduceAdd, Nat.reduceMul, Nat.reduceSub, Nat.reduceLeDiff, Nat.reduceEqDiff, Nat.reduceBEq, Nat.reduceLT, Int.reduceLE, Int.reduceLT, Int.reduceEq, Int.reduceNeg, Int.reduceAdd, Int.reduceMul, Int.reduceSub, Int.reduceToNat, reduceCtorEq, reduceIte]

theorem law_Rows (d : Nat) (l r : List Int) (ml mr : Mode) (hin : ∀ x ∈ l, inI x) (hb : ∀ x ∈ r, 0 ≤ x ∧ x < 256) : evalCall fns NN (d + 11) 8 [.sl ml 1 (ints l), .sl mr 1 (u8s r)] [] = .ok (B true) [] := by
  rw [call_eq rfl]
  have hn := numsV_len l
  have hy := numsV_bytes l
  refine body_Rows _ (fun h => p_alive) l r ml mr (numsV l) (fun h3 => ⟨by have := put_pos l.length; simp only [numsV, List.length_append]; omega, by omega⟩)
    (fun h m h3 => p_Nums (d := d + 8) l m (by omega) hin) (fun h m h3 => p_RNums (d := d + 7) l m (by omega) hin) (fun h m h3 h4 => ?_) (fun h m h3 => ?_)
    (fun h a ma mb hl => by simpa using p_Same (d := d + 9) a a ma mb hl) (fun h a ma mb hl => by simpa using p_Ints (d := d + 9) a a ma mb hl)
  · have p := p_GetNums (d := d + 7) (h := h) (numsV l ++ r) m (by rw [List.length_append]; omega) (fun x hx => (List.mem_append.1 hx).elim (hy x) (hb x))
    rw [p, rowV, numsF_put (by omega) hin]
  · have p := p_GetNums (d := d + 7) (h := h) ((numsV l).take ((numsV l).length - 1)) m (by rw [List.length_take]; omega) (fun x hx => hy x (List.mem_of_mem_take hx))
    rw [p, rowV, numsF_short (by omega) hin]

theorem body_Two (ev : FuncId → List DV → Heap → Res DV) (ha : ∀ h, callP ev 14 [] h = .ok (B true) h) (l r : List Int) (ml mr : Mode) (s t : List Int) (hs1 : l.length + r.length ≤ 300 → s.length ≤ 5000 ∧ t.length ≤ 5000)
    (q1 : ∀ h m, l.length + r.length ≤ 300 → callP ev 27 [.sl m 1 (ints l)] h = .ok (.sl .own 1 (u8s s)) h)
    (q2 : ∀ h m, l.length + r.length ≤ 300 → callP ev 27 [.sl m 1 (ints r)] h = .ok (.sl .own 1 (u8s t)) h)
    (q3 : ∀ h m, l.length + r.length ≤ 300 → callP ev 22 [.sl m 1 (u8s (s ++ t))] h = .ok (.tup [.sl (md l) 1 (ints l), I s.length, I 0]) h)
    (q4 : ∀ h m, l.length + r.length ≤ 300 → callP ev 22 [.sl m 1 (u8s ((s ++ t).drop s.length))] h = .ok (.tup [.sl (md r) 1 (ints r), I t.length, I 0]) h)
    (q6 : ∀ h (a : List Int) ma mb, a.length ≤ 90000 → callP ev 24 [.sl ma 1 (ints a), .sl mb 1 (ints a)] h = .ok (B true) h) (hbl : l.length ≤ 2 ^ 50) (hll : r.length ≤ 2 ^ 50) :
    evalF ev NN ir10 [.sl ml 1 (ints l), .sl mr 1 (ints r)] [] = .ok (B true) [] := by
  have w0 : IntKind.i64.wrap ((l.length : Int) + (r.length : Int)) = (l.length : Int) + (r.length : Int) := wrap64_id (by omega) (by omega)
  by_cases hs : l.length + r.length ≤ 300
  · have hs' : ¬ (300 : Int) < (l.length : Int) + (r.length : Int) := by omega
    obtain ⟨hb1, hb2⟩ := hs1 hs
    have p1 := fun h m => q1 h m hs
    have p2 := fun h m => q2 h m hs
    have p3 := fun h m => q3 h m hs
    have p4 := fun h m => q4 h m hs
    have p5 := fun h ma mb => q6 h l ma mb (by omega)
    have p6 := fun h ma mb => q6 h r ma mb (by omega)
    have hr : (s.length + t.length) * 2 ≤ room := by simp only [room]; omega
    have hlen : (s ++ t).length = s.length + t.length := List.length_append
    have w2 : ¬ (s.length : Int) < 0 := by omega
    have w3 : ¬ ((s ++ t).length : Int) < (s.length : Int) := by omega
    have w5 : (s.length : Int) ≤ ((s ++ t).length : Int) := by omega
    have w4 : IntKind.i64.wrap ((s.length : Int) + (t.length : Int)) = ((s ++ t).length : Int) := by rw [wrap64_id (by omega) (by omega)]; omega
    simp -implicitDefEqProofs only [ir10, ha, p1, p2, p3, p4, p5, p6, hs', hr, w0, w2, w3, w4, w5, go_sem, Nat.reduceAdd, Nat.reduceMul, Nat.reduceSub, Nat.reduceLeDiff, Nat.reduceEqDiff, Nat.reduceBEq, Nat.reduceLT, Int.reduceLE, Int.reduceLT, Int.reduceEq, Int.reduceNeg, Int.reduceAdd, Int.reduceMul, Int.reduceSub, Int.reduceToNat, reduceCtorEq, reduceIte]
  · have hs' : (300 : Int) < (l.length : Int) + (r.length : Int) := by omega
    simp -implicitDefEqProofs only [ir10, ha, w0, hs', go_sem, Nat.reduceAdd, Nat.reduceMul, Nat.reduceSub, Nat.reduceLeDiff, Nat.reduceEqDiff, Nat.reduceBEq, Nat.reduceLT, Int.reduceLE, Int.reduceLT, Int.reduceEq, Int.reduceNeg, Int.reduceAdd, Int.reduceMul, Int.reduceSub, Int.reduceToNat, reduceCtorEq, reduceIte]

theorem law_Two (d : Nat) (l r : List Int) (ml mr : Mode) (hin : ∀ x ∈ l, inI x) (hir : ∀ x ∈ r, inI x) (hbl : l.length ≤ 2 ^ 50) (hll : r.length ≤ 2 ^ 50) : evalCall fns NN (d + 11) 10 [.sl ml 1 (ints l), .sl mr 1 (ints r)] [] = .ok (B true) [] := by
  rw [call_eq rfl]
  have hn := numsV_len l
  have hy := numsV_bytes l
  have hn2 := numsV_len r
  have hy2 := numsV_bytes r
  refine body_Two _ (fun h => p_alive) l r ml mr (numsV l) (numsV r) (fun h3 => ⟨by omega, by omega⟩)
    (fun h m h3 => p_Nums (d := d + 8) l m (by omega) hin) (fun h m h3 => p_Nums (d := d + 8) r m (by omega) hir) (fun h m h3 => ?_) (fun h m h3 => ?_)
    (fun h a ma mb hl => by simpa using p_Ints (d := d + 9) a a ma mb hl) hbl hll
  · have p := p_GetNums (d := d + 7) (h := h) (numsV l ++ numsV r) m (by rw [List.length_append]; omega) (fun x hx => (List.mem_append.1 hx).elim (hy x) (hy2 x))
    rw [p, rowV, numsF_put (by omega) hin]
  · have p := p_GetNums (d := d + 7) (h := h) ((numsV l ++ numsV r).drop (numsV l).length) m (by rw [List.drop_left]; omega) (fun x hx => by rw [List.drop_left] at hx; exact hy2 x hx)
    have e := numsF_put (l := r) (by omega) hir []
    rw [List.append_nil] at e
    rw [p, rowV, List.drop_left, e]

theorem body_RGetText (ev : FuncId → List DV → Heap → Res DV) (b : List Int) (mb : Mode) (hl : b.length ≤ 90000) (hb : ∀ x ∈ b, 0 ≤ x ∧ x < 256)
    (q : ∀ h m, callP ev 19 [.sl m 1 (u8s b)] h = .ok (getV b) h) : evalF ev NN ir21 [.sl mb 1 (u8s b)] [] = .ok (textV b) [] := by
  unfold textV
  unfold getV at q
  cases hg : getF 0 0 b with
  | none =>
    simp only [hg] at q
    simp -implicitDefEqProofs only [ir21, q, go_sem, Nat.reduceAdd, Nat.reduceMul, Nat.reduceSub, Nat.reduceLeDiff, Nat.reduceEqDiff, Nat.reduceBEq, Nat.reduceLT, Int.reduceLE, Int.reduceLT, Int.reduceEq, Int.reduceNeg, Int.reduceAdd, Int.reduceMul, Int.reduceSub, Int.reduceToNat, reduceCtorEq, reduceIte]
  | some o =>
    obtain ⟨w, n⟩ := o
    simp only [hg] at q
    obtain ⟨g1, g2, g3, g4, g5⟩ := get_dec hb hg
    dsimp only
    generalize unzz w = t at *
    have ws : IntKind.i64.wrap ((b.length : Int) - (n : Int)) = (b.length : Int) - (n : Int) := wrap64_id (by omega) (by omega)
    by_cases h0 : 0 ≤ t
    · have h0' : ¬ t < 0 := by omega
      by_cases h1 : t ≤ (b.length : Int) - (n : Int)
      · have h1' : ¬ (b.length : Int) - (n : Int) < t := by omega
        have wa : IntKind.i64.wrap ((n : Int) + t) = (n : Int) + t := wrap64_id (by omega) (by omega)
        have c1 : (n : Int) ≤ (n : Int) + t := by omega
        have c2 : (n : Int) + t ≤ (b.length : Int) := by omega
        have c3 : ((n : Int) + t).toNat - n = t.toNat := by omega
        have c4 : 0 ≤ (n : Int) := by omega
        rw [if_pos ⟨h0, h1⟩]
        simp -implicitDefEqProofs only [ir21, q, ws, h0, h0', h1, h1', wa, c1, c2, c3, c4, go_sem, Nat.reduceAdd, Nat.reduceMul, Nat.reduceSub, Nat.reduceLeDiff, Nat.reduceEqDiff, Nat.reduceBEq, Nat.reduceLT, Int.reduceLE, Int.reduceLT, Int.reduceEq, Int.reduceNeg, Int.reduceAdd, Int.reduceMul, Int.reduceSub, Int.reduceToNat, reduceCtorEq, reduceIte]
      · have h1' : (b.length : Int) - (n : Int) < t := by omega
        rw [if_neg (by omega)]
        simp -implicitDefEqProofs only [ir21, q, ws, h0, h0', h1, h1', go_sem, Nat.reduceAdd, Nat.reduceMul, Nat.reduceSub, Nat.reduceLeDiff, Nat.reduceEqDiff, Nat.reduceBEq, Nat.reduceLT, Int.reduceLE, Int.reduceLT, Int.reduceEq, Int.reduceNeg, Int.reduceAdd, Int.reduceMul, Int.reduceSub, Int.reduceToNat, reduceCtorEq, reduceIte]
    · have h0' : t < 0 := by omega
      rw [if_neg (by omega)]
      simp -implicitDefEqProofs only [ir21, q, ws, h0, h0', go_sem, Nat.reduceAdd, Nat.reduceMul, Nat.reduceSub, Nat.reduceLeDiff, Nat.reduceEqDiff, Nat.reduceBEq, Nat.reduceLT, Int.reduceLE, Int.reduceLT, Int.reduceEq, Int.reduceNeg, Int.reduceAdd, Int.reduceMul, Int.reduceSub, Int.reduceToNat, reduceCtorEq, reduceIte]
theorem p_RGetText (b : List Int) (mb : Mode) (hl : b.length ≤ 90000) (hb : ∀ x ∈ b, 0 ≤ x ∧ x < 256) : callP (evalCall fns NN (d + 4)) 21 [.sl mb 1 (u8s b)] h = .ok (textV b) h := by
  have hv : ∀ h' : Heap, look h' (textV b) = textV b ∧ free (textV b) = true := by intro h'; unfold textV; split <;> (try split) <;> exact ⟨rfl, rfl⟩
  have q := callP_of (ev := evalCall fns NN (d + 4)) (h := h) (f := 21) (args := [.sl mb 1 (u8s b)]) (v := textV b) (h' := []) (by simp -implicitDefEqProofs only [go_sem, Nat.reduceAdd, Nat.reduceMul, Nat.reduceSub, Nat.reduceLeDiff, Nat.reduceEqDiff, Nat.reduceBEq, Nat.reduceLT, Int.reduceLE, Int.reduceLT, Int.reduceEq, Int.reduceNeg, Int.reduceAdd, Int.reduceMul, Int.reduceSub, Int.reduceToNat, reduceCtorEq, reduceIte]) rfl (by rw [call_eq rfl]; exact body_RGetText _ b mb hl hb (fun h m => p_RGet b m hl hb)) (by rw [(hv []).1]; exact (hv []).2)
  rw [q, (hv []).1]

theorem rowV_eq (b : List Int) : ∃ l n e, rowV b = .tup [.sl (md l) 1 (ints l), I n, I e] := by
  unfold rowV
  split
  · exact ⟨_, _, _, rfl⟩
  · exact ⟨[], 0, 3, rfl⟩
theorem textV_eq (b : List Int) : ∃ s n e, textV b = .tup [S s, I n, I e] := by
  unfold textV
  split
  · split
    · exact ⟨_, _, _, rfl⟩
    · exact ⟨_, _, _, rfl⟩
  · exact ⟨_, _, _, rfl⟩
theorem getV_eq (b : List Int) : ∃ x n e, getV b = .tup [I x, I n, I e] := by
  unfold getV
  split <;> exact ⟨_, _, _, rfl⟩
theorem rowV_len {b l : List Int} (hb : ∀ x ∈ b, 0 ≤ x ∧ x < 256) {n e : Int} (h : rowV b = .tup [.sl (md l) 1 (ints l), I n, I e]) : l.length ≤ b.length := by
  unfold rowV numsF at h
  cases hg : getF 0 0 b with
  | none =>
    rw [hg] at h
    simp only [DV.tup.injEq, List.cons.injEq, DV.sl.injEq] at h
    have h := congrArg List.length h.1.2.2
    rw [len_ints] at h
    simp at h; omega
  | some o =>
    obtain ⟨w, c⟩ := o
    rw [hg] at h
    obtain ⟨g1, g2, g3⟩ := getF_bd (a := 0) hb (by simpa using hg)
    by_cases h0 : 0 ≤ unzz w
    · simp only [if_pos h0] at h
      cases hr : rdF (unzz w).toNat c b with
      | none =>
        rw [hr] at h
        simp only [DV.tup.injEq, List.cons.injEq, DV.sl.injEq] at h
        have h := congrArg List.length h.1.2.2
        rw [len_ints] at h
        simp at h; omega
      | some o =>
        obtain ⟨l', e'⟩ := o
        obtain ⟨r1, _, r3⟩ := rdF_bd hb _ _ _ _ hr
        have := r3 (by omega)
        rw [hr] at h
        simp only [DV.tup.injEq, List.cons.injEq, DV.sl.injEq] at h
        have h := congrArg List.length h.1.2.2
        rw [len_ints, len_ints] at h
        omega
    · simp only [if_neg h0] at h
      simp only [DV.tup.injEq, List.cons.injEq, DV.sl.injEq] at h
      have h := congrArg List.length h.1.2.2
      rw [len_ints] at h
      simp at h; omega

theorem body_Gets (ev : FuncId → List DV → Heap → Res DV) (ha : ∀ h, callP ev 14 [] h = .ok (B true) h) (b : List Int) (mb : Mode) (hb : ∀ x ∈ b, 0 ≤ x ∧ x < 256)
    (q1 : ∀ h m, b.length ≤ 1000 → callP ev 18 [.sl m 1 (u8s b)] h = .ok (getV b) h)
    (q2 : ∀ h m, b.length ≤ 1000 → callP ev 19 [.sl m 1 (u8s b)] h = .ok (getV b) h)
    (q3 : ∀ h m, b.length ≤ 1000 → callP ev 20 [.sl m 1 (u8s b)] h = .ok (textV b) h)
    (q4 : ∀ h m, b.length ≤ 1000 → callP ev 21 [.sl m 1 (u8s b)] h = .ok (textV b) h)
    (q5 : ∀ h m, b.length ≤ 1000 → callP ev 22 [.sl m 1 (u8s b)] h = .ok (rowV b) h)
    (q6 : ∀ h m, b.length ≤ 1000 → callP ev 23 [.sl m 1 (u8s b)] h = .ok (rowV b) h)
    (q7 : ∀ h (a : List Int) ma mb, a.length ≤ 90000 → callP ev 24 [.sl ma 1 (ints a), .sl mb 1 (ints a)] h = .ok (B true) h) :
    evalF ev NN ir4 [.sl mb 1 (u8s b)] [] = .ok (B true) [] := by
  by_cases hl : b.length ≤ 1000
  · have hl' : ¬ (1000 : Int) < (b.length : Int) := by omega
    have p1 := fun h m => q1 h m hl
    have p2 := fun h m => q2 h m hl
    have p3 := fun h m => q3 h m hl
    have p4 := fun h m => q4 h m hl
    have p5 := fun h m => q5 h m hl
    have p6 := fun h m => q6 h m hl
    obtain ⟨x, n, e, g1⟩ := getV_eq b
    obtain ⟨s, n2, e2, g2⟩ := textV_eq b
    obtain ⟨l, n3, e3, g3⟩ := rowV_eq b
    have hlen := rowV_len hb g3
    have p7 := fun h ma mb => q7 h l ma mb (by omega)
    rw [g1] at p1 p2
    rw [g2] at p3 p4
    rw [g3] at p5 p6
    simp -implicitDefEqProofs only [ir4, ha, p1, p2, p3, p4, p5, p6, p7, hl', go_sem, Nat.reduceAdd, Nat.reduceMul, Nat.reduceSub, Nat.reduceLeDiff, Nat.reduceEqDiff, Nat.reduceBEq, Nat.reduceLT, Int.reduceLE, Int.reduceLT, Int.reduceEq, Int.reduceNeg, Int.reduceAdd, Int.reduceMul, Int.reduceSub, Int.reduceToNat, reduceCtorEq, reduceIte]
  · have hl' : (1000 : Int) < (b.length : Int) := by omega
    simp -implicitDefEqProofs only [ir4, ha, hl', go_sem, Nat.reduceAdd, Nat.reduceMul, Nat.reduceSub, Nat.reduceLeDiff, Nat.reduceEqDiff, Nat.reduceBEq, Nat.reduceLT, Int.reduceLE, Int.reduceLT, Int.reduceEq, Int.reduceNeg, Int.reduceAdd, Int.reduceMul, Int.reduceSub, Int.reduceToNat, reduceCtorEq, reduceIte]

theorem law_Gets (d : Nat) (b : List Int) (mb : Mode) (hb : ∀ x ∈ b, 0 ≤ x ∧ x < 256) : evalCall fns NN (d + 11) 4 [.sl mb 1 (u8s b)] [] = .ok (B true) [] := by
  rw [call_eq rfl]
  exact body_Gets _ (fun h => p_alive) b mb hb (fun h m hl => p_Get (d := d + 9) b m (by omega) hb) (fun h m hl => p_RGet (d := d + 7) b m (by omega) hb)
    (fun h m hl => p_GetText (d := d + 8) b m (by omega) hb) (fun h m hl => p_RGetText (d := d + 6) b m (by omega) hb) (fun h m hl => p_GetNums (d := d + 7) b m (by omega) hb) (fun h m hl => p_RGetNums (d := d + 6) b m (by omega) hb)
    (fun h a ma mb hl => by simpa using p_Ints (d := d + 9) a a ma mb hl)
end Go.D.Wire
