/- Texts of 'wire', and the law WireTexts, in the evaluator. -/
import Derived.Test.YtfbpnbomcogkcaaQqWireF
import Derived.Test.YtfbpnbomcogkcaaQqSymS
set_option linter.unusedSimpArgs false
set_option linter.unusedVariables false
namespace Go.D.Wire
open Go.D
set_option maxRecDepth 10000
set_option maxHeartbeats 1000000
variable {d : Nat} {h : Heap}

theorem body_Text (ev : FuncId → List DV → Heap → Res DV) (s : ByteArray) (hs : s.size ≤ 80000) (q1 : ∀ h, callP ev 16 [I s.size] h = .ok (.sl .own 1 (u8s (put s.size))) h) :
    evalF ev NN ir25 [S s] [] = .ok (.sl .own 1 (u8s (put s.size ++ sb s))) [] := by
  have hp := put_len s.size
  have hr : ((put s.size).length + (sb s).length) * 2 ≤ room := by rw [len_sb]; simp only [room]; omega
  simp -implicitDefEqProofs only [ir25, q1, hr, go_sem, Nat.reduceAdd, Nat.reduceMul, Nat.reduceSub, Nat.reduceLeDiff, Nat.reduceEqDiff, Nat.reduceBEq, Nat.reduceLT, Int.reduceLE, Int.reduceLT, Int.reduceEq, Int.reduceNeg, Int.reduceAdd, Int.reduceMul, Int.reduceSub, Int.reduceToNat, reduceCtorEq, reduceIte]
theorem body_RText (ev : FuncId → List DV → Heap → Res DV) (s : ByteArray) (hs : s.size ≤ 80000) (q1 : ∀ h, callP ev 17 [I s.size] h = .ok (.sl .own 1 (u8s (put s.size))) h) :
    evalF ev NN ir26 [S s] [] = .ok (.sl .own 1 (u8s (put s.size ++ sb s))) [] := by
  have hp := put_len s.size
  have hr : ((put s.size).length + (sb s).length) * 2 ≤ room := by rw [len_sb]; simp only [room]; omega
  simp -implicitDefEqProofs only [ir26, q1, hr, go_sem, Nat.reduceAdd, Nat.reduceMul, Nat.reduceSub, Nat.reduceLeDiff, Nat.reduceEqDiff, Nat.reduceBEq, Nat.reduceLT, Int.reduceLE, Int.reduceLT, Int.reduceEq, Int.reduceNeg, Int.reduceAdd, Int.reduceMul, Int.reduceSub, Int.reduceToNat, reduceCtorEq, reduceIte]
theorem p_Text (s : ByteArray) (hs : s.size ≤ 80000) : callP (evalCall fns NN (d + 2)) 25 [S s] h = .ok (.sl .own 1 (u8s (put s.size ++ sb s))) h :=
  callP_of (v := .sl .own 1 (u8s (put s.size ++ sb s))) (h' := []) rfl rfl (by rw [call_eq rfl]; exact body_Text _ s hs (fun h => p_Put _ (by omega) (by omega))) (by simp -implicitDefEqProofs only [go_sem, Nat.reduceAdd, Nat.reduceMul, Nat.reduceSub, Nat.reduceLeDiff, Nat.reduceEqDiff, Nat.reduceBEq, Nat.reduceLT, Int.reduceLE, Int.reduceLT, Int.reduceEq, Int.reduceNeg, Int.reduceAdd, Int.reduceMul, Int.reduceSub, Int.reduceToNat, reduceCtorEq, reduceIte])
theorem p_RText (s : ByteArray) (hs : s.size ≤ 80000) : callP (evalCall fns NN (d + 3)) 26 [S s] h = .ok (.sl .own 1 (u8s (put s.size ++ sb s))) h :=
  callP_of (v := .sl .own 1 (u8s (put s.size ++ sb s))) (h' := []) rfl rfl (by rw [call_eq rfl]; exact body_RText _ s hs (fun h => p_RPut _ (by omega) (by omega))) (by simp -implicitDefEqProofs only [go_sem, Nat.reduceAdd, Nat.reduceMul, Nat.reduceSub, Nat.reduceLeDiff, Nat.reduceEqDiff, Nat.reduceBEq, Nat.reduceLT, Int.reduceLE, Int.reduceLT, Int.reduceEq, Int.reduceNeg, Int.reduceAdd, Int.reduceMul, Int.reduceSub, Int.reduceToNat, reduceCtorEq, reduceIte])

/-- What text is got of bytes. -/
def textV (b : List Int) : DV := match getF 0 0 b with
  | some (w, n) => if 0 ≤ unzz w ∧ unzz w ≤ b.length - n then .tup [S (bst ((b.drop n).take (unzz w).toNat)), I (n + unzz w), I 0] else .tup [S ⟨#[]⟩, I 0, I 3]
  | none => .tup [S ⟨#[]⟩, I 0, I 3]

theorem body_GetText (ev : FuncId → List DV → Heap → Res DV) (b : List Int) (mb : Mode) (hl : b.length ≤ 90000) (hb : ∀ x ∈ b, 0 ≤ x ∧ x < 256)
    (q : ∀ h m, callP ev 18 [.sl m 1 (u8s b)] h = .ok (getV b) h) : evalF ev NN ir20 [.sl mb 1 (u8s b)] [] = .ok (textV b) [] := by
  unfold textV
  unfold getV at q
  cases hg : getF 0 0 b with
  | none =>
    simp only [hg] at q
    simp -implicitDefEqProofs only [ir20, q, go_sem, Nat.reduceAdd, Nat.reduceMul, Nat.reduceSub, Nat.reduceLeDiff, Nat.reduceEqDiff, Nat.reduceBEq, Nat.reduceLT, Int.reduceLE, Int.reduceLT, Int.reduceEq, Int.reduceNeg, Int.reduceAdd, Int.reduceMul, Int.reduceSub, Int.reduceToNat, reduceCtorEq, reduceIte]
  | some o =>
    obtain ⟨w, n⟩ := o
    simp only [hg] at q
    obtain ⟨g1, g2, g3, g4, g5⟩ := get_dec hb hg
    dsimp only
    generalize unzz w = t at *
    have ws : IntKind.i64.wrap ((b.length : Int) - (n : Int)) = (b.length : Int) - (n : Int) := wrap64_id (by omega) (by omega)
    by_cases h0 : 0 ≤ t
    · have h0' : ¬ t < 0 := by omega
      by_cases h1 : t ≤ (b.length : Int) - (n : Int)
      · have h1' : ¬ (b.length : Int) - (n : Int) < t := by omega
        have wa : IntKind.i64.wrap ((n : Int) + t) = (n : Int) + t := wrap64_id (by omega) (by omega)
        have c1 : (n : Int) ≤ (n : Int) + t := by omega
        have c2 : (n : Int) + t ≤ (b.length : Int) := by omega
        have c3 : ((n : Int) + t).toNat - n = t.toNat := by omega
        have c4 : 0 ≤ (n : Int) := by omega
        rw [if_pos ⟨h0, h1⟩]
        simp -implicitDefEqProofs only [ir20, q, ws, h0, h0', h1, h1', wa, c1, c2, c3, c4, go_sem, Nat.reduceAdd, Nat.reduceMul, Nat.reduceSub, Nat.reduceLeDiff, Nat.reduceEqDiff, Nat.reduceBEq, Nat.reduceLT, Int.reduceLE, Int.reduceLT, Int.reduceEq, Int.reduceNeg, Int.reduceAdd, Int.reduceMul, Int.reduceSub, Int.reduceToNat, reduceCtorEq, reduceIte]
      · have h1' : (b.length : Int) - (n : Int) < t := by omega
        rw [if_neg (by omega)]
        simp -implicitDefEqProofs only [ir20, q, ws, h0, h0', h1, h1', go_sem, Nat.reduceAdd, Nat.reduceMul, Nat.reduceSub, Nat.reduceLeDiff, Nat.reduceEqDiff, Nat.reduceBEq, Nat.reduceLT, Int.reduceLE, Int.reduceLT, Int.reduceEq, Int.reduceNeg, Int.reduceAdd, Int.reduceMul, Int.reduceSub, Int.reduceToNat, reduceCtorEq, reduceIte]
    · have h0' : t < 0 := by omega
      rw [if_neg (by omega)]
      simp -implicitDefEqProofs only [ir20, q, ws, h0, h0', go_sem, Nat.reduceAdd, Nat.reduceMul, Nat.reduceSub, Nat.reduceLeDiff, Nat.reduceEqDiff, Nat.reduceBEq, Nat.reduceLT, Int.reduceLE, Int.reduceLT, Int.reduceEq, Int.reduceNeg, Int.reduceAdd, Int.reduceMul, Int.reduceSub, Int.reduceToNat, reduceCtorEq, reduceIte]

theorem p_GetText (b : List Int) (mb : Mode) (hl : b.length ≤ 90000) (hb : ∀ x ∈ b, 0 ≤ x ∧ x < 256) : callP (evalCall fns NN (d + 2)) 20 [.sl mb 1 (u8s b)] h = .ok (textV b) h := by
  have hv : ∀ h' : Heap, look h' (textV b) = textV b ∧ free (textV b) = true := by intro h'; unfold textV; split <;> (try split) <;> exact ⟨rfl, rfl⟩
  have q := callP_of (ev := evalCall fns NN (d + 2)) (h := h) (f := 20) (args := [.sl mb 1 (u8s b)]) (v := textV b) (h' := []) (by simp -implicitDefEqProofs only [go_sem, Nat.reduceAdd, Nat.reduceMul, Nat.reduceSub, Nat.reduceLeDiff, Nat.reduceEqDiff, Nat.reduceBEq, Nat.reduceLT, Int.reduceLE, Int.reduceLT, Int.reduceEq, Int.reduceNeg, Int.reduceAdd, Int.reduceMul, Int.reduceSub, Int.reduceToNat, reduceCtorEq, reduceIte]) rfl (by rw [call_eq rfl]; exact body_GetText _ b mb hl hb (fun h m => p_Get b m hl hb)) (by rw [(hv []).1]; exact (hv []).2)
  rw [q, (hv []).1]

theorem textV_put (s : ByteArray) (hs : s.size ≤ 80000) (r : List Int) : textV (put s.size ++ sb s ++ r) = .tup [S s, I (put s.size ++ sb s).length, I 0] := by
  have hin : inI (s.size : Int) := ⟨by omega, by omega⟩
  unfold textV
  rw [List.append_assoc, get_put hin]
  simp only [unzz_zz]
  rw [if_pos ⟨by omega, by simp only [List.length_append, len_sb]; omega⟩]
  rw [List.drop_left, Int.toNat_natCast, ← len_sb, List.take_left, bst_sb, List.length_append]
  simp
theorem textV_short (s : ByteArray) (hs : s.size ≤ 80000) : textV ((put s.size ++ sb s).take ((put s.size ++ sb s).length - 1)) = .tup [S ⟨#[]⟩, I 0, I 3] := by
  have hin : inI (s.size : Int) := ⟨by omega, by omega⟩
  have hl := len_sb s
  by_cases h0 : s.size = 0
  · have e : sb s = [] := List.eq_nil_of_length_eq_zero (by omega)
    rw [e, h0]
    rfl
  · unfold textV
    have e : (put s.size ++ sb s).take ((put s.size ++ sb s).length - 1) = put s.size ++ (sb s).take (s.size - 1) := by
      rw [List.take_append, List.take_of_length_le (by simp; omega)]
      congr 2
      simp; omega
    rw [e, get_put hin]
    simp only [unzz_zz]
    rw [if_neg (by simp only [List.length_append, List.length_take, len_sb]; omega)]

theorem body_Texts (ev : FuncId → List DV → Heap → Res DV) (ha : ∀ h, callP ev 14 [] h = .ok (B true) h) (s : ByteArray) (l : List Int) (ml : Mode) (hb : ∀ x ∈ l, 0 ≤ x ∧ x < 256)
    (q1 : ∀ h, s.size ≤ 80000 → callP ev 25 [S s] h = .ok (.sl .own 1 (u8s (put s.size ++ sb s))) h)
    (q2 : ∀ h, s.size ≤ 80000 → callP ev 26 [S s] h = .ok (.sl .own 1 (u8s (put s.size ++ sb s))) h)
    (q3 : ∀ h m (b : List Int), b.length ≤ 90000 → (∀ x ∈ b, 0 ≤ x ∧ x < 256) → callP ev 20 [.sl m 1 (u8s b)] h = .ok (textV b) h)
    (q4 : ∀ h (a : List Int) ma mb, a.length ≤ 90000 → callP ev 15 [.sl ma 1 (u8s a), .sl mb 1 (u8s a)] h = .ok (B true) h) :
    evalF ev NN ir7 [S s, .sl ml 1 (u8s l)] [] = .ok (B true) [] := by
  by_cases hs : s.size ≤ 1000
  · have hs' : ¬ (1000 : Int) < (s.size : Int) := by omega
    by_cases hl : l.length ≤ 1000
    · have hl' : ¬ (1000 : Int) < (l.length : Int) := by omega
      have p1 := fun h => q1 h (by omega)
      have p2 := fun h => q2 h (by omega)
      have hp := put_len s.size
      have hlen : (put s.size ++ sb s).length ≤ 1010 := by simp only [List.length_append, len_sb]; omega
      have hby : ∀ x ∈ put s.size ++ sb s, 0 ≤ x ∧ x < 256 := fun x hx => (List.mem_append.1 hx).elim (put_bytes _ x) (sb_bytes s x)
      have p4 := fun h ma mb => q4 h (put s.size ++ sb s) ma mb (by omega)
      have p3 := fun h m => q3 h m (put s.size ++ sb s ++ l) (by rw [List.length_append]; omega) (fun x hx => (List.mem_append.1 hx).elim (hby x) (hb x))
      have p5 := fun h m => q3 h m ((put s.size ++ sb s).take ((put s.size ++ sb s).length - 1)) (by rw [List.length_take]; omega) (fun x hx => hby x (List.mem_of_mem_take hx))
      simp only [textV_put s (by omega), textV_short s (by omega)] at p3 p5
      have hpos : 1 ≤ (put s.size ++ sb s).length := by
        rw [List.length_append]
        have := enc_ne (f := 10) (u := (zz s.size).toNat) (by omega)
        unfold put
        cases hh : enc 10 (zz s.size).toNat with
        | nil => exact absurd hh this
        | cons => simp; omega
      generalize put s.size ++ sb s = b at *
      have hr : (b.length + l.length) * 2 ≤ room := by simp only [room]; omega
      have w1 : IntKind.i64.wrap ((b.length : Int) - 1) = ((b.length - 1 : Nat) : Int) := by rw [wrap64_id (by omega) (by omega)]; omega
      have w2 : ((b.length - 1 : Nat) : Int) ≤ (b.length : Int) := by omega
      have w3 : (if (0 : Int) < ((b.length - 1 : Nat) : Int) then ((b.length - 1 : Nat) : Int) else 0) = ((b.length - 1 : Nat) : Int) := by split <;> omega
      simp -implicitDefEqProofs only [ir7, ha, p1, p2, p3, p4, p5, hs', hl', hr, w1, w2, w3, go_sem, Nat.reduceAdd, Nat.reduceMul, Nat.reduceSub, Nat.reduceLeDiff, Nat.reduceEqDiff, Nat.reduceBEq, Nat.reduceLT, Int.reduceLE, Int.reduceLT, Int.reduceEq, Int.reduceNeg, Int.reduceAdd, Int.reduceMul, Int.reduceSub, Int.reduceToNat, reduceCtorEq, reduceIte]
    · have hl' : (1000 : Int) < (l.length : Int) := by omega
      simp -implicitDefEqProofs only [ir7, ha, hs', hl', go_sem, Nat.reduceAdd, Nat.reduceMul, Nat.reduceSub, Nat.reduceLeDiff, Nat.reduceEqDiff, Nat.reduceBEq, Nat.reduceLT, Int.reduceLE, Int.reduceLT, Int.reduceEq, Int.reduceNeg, Int.reduceAdd, Int.reduceMul, Int.reduceSub, Int.reduceToNat, reduceCtorEq, reduceIte]
  · have hs' : (1000 : Int) < (s.size : Int) := by omega
    simp -implicitDefEqProofs only [ir7, ha, hs', go_sem, Nat.reduceAdd, Nat.reduceMul, Nat.reduceSub, Nat.reduceLeDiff, Nat.reduceEqDiff, Nat.reduceBEq, Nat.reduceLT, Int.reduceLE, Int.reduceLT, Int.reduceEq, Int.reduceNeg, Int.reduceAdd, Int.reduceMul, Int.reduceSub, Int.reduceToNat, reduceCtorEq, reduceIte]

theorem law_Texts (d : Nat) (s : ByteArray) (l : List Int) (ml : Mode) (hb : ∀ x ∈ l, 0 ≤ x ∧ x < 256) : evalCall fns NN (d + 11) 7 [S s, .sl ml 1 (u8s l)] [] = .ok (B true) [] := by
  rw [call_eq rfl]
  exact body_Texts _ (fun h => p_alive) s l ml hb (fun h hs => p_Text (d := d + 8) s hs) (fun h hs => p_RText (d := d + 7) s hs) (fun h m b hl hb => p_GetText (d := d + 8) b m hl hb)
    (fun h a ma mb hl => by simpa using p_Same (d := d + 9) a a ma mb hl)
end Go.D.Wire
