/- What the functions of 'mem' compute: an access. -/
import Derived.Test.YtjheedldiikpnaaQqMemA
set_option linter.unusedSimpArgs false
set_option linter.unusedVariables false
namespace Go.D.Mem
open Go.D
set_option maxRecDepth 10000
variable {d : Nat} {h : Heap}
set_option maxHeartbeats 2000000

theorem wf_room {n : Nat} (hn : n ≤ 100000) : (n : Int) * 10 ≤ (room : Int) := by simp only [room]; omega

def step (l : List Int) (k c o n : Int) : List Int × (Int × Bool) × Int :=
  if right k c o n = true then
    match l[c.toNat]? with
    | some was => (l.set c.toNat (next was k o n).1, next was k o n |>.snd |> (was, ·), 0)
    | none => (l, (0, false), 12)
  else (l, (0, false), 1)

theorem right_pos {k c o n : Int} (hr : right k c o n = true) : 0 ≤ c := by
  simp only [right, Bool.and_eq_true, decide_eq_true_eq] at hr; exact hr.1

theorem p_Do (l : List Int) (k c o n : Int) (hl : l.length ≤ 100000) : callP (evalCall fns NN (d + 2)) 11 [mm l, acc k c o n] h =
    .ok (.tup [mm (step l k c o n).1, res (step l k c o n).2.1.1 (step l k c o n).2.1.2, I (step l k c o n).2.2]) h := by
  have hroom := wf_room hl
  cases hr : right k c o n with
  | false =>
    have e : step l k c o n = (l, (0, false), 1) := by simp [step, hr]
    rw [e]
    refine callP_of (v := .tup [mm l, res 0 false, I 1]) (h' := []) (by simp -implicitDefEqProofs only [mm, acc, go_sem, Nat.reduceAdd, Nat.reduceMul, Nat.reduceSub, Nat.reduceLeDiff, Nat.reduceEqDiff, Nat.reduceBEq, Nat.reduceLT, Int.reduceLE, Int.reduceLT, Int.reduceEq, Int.reduceNeg, Int.reduceAdd, Int.reduceMul, Int.reduceSub, Int.reduceToNat, reduceCtorEq, reduceIte]) rfl ?_ (by simp -implicitDefEqProofs only [mm, res, go_sem, Nat.reduceAdd, Nat.reduceMul, Nat.reduceSub, Nat.reduceLeDiff, Nat.reduceEqDiff, Nat.reduceBEq, Nat.reduceLT, Int.reduceLE, Int.reduceLT, Int.reduceEq, Int.reduceNeg, Int.reduceAdd, Int.reduceMul, Int.reduceSub, Int.reduceToNat, reduceCtorEq, reduceIte])
    rw [call_eq rfl]
    have q := p_Right (d := d) (h := []) k c o n
    simp only [acc] at q
    simp -implicitDefEqProofs only [ir11, acc, mm, res, q, hr, go_sem, Nat.reduceAdd, Nat.reduceMul, Nat.reduceSub, Nat.reduceLeDiff, Nat.reduceEqDiff, Nat.reduceBEq, Nat.reduceLT, Int.reduceLE, Int.reduceLT, Int.reduceEq, Int.reduceNeg, Int.reduceAdd, Int.reduceMul, Int.reduceSub, Int.reduceToNat, reduceCtorEq, reduceIte]
  | true =>
    have h0 := right_pos hr
    cases hg : l[c.toNat]? with
    | none =>
      have hlen : (l.length : Int) ≤ c := by
        have := List.getElem?_eq_none_iff.1 hg; omega
      have e : step l k c o n = (l, (0, false), 12) := by simp [step, hr, hg]
      rw [e]
      refine callP_of (v := .tup [mm l, res 0 false, I 12]) (h' := []) (by simp -implicitDefEqProofs only [mm, acc, go_sem, Nat.reduceAdd, Nat.reduceMul, Nat.reduceSub, Nat.reduceLeDiff, Nat.reduceEqDiff, Nat.reduceBEq, Nat.reduceLT, Int.reduceLE, Int.reduceLT, Int.reduceEq, Int.reduceNeg, Int.reduceAdd, Int.reduceMul, Int.reduceSub, Int.reduceToNat, reduceCtorEq, reduceIte]) rfl ?_ (by simp -implicitDefEqProofs only [mm, res, go_sem, Nat.reduceAdd, Nat.reduceMul, Nat.reduceSub, Nat.reduceLeDiff, Nat.reduceEqDiff, Nat.reduceBEq, Nat.reduceLT, Int.reduceLE, Int.reduceLT, Int.reduceEq, Int.reduceNeg, Int.reduceAdd, Int.reduceMul, Int.reduceSub, Int.reduceToNat, reduceCtorEq, reduceIte])
      rw [call_eq rfl]
      have q := p_Right (d := d) (h := []) k c o n
      simp only [acc] at q
      simp -implicitDefEqProofs only [ir11, acc, mm, res, q, hr, hlen, go_sem, Nat.reduceAdd, Nat.reduceMul, Nat.reduceSub, Nat.reduceLeDiff, Nat.reduceEqDiff, Nat.reduceBEq, Nat.reduceLT, Int.reduceLE, Int.reduceLT, Int.reduceEq, Int.reduceNeg, Int.reduceAdd, Int.reduceMul, Int.reduceSub, Int.reduceToNat, reduceCtorEq, reduceIte]
    | some was =>
      have hlt : c.toNat < l.length := (List.getElem?_eq_some_iff.1 hg).1
      have hlen : ¬ (l.length : Int) ≤ c := by omega
      have hlen' : c < (l.length : Int) := by omega
      have e : step l k c o n = (l.set c.toNat (next was k o n).1, (was, (next was k o n).2), 0) := by simp [step, hr, hg]
      rw [e]
      by_cases hn : (next was k o n).1 = was
      · have e2 : l.set c.toNat (next was k o n).1 = l := by
          rw [hn]
          have := List.getElem?_eq_some_iff.1 hg
          rw [← this.2, List.set_getElem_self]
        rw [e2]
        refine callP_of (v := .tup [mm l, res was (next was k o n).2, I 0]) (h' := []) (by simp -implicitDefEqProofs only [mm, acc, go_sem, Nat.reduceAdd, Nat.reduceMul, Nat.reduceSub, Nat.reduceLeDiff, Nat.reduceEqDiff, Nat.reduceBEq, Nat.reduceLT, Int.reduceLE, Int.reduceLT, Int.reduceEq, Int.reduceNeg, Int.reduceAdd, Int.reduceMul, Int.reduceSub, Int.reduceToNat, reduceCtorEq, reduceIte]) rfl ?_ (by simp -implicitDefEqProofs only [mm, res, go_sem, Nat.reduceAdd, Nat.reduceMul, Nat.reduceSub, Nat.reduceLeDiff, Nat.reduceEqDiff, Nat.reduceBEq, Nat.reduceLT, Int.reduceLE, Int.reduceLT, Int.reduceEq, Int.reduceNeg, Int.reduceAdd, Int.reduceMul, Int.reduceSub, Int.reduceToNat, reduceCtorEq, reduceIte])
        rw [call_eq rfl]
        have q := p_Right (d := d) (h := []) k c o n
        have q2 := p_next (d := d) (h := []) was k c o n
        simp only [acc] at q q2
        simp -implicitDefEqProofs only [ir11, acc, mm, res, q, q2, hr, hlen, hg, h0, hn, go_sem, Nat.reduceAdd, Nat.reduceMul, Nat.reduceSub, Nat.reduceLeDiff, Nat.reduceEqDiff, Nat.reduceBEq, Nat.reduceLT, Int.reduceLE, Int.reduceLT, Int.reduceEq, Int.reduceNeg, Int.reduceAdd, Int.reduceMul, Int.reduceSub, Int.reduceToNat, reduceCtorEq, reduceIte]
      · have hlk : look [ints (l.set c.toNat (next was k o n).1)] (.hsl 0 0 l.length l.length 1 false) = .sl .view 1 (ints (l.set c.toNat (next was k o n).1)) := look_hsl_ints rfl (by simp)
        refine callP_of (v := .tup [.agg [.hsl 0 0 l.length l.length 1 false], res was (next was k o n).2, I 0]) (h' := [ints (l.set c.toNat (next was k o n).1)]) (by simp -implicitDefEqProofs only [mm, acc, go_sem, Nat.reduceAdd, Nat.reduceMul, Nat.reduceSub, Nat.reduceLeDiff, Nat.reduceEqDiff, Nat.reduceBEq, Nat.reduceLT, Int.reduceLE, Int.reduceLT, Int.reduceEq, Int.reduceNeg, Int.reduceAdd, Int.reduceMul, Int.reduceSub, Int.reduceToNat, reduceCtorEq, reduceIte]) rfl ?_ ?_ |>.trans ?_
        · rw [call_eq rfl]
          have q := p_Right (d := d) (h := []) k c o n
          have q2 := p_next (d := d) (h := []) was k c o n
          simp only [acc] at q q2
          simp -implicitDefEqProofs only [ir11, acc, mm, res, q, q2, hr, hlen, hlen', hlt, Nat.succ_le_of_lt hlt, hg, h0, hn, hroom, go_sem, Nat.reduceAdd, Nat.reduceMul, Nat.reduceSub, Nat.reduceLeDiff, Nat.reduceEqDiff, Nat.reduceBEq, Nat.reduceLT, Int.reduceLE, Int.reduceLT, Int.reduceEq, Int.reduceNeg, Int.reduceAdd, Int.reduceMul, Int.reduceSub, Int.reduceToNat, reduceCtorEq, reduceIte]
        · simp -implicitDefEqProofs only [res, hlk, go_sem, Nat.reduceAdd, Nat.reduceMul, Nat.reduceSub, Nat.reduceLeDiff, Nat.reduceEqDiff, Nat.reduceBEq, Nat.reduceLT, Int.reduceLE, Int.reduceLT, Int.reduceEq, Int.reduceNeg, Int.reduceAdd, Int.reduceMul, Int.reduceSub, Int.reduceToNat, reduceCtorEq, reduceIte]
        · simp -implicitDefEqProofs only [mm, res, hlk, go_sem, Nat.reduceAdd, Nat.reduceMul, Nat.reduceSub, Nat.reduceLeDiff, Nat.reduceEqDiff, Nat.reduceBEq, Nat.reduceLT, Int.reduceLE, Int.reduceLT, Int.reduceEq, Int.reduceNeg, Int.reduceAdd, Int.reduceMul, Int.reduceSub, Int.reduceToNat, reduceCtorEq, reduceIte]
end Go.D.Mem
