/- The law MemApart of 'mem', in the evaluator. -/
import Derived.Test.YtjheedldiikpnaaQqMemH
set_option linter.unusedSimpArgs false
set_option linter.unusedVariables false
namespace Go.D.Mem
open Go.D
set_option maxRecDepth 10000
variable {d : Nat} {h : Heap}
set_option maxHeartbeats 1000000

def good (n : Nat) (a : A4) : Prop := right a.1 a.2.1 a.2.2.1 a.2.2.2 = true ∧ a.2.1.toNat < n
theorem stepA_good {m : List Int} {a : A4} (h : good m.length a) : ∃ was, m[a.2.1.toNat]? = some was ∧ stepA m a = (m.set a.2.1.toNat (next was a.1 a.2.2.1 a.2.2.2).1, (was, (next was a.1 a.2.2.1 a.2.2.2).2), 0) := by
  obtain ⟨h1, h2⟩ := h
  obtain ⟨was, hw⟩ : ∃ was, m[a.2.1.toNat]? = some was := ⟨_, List.getElem?_eq_getElem h2⟩
  exact ⟨was, hw, by simp [stepA, step, h1, hw]⟩
theorem stepA_bad {m : List Int} {a : A4} (h : ¬ good m.length a) : (stepA m a).2.2 ≠ 0 := by
  unfold stepA step
  split
  · rename_i h1
    split
    · rename_i was hw
      exact absurd ⟨h1, (List.getElem?_eq_some_iff.1 hw).1⟩ h
    · simp
  · simp
theorem runA_two_bad {m : List Int} {a b : A4} (h : ¬ (good m.length a ∧ good m.length b)) : (allOf m [a, b]).2.2 ≠ 0 := by
  have key : (runA m [a, b]).2.2 ≠ 0 := by
    simp only [runA]
    by_cases ha : good m.length a
    · have hb : ¬ good m.length b := fun hb => h ⟨ha, hb⟩
      have : (stepA (stepA m a).1 b).2.2 ≠ 0 := stepA_bad (by rw [stepA_len]; exact hb)
      split
      · simp [this]
      · rename_i h0; exact h0
    · have := stepA_bad ha
      simp [this]
  unfold allOf
  rw [if_neg key]
  exact key
theorem runA_two {m : List Int} {a b : A4} (ha : (stepA m a).2.2 = 0) (hb : (stepA (stepA m a).1 b).2.2 = 0) : allOf m [a, b] = ((stepA (stepA m a).1 b).1, [(stepA m a).2.1, (stepA (stepA m a).1 b).2.1], 0) := by
  simp [allOf, runA, ha, hb]

theorem wrap_wrap (u y : Int) : IntKind.i64.wrap (IntKind.i64.wrap u + y) = IntKind.i64.wrap (u + y) := by
  simp only [IntKind.wrap, IntKind.signed, IntKind.bits, Bool.true_and, ge_iff_le, decide_eq_true_eq]
  split <;> split <;> split <;> omega

theorem apart_plain (m : List Int) (a b : A4) (h : a.2.1 ≠ b.2.1 ∨ (a.1 = b.1 ∧ (a.1 = 1 ∨ a.1 = 4))) :
    ((allOf m [a, b]).2.2 ≠ 0 ∧ (allOf m [b, a]).2.2 ≠ 0) ∨
    ∃ x r0 r1 s0 s1, allOf m [a, b] = (x, [r0, r1], 0) ∧ allOf m [b, a] = (x, [s0, s1], 0) ∧ ((a.2.1 = b.2.1 ∧ a.1 = 4) ∨ (r0 = s1 ∧ r1 = s0)) := by
  by_cases hg : good m.length a ∧ good m.length b
  · right
    obtain ⟨ha, hb⟩ := hg
    obtain ⟨wa, wa1, wa2⟩ := stepA_good ha
    obtain ⟨wb, wb1, wb2⟩ := stepA_good hb
    obtain ⟨vb, vb1, vb2⟩ := stepA_good (m := (stepA m a).1) (a := b) (by rw [stepA_len]; exact hb)
    obtain ⟨va, va1, va2⟩ := stepA_good (m := (stepA m b).1) (a := a) (by rw [stepA_len]; exact ha)
    have e1 := runA_two (m := m) (a := a) (b := b) (by rw [wa2]) (by rw [vb2])
    have e2 := runA_two (m := m) (a := b) (b := a) (by rw [wb2]) (by rw [va2])
    have pa := right_pos ha.1
    have pb := right_pos hb.1
    have la := ha.2
    have lb := hb.2
    rw [e1, e2, vb2, va2]
    rw [wa2] at vb1 ⊢
    rw [wb2] at va1 ⊢
    simp only at va1 vb1 ⊢
    by_cases hc : a.2.1 = b.2.1
    · have hk := h.resolve_left (fun hne => hne hc)
      obtain ⟨hk1, hk2⟩ := hk
      rw [hc] at wa1 va1 vb1
      rw [List.getElem?_set_self (by omega)] at va1 vb1
      rw [wb1] at wa1
      simp only [Option.some.injEq] at wa1 va1 vb1
      subst wa1
      rw [hc, List.set_set, List.set_set]
      rcases hk2 with hk2 | hk2
      · have k2 : b.1 = 1 := by omega
        have n1 : ∀ w x y, next w 1 x y = (w, true) := fun w x y => by simp [next]
        rw [hk2, n1] at vb1
        rw [k2, n1] at va1
        simp only at va1 vb1
        subst va1 vb1
        rw [hk2, k2, n1, n1]
        exact ⟨_, _, _, _, _, rfl, rfl, .inr ⟨rfl, rfl⟩⟩
      · have k2 : b.1 = 4 := by omega
        have n1 : ∀ w x y, next w 4 x y = (IntKind.i64.wrap (w + y), true) := fun w x y => by simp [next]
        rw [hk2, n1] at vb1
        rw [k2, n1] at va1
        simp only at va1 vb1
        subst va1 vb1
        rw [hk2, k2, n1, n1]
        simp only [n1, wrap_wrap]
        rw [show wb + b.2.2.2 + a.2.2.2 = wb + a.2.2.2 + b.2.2.2 by omega]
        exact ⟨_, _, _, _, _, rfl, rfl, .inl ⟨trivial, trivial⟩⟩
    · have hne : a.2.1.toNat ≠ b.2.1.toNat := by omega
      rw [List.getElem?_set_ne hne, wb1] at vb1
      rw [List.getElem?_set_ne (Ne.symm hne), wa1] at va1
      simp only [Option.some.injEq] at va1 vb1
      subst va1 vb1
      exact ⟨_, _, _, _, _, rfl, by rw [List.set_comm _ _ hne], .inr ⟨rfl, rfl⟩⟩
  · left
    exact ⟨runA_two_bad hg, runA_two_bad fun ⟨x, y⟩ => hg ⟨y, x⟩⟩

theorem body_Apart (ev : FuncId → List DV → Heap → Res DV) (K : Ok ev) (m : List Int) (a b : A4) : evalF ev NN ir5 [mD m, aD a, aD b] [] = .ok (B true) [] := by
  have hs := K.shown
  obtain ⟨ka, ca, oa, na⟩ := a
  obtain ⟨kb, cb, ob, nb⟩ := b
  -- the guard's two marks
  have main : ¬ (100 : Int) < (m.length : Int) → (ca ≠ cb ∨ (ka = kb ∧ (ka = 1 ∨ ka = 4))) → evalF ev NN ir5 [mD m, .agg [I ka, I ca, I oa, I na], .agg [I kb, I cb, I ob, I nb]] [] = .ok (B true) [] := by
    intro hl hc
    have two : ∀ x y : A4, accs [x, y] = [.agg [I x.1, I x.2.1, I x.2.2.1, I x.2.2.2], .agg [I y.1, I y.2.1, I y.2.2.1, I y.2.2.2]] := fun x y => rfl
    have q1 : ∀ h, callP ev 17 [.agg [.sl .view 1 (ints m)], .sl .view 4 [.agg [I ka, I ca, I oa, I na], .agg [I kb, I cb, I ob, I nb]]] h = .ok (allD m [(ka, ca, oa, na), (kb, cb, ob, nb)]) h := fun h => by
      have := K.allM h m [(ka, ca, oa, na), (kb, cb, ob, nb)] .view (by omega) (by simp)
      rwa [two] at this
    have q2 : ∀ h, callP ev 17 [.agg [.sl .view 1 (ints m)], .sl .view 4 [.agg [I kb, I cb, I ob, I nb], .agg [I ka, I ca, I oa, I na]]] h = .ok (allD m [(kb, cb, ob, nb), (ka, ca, oa, na)]) h := fun h => by
      have := K.allM h m [(kb, cb, ob, nb), (ka, ca, oa, na)] .view (by omega) (by simp)
      rwa [two] at this
    rcases apart_plain m (ka, ca, oa, na) (kb, cb, ob, nb) hc with ⟨e1, e2⟩ | ⟨x, r0, r1, s0, s1, e1, e2, hr⟩
    · generalize hA : allOf m [(ka, ca, oa, na), (kb, cb, ob, nb)] = A at *
      generalize hB : allOf m [(kb, cb, ob, nb), (ka, ca, oa, na)] = Bv at *
      simp only [allD, hA] at q1
      simp only [allD, hB] at q2
      by_cases hk : ka = kb
      · subst hk
        by_cases k1 : ka = 1
        · subst k1
          by_cases hcc : ca = cb
          · subst hcc; simp -implicitDefEqProofs only [ir5, hs, hl, q1, q2, e1, e2, go_sem, Nat.reduceAdd, Nat.reduceMul, Nat.reduceSub, Nat.reduceLeDiff, Nat.reduceEqDiff, Nat.reduceBEq, Nat.reduceLT, Int.reduceLE, Int.reduceLT, Int.reduceEq, Int.reduceNeg, Int.reduceAdd, Int.reduceMul, Int.reduceSub, Int.reduceToNat, reduceCtorEq, reduceIte]
          · simp -implicitDefEqProofs only [ir5, hs, hl, q1, q2, e1, e2, hcc, go_sem, Nat.reduceAdd, Nat.reduceMul, Nat.reduceSub, Nat.reduceLeDiff, Nat.reduceEqDiff, Nat.reduceBEq, Nat.reduceLT, Int.reduceLE, Int.reduceLT, Int.reduceEq, Int.reduceNeg, Int.reduceAdd, Int.reduceMul, Int.reduceSub, Int.reduceToNat, reduceCtorEq, reduceIte]
        · by_cases k4 : ka = 4
          · subst k4
            by_cases hcc : ca = cb
            · subst hcc; simp -implicitDefEqProofs only [ir5, hs, hl, q1, q2, e1, e2, go_sem, Nat.reduceAdd, Nat.reduceMul, Nat.reduceSub, Nat.reduceLeDiff, Nat.reduceEqDiff, Nat.reduceBEq, Nat.reduceLT, Int.reduceLE, Int.reduceLT, Int.reduceEq, Int.reduceNeg, Int.reduceAdd, Int.reduceMul, Int.reduceSub, Int.reduceToNat, reduceCtorEq, reduceIte]
            · simp -implicitDefEqProofs only [ir5, hs, hl, q1, q2, e1, e2, hcc, go_sem, Nat.reduceAdd, Nat.reduceMul, Nat.reduceSub, Nat.reduceLeDiff, Nat.reduceEqDiff, Nat.reduceBEq, Nat.reduceLT, Int.reduceLE, Int.reduceLT, Int.reduceEq, Int.reduceNeg, Int.reduceAdd, Int.reduceMul, Int.reduceSub, Int.reduceToNat, reduceCtorEq, reduceIte]
          · have hcc : ¬ ca = cb := by omega
            simp -implicitDefEqProofs only [ir5, hs, hl, q1, q2, e1, e2, hcc, k1, k4, go_sem, Nat.reduceAdd, Nat.reduceMul, Nat.reduceSub, Nat.reduceLeDiff, Nat.reduceEqDiff, Nat.reduceBEq, Nat.reduceLT, Int.reduceLE, Int.reduceLT, Int.reduceEq, Int.reduceNeg, Int.reduceAdd, Int.reduceMul, Int.reduceSub, Int.reduceToNat, reduceCtorEq, reduceIte]
      · have hcc : ¬ ca = cb := by omega
        simp -implicitDefEqProofs only [ir5, hs, hl, q1, q2, e1, e2, hcc, hk, go_sem, Nat.reduceAdd, Nat.reduceMul, Nat.reduceSub, Nat.reduceLeDiff, Nat.reduceEqDiff, Nat.reduceBEq, Nat.reduceLT, Int.reduceLE, Int.reduceLT, Int.reduceEq, Int.reduceNeg, Int.reduceAdd, Int.reduceMul, Int.reduceSub, Int.reduceToNat, reduceCtorEq, reduceIte]
    · have hx : x.length = m.length := by have := (allOf_len m [(ka, ca, oa, na), (kb, cb, ob, nb)]).1; rw [e1] at this; exact this
      have q3 := fun h => K.sameR h x x .view .view (by omega)
      simp only [allD, e1, tm, ress, List.map_cons, List.map_nil, res] at q1
      simp only [allD, e2, tm, ress, List.map_cons, List.map_nil, res] at q2
      by_cases hk : ka = kb
      · subst hk
        by_cases k1 : ka = 1
        · subst k1
          have hr' := hr.resolve_left (fun hh => by simp at hh)
          obtain ⟨rfl, rfl⟩ := hr'
          by_cases hcc : ca = cb
          · subst hcc; simp -implicitDefEqProofs only [ir5, hs, hl, q1, q2, q3, go_sem, Nat.reduceAdd, Nat.reduceMul, Nat.reduceSub, Nat.reduceLeDiff, Nat.reduceEqDiff, Nat.reduceBEq, Nat.reduceLT, Int.reduceLE, Int.reduceLT, Int.reduceEq, Int.reduceNeg, Int.reduceAdd, Int.reduceMul, Int.reduceSub, Int.reduceToNat, reduceCtorEq, reduceIte]
          · simp -implicitDefEqProofs only [ir5, hs, hl, q1, q2, q3, hcc, go_sem, Nat.reduceAdd, Nat.reduceMul, Nat.reduceSub, Nat.reduceLeDiff, Nat.reduceEqDiff, Nat.reduceBEq, Nat.reduceLT, Int.reduceLE, Int.reduceLT, Int.reduceEq, Int.reduceNeg, Int.reduceAdd, Int.reduceMul, Int.reduceSub, Int.reduceToNat, reduceCtorEq, reduceIte]
        · by_cases k4 : ka = 4
          · subst k4
            by_cases hcc : ca = cb
            · subst hcc; simp -implicitDefEqProofs only [ir5, hs, hl, q1, q2, q3, go_sem, Nat.reduceAdd, Nat.reduceMul, Nat.reduceSub, Nat.reduceLeDiff, Nat.reduceEqDiff, Nat.reduceBEq, Nat.reduceLT, Int.reduceLE, Int.reduceLT, Int.reduceEq, Int.reduceNeg, Int.reduceAdd, Int.reduceMul, Int.reduceSub, Int.reduceToNat, reduceCtorEq, reduceIte]
            · have hr' := hr.resolve_left (fun hh => hcc hh.1)
              obtain ⟨rfl, rfl⟩ := hr'
              simp -implicitDefEqProofs only [ir5, hs, hl, q1, q2, q3, hcc, go_sem, Nat.reduceAdd, Nat.reduceMul, Nat.reduceSub, Nat.reduceLeDiff, Nat.reduceEqDiff, Nat.reduceBEq, Nat.reduceLT, Int.reduceLE, Int.reduceLT, Int.reduceEq, Int.reduceNeg, Int.reduceAdd, Int.reduceMul, Int.reduceSub, Int.reduceToNat, reduceCtorEq, reduceIte]
          · have hcc : ¬ ca = cb := by omega
            have hr' := hr.resolve_left (fun hh => hcc hh.1)
            obtain ⟨rfl, rfl⟩ := hr'
            simp -implicitDefEqProofs only [ir5, hs, hl, q1, q2, q3, hcc, k1, k4, go_sem, Nat.reduceAdd, Nat.reduceMul, Nat.reduceSub, Nat.reduceLeDiff, Nat.reduceEqDiff, Nat.reduceBEq, Nat.reduceLT, Int.reduceLE, Int.reduceLT, Int.reduceEq, Int.reduceNeg, Int.reduceAdd, Int.reduceMul, Int.reduceSub, Int.reduceToNat, reduceCtorEq, reduceIte]
      · have hcc : ¬ ca = cb := by omega
        have hr' := hr.resolve_left (fun hh => hcc hh.1)
        obtain ⟨rfl, rfl⟩ := hr'
        simp -implicitDefEqProofs only [ir5, hs, hl, q1, q2, q3, hcc, hk, go_sem, Nat.reduceAdd, Nat.reduceMul, Nat.reduceSub, Nat.reduceLeDiff, Nat.reduceEqDiff, Nat.reduceBEq, Nat.reduceLT, Int.reduceLE, Int.reduceLT, Int.reduceEq, Int.reduceNeg, Int.reduceAdd, Int.reduceMul, Int.reduceSub, Int.reduceToNat, reduceCtorEq, reduceIte]
  by_cases hl : (100 : Int) < (m.length : Int)
  · by_cases hk : ka = kb
    · subst hk
      by_cases k1 : ka = 1
      · subst k1; simp -implicitDefEqProofs only [ir5, hs, hl, go_sem, Nat.reduceAdd, Nat.reduceMul, Nat.reduceSub, Nat.reduceLeDiff, Nat.reduceEqDiff, Nat.reduceBEq, Nat.reduceLT, Int.reduceLE, Int.reduceLT, Int.reduceEq, Int.reduceNeg, Int.reduceAdd, Int.reduceMul, Int.reduceSub, Int.reduceToNat, reduceCtorEq, reduceIte]
      · by_cases k4 : ka = 4
        · subst k4; simp -implicitDefEqProofs only [ir5, hs, hl, go_sem, Nat.reduceAdd, Nat.reduceMul, Nat.reduceSub, Nat.reduceLeDiff, Nat.reduceEqDiff, Nat.reduceBEq, Nat.reduceLT, Int.reduceLE, Int.reduceLT, Int.reduceEq, Int.reduceNeg, Int.reduceAdd, Int.reduceMul, Int.reduceSub, Int.reduceToNat, reduceCtorEq, reduceIte]
        · simp -implicitDefEqProofs only [ir5, hs, hl, k1, k4, go_sem, Nat.reduceAdd, Nat.reduceMul, Nat.reduceSub, Nat.reduceLeDiff, Nat.reduceEqDiff, Nat.reduceBEq, Nat.reduceLT, Int.reduceLE, Int.reduceLT, Int.reduceEq, Int.reduceNeg, Int.reduceAdd, Int.reduceMul, Int.reduceSub, Int.reduceToNat, reduceCtorEq, reduceIte]
    · simp -implicitDefEqProofs only [ir5, hs, hl, hk, go_sem, Nat.reduceAdd, Nat.reduceMul, Nat.reduceSub, Nat.reduceLeDiff, Nat.reduceEqDiff, Nat.reduceBEq, Nat.reduceLT, Int.reduceLE, Int.reduceLT, Int.reduceEq, Int.reduceNeg, Int.reduceAdd, Int.reduceMul, Int.reduceSub, Int.reduceToNat, reduceCtorEq, reduceIte]
  · by_cases hc : ca ≠ cb ∨ (ka = kb ∧ (ka = 1 ∨ ka = 4))
    · exact main hl hc
    · have hcc : ca = cb := by omega
      subst hcc
      by_cases hk : ka = kb
      · subst hk
        have k1 : ¬ ka = 1 := by omega
        have k4 : ¬ ka = 4 := by omega
        simp -implicitDefEqProofs only [ir5, hs, hl, k1, k4, go_sem, Nat.reduceAdd, Nat.reduceMul, Nat.reduceSub, Nat.reduceLeDiff, Nat.reduceEqDiff, Nat.reduceBEq, Nat.reduceLT, Int.reduceLE, Int.reduceLT, Int.reduceEq, Int.reduceNeg, Int.reduceAdd, Int.reduceMul, Int.reduceSub, Int.reduceToNat, reduceCtorEq, reduceIte]
      · simp -implicitDefEqProofs only [ir5, hs, hl, hk, go_sem, Nat.reduceAdd, Nat.reduceMul, Nat.reduceSub, Nat.reduceLeDiff, Nat.reduceEqDiff, Nat.reduceBEq, Nat.reduceLT, Int.reduceLE, Int.reduceLT, Int.reduceEq, Int.reduceNeg, Int.reduceAdd, Int.reduceMul, Int.reduceSub, Int.reduceToNat, reduceCtorEq, reduceIte]

theorem law_Apart (d : Nat) (m : List Int) (a b : A4) : evalCall fns NN (d + 11) 5 [mD m, aD a, aD b] [] = .ok (B true) [] := by
  rw [call_eq rfl]; exact body_Apart _ (ok_ev d) m a b
end Go.D.Mem
