/- What 'ring' and its reference compute: what is moved. -/
import Derived.Test.YtcnancgfgokghaaQqRingR1
import Derived.Test.YtcnancgfgokghaaQqPrs
set_option linter.unusedSimpArgs false
set_option linter.unusedVariables false
namespace Go.D.Ring
open Go.D
set_option maxRecDepth 10000
set_option maxHeartbeats 1000000
variable {d : Nat} {h : Heap}

theorem take_moreP {α : Type} {a b : List α} {k : Nat} {x y : α} (ha : a[k]? = some x) (hb : b[k]? = some y) (ht : a.take k = b.take k) : a.take (k + 1) = b.take (k + 1) ↔ x = y := by
  rw [List.take_add_one, List.take_add_one, ha, hb, ht]; simp
theorem loop_Pairs (ev : FuncId → List DV → Heap → Res DV) (a b : List (Int × Int)) (ma mb : Mode) (hab : a.length = b.length) (hl : a.length ≤ 100000) : ∀ n k, k ≤ a.length → a.length - k < n → a.take k = b.take k → ∀ (v3 x4 x5 : DV), ∃ y4 y5 y6,
    iter (evalC ev NN ir14_l0) n ⟨[.sl ma 2 (prs a), .sl mb 2 (prs b), B false, v3, x4, x5, I k], [], h⟩ =
      if a = b then .exit 0 ⟨[.sl ma 2 (prs a), .sl mb 2 (prs b), B false, v3, y4, y5, y6], [], h⟩ else .ret ⟨[.sl ma 2 (prs a), .sl mb 2 (prs b), B false, v3, y4, y5, y6], [], h⟩ := by
  intro n
  induction n with
  | zero => intro k _ h2; omega
  | succ n ih =>
    intro k hk hn ht v3 x4 x5
    by_cases hlt : k < a.length
    · obtain ⟨x, hx⟩ : ∃ x, a[k]? = some x := ⟨_, List.getElem?_eq_getElem hlt⟩
      obtain ⟨y, hy⟩ : ∃ y, b[k]? = some y := ⟨_, List.getElem?_eq_getElem (by omega)⟩
      have hlt' : (k : Int) < (a.length : Int) := by omega
      obtain ⟨x1, x2⟩ := x
      obtain ⟨y1, y2⟩ := y
      by_cases hxy : x1 = y1 ∧ x2 = y2
      · obtain ⟨rfl, rfl⟩ := hxy
        obtain ⟨y4, y5, y6, e⟩ := ih (k + 1) (by omega) (by omega) ((take_moreP hx hy ht).2 rfl) v3 (B true) (B false)
        refine ⟨y4, y5, y6, ?_⟩
        simp -implicitDefEqProofs only [iter, ir14_l0, hlt', hx, hy, wrap_succ (show k < 4611686018427387904 by omega), go_sem, Nat.reduceAdd, Nat.reduceMul, Nat.reduceSub, Nat.reduceLeDiff, Nat.reduceEqDiff, Nat.reduceBEq, Nat.reduceLT, Int.reduceLE, Int.reduceLT, Int.reduceEq, Int.reduceNeg, Int.reduceAdd, Int.reduceMul, Int.reduceSub, Int.reduceToNat, reduceCtorEq, ↓reduceIte]
        exact e
      · refine ⟨B true, B true, I k, ?_⟩
        have hne : a ≠ b := fun e => hxy (by have := (take_moreP hx hy ht).1 (by rw [e]); exact ⟨congrArg Prod.fst this, congrArg Prod.snd this⟩)
        rw [if_neg hne]
        by_cases h1 : x1 = y1
        · have h2 : ¬ x2 = y2 := fun h2 => hxy ⟨h1, h2⟩
          simp -implicitDefEqProofs only [iter, ir14_l0, hlt', hx, hy, h1, h2, go_sem, Nat.reduceAdd, Nat.reduceMul, Nat.reduceSub, Nat.reduceLeDiff, Nat.reduceEqDiff, Nat.reduceBEq, Nat.reduceLT, Int.reduceLE, Int.reduceLT, Int.reduceEq, Int.reduceNeg, Int.reduceAdd, Int.reduceMul, Int.reduceSub, Int.reduceToNat, reduceCtorEq, ↓reduceIte]
        · simp -implicitDefEqProofs only [iter, ir14_l0, hlt', hx, hy, h1, go_sem, Nat.reduceAdd, Nat.reduceMul, Nat.reduceSub, Nat.reduceLeDiff, Nat.reduceEqDiff, Nat.reduceBEq, Nat.reduceLT, Int.reduceLE, Int.reduceLT, Int.reduceEq, Int.reduceNeg, Int.reduceAdd, Int.reduceMul, Int.reduceSub, Int.reduceToNat, reduceCtorEq, ↓reduceIte]
    · have hka : k = a.length := by omega
      subst hka
      have hlt' : ¬ ((a.length : Nat) : Int) < (a.length : Int) := by omega
      have he : a = b := by rwa [List.take_length, hab, List.take_length] at ht
      refine ⟨B false, x5, I a.length, ?_⟩
      rw [if_pos he]
      simp -implicitDefEqProofs only [iter, ir14_l0, hlt', go_sem, Nat.reduceAdd, Nat.reduceMul, Nat.reduceSub, Nat.reduceLeDiff, Nat.reduceEqDiff, Nat.reduceBEq, Nat.reduceLT, Int.reduceLE, Int.reduceLT, Int.reduceEq, Int.reduceNeg, Int.reduceAdd, Int.reduceMul, Int.reduceSub, Int.reduceToNat, reduceCtorEq, ↓reduceIte]
theorem p_Pairs (a b : List (Int × Int)) (ma mb : Mode) (hl : a.length ≤ 90000) : callP (evalCall fns NN (d + 1)) 14 [.sl ma 2 (prs a), .sl mb 2 (prs b)] h = .ok (B (decide (a = b))) h := by
  refine callP_of (v := B (decide (a = b))) (h' := []) (by simp -implicitDefEqProofs only [go_sem, Nat.reduceAdd, Nat.reduceMul, Nat.reduceSub, Nat.reduceLeDiff, Nat.reduceEqDiff, Nat.reduceBEq, Nat.reduceLT, Int.reduceLE, Int.reduceLT, Int.reduceEq, Int.reduceNeg, Int.reduceAdd, Int.reduceMul, Int.reduceSub, Int.reduceToNat, reduceCtorEq, ↓reduceIte]) rfl ?_ rfl
  rw [call_eq rfl]
  generalize evalCall fns NN d = ev
  by_cases hab : a.length = b.length
  · obtain ⟨y4, y5, y6, e⟩ := loop_Pairs ev (h := []) a b ma mb hab (by omega) NN 0 (by omega) (by unfold NN; omega) rfl (B false) .junk .junk
    simp only [cast0] at e
    by_cases he : a = b
    · rw [if_pos he] at e
      simp -implicitDefEqProofs only [ir14, hab, he, go_sem, Nat.reduceAdd, Nat.reduceMul, Nat.reduceSub, Nat.reduceLeDiff, Nat.reduceEqDiff, Nat.reduceBEq, Nat.reduceLT, Int.reduceLE, Int.reduceLT, Int.reduceEq, Int.reduceNeg, Int.reduceAdd, Int.reduceMul, Int.reduceSub, Int.reduceToNat, reduceCtorEq, ↓reduceIte] at e ⊢
      simp -implicitDefEqProofs only [e, go_sem, Nat.reduceAdd, Nat.reduceMul, Nat.reduceSub, Nat.reduceLeDiff, Nat.reduceEqDiff, Nat.reduceBEq, Nat.reduceLT, Int.reduceLE, Int.reduceLT, Int.reduceEq, Int.reduceNeg, Int.reduceAdd, Int.reduceMul, Int.reduceSub, Int.reduceToNat, reduceCtorEq, ↓reduceIte]
    · rw [if_neg he] at e
      simp -implicitDefEqProofs only [ir14, hab, he, go_sem, Nat.reduceAdd, Nat.reduceMul, Nat.reduceSub, Nat.reduceLeDiff, Nat.reduceEqDiff, Nat.reduceBEq, Nat.reduceLT, Int.reduceLE, Int.reduceLT, Int.reduceEq, Int.reduceNeg, Int.reduceAdd, Int.reduceMul, Int.reduceSub, Int.reduceToNat, reduceCtorEq, ↓reduceIte] at e ⊢
      simp -implicitDefEqProofs only [e, go_sem, Nat.reduceAdd, Nat.reduceMul, Nat.reduceSub, Nat.reduceLeDiff, Nat.reduceEqDiff, Nat.reduceBEq, Nat.reduceLT, Int.reduceLE, Int.reduceLT, Int.reduceEq, Int.reduceNeg, Int.reduceAdd, Int.reduceMul, Int.reduceSub, Int.reduceToNat, reduceCtorEq, ↓reduceIte]
  · have he : a ≠ b := fun e => hab (by rw [e])
    have hab' : ¬ ((a.length : Int) = (b.length : Int)) := by omega
    simp -implicitDefEqProofs only [ir14, hab', he, go_sem, Nat.reduceAdd, Nat.reduceMul, Nat.reduceSub, Nat.reduceLeDiff, Nat.reduceEqDiff, Nat.reduceBEq, Nat.reduceLT, Int.reduceLE, Int.reduceLT, Int.reduceEq, Int.reduceNeg, Int.reduceAdd, Int.reduceMul, Int.reduceSub, Int.reduceToNat, reduceCtorEq, ↓reduceIte]

/-- What is moved. -/
def mvF (c : Cf) (l : Lf) (seat r top : Int) (n : Nat) : List (Int × Int) := (List.range n).map fun k : Nat => (placeF c l seat r (top + k), placeF c l seat (r + 1) (top + k))
theorem mvF_snoc (c : Cf) (l : Lf) (seat r top : Int) (n : Nat) : mvF c l seat r top n ++ [(placeF c l seat r (top + n), placeF c l seat (r + 1) (top + n))] = mvF c l seat r top (n + 1) :=
  range_snoc (fun k : Nat => (placeF c l seat r (top + k), placeF c l seat (r + 1) (top + k))) n
theorem mvF_len (c : Cf) (l : Lf) (seat r top : Int) (n : Nat) : (mvF c l seat r top n).length = n := by simp [mvF]

theorem loop_Moves (ev : FuncId → List DV → Heap → Res DV) (c : Cf) (l : Lf) (seat r top : Int) (v0 v1 v2 v4 v5 v6 v7 : DV) (h1 : 0 ≤ ringF c l seat r) (h2 : 0 ≤ ringF c l seat (r + 1)) (ht : 0 ≤ top) (m : Nat) (hm : m ≤ 64) (htm : top + m ≤ 9223372036854775807) (H : Heap)
    (q1 : ∀ i, 0 ≤ i → callP ev 33 [I i, .ptr 0 0, .ptr 1 0] H = .ok (I (ringF c l seat r + i % szF r)) H)
    (q2 : ∀ i, 0 ≤ i → callP ev 33 [I i, .ptr 2 0, .ptr 3 0] H = .ok (I (ringF c l seat (r + 1) + i % szF (r + 1))) H) : ∀ n k, k ≤ m → m - k < n → ∀ x8 x13, ∃ y8 y9 y13,
    iter (evalC ev NN ir15_l0) n ⟨[v0, v1, v2, I top, v4, v5, v6, v7, x8, I k, I m, .sl (md (mvF c l seat r top k)) 2 (prs (mvF c l seat r top k)), .fn (.func 33) [] [.ptr 0 0, .ptr 1 0], x13, .fn (.func 33) [] [.ptr 2 0, .ptr 3 0]], [], H⟩ =
      .exit 0 ⟨[v0, v1, v2, I top, v4, v5, v6, v7, y8, y9, I m, .sl (md (mvF c l seat r top m)) 2 (prs (mvF c l seat r top m)), .fn (.func 33) [] [.ptr 0 0, .ptr 1 0], y13, .fn (.func 33) [] [.ptr 2 0, .ptr 3 0]], [], H⟩ := by
  intro n
  induction n with
  | zero => intro k _ h2; omega
  | succ n ih =>
    intro k hk hn x8 x13
    by_cases hlt : k < m
    · have hlt' : (k : Int) < (m : Int) := by omega
      obtain ⟨y8, y9, y13, e⟩ := ih (k + 1) (by omega) (by omega) (B true) (I k)
      refine ⟨y8, y9, y13, ?_⟩
      rw [← e]
      have hti : 0 ≤ top + (k : Int) := by omega
      have p1 := q1 (top + k) hti
      have p2 := q2 (top + k) hti
      have e1 : ringF c l seat r + (top + (k : Int)) % szF r = placeF c l seat r (top + k) := by unfold placeF; rw [if_pos ⟨h1, hti⟩]
      have e2 : ringF c l seat (r + 1) + (top + (k : Int)) % szF (r + 1) = placeF c l seat (r + 1) (top + k) := by unfold placeF; rw [if_pos ⟨h2, hti⟩]
      rw [e1] at p1
      rw [e2] at p2
      have ws := wrap_succ (show k < 4611686018427387904 by omega)
      have wt : IntKind.i64.wrap (top + (k : Int)) = top + (k : Int) := wrap64_id (by omega) (by omega)
      have hl := mvF_len c l seat r top k
      have sn := mvF_snoc c l seat r top k
      have mo := md_app (mvF c l seat r top k) (placeF c l seat r (top + k), placeF c l seat (r + 1) (top + k))
      rw [sn] at mo
      rw [mo, ← sn]
      generalize mvF c l seat r top k = acc at *
      generalize placeF c l seat r (top + k) = a at *
      generalize placeF c l seat (r + 1) (top + k) = b at *
      have st : ∀ acc : List (Int × Int), acc.length ≤ 64 → evalC ev NN ir15_l0 ⟨[v0, v1, v2, I top, v4, v5, v6, v7, x8, I k, I m, .sl (md acc) 2 (prs acc), .fn (.func 33) [] [.ptr 0 0, .ptr 1 0], x13, .fn (.func 33) [] [.ptr 2 0, .ptr 3 0]], [], H⟩ =
          .norm ⟨[v0, v1, v2, I top, v4, v5, v6, v7, B true, I (k + 1 : Nat), I m, .sl .own 2 (prs (acc ++ [(a, b)])), .fn (.func 33) [] [.ptr 0 0, .ptr 1 0], I k, .fn (.func 33) [] [.ptr 2 0, .ptr 3 0]], [], H⟩ := by
        intro acc ha
        have hr : (acc.length + 1) * 17 ≤ room := by simp only [room]; omega
        have hr1 : 17 ≤ room := by decide
        cases acc with
        | nil => simp -implicitDefEqProofs only [ir15_l0, md, hlt', p1, p2, ws, wt, hr1, go_sem, Nat.reduceAdd, Nat.reduceMul, Nat.reduceSub, Nat.reduceLeDiff, Nat.reduceEqDiff, Nat.reduceBEq, Nat.reduceLT, Int.reduceLE, Int.reduceLT, Int.reduceEq, Int.reduceNeg, Int.reduceAdd, Int.reduceMul, Int.reduceSub, Int.reduceToNat, reduceCtorEq, ↓reduceIte]
        | cons x acc =>
          simp only [List.length_cons] at hr
          simp -implicitDefEqProofs only [ir15_l0, md, hlt', p1, p2, ws, wt, hr, go_sem, Nat.reduceAdd, Nat.reduceMul, Nat.reduceSub, Nat.reduceLeDiff, Nat.reduceEqDiff, Nat.reduceBEq, Nat.reduceLT, Int.reduceLE, Int.reduceLT, Int.reduceEq, Int.reduceNeg, Int.reduceAdd, Int.reduceMul, Int.reduceSub, Int.reduceToNat, reduceCtorEq, ↓reduceIte]
      rw [iter, st acc (by omega)]
    · have hka : k = m := by omega
      subst hka
      have hlt' : ¬ ((k : Nat) : Int) < (k : Int) := by omega
      refine ⟨B false, I k, x13, ?_⟩
      simp -implicitDefEqProofs only [iter, ir15_l0, hlt', go_sem, Nat.reduceAdd, Nat.reduceMul, Nat.reduceSub, Nat.reduceLeDiff, Nat.reduceEqDiff, Nat.reduceBEq, Nat.reduceLT, Int.reduceLE, Int.reduceLT, Int.reduceEq, Int.reduceNeg, Int.reduceAdd, Int.reduceMul, Int.reduceSub, Int.reduceToNat, reduceCtorEq, ↓reduceIte]

/-- What Moves tells. -/
def movesV (c : Cf) (l : Lf) (seat r top bot : Int) : List (Int × Int) := if fitsB c l seat r top bot = true ∧ 0 ≤ ringF c l seat (r + 1) then mvF c l seat r top (bot - top).toNat else []
theorem body_Moves (ev : FuncId → List DV → Heap → Res DV) (c : Cf) (l : Lf) (seat r top bot : Int) (hk : LOk c l) (hb : inI bot) (hr : inI r)
    (q1 : ∀ h, callP ev 26 [.agg (LDc c l), I seat, I r, I top, I bot] h = .ok (B (fitsB c l seat r top bot)) h)
    (q2 : ∀ h, callP ev 23 [.agg (LDc c l), I seat, I (r + 1)] h = .ok (B (decide (0 ≤ ringF c l seat (r + 1)))) h)
    (q3 : callP ev 24 [.agg (LDc c l), I seat, I r] [] = .ok (.fn (.func 33) [] [.ptr 0 0, .ptr 1 0]) [[I (ringF c l seat r)], [I (szF r)]])
    (q4 : ∀ x y, callP ev 24 [.agg (LDc c l), I seat, I (r + 1)] [x, y] = .ok (.fn (.func 33) [] [.ptr 2 0, .ptr 3 0]) [x, y, [I (ringF c l seat (r + 1))], [I (szF (r + 1))]])
    (q5 : ∀ f s f2 s2 i, 0 ≤ f ∧ f ≤ 30000 → 0 < s ∧ s ≤ 1000000 → 0 ≤ i → callP ev 33 [I i, .ptr 0 0, .ptr 1 0] [[I f], [I s], [I f2], [I s2]] = .ok (I (f + i % s)) [[I f], [I s], [I f2], [I s2]])
    (q6 : ∀ f s f2 s2 i, 0 ≤ f2 ∧ f2 ≤ 30000 → 0 < s2 ∧ s2 ≤ 1000000 → 0 ≤ i → callP ev 33 [I i, .ptr 2 0, .ptr 3 0] [[I f], [I s], [I f2], [I s2]] = .ok (I (f2 + i % s2)) [[I f], [I s], [I f2], [I s2]]) :
    ∃ h', evalF ev NN ir15 [.agg (LDc c l), I seat, I r, I top, I bot] [] = .ok (.sl (md (movesV c l seat r top bot)) 2 (prs (movesV c l seat r top bot))) h' := by
  obtain ⟨hb1, hb2⟩ := hb
  obtain ⟨hr1, hr2⟩ := hr
  cases hf : fitsB c l seat r top bot with
  | false =>
    have hv : movesV c l seat r top bot = [] := by unfold movesV; rw [if_neg (by rw [hf]; simp)]
    rw [hv]
    exact ⟨_, by simp -implicitDefEqProofs (disch := omega) only [ir15, q1, hf, wrap_i64, wrap_u64, wrap_u32, wrap_u16, wrap_u8, dec_t, dec_f, ite_t, ite_f, tmod_e, go_sem, Nat.reduceAdd, Nat.reduceMul, Nat.reduceSub, Nat.reduceLeDiff, Nat.reduceEqDiff, Nat.reduceBEq, Nat.reduceLT, Int.reduceLE, Int.reduceLT, Int.reduceEq, Int.reduceNeg, Int.reduceAdd, Int.reduceMul, Int.reduceSub, Int.reduceToNat, reduceCtorEq, ↓reduceIte]; rfl⟩
  | true =>
    have hf' := of_decide_eq_true hf
    have hrr := (ring_pos hk.ring.1).1 hf'.1
    have hrg := rg_bd c.tasks
    have wr : IntKind.i64.wrap (r + 1) = r + 1 := wrap64_id (by omega) (by omega)
    by_cases h2 : 0 ≤ ringF c l seat (r + 1)
    · have hv : movesV c l seat r top bot = mvF c l seat r top (bot - top).toNat := by unfold movesV; rw [if_pos ⟨hf, h2⟩]
      rw [hv]
      have z1 := sz_bd hk.ring.1 hf'.1
      have z2 := sz_bd hk.ring.1 h2
      have u1 := ring_up (seat := seat) (r := r) hk.seats hk.ring
      have u2 := ring_up (seat := seat) (r := r + 1) hk.seats hk.ring
      obtain ⟨m, hm⟩ := Int.eq_ofNat_of_zero_le (show 0 ≤ bot - top by omega)
      obtain ⟨y8, y9, y13, e⟩ := loop_Moves ev c l seat r top (.agg (LDc c l)) (I seat) (I r) (I bot) (.box (LDc c l)) (.sl .full 2 []) (B false) hf'.1 h2 hf'.2.1 m (by omega) (by omega) [[I (ringF c l seat r)], [I (szF r)], [I (ringF c l seat (r + 1))], [I (szF (r + 1))]]
        (fun i hi => q5 _ _ _ _ i ⟨hf'.1, u1⟩ (by omega) hi) (fun i hi => q6 _ _ _ _ i ⟨h2, u2⟩ (by omega) hi) NN 0 (by omega) (by unfold NN; omega) .junk .junk
      have e0 : mvF c l seat r top 0 = [] := rfl
      have p0 : prs [] = [] := rfl
      have wm : IntKind.i64.wrap (bot - top) = (m : Int) := by rw [hm]; exact wrap64_id (by omega) (by omega)
      have tm : (bot - top).toNat = m := by omega
      rw [tm]
      simp only [cast0, e0, p0, md] at e
      exact ⟨_, by simp -implicitDefEqProofs (disch := omega) only [ir15, q1, q2, q3, q4, hf, wr, wm, e, wrap_i64, wrap_u64, wrap_u32, wrap_u16, wrap_u8, dec_t, dec_f, ite_t, ite_f, tmod_e, go_sem, Nat.reduceAdd, Nat.reduceMul, Nat.reduceSub, Nat.reduceLeDiff, Nat.reduceEqDiff, Nat.reduceBEq, Nat.reduceLT, Int.reduceLE, Int.reduceLT, Int.reduceEq, Int.reduceNeg, Int.reduceAdd, Int.reduceMul, Int.reduceSub, Int.reduceToNat, reduceCtorEq, ↓reduceIte]; rfl⟩
    · have hv : movesV c l seat r top bot = [] := by unfold movesV; rw [if_neg (fun h => h2 h.2)]
      rw [hv]
      exact ⟨_, by simp -implicitDefEqProofs (disch := omega) only [ir15, q1, q2, hf, wr, wrap_i64, wrap_u64, wrap_u32, wrap_u16, wrap_u8, dec_t, dec_f, ite_t, ite_f, tmod_e, go_sem, Nat.reduceAdd, Nat.reduceMul, Nat.reduceSub, Nat.reduceLeDiff, Nat.reduceEqDiff, Nat.reduceBEq, Nat.reduceLT, Int.reduceLE, Int.reduceLT, Int.reduceEq, Int.reduceNeg, Int.reduceAdd, Int.reduceMul, Int.reduceSub, Int.reduceToNat, reduceCtorEq, ↓reduceIte]; rfl⟩
theorem p_Moves (c : Cf) (l : Lf) (seat r top bot : Int) (hk : LOk c l) (hb : inI bot) (hr : inI r) : callP (evalCall fns NN (d + 6)) 15 [.agg (LDc c l), I seat, I r, I top, I bot] h = .ok (.sl (md (movesV c l seat r top bot)) 2 (prs (movesV c l seat r top bot))) h := by
  obtain ⟨h', e⟩ := body_Moves (evalCall fns NN (d + 5)) c l seat r top bot hk hb hr (fun h => p_fits c l seat r top bot hk hb) (fun h => p_there (d := d + 1) c l seat (r + 1) hk) (p_rplace (d := d + 1) c l seat r hk) (fun x y => p_rplace2 (d := d + 1) c l seat (r + 1) hk x y)
    (fun f s f2 s2 i hf hs hi => by rw [callP_ptr rfl, call_eq rfl]; exact body_pl1b _ f s f2 s2 i hf hs hi) (fun f s f2 s2 i hf hs hi => by rw [callP_ptr rfl, call_eq rfl]; exact body_pl2 _ f s f2 s2 i hf hs hi)
  exact callP_of (v := .sl (md (movesV c l seat r top bot)) 2 (prs (movesV c l seat r top bot))) (h' := h') rfl rfl (by rw [call_eq rfl]; exact e) (by simp -implicitDefEqProofs only [go_sem, Nat.reduceAdd, Nat.reduceMul, Nat.reduceSub, Nat.reduceLeDiff, Nat.reduceEqDiff, Nat.reduceBEq, Nat.reduceLT, Int.reduceLE, Int.reduceLT, Int.reduceEq, Int.reduceNeg, Int.reduceAdd, Int.reduceMul, Int.reduceSub, Int.reduceToNat, reduceCtorEq, ↓reduceIte])

theorem loop_RMoves (ev : FuncId → List DV → Heap → Res DV) (c : Cf) (l : Lf) (seat r top bot : Int) (v0 v6 v7 v9 : DV) (hr : inI (r + 1)) (ht : 0 ≤ top) (m : Nat) (hm : m ≤ 64) (hbm : bot - top = m) (htm : top + m ≤ 9223372036854775807)
    (q : ∀ h r i, callP ev 13 [.agg (LDc c l), I seat, I r, I i] h = .ok (I (placeF c l seat r i)) h) : ∀ n k, k ≤ m → m - k < n → ∀ x8, ∃ y8 y10,
    iter (evalC ev NN ir16_l0) n ⟨[v0, I seat, I r, I top, I bot, .box (LDc c l), v6, v7, x8, v9, I k, .sl (md (mvF c l seat r top k)) 2 (prs (mvF c l seat r top k))], [], h⟩ =
      .exit 0 ⟨[v0, I seat, I r, I top, I bot, .box (LDc c l), v6, v7, y8, v9, y10, .sl (md (mvF c l seat r top m)) 2 (prs (mvF c l seat r top m))], [], h⟩ := by
  obtain ⟨hr1, hr2⟩ := hr
  have wr : IntKind.i64.wrap (r + 1) = r + 1 := wrap64_id hr1 hr2
  have wm : IntKind.i64.wrap (bot - top) = (m : Int) := by rw [hbm]; exact wrap64_id (by omega) (by omega)
  intro n
  induction n with
  | zero => intro k _ h2; omega
  | succ n ih =>
    intro k hk hn x8
    by_cases hlt : k < m
    · have hlt' : (k : Int) < (m : Int) := by omega
      obtain ⟨y8, y10, e⟩ := ih (k + 1) (by omega) (by omega) (B true)
      refine ⟨y8, y10, ?_⟩
      rw [← e]
      have p1 := fun h => q h r (top + k)
      have p2 := fun h => q h (r + 1) (top + k)
      have ws := wrap_succ (show k < 4611686018427387904 by omega)
      have wt : IntKind.i64.wrap (top + (k : Int)) = top + (k : Int) := wrap64_id (by omega) (by omega)
      have hl := mvF_len c l seat r top k
      have sn := mvF_snoc c l seat r top k
      have mo := md_app (mvF c l seat r top k) (placeF c l seat r (top + k), placeF c l seat (r + 1) (top + k))
      rw [sn] at mo
      rw [mo, ← sn]
      generalize mvF c l seat r top k = acc at *
      generalize placeF c l seat r (top + k) = a at *
      generalize placeF c l seat (r + 1) (top + k) = b at *
      have st : ∀ acc : List (Int × Int), acc.length ≤ 64 → evalC ev NN ir16_l0 ⟨[v0, I seat, I r, I top, I bot, .box (LDc c l), v6, v7, x8, v9, I k, .sl (md acc) 2 (prs acc)], [], h⟩ =
          .norm ⟨[v0, I seat, I r, I top, I bot, .box (LDc c l), v6, v7, B true, v9, I (k + 1 : Nat), .sl .own 2 (prs (acc ++ [(a, b)]))], [], h⟩ := by
        intro acc ha
        have hr : (acc.length + 1) * 17 ≤ room := by simp only [room]; omega
        have hr1 : 17 ≤ room := by decide
        cases acc with
        | nil => simp -implicitDefEqProofs only [ir16_l0, md, hlt', p1, p2, ws, wt, wr, wm, hr1, go_sem, Nat.reduceAdd, Nat.reduceMul, Nat.reduceSub, Nat.reduceLeDiff, Nat.reduceEqDiff, Nat.reduceBEq, Nat.reduceLT, Int.reduceLE, Int.reduceLT, Int.reduceEq, Int.reduceNeg, Int.reduceAdd, Int.reduceMul, Int.reduceSub, Int.reduceToNat, reduceCtorEq, ↓reduceIte]
        | cons x acc =>
          simp only [List.length_cons] at hr
          simp -implicitDefEqProofs only [ir16_l0, md, hlt', p1, p2, ws, wt, wr, wm, hr, go_sem, Nat.reduceAdd, Nat.reduceMul, Nat.reduceSub, Nat.reduceLeDiff, Nat.reduceEqDiff, Nat.reduceBEq, Nat.reduceLT, Int.reduceLE, Int.reduceLT, Int.reduceEq, Int.reduceNeg, Int.reduceAdd, Int.reduceMul, Int.reduceSub, Int.reduceToNat, reduceCtorEq, ↓reduceIte]
      rw [iter, st acc (by omega)]
    · have hka : k = m := by omega
      subst hka
      have hlt' : ¬ ((k : Nat) : Int) < (k : Int) := by omega
      refine ⟨B false, I k, ?_⟩
      simp -implicitDefEqProofs only [iter, ir16_l0, hlt', wm, go_sem, Nat.reduceAdd, Nat.reduceMul, Nat.reduceSub, Nat.reduceLeDiff, Nat.reduceEqDiff, Nat.reduceBEq, Nat.reduceLT, Int.reduceLE, Int.reduceLT, Int.reduceEq, Int.reduceNeg, Int.reduceAdd, Int.reduceMul, Int.reduceSub, Int.reduceToNat, reduceCtorEq, ↓reduceIte]
theorem place0 {c : Cf} {l : Lf} {seat r : Int} (hk : LOk c l) : placeF c l seat r 0 < 0 ↔ ¬ 0 ≤ ringF c l seat r := by
  unfold placeF
  by_cases hc : 0 ≤ ringF c l seat r
  · have := sz_bd hk.ring.1 hc
    rw [if_pos ⟨hc, by omega⟩]
    exact ⟨fun h => absurd h (by simp; omega), fun h => absurd hc h⟩
  · rw [if_neg (fun h => hc h.1)]; simp [hc]
theorem body_RMoves (ev : FuncId → List DV → Heap → Res DV) (c : Cf) (l : Lf) (seat r top bot : Int) (hk : LOk c l) (hb : inI bot) (hr : inI r)
    (q1 : ∀ h, callP ev 27 [.agg (LDc c l), I seat, I r, I top, I bot] h = .ok (B (fitsB c l seat r top bot)) h)
    (q2 : ∀ h r i, callP ev 13 [.agg (LDc c l), I seat, I r, I i] h = .ok (I (placeF c l seat r i)) h) :
    evalF ev NN ir16 [.agg (LDc c l), I seat, I r, I top, I bot] [] = .ok (.sl (md (movesV c l seat r top bot)) 2 (prs (movesV c l seat r top bot))) [] := by
  obtain ⟨hb1, hb2⟩ := hb
  obtain ⟨hr1, hr2⟩ := hr
  cases hf : fitsB c l seat r top bot with
  | false =>
    have hv : movesV c l seat r top bot = [] := by unfold movesV; rw [if_neg (by rw [hf]; simp)]
    rw [hv]
    simp -implicitDefEqProofs (disch := omega) only [ir16, q1, hf, wrap_i64, wrap_u64, wrap_u32, wrap_u16, wrap_u8, dec_t, dec_f, ite_t, ite_f, tmod_e, go_sem, Nat.reduceAdd, Nat.reduceMul, Nat.reduceSub, Nat.reduceLeDiff, Nat.reduceEqDiff, Nat.reduceBEq, Nat.reduceLT, Int.reduceLE, Int.reduceLT, Int.reduceEq, Int.reduceNeg, Int.reduceAdd, Int.reduceMul, Int.reduceSub, Int.reduceToNat, reduceCtorEq, ↓reduceIte]
    rfl
  | true =>
    have hf' := of_decide_eq_true hf
    have hrr := (ring_pos hk.ring.1).1 hf'.1
    have hrg := rg_bd c.tasks
    have wr : IntKind.i64.wrap (r + 1) = r + 1 := wrap64_id (by omega) (by omega)
    have hp0 := place0 (seat := seat) (r := r + 1) hk
    by_cases h2 : 0 ≤ ringF c l seat (r + 1)
    · have hp : ¬ placeF c l seat (r + 1) 0 < 0 := fun h => hp0.1 h h2
      have hv : movesV c l seat r top bot = mvF c l seat r top (bot - top).toNat := by unfold movesV; rw [if_pos ⟨hf, h2⟩]
      rw [hv]
      have z1 := sz_bd hk.ring.1 hf'.1
      obtain ⟨m, hm⟩ := Int.eq_ofNat_of_zero_le (show 0 ≤ bot - top by omega)
      obtain ⟨y8, y10, e⟩ := loop_RMoves (h := []) ev c l seat r top bot (.agg (LDc c l)) (.sl .full 2 []) (B false) (B true) ⟨by omega, by omega⟩ hf'.2.1 m (by omega) hm (by omega) q2 NN 0 (by omega) (by unfold NN; omega) .junk
      have e0 : mvF c l seat r top 0 = [] := rfl
      have p0 : prs [] = [] := rfl
      have tm : (bot - top).toNat = m := by omega
      rw [tm]
      simp only [cast0, e0, p0, md] at e
      simp -implicitDefEqProofs (disch := omega) only [ir16, q1, q2, hf, hp, wr, e, wrap_i64, wrap_u64, wrap_u32, wrap_u16, wrap_u8, dec_t, dec_f, ite_t, ite_f, tmod_e, go_sem, Nat.reduceAdd, Nat.reduceMul, Nat.reduceSub, Nat.reduceLeDiff, Nat.reduceEqDiff, Nat.reduceBEq, Nat.reduceLT, Int.reduceLE, Int.reduceLT, Int.reduceEq, Int.reduceNeg, Int.reduceAdd, Int.reduceMul, Int.reduceSub, Int.reduceToNat, reduceCtorEq, ↓reduceIte]
      rfl
    · have hp : placeF c l seat (r + 1) 0 < 0 := hp0.2 h2
      have hv : movesV c l seat r top bot = [] := by unfold movesV; rw [if_neg (fun h => h2 h.2)]
      rw [hv]
      simp -implicitDefEqProofs (disch := omega) only [ir16, q1, q2, hf, hp, wr, wrap_i64, wrap_u64, wrap_u32, wrap_u16, wrap_u8, dec_t, dec_f, ite_t, ite_f, tmod_e, go_sem, Nat.reduceAdd, Nat.reduceMul, Nat.reduceSub, Nat.reduceLeDiff, Nat.reduceEqDiff, Nat.reduceBEq, Nat.reduceLT, Int.reduceLE, Int.reduceLT, Int.reduceEq, Int.reduceNeg, Int.reduceAdd, Int.reduceMul, Int.reduceSub, Int.reduceToNat, reduceCtorEq, ↓reduceIte]
      rfl
theorem p_RMoves (c : Cf) (l : Lf) (seat r top bot : Int) (hk : LOk c l) (hb : inI bot) (hr : inI r) : callP (evalCall fns NN (d + 4)) 16 [.agg (LDc c l), I seat, I r, I top, I bot] h = .ok (.sl (md (movesV c l seat r top bot)) 2 (prs (movesV c l seat r top bot))) h :=
  callP_of (v := .sl (md (movesV c l seat r top bot)) 2 (prs (movesV c l seat r top bot))) (h' := []) rfl rfl (by rw [call_eq rfl]; exact body_RMoves _ c l seat r top bot hk hb hr (fun h => p_RFits c l seat r top bot hk hb) (fun h r i => p_RPlace c l seat r i hk)) (by simp -implicitDefEqProofs only [go_sem, Nat.reduceAdd, Nat.reduceMul, Nat.reduceSub, Nat.reduceLeDiff, Nat.reduceEqDiff, Nat.reduceBEq, Nat.reduceLT, Int.reduceLE, Int.reduceLT, Int.reduceEq, Int.reduceNeg, Int.reduceAdd, Int.reduceMul, Int.reduceSub, Int.reduceToNat, reduceCtorEq, ↓reduceIte])
theorem movesV_len (c : Cf) (l : Lf) (seat r top bot : Int) (hk : LOk c l) : (movesV c l seat r top bot).length ≤ 64 := by
  unfold movesV
  split
  · rename_i h
    have hf' := of_decide_eq_true h.1
    have z1 := sz_bd hk.ring.1 hf'.1
    rw [mvF_len]; omega
  · simp
end Go.D.Ring
