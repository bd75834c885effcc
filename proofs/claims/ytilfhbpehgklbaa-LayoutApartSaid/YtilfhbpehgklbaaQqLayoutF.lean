/- A round of the innermost row of LayoutApart, kind by kind. Printed by wip/tool/genapart.py. -/
import Derived.Test.YtilfhbpehgklbaaQqLayoutE
set_option linter.unusedSimpArgs false
set_option linter.unusedVariables false
namespace Go.D.Layout
open Go.D
set_option maxRecDepth 100000
set_option maxHeartbeats 2000000
variable {d : Nat} {h : Heap}

theorem fold_i (ev : FuncId → List DV → Heap → Res DV) (c : Cf) (l : Lf) (N : Nat) (hN : l.size = (N : Int)) (hN2 : N ≤ 20000) (p : List Int) (mp : Mode) (k : Nat) (pk : Nat) (hp : p[k]? = some (pk : Int)) (m : Nat) (hm : pk + m ≤ N) (H : Nat → Nat) (hH : ∀ x, H x ≤ 100000) (hk : k < 100)
    (v0 v1 v3 v4 v5 v6 v7 v8 v9 v10 v11 v12 v13 v14 v15 v16 v17 v19 v20 v23 v24 v25 v27 v29 : DV) (mi ki : Int) (hmi : mi = (m : Int)) (hki : ki = (k : Int)) : ∃ y12 y13 y28,
    iter (evalC ev NN ir8_l5) NN ⟨[v0, v1, .box (LDc c l), v3, v4, v5, v6, v7, v8, v9, v10, v11, v12, v13, v14, v15, v16, v17, .hsl 0 0 N N 1 false, v19, v20, I ki, .sl mp 1 (ints p), v23, v24, v25, I mi, v27, I 0, v29], [], [ints (vecN N H)]⟩ =
      .exit 8 ⟨[v0, v1, .box (LDc c l), v3, v4, v5, v6, v7, v8, v9, v10, v11, y12, y13, v14, v15, v16, v17, .hsl 0 0 N N 1 false, v19, v20, I ki, .sl mp 1 (ints p), v23, v24, v25, I mi, v27, y28, v29], [], [ints (vecN N (fun x => H x + spanF pk m x))]⟩ := by
  subst hmi
  subst hki
  obtain ⟨y12, y13, y28, e⟩ := loop_i ev c l N hN hN2 p mp k pk hp m hm H hH hk v0 v1 v3 v4 v5 v6 v7 v8 v9 v10 v11 v14 v15 v16 v17 v19 v20 v23 v24 v25 v27 v29 NN 0 (by omega) (by unfold NN; omega) v12 v13
  have h0 : vecN N (fun x => H x + spanF pk 0 x) = vecN N H := vecN_ext (fun x => by unfold spanF; rw [if_neg (by omega)]; rfl)
  rw [h0] at e
  exact ⟨y12, y13, y28, e⟩

theorem skip_0 (ev : FuncId → List DV → Heap → Res DV) (c : Cf) (l : Lf) (N : Nat) (p : List Int) (mp : Mode) (hlen : p.length = 14) (a b : Nat) (hb : b < 16) (g pk : Int) (hp : p[0]? = some pk) (H : Nat → Nat) (v0 v1 v3 v4 v5 v6 v14 v15 v16 v17 v29 x7 x8 x9 x10 x11 x12 x13 x23 x25 x26 x28 : DV) (hs : pk < 0 ∨ ¬ b = 0) : ∃ y7 y8 y9 y10 y11 y12 y13 y23 y25 y26 y28, 
    evalC ev NN ir8_l3 ⟨[v0, v1, .box (LDc c l), v3, v4, v5, v6, x7, x8, x9, x10, x11, x12, x13, v14, v15, v16, v17, .hsl 0 0 N N 1 false, I a, I b, I 0, .sl mp 1 (ints p), x23, B (decide ((b : Int) = 0)), x25, x26, I g, x28, v29], [], [ints (vecN N H)]⟩ =
      .norm ⟨[v0, v1, .box (LDc c l), v3, v4, v5, v6, y7, y8, y9, y10, y11, y12, y13, v14, v15, v16, v17, .hsl 0 0 N N 1 false, I a, I b, I 1, .sl mp 1 (ints p), y23, B (decide ((b : Int) = 0)), y25, y26, I g, y28, v29], [], [ints (vecN N H)]⟩ := by
  have c14 : ((14 : Nat) : Int) = 14 := rfl
  have w1 : IntKind.i64.wrap (0 + 1) = 1 := by decide
  by_cases c1 : pk < 0
  · exact ⟨_, _, _, _, _, _, _, _, _, _, _, by simp -implicitDefEqProofs (disch := first | omega | (simp only [List.length_set, List.length_replicate]; omega)) only [ir8_l3, hp, hlen, wrap_i64, wrap_u64, wrap_u32, wrap_u16, wrap_u8, dec_t, dec_f, ite_t, ite_f, tmod_e, go_sem, Nat.reduceAdd, Nat.reduceMul, Nat.reduceSub, Nat.reduceLeDiff, Nat.reduceEqDiff, Nat.reduceBEq, Nat.reduceLT, Int.reduceLE, Int.reduceLT, Int.reduceEq, Int.reduceNeg, Int.reduceAdd, Int.reduceMul, Int.reduceSub, Int.reduceToNat, reduceCtorEq, ↓reduceIte]; rfl⟩
  · have c2 : ¬ (b : Int) = 0 := by omega
    exact ⟨_, _, _, _, _, _, _, _, _, _, _, by simp -implicitDefEqProofs (disch := first | omega | (simp only [List.length_set, List.length_replicate]; omega)) only [ir8_l3, hp, hlen, wrap_i64, wrap_u64, wrap_u32, wrap_u16, wrap_u8, dec_t, dec_f, ite_t, ite_f, tmod_e, go_sem, Nat.reduceAdd, Nat.reduceMul, Nat.reduceSub, Nat.reduceLeDiff, Nat.reduceEqDiff, Nat.reduceBEq, Nat.reduceLT, Int.reduceLE, Int.reduceLT, Int.reduceEq, Int.reduceNeg, Int.reduceAdd, Int.reduceMul, Int.reduceSub, Int.reduceToNat, reduceCtorEq, ↓reduceIte]; rfl⟩

theorem hit_0 (ev : FuncId → List DV → Heap → Res DV) (c : Cf) (l : Lf) (N : Nat) (p : List Int) (mp : Mode) (hlen : p.length = 14) (a b : Nat) (hb : b < 16) (g pk : Int) (hp : p[0]? = some pk) (H : Nat → Nat) (v0 v1 v3 v4 v5 v6 v14 v15 v16 v17 v29 x7 x8 x9 x10 x11 x12 x13 x23 x25 x26 x28 : DV) (hN : l.size = (N : Int)) (hN2 : N ≤ 20000) (hH : ∀ x, H x ≤ 100000) (h0 : ¬ pk < 0) (hb0 : b = 0) (hm : pk + ((1 : Nat) : Int) ≤ N) : ∃ y7 y8 y9 y10 y11 y12 y13 y23 y25 y26 y28, 
    evalC ev NN ir8_l3 ⟨[v0, v1, .box (LDc c l), v3, v4, v5, v6, x7, x8, x9, x10, x11, x12, x13, v14, v15, v16, v17, .hsl 0 0 N N 1 false, I a, I b, I 0, .sl mp 1 (ints p), x23, B (decide ((b : Int) = 0)), x25, x26, I g, x28, v29], [], [ints (vecN N H)]⟩ =
      .norm ⟨[v0, v1, .box (LDc c l), v3, v4, v5, v6, y7, y8, y9, y10, y11, y12, y13, v14, v15, v16, v17, .hsl 0 0 N N 1 false, I a, I b, I 1, .sl mp 1 (ints p), y23, B (decide ((b : Int) = 0)), y25, y26, I g, y28, v29], [], [ints (vecN N (fun x => H x + spanF pk 1 x))]⟩ := by
  obtain ⟨q, rfl⟩ := Int.eq_ofNat_of_zero_le (show 0 ≤ pk by omega)
  have np : ¬ (q : Int) < 0 := by omega
  have c14 : ((14 : Nat) : Int) = 14 := rfl
  have w1 : IntKind.i64.wrap (0 + 1) = 1 := by decide
  have c2 : (b : Int) = 0 := by omega
  obtain ⟨z12, z13, z28, e5⟩ := fold_i ev c l N hN hN2 p mp 0 q hp 1 (by omega) H hH (by omega) v0 v1 v3 v4 v5 v6 (B true) (B false) (B false) x10 x11 x12 x13 v14 v15 v16 v17 (I a) (I b) (B true) (B (decide ((b : Int) = 0))) x25 (I g) v29 1 0 rfl rfl
  simp only [c2, decide_true] at e5 ⊢
  exact ⟨_, _, _, _, _, _, _, _, _, _, _, by simp -implicitDefEqProofs only [ir8_l3, hp, hlen, e5, np, c14, w1, c2, go_sem, Nat.reduceAdd, Nat.reduceMul, Nat.reduceSub, Nat.reduceLeDiff, Nat.reduceEqDiff, Nat.reduceBEq, Nat.reduceLT, Int.reduceLE, Int.reduceLT, Int.reduceEq, Int.reduceNeg, Int.reduceAdd, Int.reduceMul, Int.reduceSub, Int.reduceToNat, reduceCtorEq, ↓reduceIte]; rfl⟩

theorem skip_1 (ev : FuncId → List DV → Heap → Res DV) (c : Cf) (l : Lf) (N : Nat) (p : List Int) (mp : Mode) (hlen : p.length = 14) (a b : Nat) (hb : b < 16) (g pk : Int) (hp : p[1]? = some pk) (H : Nat → Nat) (v0 v1 v3 v4 v5 v6 v14 v15 v16 v17 v29 x7 x8 x9 x10 x11 x12 x13 x23 x25 x26 x28 : DV) (hs : pk < 0 ∨ ¬ b = 0) : ∃ y7 y8 y9 y10 y11 y12 y13 y23 y25 y26 y28, 
    evalC ev NN ir8_l3 ⟨[v0, v1, .box (LDc c l), v3, v4, v5, v6, x7, x8, x9, x10, x11, x12, x13, v14, v15, v16, v17, .hsl 0 0 N N 1 false, I a, I b, I 1, .sl mp 1 (ints p), x23, B (decide ((b : Int) = 0)), x25, x26, I g, x28, v29], [], [ints (vecN N H)]⟩ =
      .norm ⟨[v0, v1, .box (LDc c l), v3, v4, v5, v6, y7, y8, y9, y10, y11, y12, y13, v14, v15, v16, v17, .hsl 0 0 N N 1 false, I a, I b, I 2, .sl mp 1 (ints p), y23, B (decide ((b : Int) = 0)), y25, y26, I g, y28, v29], [], [ints (vecN N H)]⟩ := by
  have c14 : ((14 : Nat) : Int) = 14 := rfl
  have w2 : IntKind.i64.wrap (1 + 1) = 2 := by decide
  by_cases c1 : pk < 0
  · exact ⟨_, _, _, _, _, _, _, _, _, _, _, by simp -implicitDefEqProofs (disch := first | omega | (simp only [List.length_set, List.length_replicate]; omega)) only [ir8_l3, hp, hlen, wrap_i64, wrap_u64, wrap_u32, wrap_u16, wrap_u8, dec_t, dec_f, ite_t, ite_f, tmod_e, go_sem, Nat.reduceAdd, Nat.reduceMul, Nat.reduceSub, Nat.reduceLeDiff, Nat.reduceEqDiff, Nat.reduceBEq, Nat.reduceLT, Int.reduceLE, Int.reduceLT, Int.reduceEq, Int.reduceNeg, Int.reduceAdd, Int.reduceMul, Int.reduceSub, Int.reduceToNat, reduceCtorEq, ↓reduceIte]; rfl⟩
  · have c2 : ¬ (b : Int) = 0 := by omega
    exact ⟨_, _, _, _, _, _, _, _, _, _, _, by simp -implicitDefEqProofs (disch := first | omega | (simp only [List.length_set, List.length_replicate]; omega)) only [ir8_l3, hp, hlen, wrap_i64, wrap_u64, wrap_u32, wrap_u16, wrap_u8, dec_t, dec_f, ite_t, ite_f, tmod_e, go_sem, Nat.reduceAdd, Nat.reduceMul, Nat.reduceSub, Nat.reduceLeDiff, Nat.reduceEqDiff, Nat.reduceBEq, Nat.reduceLT, Int.reduceLE, Int.reduceLT, Int.reduceEq, Int.reduceNeg, Int.reduceAdd, Int.reduceMul, Int.reduceSub, Int.reduceToNat, reduceCtorEq, ↓reduceIte]; rfl⟩

theorem hit_1 (ev : FuncId → List DV → Heap → Res DV) (c : Cf) (l : Lf) (N : Nat) (p : List Int) (mp : Mode) (hlen : p.length = 14) (a b : Nat) (hb : b < 16) (g pk : Int) (hp : p[1]? = some pk) (H : Nat → Nat) (v0 v1 v3 v4 v5 v6 v14 v15 v16 v17 v29 x7 x8 x9 x10 x11 x12 x13 x23 x25 x26 x28 : DV) (hN : l.size = (N : Int)) (hN2 : N ≤ 20000) (hH : ∀ x, H x ≤ 100000) (h0 : ¬ pk < 0) (hb0 : b = 0) (hm : pk + ((1 : Nat) : Int) ≤ N) : ∃ y7 y8 y9 y10 y11 y12 y13 y23 y25 y26 y28, 
    evalC ev NN ir8_l3 ⟨[v0, v1, .box (LDc c l), v3, v4, v5, v6, x7, x8, x9, x10, x11, x12, x13, v14, v15, v16, v17, .hsl 0 0 N N 1 false, I a, I b, I 1, .sl mp 1 (ints p), x23, B (decide ((b : Int) = 0)), x25, x26, I g, x28, v29], [], [ints (vecN N H)]⟩ =
      .norm ⟨[v0, v1, .box (LDc c l), v3, v4, v5, v6, y7, y8, y9, y10, y11, y12, y13, v14, v15, v16, v17, .hsl 0 0 N N 1 false, I a, I b, I 2, .sl mp 1 (ints p), y23, B (decide ((b : Int) = 0)), y25, y26, I g, y28, v29], [], [ints (vecN N (fun x => H x + spanF pk 1 x))]⟩ := by
  obtain ⟨q, rfl⟩ := Int.eq_ofNat_of_zero_le (show 0 ≤ pk by omega)
  have np : ¬ (q : Int) < 0 := by omega
  have c14 : ((14 : Nat) : Int) = 14 := rfl
  have w2 : IntKind.i64.wrap (1 + 1) = 2 := by decide
  have c2 : (b : Int) = 0 := by omega
  obtain ⟨z12, z13, z28, e5⟩ := fold_i ev c l N hN hN2 p mp 1 q hp 1 (by omega) H hH (by omega) v0 v1 v3 v4 v5 v6 (B true) (B false) (B false) x10 x11 x12 x13 v14 v15 v16 v17 (I a) (I b) (B true) (B (decide ((b : Int) = 0))) x25 (I g) v29 1 1 rfl rfl
  simp only [c2, decide_true] at e5 ⊢
  exact ⟨_, _, _, _, _, _, _, _, _, _, _, by simp -implicitDefEqProofs only [ir8_l3, hp, hlen, e5, np, c14, w2, c2, go_sem, Nat.reduceAdd, Nat.reduceMul, Nat.reduceSub, Nat.reduceLeDiff, Nat.reduceEqDiff, Nat.reduceBEq, Nat.reduceLT, Int.reduceLE, Int.reduceLT, Int.reduceEq, Int.reduceNeg, Int.reduceAdd, Int.reduceMul, Int.reduceSub, Int.reduceToNat, reduceCtorEq, ↓reduceIte]; rfl⟩

theorem skip_2 (ev : FuncId → List DV → Heap → Res DV) (c : Cf) (l : Lf) (N : Nat) (p : List Int) (mp : Mode) (hlen : p.length = 14) (a b : Nat) (hb : b < 16) (g pk : Int) (hp : p[2]? = some pk) (H : Nat → Nat) (v0 v1 v3 v4 v5 v6 v14 v15 v16 v17 v29 x7 x8 x9 x10 x11 x12 x13 x23 x25 x26 x28 : DV) (hs : pk < 0) : ∃ y7 y8 y9 y10 y11 y12 y13 y23 y25 y26 y28, 
    evalC ev NN ir8_l3 ⟨[v0, v1, .box (LDc c l), v3, v4, v5, v6, x7, x8, x9, x10, x11, x12, x13, v14, v15, v16, v17, .hsl 0 0 N N 1 false, I a, I b, I 2, .sl mp 1 (ints p), x23, B (decide ((b : Int) = 0)), x25, x26, I g, x28, v29], [], [ints (vecN N H)]⟩ =
      .norm ⟨[v0, v1, .box (LDc c l), v3, v4, v5, v6, y7, y8, y9, y10, y11, y12, y13, v14, v15, v16, v17, .hsl 0 0 N N 1 false, I a, I b, I 3, .sl mp 1 (ints p), y23, B (decide ((b : Int) = 0)), y25, y26, I g, y28, v29], [], [ints (vecN N H)]⟩ := by
  have c14 : ((14 : Nat) : Int) = 14 := rfl
  have w3 : IntKind.i64.wrap (2 + 1) = 3 := by decide
  exact ⟨_, _, _, _, _, _, _, _, _, _, _, by simp -implicitDefEqProofs (disch := first | omega | (simp only [List.length_set, List.length_replicate]; omega)) only [ir8_l3, hp, hlen, wrap_i64, wrap_u64, wrap_u32, wrap_u16, wrap_u8, dec_t, dec_f, ite_t, ite_f, tmod_e, go_sem, Nat.reduceAdd, Nat.reduceMul, Nat.reduceSub, Nat.reduceLeDiff, Nat.reduceEqDiff, Nat.reduceBEq, Nat.reduceLT, Int.reduceLE, Int.reduceLT, Int.reduceEq, Int.reduceNeg, Int.reduceAdd, Int.reduceMul, Int.reduceSub, Int.reduceToNat, reduceCtorEq, ↓reduceIte]; rfl⟩

theorem hit_2 (ev : FuncId → List DV → Heap → Res DV) (c : Cf) (l : Lf) (N : Nat) (p : List Int) (mp : Mode) (hlen : p.length = 14) (a b : Nat) (hb : b < 16) (g pk : Int) (hp : p[2]? = some pk) (H : Nat → Nat) (v0 v1 v3 v4 v5 v6 v14 v15 v16 v17 v29 x7 x8 x9 x10 x11 x12 x13 x23 x25 x26 x28 : DV) (hN : l.size = (N : Int)) (hN2 : N ≤ 20000) (hH : ∀ x, H x ≤ 100000) (h0 : ¬ pk < 0) (hm : pk + ((1 : Nat) : Int) ≤ N) : ∃ y7 y8 y9 y10 y11 y12 y13 y23 y25 y26 y28, 
    evalC ev NN ir8_l3 ⟨[v0, v1, .box (LDc c l), v3, v4, v5, v6, x7, x8, x9, x10, x11, x12, x13, v14, v15, v16, v17, .hsl 0 0 N N 1 false, I a, I b, I 2, .sl mp 1 (ints p), x23, B (decide ((b : Int) = 0)), x25, x26, I g, x28, v29], [], [ints (vecN N H)]⟩ =
      .norm ⟨[v0, v1, .box (LDc c l), v3, v4, v5, v6, y7, y8, y9, y10, y11, y12, y13, v14, v15, v16, v17, .hsl 0 0 N N 1 false, I a, I b, I 3, .sl mp 1 (ints p), y23, B (decide ((b : Int) = 0)), y25, y26, I g, y28, v29], [], [ints (vecN N (fun x => H x + spanF pk 1 x))]⟩ := by
  obtain ⟨q, rfl⟩ := Int.eq_ofNat_of_zero_le (show 0 ≤ pk by omega)
  have np : ¬ (q : Int) < 0 := by omega
  have c14 : ((14 : Nat) : Int) = 14 := rfl
  have w3 : IntKind.i64.wrap (2 + 1) = 3 := by decide
  obtain ⟨z12, z13, z28, e5⟩ := fold_i ev c l N hN hN2 p mp 2 q hp 1 (by omega) H hH (by omega) v0 v1 v3 v4 v5 v6 (B true) (B false) (B false) x10 x11 x12 x13 v14 v15 v16 v17 (I a) (I b) (B false) (B (decide ((b : Int) = 0))) x25 (I g) v29 1 2 rfl rfl
  exact ⟨_, _, _, _, _, _, _, _, _, _, _, by simp -implicitDefEqProofs only [ir8_l3, hp, hlen, e5, np, c14, w3, go_sem, Nat.reduceAdd, Nat.reduceMul, Nat.reduceSub, Nat.reduceLeDiff, Nat.reduceEqDiff, Nat.reduceBEq, Nat.reduceLT, Int.reduceLE, Int.reduceLT, Int.reduceEq, Int.reduceNeg, Int.reduceAdd, Int.reduceMul, Int.reduceSub, Int.reduceToNat, reduceCtorEq, ↓reduceIte]; rfl⟩

theorem skip_3 (ev : FuncId → List DV → Heap → Res DV) (c : Cf) (l : Lf) (N : Nat) (p : List Int) (mp : Mode) (hlen : p.length = 14) (a b : Nat) (hb : b < 16) (g pk : Int) (hp : p[3]? = some pk) (H : Nat → Nat) (v0 v1 v3 v4 v5 v6 v14 v15 v16 v17 v29 x7 x8 x9 x10 x11 x12 x13 x23 x25 x26 x28 : DV) (hs : pk < 0) : ∃ y7 y8 y9 y10 y11 y12 y13 y23 y25 y26 y28, 
    evalC ev NN ir8_l3 ⟨[v0, v1, .box (LDc c l), v3, v4, v5, v6, x7, x8, x9, x10, x11, x12, x13, v14, v15, v16, v17, .hsl 0 0 N N 1 false, I a, I b, I 3, .sl mp 1 (ints p), x23, B (decide ((b : Int) = 0)), x25, x26, I g, x28, v29], [], [ints (vecN N H)]⟩ =
      .norm ⟨[v0, v1, .box (LDc c l), v3, v4, v5, v6, y7, y8, y9, y10, y11, y12, y13, v14, v15, v16, v17, .hsl 0 0 N N 1 false, I a, I b, I 4, .sl mp 1 (ints p), y23, B (decide ((b : Int) = 0)), y25, y26, I g, y28, v29], [], [ints (vecN N H)]⟩ := by
  have c14 : ((14 : Nat) : Int) = 14 := rfl
  have w4 : IntKind.i64.wrap (3 + 1) = 4 := by decide
  exact ⟨_, _, _, _, _, _, _, _, _, _, _, by simp -implicitDefEqProofs (disch := first | omega | (simp only [List.length_set, List.length_replicate]; omega)) only [ir8_l3, hp, hlen, wrap_i64, wrap_u64, wrap_u32, wrap_u16, wrap_u8, dec_t, dec_f, ite_t, ite_f, tmod_e, go_sem, Nat.reduceAdd, Nat.reduceMul, Nat.reduceSub, Nat.reduceLeDiff, Nat.reduceEqDiff, Nat.reduceBEq, Nat.reduceLT, Int.reduceLE, Int.reduceLT, Int.reduceEq, Int.reduceNeg, Int.reduceAdd, Int.reduceMul, Int.reduceSub, Int.reduceToNat, reduceCtorEq, ↓reduceIte]; rfl⟩

theorem hit_3 (ev : FuncId → List DV → Heap → Res DV) (c : Cf) (l : Lf) (N : Nat) (p : List Int) (mp : Mode) (hlen : p.length = 14) (a b : Nat) (hb : b < 16) (g pk : Int) (hp : p[3]? = some pk) (H : Nat → Nat) (v0 v1 v3 v4 v5 v6 v14 v15 v16 v17 v29 x7 x8 x9 x10 x11 x12 x13 x23 x25 x26 x28 : DV) (hN : l.size = (N : Int)) (hN2 : N ≤ 20000) (hH : ∀ x, H x ≤ 100000) (h0 : ¬ pk < 0) (hm : pk + ((1 : Nat) : Int) ≤ N) : ∃ y7 y8 y9 y10 y11 y12 y13 y23 y25 y26 y28, 
    evalC ev NN ir8_l3 ⟨[v0, v1, .box (LDc c l), v3, v4, v5, v6, x7, x8, x9, x10, x11, x12, x13, v14, v15, v16, v17, .hsl 0 0 N N 1 false, I a, I b, I 3, .sl mp 1 (ints p), x23, B (decide ((b : Int) = 0)), x25, x26, I g, x28, v29], [], [ints (vecN N H)]⟩ =
      .norm ⟨[v0, v1, .box (LDc c l), v3, v4, v5, v6, y7, y8, y9, y10, y11, y12, y13, v14, v15, v16, v17, .hsl 0 0 N N 1 false, I a, I b, I 4, .sl mp 1 (ints p), y23, B (decide ((b : Int) = 0)), y25, y26, I g, y28, v29], [], [ints (vecN N (fun x => H x + spanF pk 1 x))]⟩ := by
  obtain ⟨q, rfl⟩ := Int.eq_ofNat_of_zero_le (show 0 ≤ pk by omega)
  have np : ¬ (q : Int) < 0 := by omega
  have c14 : ((14 : Nat) : Int) = 14 := rfl
  have w4 : IntKind.i64.wrap (3 + 1) = 4 := by decide
  obtain ⟨z12, z13, z28, e5⟩ := fold_i ev c l N hN hN2 p mp 3 q hp 1 (by omega) H hH (by omega) v0 v1 v3 v4 v5 v6 (B true) (B false) (B false) x10 x11 x12 x13 v14 v15 v16 v17 (I a) (I b) (B false) (B (decide ((b : Int) = 0))) x25 (I g) v29 1 3 rfl rfl
  exact ⟨_, _, _, _, _, _, _, _, _, _, _, by simp -implicitDefEqProofs only [ir8_l3, hp, hlen, e5, np, c14, w4, go_sem, Nat.reduceAdd, Nat.reduceMul, Nat.reduceSub, Nat.reduceLeDiff, Nat.reduceEqDiff, Nat.reduceBEq, Nat.reduceLT, Int.reduceLE, Int.reduceLT, Int.reduceEq, Int.reduceNeg, Int.reduceAdd, Int.reduceMul, Int.reduceSub, Int.reduceToNat, reduceCtorEq, ↓reduceIte]; rfl⟩

theorem skip_4 (ev : FuncId → List DV → Heap → Res DV) (c : Cf) (l : Lf) (N : Nat) (p : List Int) (mp : Mode) (hlen : p.length = 14) (a b : Nat) (hb : b < 16) (g pk : Int) (hp : p[4]? = some pk) (H : Nat → Nat) (v0 v1 v3 v4 v5 v6 v14 v15 v16 v17 v29 x7 x8 x9 x10 x11 x12 x13 x23 x25 x26 x28 : DV) (hs : pk < 0) : ∃ y7 y8 y9 y10 y11 y12 y13 y23 y25 y26 y28, 
    evalC ev NN ir8_l3 ⟨[v0, v1, .box (LDc c l), v3, v4, v5, v6, x7, x8, x9, x10, x11, x12, x13, v14, v15, v16, v17, .hsl 0 0 N N 1 false, I a, I b, I 4, .sl mp 1 (ints p), x23, B (decide ((b : Int) = 0)), x25, x26, I g, x28, v29], [], [ints (vecN N H)]⟩ =
      .norm ⟨[v0, v1, .box (LDc c l), v3, v4, v5, v6, y7, y8, y9, y10, y11, y12, y13, v14, v15, v16, v17, .hsl 0 0 N N 1 false, I a, I b, I 5, .sl mp 1 (ints p), y23, B (decide ((b : Int) = 0)), y25, y26, I g, y28, v29], [], [ints (vecN N H)]⟩ := by
  have c14 : ((14 : Nat) : Int) = 14 := rfl
  have w5 : IntKind.i64.wrap (4 + 1) = 5 := by decide
  exact ⟨_, _, _, _, _, _, _, _, _, _, _, by simp -implicitDefEqProofs (disch := first | omega | (simp only [List.length_set, List.length_replicate]; omega)) only [ir8_l3, hp, hlen, wrap_i64, wrap_u64, wrap_u32, wrap_u16, wrap_u8, dec_t, dec_f, ite_t, ite_f, tmod_e, go_sem, Nat.reduceAdd, Nat.reduceMul, Nat.reduceSub, Nat.reduceLeDiff, Nat.reduceEqDiff, Nat.reduceBEq, Nat.reduceLT, Int.reduceLE, Int.reduceLT, Int.reduceEq, Int.reduceNeg, Int.reduceAdd, Int.reduceMul, Int.reduceSub, Int.reduceToNat, reduceCtorEq, ↓reduceIte]; rfl⟩

theorem hit_4 (ev : FuncId → List DV → Heap → Res DV) (c : Cf) (l : Lf) (N : Nat) (p : List Int) (mp : Mode) (hlen : p.length = 14) (a b : Nat) (hb : b < 16) (g pk : Int) (hp : p[4]? = some pk) (H : Nat → Nat) (v0 v1 v3 v4 v5 v6 v14 v15 v16 v17 v29 x7 x8 x9 x10 x11 x12 x13 x23 x25 x26 x28 : DV) (hN : l.size = (N : Int)) (hN2 : N ≤ 20000) (hH : ∀ x, H x ≤ 100000) (h0 : ¬ pk < 0) (hg : (b : Int) < g) (hm : pk + (((4 * 2 ^ b) : Nat) : Int) ≤ N) : ∃ y7 y8 y9 y10 y11 y12 y13 y23 y25 y26 y28, 
    evalC ev NN ir8_l3 ⟨[v0, v1, .box (LDc c l), v3, v4, v5, v6, x7, x8, x9, x10, x11, x12, x13, v14, v15, v16, v17, .hsl 0 0 N N 1 false, I a, I b, I 4, .sl mp 1 (ints p), x23, B (decide ((b : Int) = 0)), x25, x26, I g, x28, v29], [], [ints (vecN N H)]⟩ =
      .norm ⟨[v0, v1, .box (LDc c l), v3, v4, v5, v6, y7, y8, y9, y10, y11, y12, y13, v14, v15, v16, v17, .hsl 0 0 N N 1 false, I a, I b, I 5, .sl mp 1 (ints p), y23, B (decide ((b : Int) = 0)), y25, y26, I g, y28, v29], [], [ints (vecN N (fun x => H x + spanF pk (4 * 2 ^ b) x))]⟩ := by
  obtain ⟨q, rfl⟩ := Int.eq_ofNat_of_zero_le (show 0 ≤ pk by omega)
  have np : ¬ (q : Int) < 0 := by omega
  have c14 : ((14 : Nat) : Int) = 14 := rfl
  have w5 : IntKind.i64.wrap (4 + 1) = 5 := by decide
  have h2 : 2 ^ b ≤ 2 ^ 16 := Nat.pow_le_pow_right (by omega) (by omega)
  obtain ⟨z10, z25, e4⟩ := loop_r (h := [ints (vecN N H)]) ev b hb v0 v1 (.box (LDc c l)) v3 v4 v5 v6 (B true) (B false) (B true) x11 x12 x13 v14 v15 v16 v17 (.hsl 0 0 N N 1 false) (I a) (I 4) (.sl mp 1 (ints p)) (B false) (B (decide ((b : Int) = 0))) (I g) x28 v29 NN 0 (by omega) (by unfold NN; omega) x10
  simp only [cast0, Nat.pow_zero, Nat.mul_one, cast4] at e4
  obtain ⟨z12, z13, z28, e5⟩ := fold_i ev c l N hN hN2 p mp 4 q hp (4 * 2 ^ b) (by omega) H hH (by omega) v0 v1 v3 v4 v5 v6 (B true) (B false) (B true) z10 (B false) x12 x13 v14 v15 v16 v17 (I a) (I b) (B false) (B (decide ((b : Int) = 0))) z25 (I g) v29 _ 4 rfl rfl
  have ng : ¬ g ≤ (b : Int) := by omega
  exact ⟨_, _, _, _, _, _, _, _, _, _, _, by simp -implicitDefEqProofs only [ir8_l3, hp, hlen, e4, e5, np, ng, c14, w5, go_sem, Nat.reduceAdd, Nat.reduceMul, Nat.reduceSub, Nat.reduceLeDiff, Nat.reduceEqDiff, Nat.reduceBEq, Nat.reduceLT, Int.reduceLE, Int.reduceLT, Int.reduceEq, Int.reduceNeg, Int.reduceAdd, Int.reduceMul, Int.reduceSub, Int.reduceToNat, reduceCtorEq, ↓reduceIte]; rfl⟩

theorem skip_5 (ev : FuncId → List DV → Heap → Res DV) (c : Cf) (l : Lf) (N : Nat) (p : List Int) (mp : Mode) (hlen : p.length = 14) (a b : Nat) (hb : b < 16) (g pk : Int) (hp : p[5]? = some pk) (H : Nat → Nat) (v0 v1 v3 v4 v5 v6 v14 v15 v16 v17 v29 x7 x8 x9 x10 x11 x12 x13 x23 x25 x26 x28 : DV) (hs : pk < 0) : ∃ y7 y8 y9 y10 y11 y12 y13 y23 y25 y26 y28, 
    evalC ev NN ir8_l3 ⟨[v0, v1, .box (LDc c l), v3, v4, v5, v6, x7, x8, x9, x10, x11, x12, x13, v14, v15, v16, v17, .hsl 0 0 N N 1 false, I a, I b, I 5, .sl mp 1 (ints p), x23, B (decide ((b : Int) = 0)), x25, x26, I g, x28, v29], [], [ints (vecN N H)]⟩ =
      .norm ⟨[v0, v1, .box (LDc c l), v3, v4, v5, v6, y7, y8, y9, y10, y11, y12, y13, v14, v15, v16, v17, .hsl 0 0 N N 1 false, I a, I b, I 6, .sl mp 1 (ints p), y23, B (decide ((b : Int) = 0)), y25, y26, I g, y28, v29], [], [ints (vecN N H)]⟩ := by
  have c14 : ((14 : Nat) : Int) = 14 := rfl
  have w6 : IntKind.i64.wrap (5 + 1) = 6 := by decide
  exact ⟨_, _, _, _, _, _, _, _, _, _, _, by simp -implicitDefEqProofs (disch := first | omega | (simp only [List.length_set, List.length_replicate]; omega)) only [ir8_l3, hp, hlen, wrap_i64, wrap_u64, wrap_u32, wrap_u16, wrap_u8, dec_t, dec_f, ite_t, ite_f, tmod_e, go_sem, Nat.reduceAdd, Nat.reduceMul, Nat.reduceSub, Nat.reduceLeDiff, Nat.reduceEqDiff, Nat.reduceBEq, Nat.reduceLT, Int.reduceLE, Int.reduceLT, Int.reduceEq, Int.reduceNeg, Int.reduceAdd, Int.reduceMul, Int.reduceSub, Int.reduceToNat, reduceCtorEq, ↓reduceIte]; rfl⟩

theorem hit_5 (ev : FuncId → List DV → Heap → Res DV) (c : Cf) (l : Lf) (N : Nat) (p : List Int) (mp : Mode) (hlen : p.length = 14) (a b : Nat) (hb : b < 16) (g pk : Int) (hp : p[5]? = some pk) (H : Nat → Nat) (v0 v1 v3 v4 v5 v6 v14 v15 v16 v17 v29 x7 x8 x9 x10 x11 x12 x13 x23 x25 x26 x28 : DV) (hN : l.size = (N : Int)) (hN2 : N ≤ 20000) (hH : ∀ x, H x ≤ 100000) (h0 : ¬ pk < 0) (hm : pk + ((1 : Nat) : Int) ≤ N) : ∃ y7 y8 y9 y10 y11 y12 y13 y23 y25 y26 y28, 
    evalC ev NN ir8_l3 ⟨[v0, v1, .box (LDc c l), v3, v4, v5, v6, x7, x8, x9, x10, x11, x12, x13, v14, v15, v16, v17, .hsl 0 0 N N 1 false, I a, I b, I 5, .sl mp 1 (ints p), x23, B (decide ((b : Int) = 0)), x25, x26, I g, x28, v29], [], [ints (vecN N H)]⟩ =
      .norm ⟨[v0, v1, .box (LDc c l), v3, v4, v5, v6, y7, y8, y9, y10, y11, y12, y13, v14, v15, v16, v17, .hsl 0 0 N N 1 false, I a, I b, I 6, .sl mp 1 (ints p), y23, B (decide ((b : Int) = 0)), y25, y26, I g, y28, v29], [], [ints (vecN N (fun x => H x + spanF pk 1 x))]⟩ := by
  obtain ⟨q, rfl⟩ := Int.eq_ofNat_of_zero_le (show 0 ≤ pk by omega)
  have np : ¬ (q : Int) < 0 := by omega
  have c14 : ((14 : Nat) : Int) = 14 := rfl
  have w6 : IntKind.i64.wrap (5 + 1) = 6 := by decide
  obtain ⟨z12, z13, z28, e5⟩ := fold_i ev c l N hN hN2 p mp 5 q hp 1 (by omega) H hH (by omega) v0 v1 v3 v4 v5 v6 (B true) (B false) (B false) x10 x11 x12 x13 v14 v15 v16 v17 (I a) (I b) (B false) (B (decide ((b : Int) = 0))) x25 (I g) v29 1 5 rfl rfl
  exact ⟨_, _, _, _, _, _, _, _, _, _, _, by simp -implicitDefEqProofs only [ir8_l3, hp, hlen, e5, np, c14, w6, go_sem, Nat.reduceAdd, Nat.reduceMul, Nat.reduceSub, Nat.reduceLeDiff, Nat.reduceEqDiff, Nat.reduceBEq, Nat.reduceLT, Int.reduceLE, Int.reduceLT, Int.reduceEq, Int.reduceNeg, Int.reduceAdd, Int.reduceMul, Int.reduceSub, Int.reduceToNat, reduceCtorEq, ↓reduceIte]; rfl⟩

theorem skip_6 (ev : FuncId → List DV → Heap → Res DV) (c : Cf) (l : Lf) (N : Nat) (p : List Int) (mp : Mode) (hlen : p.length = 14) (a b : Nat) (hb : b < 16) (g pk : Int) (hp : p[6]? = some pk) (H : Nat → Nat) (v0 v1 v3 v4 v5 v6 v14 v15 v16 v17 v29 x7 x8 x9 x10 x11 x12 x13 x23 x25 x26 x28 : DV) (hs : pk < 0 ∨ ¬ b = 0) : ∃ y7 y8 y9 y10 y11 y12 y13 y23 y25 y26 y28, 
    evalC ev NN ir8_l3 ⟨[v0, v1, .box (LDc c l), v3, v4, v5, v6, x7, x8, x9, x10, x11, x12, x13, v14, v15, v16, v17, .hsl 0 0 N N 1 false, I a, I b, I 6, .sl mp 1 (ints p), x23, B (decide ((b : Int) = 0)), x25, x26, I g, x28, v29], [], [ints (vecN N H)]⟩ =
      .norm ⟨[v0, v1, .box (LDc c l), v3, v4, v5, v6, y7, y8, y9, y10, y11, y12, y13, v14, v15, v16, v17, .hsl 0 0 N N 1 false, I a, I b, I 7, .sl mp 1 (ints p), y23, B (decide ((b : Int) = 0)), y25, y26, I g, y28, v29], [], [ints (vecN N H)]⟩ := by
  have c14 : ((14 : Nat) : Int) = 14 := rfl
  have w7 : IntKind.i64.wrap (6 + 1) = 7 := by decide
  by_cases c1 : pk < 0
  · exact ⟨_, _, _, _, _, _, _, _, _, _, _, by simp -implicitDefEqProofs (disch := first | omega | (simp only [List.length_set, List.length_replicate]; omega)) only [ir8_l3, hp, hlen, wrap_i64, wrap_u64, wrap_u32, wrap_u16, wrap_u8, dec_t, dec_f, ite_t, ite_f, tmod_e, go_sem, Nat.reduceAdd, Nat.reduceMul, Nat.reduceSub, Nat.reduceLeDiff, Nat.reduceEqDiff, Nat.reduceBEq, Nat.reduceLT, Int.reduceLE, Int.reduceLT, Int.reduceEq, Int.reduceNeg, Int.reduceAdd, Int.reduceMul, Int.reduceSub, Int.reduceToNat, reduceCtorEq, ↓reduceIte]; rfl⟩
  · have c2 : ¬ (b : Int) = 0 := by omega
    exact ⟨_, _, _, _, _, _, _, _, _, _, _, by simp -implicitDefEqProofs (disch := first | omega | (simp only [List.length_set, List.length_replicate]; omega)) only [ir8_l3, hp, hlen, wrap_i64, wrap_u64, wrap_u32, wrap_u16, wrap_u8, dec_t, dec_f, ite_t, ite_f, tmod_e, go_sem, Nat.reduceAdd, Nat.reduceMul, Nat.reduceSub, Nat.reduceLeDiff, Nat.reduceEqDiff, Nat.reduceBEq, Nat.reduceLT, Int.reduceLE, Int.reduceLT, Int.reduceEq, Int.reduceNeg, Int.reduceAdd, Int.reduceMul, Int.reduceSub, Int.reduceToNat, reduceCtorEq, ↓reduceIte]; rfl⟩

theorem hit_6 (ev : FuncId → List DV → Heap → Res DV) (c : Cf) (l : Lf) (N : Nat) (p : List Int) (mp : Mode) (hlen : p.length = 14) (a b : Nat) (hb : b < 16) (g pk : Int) (hp : p[6]? = some pk) (H : Nat → Nat) (v0 v1 v3 v4 v5 v6 v14 v15 v16 v17 v29 x7 x8 x9 x10 x11 x12 x13 x23 x25 x26 x28 : DV) (hN : l.size = (N : Int)) (hN2 : N ≤ 20000) (hH : ∀ x, H x ≤ 100000) (h0 : ¬ pk < 0) (hb0 : b = 0) (hm : pk + ((1 : Nat) : Int) ≤ N) : ∃ y7 y8 y9 y10 y11 y12 y13 y23 y25 y26 y28, 
    evalC ev NN ir8_l3 ⟨[v0, v1, .box (LDc c l), v3, v4, v5, v6, x7, x8, x9, x10, x11, x12, x13, v14, v15, v16, v17, .hsl 0 0 N N 1 false, I a, I b, I 6, .sl mp 1 (ints p), x23, B (decide ((b : Int) = 0)), x25, x26, I g, x28, v29], [], [ints (vecN N H)]⟩ =
      .norm ⟨[v0, v1, .box (LDc c l), v3, v4, v5, v6, y7, y8, y9, y10, y11, y12, y13, v14, v15, v16, v17, .hsl 0 0 N N 1 false, I a, I b, I 7, .sl mp 1 (ints p), y23, B (decide ((b : Int) = 0)), y25, y26, I g, y28, v29], [], [ints (vecN N (fun x => H x + spanF pk 1 x))]⟩ := by
  obtain ⟨q, rfl⟩ := Int.eq_ofNat_of_zero_le (show 0 ≤ pk by omega)
  have np : ¬ (q : Int) < 0 := by omega
  have c14 : ((14 : Nat) : Int) = 14 := rfl
  have w7 : IntKind.i64.wrap (6 + 1) = 7 := by decide
  have c2 : (b : Int) = 0 := by omega
  obtain ⟨z12, z13, z28, e5⟩ := fold_i ev c l N hN hN2 p mp 6 q hp 1 (by omega) H hH (by omega) v0 v1 v3 v4 v5 v6 (B true) (B false) (B false) x10 x11 x12 x13 v14 v15 v16 v17 (I a) (I b) (B true) (B (decide ((b : Int) = 0))) x25 (I g) v29 1 6 rfl rfl
  simp only [c2, decide_true] at e5 ⊢
  exact ⟨_, _, _, _, _, _, _, _, _, _, _, by simp -implicitDefEqProofs only [ir8_l3, hp, hlen, e5, np, c14, w7, c2, go_sem, Nat.reduceAdd, Nat.reduceMul, Nat.reduceSub, Nat.reduceLeDiff, Nat.reduceEqDiff, Nat.reduceBEq, Nat.reduceLT, Int.reduceLE, Int.reduceLT, Int.reduceEq, Int.reduceNeg, Int.reduceAdd, Int.reduceMul, Int.reduceSub, Int.reduceToNat, reduceCtorEq, ↓reduceIte]; rfl⟩

theorem skip_7 (ev : FuncId → List DV → Heap → Res DV) (c : Cf) (l : Lf) (N : Nat) (p : List Int) (mp : Mode) (hlen : p.length = 14) (a b : Nat) (hb : b < 16) (g pk : Int) (hp : p[7]? = some pk) (H : Nat → Nat) (v0 v1 v3 v4 v5 v6 v14 v15 v16 v17 v29 x7 x8 x9 x10 x11 x12 x13 x23 x25 x26 x28 : DV) (hs : pk < 0) : ∃ y7 y8 y9 y10 y11 y12 y13 y23 y25 y26 y28, 
    evalC ev NN ir8_l3 ⟨[v0, v1, .box (LDc c l), v3, v4, v5, v6, x7, x8, x9, x10, x11, x12, x13, v14, v15, v16, v17, .hsl 0 0 N N 1 false, I a, I b, I 7, .sl mp 1 (ints p), x23, B (decide ((b : Int) = 0)), x25, x26, I g, x28, v29], [], [ints (vecN N H)]⟩ =
      .norm ⟨[v0, v1, .box (LDc c l), v3, v4, v5, v6, y7, y8, y9, y10, y11, y12, y13, v14, v15, v16, v17, .hsl 0 0 N N 1 false, I a, I b, I 8, .sl mp 1 (ints p), y23, B (decide ((b : Int) = 0)), y25, y26, I g, y28, v29], [], [ints (vecN N H)]⟩ := by
  have c14 : ((14 : Nat) : Int) = 14 := rfl
  have w8 : IntKind.i64.wrap (7 + 1) = 8 := by decide
  exact ⟨_, _, _, _, _, _, _, _, _, _, _, by simp -implicitDefEqProofs (disch := first | omega | (simp only [List.length_set, List.length_replicate]; omega)) only [ir8_l3, hp, hlen, wrap_i64, wrap_u64, wrap_u32, wrap_u16, wrap_u8, dec_t, dec_f, ite_t, ite_f, tmod_e, go_sem, Nat.reduceAdd, Nat.reduceMul, Nat.reduceSub, Nat.reduceLeDiff, Nat.reduceEqDiff, Nat.reduceBEq, Nat.reduceLT, Int.reduceLE, Int.reduceLT, Int.reduceEq, Int.reduceNeg, Int.reduceAdd, Int.reduceMul, Int.reduceSub, Int.reduceToNat, reduceCtorEq, ↓reduceIte]; rfl⟩

theorem hit_7 (ev : FuncId → List DV → Heap → Res DV) (c : Cf) (l : Lf) (N : Nat) (p : List Int) (mp : Mode) (hlen : p.length = 14) (a b : Nat) (hb : b < 16) (g pk : Int) (hp : p[7]? = some pk) (H : Nat → Nat) (v0 v1 v3 v4 v5 v6 v14 v15 v16 v17 v29 x7 x8 x9 x10 x11 x12 x13 x23 x25 x26 x28 : DV) (hN : l.size = (N : Int)) (hN2 : N ≤ 20000) (hH : ∀ x, H x ≤ 100000) (h0 : ¬ pk < 0) (hm : pk + ((1 : Nat) : Int) ≤ N) : ∃ y7 y8 y9 y10 y11 y12 y13 y23 y25 y26 y28, 
    evalC ev NN ir8_l3 ⟨[v0, v1, .box (LDc c l), v3, v4, v5, v6, x7, x8, x9, x10, x11, x12, x13, v14, v15, v16, v17, .hsl 0 0 N N 1 false, I a, I b, I 7, .sl mp 1 (ints p), x23, B (decide ((b : Int) = 0)), x25, x26, I g, x28, v29], [], [ints (vecN N H)]⟩ =
      .norm ⟨[v0, v1, .box (LDc c l), v3, v4, v5, v6, y7, y8, y9, y10, y11, y12, y13, v14, v15, v16, v17, .hsl 0 0 N N 1 false, I a, I b, I 8, .sl mp 1 (ints p), y23, B (decide ((b : Int) = 0)), y25, y26, I g, y28, v29], [], [ints (vecN N (fun x => H x + spanF pk 1 x))]⟩ := by
  obtain ⟨q, rfl⟩ := Int.eq_ofNat_of_zero_le (show 0 ≤ pk by omega)
  have np : ¬ (q : Int) < 0 := by omega
  have c14 : ((14 : Nat) : Int) = 14 := rfl
  have w8 : IntKind.i64.wrap (7 + 1) = 8 := by decide
  obtain ⟨z12, z13, z28, e5⟩ := fold_i ev c l N hN hN2 p mp 7 q hp 1 (by omega) H hH (by omega) v0 v1 v3 v4 v5 v6 (B true) (B false) (B false) x10 x11 x12 x13 v14 v15 v16 v17 (I a) (I b) (B false) (B (decide ((b : Int) = 0))) x25 (I g) v29 1 7 rfl rfl
  exact ⟨_, _, _, _, _, _, _, _, _, _, _, by simp -implicitDefEqProofs only [ir8_l3, hp, hlen, e5, np, c14, w8, go_sem, Nat.reduceAdd, Nat.reduceMul, Nat.reduceSub, Nat.reduceLeDiff, Nat.reduceEqDiff, Nat.reduceBEq, Nat.reduceLT, Int.reduceLE, Int.reduceLT, Int.reduceEq, Int.reduceNeg, Int.reduceAdd, Int.reduceMul, Int.reduceSub, Int.reduceToNat, reduceCtorEq, ↓reduceIte]; rfl⟩

theorem skip_8 (ev : FuncId → List DV → Heap → Res DV) (c : Cf) (l : Lf) (N : Nat) (p : List Int) (mp : Mode) (hlen : p.length = 14) (a b : Nat) (hb : b < 16) (g pk : Int) (hp : p[8]? = some pk) (H : Nat → Nat) (v0 v1 v3 v4 v5 v6 v14 v15 v16 v17 v29 x7 x8 x9 x10 x11 x12 x13 x23 x25 x26 x28 : DV) (hs : pk < 0) : ∃ y7 y8 y9 y10 y11 y12 y13 y23 y25 y26 y28, 
    evalC ev NN ir8_l3 ⟨[v0, v1, .box (LDc c l), v3, v4, v5, v6, x7, x8, x9, x10, x11, x12, x13, v14, v15, v16, v17, .hsl 0 0 N N 1 false, I a, I b, I 8, .sl mp 1 (ints p), x23, B (decide ((b : Int) = 0)), x25, x26, I g, x28, v29], [], [ints (vecN N H)]⟩ =
      .norm ⟨[v0, v1, .box (LDc c l), v3, v4, v5, v6, y7, y8, y9, y10, y11, y12, y13, v14, v15, v16, v17, .hsl 0 0 N N 1 false, I a, I b, I 9, .sl mp 1 (ints p), y23, B (decide ((b : Int) = 0)), y25, y26, I g, y28, v29], [], [ints (vecN N H)]⟩ := by
  have c14 : ((14 : Nat) : Int) = 14 := rfl
  have w9 : IntKind.i64.wrap (8 + 1) = 9 := by decide
  exact ⟨_, _, _, _, _, _, _, _, _, _, _, by simp -implicitDefEqProofs (disch := first | omega | (simp only [List.length_set, List.length_replicate]; omega)) only [ir8_l3, hp, hlen, wrap_i64, wrap_u64, wrap_u32, wrap_u16, wrap_u8, dec_t, dec_f, ite_t, ite_f, tmod_e, go_sem, Nat.reduceAdd, Nat.reduceMul, Nat.reduceSub, Nat.reduceLeDiff, Nat.reduceEqDiff, Nat.reduceBEq, Nat.reduceLT, Int.reduceLE, Int.reduceLT, Int.reduceEq, Int.reduceNeg, Int.reduceAdd, Int.reduceMul, Int.reduceSub, Int.reduceToNat, reduceCtorEq, ↓reduceIte]; rfl⟩

theorem hit_8 (ev : FuncId → List DV → Heap → Res DV) (c : Cf) (l : Lf) (N : Nat) (p : List Int) (mp : Mode) (hlen : p.length = 14) (a b : Nat) (hb : b < 16) (g pk : Int) (hp : p[8]? = some pk) (H : Nat → Nat) (v0 v1 v3 v4 v5 v6 v14 v15 v16 v17 v29 x7 x8 x9 x10 x11 x12 x13 x23 x25 x26 x28 : DV) (hN : l.size = (N : Int)) (hN2 : N ≤ 20000) (hH : ∀ x, H x ≤ 100000) (h0 : ¬ pk < 0) (hm : pk + ((1 : Nat) : Int) ≤ N) : ∃ y7 y8 y9 y10 y11 y12 y13 y23 y25 y26 y28, 
    evalC ev NN ir8_l3 ⟨[v0, v1, .box (LDc c l), v3, v4, v5, v6, x7, x8, x9, x10, x11, x12, x13, v14, v15, v16, v17, .hsl 0 0 N N 1 false, I a, I b, I 8, .sl mp 1 (ints p), x23, B (decide ((b : Int) = 0)), x25, x26, I g, x28, v29], [], [ints (vecN N H)]⟩ =
      .norm ⟨[v0, v1, .box (LDc c l), v3, v4, v5, v6, y7, y8, y9, y10, y11, y12, y13, v14, v15, v16, v17, .hsl 0 0 N N 1 false, I a, I b, I 9, .sl mp 1 (ints p), y23, B (decide ((b : Int) = 0)), y25, y26, I g, y28, v29], [], [ints (vecN N (fun x => H x + spanF pk 1 x))]⟩ := by
  obtain ⟨q, rfl⟩ := Int.eq_ofNat_of_zero_le (show 0 ≤ pk by omega)
  have np : ¬ (q : Int) < 0 := by omega
  have c14 : ((14 : Nat) : Int) = 14 := rfl
  have w9 : IntKind.i64.wrap (8 + 1) = 9 := by decide
  obtain ⟨z12, z13, z28, e5⟩ := fold_i ev c l N hN hN2 p mp 8 q hp 1 (by omega) H hH (by omega) v0 v1 v3 v4 v5 v6 (B true) (B false) (B false) x10 x11 x12 x13 v14 v15 v16 v17 (I a) (I b) (B false) (B (decide ((b : Int) = 0))) x25 (I g) v29 1 8 rfl rfl
  exact ⟨_, _, _, _, _, _, _, _, _, _, _, by simp -implicitDefEqProofs only [ir8_l3, hp, hlen, e5, np, c14, w9, go_sem, Nat.reduceAdd, Nat.reduceMul, Nat.reduceSub, Nat.reduceLeDiff, Nat.reduceEqDiff, Nat.reduceBEq, Nat.reduceLT, Int.reduceLE, Int.reduceLT, Int.reduceEq, Int.reduceNeg, Int.reduceAdd, Int.reduceMul, Int.reduceSub, Int.reduceToNat, reduceCtorEq, ↓reduceIte]; rfl⟩

theorem skip_9 (ev : FuncId → List DV → Heap → Res DV) (c : Cf) (l : Lf) (N : Nat) (p : List Int) (mp : Mode) (hlen : p.length = 14) (a b : Nat) (hb : b < 16) (g pk : Int) (hp : p[9]? = some pk) (H : Nat → Nat) (v0 v1 v3 v4 v5 v6 v14 v15 v16 v17 v29 x7 x8 x9 x10 x11 x12 x13 x23 x25 x26 x28 : DV) (hs : pk < 0 ∨ ¬ b = 0) : ∃ y7 y8 y9 y10 y11 y12 y13 y23 y25 y26 y28, 
    evalC ev NN ir8_l3 ⟨[v0, v1, .box (LDc c l), v3, v4, v5, v6, x7, x8, x9, x10, x11, x12, x13, v14, v15, v16, v17, .hsl 0 0 N N 1 false, I a, I b, I 9, .sl mp 1 (ints p), x23, B (decide ((b : Int) = 0)), x25, x26, I g, x28, v29], [], [ints (vecN N H)]⟩ =
      .norm ⟨[v0, v1, .box (LDc c l), v3, v4, v5, v6, y7, y8, y9, y10, y11, y12, y13, v14, v15, v16, v17, .hsl 0 0 N N 1 false, I a, I b, I 10, .sl mp 1 (ints p), y23, B (decide ((b : Int) = 0)), y25, y26, I g, y28, v29], [], [ints (vecN N H)]⟩ := by
  have c14 : ((14 : Nat) : Int) = 14 := rfl
  have w10 : IntKind.i64.wrap (9 + 1) = 10 := by decide
  by_cases c1 : pk < 0
  · exact ⟨_, _, _, _, _, _, _, _, _, _, _, by simp -implicitDefEqProofs (disch := first | omega | (simp only [List.length_set, List.length_replicate]; omega)) only [ir8_l3, hp, hlen, wrap_i64, wrap_u64, wrap_u32, wrap_u16, wrap_u8, dec_t, dec_f, ite_t, ite_f, tmod_e, go_sem, Nat.reduceAdd, Nat.reduceMul, Nat.reduceSub, Nat.reduceLeDiff, Nat.reduceEqDiff, Nat.reduceBEq, Nat.reduceLT, Int.reduceLE, Int.reduceLT, Int.reduceEq, Int.reduceNeg, Int.reduceAdd, Int.reduceMul, Int.reduceSub, Int.reduceToNat, reduceCtorEq, ↓reduceIte]; rfl⟩
  · have c2 : ¬ (b : Int) = 0 := by omega
    exact ⟨_, _, _, _, _, _, _, _, _, _, _, by simp -implicitDefEqProofs (disch := first | omega | (simp only [List.length_set, List.length_replicate]; omega)) only [ir8_l3, hp, hlen, wrap_i64, wrap_u64, wrap_u32, wrap_u16, wrap_u8, dec_t, dec_f, ite_t, ite_f, tmod_e, go_sem, Nat.reduceAdd, Nat.reduceMul, Nat.reduceSub, Nat.reduceLeDiff, Nat.reduceEqDiff, Nat.reduceBEq, Nat.reduceLT, Int.reduceLE, Int.reduceLT, Int.reduceEq, Int.reduceNeg, Int.reduceAdd, Int.reduceMul, Int.reduceSub, Int.reduceToNat, reduceCtorEq, ↓reduceIte]; rfl⟩

theorem hit_9 (ev : FuncId → List DV → Heap → Res DV) (c : Cf) (l : Lf) (N : Nat) (p : List Int) (mp : Mode) (hlen : p.length = 14) (a b : Nat) (hb : b < 16) (g pk : Int) (hp : p[9]? = some pk) (H : Nat → Nat) (v0 v1 v3 v4 v5 v6 v14 v15 v16 v17 v29 x7 x8 x9 x10 x11 x12 x13 x23 x25 x26 x28 : DV) (hN : l.size = (N : Int)) (hN2 : N ≤ 20000) (hH : ∀ x, H x ≤ 100000) (h0 : ¬ pk < 0) (hb0 : b = 0) (hm : pk + ((1 : Nat) : Int) ≤ N) : ∃ y7 y8 y9 y10 y11 y12 y13 y23 y25 y26 y28, 
    evalC ev NN ir8_l3 ⟨[v0, v1, .box (LDc c l), v3, v4, v5, v6, x7, x8, x9, x10, x11, x12, x13, v14, v15, v16, v17, .hsl 0 0 N N 1 false, I a, I b, I 9, .sl mp 1 (ints p), x23, B (decide ((b : Int) = 0)), x25, x26, I g, x28, v29], [], [ints (vecN N H)]⟩ =
      .norm ⟨[v0, v1, .box (LDc c l), v3, v4, v5, v6, y7, y8, y9, y10, y11, y12, y13, v14, v15, v16, v17, .hsl 0 0 N N 1 false, I a, I b, I 10, .sl mp 1 (ints p), y23, B (decide ((b : Int) = 0)), y25, y26, I g, y28, v29], [], [ints (vecN N (fun x => H x + spanF pk 1 x))]⟩ := by
  obtain ⟨q, rfl⟩ := Int.eq_ofNat_of_zero_le (show 0 ≤ pk by omega)
  have np : ¬ (q : Int) < 0 := by omega
  have c14 : ((14 : Nat) : Int) = 14 := rfl
  have w10 : IntKind.i64.wrap (9 + 1) = 10 := by decide
  have c2 : (b : Int) = 0 := by omega
  obtain ⟨z12, z13, z28, e5⟩ := fold_i ev c l N hN hN2 p mp 9 q hp 1 (by omega) H hH (by omega) v0 v1 v3 v4 v5 v6 (B true) (B false) (B false) x10 x11 x12 x13 v14 v15 v16 v17 (I a) (I b) (B true) (B (decide ((b : Int) = 0))) x25 (I g) v29 1 9 rfl rfl
  simp only [c2, decide_true] at e5 ⊢
  exact ⟨_, _, _, _, _, _, _, _, _, _, _, by simp -implicitDefEqProofs only [ir8_l3, hp, hlen, e5, np, c14, w10, c2, go_sem, Nat.reduceAdd, Nat.reduceMul, Nat.reduceSub, Nat.reduceLeDiff, Nat.reduceEqDiff, Nat.reduceBEq, Nat.reduceLT, Int.reduceLE, Int.reduceLT, Int.reduceEq, Int.reduceNeg, Int.reduceAdd, Int.reduceMul, Int.reduceSub, Int.reduceToNat, reduceCtorEq, ↓reduceIte]; rfl⟩

theorem skip_10 (ev : FuncId → List DV → Heap → Res DV) (c : Cf) (l : Lf) (N : Nat) (p : List Int) (mp : Mode) (hlen : p.length = 14) (a b : Nat) (hb : b < 16) (g pk : Int) (hp : p[10]? = some pk) (H : Nat → Nat) (v0 v1 v3 v4 v5 v6 v14 v15 v16 v17 v29 x7 x8 x9 x10 x11 x12 x13 x23 x25 x26 x28 : DV) (hs : pk < 0) : ∃ y7 y8 y9 y10 y11 y12 y13 y23 y25 y26 y28, 
    evalC ev NN ir8_l3 ⟨[v0, v1, .box (LDc c l), v3, v4, v5, v6, x7, x8, x9, x10, x11, x12, x13, v14, v15, v16, v17, .hsl 0 0 N N 1 false, I a, I b, I 10, .sl mp 1 (ints p), x23, B (decide ((b : Int) = 0)), x25, x26, I g, x28, v29], [], [ints (vecN N H)]⟩ =
      .norm ⟨[v0, v1, .box (LDc c l), v3, v4, v5, v6, y7, y8, y9, y10, y11, y12, y13, v14, v15, v16, v17, .hsl 0 0 N N 1 false, I a, I b, I 11, .sl mp 1 (ints p), y23, B (decide ((b : Int) = 0)), y25, y26, I g, y28, v29], [], [ints (vecN N H)]⟩ := by
  have c14 : ((14 : Nat) : Int) = 14 := rfl
  have w11 : IntKind.i64.wrap (10 + 1) = 11 := by decide
  exact ⟨_, _, _, _, _, _, _, _, _, _, _, by simp -implicitDefEqProofs (disch := first | omega | (simp only [List.length_set, List.length_replicate]; omega)) only [ir8_l3, hp, hlen, wrap_i64, wrap_u64, wrap_u32, wrap_u16, wrap_u8, dec_t, dec_f, ite_t, ite_f, tmod_e, go_sem, Nat.reduceAdd, Nat.reduceMul, Nat.reduceSub, Nat.reduceLeDiff, Nat.reduceEqDiff, Nat.reduceBEq, Nat.reduceLT, Int.reduceLE, Int.reduceLT, Int.reduceEq, Int.reduceNeg, Int.reduceAdd, Int.reduceMul, Int.reduceSub, Int.reduceToNat, reduceCtorEq, ↓reduceIte]; rfl⟩

theorem hit_10 (ev : FuncId → List DV → Heap → Res DV) (c : Cf) (l : Lf) (N : Nat) (p : List Int) (mp : Mode) (hlen : p.length = 14) (a b : Nat) (hb : b < 16) (g pk : Int) (hp : p[10]? = some pk) (H : Nat → Nat) (v0 v1 v3 v4 v5 v6 v14 v15 v16 v17 v29 x7 x8 x9 x10 x11 x12 x13 x23 x25 x26 x28 : DV) (hN : l.size = (N : Int)) (hN2 : N ≤ 20000) (hH : ∀ x, H x ≤ 100000) (h0 : ¬ pk < 0) (hm : pk + ((1 : Nat) : Int) ≤ N) : ∃ y7 y8 y9 y10 y11 y12 y13 y23 y25 y26 y28, 
    evalC ev NN ir8_l3 ⟨[v0, v1, .box (LDc c l), v3, v4, v5, v6, x7, x8, x9, x10, x11, x12, x13, v14, v15, v16, v17, .hsl 0 0 N N 1 false, I a, I b, I 10, .sl mp 1 (ints p), x23, B (decide ((b : Int) = 0)), x25, x26, I g, x28, v29], [], [ints (vecN N H)]⟩ =
      .norm ⟨[v0, v1, .box (LDc c l), v3, v4, v5, v6, y7, y8, y9, y10, y11, y12, y13, v14, v15, v16, v17, .hsl 0 0 N N 1 false, I a, I b, I 11, .sl mp 1 (ints p), y23, B (decide ((b : Int) = 0)), y25, y26, I g, y28, v29], [], [ints (vecN N (fun x => H x + spanF pk 1 x))]⟩ := by
  obtain ⟨q, rfl⟩ := Int.eq_ofNat_of_zero_le (show 0 ≤ pk by omega)
  have np : ¬ (q : Int) < 0 := by omega
  have c14 : ((14 : Nat) : Int) = 14 := rfl
  have w11 : IntKind.i64.wrap (10 + 1) = 11 := by decide
  obtain ⟨z12, z13, z28, e5⟩ := fold_i ev c l N hN hN2 p mp 10 q hp 1 (by omega) H hH (by omega) v0 v1 v3 v4 v5 v6 (B true) (B false) (B false) x10 x11 x12 x13 v14 v15 v16 v17 (I a) (I b) (B false) (B (decide ((b : Int) = 0))) x25 (I g) v29 1 10 rfl rfl
  exact ⟨_, _, _, _, _, _, _, _, _, _, _, by simp -implicitDefEqProofs only [ir8_l3, hp, hlen, e5, np, c14, w11, go_sem, Nat.reduceAdd, Nat.reduceMul, Nat.reduceSub, Nat.reduceLeDiff, Nat.reduceEqDiff, Nat.reduceBEq, Nat.reduceLT, Int.reduceLE, Int.reduceLT, Int.reduceEq, Int.reduceNeg, Int.reduceAdd, Int.reduceMul, Int.reduceSub, Int.reduceToNat, reduceCtorEq, ↓reduceIte]; rfl⟩

theorem skip_11 (ev : FuncId → List DV → Heap → Res DV) (c : Cf) (l : Lf) (N : Nat) (p : List Int) (mp : Mode) (hlen : p.length = 14) (a b : Nat) (hb : b < 16) (g pk : Int) (hp : p[11]? = some pk) (H : Nat → Nat) (v0 v1 v3 v4 v5 v6 v14 v15 v16 v17 v29 x7 x8 x9 x10 x11 x12 x13 x23 x25 x26 x28 : DV) (hs : pk < 0 ∨ ¬ b = 0) : ∃ y7 y8 y9 y10 y11 y12 y13 y23 y25 y26 y28, 
    evalC ev NN ir8_l3 ⟨[v0, v1, .box (LDc c l), v3, v4, v5, v6, x7, x8, x9, x10, x11, x12, x13, v14, v15, v16, v17, .hsl 0 0 N N 1 false, I a, I b, I 11, .sl mp 1 (ints p), x23, B (decide ((b : Int) = 0)), x25, x26, I g, x28, v29], [], [ints (vecN N H)]⟩ =
      .norm ⟨[v0, v1, .box (LDc c l), v3, v4, v5, v6, y7, y8, y9, y10, y11, y12, y13, v14, v15, v16, v17, .hsl 0 0 N N 1 false, I a, I b, I 12, .sl mp 1 (ints p), y23, B (decide ((b : Int) = 0)), y25, y26, I g, y28, v29], [], [ints (vecN N H)]⟩ := by
  have c14 : ((14 : Nat) : Int) = 14 := rfl
  have w12 : IntKind.i64.wrap (11 + 1) = 12 := by decide
  by_cases c1 : pk < 0
  · exact ⟨_, _, _, _, _, _, _, _, _, _, _, by simp -implicitDefEqProofs (disch := first | omega | (simp only [List.length_set, List.length_replicate]; omega)) only [ir8_l3, hp, hlen, wrap_i64, wrap_u64, wrap_u32, wrap_u16, wrap_u8, dec_t, dec_f, ite_t, ite_f, tmod_e, go_sem, Nat.reduceAdd, Nat.reduceMul, Nat.reduceSub, Nat.reduceLeDiff, Nat.reduceEqDiff, Nat.reduceBEq, Nat.reduceLT, Int.reduceLE, Int.reduceLT, Int.reduceEq, Int.reduceNeg, Int.reduceAdd, Int.reduceMul, Int.reduceSub, Int.reduceToNat, reduceCtorEq, ↓reduceIte]; rfl⟩
  · have c2 : ¬ (b : Int) = 0 := by omega
    exact ⟨_, _, _, _, _, _, _, _, _, _, _, by simp -implicitDefEqProofs (disch := first | omega | (simp only [List.length_set, List.length_replicate]; omega)) only [ir8_l3, hp, hlen, wrap_i64, wrap_u64, wrap_u32, wrap_u16, wrap_u8, dec_t, dec_f, ite_t, ite_f, tmod_e, go_sem, Nat.reduceAdd, Nat.reduceMul, Nat.reduceSub, Nat.reduceLeDiff, Nat.reduceEqDiff, Nat.reduceBEq, Nat.reduceLT, Int.reduceLE, Int.reduceLT, Int.reduceEq, Int.reduceNeg, Int.reduceAdd, Int.reduceMul, Int.reduceSub, Int.reduceToNat, reduceCtorEq, ↓reduceIte]; rfl⟩

theorem hit_11 (ev : FuncId → List DV → Heap → Res DV) (c : Cf) (l : Lf) (N : Nat) (p : List Int) (mp : Mode) (hlen : p.length = 14) (a b : Nat) (hb : b < 16) (g pk : Int) (hp : p[11]? = some pk) (H : Nat → Nat) (v0 v1 v3 v4 v5 v6 v14 v15 v16 v17 v29 x7 x8 x9 x10 x11 x12 x13 x23 x25 x26 x28 : DV) (hN : l.size = (N : Int)) (hN2 : N ≤ 20000) (hH : ∀ x, H x ≤ 100000) (h0 : ¬ pk < 0) (hb0 : b = 0) (hm : pk + ((1 : Nat) : Int) ≤ N) : ∃ y7 y8 y9 y10 y11 y12 y13 y23 y25 y26 y28, 
    evalC ev NN ir8_l3 ⟨[v0, v1, .box (LDc c l), v3, v4, v5, v6, x7, x8, x9, x10, x11, x12, x13, v14, v15, v16, v17, .hsl 0 0 N N 1 false, I a, I b, I 11, .sl mp 1 (ints p), x23, B (decide ((b : Int) = 0)), x25, x26, I g, x28, v29], [], [ints (vecN N H)]⟩ =
      .norm ⟨[v0, v1, .box (LDc c l), v3, v4, v5, v6, y7, y8, y9, y10, y11, y12, y13, v14, v15, v16, v17, .hsl 0 0 N N 1 false, I a, I b, I 12, .sl mp 1 (ints p), y23, B (decide ((b : Int) = 0)), y25, y26, I g, y28, v29], [], [ints (vecN N (fun x => H x + spanF pk 1 x))]⟩ := by
  obtain ⟨q, rfl⟩ := Int.eq_ofNat_of_zero_le (show 0 ≤ pk by omega)
  have np : ¬ (q : Int) < 0 := by omega
  have c14 : ((14 : Nat) : Int) = 14 := rfl
  have w12 : IntKind.i64.wrap (11 + 1) = 12 := by decide
  have c2 : (b : Int) = 0 := by omega
  obtain ⟨z12, z13, z28, e5⟩ := fold_i ev c l N hN hN2 p mp 11 q hp 1 (by omega) H hH (by omega) v0 v1 v3 v4 v5 v6 (B true) (B false) (B false) x10 x11 x12 x13 v14 v15 v16 v17 (I a) (I b) (B true) (B (decide ((b : Int) = 0))) x25 (I g) v29 1 11 rfl rfl
  simp only [c2, decide_true] at e5 ⊢
  exact ⟨_, _, _, _, _, _, _, _, _, _, _, by simp -implicitDefEqProofs only [ir8_l3, hp, hlen, e5, np, c14, w12, c2, go_sem, Nat.reduceAdd, Nat.reduceMul, Nat.reduceSub, Nat.reduceLeDiff, Nat.reduceEqDiff, Nat.reduceBEq, Nat.reduceLT, Int.reduceLE, Int.reduceLT, Int.reduceEq, Int.reduceNeg, Int.reduceAdd, Int.reduceMul, Int.reduceSub, Int.reduceToNat, reduceCtorEq, ↓reduceIte]; rfl⟩

theorem skip_12 (ev : FuncId → List DV → Heap → Res DV) (c : Cf) (l : Lf) (N : Nat) (p : List Int) (mp : Mode) (hlen : p.length = 14) (a b : Nat) (hb : b < 16) (g pk : Int) (hp : p[12]? = some pk) (H : Nat → Nat) (v0 v1 v3 v4 v5 v6 v14 v15 v16 v17 v29 x7 x8 x9 x10 x11 x12 x13 x23 x25 x26 x28 : DV) (hs : pk < 0 ∨ ¬ b = 0) : ∃ y7 y8 y9 y10 y11 y12 y13 y23 y25 y26 y28, 
    evalC ev NN ir8_l3 ⟨[v0, v1, .box (LDc c l), v3, v4, v5, v6, x7, x8, x9, x10, x11, x12, x13, v14, v15, v16, v17, .hsl 0 0 N N 1 false, I a, I b, I 12, .sl mp 1 (ints p), x23, B (decide ((b : Int) = 0)), x25, x26, I g, x28, v29], [], [ints (vecN N H)]⟩ =
      .norm ⟨[v0, v1, .box (LDc c l), v3, v4, v5, v6, y7, y8, y9, y10, y11, y12, y13, v14, v15, v16, v17, .hsl 0 0 N N 1 false, I a, I b, I 13, .sl mp 1 (ints p), y23, B (decide ((b : Int) = 0)), y25, y26, I g, y28, v29], [], [ints (vecN N H)]⟩ := by
  have c14 : ((14 : Nat) : Int) = 14 := rfl
  have w13 : IntKind.i64.wrap (12 + 1) = 13 := by decide
  by_cases c1 : pk < 0
  · exact ⟨_, _, _, _, _, _, _, _, _, _, _, by simp -implicitDefEqProofs (disch := first | omega | (simp only [List.length_set, List.length_replicate]; omega)) only [ir8_l3, hp, hlen, wrap_i64, wrap_u64, wrap_u32, wrap_u16, wrap_u8, dec_t, dec_f, ite_t, ite_f, tmod_e, go_sem, Nat.reduceAdd, Nat.reduceMul, Nat.reduceSub, Nat.reduceLeDiff, Nat.reduceEqDiff, Nat.reduceBEq, Nat.reduceLT, Int.reduceLE, Int.reduceLT, Int.reduceEq, Int.reduceNeg, Int.reduceAdd, Int.reduceMul, Int.reduceSub, Int.reduceToNat, reduceCtorEq, ↓reduceIte]; rfl⟩
  · have c2 : ¬ (b : Int) = 0 := by omega
    exact ⟨_, _, _, _, _, _, _, _, _, _, _, by simp -implicitDefEqProofs (disch := first | omega | (simp only [List.length_set, List.length_replicate]; omega)) only [ir8_l3, hp, hlen, wrap_i64, wrap_u64, wrap_u32, wrap_u16, wrap_u8, dec_t, dec_f, ite_t, ite_f, tmod_e, go_sem, Nat.reduceAdd, Nat.reduceMul, Nat.reduceSub, Nat.reduceLeDiff, Nat.reduceEqDiff, Nat.reduceBEq, Nat.reduceLT, Int.reduceLE, Int.reduceLT, Int.reduceEq, Int.reduceNeg, Int.reduceAdd, Int.reduceMul, Int.reduceSub, Int.reduceToNat, reduceCtorEq, ↓reduceIte]; rfl⟩

theorem hit_12 (ev : FuncId → List DV → Heap → Res DV) (c : Cf) (l : Lf) (N : Nat) (p : List Int) (mp : Mode) (hlen : p.length = 14) (a b : Nat) (hb : b < 16) (g pk : Int) (hp : p[12]? = some pk) (H : Nat → Nat) (v0 v1 v3 v4 v5 v6 v14 v15 v16 v17 v29 x7 x8 x9 x10 x11 x12 x13 x23 x25 x26 x28 : DV) (hN : l.size = (N : Int)) (hN2 : N ≤ 20000) (hH : ∀ x, H x ≤ 100000) (h0 : ¬ pk < 0) (hb0 : b = 0) (hm : pk + ((1 : Nat) : Int) ≤ N) : ∃ y7 y8 y9 y10 y11 y12 y13 y23 y25 y26 y28, 
    evalC ev NN ir8_l3 ⟨[v0, v1, .box (LDc c l), v3, v4, v5, v6, x7, x8, x9, x10, x11, x12, x13, v14, v15, v16, v17, .hsl 0 0 N N 1 false, I a, I b, I 12, .sl mp 1 (ints p), x23, B (decide ((b : Int) = 0)), x25, x26, I g, x28, v29], [], [ints (vecN N H)]⟩ =
      .norm ⟨[v0, v1, .box (LDc c l), v3, v4, v5, v6, y7, y8, y9, y10, y11, y12, y13, v14, v15, v16, v17, .hsl 0 0 N N 1 false, I a, I b, I 13, .sl mp 1 (ints p), y23, B (decide ((b : Int) = 0)), y25, y26, I g, y28, v29], [], [ints (vecN N (fun x => H x + spanF pk 1 x))]⟩ := by
  obtain ⟨q, rfl⟩ := Int.eq_ofNat_of_zero_le (show 0 ≤ pk by omega)
  have np : ¬ (q : Int) < 0 := by omega
  have c14 : ((14 : Nat) : Int) = 14 := rfl
  have w13 : IntKind.i64.wrap (12 + 1) = 13 := by decide
  have c2 : (b : Int) = 0 := by omega
  obtain ⟨z12, z13, z28, e5⟩ := fold_i ev c l N hN hN2 p mp 12 q hp 1 (by omega) H hH (by omega) v0 v1 v3 v4 v5 v6 (B true) (B false) (B false) x10 x11 x12 x13 v14 v15 v16 v17 (I a) (I b) (B true) (B (decide ((b : Int) = 0))) x25 (I g) v29 1 12 rfl rfl
  simp only [c2, decide_true] at e5 ⊢
  exact ⟨_, _, _, _, _, _, _, _, _, _, _, by simp -implicitDefEqProofs only [ir8_l3, hp, hlen, e5, np, c14, w13, c2, go_sem, Nat.reduceAdd, Nat.reduceMul, Nat.reduceSub, Nat.reduceLeDiff, Nat.reduceEqDiff, Nat.reduceBEq, Nat.reduceLT, Int.reduceLE, Int.reduceLT, Int.reduceEq, Int.reduceNeg, Int.reduceAdd, Int.reduceMul, Int.reduceSub, Int.reduceToNat, reduceCtorEq, ↓reduceIte]; rfl⟩

theorem skip_13 (ev : FuncId → List DV → Heap → Res DV) (c : Cf) (l : Lf) (N : Nat) (p : List Int) (mp : Mode) (hlen : p.length = 14) (a b : Nat) (hb : b < 16) (g pk : Int) (hp : p[13]? = some pk) (H : Nat → Nat) (v0 v1 v3 v4 v5 v6 v14 v15 v16 v17 v29 x7 x8 x9 x10 x11 x12 x13 x23 x25 x26 x28 : DV) (hs : pk < 0) : ∃ y7 y8 y9 y10 y11 y12 y13 y23 y25 y26 y28, 
    evalC ev NN ir8_l3 ⟨[v0, v1, .box (LDc c l), v3, v4, v5, v6, x7, x8, x9, x10, x11, x12, x13, v14, v15, v16, v17, .hsl 0 0 N N 1 false, I a, I b, I 13, .sl mp 1 (ints p), x23, B (decide ((b : Int) = 0)), x25, x26, I g, x28, v29], [], [ints (vecN N H)]⟩ =
      .norm ⟨[v0, v1, .box (LDc c l), v3, v4, v5, v6, y7, y8, y9, y10, y11, y12, y13, v14, v15, v16, v17, .hsl 0 0 N N 1 false, I a, I b, I 14, .sl mp 1 (ints p), y23, B (decide ((b : Int) = 0)), y25, y26, I g, y28, v29], [], [ints (vecN N H)]⟩ := by
  have c14 : ((14 : Nat) : Int) = 14 := rfl
  have w14 : IntKind.i64.wrap (13 + 1) = 14 := by decide
  exact ⟨_, _, _, _, _, _, _, _, _, _, _, by simp -implicitDefEqProofs (disch := first | omega | (simp only [List.length_set, List.length_replicate]; omega)) only [ir8_l3, hp, hlen, wrap_i64, wrap_u64, wrap_u32, wrap_u16, wrap_u8, dec_t, dec_f, ite_t, ite_f, tmod_e, go_sem, Nat.reduceAdd, Nat.reduceMul, Nat.reduceSub, Nat.reduceLeDiff, Nat.reduceEqDiff, Nat.reduceBEq, Nat.reduceLT, Int.reduceLE, Int.reduceLT, Int.reduceEq, Int.reduceNeg, Int.reduceAdd, Int.reduceMul, Int.reduceSub, Int.reduceToNat, reduceCtorEq, ↓reduceIte]; rfl⟩

theorem hit_13 (ev : FuncId → List DV → Heap → Res DV) (c : Cf) (l : Lf) (N : Nat) (p : List Int) (mp : Mode) (hlen : p.length = 14) (a b : Nat) (hb : b < 16) (g pk : Int) (hp : p[13]? = some pk) (H : Nat → Nat) (v0 v1 v3 v4 v5 v6 v14 v15 v16 v17 v29 x7 x8 x9 x10 x11 x12 x13 x23 x25 x26 x28 : DV) (hN : l.size = (N : Int)) (hN2 : N ≤ 20000) (hH : ∀ x, H x ≤ 100000) (h0 : ¬ pk < 0) (hm : pk + ((1 : Nat) : Int) ≤ N) : ∃ y7 y8 y9 y10 y11 y12 y13 y23 y25 y26 y28, 
    evalC ev NN ir8_l3 ⟨[v0, v1, .box (LDc c l), v3, v4, v5, v6, x7, x8, x9, x10, x11, x12, x13, v14, v15, v16, v17, .hsl 0 0 N N 1 false, I a, I b, I 13, .sl mp 1 (ints p), x23, B (decide ((b : Int) = 0)), x25, x26, I g, x28, v29], [], [ints (vecN N H)]⟩ =
      .norm ⟨[v0, v1, .box (LDc c l), v3, v4, v5, v6, y7, y8, y9, y10, y11, y12, y13, v14, v15, v16, v17, .hsl 0 0 N N 1 false, I a, I b, I 14, .sl mp 1 (ints p), y23, B (decide ((b : Int) = 0)), y25, y26, I g, y28, v29], [], [ints (vecN N (fun x => H x + spanF pk 1 x))]⟩ := by
  obtain ⟨q, rfl⟩ := Int.eq_ofNat_of_zero_le (show 0 ≤ pk by omega)
  have np : ¬ (q : Int) < 0 := by omega
  have c14 : ((14 : Nat) : Int) = 14 := rfl
  have w14 : IntKind.i64.wrap (13 + 1) = 14 := by decide
  obtain ⟨z12, z13, z28, e5⟩ := fold_i ev c l N hN hN2 p mp 13 q hp 1 (by omega) H hH (by omega) v0 v1 v3 v4 v5 v6 (B true) (B false) (B false) x10 x11 x12 x13 v14 v15 v16 v17 (I a) (I b) (B false) (B (decide ((b : Int) = 0))) x25 (I g) v29 1 13 rfl rfl
  exact ⟨_, _, _, _, _, _, _, _, _, _, _, by simp -implicitDefEqProofs only [ir8_l3, hp, hlen, e5, np, c14, w14, go_sem, Nat.reduceAdd, Nat.reduceMul, Nat.reduceSub, Nat.reduceLeDiff, Nat.reduceEqDiff, Nat.reduceBEq, Nat.reduceLT, Int.reduceLE, Int.reduceLT, Int.reduceEq, Int.reduceNeg, Int.reduceAdd, Int.reduceMul, Int.reduceSub, Int.reduceToNat, reduceCtorEq, ↓reduceIte]; rfl⟩

end Go.D.Layout
