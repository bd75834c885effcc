/- The rows of LayoutApart, in the evaluator. Printed by wip/tool/genapart2.py. -/
import Derived.Test.YtilfhbpehgklbaaQqLayoutF
set_option linter.unusedSimpArgs false
set_option linter.unusedVariables false
namespace Go.D.Layout
open Go.D
set_option maxRecDepth 100000
set_option maxHeartbeats 2000000
variable {d : Nat} {h : Heap}

def sumR (f : Nat → Nat) : Nat → Nat
  | 0 => 0
  | n + 1 => sumR f n + f n
theorem sumR_le {f : Nat → Nat} {m : Nat} : ∀ n, (∀ x, f x ≤ m) → sumR f n ≤ n * m
  | 0, _ => by simp [sumR]
  | n + 1, h => by
    have := sumR_le n h
    have := h n
    rw [sumR, Nat.add_mul, Nat.one_mul]; omega
/-- Is a kind one of those of one number; how many cells a place of a kind is; what a place adds to the count of a cell. -/
def oneB (k : Nat) : Bool := k == 0 || k == 1 || k == 6 || k == 9 || k == 11 || k == 12
def mnF (b k : Nat) : Nat := if k = 4 then 4 * 2 ^ b else 1
def cK (p : List Int) (b k x : Nat) : Nat := if p.getD k 0 < 0 ∨ (oneB k = true ∧ ¬ b = 0) then 0 else spanF (p.getD k 0) (mnF b k) x
theorem cK_le (p : List Int) (b k x : Nat) : cK p b k x ≤ 1 := by unfold cK; split; omega; exact span_le _ _ _
/-- What is asked of the places of two numbers. -/
structure Fit (p : List Int) (b N : Nat) (g : Int) : Prop where
  len : p.length = 14
  fit : ∀ k, k < 14 → ¬ (p.getD k 0 < 0 ∨ (oneB k = true ∧ ¬ b = 0)) → p.getD k 0 + (mnF b k : Int) ≤ N
  ring : ¬ p.getD 4 0 < 0 → (b : Int) < g

theorem round_k (ev : FuncId → List DV → Heap → Res DV) (c : Cf) (l : Lf) (N : Nat) (hN : l.size = (N : Int)) (hN2 : N ≤ 20000) (p : List Int) (mp : Mode) (a b : Nat) (hb : b < 16) (g : Int) (F : Fit p b N g) (H : Nat → Nat) (hH : ∀ x, H x ≤ 100000) (k : Nat) (hk : k < 14)
    (v0 v1 v3 v4 v5 v6 v14 v15 v16 v17 v29 x7 x8 x9 x10 x11 x12 x13 x23 x25 x26 x28 : DV) : ∃ y7 y8 y9 y10 y11 y12 y13 y23 y25 y26 y28, evalC ev NN ir8_l3 ⟨[v0, v1, .box (LDc c l), v3, v4, v5, v6, x7, x8, x9, x10, x11, x12, x13, v14, v15, v16, v17, .hsl 0 0 N N 1 false, I a, I b, I k, .sl mp 1 (ints p), x23, B (decide ((b : Int) = 0)), x25, x26, I g, x28, v29], [], [ints (vecN N H)]⟩ = .norm ⟨[v0, v1, .box (LDc c l), v3, v4, v5, v6, y7, y8, y9, y10, y11, y12, y13, v14, v15, v16, v17, .hsl 0 0 N N 1 false, I a, I b, I (k + 1 : Nat), .sl mp 1 (ints p), y23, B (decide ((b : Int) = 0)), y25, y26, I g, y28, v29], [], [ints (vecN N (fun x => H x + cK p b k x))]⟩ := by
  have hp : p[k]? = some (p.getD k 0) := by rw [List.getD_eq_getElem?_getD, List.getElem?_eq_getElem (by rw [F.len]; exact hk)]; rfl
  have hfit := F.fit k hk
  have hring := F.ring
  have hskip : (p.getD k 0 < 0 ∨ (oneB k = true ∧ ¬ b = 0)) → vecN N H = vecN N (fun x => H x + cK p b k x) := fun hs => vecN_ext (fun x => by unfold cK; rw [if_pos hs]; rfl)
  have hhit : ¬ (p.getD k 0 < 0 ∨ (oneB k = true ∧ ¬ b = 0)) → vecN N (fun x => H x + spanF (p.getD k 0) (mnF b k) x) = vecN N (fun x => H x + cK p b k x) := fun hs => vecN_ext (fun x => by unfold cK; rw [if_neg hs])
  by_cases hs : p.getD k 0 < 0 ∨ (oneB k = true ∧ ¬ b = 0)
  · rw [← hskip hs]
    clear hskip hhit hfit hring
    have h14 : k = 0 ∨ k = 1 ∨ k = 2 ∨ k = 3 ∨ k = 4 ∨ k = 5 ∨ k = 6 ∨ k = 7 ∨ k = 8 ∨ k = 9 ∨ k = 10 ∨ k = 11 ∨ k = 12 ∨ k = 13 := by omega
    rcases h14 with rfl | rfl | rfl | rfl | rfl | rfl | rfl | rfl | rfl | rfl | rfl | rfl | rfl | rfl
    · exact skip_0 ev c l N p mp F.len a b hb g _ hp H v0 v1 v3 v4 v5 v6 v14 v15 v16 v17 v29 x7 x8 x9 x10 x11 x12 x13 x23 x25 x26 x28 (hs.imp_right (·.2))
    · exact skip_1 ev c l N p mp F.len a b hb g _ hp H v0 v1 v3 v4 v5 v6 v14 v15 v16 v17 v29 x7 x8 x9 x10 x11 x12 x13 x23 x25 x26 x28 (hs.imp_right (·.2))
    · exact skip_2 ev c l N p mp F.len a b hb g _ hp H v0 v1 v3 v4 v5 v6 v14 v15 v16 v17 v29 x7 x8 x9 x10 x11 x12 x13 x23 x25 x26 x28 (hs.resolve_right (fun h => absurd h.1 (by decide)))
    · exact skip_3 ev c l N p mp F.len a b hb g _ hp H v0 v1 v3 v4 v5 v6 v14 v15 v16 v17 v29 x7 x8 x9 x10 x11 x12 x13 x23 x25 x26 x28 (hs.resolve_right (fun h => absurd h.1 (by decide)))
    · exact skip_4 ev c l N p mp F.len a b hb g _ hp H v0 v1 v3 v4 v5 v6 v14 v15 v16 v17 v29 x7 x8 x9 x10 x11 x12 x13 x23 x25 x26 x28 (hs.resolve_right (fun h => absurd h.1 (by decide)))
    · exact skip_5 ev c l N p mp F.len a b hb g _ hp H v0 v1 v3 v4 v5 v6 v14 v15 v16 v17 v29 x7 x8 x9 x10 x11 x12 x13 x23 x25 x26 x28 (hs.resolve_right (fun h => absurd h.1 (by decide)))
    · exact skip_6 ev c l N p mp F.len a b hb g _ hp H v0 v1 v3 v4 v5 v6 v14 v15 v16 v17 v29 x7 x8 x9 x10 x11 x12 x13 x23 x25 x26 x28 (hs.imp_right (·.2))
    · exact skip_7 ev c l N p mp F.len a b hb g _ hp H v0 v1 v3 v4 v5 v6 v14 v15 v16 v17 v29 x7 x8 x9 x10 x11 x12 x13 x23 x25 x26 x28 (hs.resolve_right (fun h => absurd h.1 (by decide)))
    · exact skip_8 ev c l N p mp F.len a b hb g _ hp H v0 v1 v3 v4 v5 v6 v14 v15 v16 v17 v29 x7 x8 x9 x10 x11 x12 x13 x23 x25 x26 x28 (hs.resolve_right (fun h => absurd h.1 (by decide)))
    · exact skip_9 ev c l N p mp F.len a b hb g _ hp H v0 v1 v3 v4 v5 v6 v14 v15 v16 v17 v29 x7 x8 x9 x10 x11 x12 x13 x23 x25 x26 x28 (hs.imp_right (·.2))
    · exact skip_10 ev c l N p mp F.len a b hb g _ hp H v0 v1 v3 v4 v5 v6 v14 v15 v16 v17 v29 x7 x8 x9 x10 x11 x12 x13 x23 x25 x26 x28 (hs.resolve_right (fun h => absurd h.1 (by decide)))
    · exact skip_11 ev c l N p mp F.len a b hb g _ hp H v0 v1 v3 v4 v5 v6 v14 v15 v16 v17 v29 x7 x8 x9 x10 x11 x12 x13 x23 x25 x26 x28 (hs.imp_right (·.2))
    · exact skip_12 ev c l N p mp F.len a b hb g _ hp H v0 v1 v3 v4 v5 v6 v14 v15 v16 v17 v29 x7 x8 x9 x10 x11 x12 x13 x23 x25 x26 x28 (hs.imp_right (·.2))
    · exact skip_13 ev c l N p mp F.len a b hb g _ hp H v0 v1 v3 v4 v5 v6 v14 v15 v16 v17 v29 x7 x8 x9 x10 x11 x12 x13 x23 x25 x26 x28 (hs.resolve_right (fun h => absurd h.1 (by decide)))
  · rw [← hhit hs]
    have hfit := hfit hs
    clear hskip hhit
    have h14 : k = 0 ∨ k = 1 ∨ k = 2 ∨ k = 3 ∨ k = 4 ∨ k = 5 ∨ k = 6 ∨ k = 7 ∨ k = 8 ∨ k = 9 ∨ k = 10 ∨ k = 11 ∨ k = 12 ∨ k = 13 := by omega
    have hs1 : ¬ p.getD k 0 < 0 := fun h => hs (.inl h)
    have hs2 : oneB k = true → b = 0 := fun h1 => Classical.byContradiction fun h2 => hs (.inr ⟨h1, h2⟩)
    rcases h14 with rfl | rfl | rfl | rfl | rfl | rfl | rfl | rfl | rfl | rfl | rfl | rfl | rfl | rfl
    · exact hit_0 ev c l N p mp F.len a b hb g _ hp H v0 v1 v3 v4 v5 v6 v14 v15 v16 v17 v29 x7 x8 x9 x10 x11 x12 x13 x23 x25 x26 x28 hN hN2 hH hs1 (hs2 rfl) hfit
    · exact hit_1 ev c l N p mp F.len a b hb g _ hp H v0 v1 v3 v4 v5 v6 v14 v15 v16 v17 v29 x7 x8 x9 x10 x11 x12 x13 x23 x25 x26 x28 hN hN2 hH hs1 (hs2 rfl) hfit
    · exact hit_2 ev c l N p mp F.len a b hb g _ hp H v0 v1 v3 v4 v5 v6 v14 v15 v16 v17 v29 x7 x8 x9 x10 x11 x12 x13 x23 x25 x26 x28 hN hN2 hH hs1 hfit
    · exact hit_3 ev c l N p mp F.len a b hb g _ hp H v0 v1 v3 v4 v5 v6 v14 v15 v16 v17 v29 x7 x8 x9 x10 x11 x12 x13 x23 x25 x26 x28 hN hN2 hH hs1 hfit
    · exact hit_4 ev c l N p mp F.len a b hb g _ hp H v0 v1 v3 v4 v5 v6 v14 v15 v16 v17 v29 x7 x8 x9 x10 x11 x12 x13 x23 x25 x26 x28 hN hN2 hH hs1 (hring hs1) hfit
    · exact hit_5 ev c l N p mp F.len a b hb g _ hp H v0 v1 v3 v4 v5 v6 v14 v15 v16 v17 v29 x7 x8 x9 x10 x11 x12 x13 x23 x25 x26 x28 hN hN2 hH hs1 hfit
    · exact hit_6 ev c l N p mp F.len a b hb g _ hp H v0 v1 v3 v4 v5 v6 v14 v15 v16 v17 v29 x7 x8 x9 x10 x11 x12 x13 x23 x25 x26 x28 hN hN2 hH hs1 (hs2 rfl) hfit
    · exact hit_7 ev c l N p mp F.len a b hb g _ hp H v0 v1 v3 v4 v5 v6 v14 v15 v16 v17 v29 x7 x8 x9 x10 x11 x12 x13 x23 x25 x26 x28 hN hN2 hH hs1 hfit
    · exact hit_8 ev c l N p mp F.len a b hb g _ hp H v0 v1 v3 v4 v5 v6 v14 v15 v16 v17 v29 x7 x8 x9 x10 x11 x12 x13 x23 x25 x26 x28 hN hN2 hH hs1 hfit
    · exact hit_9 ev c l N p mp F.len a b hb g _ hp H v0 v1 v3 v4 v5 v6 v14 v15 v16 v17 v29 x7 x8 x9 x10 x11 x12 x13 x23 x25 x26 x28 hN hN2 hH hs1 (hs2 rfl) hfit
    · exact hit_10 ev c l N p mp F.len a b hb g _ hp H v0 v1 v3 v4 v5 v6 v14 v15 v16 v17 v29 x7 x8 x9 x10 x11 x12 x13 x23 x25 x26 x28 hN hN2 hH hs1 hfit
    · exact hit_11 ev c l N p mp F.len a b hb g _ hp H v0 v1 v3 v4 v5 v6 v14 v15 v16 v17 v29 x7 x8 x9 x10 x11 x12 x13 x23 x25 x26 x28 hN hN2 hH hs1 (hs2 rfl) hfit
    · exact hit_12 ev c l N p mp F.len a b hb g _ hp H v0 v1 v3 v4 v5 v6 v14 v15 v16 v17 v29 x7 x8 x9 x10 x11 x12 x13 x23 x25 x26 x28 hN hN2 hH hs1 (hs2 rfl) hfit
    · exact hit_13 ev c l N p mp F.len a b hb g _ hp H v0 v1 v3 v4 v5 v6 v14 v15 v16 v17 v29 x7 x8 x9 x10 x11 x12 x13 x23 x25 x26 x28 hN hN2 hH hs1 hfit

theorem loop_k (ev : FuncId → List DV → Heap → Res DV) (c : Cf) (l : Lf) (N : Nat) (hN : l.size = (N : Int)) (hN2 : N ≤ 20000) (p : List Int) (mp : Mode) (a b : Nat) (hb : b < 16) (g : Int) (F : Fit p b N g) (H : Nat → Nat) (hH : ∀ x, H x ≤ 90000)
    (v0 v1 v3 v4 v5 v6 v14 v15 v16 v17 v29 : DV) : ∀ (n k : Nat), k ≤ 14 → 14 - k < n → ∀ x7 x8 x9 x10 x11 x12 x13 x23 x25 x26 x28, ∃ y7 y8 y9 y10 y11 y12 y13 y23 y25 y26 y28 y21,
    iter (evalC ev NN ir8_l3) n ⟨[v0, v1, .box (LDc c l), v3, v4, v5, v6, x7, x8, x9, x10, x11, x12, x13, v14, v15, v16, v17, .hsl 0 0 N N 1 false, I a, I b, I k, .sl mp 1 (ints p), x23, B (decide ((b : Int) = 0)), x25, x26, I g, x28, v29], [], [ints (vecN N (fun x => H x + sumR (cK p b · x) k))]⟩ = .exit 4 ⟨[v0, v1, .box (LDc c l), v3, v4, v5, v6, y7, y8, y9, y10, y11, y12, y13, v14, v15, v16, v17, .hsl 0 0 N N 1 false, I a, I b, y21, .sl mp 1 (ints p), y23, B (decide ((b : Int) = 0)), y25, y26, I g, y28, v29], [], [ints (vecN N (fun x => H x + sumR (cK p b · x) 14))]⟩ := by
  intro n
  induction n with
  | zero => intro k _ h2; omega
  | succ n ih =>
    intro k hk hn x7 x8 x9 x10 x11 x12 x13 x23 x25 x26 x28
    by_cases hlt : k < 14
    · have hH2 : ∀ x, H x + sumR (cK p b · x) k ≤ 100000 := fun x => by
        have := sumR_le (f := (cK p b · x)) k (fun j => cK_le p b j x)
        have := hH x
        omega
      obtain ⟨y7, y8, y9, y10, y11, y12, y13, y23, y25, y26, y28, e⟩ := round_k ev c l N hN hN2 p mp a b hb g F _ hH2 k hlt v0 v1 v3 v4 v5 v6 v14 v15 v16 v17 v29 x7 x8 x9 x10 x11 x12 x13 x23 x25 x26 x28
      obtain ⟨z7, z8, z9, z10, z11, z12, z13, z23, z25, z26, z28, z21, e2⟩ := ih (k + 1) (by omega) (by omega) y7 y8 y9 y10 y11 y12 y13 y23 y25 y26 y28
      refine ⟨z7, z8, z9, z10, z11, z12, z13, z23, z25, z26, z28, z21, ?_⟩
      rw [← e2]
      have hx : vecN N (fun x => H x + sumR (cK p b · x) k + cK p b k x) = vecN N (fun x => H x + sumR (cK p b · x) (k + 1)) := vecN_ext (fun x => by rw [sumR]; omega)
      rw [hx] at e
      rw [iter, e]
    · have hka : k = 14 := by omega
      subst hka
      have hlt' : ¬ ((14 : Nat) : Int) < (14 : Nat) := by omega
      refine ⟨B false, x8, x9, x10, x11, x12, x13, x23, x25, x26, x28, I (14 : Nat), ?_⟩
      have hl := F.len
      generalize vecN N (fun x => H x + sumR (cK p b · x) 14) = W
      simp -implicitDefEqProofs (disch := first | omega | (simp only [List.length_set, List.length_replicate]; omega)) only [iter, ir8_l3, hl, wrap_i64, wrap_u64, wrap_u32, wrap_u16, wrap_u8, dec_t, dec_f, ite_t, ite_f, tmod_e, go_sem, Nat.reduceAdd, Nat.reduceMul, Nat.reduceSub, Nat.reduceLeDiff, Nat.reduceEqDiff, Nat.reduceBEq, Nat.reduceLT, Int.reduceLE, Int.reduceLT, Int.reduceEq, Int.reduceNeg, Int.reduceAdd, Int.reduceMul, Int.reduceSub, Int.reduceToNat, reduceCtorEq, ↓reduceIte]

theorem loop_b (ev : FuncId → List DV → Heap → Res DV) (c : Cf) (l : Lf) (N : Nat) (hN : l.size = (N : Int)) (hN2 : N ≤ 20000) (P : Nat → List Int) (mo : Mode) (a : Nat) (g : Int) (F : ∀ b, b < 16 → Fit (P b) b N g) (H : Nat → Nat) (hH : ∀ x, H x ≤ 80000)
    (q : ∀ h (b : Nat), b < 16 → callP ev 18 [.agg (LDc c l), I a, I b] h = .ok (.sl mo 1 (ints (P b))) h)
    (v0 v1 v3 v4 v5 v14 v15 v16 v17 v29 : DV) : ∀ (n b : Nat), b ≤ 16 → 16 - b < n → ∀ x6 x7 x8 x9 x10 x11 x12 x13 x21 x22 x23 x24 x25 x26 x28, ∃ y6 y7 y8 y9 y10 y11 y12 y13 y21 y22 y23 y24 y25 y26 y28 y20,
    iter (evalC ev NN ir8_l2) n ⟨[v0, v1, .box (LDc c l), v3, v4, v5, x6, x7, x8, x9, x10, x11, x12, x13, v14, v15, v16, v17, .hsl 0 0 N N 1 false, I a, I b, x21, x22, x23, x24, x25, x26, I g, x28, v29], [], [ints (vecN N (fun x => H x + sumR (fun b => sumR (cK (P b) b · x) 14) b))]⟩ = .exit 2 ⟨[v0, v1, .box (LDc c l), v3, v4, v5, y6, y7, y8, y9, y10, y11, y12, y13, v14, v15, v16, v17, .hsl 0 0 N N 1 false, I a, y20, y21, y22, y23, y24, y25, y26, I g, y28, v29], [], [ints (vecN N (fun x => H x + sumR (fun b => sumR (cK (P b) b · x) 14) 16))]⟩ := by
  intro n
  induction n with
  | zero => intro b _ h2; omega
  | succ n ih =>
    intro b hb hn x6 x7 x8 x9 x10 x11 x12 x13 x21 x22 x23 x24 x25 x26 x28
    by_cases hlt : b < 16
    · have hH2 : ∀ x, H x + sumR (fun b => sumR (cK (P b) b · x) 14) b ≤ 90000 := fun x => by
        have := sumR_le (f := fun b => sumR (cK (P b) b · x) 14) (m := 14) b (fun j => by have := sumR_le (f := (cK (P j) j · x)) 14 (fun i => cK_le (P j) j i x); omega)
        have := hH x
        omega
      obtain ⟨y7, y8, y9, y10, y11, y12, y13, y23, y25, y26, y28, y21, e⟩ := loop_k ev c l N hN hN2 (P b) mo a b hlt g (F b hlt) _ hH2 v0 v1 v3 v4 v5 (B true) v14 v15 v16 v17 v29 NN 0 (by omega) (by unfold NN; omega) x7 x8 x9 x10 x11 x12 x13 x23 x25 x26 x28
      obtain ⟨z6, z7, z8, z9, z10, z11, z12, z13, z21, z22, z23, z24, z25, z26, z28, z20, e2⟩ := ih (b + 1) (by omega) (by omega) (B true) y7 y8 y9 y10 y11 y12 y13 y21 (.sl mo 1 (ints (P b))) y23 (B (decide ((b : Int) = 0))) y25 y26 y28
      refine ⟨z6, z7, z8, z9, z10, z11, z12, z13, z21, z22, z23, z24, z25, z26, z28, z20, ?_⟩
      rw [← e2]
      have hx : vecN N (fun x => H x + sumR (fun b => sumR (cK (P b) b · x) 14) b + sumR (cK (P b) b · x) 14) = vecN N (fun x => H x + sumR (fun b => sumR (cK (P b) b · x) 14) (b + 1)) := vecN_ext (fun x => Nat.add_assoc _ _ _)
      have h00 : vecN N (fun x => H x + sumR (fun b => sumR (cK (P b) b · x) 14) b + sumR (cK (P b) b · x) 0) = vecN N (fun x => H x + sumR (fun b => sumR (cK (P b) b · x) 14) b) := vecN_ext (fun x => rfl)
      rw [hx, h00] at e
      have p := fun h => q h b hlt
      have hlt' : (b : Int) < 16 := by omega
      have ws := wrap_succ (show b < 4611686018427387904 by omega)
      generalize vecN N (fun x => H x + sumR (fun b => sumR (cK (P b) b · x) 14) b) = W at *
      generalize vecN N (fun x => H x + sumR (fun b => sumR (cK (P b) b · x) 14) (b + 1)) = W2 at *
      simp only [cast0] at e
      rw [iter]
      have st : evalC ev NN ir8_l2 ⟨[v0, v1, .box (LDc c l), v3, v4, v5, x6, x7, x8, x9, x10, x11, x12, x13, v14, v15, v16, v17, .hsl 0 0 N N 1 false, I a, I b, x21, x22, x23, x24, x25, x26, I g, x28, v29], [], [ints W]⟩ = .norm ⟨[v0, v1, .box (LDc c l), v3, v4, v5, B true, y7, y8, y9, y10, y11, y12, y13, v14, v15, v16, v17, .hsl 0 0 N N 1 false, I a, I (b + 1 : Nat), y21, .sl mo 1 (ints (P b)), y23, B (decide ((b : Int) = 0)), y25, y26, I g, y28, v29], [], [ints W2]⟩ := by
        simp -implicitDefEqProofs only [ir8_l2, hlt', p, e, ws, go_sem, Nat.reduceAdd, Nat.reduceMul, Nat.reduceSub, Nat.reduceLeDiff, Nat.reduceEqDiff, Nat.reduceBEq, Nat.reduceLT, Int.reduceLE, Int.reduceLT, Int.reduceEq, Int.reduceNeg, Int.reduceAdd, Int.reduceMul, Int.reduceSub, Int.reduceToNat, reduceCtorEq, ↓reduceIte]
      rw [st]
    · have hka : b = 16 := by omega
      subst hka
      refine ⟨B false, x7, x8, x9, x10, x11, x12, x13, x21, x22, x23, x24, x25, x26, x28, I (16 : Nat), ?_⟩
      generalize vecN N (fun x => H x + sumR (fun b => sumR (cK (P b) b · x) 14) 16) = W
      simp -implicitDefEqProofs (disch := first | omega | (simp only [List.length_set, List.length_replicate]; omega)) only [iter, ir8_l2, wrap_i64, wrap_u64, wrap_u32, wrap_u16, wrap_u8, dec_t, dec_f, ite_t, ite_f, tmod_e, go_sem, Nat.reduceAdd, Nat.reduceMul, Nat.reduceSub, Nat.reduceLeDiff, Nat.reduceEqDiff, Nat.reduceBEq, Nat.reduceLT, Int.reduceLE, Int.reduceLT, Int.reduceEq, Int.reduceNeg, Int.reduceAdd, Int.reduceMul, Int.reduceSub, Int.reduceToNat, reduceCtorEq, ↓reduceIte]

theorem loop_a (ev : FuncId → List DV → Heap → Res DV) (c : Cf) (l : Lf) (N : Nat) (hN : l.size = (N : Int)) (hN2 : N ≤ 20000) (P : Nat → Nat → List Int) (mo : Mode) (g : Int) (F : ∀ a b, a < 64 → b < 16 → Fit (P a b) b N g) (H : Nat → Nat) (hH : ∀ x, H x ≤ 100)
    (q : ∀ h (a b : Nat), a < 64 → b < 16 → callP ev 18 [.agg (LDc c l), I a, I b] h = .ok (.sl mo 1 (ints (P a b))) h)
    (v0 v1 v3 v4 v14 v15 v16 v17 v29 : DV) : ∀ (n a : Nat), a ≤ 64 → 64 - a < n → ∀ x5 x6 x7 x8 x9 x10 x11 x12 x13 x20 x21 x22 x23 x24 x25 x26 x28, ∃ y5 y6 y7 y8 y9 y10 y11 y12 y13 y20 y21 y22 y23 y24 y25 y26 y28 y19,
    iter (evalC ev NN ir8_l0) n ⟨[v0, v1, .box (LDc c l), v3, v4, x5, x6, x7, x8, x9, x10, x11, x12, x13, v14, v15, v16, v17, .hsl 0 0 N N 1 false, I a, x20, x21, x22, x23, x24, x25, x26, I g, x28, v29], [], [ints (vecN N (fun x => H x + sumR (fun a => sumR (fun b => sumR (cK (P a b) b · x) 14) 16) a))]⟩ = .exit 0 ⟨[v0, v1, .box (LDc c l), v3, v4, y5, y6, y7, y8, y9, y10, y11, y12, y13, v14, v15, v16, v17, .hsl 0 0 N N 1 false, y19, y20, y21, y22, y23, y24, y25, y26, I g, y28, v29], [], [ints (vecN N (fun x => H x + sumR (fun a => sumR (fun b => sumR (cK (P a b) b · x) 14) 16) 64))]⟩ := by
  intro n
  induction n with
  | zero => intro a _ h2; omega
  | succ n ih =>
    intro a ha hn x5 x6 x7 x8 x9 x10 x11 x12 x13 x20 x21 x22 x23 x24 x25 x26 x28
    by_cases hlt : a < 64
    · have hH2 : ∀ x, H x + sumR (fun a => sumR (fun b => sumR (cK (P a b) b · x) 14) 16) a ≤ 80000 := fun x => by
        have := sumR_le (f := fun a => sumR (fun b => sumR (cK (P a b) b · x) 14) 16) (m := 224) a (fun i => by
          have := sumR_le (f := fun b => sumR (cK (P i b) b · x) 14) (m := 14) 16 (fun j => by have := sumR_le (f := (cK (P i j) j · x)) 14 (fun k => cK_le (P i j) j k x); omega)
          omega)
        have := hH x
        omega
      obtain ⟨y6, y7, y8, y9, y10, y11, y12, y13, y21, y22, y23, y24, y25, y26, y28, y20, e⟩ := loop_b ev c l N hN hN2 (P a) mo a g (fun b hb => F a b hlt hb) _ hH2 (fun h b hb => q h a b hlt hb) v0 v1 v3 v4 (B true) v14 v15 v16 v17 v29 NN 0 (by omega) (by unfold NN; omega) x6 x7 x8 x9 x10 x11 x12 x13 x21 x22 x23 x24 x25 x26 x28
      obtain ⟨z5, z6, z7, z8, z9, z10, z11, z12, z13, z20, z21, z22, z23, z24, z25, z26, z28, z19, e2⟩ := ih (a + 1) (by omega) (by omega) (B true) y6 y7 y8 y9 y10 y11 y12 y13 y20 y21 y22 y23 y24 y25 y26 y28
      refine ⟨z5, z6, z7, z8, z9, z10, z11, z12, z13, z20, z21, z22, z23, z24, z25, z26, z28, z19, ?_⟩
      rw [← e2]
      have hx : vecN N (fun x => H x + sumR (fun a => sumR (fun b => sumR (cK (P a b) b · x) 14) 16) a + sumR (fun b => sumR (cK (P a b) b · x) 14) 16) = vecN N (fun x => H x + sumR (fun a => sumR (fun b => sumR (cK (P a b) b · x) 14) 16) (a + 1)) := vecN_ext (fun x => Nat.add_assoc _ _ _)
      have h00 : vecN N (fun x => H x + sumR (fun a => sumR (fun b => sumR (cK (P a b) b · x) 14) 16) a + sumR (fun b => sumR (cK (P a b) b · x) 14) 0) = vecN N (fun x => H x + sumR (fun a => sumR (fun b => sumR (cK (P a b) b · x) 14) 16) a) := vecN_ext (fun x => rfl)
      rw [hx, h00] at e
      have hlt' : (a : Int) < 64 := by omega
      have ws := wrap_succ (show a < 4611686018427387904 by omega)
      generalize vecN N (fun x => H x + sumR (fun a => sumR (fun b => sumR (cK (P a b) b · x) 14) 16) a) = W at *
      generalize vecN N (fun x => H x + sumR (fun a => sumR (fun b => sumR (cK (P a b) b · x) 14) 16) (a + 1)) = W2 at *
      simp only [cast0] at e
      rw [iter]
      have st : evalC ev NN ir8_l0 ⟨[v0, v1, .box (LDc c l), v3, v4, x5, x6, x7, x8, x9, x10, x11, x12, x13, v14, v15, v16, v17, .hsl 0 0 N N 1 false, I a, x20, x21, x22, x23, x24, x25, x26, I g, x28, v29], [], [ints W]⟩ = .norm ⟨[v0, v1, .box (LDc c l), v3, v4, B true, y6, y7, y8, y9, y10, y11, y12, y13, v14, v15, v16, v17, .hsl 0 0 N N 1 false, I (a + 1 : Nat), y20, y21, y22, y23, y24, y25, y26, I g, y28, v29], [], [ints W2]⟩ := by
        simp -implicitDefEqProofs only [ir8_l0, hlt', e, ws, go_sem, Nat.reduceAdd, Nat.reduceMul, Nat.reduceSub, Nat.reduceLeDiff, Nat.reduceEqDiff, Nat.reduceBEq, Nat.reduceLT, Int.reduceLE, Int.reduceLT, Int.reduceEq, Int.reduceNeg, Int.reduceAdd, Int.reduceMul, Int.reduceSub, Int.reduceToNat, reduceCtorEq, ↓reduceIte]
      rw [st]
    · have hka : a = 64 := by omega
      subst hka
      refine ⟨B false, x6, x7, x8, x9, x10, x11, x12, x13, x20, x21, x22, x23, x24, x25, x26, x28, I (64 : Nat), ?_⟩
      generalize vecN N (fun x => H x + sumR (fun a => sumR (fun b => sumR (cK (P a b) b · x) 14) 16) 64) = W
      simp -implicitDefEqProofs (disch := first | omega | (simp only [List.length_set, List.length_replicate]; omega)) only [iter, ir8_l0, wrap_i64, wrap_u64, wrap_u32, wrap_u16, wrap_u8, dec_t, dec_f, ite_t, ite_f, tmod_e, go_sem, Nat.reduceAdd, Nat.reduceMul, Nat.reduceSub, Nat.reduceLeDiff, Nat.reduceEqDiff, Nat.reduceBEq, Nat.reduceLT, Int.reduceLE, Int.reduceLT, Int.reduceEq, Int.reduceNeg, Int.reduceAdd, Int.reduceMul, Int.reduceSub, Int.reduceToNat, reduceCtorEq, ↓reduceIte]

theorem loop_last (ev : FuncId → List DV → Heap → Res DV) (c : Cf) (l : Lf) (N : Nat) (hN : l.size = (N : Int)) (hN2 : N ≤ 20000) (M : List Int) (hM : M.length = N) (h1 : ∀ i, i < N → M[i]? = some 1)
    (v0 v1 v3 v4 v5 v6 v7 v8 v9 v10 v11 v12 v13 v16 v17 v19 v20 v21 v22 v23 v24 v25 v26 v27 v28 : DV) : ∀ (n i : Nat), i ≤ N → N - i < n → ∀ x14 x15, ∃ y14 y15 y29,
    iter (evalC ev NN ir8_l1) n ⟨[v0, v1, .box (LDc c l), v3, v4, v5, v6, v7, v8, v9, v10, v11, v12, v13, x14, x15, v16, v17, .hsl 0 0 N N 1 false, v19, v20, v21, v22, v23, v24, v25, v26, v27, v28, I i], [], [ints M]⟩ = .exit 10 ⟨[v0, v1, .box (LDc c l), v3, v4, v5, v6, v7, v8, v9, v10, v11, v12, v13, y14, y15, v16, v17, .hsl 0 0 N N 1 false, v19, v20, v21, v22, v23, v24, v25, v26, v27, v28, y29], [], [ints M]⟩ := by
  intro n
  induction n with
  | zero => intro i _ h2; omega
  | succ n ih =>
    intro i hi hn x14 x15
    by_cases hlt : i < N
    · obtain ⟨y14, y15, y29, e⟩ := ih (i + 1) (by omega) (by omega) (B true) (B false)
      refine ⟨y14, y15, y29, ?_⟩
      rw [← e]
      have hlt' : (i : Int) < (N : Int) := by omega
      have ws := wrap_succ (show i < 4611686018427387904 by omega)
      have hd : (M.drop i).take 1 = [1] := by
        have := h1 i hlt
        rw [List.drop_eq_getElem_cons (by omega), List.take_succ_cons, List.take_zero]
        rw [List.getElem?_eq_getElem (by omega)] at this
        simpa using this
      have hn1 : i + 1 ≤ N := by omega
      have z0 : ∀ x : Int, ints [x] = [I x] := fun x => rfl
      have st : evalC ev NN ir8_l1 ⟨[v0, v1, .box (LDc c l), v3, v4, v5, v6, v7, v8, v9, v10, v11, v12, v13, x14, x15, v16, v17, .hsl 0 0 N N 1 false, v19, v20, v21, v22, v23, v24, v25, v26, v27, v28, I i], [], [ints M]⟩ = .norm ⟨[v0, v1, .box (LDc c l), v3, v4, v5, v6, v7, v8, v9, v10, v11, v12, v13, B true, B false, v16, v17, .hsl 0 0 N N 1 false, v19, v20, v21, v22, v23, v24, v25, v26, v27, v28, I (i + 1 : Nat)], [], [ints M]⟩ := by
        simp -implicitDefEqProofs only [ir8_l1, hlt', hN, hM, hd, hn1, z0, ws, go_sem, Nat.reduceAdd, Nat.reduceMul, Nat.reduceSub, Nat.reduceLeDiff, Nat.reduceEqDiff, Nat.reduceBEq, Nat.reduceLT, Int.reduceLE, Int.reduceLT, Int.reduceEq, Int.reduceNeg, Int.reduceAdd, Int.reduceMul, Int.reduceSub, Int.reduceToNat, reduceCtorEq, ↓reduceIte]
      rw [iter, st]
    · have hka : i = N := by omega
      subst hka
      have hlt' : ¬ ((i : Nat) : Int) < (i : Int) := by omega
      refine ⟨B false, x15, I i, ?_⟩
      simp -implicitDefEqProofs only [iter, ir8_l1, hlt', hN, go_sem, Nat.reduceAdd, Nat.reduceMul, Nat.reduceSub, Nat.reduceLeDiff, Nat.reduceEqDiff, Nat.reduceBEq, Nat.reduceLT, Int.reduceLE, Int.reduceLT, Int.reduceEq, Int.reduceNeg, Int.reduceAdd, Int.reduceMul, Int.reduceSub, Int.reduceToNat, reduceCtorEq, ↓reduceIte]
end Go.D.Layout
