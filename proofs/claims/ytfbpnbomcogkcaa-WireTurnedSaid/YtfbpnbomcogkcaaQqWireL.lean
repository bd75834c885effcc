/- The law WireTurned, in the evaluator. -/
import Derived.Test.YtfbpnbomcogkcaaQqWireK
set_option linter.unusedSimpArgs false
set_option linter.unusedVariables false
namespace Go.D.Wire
open Go.D
set_option maxRecDepth 10000
set_option maxHeartbeats 1000000
variable {d : Nat} {h : Heap}

theorem sumF_app : ∀ (a r : List Int) (x y : Int), sumF x y (a ++ r) = sumF (sumF x y a).1 (sumF x y a).2 r
  | [], _, _, _ => rfl
  | c :: a, r, x, y => by rw [List.cons_append, sumF, sumF, sumF_app a r]
theorem sumF_fst : ∀ (b : List Int) (x y : Int), 0 ≤ x → x < 65521 → (sumF x y b).1 = (x + b.sum) % 65521
  | [], x, y, h0, h1 => by simp only [sumF, List.sum_nil]; omega
  | c :: r, x, y, h0, h1 => by
    rw [sumF, sumF_fst r _ _ (by omega) (by omega), List.sum_cons]; omega
theorem sumF_snd : ∀ (b : List Int) (x y y' : Int), ((sumF x y b).2 - (sumF x y' b).2) % 65521 = (y - y') % 65521
  | [], x, y, y' => rfl
  | c :: r, x, y, y' => by
    rw [sumF, sumF, sumF_snd r]; omega

theorem sumV_eq (a b : List Int) : sumV a = sumV b ↔ sumF 1 0 a = sumF 1 0 b := by
  have h1 := sumF_bd a 1 0 (by omega) (by omega) (by omega) (by omega)
  have h2 := sumF_bd b 1 0 (by omega) (by omega) (by omega) (by omega)
  constructor
  · intro h
    unfold sumV at h
    exact Prod.ext (by omega) (by omega)
  · intro h
    unfold sumV
    rw [h]
theorem sum_one (a b : List Int) {x y : Int} (hx : 0 ≤ x ∧ x < 256) (hy : 0 ≤ y ∧ y < 256) : sumV (a ++ [x] ++ b) = sumV (a ++ [y] ++ b) ↔ x = y := by
  refine ⟨fun h => ?_, fun h => by rw [h]⟩
  rw [sumV_eq, List.append_assoc, List.append_assoc, sumF_app a ([x] ++ b), sumF_app a ([y] ++ b)] at h
  obtain ⟨b1, b2, b3, b4⟩ := sumF_bd a 1 0 (by omega) (by omega) (by omega) (by omega)
  have h1 := congrArg Prod.fst h
  rw [sumF_fst ([x] ++ b) _ _ b1 b2, sumF_fst ([y] ++ b) _ _ b1 b2, List.sum_append, List.sum_append, List.sum_singleton, List.sum_singleton] at h1
  omega
theorem sum_two (a b : List Int) {x y : Int} (hx : 0 ≤ x ∧ x < 256) (hy : 0 ≤ y ∧ y < 256) : sumV (a ++ [x, y] ++ b) = sumV (a ++ [y, x] ++ b) ↔ x = y := by
  refine ⟨fun h => ?_, fun h => by rw [h]⟩
  rw [sumV_eq, List.append_assoc, List.append_assoc, sumF_app a ([x, y] ++ b), sumF_app a ([y, x] ++ b)] at h
  obtain ⟨b1, b2, b3, b4⟩ := sumF_bd a 1 0 (by omega) (by omega) (by omega) (by omega)
  generalize (sumF 1 0 a).1 = p at *
  generalize (sumF 1 0 a).2 = q at *
  simp only [List.cons_append, List.nil_append, sumF] at h
  have e : ((p + x) % 65521 + y) % 65521 = ((p + y) % 65521 + x) % 65521 := by omega
  rw [e] at h
  have h2 := congrArg Prod.snd h
  have := sumF_snd b (((p + y) % 65521 + x) % 65521) (((q + (p + x) % 65521) % 65521 + ((p + y) % 65521 + x) % 65521) % 65521) (((q + (p + y) % 65521) % 65521 + ((p + y) % 65521 + x) % 65521) % 65521)
  rw [h2] at this
  omega

theorem openF_gen {t : List Int} {v : Int} (ht : t.length ≤ 80000) (hv : inI v) (r : List Int) :
    openF (put t.length ++ (t ++ (put v ++ r))) = if v = sumV t then some (t, (put t.length).length + t.length + (put v).length) else none := by
  unfold openF
  rw [get_put (len_inI (by omega))]
  simp only [unzz_zz, Int.toNat_natCast]
  rw [if_pos ⟨by omega, by simp only [List.length_append]; omega⟩]
  rw [List.drop_left, List.take_left, ← List.drop_drop, List.drop_left, List.drop_left, get_put hv]
  simp only [unzz_zz]

/-- A seal in which a byte is another one. -/
theorem turn_seal (a b : List Int) (x y : Int) : (sealV (a ++ [x] ++ b)).set ((put (a ++ [x] ++ b).length).length + a.length) y =
    put (a ++ [y] ++ b).length ++ ((a ++ [y] ++ b) ++ (put (sumV (a ++ [x] ++ b)) ++ [])) := by
  have hl : (a ++ [x] ++ b).length = (a ++ [y] ++ b).length := by simp
  rw [← hl]
  unfold sealV
  generalize put (a ++ [x] ++ b).length = p
  generalize put (sumV (a ++ [x] ++ b)) = q
  rw [show p ++ (a ++ [x] ++ b) ++ q = p ++ (a ++ (x :: (b ++ q))) by simp]
  rw [List.set_append_right _ _ (by omega), Nat.add_sub_cancel_left, List.set_append_right _ _ (by omega), Nat.sub_self, List.set_cons_zero]
  simp
theorem openF_turn {a b : List Int} {x y : Int} (hx : 0 ≤ x ∧ x < 256) (hy : 0 ≤ y ∧ y < 256) (hl : a.length + b.length ≤ 600) :
    (openF ((sealV (a ++ [x] ++ b)).set ((put (a ++ [x] ++ b).length).length + a.length) y)).isSome = decide (x = y) := by
  rw [turn_seal, openF_gen (by simp; omega) (sumV_inI _)]
  have := sum_one a b hx hy
  by_cases h : x = y
  · subst h; simp
  · rw [if_neg (fun e => h (this.1 e))]; simp [h]

theorem body_of (ev : FuncId → List DV → Heap → Res DV) (a b l : List Int) (ml : Mode) (hl : a.length + b.length ≤ 600) (hl2 : l.length ≤ 2) (hl0 : l.isEmpty = false) :
    evalF ev NN ir35 [.sl ml 1 (u8s l), .ptr 0 0, .ptr 1 0] [[.sl .view 1 (u8s a)], [.sl .view 1 (u8s b)]] = .ok (.sl .own 1 (u8s (a ++ l ++ b))) [[.sl .view 1 (u8s a)], [.sl .view 1 (u8s b)]] := by
  have hr0 : ∀ n, n ≤ 700 → n * 2 ≤ room := by intro n hn; simp only [room]; omega
  have hr1 := hr0 (a.length) (by omega)
  have hr2 : (a.length + l.length) * 2 ≤ room := hr0 _ (by omega)
  have hr3 : ((a ++ l).length + b.length) * 2 ≤ room := hr0 _ (by rw [List.length_append]; omega)
  cases hh : a.isEmpty with
  | true =>
    obtain rfl : a = [] := List.isEmpty_iff.1 hh
    simp only [List.nil_append, List.length_nil, Nat.zero_add] at *
    simp -implicitDefEqProofs only [ir35, hr1, hr2, hr3, hl0, go_sem, Nat.reduceAdd, Nat.reduceMul, Nat.reduceSub, Nat.reduceLeDiff, Nat.reduceEqDiff, Nat.reduceBEq, Nat.reduceLT, Int.reduceLE, Int.reduceLT, Int.reduceEq, Int.reduceNeg, Int.reduceAdd, Int.reduceMul, Int.reduceSub, Int.reduceToNat, reduceCtorEq, reduceIte]
  | false =>
    simp -implicitDefEqProofs only [ir35, hr1, hr2, hr3, hl0, hh, go_sem, Nat.reduceAdd, Nat.reduceMul, Nat.reduceSub, Nat.reduceLeDiff, Nat.reduceEqDiff, Nat.reduceBEq, Nat.reduceLT, Int.reduceLE, Int.reduceLT, Int.reduceEq, Int.reduceNeg, Int.reduceAdd, Int.reduceMul, Int.reduceSub, Int.reduceToNat, reduceCtorEq, reduceIte]

theorem body_Turned (ev : FuncId → List DV → Heap → Res DV) (ha : ∀ h, callP ev 14 [] h = .ok (B true) h) (a b : List Int) (x y : Int) (hx : 0 ≤ x ∧ x < 256) (hy : 0 ≤ y ∧ y < 256)
    (o1 o2 t1 t2 s : List Int)
    (q1 : a.length + b.length ≤ 600 → callP ev 35 [.sl .view 1 [U x], .ptr 0 0, .ptr 1 0] [[.sl .view 1 (u8s a)], [.sl .view 1 (u8s b)]] = .ok (.sl .own 1 (u8s o1)) [[.sl .view 1 (u8s a)], [.sl .view 1 (u8s b)]])
    (q2 : a.length + b.length ≤ 600 → callP ev 35 [.sl .view 1 [U y], .ptr 0 0, .ptr 1 0] [[.sl .view 1 (u8s a)], [.sl .view 1 (u8s b)]] = .ok (.sl .own 1 (u8s o2)) [[.sl .view 1 (u8s a)], [.sl .view 1 (u8s b)]])
    (q3 : a.length + b.length ≤ 600 → callP ev 35 [.sl .view 1 [U x, U y], .ptr 0 0, .ptr 1 0] [[.sl .view 1 (u8s a)], [.sl .view 1 (u8s b)]] = .ok (.sl .own 1 (u8s t1)) [[.sl .view 1 (u8s a)], [.sl .view 1 (u8s b)]])
    (q4 : a.length + b.length ≤ 600 → callP ev 35 [.sl .view 1 [U y, U x], .ptr 0 0, .ptr 1 0] [[.sl .view 1 (u8s a)], [.sl .view 1 (u8s b)]] = .ok (.sl .own 1 (u8s t2)) [[.sl .view 1 (u8s a)], [.sl .view 1 (u8s b)]])
    (e1 : sumV o1 = sumV o2 ↔ x = y) (e2 : a.length + b.length ≤ 600 → (sumV t1 = sumV t2 ↔ x = y))
    (q5 : ∀ h m, a.length + b.length ≤ 600 → callP ev 31 [.sl m 1 (u8s o1)] h = .ok (I (sumV o1)) h)
    (q6 : ∀ h m, a.length + b.length ≤ 600 → callP ev 31 [.sl m 1 (u8s o2)] h = .ok (I (sumV o2)) h)
    (q7 : ∀ h m, a.length + b.length ≤ 600 → callP ev 31 [.sl m 1 (u8s t1)] h = .ok (I (sumV t1)) h)
    (q8 : ∀ h m, a.length + b.length ≤ 600 → callP ev 31 [.sl m 1 (u8s t2)] h = .ok (I (sumV t2)) h)
    (q9 : ∀ h m, a.length + b.length ≤ 600 → callP ev 33 [.sl m 1 (u8s o1)] h = .ok (.sl .own 1 (u8s s)) h)
    (k : Nat) (hk : a.length + b.length ≤ 600 → k = (put o1.length).length + a.length ∧ k < s.length ∧ s.length ≤ 700)
    (q10 : ∀ h, a.length + b.length ≤ 600 → callQ ev 16 [I o1.length] h = .ok (.sl .own 1 (u8s (put o1.length))) h)
    (X : DV) (m : Int) (hX : ∀ op a, back op X a = X) (hX2 : ∀ p, isLref X p = false) (hX3 : strip X = X)
    (q11 : a.length + b.length ≤ 600 → callP ev 29 [.hsl 2 0 s.length s.length 1 false] [[.sl .view 1 (u8s a)], [.sl .view 1 (u8s b)], u8s (s.set k y)] = .ok (.tup [X, I m, I (if x = y then 0 else 3)]) [[.sl .view 1 (u8s a)], [.sl .view 1 (u8s b)], u8s (s.set k y)])
    (hal : a.length ≤ 2 ^ 50) (hbl : b.length ≤ 2 ^ 50) :
    evalF ev NN ir13 [.sl .view 1 (u8s a), U x, U y, .sl .view 1 (u8s b)] [] = .ok (B true) [[.sl .view 1 (u8s a)], [.sl .view 1 (u8s b)], u8s (s.set k y)] ∨
    evalF ev NN ir13 [.sl .view 1 (u8s a), U x, U y, .sl .view 1 (u8s b)] [] = .ok (B true) [[.sl .view 1 (u8s a)], [.sl .view 1 (u8s b)]] := by
  have w0 : IntKind.i64.wrap ((a.length : Int) + (b.length : Int)) = (a.length : Int) + (b.length : Int) := wrap64_id (by omega) (by omega)
  by_cases hl : a.length + b.length ≤ 600
  · left
    have hl' : ¬ (600 : Int) < (a.length : Int) + (b.length : Int) := by omega
    have p1 := q1 hl
    have p2 := q2 hl
    have p3 := q3 hl
    have p4 := q4 hl
    have p5 := fun h m => q5 h m hl
    have p6 := fun h m => q6 h m hl
    have p7 := fun h m => q7 h m hl
    have p8 := fun h m => q8 h m hl
    have p9 := fun h m => q9 h m hl
    have p10 := fun h => q10 h hl
    have p11 := q11 hl
    obtain ⟨k1, k2, k3⟩ := hk hl
    have w1 : IntKind.i64.wrap (((put o1.length).length : Int) + (a.length : Int)) = (k : Int) := by rw [k1]; have := put_len o1.length; rw [wrap64_id (by omega) (by omega)]; omega
    have c1 : ¬ (s.length : Int) ≤ (k : Int) := by omega
    have c2 : (k : Int) < (s.length : Int) := by omega
    have c3 : k + 1 ≤ s.length := by omega
    have c4 : s.isEmpty = false := by cases s with | nil => simp at k2 | cons => rfl
    have c5 : s.length * 2 ≤ room := by simp only [room]; omega
    by_cases hxy : x = y
    · subst hxy
      have f1 := e1.2 rfl
      have f2 := (e2 hl).2 rfl
      rw [if_pos rfl] at p11
      simp -implicitDefEqProofs only [ir13, ha, w0, hl', p1, p2, p3, p4, p5, p6, p7, p8, p9, p10, p11, f1, f2, w1, c1, c2, c3, c4, c5, k2, hX, hX2, hX3, go_sem, Nat.reduceAdd, Nat.reduceMul, Nat.reduceSub, Nat.reduceLeDiff, Nat.reduceEqDiff, Nat.reduceBEq, Nat.reduceLT, Int.reduceLE, Int.reduceLT, Int.reduceEq, Int.reduceNeg, Int.reduceAdd, Int.reduceMul, Int.reduceSub, Int.reduceToNat, reduceCtorEq, reduceIte]
    · have f1 : ¬ sumV o1 = sumV o2 := fun e => hxy (e1.1 e)
      have f2 : ¬ sumV t1 = sumV t2 := fun e => hxy ((e2 hl).1 e)
      rw [if_neg hxy] at p11
      simp -implicitDefEqProofs only [ir13, ha, w0, hl', hxy, p1, p2, p3, p4, p5, p6, p7, p8, p9, p10, p11, f1, f2, w1, c1, c2, c3, c4, c5, k2, hX, hX2, hX3, go_sem, Nat.reduceAdd, Nat.reduceMul, Nat.reduceSub, Nat.reduceLeDiff, Nat.reduceEqDiff, Nat.reduceBEq, Nat.reduceLT, Int.reduceLE, Int.reduceLT, Int.reduceEq, Int.reduceNeg, Int.reduceAdd, Int.reduceMul, Int.reduceSub, Int.reduceToNat, reduceCtorEq, reduceIte]
  · right
    have hl' : (600 : Int) < (a.length : Int) + (b.length : Int) := by omega
    simp -implicitDefEqProofs only [ir13, ha, w0, hl', go_sem, Nat.reduceAdd, Nat.reduceMul, Nat.reduceSub, Nat.reduceLeDiff, Nat.reduceEqDiff, Nat.reduceBEq, Nat.reduceLT, Int.reduceLE, Int.reduceLT, Int.reduceEq, Int.reduceNeg, Int.reduceAdd, Int.reduceMul, Int.reduceSub, Int.reduceToNat, reduceCtorEq, reduceIte]

theorem p_of (a b l : List Int) (hl : a.length + b.length ≤ 600) (hl2 : l.length ≤ 2) (hl0 : l.isEmpty = false) :
    callP (evalCall fns NN (d + 1)) 35 [.sl .view 1 (u8s l), .ptr 0 0, .ptr 1 0] [[.sl .view 1 (u8s a)], [.sl .view 1 (u8s b)]] = .ok (.sl .own 1 (u8s (a ++ l ++ b))) [[.sl .view 1 (u8s a)], [.sl .view 1 (u8s b)]] := by
  rw [callP_ptr (by simp -implicitDefEqProofs only [go_sem, Nat.reduceAdd, Nat.reduceMul, Nat.reduceSub, Nat.reduceLeDiff, Nat.reduceEqDiff, Nat.reduceBEq, Nat.reduceLT, Int.reduceLE, Int.reduceLT, Int.reduceEq, Int.reduceNeg, Int.reduceAdd, Int.reduceMul, Int.reduceSub, Int.reduceToNat, reduceCtorEq, reduceIte]), call_eq rfl]
  exact body_of _ a b l .view hl hl2 hl0

theorem p_OpenH (a b : DV) (s : List Int) (hl : s.length ≤ 90000) (hb : ∀ x ∈ s, 0 ≤ x ∧ x < 256) (n : Nat) (hn : n = s.length) :
    ∃ X m, (∀ op a, back op X a = X) ∧ (∀ p, isLref X p = false) ∧ strip X = X ∧
      callP (evalCall fns NN (d + 3)) 29 [.hsl 2 0 n n 1 false] [[a], [b], u8s s] = .ok (.tup [X, I m, I (if (openF s).isSome then 0 else 3)]) [[a], [b], u8s s] := by
  have hv := openV_look s
  have q := callP_ruin (ev := evalCall fns NN (d + 3)) (h := [[a], [b], u8s s]) (f := 29) (args := [.hsl 2 0 n n 1 false]) (args' := [.sl .view 1 (u8s s)]) (v := openV s) (h' := [])
    (by rw [lookL_cons, lookL_nil, look_hsl_u8s rfl hn]) (by simp -implicitDefEqProofs only [go_sem, Nat.reduceAdd, Nat.reduceMul, Nat.reduceSub, Nat.reduceLeDiff, Nat.reduceEqDiff, Nat.reduceBEq, Nat.reduceLT, Int.reduceLE, Int.reduceLT, Int.reduceEq, Int.reduceNeg, Int.reduceAdd, Int.reduceMul, Int.reduceSub, Int.reduceToNat, reduceCtorEq, reduceIte]) rfl
    (by rw [call_eq rfl]; exact body_Open _ s .view hl hb (fun h m => p_GetText s m hl hb) (fun h m k => p_Get (d := d + 1) _ m (by rw [List.length_drop]; omega) (fun x hx => hb x (List.mem_of_mem_drop hx))) (fun h m l hl hb => p_Sum (d := d + 1) l m hl hb))
    (by rw [(hv []).1]; exact (hv []).2)
  rw [q, (hv []).1]
  unfold openV shut
  cases ho : openF s with
  | none => exact ⟨.sl .full 1 [], 0, fun op a => by rw [back_sl]; rfl, fun p => rfl, rfl, rfl⟩
  | some o =>
    obtain ⟨l, n⟩ := o
    dsimp only
    cases hf : fresh (.tup [.sl .view 1 (u8s l), I n, I 0]) with
    | true => exact ⟨.sl .view 1 (u8s l), n, fun op a => by rw [back_sl]; rfl, fun p => rfl, rfl, rfl⟩
    | false =>
      refine ⟨.junk, n, fun op a => by cases op <;> first | rfl | (rename_i t; cases t <;> rfl), fun p => rfl, rfl, ?_⟩
      have hf2 : fresh (.sl .view 1 (u8s l)) = false := by
        simp only [fresh_tup, freshL_cons, freshL_nil, Bool.and_true] at hf
        simpa [fresh] using hf
      rw [if_neg (by simp)]
      simp only [ruin, ruinL, hf2]
      simp

theorem law_Turned (d : Nat) (a b : List Int) (x y : Int) (hx : 0 ≤ x ∧ x < 256) (hy : 0 ≤ y ∧ y < 256) (ha : ∀ x ∈ a, 0 ≤ x ∧ x < 256) (hb : ∀ x ∈ b, 0 ≤ x ∧ x < 256) (hal : a.length ≤ 2 ^ 50) (hbl : b.length ≤ 2 ^ 50) :
    ∃ h', evalCall fns NN (d + 11) 13 [.sl .view 1 (u8s a), U x, U y, .sl .view 1 (u8s b)] [] = .ok (B true) h' := by
  have hby : ∀ l : List Int, (∀ x ∈ l, 0 ≤ x ∧ x < 256) → ∀ z ∈ a ++ l ++ b, 0 ≤ z ∧ z < 256 := by
    intro l hl z hz
    simp only [List.mem_append] at hz
    rcases hz with (hz | hz) | hz
    · exact ha z hz
    · exact hl z hz
    · exact hb z hz
  have b1 := hby [x] (by simpa using hx)
  have b2 := hby [y] (by simpa using hy)
  have b3 := hby [x, y] (by intro z hz; simp at hz; rcases hz with rfl | rfl <;> assumption)
  have b4 := hby [y, x] (by intro z hz; simp at hz; rcases hz with rfl | rfl <;> assumption)
  have l1 : ∀ l : List Int, (a ++ l ++ b).length = a.length + l.length + b.length := by intro l; simp only [List.length_append]
  have l2 := l1 [x]
  have l3 := l1 [y]
  have l4 := l1 [x, y]
  have l5 := l1 [y, x]
  simp only [List.length_cons, List.length_nil, Nat.zero_add, Nat.reduceAdd] at l2 l3 l4 l5
  have hs := sealV_len (a ++ [x] ++ b)
  have hsb := sealV_bytes b1
  by_cases h6 : a.length + b.length ≤ 600
  · obtain ⟨X, m, hX, hX2, hX3, q⟩ := p_OpenH (d := d + 7) (.sl .view 1 (u8s a)) (.sl .view 1 (u8s b)) ((sealV (a ++ [x] ++ b)).set ((put (a ++ [x] ++ b).length).length + a.length) y) (by rw [List.length_set]; omega)
      (fun z hz => (List.mem_or_eq_of_mem_set hz).elim (hsb z) (fun e => by rw [e]; exact hy)) (sealV (a ++ [x] ++ b)).length (by rw [List.length_set])
    have e := body_Turned (evalCall fns NN (d + 10)) (fun h => p_alive) a b x y hx hy (a ++ [x] ++ b) (a ++ [y] ++ b) (a ++ [x, y] ++ b) (a ++ [y, x] ++ b) (sealV (a ++ [x] ++ b))
      (fun _ => p_of (d := d + 9) a b [x] h6 (by simp) rfl) (fun _ => p_of (d := d + 9) a b [y] h6 (by simp) rfl) (fun _ => p_of (d := d + 9) a b [x, y] h6 (by simp) rfl) (fun _ => p_of (d := d + 9) a b [y, x] h6 (by simp) rfl)
      (sum_one a b hx hy) (fun _ => sum_two a b hx hy)
      (fun h m _ => p_Sum (d := d + 9) _ m (by omega) b1) (fun h m _ => p_Sum (d := d + 9) _ m (by omega) b2) (fun h m _ => p_Sum (d := d + 9) _ m (by omega) b3) (fun h m _ => p_Sum (d := d + 9) _ m (by omega) b4)
      (fun h m _ => p_Seal (d := d + 8) _ m (by omega) b1) ((put (a ++ [x] ++ b).length).length + a.length)
      (fun _ => ⟨rfl, by simp only [sealV, List.length_append, List.length_cons, List.length_nil]; omega, by omega⟩)
      (fun h _ => callQ_of (v := .sl .own 1 (u8s (put (a ++ [x] ++ b).length))) (h' := []) rfl rfl (by rw [call_eq rfl]; exact body_Put _ _ (by omega) (by omega)) (by simp -implicitDefEqProofs only [go_sem, Nat.reduceAdd, Nat.reduceMul, Nat.reduceSub, Nat.reduceLeDiff, Nat.reduceEqDiff, Nat.reduceBEq, Nat.reduceLT, Int.reduceLE, Int.reduceLT, Int.reduceEq, Int.reduceNeg, Int.reduceAdd, Int.reduceMul, Int.reduceSub, Int.reduceToNat, reduceCtorEq, reduceIte]))
      X m hX hX2 hX3 (fun _ => by rw [q, openF_turn hx hy h6]; by_cases hxy : x = y <;> simp [hxy]) hal hbl
    rw [call_eq rfl]
    rcases e with e | e
    · exact ⟨_, e⟩
    · exact ⟨_, e⟩
  · have e := body_Turned (evalCall fns NN (d + 10)) (fun h => p_alive) a b x y hx hy (a ++ [x] ++ b) (a ++ [y] ++ b) [] [] []
      (fun h => absurd h h6) (fun h => absurd h h6) (fun h => absurd h h6) (fun h => absurd h h6)
      (sum_one a b hx hy) (fun h => absurd h h6) (fun h m k => absurd k h6) (fun h m k => absurd k h6) (fun h m k => absurd k h6) (fun h m k => absurd k h6) (fun h m k => absurd k h6) 0 (fun h => absurd h h6) (fun h k => absurd k h6)
      .junk 0 (fun op a => by cases op <;> first | rfl | (rename_i t; cases t <;> rfl)) (fun p => rfl) rfl (fun h => absurd h h6) hal hbl
    rw [call_eq rfl]
    rcases e with e | e
    · exact ⟨_, e⟩
    · exact ⟨_, e⟩
end Go.D.Wire
