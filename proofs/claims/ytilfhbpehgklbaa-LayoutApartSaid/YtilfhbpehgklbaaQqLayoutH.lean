/- Each cell is a place of just one thing: plain. Printed by wip/tool/genapart3.py. -/
import Derived.Test.YtilfhbpehgklbaaQqLayoutG
set_option linter.unusedSimpArgs false
set_option linter.unusedVariables false
namespace Go.D.Layout
open Go.D
set_option maxHeartbeats 2000000

def S2 (f : Nat → Nat → Nat) : Nat := sumR (fun a => sumR (fun b => f a b) 16) 64
theorem sumR_add (f g : Nat → Nat) : ∀ n, sumR (fun x => f x + g x) n = sumR f n + sumR g n
  | 0 => rfl
  | n + 1 => by rw [sumR, sumR, sumR, sumR_add f g n]; omega
theorem S2_add (f g : Nat → Nat → Nat) : S2 (fun a b => f a b + g a b) = S2 f + S2 g := by
  unfold S2
  rw [← sumR_add]
  congr 1
  funext a
  exact sumR_add _ _ _
theorem sumR_zero {f : Nat → Nat} : ∀ n, (∀ x, x < n → f x = 0) → sumR f n = 0
  | 0, _ => rfl
  | n + 1, h => by rw [sumR, sumR_zero n (fun x hx => h x (by omega)), h n (by omega)]
theorem sumR_one {f : Nat → Nat} {j : Nat} : ∀ n, j < n → (∀ x, x < n → x ≠ j → f x = 0) → sumR f n = f j
  | 0, h, _ => by omega
  | n + 1, h, hz => by
    rw [sumR]
    by_cases e : j = n
    · subst e
      rw [sumR_zero j (fun x hx => hz x (by omega) (by omega))]; omega
    · rw [sumR_one n (by omega) (fun x hx => hz x (by omega)), hz n (by omega) (fun h => e h.symm)]; omega
theorem S2_if {f : Nat → Nat → Nat} {R : Prop} [Decidable R] (h0 : ¬ R → ∀ a b, a < 64 → b < 16 → f a b = 0)
    (h1 : R → ∃ a0 b0, a0 < 64 ∧ b0 < 16 ∧ f a0 b0 = 1 ∧ ∀ a b, a < 64 → b < 16 → (a ≠ a0 ∨ b ≠ b0) → f a b = 0) : S2 f = if R then 1 else 0 := by
  unfold S2
  by_cases hR : R
  · rw [if_pos hR]
    obtain ⟨a0, b0, ha, hb, h1, hz⟩ := h1 hR
    rw [sumR_one 64 ha (fun a ha' hn => sumR_zero 16 (fun b hb' => hz a b ha' hb' (.inl hn)))]
    rw [sumR_one 16 hb (fun b hb' hn => hz a0 b ha hb' (.inr hn))]
    exact h1
  · rw [if_neg hR]
    exact sumR_zero 64 (fun a ha => sumR_zero 16 (fun b hb => h0 hR a b ha hb))

section
variable {c : Cf} {l : Lf} {a b x : Nat}

theorem ck_0 (h0 : 0 ≤ l.alive) : cK (plsF c l a b) b 0 x = if ((0 : Int) ≤ a ∧ (a : Int) ≤ c.seats - 1) ∧ b = 0 ∧ (x : Int) = l.alive + a then 1 else 0 := by
  have e : (plsF c l a b).getD 0 0 = aliveF c l a := rfl
  have e1 : oneB 0 = true := rfl
  have e2 : mnF b 0 = 1 := rfl
  unfold cK spanF
  rw [e, e1, e2]
  unfold aliveF
  by_cases hc : (0 : Int) ≤ a ∧ (a : Int) ≤ c.seats - 1
  · rw [if_pos hc]
    by_cases hb : b = 0
    · rw [if_neg (fun h => h.elim (fun h => by omega) (fun h => h.2 hb))]
      split <;> split <;> omega
    · rw [if_pos (.inr ⟨rfl, hb⟩), if_neg (fun h => hb h.2.1)]
  · rw [if_neg hc, if_pos (.inl (by omega)), if_neg (fun h => hc h.1)]
theorem ck_1 (h0 : 0 ≤ l.owner) : cK (plsF c l a b) b 1 x = if ((0 : Int) ≤ a ∧ (a : Int) ≤ c.seats - 1) ∧ b = 0 ∧ (x : Int) = l.owner + a then 1 else 0 := by
  have e : (plsF c l a b).getD 1 0 = ownerF c l a := rfl
  have e1 : oneB 1 = true := rfl
  have e2 : mnF b 1 = 1 := rfl
  unfold cK spanF
  rw [e, e1, e2]
  unfold ownerF
  by_cases hc : (0 : Int) ≤ a ∧ (a : Int) ≤ c.seats - 1
  · rw [if_pos hc]
    by_cases hb : b = 0
    · rw [if_neg (fun h => h.elim (fun h => by omega) (fun h => h.2 hb))]
      split <;> split <;> omega
    · rw [if_pos (.inr ⟨rfl, hb⟩), if_neg (fun h => hb h.2.1)]
  · rw [if_neg hc, if_pos (.inl (by omega)), if_neg (fun h => hc h.1)]
theorem ck_2 (h0 : 0 ≤ l.resv) : cK (plsF c l a b) b 2 x = if (((0 : Int) ≤ a ∧ (a : Int) ≤ c.seats - 1) ∧ ((0 : Int) ≤ b ∧ (b : Int) ≤ 2)) ∧ (x : Int) = l.resv + 3 * a + b then 1 else 0 := by
  have e : (plsF c l a b).getD 2 0 = resvF c l a b := rfl
  have e1 : oneB 2 = false := rfl
  have e2 : mnF b 2 = 1 := rfl
  unfold cK spanF
  rw [e, e1, e2]
  unfold resvF
  by_cases hc : ((0 : Int) ≤ a ∧ (a : Int) ≤ c.seats - 1) ∧ ((0 : Int) ≤ b ∧ (b : Int) ≤ 2)
  · rw [if_pos hc]
    skip
    rw [if_neg (fun h => h.elim (fun h => by omega) (fun h => by simp at h))]
    split <;> split <;> omega
  · rw [if_neg hc, if_pos (.inl (by omega)), if_neg (fun h => hc h.1)]
theorem ck_5 (h0 : 0 ≤ l.task) : cK (plsF c l a b) b 5 x = if (((1 : Int) ≤ a ∧ (a : Int) ≤ c.tasks) ∧ ((0 : Int) ≤ b ∧ (b : Int) ≤ 3)) ∧ (x : Int) = l.task + 4 * (a - 1) + b then 1 else 0 := by
  have e : (plsF c l a b).getD 5 0 = taskF c l a b := rfl
  have e1 : oneB 5 = false := rfl
  have e2 : mnF b 5 = 1 := rfl
  unfold cK spanF
  rw [e, e1, e2]
  unfold taskF
  by_cases hc : ((1 : Int) ≤ a ∧ (a : Int) ≤ c.tasks) ∧ ((0 : Int) ≤ b ∧ (b : Int) ≤ 3)
  · rw [if_pos hc]
    skip
    rw [if_neg (fun h => h.elim (fun h => by omega) (fun h => by simp at h))]
    split <;> split <;> omega
  · rw [if_neg hc, if_pos (.inl (by omega)), if_neg (fun h => hc h.1)]
theorem ck_6 (h0 : 0 ≤ l.cell) : cK (plsF c l a b) b 6 x = if ((0 : Int) ≤ a ∧ (a : Int) ≤ c.cells - 1) ∧ b = 0 ∧ (x : Int) = l.cell + a then 1 else 0 := by
  have e : (plsF c l a b).getD 6 0 = cellF c l a := rfl
  have e1 : oneB 6 = true := rfl
  have e2 : mnF b 6 = 1 := rfl
  unfold cK spanF
  rw [e, e1, e2]
  unfold cellF
  by_cases hc : (0 : Int) ≤ a ∧ (a : Int) ≤ c.cells - 1
  · rw [if_pos hc]
    by_cases hb : b = 0
    · rw [if_neg (fun h => h.elim (fun h => by omega) (fun h => h.2 hb))]
      split <;> split <;> omega
    · rw [if_pos (.inr ⟨rfl, hb⟩), if_neg (fun h => hb h.2.1)]
  · rw [if_neg hc, if_pos (.inl (by omega)), if_neg (fun h => hc h.1)]
theorem ck_7 (h0 : 0 ≤ l.map) (hw : 0 ≤ (2 + c.buckets) * a) : cK (plsF c l a b) b 7 x = if (((0 : Int) ≤ a ∧ (a : Int) ≤ c.maps - 1) ∧ ((0 : Int) ≤ b ∧ (b : Int) ≤ 1)) ∧ (x : Int) = l.map + (2 + c.buckets) * a + b then 1 else 0 := by
  have e : (plsF c l a b).getD 7 0 = mapF c l a b := rfl
  have e1 : oneB 7 = false := rfl
  have e2 : mnF b 7 = 1 := rfl
  unfold cK spanF
  rw [e, e1, e2]
  unfold mapF
  by_cases hc : ((0 : Int) ≤ a ∧ (a : Int) ≤ c.maps - 1) ∧ ((0 : Int) ≤ b ∧ (b : Int) ≤ 1)
  · rw [if_pos hc]
    skip
    rw [if_neg (fun h => h.elim (fun h => by omega) (fun h => by simp at h))]
    split <;> split <;> omega
  · rw [if_neg hc, if_pos (.inl (by omega)), if_neg (fun h => hc h.1)]
theorem ck_8 (h0 : 0 ≤ l.map) (hw : 0 ≤ (2 + c.buckets) * a) : cK (plsF c l a b) b 8 x = if (((0 : Int) ≤ a ∧ (a : Int) ≤ c.maps - 1) ∧ ((0 : Int) ≤ b ∧ (b : Int) ≤ c.buckets - 1)) ∧ (x : Int) = l.map + (2 + c.buckets) * a + 2 + b then 1 else 0 := by
  have e : (plsF c l a b).getD 8 0 = bucketF c l a b := rfl
  have e1 : oneB 8 = false := rfl
  have e2 : mnF b 8 = 1 := rfl
  unfold cK spanF
  rw [e, e1, e2]
  unfold bucketF
  by_cases hc : ((0 : Int) ≤ a ∧ (a : Int) ≤ c.maps - 1) ∧ ((0 : Int) ≤ b ∧ (b : Int) ≤ c.buckets - 1)
  · rw [if_pos hc]
    skip
    rw [if_neg (fun h => h.elim (fun h => by omega) (fun h => by simp at h))]
    split <;> split <;> omega
  · rw [if_neg hc, if_pos (.inl (by omega)), if_neg (fun h => hc h.1)]
theorem ck_9 (h0 : 0 ≤ l.stack) (hw : 0 ≤ (1 + c.slots) * a) : cK (plsF c l a b) b 9 x = if ((0 : Int) ≤ a ∧ (a : Int) ≤ c.stacks - 1) ∧ b = 0 ∧ (x : Int) = l.stack + (1 + c.slots) * a then 1 else 0 := by
  have e : (plsF c l a b).getD 9 0 = topF c l a := rfl
  have e1 : oneB 9 = true := rfl
  have e2 : mnF b 9 = 1 := rfl
  unfold cK spanF
  rw [e, e1, e2]
  unfold topF
  by_cases hc : (0 : Int) ≤ a ∧ (a : Int) ≤ c.stacks - 1
  · rw [if_pos hc]
    by_cases hb : b = 0
    · rw [if_neg (fun h => h.elim (fun h => by omega) (fun h => h.2 hb))]
      split <;> split <;> omega
    · rw [if_pos (.inr ⟨rfl, hb⟩), if_neg (fun h => hb h.2.1)]
  · rw [if_neg hc, if_pos (.inl (by omega)), if_neg (fun h => hc h.1)]
theorem ck_10 (h0 : 0 ≤ l.stack) (hw : 0 ≤ (1 + c.slots) * a) : cK (plsF c l a b) b 10 x = if (((0 : Int) ≤ a ∧ (a : Int) ≤ c.stacks - 1) ∧ ((0 : Int) ≤ b ∧ (b : Int) ≤ c.slots - 1)) ∧ (x : Int) = l.stack + (1 + c.slots) * a + 1 + b then 1 else 0 := by
  have e : (plsF c l a b).getD 10 0 = slotF c l a b := rfl
  have e1 : oneB 10 = false := rfl
  have e2 : mnF b 10 = 1 := rfl
  unfold cK spanF
  rw [e, e1, e2]
  unfold slotF
  by_cases hc : ((0 : Int) ≤ a ∧ (a : Int) ≤ c.stacks - 1) ∧ ((0 : Int) ≤ b ∧ (b : Int) ≤ c.slots - 1)
  · rw [if_pos hc]
    skip
    rw [if_neg (fun h => h.elim (fun h => by omega) (fun h => by simp at h))]
    split <;> split <;> omega
  · rw [if_neg hc, if_pos (.inl (by omega)), if_neg (fun h => hc h.1)]
theorem ck_11 (h0 : 0 ≤ l.chan) : cK (plsF c l a b) b 11 x = if ((0 : Int) ≤ a ∧ (a : Int) ≤ c.chans - 1) ∧ b = 0 ∧ (x : Int) = l.chan + 2 * a then 1 else 0 := by
  have e : (plsF c l a b).getD 11 0 = headF c l a := rfl
  have e1 : oneB 11 = true := rfl
  have e2 : mnF b 11 = 1 := rfl
  unfold cK spanF
  rw [e, e1, e2]
  unfold headF
  by_cases hc : (0 : Int) ≤ a ∧ (a : Int) ≤ c.chans - 1
  · rw [if_pos hc]
    by_cases hb : b = 0
    · rw [if_neg (fun h => h.elim (fun h => by omega) (fun h => h.2 hb))]
      split <;> split <;> omega
    · rw [if_pos (.inr ⟨rfl, hb⟩), if_neg (fun h => hb h.2.1)]
  · rw [if_neg hc, if_pos (.inl (by omega)), if_neg (fun h => hc h.1)]
theorem ck_12 (h0 : 0 ≤ l.chan) : cK (plsF c l a b) b 12 x = if ((0 : Int) ≤ a ∧ (a : Int) ≤ c.chans - 1) ∧ b = 0 ∧ (x : Int) = l.chan + 2 * a + 1 then 1 else 0 := by
  have e : (plsF c l a b).getD 12 0 = tailF c l a := rfl
  have e1 : oneB 12 = true := rfl
  have e2 : mnF b 12 = 1 := rfl
  unfold cK spanF
  rw [e, e1, e2]
  unfold tailF
  by_cases hc : (0 : Int) ≤ a ∧ (a : Int) ≤ c.chans - 1
  · rw [if_pos hc]
    by_cases hb : b = 0
    · rw [if_neg (fun h => h.elim (fun h => by omega) (fun h => h.2 hb))]
      split <;> split <;> omega
    · rw [if_pos (.inr ⟨rfl, hb⟩), if_neg (fun h => hb h.2.1)]
  · rw [if_neg hc, if_pos (.inl (by omega)), if_neg (fun h => hc h.1)]
theorem ck_13 (h0 : 0 ≤ l.node) : cK (plsF c l a b) b 13 x = if (((1 : Int) ≤ a ∧ (a : Int) ≤ c.nodes) ∧ ((0 : Int) ≤ b ∧ (b : Int) ≤ 7)) ∧ (x : Int) = l.node + 8 * (a - 1) + b then 1 else 0 := by
  have e : (plsF c l a b).getD 13 0 = nodeF c l a b := rfl
  have e1 : oneB 13 = false := rfl
  have e2 : mnF b 13 = 1 := rfl
  unfold cK spanF
  rw [e, e1, e2]
  unfold nodeF
  by_cases hc : ((1 : Int) ≤ a ∧ (a : Int) ≤ c.nodes) ∧ ((0 : Int) ≤ b ∧ (b : Int) ≤ 7)
  · rw [if_pos hc]
    skip
    rw [if_neg (fun h => h.elim (fun h => by omega) (fun h => by simp at h))]
    split <;> split <;> omega
  · rw [if_neg hc, if_pos (.inl (by omega)), if_neg (fun h => hc h.1)]
theorem ck_3 (h0 : 0 ≤ l.deque) : cK (plsF c l a b) b 3 x = if (((0 : Int) ≤ a ∧ (a : Int) ≤ c.seats - 1) ∧ ((0 : Int) ≤ b ∧ (b : Int) ≤ 2)) ∧ (x : Int) = l.deque + 3 * a + b then 1 else 0 := by
  have e : (plsF c l a b).getD 3 0 = dqF c l a b := rfl
  have e1 : oneB 3 = false := rfl
  have e2 : mnF b 3 = 1 := rfl
  unfold cK spanF
  rw [e, e1, e2]
  unfold dqF
  by_cases hc : ((0 : Int) ≤ a ∧ (a : Int) ≤ c.seats - 1) ∧ ((0 : Int) ≤ b ∧ (b : Int) ≤ 2)
  · rw [if_pos hc]
    rw [if_neg (fun h => h.elim (fun h => by omega) (fun h => by simp at h))]
    split <;> split <;> omega
  · rw [if_neg hc, if_pos (.inl (by omega)), if_neg (fun h => hc h.1)]
theorem ck_4 (h0 : 0 ≤ l.ring) (hx : 0 ≤ (a : Int) * (4 * (pwF c.tasks - 1))) : cK (plsF c l a b) b 4 x = if (((0 : Int) ≤ a ∧ (a : Int) ≤ c.seats - 1) ∧ ((0 : Int) ≤ b ∧ (b : Int) ≤ rgF c.tasks - 1)) ∧ l.ring + a * (4 * (pwF c.tasks - 1)) + 4 * (p2F b - 1) ≤ (x : Int) ∧ (x : Int) < l.ring + a * (4 * (pwF c.tasks - 1)) + 4 * (p2F b - 1) + ((4 * 2 ^ b : Nat) : Int) then 1 else 0 := by
  have e : (plsF c l a b).getD 4 0 = ringF c l a b := rfl
  have e1 : oneB 4 = false := rfl
  have e2 : mnF b 4 = 4 * 2 ^ b := rfl
  have hb := p2_bd (b : Int)
  unfold cK spanF
  rw [e, e1, e2]
  unfold ringF
  by_cases hc : ((0 : Int) ≤ a ∧ (a : Int) ≤ c.seats - 1) ∧ ((0 : Int) ≤ b ∧ (b : Int) ≤ rgF c.tasks - 1)
  · rw [if_pos hc]
    rw [if_neg (fun h => h.elim (fun h => by omega) (fun h => by simp at h))]
    generalize 4 * 2 ^ b = m
    split <;> split <;> first | rfl | omega
  · rw [if_neg hc, if_pos (.inl (by omega)), if_neg (fun h => hc h.1)]
end

theorem s_0 {c : Cf} {l : Lf} {x : Nat} (h0 : 0 ≤ l.alive) (hs : 0 ≤ c.seats ∧ c.seats ≤ 2) : S2 (fun a b => cK (plsF c l a b) b 0 x) = if l.alive ≤ (x : Int) ∧ (x : Int) < l.alive + c.seats then 1 else 0 := by
  refine S2_if (fun hR a b ha hb => ?_) (fun hR => ⟨(x - l.alive).toNat, ((0 : Int)).toNat, by omega, by omega, ?_, fun a b ha hb hn => ?_⟩)
  · rw [ck_0 h0, if_neg (by omega)]
  · rw [ck_0 h0, if_pos (by omega)]
  · rw [ck_0 h0, if_neg (by omega)]
theorem s_1 {c : Cf} {l : Lf} {x : Nat} (h0 : 0 ≤ l.owner) (hs : 0 ≤ c.seats ∧ c.seats ≤ 2) : S2 (fun a b => cK (plsF c l a b) b 1 x) = if l.owner ≤ (x : Int) ∧ (x : Int) < l.owner + c.seats then 1 else 0 := by
  refine S2_if (fun hR a b ha hb => ?_) (fun hR => ⟨(x - l.owner).toNat, ((0 : Int)).toNat, by omega, by omega, ?_, fun a b ha hb hn => ?_⟩)
  · rw [ck_1 h0, if_neg (by omega)]
  · rw [ck_1 h0, if_pos (by omega)]
  · rw [ck_1 h0, if_neg (by omega)]
theorem s_2 {c : Cf} {l : Lf} {x : Nat} (h0 : 0 ≤ l.resv) (hs : 0 ≤ c.seats ∧ c.seats ≤ 2) : S2 (fun a b => cK (plsF c l a b) b 2 x) = if l.resv ≤ (x : Int) ∧ (x : Int) < l.resv + 3 * c.seats then 1 else 0 := by
  refine S2_if (fun hR a b ha hb => ?_) (fun hR => ⟨((x - l.resv) / 3).toNat, ((x - l.resv) % 3).toNat, by omega, by omega, ?_, fun a b ha hb hn => ?_⟩)
  · rw [ck_2 h0, if_neg (by omega)]
  · rw [ck_2 h0, if_pos (by omega)]
  · rw [ck_2 h0, if_neg (by omega)]
theorem s_3 {c : Cf} {l : Lf} {x : Nat} (h0 : 0 ≤ l.deque) (hs : 0 ≤ c.seats ∧ c.seats ≤ 2) : S2 (fun a b => cK (plsF c l a b) b 3 x) = if l.deque ≤ (x : Int) ∧ (x : Int) < l.deque + 3 * c.seats then 1 else 0 := by
  refine S2_if (fun hR a b ha hb => ?_) (fun hR => ⟨((x - l.deque) / 3).toNat, ((x - l.deque) % 3).toNat, by omega, by omega, ?_, fun a b ha hb hn => ?_⟩)
  · rw [ck_3 h0, if_neg (by omega)]
  · rw [ck_3 h0, if_pos (by omega)]
  · rw [ck_3 h0, if_neg (by omega)]
theorem s_5 {c : Cf} {l : Lf} {x : Nat} (h0 : 0 ≤ l.task) (hs : 0 ≤ c.tasks ∧ c.tasks ≤ 9) : S2 (fun a b => cK (plsF c l a b) b 5 x) = if l.task ≤ (x : Int) ∧ (x : Int) < l.task + 4 * c.tasks then 1 else 0 := by
  refine S2_if (fun hR a b ha hb => ?_) (fun hR => ⟨((x - l.task) / 4 + 1).toNat, ((x - l.task) % 4).toNat, by omega, by omega, ?_, fun a b ha hb hn => ?_⟩)
  · rw [ck_5 h0, if_neg (by omega)]
  · rw [ck_5 h0, if_pos (by omega)]
  · rw [ck_5 h0, if_neg (by omega)]
theorem s_6 {c : Cf} {l : Lf} {x : Nat} (h0 : 0 ≤ l.cell) (hs : 0 ≤ c.cells ∧ c.cells ≤ 16) : S2 (fun a b => cK (plsF c l a b) b 6 x) = if l.cell ≤ (x : Int) ∧ (x : Int) < l.cell + c.cells then 1 else 0 := by
  refine S2_if (fun hR a b ha hb => ?_) (fun hR => ⟨(x - l.cell).toNat, ((0 : Int)).toNat, by omega, by omega, ?_, fun a b ha hb hn => ?_⟩)
  · rw [ck_6 h0, if_neg (by omega)]
  · rw [ck_6 h0, if_pos (by omega)]
  · rw [ck_6 h0, if_neg (by omega)]
theorem s_11 {c : Cf} {l : Lf} {x : Nat} (h0 : 0 ≤ l.chan) (hs : 0 ≤ c.chans ∧ c.chans ≤ 8) : S2 (fun a b => cK (plsF c l a b) b 11 x) = if l.chan ≤ (x : Int) ∧ (x : Int) < l.chan + 2 * c.chans ∧ (x - l.chan) % 2 = 0 then 1 else 0 := by
  refine S2_if (fun hR a b ha hb => ?_) (fun hR => ⟨((x - l.chan) / 2).toNat, ((0 : Int)).toNat, by omega, by omega, ?_, fun a b ha hb hn => ?_⟩)
  · rw [ck_11 h0, if_neg (by omega)]
  · rw [ck_11 h0, if_pos (by omega)]
  · rw [ck_11 h0, if_neg (by omega)]
theorem s_12 {c : Cf} {l : Lf} {x : Nat} (h0 : 0 ≤ l.chan) (hs : 0 ≤ c.chans ∧ c.chans ≤ 8) : S2 (fun a b => cK (plsF c l a b) b 12 x) = if l.chan ≤ (x : Int) ∧ (x : Int) < l.chan + 2 * c.chans ∧ (x - l.chan) % 2 = 1 then 1 else 0 := by
  refine S2_if (fun hR a b ha hb => ?_) (fun hR => ⟨((x - l.chan) / 2).toNat, ((0 : Int)).toNat, by omega, by omega, ?_, fun a b ha hb hn => ?_⟩)
  · rw [ck_12 h0, if_neg (by omega)]
  · rw [ck_12 h0, if_pos (by omega)]
  · rw [ck_12 h0, if_neg (by omega)]
theorem s_13 {c : Cf} {l : Lf} {x : Nat} (h0 : 0 ≤ l.node) (hs : 0 ≤ c.nodes ∧ c.nodes ≤ 20) : S2 (fun a b => cK (plsF c l a b) b 13 x) = if l.node ≤ (x : Int) ∧ (x : Int) < l.node + 8 * c.nodes then 1 else 0 := by
  refine S2_if (fun hR a b ha hb => ?_) (fun hR => ⟨((x - l.node) / 8 + 1).toNat, ((x - l.node) % 8).toNat, by omega, by omega, ?_, fun a b ha hb hn => ?_⟩)
  · rw [ck_13 h0, if_neg (by omega)]
  · rw [ck_13 h0, if_pos (by omega)]
  · rw [ck_13 h0, if_neg (by omega)]
theorem s_7_3 {c : Cf} {l : Lf} {x : Nat} (h0 : 0 ≤ l.map) (hs : 0 ≤ c.maps ∧ c.maps ≤ 8) (hB : c.buckets = 1) : S2 (fun a b => cK (plsF c l a b) b 7 x) = if l.map ≤ (x : Int) ∧ (x : Int) < l.map + 3 * c.maps ∧ (x - l.map) % 3 < 2 then 1 else 0 := by
  refine S2_if (fun hR a b ha hb => ?_) (fun hR => ⟨((x - l.map) / 3).toNat, ((x - l.map) % 3).toNat, by omega, by omega, ?_, fun a b ha hb hn => ?_⟩)
  · rw [ck_7 h0 (by rw [hB]; omega), hB, if_neg (by omega)]
  · rw [ck_7 h0 (by rw [hB]; omega), hB, if_pos (by omega)]
  · rw [ck_7 h0 (by rw [hB]; omega), hB, if_neg (by omega)]
theorem s_8_3 {c : Cf} {l : Lf} {x : Nat} (h0 : 0 ≤ l.map) (hs : 0 ≤ c.maps ∧ c.maps ≤ 8) (hB : c.buckets = 1) : S2 (fun a b => cK (plsF c l a b) b 8 x) = if l.map ≤ (x : Int) ∧ (x : Int) < l.map + 3 * c.maps ∧ 2 ≤ (x - l.map) % 3 then 1 else 0 := by
  refine S2_if (fun hR a b ha hb => ?_) (fun hR => ⟨((x - l.map) / 3).toNat, ((x - l.map) % 3 - 2).toNat, by omega, by omega, ?_, fun a b ha hb hn => ?_⟩)
  · rw [ck_8 h0 (by rw [hB]; omega), hB, if_neg (by omega)]
  · rw [ck_8 h0 (by rw [hB]; omega), hB, if_pos (by omega)]
  · rw [ck_8 h0 (by rw [hB]; omega), hB, if_neg (by omega)]
theorem s_7_4 {c : Cf} {l : Lf} {x : Nat} (h0 : 0 ≤ l.map) (hs : 0 ≤ c.maps ∧ c.maps ≤ 8) (hB : c.buckets = 2) : S2 (fun a b => cK (plsF c l a b) b 7 x) = if l.map ≤ (x : Int) ∧ (x : Int) < l.map + 4 * c.maps ∧ (x - l.map) % 4 < 2 then 1 else 0 := by
  refine S2_if (fun hR a b ha hb => ?_) (fun hR => ⟨((x - l.map) / 4).toNat, ((x - l.map) % 4).toNat, by omega, by omega, ?_, fun a b ha hb hn => ?_⟩)
  · rw [ck_7 h0 (by rw [hB]; omega), hB, if_neg (by omega)]
  · rw [ck_7 h0 (by rw [hB]; omega), hB, if_pos (by omega)]
  · rw [ck_7 h0 (by rw [hB]; omega), hB, if_neg (by omega)]
theorem s_8_4 {c : Cf} {l : Lf} {x : Nat} (h0 : 0 ≤ l.map) (hs : 0 ≤ c.maps ∧ c.maps ≤ 8) (hB : c.buckets = 2) : S2 (fun a b => cK (plsF c l a b) b 8 x) = if l.map ≤ (x : Int) ∧ (x : Int) < l.map + 4 * c.maps ∧ 2 ≤ (x - l.map) % 4 then 1 else 0 := by
  refine S2_if (fun hR a b ha hb => ?_) (fun hR => ⟨((x - l.map) / 4).toNat, ((x - l.map) % 4 - 2).toNat, by omega, by omega, ?_, fun a b ha hb hn => ?_⟩)
  · rw [ck_8 h0 (by rw [hB]; omega), hB, if_neg (by omega)]
  · rw [ck_8 h0 (by rw [hB]; omega), hB, if_pos (by omega)]
  · rw [ck_8 h0 (by rw [hB]; omega), hB, if_neg (by omega)]
theorem s_7_6 {c : Cf} {l : Lf} {x : Nat} (h0 : 0 ≤ l.map) (hs : 0 ≤ c.maps ∧ c.maps ≤ 8) (hB : c.buckets = 4) : S2 (fun a b => cK (plsF c l a b) b 7 x) = if l.map ≤ (x : Int) ∧ (x : Int) < l.map + 6 * c.maps ∧ (x - l.map) % 6 < 2 then 1 else 0 := by
  refine S2_if (fun hR a b ha hb => ?_) (fun hR => ⟨((x - l.map) / 6).toNat, ((x - l.map) % 6).toNat, by omega, by omega, ?_, fun a b ha hb hn => ?_⟩)
  · rw [ck_7 h0 (by rw [hB]; omega), hB, if_neg (by omega)]
  · rw [ck_7 h0 (by rw [hB]; omega), hB, if_pos (by omega)]
  · rw [ck_7 h0 (by rw [hB]; omega), hB, if_neg (by omega)]
theorem s_8_6 {c : Cf} {l : Lf} {x : Nat} (h0 : 0 ≤ l.map) (hs : 0 ≤ c.maps ∧ c.maps ≤ 8) (hB : c.buckets = 4) : S2 (fun a b => cK (plsF c l a b) b 8 x) = if l.map ≤ (x : Int) ∧ (x : Int) < l.map + 6 * c.maps ∧ 2 ≤ (x - l.map) % 6 then 1 else 0 := by
  refine S2_if (fun hR a b ha hb => ?_) (fun hR => ⟨((x - l.map) / 6).toNat, ((x - l.map) % 6 - 2).toNat, by omega, by omega, ?_, fun a b ha hb hn => ?_⟩)
  · rw [ck_8 h0 (by rw [hB]; omega), hB, if_neg (by omega)]
  · rw [ck_8 h0 (by rw [hB]; omega), hB, if_pos (by omega)]
  · rw [ck_8 h0 (by rw [hB]; omega), hB, if_neg (by omega)]
theorem s_7_10 {c : Cf} {l : Lf} {x : Nat} (h0 : 0 ≤ l.map) (hs : 0 ≤ c.maps ∧ c.maps ≤ 8) (hB : c.buckets = 8) : S2 (fun a b => cK (plsF c l a b) b 7 x) = if l.map ≤ (x : Int) ∧ (x : Int) < l.map + 10 * c.maps ∧ (x - l.map) % 10 < 2 then 1 else 0 := by
  refine S2_if (fun hR a b ha hb => ?_) (fun hR => ⟨((x - l.map) / 10).toNat, ((x - l.map) % 10).toNat, by omega, by omega, ?_, fun a b ha hb hn => ?_⟩)
  · rw [ck_7 h0 (by rw [hB]; omega), hB, if_neg (by omega)]
  · rw [ck_7 h0 (by rw [hB]; omega), hB, if_pos (by omega)]
  · rw [ck_7 h0 (by rw [hB]; omega), hB, if_neg (by omega)]
theorem s_8_10 {c : Cf} {l : Lf} {x : Nat} (h0 : 0 ≤ l.map) (hs : 0 ≤ c.maps ∧ c.maps ≤ 8) (hB : c.buckets = 8) : S2 (fun a b => cK (plsF c l a b) b 8 x) = if l.map ≤ (x : Int) ∧ (x : Int) < l.map + 10 * c.maps ∧ 2 ≤ (x - l.map) % 10 then 1 else 0 := by
  refine S2_if (fun hR a b ha hb => ?_) (fun hR => ⟨((x - l.map) / 10).toNat, ((x - l.map) % 10 - 2).toNat, by omega, by omega, ?_, fun a b ha hb hn => ?_⟩)
  · rw [ck_8 h0 (by rw [hB]; omega), hB, if_neg (by omega)]
  · rw [ck_8 h0 (by rw [hB]; omega), hB, if_pos (by omega)]
  · rw [ck_8 h0 (by rw [hB]; omega), hB, if_neg (by omega)]
theorem s_9_2 {c : Cf} {l : Lf} {x : Nat} (h0 : 0 ≤ l.stack) (hs : 0 ≤ c.stacks ∧ c.stacks ≤ 8) (hB : c.slots = 1) : S2 (fun a b => cK (plsF c l a b) b 9 x) = if l.stack ≤ (x : Int) ∧ (x : Int) < l.stack + 2 * c.stacks ∧ (x - l.stack) % 2 = 0 then 1 else 0 := by
  refine S2_if (fun hR a b ha hb => ?_) (fun hR => ⟨((x - l.stack) / 2).toNat, ((0 : Int)).toNat, by omega, by omega, ?_, fun a b ha hb hn => ?_⟩)
  · rw [ck_9 h0 (by rw [hB]; omega), hB, if_neg (by omega)]
  · rw [ck_9 h0 (by rw [hB]; omega), hB, if_pos (by omega)]
  · rw [ck_9 h0 (by rw [hB]; omega), hB, if_neg (by omega)]
theorem s_10_2 {c : Cf} {l : Lf} {x : Nat} (h0 : 0 ≤ l.stack) (hs : 0 ≤ c.stacks ∧ c.stacks ≤ 8) (hB : c.slots = 1) : S2 (fun a b => cK (plsF c l a b) b 10 x) = if l.stack ≤ (x : Int) ∧ (x : Int) < l.stack + 2 * c.stacks ∧ 1 ≤ (x - l.stack) % 2 then 1 else 0 := by
  refine S2_if (fun hR a b ha hb => ?_) (fun hR => ⟨((x - l.stack) / 2).toNat, ((x - l.stack) % 2 - 1).toNat, by omega, by omega, ?_, fun a b ha hb hn => ?_⟩)
  · rw [ck_10 h0 (by rw [hB]; omega), hB, if_neg (by omega)]
  · rw [ck_10 h0 (by rw [hB]; omega), hB, if_pos (by omega)]
  · rw [ck_10 h0 (by rw [hB]; omega), hB, if_neg (by omega)]
theorem s_9_3 {c : Cf} {l : Lf} {x : Nat} (h0 : 0 ≤ l.stack) (hs : 0 ≤ c.stacks ∧ c.stacks ≤ 8) (hB : c.slots = 2) : S2 (fun a b => cK (plsF c l a b) b 9 x) = if l.stack ≤ (x : Int) ∧ (x : Int) < l.stack + 3 * c.stacks ∧ (x - l.stack) % 3 = 0 then 1 else 0 := by
  refine S2_if (fun hR a b ha hb => ?_) (fun hR => ⟨((x - l.stack) / 3).toNat, ((0 : Int)).toNat, by omega, by omega, ?_, fun a b ha hb hn => ?_⟩)
  · rw [ck_9 h0 (by rw [hB]; omega), hB, if_neg (by omega)]
  · rw [ck_9 h0 (by rw [hB]; omega), hB, if_pos (by omega)]
  · rw [ck_9 h0 (by rw [hB]; omega), hB, if_neg (by omega)]
theorem s_10_3 {c : Cf} {l : Lf} {x : Nat} (h0 : 0 ≤ l.stack) (hs : 0 ≤ c.stacks ∧ c.stacks ≤ 8) (hB : c.slots = 2) : S2 (fun a b => cK (plsF c l a b) b 10 x) = if l.stack ≤ (x : Int) ∧ (x : Int) < l.stack + 3 * c.stacks ∧ 1 ≤ (x - l.stack) % 3 then 1 else 0 := by
  refine S2_if (fun hR a b ha hb => ?_) (fun hR => ⟨((x - l.stack) / 3).toNat, ((x - l.stack) % 3 - 1).toNat, by omega, by omega, ?_, fun a b ha hb hn => ?_⟩)
  · rw [ck_10 h0 (by rw [hB]; omega), hB, if_neg (by omega)]
  · rw [ck_10 h0 (by rw [hB]; omega), hB, if_pos (by omega)]
  · rw [ck_10 h0 (by rw [hB]; omega), hB, if_neg (by omega)]
theorem s_9_4 {c : Cf} {l : Lf} {x : Nat} (h0 : 0 ≤ l.stack) (hs : 0 ≤ c.stacks ∧ c.stacks ≤ 8) (hB : c.slots = 3) : S2 (fun a b => cK (plsF c l a b) b 9 x) = if l.stack ≤ (x : Int) ∧ (x : Int) < l.stack + 4 * c.stacks ∧ (x - l.stack) % 4 = 0 then 1 else 0 := by
  refine S2_if (fun hR a b ha hb => ?_) (fun hR => ⟨((x - l.stack) / 4).toNat, ((0 : Int)).toNat, by omega, by omega, ?_, fun a b ha hb hn => ?_⟩)
  · rw [ck_9 h0 (by rw [hB]; omega), hB, if_neg (by omega)]
  · rw [ck_9 h0 (by rw [hB]; omega), hB, if_pos (by omega)]
  · rw [ck_9 h0 (by rw [hB]; omega), hB, if_neg (by omega)]
theorem s_10_4 {c : Cf} {l : Lf} {x : Nat} (h0 : 0 ≤ l.stack) (hs : 0 ≤ c.stacks ∧ c.stacks ≤ 8) (hB : c.slots = 3) : S2 (fun a b => cK (plsF c l a b) b 10 x) = if l.stack ≤ (x : Int) ∧ (x : Int) < l.stack + 4 * c.stacks ∧ 1 ≤ (x - l.stack) % 4 then 1 else 0 := by
  refine S2_if (fun hR a b ha hb => ?_) (fun hR => ⟨((x - l.stack) / 4).toNat, ((x - l.stack) % 4 - 1).toNat, by omega, by omega, ?_, fun a b ha hb hn => ?_⟩)
  · rw [ck_10 h0 (by rw [hB]; omega), hB, if_neg (by omega)]
  · rw [ck_10 h0 (by rw [hB]; omega), hB, if_pos (by omega)]
  · rw [ck_10 h0 (by rw [hB]; omega), hB, if_neg (by omega)]
theorem s_9_5 {c : Cf} {l : Lf} {x : Nat} (h0 : 0 ≤ l.stack) (hs : 0 ≤ c.stacks ∧ c.stacks ≤ 8) (hB : c.slots = 4) : S2 (fun a b => cK (plsF c l a b) b 9 x) = if l.stack ≤ (x : Int) ∧ (x : Int) < l.stack + 5 * c.stacks ∧ (x - l.stack) % 5 = 0 then 1 else 0 := by
  refine S2_if (fun hR a b ha hb => ?_) (fun hR => ⟨((x - l.stack) / 5).toNat, ((0 : Int)).toNat, by omega, by omega, ?_, fun a b ha hb hn => ?_⟩)
  · rw [ck_9 h0 (by rw [hB]; omega), hB, if_neg (by omega)]
  · rw [ck_9 h0 (by rw [hB]; omega), hB, if_pos (by omega)]
  · rw [ck_9 h0 (by rw [hB]; omega), hB, if_neg (by omega)]
theorem s_10_5 {c : Cf} {l : Lf} {x : Nat} (h0 : 0 ≤ l.stack) (hs : 0 ≤ c.stacks ∧ c.stacks ≤ 8) (hB : c.slots = 4) : S2 (fun a b => cK (plsF c l a b) b 10 x) = if l.stack ≤ (x : Int) ∧ (x : Int) < l.stack + 5 * c.stacks ∧ 1 ≤ (x - l.stack) % 5 then 1 else 0 := by
  refine S2_if (fun hR a b ha hb => ?_) (fun hR => ⟨((x - l.stack) / 5).toNat, ((x - l.stack) % 5 - 1).toNat, by omega, by omega, ?_, fun a b ha hb hn => ?_⟩)
  · rw [ck_10 h0 (by rw [hB]; omega), hB, if_neg (by omega)]
  · rw [ck_10 h0 (by rw [hB]; omega), hB, if_pos (by omega)]
  · rw [ck_10 h0 (by rw [hB]; omega), hB, if_neg (by omega)]
theorem s_9_6 {c : Cf} {l : Lf} {x : Nat} (h0 : 0 ≤ l.stack) (hs : 0 ≤ c.stacks ∧ c.stacks ≤ 8) (hB : c.slots = 5) : S2 (fun a b => cK (plsF c l a b) b 9 x) = if l.stack ≤ (x : Int) ∧ (x : Int) < l.stack + 6 * c.stacks ∧ (x - l.stack) % 6 = 0 then 1 else 0 := by
  refine S2_if (fun hR a b ha hb => ?_) (fun hR => ⟨((x - l.stack) / 6).toNat, ((0 : Int)).toNat, by omega, by omega, ?_, fun a b ha hb hn => ?_⟩)
  · rw [ck_9 h0 (by rw [hB]; omega), hB, if_neg (by omega)]
  · rw [ck_9 h0 (by rw [hB]; omega), hB, if_pos (by omega)]
  · rw [ck_9 h0 (by rw [hB]; omega), hB, if_neg (by omega)]
theorem s_10_6 {c : Cf} {l : Lf} {x : Nat} (h0 : 0 ≤ l.stack) (hs : 0 ≤ c.stacks ∧ c.stacks ≤ 8) (hB : c.slots = 5) : S2 (fun a b => cK (plsF c l a b) b 10 x) = if l.stack ≤ (x : Int) ∧ (x : Int) < l.stack + 6 * c.stacks ∧ 1 ≤ (x - l.stack) % 6 then 1 else 0 := by
  refine S2_if (fun hR a b ha hb => ?_) (fun hR => ⟨((x - l.stack) / 6).toNat, ((x - l.stack) % 6 - 1).toNat, by omega, by omega, ?_, fun a b ha hb hn => ?_⟩)
  · rw [ck_10 h0 (by rw [hB]; omega), hB, if_neg (by omega)]
  · rw [ck_10 h0 (by rw [hB]; omega), hB, if_pos (by omega)]
  · rw [ck_10 h0 (by rw [hB]; omega), hB, if_neg (by omega)]
theorem s_9_7 {c : Cf} {l : Lf} {x : Nat} (h0 : 0 ≤ l.stack) (hs : 0 ≤ c.stacks ∧ c.stacks ≤ 8) (hB : c.slots = 6) : S2 (fun a b => cK (plsF c l a b) b 9 x) = if l.stack ≤ (x : Int) ∧ (x : Int) < l.stack + 7 * c.stacks ∧ (x - l.stack) % 7 = 0 then 1 else 0 := by
  refine S2_if (fun hR a b ha hb => ?_) (fun hR => ⟨((x - l.stack) / 7).toNat, ((0 : Int)).toNat, by omega, by omega, ?_, fun a b ha hb hn => ?_⟩)
  · rw [ck_9 h0 (by rw [hB]; omega), hB, if_neg (by omega)]
  · rw [ck_9 h0 (by rw [hB]; omega), hB, if_pos (by omega)]
  · rw [ck_9 h0 (by rw [hB]; omega), hB, if_neg (by omega)]
theorem s_10_7 {c : Cf} {l : Lf} {x : Nat} (h0 : 0 ≤ l.stack) (hs : 0 ≤ c.stacks ∧ c.stacks ≤ 8) (hB : c.slots = 6) : S2 (fun a b => cK (plsF c l a b) b 10 x) = if l.stack ≤ (x : Int) ∧ (x : Int) < l.stack + 7 * c.stacks ∧ 1 ≤ (x - l.stack) % 7 then 1 else 0 := by
  refine S2_if (fun hR a b ha hb => ?_) (fun hR => ⟨((x - l.stack) / 7).toNat, ((x - l.stack) % 7 - 1).toNat, by omega, by omega, ?_, fun a b ha hb hn => ?_⟩)
  · rw [ck_10 h0 (by rw [hB]; omega), hB, if_neg (by omega)]
  · rw [ck_10 h0 (by rw [hB]; omega), hB, if_pos (by omega)]
  · rw [ck_10 h0 (by rw [hB]; omega), hB, if_neg (by omega)]
theorem s_9_8 {c : Cf} {l : Lf} {x : Nat} (h0 : 0 ≤ l.stack) (hs : 0 ≤ c.stacks ∧ c.stacks ≤ 8) (hB : c.slots = 7) : S2 (fun a b => cK (plsF c l a b) b 9 x) = if l.stack ≤ (x : Int) ∧ (x : Int) < l.stack + 8 * c.stacks ∧ (x - l.stack) % 8 = 0 then 1 else 0 := by
  refine S2_if (fun hR a b ha hb => ?_) (fun hR => ⟨((x - l.stack) / 8).toNat, ((0 : Int)).toNat, by omega, by omega, ?_, fun a b ha hb hn => ?_⟩)
  · rw [ck_9 h0 (by rw [hB]; omega), hB, if_neg (by omega)]
  · rw [ck_9 h0 (by rw [hB]; omega), hB, if_pos (by omega)]
  · rw [ck_9 h0 (by rw [hB]; omega), hB, if_neg (by omega)]
theorem s_10_8 {c : Cf} {l : Lf} {x : Nat} (h0 : 0 ≤ l.stack) (hs : 0 ≤ c.stacks ∧ c.stacks ≤ 8) (hB : c.slots = 7) : S2 (fun a b => cK (plsF c l a b) b 10 x) = if l.stack ≤ (x : Int) ∧ (x : Int) < l.stack + 8 * c.stacks ∧ 1 ≤ (x - l.stack) % 8 then 1 else 0 := by
  refine S2_if (fun hR a b ha hb => ?_) (fun hR => ⟨((x - l.stack) / 8).toNat, ((x - l.stack) % 8 - 1).toNat, by omega, by omega, ?_, fun a b ha hb hn => ?_⟩)
  · rw [ck_10 h0 (by rw [hB]; omega), hB, if_neg (by omega)]
  · rw [ck_10 h0 (by rw [hB]; omega), hB, if_pos (by omega)]
  · rw [ck_10 h0 (by rw [hB]; omega), hB, if_neg (by omega)]
theorem s_9_9 {c : Cf} {l : Lf} {x : Nat} (h0 : 0 ≤ l.stack) (hs : 0 ≤ c.stacks ∧ c.stacks ≤ 8) (hB : c.slots = 8) : S2 (fun a b => cK (plsF c l a b) b 9 x) = if l.stack ≤ (x : Int) ∧ (x : Int) < l.stack + 9 * c.stacks ∧ (x - l.stack) % 9 = 0 then 1 else 0 := by
  refine S2_if (fun hR a b ha hb => ?_) (fun hR => ⟨((x - l.stack) / 9).toNat, ((0 : Int)).toNat, by omega, by omega, ?_, fun a b ha hb hn => ?_⟩)
  · rw [ck_9 h0 (by rw [hB]; omega), hB, if_neg (by omega)]
  · rw [ck_9 h0 (by rw [hB]; omega), hB, if_pos (by omega)]
  · rw [ck_9 h0 (by rw [hB]; omega), hB, if_neg (by omega)]
theorem s_10_9 {c : Cf} {l : Lf} {x : Nat} (h0 : 0 ≤ l.stack) (hs : 0 ≤ c.stacks ∧ c.stacks ≤ 8) (hB : c.slots = 8) : S2 (fun a b => cK (plsF c l a b) b 10 x) = if l.stack ≤ (x : Int) ∧ (x : Int) < l.stack + 9 * c.stacks ∧ 1 ≤ (x - l.stack) % 9 then 1 else 0 := by
  refine S2_if (fun hR a b ha hb => ?_) (fun hR => ⟨((x - l.stack) / 9).toNat, ((x - l.stack) % 9 - 1).toNat, by omega, by omega, ?_, fun a b ha hb hn => ?_⟩)
  · rw [ck_10 h0 (by rw [hB]; omega), hB, if_neg (by omega)]
  · rw [ck_10 h0 (by rw [hB]; omega), hB, if_pos (by omega)]
  · rw [ck_10 h0 (by rw [hB]; omega), hB, if_neg (by omega)]
theorem s_4_1 {c : Cf} {l : Lf} {x : Nat} (h0 : 0 ≤ l.ring) (hs : 0 ≤ c.seats ∧ c.seats ≤ 2) (ht : c.tasks ≤ 4) : S2 (fun a b => cK (plsF c l a b) b 4 x) = if l.ring ≤ (x : Int) ∧ (x : Int) < l.ring + 4 * c.seats then 1 else 0 := by
  have hr : rgF c.tasks = 1 := by unfold rgF; rw [if_pos ht]
  have hp : pwF c.tasks = 2 := by unfold pwF; rw [if_pos ht]
  have q0 : p2F ((0 : Nat) : Int) = 1 := by decide
  have q1 : p2F ((1 : Nat) : Int) = 2 := by decide
  have q2 : p2F ((2 : Nat) : Int) = 4 := by decide
  have C : ∀ a b : Nat, cK (plsF c l a b) b 4 x = if (((0 : Int) ≤ a ∧ (a : Int) ≤ c.seats - 1) ∧ ((0 : Int) ≤ b ∧ (b : Int) ≤ 1 - 1)) ∧ l.ring + a * (4 * (2 - 1)) + 4 * (p2F b - 1) ≤ (x : Int) ∧ (x : Int) < l.ring + a * (4 * (2 - 1)) + 4 * (p2F b - 1) + ((4 * 2 ^ b : Nat) : Int) then 1 else 0 := fun a b => by
    have := ck_4 (c := c) (l := l) (a := a) (b := b) (x := x) h0 (by rw [hp]; omega)
    rw [hr, hp] at this
    exact this
  have D : ∀ a b : Nat, cK (plsF c l a b) b 4 x = if (a : Int) ≤ c.seats - 1 ∧ ((b = 0 ∧ l.ring + 4 * a ≤ (x : Int) ∧ (x : Int) < l.ring + 4 * a + 4)) then 1 else 0 := fun a b => by
    rw [C]
    by_cases hb : b < 1
    · have h3 : b = 0 := by omega
      rcases h3 with rfl
      · rw [q0]; split <;> split <;> omega
    · rw [if_neg (fun h => by omega), if_neg (fun h => by omega)]
  refine S2_if (fun hR a b ha hb => ?_) (fun hR => ?_)
  · rw [D, if_neg (by omega)]
  · obtain ⟨b0, hb0⟩ : ∃ b0 : Nat, b0 = 0 := ⟨0, rfl⟩
    exact ⟨(((x : Int) - l.ring) / 4).toNat, b0, by omega, by omega, by rw [D, if_pos (by omega)], fun a b ha hb hn => by rw [D, if_neg (by omega)]⟩
theorem s_4_2 {c : Cf} {l : Lf} {x : Nat} (h0 : 0 ≤ l.ring) (hs : 0 ≤ c.seats ∧ c.seats ≤ 2) (ht : ¬ c.tasks ≤ 4) (ht2 : c.tasks ≤ 8) : S2 (fun a b => cK (plsF c l a b) b 4 x) = if l.ring ≤ (x : Int) ∧ (x : Int) < l.ring + 12 * c.seats then 1 else 0 := by
  have hr : rgF c.tasks = 2 := by unfold rgF; rw [if_neg (by omega), if_pos (by omega)]
  have hp : pwF c.tasks = 4 := by unfold pwF; rw [if_neg (by omega), if_pos (by omega)]
  have q0 : p2F ((0 : Nat) : Int) = 1 := by decide
  have q1 : p2F ((1 : Nat) : Int) = 2 := by decide
  have q2 : p2F ((2 : Nat) : Int) = 4 := by decide
  have C : ∀ a b : Nat, cK (plsF c l a b) b 4 x = if (((0 : Int) ≤ a ∧ (a : Int) ≤ c.seats - 1) ∧ ((0 : Int) ≤ b ∧ (b : Int) ≤ 2 - 1)) ∧ l.ring + a * (4 * (4 - 1)) + 4 * (p2F b - 1) ≤ (x : Int) ∧ (x : Int) < l.ring + a * (4 * (4 - 1)) + 4 * (p2F b - 1) + ((4 * 2 ^ b : Nat) : Int) then 1 else 0 := fun a b => by
    have := ck_4 (c := c) (l := l) (a := a) (b := b) (x := x) h0 (by rw [hp]; omega)
    rw [hr, hp] at this
    exact this
  have D : ∀ a b : Nat, cK (plsF c l a b) b 4 x = if (a : Int) ≤ c.seats - 1 ∧ ((b = 0 ∧ l.ring + 12 * a ≤ (x : Int) ∧ (x : Int) < l.ring + 12 * a + 4) ∨ (b = 1 ∧ l.ring + 12 * a + 4 ≤ (x : Int) ∧ (x : Int) < l.ring + 12 * a + 12)) then 1 else 0 := fun a b => by
    rw [C]
    by_cases hb : b < 2
    · have h3 : b = 0 ∨ b = 1 := by omega
      rcases h3 with rfl | rfl
      · rw [q0]; split <;> split <;> omega
      · rw [q1]; split <;> split <;> omega
    · rw [if_neg (fun h => by omega), if_neg (fun h => by omega)]
  refine S2_if (fun hR a b ha hb => ?_) (fun hR => ?_)
  · rw [D, if_neg (by omega)]
  · obtain ⟨b0, hb0⟩ : ∃ b0 : Nat, (b0 = 0 ∧ ((x : Int) - l.ring) % 12 < 4) ∨ (b0 = 1 ∧ 4 ≤ ((x : Int) - l.ring) % 12) := by
      by_cases h4 : ((x : Int) - l.ring) % 12 < 4
      · exact ⟨0, by omega⟩
      · exact ⟨1, by omega⟩
    exact ⟨(((x : Int) - l.ring) / 12).toNat, b0, by omega, by omega, by rw [D, if_pos (by omega)], fun a b ha hb hn => by rw [D, if_neg (by omega)]⟩
theorem s_4_3 {c : Cf} {l : Lf} {x : Nat} (h0 : 0 ≤ l.ring) (hs : 0 ≤ c.seats ∧ c.seats ≤ 2) (ht : ¬ c.tasks ≤ 8) (ht2 : c.tasks ≤ 9) : S2 (fun a b => cK (plsF c l a b) b 4 x) = if l.ring ≤ (x : Int) ∧ (x : Int) < l.ring + 28 * c.seats then 1 else 0 := by
  have hr : rgF c.tasks = 3 := by unfold rgF; rw [if_neg (by omega), if_neg (by omega), if_pos (by omega)]
  have hp : pwF c.tasks = 8 := by unfold pwF; rw [if_neg (by omega), if_neg (by omega), if_pos (by omega)]
  have q0 : p2F ((0 : Nat) : Int) = 1 := by decide
  have q1 : p2F ((1 : Nat) : Int) = 2 := by decide
  have q2 : p2F ((2 : Nat) : Int) = 4 := by decide
  have C : ∀ a b : Nat, cK (plsF c l a b) b 4 x = if (((0 : Int) ≤ a ∧ (a : Int) ≤ c.seats - 1) ∧ ((0 : Int) ≤ b ∧ (b : Int) ≤ 3 - 1)) ∧ l.ring + a * (4 * (8 - 1)) + 4 * (p2F b - 1) ≤ (x : Int) ∧ (x : Int) < l.ring + a * (4 * (8 - 1)) + 4 * (p2F b - 1) + ((4 * 2 ^ b : Nat) : Int) then 1 else 0 := fun a b => by
    have := ck_4 (c := c) (l := l) (a := a) (b := b) (x := x) h0 (by rw [hp]; omega)
    rw [hr, hp] at this
    exact this
  have D : ∀ a b : Nat, cK (plsF c l a b) b 4 x = if (a : Int) ≤ c.seats - 1 ∧ ((b = 0 ∧ l.ring + 28 * a ≤ (x : Int) ∧ (x : Int) < l.ring + 28 * a + 4) ∨ (b = 1 ∧ l.ring + 28 * a + 4 ≤ (x : Int) ∧ (x : Int) < l.ring + 28 * a + 12) ∨ (b = 2 ∧ l.ring + 28 * a + 12 ≤ (x : Int) ∧ (x : Int) < l.ring + 28 * a + 28)) then 1 else 0 := fun a b => by
    rw [C]
    by_cases hb : b < 3
    · have h3 : b = 0 ∨ b = 1 ∨ b = 2 := by omega
      rcases h3 with rfl | rfl | rfl
      · rw [q0]; split <;> split <;> omega
      · rw [q1]; split <;> split <;> omega
      · rw [q2]; split <;> split <;> omega
    · rw [if_neg (fun h => by omega), if_neg (fun h => by omega)]
  refine S2_if (fun hR a b ha hb => ?_) (fun hR => ?_)
  · rw [D, if_neg (by omega)]
  · obtain ⟨b0, hb0⟩ : ∃ b0 : Nat, (b0 = 0 ∧ ((x : Int) - l.ring) % 28 < 4) ∨ (b0 = 1 ∧ 4 ≤ ((x : Int) - l.ring) % 28 ∧ ((x : Int) - l.ring) % 28 < 12) ∨ (b0 = 2 ∧ 12 ≤ ((x : Int) - l.ring) % 28) := by
      by_cases h4 : ((x : Int) - l.ring) % 28 < 4
      · exact ⟨0, by omega⟩
      · by_cases h12 : ((x : Int) - l.ring) % 28 < 12
        · exact ⟨1, by omega⟩
        · exact ⟨2, by omega⟩
    exact ⟨(((x : Int) - l.ring) / 28).toNat, b0, by omega, by omega, by rw [D, if_pos (by omega)], fun a b ha hb hn => by rw [D, if_neg (by omega)]⟩
end Go.D.Layout
