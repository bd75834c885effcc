/- What LayoutEnough is asked of, as a parameter. -/
import Derived.Test.YtilfhbpehgklbaaQqLayS
import Derived.Test.YtilfhbpehgklbaaQqLayoutD
set_option linter.unusedSimpArgs false
set_option linter.unusedVariables false
namespace Go.D
mutual
theorem sh_free : ∀ (t : Ty) {d : DV}, Sh t d → free d = true
  | .bool, d, h => by simp only [Sh] at h; obtain ⟨b, rfl⟩ := h; rfl
  | .int k, d, h => by simp only [Sh] at h; obtain ⟨n, rfl, _⟩ := h; rfl
  | .str, d, h => by simp only [Sh] at h; obtain ⟨s, rfl, _⟩ := h; rfl
  | .sl sz bs e, d, h => by
    simp only [Sh] at h
    obtain ⟨xs, rfl, _, hx⟩ := h
    have : ∀ l : List DV, (∀ x ∈ l, Sh e x) → freeL l = true := by
      intro l
      induction l with
      | nil => intro _; rfl
      | cons x r ih => intro hl; simp only [freeL, sh_free e (hl x (by simp)), ih (fun y hy => hl y (by simp [hy])), Bool.and_self]
    exact this xs hx
  | .agg fs, d, h => by
    simp only [Sh] at h
    obtain ⟨cs, rfl, hc⟩ := h
    exact shL_free fs hc
theorem shL_free : ∀ (ts : List Ty) {cs : List DV}, ShL ts cs → freeL cs = true
  | [], cs, h => by simp only [ShL] at h; subst h; rfl
  | t :: ts, cs, h => by
    simp only [ShL] at h
    obtain ⟨d, ds, rfl, h1, h2⟩ := h
    simp only [freeL, sh_free t h1, shL_free ts h2, Bool.and_self]
end
theorem sh_sl {sz bs : Nat} {e : Ty} {d : DV} (h : Sh (.sl sz bs e) d) : ∃ xs, d = .sl .view sz xs ∧ freeL xs = true ∧ ∀ x ∈ xs, Sh e x := by
  have hf := sh_free _ h
  simp only [Sh] at h
  obtain ⟨xs, rfl, _, hx⟩ := h
  exact ⟨xs, rfl, hf, hx⟩
open Layout in
theorem shL_use {cs : List DV} {ts : List Ty} (h : ShL (.int .i64 :: .sl 1 8 (.int .i64) :: .int .i64 :: .int .i64 :: .int .i64 :: .int .i64 :: .int .i64 :: .int .i64 :: .int .i64 :: .bool :: ts) cs) : ∃ u r, cs = uC u ++ r ∧ ShL ts r := by
  have hc := h
  clear h
  obtain ⟨d0, cs, rfl, k0, hc1⟩ := shL_cons hc
  obtain ⟨d1, cs, rfl, k1, hc2⟩ := shL_cons hc1
  obtain ⟨d2, cs, rfl, k2, hc3⟩ := shL_cons hc2
  obtain ⟨d3, cs, rfl, k3, hc4⟩ := shL_cons hc3
  obtain ⟨d4, cs, rfl, k4, hc5⟩ := shL_cons hc4
  obtain ⟨d5, cs, rfl, k5, hc6⟩ := shL_cons hc5
  obtain ⟨d6, cs, rfl, k6, hc7⟩ := shL_cons hc6
  obtain ⟨d7, cs, rfl, k7, hc8⟩ := shL_cons hc7
  obtain ⟨d8, cs, rfl, k8, hc9⟩ := shL_cons hc8
  obtain ⟨d9, cs, rfl, k9, hc10⟩ := shL_cons hc9
  obtain ⟨a0, rfl, _⟩ := sh_i64 k0
  obtain ⟨l, rfl, _⟩ := sh_ints k1
  obtain ⟨a2, rfl, _⟩ := sh_i64 k2
  obtain ⟨a3, rfl, _⟩ := sh_i64 k3
  obtain ⟨a4, rfl, _⟩ := sh_i64 k4
  obtain ⟨a5, rfl, _⟩ := sh_i64 k5
  obtain ⟨a6, rfl, _⟩ := sh_i64 k6
  obtain ⟨a7, rfl, _⟩ := sh_i64 k7
  obtain ⟨a8, rfl, _⟩ := sh_i64 k8
  simp only [Sh] at k9
  obtain ⟨b, rfl⟩ := k9
  exact ⟨⟨a0, l, a2, a3, a4, a5, a6, a7, a8, b⟩, cs, rfl, hc10⟩
open Layout in
theorem sh_uses {d : DV} (h : Sh (.sl 10 96 (.agg [.int .i64, .sl 1 8 (.int .i64), .int .i64, .int .i64, .int .i64, .int .i64, .int .i64, .int .i64, .int .i64, .bool])) d) : ∃ us, d = .sl .view 10 (usD us) := by
  obtain ⟨xs, rfl, _, hx⟩ := sh_sl h
  obtain ⟨l, rfl, _⟩ := list_choice (f := fun u => .agg (uC u)) (Q := fun _ => True) (xs := xs) (fun x hx' => by
    obtain ⟨cs, rfl, hc⟩ := sh_agg (hx x hx')
    obtain ⟨u, r, rfl, hr⟩ := shL_use hc
    obtain rfl := shL_nil hr
    exact ⟨u, by rw [List.append_nil], trivial⟩)
  exact ⟨l, rfl⟩
open Layout in
theorem sh_enough {d : DV} (h : Sh (.agg [.sl 3 40 (.agg [.int .i64, .int .i64, .sl 4 32 (.agg [.int .i64, .int .i64, .int .i64, .int .i64])]), .sl 1 8 (.int .i64), .int .i64, .int .i64, .int .i64, .int .i64, .int .i64, .int .i64, .sl 1 8 (.int .i64), .sl 3 56 (.agg [.int .i64, .sl 1 8 (.int .i64), .sl 1 8 (.int .i64)]), .sl 3 56 (.agg [.int .i64, .sl 1 8 (.int .i64), .sl 1 8 (.int .i64)]), .sl 3 56 (.agg [.int .i64, .sl 1 8 (.int .i64), .sl 1 8 (.int .i64)]), .sl 10 96 (.agg [.int .i64, .sl 1 8 (.int .i64), .int .i64, .int .i64, .int .i64, .int .i64, .int .i64, .int .i64, .int .i64, .bool]), .sl 5 40 (.agg [.int .i64, .int .i64, .int .i64, .int .i64, .int .i64]), .int .i64, .int .i64, .sl 1 24 (.sl 1 8 (.int .i64)), .int .i64, .sl 1 8 (.int .i64), .int .i64, .int .i64, .int .i64, .int .i64, .int .i64, .int .i64, .int .i64, .bool, .int .i64]) d) :
    ∃ c e us u s, d = .agg (inC c e us u s) ∧ -9223372036854775808 ≤ s ∧ e.Free ∧ freeL c.xa = true ∧ freeL c.xb = true := by
  have hc := h
  clear h
  obtain ⟨cs, rfl, hc1⟩ := sh_agg hc
  obtain ⟨d0, cs, rfl, k0, hc2⟩ := shL_cons hc1
  obtain ⟨d1, cs, rfl, k1, hc3⟩ := shL_cons hc2
  obtain ⟨d2, cs, rfl, k2, hc4⟩ := shL_cons hc3
  obtain ⟨d3, cs, rfl, k3, hc5⟩ := shL_cons hc4
  obtain ⟨d4, cs, rfl, k4, hc6⟩ := shL_cons hc5
  obtain ⟨d5, cs, rfl, k5, hc7⟩ := shL_cons hc6
  obtain ⟨d6, cs, rfl, k6, hc8⟩ := shL_cons hc7
  obtain ⟨d7, cs, rfl, k7, hc9⟩ := shL_cons hc8
  obtain ⟨d8, cs, rfl, k8, hc10⟩ := shL_cons hc9
  obtain ⟨d9, cs, rfl, k9, hc11⟩ := shL_cons hc10
  obtain ⟨d10, cs, rfl, k10, hc12⟩ := shL_cons hc11
  obtain ⟨d11, cs, rfl, k11, hc13⟩ := shL_cons hc12
  obtain ⟨d12, cs, rfl, k12, hc14⟩ := shL_cons hc13
  obtain ⟨d13, cs, rfl, k13, hc15⟩ := shL_cons hc14
  obtain ⟨d14, cs, rfl, k14, hc16⟩ := shL_cons hc15
  obtain ⟨d15, cs, rfl, k15, hc17⟩ := shL_cons hc16
  obtain ⟨d16, cs, rfl, k16, hc18⟩ := shL_cons hc17
  obtain ⟨u, r, rfl, hc19⟩ := shL_use hc18
  obtain ⟨ds, r, rfl, ks, hc20⟩ := shL_cons hc19
  obtain rfl := shL_nil hc20
  obtain ⟨x0, rfl, f0, _⟩ := sh_sl k0
  obtain ⟨x1, rfl, f1, _⟩ := sh_sl k1
  obtain ⟨a2, rfl, _⟩ := sh_i64 k2
  obtain ⟨a3, rfl, _⟩ := sh_i64 k3
  obtain ⟨a4, rfl, _⟩ := sh_i64 k4
  obtain ⟨a5, rfl, _⟩ := sh_i64 k5
  obtain ⟨a6, rfl, _⟩ := sh_i64 k6
  obtain ⟨a7, rfl, _⟩ := sh_i64 k7
  obtain ⟨x8, rfl, f8, _⟩ := sh_sl k8
  obtain ⟨x9, rfl, f9, _⟩ := sh_sl k9
  obtain ⟨x10, rfl, f10, _⟩ := sh_sl k10
  obtain ⟨x11, rfl, f11, _⟩ := sh_sl k11
  obtain ⟨us, rfl⟩ := sh_uses k12
  obtain ⟨x13, rfl, f13, _⟩ := sh_sl k13
  obtain ⟨a14, rfl, _⟩ := sh_i64 k14
  obtain ⟨a15, rfl, _⟩ := sh_i64 k15
  obtain ⟨x16, rfl, f16, _⟩ := sh_sl k16
  obtain ⟨s, rfl, s1, _⟩ := sh_i64 ks
  exact ⟨⟨x0, x1, a2, a3, a4, a5⟩, ⟨a6, a7, x8, x9, x10, x11, x13, a14, a15, x16, 5⟩, us, u, s, rfl, s1, ⟨f8, f9, f10, f11, f13, f16⟩, f0, f1⟩
end Go.D
