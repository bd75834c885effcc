/- Shapes of parameters, taken apart. -/
import Derived.Test.YtilfhbpehgklbaaQqGlue
import Derived.Test.YtilfhbpehgklbaaQqSym
set_option linter.unusedSimpArgs false
set_option linter.unusedVariables false
namespace Go.D

theorem list_choice {α : Type} {f : α → DV} {Q : α → Prop} : ∀ {xs : List DV}, (∀ x ∈ xs, ∃ a, x = f a ∧ Q a) → ∃ l : List α, xs = l.map f ∧ ∀ a ∈ l, Q a
  | [], _ => ⟨[], rfl, by simp⟩
  | x :: xs, h => by
    obtain ⟨a, rfl, ha⟩ := h x (by simp)
    obtain ⟨l, rfl, hl⟩ := list_choice (xs := xs) fun y hy => h y (by simp [hy])
    exact ⟨a :: l, rfl, fun b hb => (List.mem_cons.1 hb).elim (fun e => e ▸ ha) (hl b)⟩

theorem sh_int {k : IntKind} {d : DV} (h : Sh (.int k) d) : ∃ n, d = .sc (.int k n) ∧ k.min ≤ n ∧ n ≤ k.max := by simpa only [Sh] using h
theorem sh_ints {bs : Nat} {d : DV} (h : Sh (.sl 1 bs (.int .i64)) d) : ∃ l : List Int, d = .sl .view 1 (ints l) ∧ l.length * bs ≤ reachBytes ∧ ∀ x ∈ l, -9223372036854775808 ≤ x ∧ x ≤ 9223372036854775807 := by
  simp only [Sh] at h
  obtain ⟨xs, rfl, hb, hx⟩ := h
  obtain ⟨l, rfl, hl⟩ := list_choice (f := fun n => .sc (.int .i64 n)) (Q := fun n => IntKind.i64.min ≤ n ∧ n ≤ IntKind.i64.max) hx
  exact ⟨l, rfl, by simpa using hb, fun x hx => by simpa [IntKind.min, IntKind.max, IntKind.signed, IntKind.bits] using hl x hx⟩
theorem sh_u8s {bs : Nat} {d : DV} (h : Sh (.sl 1 bs (.int .u8)) d) : ∃ l : List Int, d = .sl .view 1 (u8s l) ∧ l.length * bs ≤ reachBytes ∧ ∀ x ∈ l, 0 ≤ x ∧ x ≤ 255 := by
  simp only [Sh] at h
  obtain ⟨xs, rfl, hb, hx⟩ := h
  obtain ⟨l, rfl, hl⟩ := list_choice (f := fun n => .sc (.int .u8 n)) (Q := fun n => IntKind.u8.min ≤ n ∧ n ≤ IntKind.u8.max) hx
  exact ⟨l, rfl, by simpa using hb, fun x hx => by simpa [IntKind.min, IntKind.max, IntKind.signed, IntKind.bits] using hl x hx⟩
theorem shL_cons {t : Ty} {ts : List Ty} {cs : List DV} (h : ShL (t :: ts) cs) : ∃ d ds, cs = d :: ds ∧ Sh t d ∧ ShL ts ds := by simpa only [ShL] using h
theorem shL_nil {cs : List DV} (h : ShL [] cs) : cs = [] := by simpa only [ShL] using h
theorem sh_agg {fs : List Ty} {d : DV} (h : Sh (.agg fs) d) : ∃ cs, d = .agg cs ∧ ShL fs cs := by simpa only [Sh] using h
end Go.D
