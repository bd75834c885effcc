/- The parameters' shapes of the laws of 'mem', taken apart. -/
import Derived.Test.YtjheedldiikpnaaQqInvS
import Derived.Test.YtjheedldiikpnaaQqMemH
set_option linter.unusedSimpArgs false
set_option linter.unusedVariables false
namespace Go.D.Mem
open Go.D

theorem sh_mem {d : DV} (h : Sh (.agg [.sl 1 8 (.int .i64)]) d) : ∃ l, d = mD l := by
  obtain ⟨cs, rfl, g⟩ := sh_agg h
  obtain ⟨x, cs, rfl, h1, g⟩ := shL_cons g
  obtain rfl := shL_nil g
  obtain ⟨l, rfl, _⟩ := sh_ints h1
  exact ⟨l, rfl⟩
theorem sh_acc {d : DV} (h : Sh (.agg [.int .i64, .int .i64, .int .i64, .int .i64]) d) : ∃ a : A4, d = aD a := by
  obtain ⟨cs, rfl, g⟩ := sh_agg h
  obtain ⟨x1, cs, rfl, h1, g⟩ := shL_cons g
  obtain ⟨x2, cs, rfl, h2, g⟩ := shL_cons g
  obtain ⟨x3, cs, rfl, h3, g⟩ := shL_cons g
  obtain ⟨x4, cs, rfl, h4, g⟩ := shL_cons g
  obtain rfl := shL_nil g
  obtain ⟨k, rfl, _⟩ := sh_int h1
  obtain ⟨c, rfl, _⟩ := sh_int h2
  obtain ⟨o, rfl, _⟩ := sh_int h3
  obtain ⟨n, rfl, _⟩ := sh_int h4
  exact ⟨(k, c, o, n), rfl⟩
theorem sh_accs {d : DV} (h : Sh (.sl 4 32 (.agg [.int .i64, .int .i64, .int .i64, .int .i64])) d) : ∃ as : List A4, d = .sl .view 4 (accs as) := by
  simp only [Sh] at h
  obtain ⟨xs, rfl, _, hx⟩ := h
  obtain ⟨l, rfl, _⟩ := list_choice (f := accD) (Q := fun _ => True) (xs := xs) (fun x hx' => by
    have := hx x hx'
    have h' : Sh (.agg [.int .i64, .int .i64, .int .i64, .int .i64]) x := by simp only [Sh]; exact this
    obtain ⟨a, rfl⟩ := sh_acc h'
    exact ⟨a, rfl, trivial⟩)
  exact ⟨l, rfl⟩
end Go.D.Mem
