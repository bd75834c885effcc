/- Confs as parameters. -/
import Derived.Test.YtilfhbpehgklbaaQqInvS
import Derived.Test.YtilfhbpehgklbaaQqLD
set_option linter.unusedSimpArgs false
set_option linter.unusedVariables false
namespace Go.D
theorem sh_i64 {d : DV} (h : Sh (.int .i64) d) : ∃ n, d = I n ∧ inI n := by
  obtain ⟨n, rfl, h1, h2⟩ := sh_int h
  exact ⟨n, rfl, by simpa [IntKind.min, IntKind.signed, IntKind.bits] using h1, by simpa [IntKind.max, IntKind.signed, IntKind.bits] using h2⟩
theorem sh_cf {d : DV} (h : Sh (.agg [.int .i64, .int .i64, .int .i64, .int .i64, .int .i64, .int .i64, .int .i64, .int .i64, .int .i64]) d) : ∃ c : Cf, d = .agg (CDc c) := by
  obtain ⟨cs, e0, hc⟩ := sh_agg h
  subst e0
  obtain ⟨d1, cs, rfl, k1, hc⟩ := shL_cons hc
  obtain ⟨d2, cs, rfl, k2, hc⟩ := shL_cons hc
  obtain ⟨d3, cs, rfl, k3, hc⟩ := shL_cons hc
  obtain ⟨d4, cs, rfl, k4, hc⟩ := shL_cons hc
  obtain ⟨d5, cs, rfl, k5, hc⟩ := shL_cons hc
  obtain ⟨d6, cs, rfl, k6, hc⟩ := shL_cons hc
  obtain ⟨d7, cs, rfl, k7, hc⟩ := shL_cons hc
  obtain ⟨d8, cs, rfl, k8, hc⟩ := shL_cons hc
  obtain ⟨d9, cs, rfl, k9, hc⟩ := shL_cons hc
  obtain rfl := shL_nil hc
  obtain ⟨a1, rfl, _⟩ := sh_i64 k1
  obtain ⟨a2, rfl, _⟩ := sh_i64 k2
  obtain ⟨a3, rfl, _⟩ := sh_i64 k3
  obtain ⟨a4, rfl, _⟩ := sh_i64 k4
  obtain ⟨a5, rfl, _⟩ := sh_i64 k5
  obtain ⟨a6, rfl, _⟩ := sh_i64 k6
  obtain ⟨a7, rfl, _⟩ := sh_i64 k7
  obtain ⟨a8, rfl, _⟩ := sh_i64 k8
  obtain ⟨a9, rfl, _⟩ := sh_i64 k9
  exact ⟨⟨a1, a2, a3, a4, a5, a6, a7, a8, a9⟩, rfl⟩
end Go.D
