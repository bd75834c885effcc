/- LayoutRings: for every input the law returns true, and each argument reads behind the call as it read before. -/
import Derived.Test.YtilfhbpehgklbaaRows
import Derived.Test.YtilfhbpehgklbaaQqLayoutOk
import Derived.Test.YtilfhbpehgklbaaQqInvS
import Derived.Test.YtilfhbpehgklbaaQqLayS
import Derived.Test.YtilfhbpehgklbaaQqLayoutB
set_option linter.unusedSimpArgs false
set_option linter.unusedVariables false
namespace Go.Proofs.Ytilfhbpehgklbaa
open Go.D

theorem Try.own : ownKnob Try.prog.godebug = none := by kernel_rfl
theorem Try.laidOut : laidOutB Try.prog = true := by kernel_rfl

set_option maxHeartbeats 800000 in
set_option maxRecDepth 100000 in
theorem layoutRings_lifted (os : Os) (started : os.Started) (H : Type) (enc : TypeId × Value → H) :
    ReturnsInHanded {} Try.checked os 6 .any (Rows.layoutRingsSpec.pre6 enc Try.prog Try.f6 Rows.layoutRingsRow.domain false) (Rows.layoutRingsSpec.post enc Try.prog Try.f6 false true false false) := by
  refine law_lifted (C := Try.checked) (tys := [.agg [.int .i64, .int .i64, .int .i64, .int .i64, .int .i64, .int .i64, .int .i64, .int .i64, .int .i64], .int .u8]) (fns := Layout.fns) (N := NN) (d := 30) (n := 10) Try.own started (by kernel_rfl) Try.func6
    (ChangeSpec.witness6 (enc := enc) (C := Try.checked) false ⟨#[], #[.agg #[.int .i64 0, .int .i64 0, .int .i64 0, .int .i64 0, .int .i64 0, .int .i64 0, .int .i64 0, .int .i64 0, .int .i64 0], .int .u8 0], []⟩ 8 (by kernel_rfl) (by kernel_rfl) (by kernel_rfl) (by kernel_rfl))
    rfl (fun ds h => ?_) Try.laidOut (by kernel_rfl) (by kernel_rfl) (by kernel_rfl) Layout.fns_ok (fun ds h => ?_)
  · match ds, h with
    | [_, _], _ => rfl
  · obtain ⟨d1, ds, rfl, h1, h⟩ := shL_cons h
    obtain ⟨d2, ds, rfl, h2, h⟩ := shL_cons h
    obtain rfl := shL_nil h
    obtain ⟨c, rfl⟩ := sh_cf h1
    obtain ⟨t, rfl, t1, t2⟩ := sh_int h2
    exact ⟨[], Layout.law_LRings 19 c t ⟨by simpa [IntKind.max, IntKind.min, IntKind.signed, IntKind.bits] using t1, by simpa [IntKind.max, IntKind.min, IntKind.signed, IntKind.bits] using t2⟩⟩

theorem layoutRings_holds : Rows.LayoutRingsSaid :=
  OpenClaim.holds_of_wide 6 Try.f6 rfl rfl rfl rfl rfl rfl rfl ⟨rfl, rfl, rfl, rfl, rfl⟩ rfl rfl rfl rfl rfl (by kernel_rfl) Try.func6 (by kernel_rfl)
    (of_decide_eq_true (by kernel_rfl)) (by unfold Func.isWrapper; first | (rw [if_pos (by decide +kernel)]; kernel_rfl) | (rw [if_neg (by decide +kernel)]; exact ⟨rfl, rfl⟩))
    (fun os started H enc _ => layoutRings_lifted os started H enc)

#print axioms layoutRings_holds
end Go.Proofs.Ytilfhbpehgklbaa
