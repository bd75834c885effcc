/- LayoutApart: for every input the law returns true, and each argument reads behind the call as it read before. -/
import Derived.Test.YtilfhbpehgklbaaRows
import Derived.Test.YtilfhbpehgklbaaQqLayoutOk
import Derived.Test.YtilfhbpehgklbaaQqInvS
import Derived.Test.YtilfhbpehgklbaaQqLayS
import Derived.Test.YtilfhbpehgklbaaQqLayoutK
set_option linter.unusedSimpArgs false
set_option linter.unusedVariables false
namespace Go.Proofs.Ytilfhbpehgklbaa
open Go.D

theorem Try.own : ownKnob Try.prog.godebug = none := by kernel_rfl
theorem Try.laidOut : laidOutB Try.prog = true := by kernel_rfl

set_option maxHeartbeats 800000 in
set_option maxRecDepth 100000 in
theorem layoutApart_lifted (os : Os) (started : os.Started) (H : Type) (enc : TypeId × Value → H) :
    ReturnsInHanded {} Try.checked os 8 .any (Rows.layoutApartSpec.pre6 enc Try.prog Try.f8 Rows.layoutApartRow.domain false) (Rows.layoutApartSpec.post enc Try.prog Try.f8 false true false false) := by
  refine law_lifted (C := Try.checked) (tys := [.agg [.int .i64, .int .i64, .int .i64, .int .i64, .int .i64, .int .i64, .int .i64, .int .i64, .int .i64]]) (fns := Layout.fns) (N := NN) (d := 30) (n := 10) Try.own started (by kernel_rfl) Try.func8
    (ChangeSpec.witness6 (enc := enc) (C := Try.checked) false ⟨#[], #[.agg #[.int .i64 0, .int .i64 0, .int .i64 0, .int .i64 0, .int .i64 0, .int .i64 0, .int .i64 0, .int .i64 0, .int .i64 0]], []⟩ 8 (by kernel_rfl) (by kernel_rfl) (by kernel_rfl) (by kernel_rfl))
    rfl (fun ds h => ?_) Try.laidOut (by kernel_rfl) (by kernel_rfl) (by kernel_rfl) Layout.fns_ok (fun ds h => ?_)
  · match ds, h with
    | [_], _ => rfl
  · obtain ⟨d1, ds, rfl, h1, h⟩ := shL_cons h
    obtain rfl := shL_nil h
    obtain ⟨c, rfl⟩ := sh_cf h1
    exact Layout.law_Apart 19 c

theorem layoutApart_holds : Rows.LayoutApartSaid :=
  OpenClaim.holds_of_wide 8 Try.f8 rfl rfl rfl rfl rfl rfl rfl ⟨rfl, rfl, rfl, rfl, rfl⟩ rfl rfl rfl rfl rfl (by kernel_rfl) Try.func8 (by kernel_rfl)
    (of_decide_eq_true (by kernel_rfl)) (by unfold Func.isWrapper; first | (rw [if_pos (by decide +kernel)]; kernel_rfl) | (rw [if_neg (by decide +kernel)]; exact ⟨rfl, rfl⟩))
    (fun os started H enc _ => layoutApart_lifted os started H enc)

#print axioms layoutApart_holds
end Go.Proofs.Ytilfhbpehgklbaa
