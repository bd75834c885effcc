/- LayoutEnough: for every input the law returns true, and each argument reads behind the call as it read before. -/
import Derived.Test.YtilfhbpehgklbaaRows
import Derived.Test.YtilfhbpehgklbaaQqLayoutOk
import Derived.Test.YtilfhbpehgklbaaQqInvS
import Derived.Test.YtilfhbpehgklbaaQqLayT
set_option linter.unusedSimpArgs false
set_option linter.unusedVariables false
namespace Go.Proofs.Ytilfhbpehgklbaa
open Go.D

theorem Try.own : ownKnob Try.prog.godebug = none := by kernel_rfl
theorem Try.laidOut : laidOutB Try.prog = true := by kernel_rfl

set_option maxHeartbeats 800000 in
set_option maxRecDepth 100000 in
theorem layoutEnough_lifted (os : Os) (started : os.Started) (H : Type) (enc : TypeId × Value → H) :
    ReturnsInHanded {} Try.checked os 4 .any (Rows.layoutEnoughSpec.pre6 enc Try.prog Try.f4 Rows.layoutEnoughRow.domain false) (Rows.layoutEnoughSpec.post enc Try.prog Try.f4 false true false false) := by
  refine law_lifted (C := Try.checked) (tys := [.agg [.sl 3 40 (.agg [.int .i64, .int .i64, .sl 4 32 (.agg [.int .i64, .int .i64, .int .i64, .int .i64])]), .sl 1 8 (.int .i64), .int .i64, .int .i64, .int .i64, .int .i64, .int .i64, .int .i64, .sl 1 8 (.int .i64), .sl 3 56 (.agg [.int .i64, .sl 1 8 (.int .i64), .sl 1 8 (.int .i64)]), .sl 3 56 (.agg [.int .i64, .sl 1 8 (.int .i64), .sl 1 8 (.int .i64)]), .sl 3 56 (.agg [.int .i64, .sl 1 8 (.int .i64), .sl 1 8 (.int .i64)]), .sl 10 96 (.agg [.int .i64, .sl 1 8 (.int .i64), .int .i64, .int .i64, .int .i64, .int .i64, .int .i64, .int .i64, .int .i64, .bool]), .sl 5 40 (.agg [.int .i64, .int .i64, .int .i64, .int .i64, .int .i64]), .int .i64, .int .i64, .sl 1 24 (.sl 1 8 (.int .i64)), .int .i64, .sl 1 8 (.int .i64), .int .i64, .int .i64, .int .i64, .int .i64, .int .i64, .int .i64, .int .i64, .bool, .int .i64]]) (fns := Layout.fns) (N := NN) (d := 30) (n := 10) Try.own started (by kernel_rfl) Try.func4
    (ChangeSpec.witness6 (enc := enc) (C := Try.checked) false ⟨#[], #[.agg #[.slice none 0 0, .slice none 0 0, .int .i64 0, .int .i64 0, .int .i64 0, .int .i64 0, .int .i64 0, .int .i64 0, .slice none 0 0, .slice none 0 0, .slice none 0 0, .slice none 0 0, .slice none 0 0, .slice none 0 0, .int .i64 0, .int .i64 0, .slice none 0 0, .int .i64 0, .slice none 0 0, .int .i64 0, .int .i64 0, .int .i64 0, .int .i64 0, .int .i64 0, .int .i64 0, .int .i64 0, .bool false, .int .i64 0]], []⟩ 8 (by kernel_rfl) (by kernel_rfl) (by kernel_rfl) (by kernel_rfl))
    rfl (fun ds h => ?_) Try.laidOut (by kernel_rfl) (by kernel_rfl) (by kernel_rfl) Layout.fns_ok (fun ds h => ?_)
  · match ds, h with
    | [_], _ => rfl
  · obtain ⟨d1, ds, rfl, h1, h⟩ := shL_cons h
    obtain rfl := shL_nil h
    obtain ⟨c, e, us, u, s, rfl, s1, hf, f1, f2⟩ := sh_enough h1
    exact ⟨[], Layout.law_Enough 19 c e us u s s1 hf f1 f2⟩

theorem layoutEnough_holds : Rows.LayoutEnoughSaid :=
  OpenClaim.holds_of_wide 4 Try.f4 rfl rfl rfl rfl rfl rfl rfl ⟨rfl, rfl, rfl, rfl, rfl⟩ rfl rfl rfl rfl rfl (by kernel_rfl) Try.func4 (by kernel_rfl)
    (of_decide_eq_true (by kernel_rfl)) (by unfold Func.isWrapper; first | (rw [if_pos (by decide +kernel)]; kernel_rfl) | (rw [if_neg (by decide +kernel)]; exact ⟨rfl, rfl⟩))
    (fun os started H enc _ => layoutEnough_lifted os started H enc)

#print axioms layoutEnough_holds
end Go.Proofs.Ytilfhbpehgklbaa
