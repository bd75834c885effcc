/- RingEnough: for every input the law returns true, and each argument reads behind the call as it read before. -/
import Derived.Test.YtcnancgfgokghaaRows
import Derived.Test.YtcnancgfgokghaaQqRingOk
import Derived.Test.YtcnancgfgokghaaQqInvS
import Derived.Test.YtcnancgfgokghaaQqRingA
set_option linter.unusedSimpArgs false
set_option linter.unusedVariables false
namespace Go.Proofs.Ytcnancgfgokghaa
open Go.D

theorem Try.own : ownKnob Try.prog.godebug = none := by kernel_rfl
theorem Try.laidOut : laidOutB Try.prog = true := by kernel_rfl

set_option maxHeartbeats 800000 in
set_option maxRecDepth 100000 in
theorem ringEnough_lifted (os : Os) (started : os.Started) (H : Type) (enc : TypeId × Value → H) :
    ReturnsInHanded {} Try.checked os 6 .any (Rows.ringEnoughSpec.pre6 enc Try.prog Try.f6 Rows.ringEnoughRow.domain false) (Rows.ringEnoughSpec.post enc Try.prog Try.f6 false true false false) := by
  refine law_lifted (C := Try.checked) (tys := [.int .u8, .int .u8]) (fns := Ring.fns) (N := NN) (d := 30) (n := 10) Try.own started (by kernel_rfl) Try.func6
    (ChangeSpec.witness6 (enc := enc) (C := Try.checked) false ⟨#[], #[.int .u8 0, .int .u8 0], []⟩ 8 (by kernel_rfl) (by kernel_rfl) (by kernel_rfl) (by kernel_rfl))
    rfl (fun ds h => ?_) Try.laidOut (by kernel_rfl) (by kernel_rfl) (by kernel_rfl) Ring.fns_ok (fun ds h => ?_)
  · match ds, h with
    | [_, _], _ => rfl
  · obtain ⟨d1, ds, rfl, h1, h⟩ := shL_cons h
    obtain ⟨d2, ds, rfl, h2, h⟩ := shL_cons h
    obtain rfl := shL_nil h
    obtain ⟨s, rfl, s1, s2⟩ := sh_int h1
    obtain ⟨t, rfl, t1, t2⟩ := sh_int h2
    exact ⟨[], Ring.law_Enough 19 s t ⟨by simpa [IntKind.max, IntKind.min, IntKind.signed, IntKind.bits] using s1, by simpa [IntKind.max, IntKind.min, IntKind.signed, IntKind.bits] using s2⟩ ⟨by simpa [IntKind.max, IntKind.min, IntKind.signed, IntKind.bits] using t1, by simpa [IntKind.max, IntKind.min, IntKind.signed, IntKind.bits] using t2⟩⟩

theorem ringEnough_holds : Rows.RingEnoughSaid :=
  OpenClaim.holds_of_wide 6 Try.f6 rfl rfl rfl rfl rfl rfl rfl ⟨rfl, rfl, rfl, rfl, rfl⟩ rfl rfl rfl rfl rfl (by kernel_rfl) Try.func6 (by kernel_rfl)
    (of_decide_eq_true (by kernel_rfl)) (by unfold Func.isWrapper; first | (rw [if_pos (by decide +kernel)]; kernel_rfl) | (rw [if_neg (by decide +kernel)]; exact ⟨rfl, rfl⟩))
    (fun os started H enc _ => ringEnough_lifted os started H enc)

#print axioms ringEnough_holds
end Go.Proofs.Ytcnancgfgokghaa
