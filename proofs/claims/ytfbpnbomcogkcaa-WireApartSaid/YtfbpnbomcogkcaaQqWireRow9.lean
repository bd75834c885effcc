/- WireApart: for every input the law returns true, and each argument reads behind the call as it read before. -/
import Derived.Test.YtfbpnbomcogkcaaRows
import Derived.Test.YtfbpnbomcogkcaaQqWireOk
import Derived.Test.YtfbpnbomcogkcaaQqInvS
import Derived.Test.YtfbpnbomcogkcaaQqWireC
set_option linter.unusedSimpArgs false
set_option linter.unusedVariables false
namespace Go.Proofs.Ytfbpnbomcogkcaa
open Go.D

theorem Try.own : ownKnob Try.prog.godebug = none := by kernel_rfl
theorem Try.laidOut : laidOutB Try.prog = true := by kernel_rfl

set_option maxHeartbeats 800000 in
set_option maxRecDepth 100000 in
theorem wireApart_lifted (os : Os) (started : os.Started) (H : Type) (enc : TypeId × Value → H) :
    ReturnsInHanded {} Try.checked os 9 .any (Rows.wireApartSpec.pre6 enc Try.prog Try.f9 Rows.wireApartRow.domain false) (Rows.wireApartSpec.post enc Try.prog Try.f9 false true false false) := by
  refine law_lifted (C := Try.checked) (tys := [.int .i64, .int .i64]) (fns := Wire.fns) (N := NN) (d := 30) (n := 10) Try.own started (by kernel_rfl) Try.func9
    (ChangeSpec.witness6 (enc := enc) (C := Try.checked) false ⟨#[], #[.int .i64 0, .int .i64 0], []⟩ 8 (by kernel_rfl) (by kernel_rfl) (by kernel_rfl) (by kernel_rfl))
    rfl (fun ds h => ?_) Try.laidOut (by kernel_rfl) (by kernel_rfl) (by kernel_rfl) Wire.fns_ok (fun ds h => ?_)
  · match ds, h with
    | [_, _], _ => rfl
  · obtain ⟨d1, ds, rfl, h1, h⟩ := shL_cons h
    obtain ⟨d2, ds, rfl, h2, h⟩ := shL_cons h
    obtain rfl := shL_nil h
    obtain ⟨m, rfl, b1, b2⟩ := sh_int h1
    obtain ⟨n, rfl, c1, c2⟩ := sh_int h2
    exact ⟨[], Wire.law_Apart 19 m n ⟨by simpa [IntKind.min, IntKind.signed, IntKind.bits] using b1, by simpa [IntKind.max, IntKind.signed, IntKind.bits] using b2⟩ ⟨by simpa [IntKind.min, IntKind.signed, IntKind.bits] using c1, by simpa [IntKind.max, IntKind.signed, IntKind.bits] using c2⟩⟩

theorem wireApart_holds : Rows.WireApartSaid :=
  OpenClaim.holds_of_wide 9 Try.f9 rfl rfl rfl rfl rfl rfl rfl ⟨rfl, rfl, rfl, rfl, rfl⟩ rfl rfl rfl rfl rfl (by kernel_rfl) Try.func9 (by kernel_rfl)
    (of_decide_eq_true (by kernel_rfl)) (by unfold Func.isWrapper; first | (rw [if_pos (by decide +kernel)]; kernel_rfl) | (rw [if_neg (by decide +kernel)]; exact ⟨rfl, rfl⟩))
    (fun os started H enc _ => wireApart_lifted os started H enc)

#print axioms wireApart_holds
end Go.Proofs.Ytfbpnbomcogkcaa
