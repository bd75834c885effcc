/- WireTwo: for every input the law returns true, and each argument reads behind the call as it read before. -/
import Derived.Test.YtfbpnbomcogkcaaRows
import Derived.Test.YtfbpnbomcogkcaaQqWireOk
import Derived.Test.YtfbpnbomcogkcaaQqInvS
import Derived.Test.YtfbpnbomcogkcaaQqWireO
set_option linter.unusedSimpArgs false
set_option linter.unusedVariables false
namespace Go.Proofs.Ytfbpnbomcogkcaa
open Go.D

theorem Try.own : ownKnob Try.prog.godebug = none := by kernel_rfl
theorem Try.laidOut : laidOutB Try.prog = true := by kernel_rfl

set_option maxHeartbeats 800000 in
set_option maxRecDepth 100000 in
theorem wireTwo_lifted (os : Os) (started : os.Started) (H : Type) (enc : TypeId × Value → H) :
    ReturnsInHanded {} Try.checked os 10 .any (Rows.wireTwoSpec.pre6 enc Try.prog Try.f10 Rows.wireTwoRow.domain false) (Rows.wireTwoSpec.post enc Try.prog Try.f10 false true false false) := by
  refine law_lifted (C := Try.checked) (tys := [.sl 1 8 (.int .i64), .sl 1 8 (.int .i64)]) (fns := Wire.fns) (N := NN) (d := 30) (n := 10) Try.own started (by kernel_rfl) Try.func10
    (ChangeSpec.witness6 (enc := enc) (C := Try.checked) false ⟨#[], #[.slice none 0 0, .slice none 0 0], []⟩ 8 (by kernel_rfl) (by kernel_rfl) (by kernel_rfl) (by kernel_rfl))
    rfl (fun ds h => ?_) Try.laidOut (by kernel_rfl) (by kernel_rfl) (by kernel_rfl) Wire.fns_ok (fun ds h => ?_)
  · match ds, h with
    | [_, _], _ => rfl
  · obtain ⟨d1, ds, rfl, h1, h⟩ := shL_cons h
    obtain ⟨d2, ds, rfl, h2, h⟩ := shL_cons h
    obtain rfl := shL_nil h
    obtain ⟨r, rfl, n1, hi⟩ := sh_ints h1
    obtain ⟨l, rfl, n2, hj⟩ := sh_ints h2
    exact ⟨[], Wire.law_Two 19 r l .view .view (fun x hx => hi x hx) (fun x hx => hj x hx) (by unfold reachBytes at n1; omega) (by unfold reachBytes at n2; omega)⟩

theorem wireTwo_holds : Rows.WireTwoSaid :=
  OpenClaim.holds_of_wide 10 Try.f10 rfl rfl rfl rfl rfl rfl rfl ⟨rfl, rfl, rfl, rfl, rfl⟩ rfl rfl rfl rfl rfl (by kernel_rfl) Try.func10 (by kernel_rfl)
    (of_decide_eq_true (by kernel_rfl)) (by unfold Func.isWrapper; first | (rw [if_pos (by decide +kernel)]; kernel_rfl) | (rw [if_neg (by decide +kernel)]; exact ⟨rfl, rfl⟩))
    (fun os started H enc _ => wireTwo_lifted os started H enc)

#print axioms wireTwo_holds
end Go.Proofs.Ytfbpnbomcogkcaa
