/- WireTurned: for every input the law returns true, and each argument reads behind the call as it read before. -/
import Derived.Test.YtfbpnbomcogkcaaRows
import Derived.Test.YtfbpnbomcogkcaaQqWireOk
import Derived.Test.YtfbpnbomcogkcaaQqInvS
import Derived.Test.YtfbpnbomcogkcaaQqWireL
set_option linter.unusedSimpArgs false
set_option linter.unusedVariables false
namespace Go.Proofs.Ytfbpnbomcogkcaa
open Go.D

theorem Try.own : ownKnob Try.prog.godebug = none := by kernel_rfl
theorem Try.laidOut : laidOutB Try.prog = true := by kernel_rfl

set_option maxHeartbeats 800000 in
set_option maxRecDepth 100000 in
theorem wireTurned_lifted (os : Os) (started : os.Started) (H : Type) (enc : TypeId × Value → H) :
    ReturnsInHanded {} Try.checked os 13 .any (Rows.wireTurnedSpec.pre6 enc Try.prog Try.f13 Rows.wireTurnedRow.domain false) (Rows.wireTurnedSpec.post enc Try.prog Try.f13 false true false false) := by
  refine law_lifted (C := Try.checked) (tys := [.sl 1 1 (.int .u8), .int .u8, .int .u8, .sl 1 1 (.int .u8)]) (fns := Wire.fns) (N := NN) (d := 30) (n := 10) Try.own started (by kernel_rfl) Try.func13
    (ChangeSpec.witness6 (enc := enc) (C := Try.checked) false ⟨#[], #[.slice none 0 0, .int .u8 0, .int .u8 0, .slice none 0 0], []⟩ 8 (by kernel_rfl) (by kernel_rfl) (by kernel_rfl) (by kernel_rfl))
    rfl (fun ds h => ?_) Try.laidOut (by kernel_rfl) (by kernel_rfl) (by kernel_rfl) Wire.fns_ok (fun ds h => ?_)
  · match ds, h with
    | [_, _, _, _], _ => rfl
  · obtain ⟨d1, ds, rfl, h1, h⟩ := shL_cons h
    obtain ⟨d2, ds, rfl, h2, h⟩ := shL_cons h
    obtain ⟨d3, ds, rfl, h3, h⟩ := shL_cons h
    obtain ⟨d4, ds, rfl, h4, h⟩ := shL_cons h
    obtain rfl := shL_nil h
    obtain ⟨r, rfl, n1, hr⟩ := sh_u8s h1
    obtain ⟨x, rfl, x1, x2⟩ := sh_int h2
    obtain ⟨y, rfl, y1, y2⟩ := sh_int h3
    obtain ⟨l, rfl, n2, hl⟩ := sh_u8s h4
    have x3 : x ≤ 255 := by simpa [IntKind.max, IntKind.signed, IntKind.bits] using x2
    have y3 : y ≤ 255 := by simpa [IntKind.max, IntKind.signed, IntKind.bits] using y2
    have x0 : 0 ≤ x := by simpa [IntKind.min, IntKind.signed] using x1
    have y0 : 0 ≤ y := by simpa [IntKind.min, IntKind.signed] using y1
    exact Wire.law_Turned 19 r l x y ⟨x0, by omega⟩ ⟨y0, by omega⟩ (fun x hx => by have := hr x hx; omega) (fun x hx => by have := hl x hx; omega) (by unfold reachBytes at n1; omega) (by unfold reachBytes at n2; omega)

theorem wireTurned_holds : Rows.WireTurnedSaid :=
  OpenClaim.holds_of_wide 13 Try.f13 rfl rfl rfl rfl rfl rfl rfl ⟨rfl, rfl, rfl, rfl, rfl⟩ rfl rfl rfl rfl rfl (by kernel_rfl) Try.func13 (by kernel_rfl)
    (of_decide_eq_true (by kernel_rfl)) (by unfold Func.isWrapper; first | (rw [if_pos (by decide +kernel)]; kernel_rfl) | (rw [if_neg (by decide +kernel)]; exact ⟨rfl, rfl⟩))
    (fun os started H enc _ => wireTurned_lifted os started H enc)

#print axioms wireTurned_holds
end Go.Proofs.Ytfbpnbomcogkcaa
