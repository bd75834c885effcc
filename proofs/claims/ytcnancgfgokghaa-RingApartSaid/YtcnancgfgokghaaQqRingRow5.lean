/- RingApart: for every input the law returns true, and each argument reads behind the call as it read before. -/
import Derived.Test.YtcnancgfgokghaaRows
import Derived.Test.YtcnancgfgokghaaQqRingOk
import Derived.Test.YtcnancgfgokghaaQqInvS
import Derived.Test.YtcnancgfgokghaaQqRingA
set_option linter.unusedSimpArgs false
set_option linter.unusedVariables false
namespace Go.Proofs.Ytcnancgfgokghaa
open Go.D

theorem Try.own : ownKnob Try.prog.godebug = none := by kernel_rfl
theorem Try.laidOut : laidOutB Try.prog = true := by kernel_rfl

set_option maxHeartbeats 800000 in
set_option maxRecDepth 100000 in
theorem ringApart_lifted (os : Os) (started : os.Started) (H : Type) (enc : TypeId × Value → H) :
    ReturnsInHanded {} Try.checked os 5 .any (Rows.ringApartSpec.pre6 enc Try.prog Try.f5 Rows.ringApartRow.domain false) (Rows.ringApartSpec.post enc Try.prog Try.f5 false true false false) := by
  refine law_lifted (C := Try.checked) (tys := [.int .u8, .int .u8, .agg [.int .u8, .int .u8], .agg [.int .u8, .int .u8], .int .u16, .int .u16]) (fns := Ring.fns) (N := NN) (d := 30) (n := 10) Try.own started (by kernel_rfl) Try.func5
    (ChangeSpec.witness6 (enc := enc) (C := Try.checked) false ⟨#[], #[.int .u8 0, .int .u8 0, .agg #[.int .u8 0, .int .u8 0], .agg #[.int .u8 0, .int .u8 0], .int .u16 0, .int .u16 0], []⟩ 8 (by kernel_rfl) (by kernel_rfl) (by kernel_rfl) (by kernel_rfl))
    rfl (fun ds h => ?_) Try.laidOut (by kernel_rfl) (by kernel_rfl) (by kernel_rfl) Ring.fns_ok (fun ds h => ?_)
  · match ds, h with
    | [_, _, _, _, _, _], _ => rfl
  · obtain ⟨d1, ds, rfl, h1, h⟩ := shL_cons h
    obtain ⟨d2, ds, rfl, h2, h⟩ := shL_cons h
    obtain ⟨d3, ds, rfl, h3, h⟩ := shL_cons h
    obtain ⟨d4, ds, rfl, h4, h⟩ := shL_cons h
    obtain ⟨d5, ds, rfl, h5, h⟩ := shL_cons h
    obtain ⟨d6, ds, rfl, h6, h⟩ := shL_cons h
    obtain rfl := shL_nil h
    obtain ⟨s, rfl, s1, s2⟩ := sh_int h1
    obtain ⟨t, rfl, t1, t2⟩ := sh_int h2
    obtain ⟨cs, rfl, hc⟩ := sh_agg h3
    obtain ⟨x1, cs, rfl, k1, hc⟩ := shL_cons hc
    obtain ⟨x2, cs, rfl, k2, hc⟩ := shL_cons hc
    obtain rfl := shL_nil hc
    obtain ⟨a, rfl, a1, a2⟩ := sh_int k1
    obtain ⟨a', rfl, a3, a4⟩ := sh_int k2
    obtain ⟨cs, rfl, hc⟩ := sh_agg h4
    obtain ⟨x1, cs, rfl, k1, hc⟩ := shL_cons hc
    obtain ⟨x2, cs, rfl, k2, hc⟩ := shL_cons hc
    obtain rfl := shL_nil hc
    obtain ⟨r, rfl, r1, r2⟩ := sh_int k1
    obtain ⟨r', rfl, r3, r4⟩ := sh_int k2
    obtain ⟨b, rfl, b1, b2⟩ := sh_int h5
    obtain ⟨e, rfl, e1, e2⟩ := sh_int h6
    exact ⟨[], Ring.law_Apart 19 s t a a' r r' b e ⟨by simpa [IntKind.max, IntKind.min, IntKind.signed, IntKind.bits] using s1, by simpa [IntKind.max, IntKind.min, IntKind.signed, IntKind.bits] using s2⟩ ⟨by simpa [IntKind.max, IntKind.min, IntKind.signed, IntKind.bits] using t1, by simpa [IntKind.max, IntKind.min, IntKind.signed, IntKind.bits] using t2⟩ ⟨by simpa [IntKind.max, IntKind.min, IntKind.signed, IntKind.bits] using a1, by simpa [IntKind.max, IntKind.min, IntKind.signed, IntKind.bits] using a2⟩ ⟨by simpa [IntKind.max, IntKind.min, IntKind.signed, IntKind.bits] using a3, by simpa [IntKind.max, IntKind.min, IntKind.signed, IntKind.bits] using a4⟩ ⟨by simpa [IntKind.max, IntKind.min, IntKind.signed, IntKind.bits] using r1, by simpa [IntKind.max, IntKind.min, IntKind.signed, IntKind.bits] using r2⟩ ⟨by simpa [IntKind.max, IntKind.min, IntKind.signed, IntKind.bits] using r3, by simpa [IntKind.max, IntKind.min, IntKind.signed, IntKind.bits] using r4⟩ ⟨by simpa [IntKind.max, IntKind.min, IntKind.signed, IntKind.bits] using b1, by simpa [IntKind.max, IntKind.min, IntKind.signed, IntKind.bits] using b2⟩ ⟨by simpa [IntKind.max, IntKind.min, IntKind.signed, IntKind.bits] using e1, by simpa [IntKind.max, IntKind.min, IntKind.signed, IntKind.bits] using e2⟩⟩

theorem ringApart_holds : Rows.RingApartSaid :=
  OpenClaim.holds_of_wide 5 Try.f5 rfl rfl rfl rfl rfl rfl rfl ⟨rfl, rfl, rfl, rfl, rfl⟩ rfl rfl rfl rfl rfl (by kernel_rfl) Try.func5 (by kernel_rfl)
    (of_decide_eq_true (by kernel_rfl)) (by unfold Func.isWrapper; first | (rw [if_pos (by decide +kernel)]; kernel_rfl) | (rw [if_neg (by decide +kernel)]; exact ⟨rfl, rfl⟩))
    (fun os started H enc _ => ringApart_lifted os started H enc)

#print axioms ringApart_holds
end Go.Proofs.Ytcnancgfgokghaa
