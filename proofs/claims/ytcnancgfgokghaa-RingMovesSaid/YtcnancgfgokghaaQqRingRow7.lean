/- RingMoves: for every input the law returns true, and each argument reads behind the call as it read before. -/
import Derived.Test.YtcnancgfgokghaaRows
import Derived.Test.YtcnancgfgokghaaQqRingOk
import Derived.Test.YtcnancgfgokghaaQqInvS
import Derived.Test.YtcnancgfgokghaaQqRingB
set_option linter.unusedSimpArgs false
set_option linter.unusedVariables false
namespace Go.Proofs.Ytcnancgfgokghaa
open Go.D

theorem Try.own : ownKnob Try.prog.godebug = none := by kernel_rfl
theorem Try.laidOut : laidOutB Try.prog = true := by kernel_rfl

set_option maxHeartbeats 800000 in
set_option maxRecDepth 100000 in
theorem ringMoves_lifted (os : Os) (started : os.Started) (H : Type) (enc : TypeId × Value → H) :
    ReturnsInHanded {} Try.checked os 7 .any (Rows.ringMovesSpec.pre6 enc Try.prog Try.f7 Rows.ringMovesRow.domain false) (Rows.ringMovesSpec.post enc Try.prog Try.f7 false true false false) := by
  refine law_lifted (C := Try.checked) (tys := [.int .u8, .int .u8, .int .u8, .int .u8, .int .u16, .sl 1 8 (.int .i64)]) (fns := Ring.fns) (N := NN) (d := 30) (n := 10) Try.own started (by kernel_rfl) Try.func7
    (ChangeSpec.witness6 (enc := enc) (C := Try.checked) false ⟨#[], #[.int .u8 0, .int .u8 0, .int .u8 0, .int .u8 0, .int .u16 0, .slice none 0 0], []⟩ 8 (by kernel_rfl) (by kernel_rfl) (by kernel_rfl) (by kernel_rfl))
    rfl (fun ds h => ?_) Try.laidOut (by kernel_rfl) (by kernel_rfl) (by kernel_rfl) Ring.fns_ok (fun ds h => ?_)
  · match ds, h with
    | [_, _, _, _, _, _], _ => rfl
  · obtain ⟨d1, ds, rfl, h1, h⟩ := shL_cons h
    obtain ⟨d2, ds, rfl, h2, h⟩ := shL_cons h
    obtain ⟨d3, ds, rfl, h3, h⟩ := shL_cons h
    obtain ⟨d4, ds, rfl, h4, h⟩ := shL_cons h
    obtain ⟨d5, ds, rfl, h5, h⟩ := shL_cons h
    obtain ⟨d6, ds, rfl, h6, h⟩ := shL_cons h
    obtain rfl := shL_nil h
    obtain ⟨s, rfl, s1, s2⟩ := sh_int h1
    obtain ⟨t, rfl, t1, t2⟩ := sh_int h2
    obtain ⟨a, rfl, a1, a2⟩ := sh_int h3
    obtain ⟨r, rfl, r1, r2⟩ := sh_int h4
    obtain ⟨b, rfl, b1, b2⟩ := sh_int h5
    obtain ⟨l, rfl, n1, -⟩ := sh_ints h6
    exact Ring.law_Moves 19 s t a r b l .view ⟨by simpa [IntKind.max, IntKind.min, IntKind.signed, IntKind.bits] using s1, by simpa [IntKind.max, IntKind.min, IntKind.signed, IntKind.bits] using s2⟩ ⟨by simpa [IntKind.max, IntKind.min, IntKind.signed, IntKind.bits] using t1, by simpa [IntKind.max, IntKind.min, IntKind.signed, IntKind.bits] using t2⟩ ⟨by simpa [IntKind.max, IntKind.min, IntKind.signed, IntKind.bits] using a1, by simpa [IntKind.max, IntKind.min, IntKind.signed, IntKind.bits] using a2⟩ ⟨by simpa [IntKind.max, IntKind.min, IntKind.signed, IntKind.bits] using r1, by simpa [IntKind.max, IntKind.min, IntKind.signed, IntKind.bits] using r2⟩ ⟨by simpa [IntKind.max, IntKind.min, IntKind.signed, IntKind.bits] using b1, by simpa [IntKind.max, IntKind.min, IntKind.signed, IntKind.bits] using b2⟩ (by unfold reachBytes at n1; omega)

theorem ringMoves_holds : Rows.RingMovesSaid :=
  OpenClaim.holds_of_wide 7 Try.f7 rfl rfl rfl rfl rfl rfl rfl ⟨rfl, rfl, rfl, rfl, rfl⟩ rfl rfl rfl rfl rfl (by kernel_rfl) Try.func7 (by kernel_rfl)
    (of_decide_eq_true (by kernel_rfl)) (by unfold Func.isWrapper; first | (rw [if_pos (by decide +kernel)]; kernel_rfl) | (rw [if_neg (by decide +kernel)]; exact ⟨rfl, rfl⟩))
    (fun os started H enc _ => ringMoves_lifted os started H enc)

#print axioms ringMoves_holds
end Go.Proofs.Ytcnancgfgokghaa
