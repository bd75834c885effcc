/- MemParts: for every input the law returns true, and each argument reads behind the call as it read before. -/
import Derived.Test.YtjheedldiikpnaaRows
import Derived.Test.YtjheedldiikpnaaQqMemOk
import Derived.Test.YtjheedldiikpnaaQqInvS
import Derived.Test.YtjheedldiikpnaaQqMemShapes
import Derived.Test.YtjheedldiikpnaaQqMemJ
set_option linter.unusedSimpArgs false
set_option linter.unusedVariables false
namespace Go.Proofs.Ytjheedldiikpnaa
open Go.D

theorem Try.own : ownKnob Try.prog.godebug = none := by kernel_rfl
theorem Try.laidOut : laidOutB Try.prog = true := by kernel_rfl

set_option maxHeartbeats 800000 in
set_option maxRecDepth 100000 in
theorem memParts_lifted (os : Os) (started : os.Started) (H : Type) (enc : TypeId × Value → H) :
    ReturnsInHanded {} Try.checked os 7 .any (Rows.memPartsSpec.pre6 enc Try.prog Try.f7 Rows.memPartsRow.domain false) (Rows.memPartsSpec.post enc Try.prog Try.f7 false true false false) := by
  refine law_lifted (C := Try.checked) (tys := [.agg [.sl 1 8 (.int .i64)], .sl 4 32 (.agg [.int .i64, .int .i64, .int .i64, .int .i64]), .int .u8]) (fns := Mem.fns) (N := NN) (d := 30) (n := 10) Try.own started (by kernel_rfl) Try.func7
    (ChangeSpec.witness6 (enc := enc) (C := Try.checked) false ⟨#[], #[.agg #[.slice none 0 0], .slice none 0 0, .int .u8 0], []⟩ 8 (by kernel_rfl) (by kernel_rfl) (by kernel_rfl) (by kernel_rfl))
    rfl (fun ds h => ?_) Try.laidOut (by kernel_rfl) (by kernel_rfl) (by kernel_rfl) Mem.fns_ok (fun ds h => ?_)
  · match ds, h with
    | [_, _, _], _ => rfl
  · obtain ⟨d1, ds, rfl, h1, h⟩ := shL_cons h
    obtain ⟨d2, ds, rfl, h2, h⟩ := shL_cons h
    obtain ⟨d3, ds, rfl, h3, h⟩ := shL_cons h
    obtain rfl := shL_nil h
    obtain ⟨m, rfl⟩ := Mem.sh_mem h1
    obtain ⟨al, rfl⟩ := Mem.sh_accs h2
    obtain ⟨t, rfl, t0, t1⟩ := sh_int h3
    exact ⟨[], Mem.law_Parts 19 m al t (by simpa [IntKind.min, IntKind.signed] using t0) (by simpa [IntKind.max, IntKind.signed, IntKind.bits] using t1)⟩

theorem memParts_holds : Rows.MemPartsSaid :=
  OpenClaim.holds_of_wide 7 Try.f7 rfl rfl rfl rfl rfl rfl rfl ⟨rfl, rfl, rfl, rfl, rfl⟩ rfl rfl rfl rfl rfl (by kernel_rfl) Try.func7 (by kernel_rfl)
    (of_decide_eq_true (by kernel_rfl)) (by unfold Func.isWrapper; first | (rw [if_pos (by decide +kernel)]; kernel_rfl) | (rw [if_neg (by decide +kernel)]; exact ⟨rfl, rfl⟩))
    (fun os started H enc _ => memParts_lifted os started H enc)

#print axioms memParts_holds
end Go.Proofs.Ytjheedldiikpnaa
