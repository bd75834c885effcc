/- MemAll: for every input the law returns true, and each argument reads behind the call as it read before. -/
import Derived.Test.YtjheedldiikpnaaRows
import Derived.Test.YtjheedldiikpnaaQqMemOk
import Derived.Test.YtjheedldiikpnaaQqInvS
import Derived.Test.YtjheedldiikpnaaQqMemShapes
set_option linter.unusedSimpArgs false
set_option linter.unusedVariables false
namespace Go.Proofs.Ytjheedldiikpnaa
open Go.D

theorem Try.own : ownKnob Try.prog.godebug = none := by kernel_rfl
theorem Try.laidOut : laidOutB Try.prog = true := by kernel_rfl

set_option maxHeartbeats 800000 in
set_option maxRecDepth 100000 in
theorem memAll_lifted (os : Os) (started : os.Started) (H : Type) (enc : TypeId × Value → H) :
    ReturnsInHanded {} Try.checked os 4 .any (Rows.memAllSpec.pre6 enc Try.prog Try.f4 Rows.memAllRow.domain false) (Rows.memAllSpec.post enc Try.prog Try.f4 false true false false) := by
  refine law_lifted (C := Try.checked) (tys := [.agg [.sl 1 8 (.int .i64)], .sl 4 32 (.agg [.int .i64, .int .i64, .int .i64, .int .i64])]) (fns := Mem.fns) (N := NN) (d := 30) (n := 10) Try.own started (by kernel_rfl) Try.func4
    (ChangeSpec.witness6 (enc := enc) (C := Try.checked) false ⟨#[], #[.agg #[.slice none 0 0], .slice none 0 0], []⟩ 8 (by kernel_rfl) (by kernel_rfl) (by kernel_rfl) (by kernel_rfl))
    rfl (fun ds h => ?_) Try.laidOut (by kernel_rfl) (by kernel_rfl) (by kernel_rfl) Mem.fns_ok (fun ds h => ?_)
  · match ds, h with
    | [_, _], _ => rfl
  · obtain ⟨d1, ds, rfl, h1, h⟩ := shL_cons h
    obtain ⟨d2, ds, rfl, h2, h⟩ := shL_cons h
    obtain rfl := shL_nil h
    obtain ⟨m, rfl⟩ := Mem.sh_mem h1
    obtain ⟨al, rfl⟩ := Mem.sh_accs h2
    exact ⟨[], Mem.law_All 19 m al⟩

theorem memAll_holds : Rows.MemAllSaid :=
  OpenClaim.holds_of_wide 4 Try.f4 rfl rfl rfl rfl rfl rfl rfl ⟨rfl, rfl, rfl, rfl, rfl⟩ rfl rfl rfl rfl rfl (by kernel_rfl) Try.func4 (by kernel_rfl)
    (of_decide_eq_true (by kernel_rfl)) (by unfold Func.isWrapper; first | (rw [if_pos (by decide +kernel)]; kernel_rfl) | (rw [if_neg (by decide +kernel)]; exact ⟨rfl, rfl⟩))
    (fun os started H enc _ => memAll_lifted os started H enc)

#print axioms memAll_holds
end Go.Proofs.Ytjheedldiikpnaa
