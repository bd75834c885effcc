/- Which operations have nothing to do with the heap. -/
import Derived.Test.YtilfhbpehgklbaaQqDv
set_option linter.unusedSimpArgs false
set_option linter.unusedVariables false
namespace Go.D

/-- What an operation has to do with the heap: nothing, it reads it, it changes it. -/
def hk : DOp → Nat
  | .hp _ => 2
  | .mkSl .. => 2
  | .stP _ => 2
  | .cpy _ => 2
  | .appH .. => 2
  | .call _ => 2
  | .callV => 2
  | .ldP _ _ true => 2
  | .ldP _ _ false => 1
  | .app .. => 1
  | .cvBS => 1
  | _ => 0

def Res.withH (r : Res DV) (h : Heap) : Res DV :=
  match r with
  | .ok d _ => .ok d h
  | .pan v _ => .pan v h
  | .no => .no

variable {ev : FuncId → List DV → Heap → Res DV}
theorem callQ_withH (f : FuncId) (args : List DV) (h h2 : Heap) : callQ ev f args h2 = (callQ ev f args h).withH h2 := by
  unfold callQ
  split
  · rfl
  · split
    · split <;> rfl
    · split <;> rfl
    · rfl

set_option maxHeartbeats 2000000 in
theorem compute_hk0 {op : DOp} (hk0 : hk op = 0) (old : DV) (xs : List (Bool × DV)) (h h2 : Heap) :
    compute ev op old xs h2 = (compute ev op old xs h).withH h2 := by
  cases op
  case ldP n ag take => cases take <;> simp [hk] at hk0
  case callQ f =>
    show (if _ then _ else _) = (if _ then _ else _ : Res DV).withH h2
    split
    · rfl
    · exact callQ_withH _ _ _ _
  case callVQ =>
    rcases xs with _ | ⟨⟨m0, d0⟩, xs⟩
    · rfl
    · cases d0 with
      | fn f first cap =>
        cases f with
        | func g =>
          show (if _ then _ else _) = (if _ then _ else _ : Res DV).withH h2
          split
          · rfl
          · exact callQ_withH _ _ _ _
        | _ => rfl
      | _ => rfl
  all_goals (try (exfalso; simp [hk] at hk0; done))
  all_goals rcases xs with _ | ⟨⟨m0, d0⟩, xs⟩
  all_goals try (first | rfl | ((delta compute; dsimp only [noBox]; (repeat' split) <;> first | rfl | (simp_all [Res.withH]; done)); done))
  all_goals rcases xs with _ | ⟨⟨m1, d1⟩, xs⟩
  all_goals try rfl
  all_goals try (cases d0 <;> first | rfl | ((delta compute; dsimp only [noBox]; (repeat' split) <;> first | rfl | (simp_all [Res.withH]; done)); done) | (rename_i v; cases v <;> first | rfl | ((delta compute; dsimp only [noBox]; (repeat' split) <;> first | rfl | (simp_all [Res.withH]; done)); done)); done)
  all_goals rcases xs with _ | ⟨⟨m2, d2⟩, xs⟩
  all_goals try rfl
  all_goals try (cases d0 <;> first | rfl | ((delta compute; dsimp only [noBox]; (repeat' split) <;> first | rfl | (simp_all [Res.withH]; done)); done) | (cases d1 <;> first | rfl | ((delta compute; dsimp only [noBox]; (repeat' split) <;> first | rfl | (simp_all [Res.withH]; done)); done) | (rename_i u v; cases u <;> first | rfl | (cases v <;> first | rfl | ((delta compute; dsimp only [noBox]; (repeat' split) <;> first | rfl | (simp_all [Res.withH]; done)); done))) | (rename_i v; cases v <;> first | rfl | ((delta compute; dsimp only [noBox]; (repeat' split) <;> first | rfl | (simp_all [Res.withH]; done)); done))); done)
  all_goals rcases xs with _ | ⟨⟨m3, d3⟩, xs⟩
  all_goals try rfl
  all_goals try (cases d0 <;> first | rfl | ((delta compute; dsimp only [noBox]; (repeat' split) <;> first | rfl | (simp_all [Res.withH]; done)); done) | (rename_i v; cases v <;> first | rfl | ((delta compute; dsimp only [noBox]; (repeat' split) <;> first | rfl | (simp_all [Res.withH]; done)); done)); done)

theorem compute_hk1 {op : DOp} (hk1 : hk op ≤ 1) {old : DV} {xs : List (Bool × DV)} {h h' : Heap} {d : DV} (hc : compute ev op old xs h = .ok d h') : h' = h := by
  by_cases h0 : hk op = 0
  · have := compute_hk0 (ev := ev) h0 old xs h h
    rw [hc] at this
    simp only [Res.withH] at this
    injection this
  · cases op
    case ldP n ag take =>
      cases take with
      | true => simp [hk] at hk1
      | false =>
        rcases xs with _ | ⟨⟨m0, d0⟩, _ | ⟨⟨m1, d1⟩, xs⟩⟩
        · cases hc
        · cases d0 <;> first | (cases hc; done) | (delta compute at hc; dsimp only at hc; (repeat' (split at hc)) <;> simp_all)
        · cases d0 <;> cases hc
    case app sz bytes =>
      rcases xs with _ | ⟨⟨m0, d0⟩, _ | ⟨⟨m1, d1⟩, _ | ⟨⟨m2, d2⟩, xs⟩⟩⟩
      · cases hc
      · cases d0 <;> cases hc
      · cases d0 <;> first | (cases hc; done) | (delta compute at hc; dsimp only at hc; (repeat' (split at hc)) <;> simp_all)
      · cases d0 <;> cases hc
    case cvBS =>
      rcases xs with _ | ⟨⟨m0, d0⟩, _ | ⟨⟨m1, d1⟩, xs⟩⟩
      · cases hc
      · delta compute at hc; dsimp only at hc; (repeat' (split at hc)) <;> simp_all
      · cases hc
    all_goals (exfalso; simp [hk] at hk1 h0; done)
end Go.D
