/- The law LayoutApart, in the evaluator. -/
import Derived.Test.YtilfhbpehgklbaaQqLayoutH
set_option linter.unusedSimpArgs false
set_option linter.unusedVariables false
namespace Go.D.Layout
open Go.D
set_option maxRecDepth 100000
set_option maxHeartbeats 2000000
variable {d : Nat} {h : Heap}

theorem S2_14 (T : Nat → Nat → Nat → Nat) : S2 (fun a b => sumR (T a b) 14) = S2 (fun a b => T a b 0) + S2 (fun a b => T a b 1) + S2 (fun a b => T a b 2) + S2 (fun a b => T a b 3) + S2 (fun a b => T a b 4) + S2 (fun a b => T a b 5) + S2 (fun a b => T a b 6) + S2 (fun a b => T a b 7) + S2 (fun a b => T a b 8) + S2 (fun a b => T a b 9) + S2 (fun a b => T a b 10) + S2 (fun a b => T a b 11) + S2 (fun a b => T a b 12) + S2 (fun a b => T a b 13) := by
  have e : (fun a b => sumR (T a b) 14) = fun a b => T a b 0 + T a b 1 + T a b 2 + T a b 3 + T a b 4 + T a b 5 + T a b 6 + T a b 7 + T a b 8 + T a b 9 + T a b 10 + T a b 11 + T a b 12 + T a b 13 := by
    funext a b
    simp only [sumR, Nat.zero_add]
  rw [e]
  rw [S2_add, S2_add, S2_add, S2_add, S2_add, S2_add, S2_add, S2_add, S2_add, S2_add, S2_add, S2_add, S2_add]

section
variable {c : Cf} {x : Nat}
theorem s_78 (ok : OkC c) (hb : c.buckets ≤ 8) (h0 : 0 ≤ (layF c).map) : S2 (fun a b => cK (plsF c (layF c) a b) b 7 x) + S2 (fun a b => cK (plsF c (layF c) a b) b 8 x) = if (layF c).map ≤ (x : Int) ∧ (x : Int) < (layF c).stack then 1 else 0 := by
  have hst : (layF c).stack = (layF c).map + c.maps * (2 + c.buckets) := rfl
  have hm := ok.maps
  have h4 : c.buckets = 1 ∨ c.buckets = 2 ∨ c.buckets = 4 ∨ c.buckets = 8 := by have := ok.two; unfold Two6 at this; omega
  rcases h4 with e | e | e | e
  · rw [s_7_3 h0 hm e, s_8_3 h0 hm e, hst, e]; split <;> split <;> split <;> omega
  · rw [s_7_4 h0 hm e, s_8_4 h0 hm e, hst, e]; split <;> split <;> split <;> omega
  · rw [s_7_6 h0 hm e, s_8_6 h0 hm e, hst, e]; split <;> split <;> split <;> omega
  · rw [s_7_10 h0 hm e, s_8_10 h0 hm e, hst, e]; split <;> split <;> split <;> omega
theorem s_910 (ok : OkC c) (h0 : 0 ≤ (layF c).stack) : S2 (fun a b => cK (plsF c (layF c) a b) b 9 x) + S2 (fun a b => cK (plsF c (layF c) a b) b 10 x) = if (layF c).stack ≤ (x : Int) ∧ (x : Int) < (layF c).chan then 1 else 0 := by
  have hst : (layF c).chan = (layF c).stack + c.stacks * (1 + c.slots) := rfl
  have hm := ok.stacks
  have h8 : c.slots = 1 ∨ c.slots = 2 ∨ c.slots = 3 ∨ c.slots = 4 ∨ c.slots = 5 ∨ c.slots = 6 ∨ c.slots = 7 ∨ c.slots = 8 := by have := ok.slots; omega
  rcases h8 with e | e | e | e | e | e | e | e
  · rw [s_9_2 h0 hm e, s_10_2 h0 hm e, hst, e]; split <;> split <;> split <;> omega
  · rw [s_9_3 h0 hm e, s_10_3 h0 hm e, hst, e]; split <;> split <;> split <;> omega
  · rw [s_9_4 h0 hm e, s_10_4 h0 hm e, hst, e]; split <;> split <;> split <;> omega
  · rw [s_9_5 h0 hm e, s_10_5 h0 hm e, hst, e]; split <;> split <;> split <;> omega
  · rw [s_9_6 h0 hm e, s_10_6 h0 hm e, hst, e]; split <;> split <;> split <;> omega
  · rw [s_9_7 h0 hm e, s_10_7 h0 hm e, hst, e]; split <;> split <;> split <;> omega
  · rw [s_9_8 h0 hm e, s_10_8 h0 hm e, hst, e]; split <;> split <;> split <;> omega
  · rw [s_9_9 h0 hm e, s_10_9 h0 hm e, hst, e]; split <;> split <;> split <;> omega
theorem s_1112 (ok : OkC c) (h0 : 0 ≤ (layF c).chan) : S2 (fun a b => cK (plsF c (layF c) a b) b 11 x) + S2 (fun a b => cK (plsF c (layF c) a b) b 12 x) = if (layF c).chan ≤ (x : Int) ∧ (x : Int) < (layF c).node then 1 else 0 := by
  have hst : (layF c).node = (layF c).chan + 2 * c.chans := rfl
  rw [s_11 h0 ok.chans, s_12 h0 ok.chans, hst]; split <;> split <;> split <;> omega
theorem s_44 (ok : OkC c) (hs : c.seats ≤ 2) (ht : c.tasks ≤ 9) (h0 : 0 ≤ (layF c).ring) : S2 (fun a b => cK (plsF c (layF c) a b) b 4 x) = if (layF c).ring ≤ (x : Int) ∧ (x : Int) < (layF c).task then 1 else 0 := by
  have hst : (layF c).task = (layF c).ring + c.seats * (4 * (pwF c.tasks - 1)) := rfl
  have hs0 := ok.seats
  by_cases h4 : c.tasks ≤ 4
  · have hp : pwF c.tasks = 2 := by unfold pwF; rw [if_pos h4]
    rw [s_4_1 h0 (by omega) h4, hst, hp]; split <;> split <;> omega
  · by_cases h8 : c.tasks ≤ 8
    · have hp : pwF c.tasks = 4 := by unfold pwF; rw [if_neg h4, if_pos h8]
      rw [s_4_2 h0 (by omega) h4 h8, hst, hp]; split <;> split <;> omega
    · have hp : pwF c.tasks = 8 := by unfold pwF; rw [if_neg h4, if_neg h8, if_pos (by omega)]
      rw [s_4_3 h0 (by omega) h8 ht, hst, hp]; split <;> split <;> omega

/-- Each cell is a place of just one thing. -/
theorem all_one (ok : OkC c) (hs : c.seats ≤ 2) (ht : c.tasks ≤ 9) (hb : c.buckets ≤ 8) (hn : c.nodes ≤ 20) (hx : (x : Int) < (layF c).size) :
    (if x < 4 then 1 else 0) + sumR (fun a : Nat => sumR (fun b : Nat => sumR (cK (plsF c (layF c) a b) b · x) 14) 16) 64 = 1 := by
  have lb := ok_lb ok
  have hs0 := ok.seats
  have e : sumR (fun a : Nat => sumR (fun b : Nat => sumR (cK (plsF c (layF c) a b) b · x) 14) 16) 64 = S2 (fun a b => sumR (fun k => cK (plsF c (layF c) a b) b k x) 14) := rfl
  rw [e, S2_14]
  have f0 := s_0 (c := c) (l := layF c) (x := x) lb.alive.1 (by omega)
  have f1 := s_1 (c := c) (l := layF c) (x := x) lb.owner.1 (by omega)
  have f2 := s_2 (c := c) (l := layF c) (x := x) lb.resv.1 (by omega)
  have f3 := s_3 (c := c) (l := layF c) (x := x) lb.deque.1 (by omega)
  have f4 := s_44 (x := x) ok hs ht lb.ring.1
  have f5 := s_5 (c := c) (l := layF c) (x := x) lb.task.1 (by have := ok.tasks; omega)
  have f6 := s_6 (c := c) (l := layF c) (x := x) lb.cell.1 ok.cells
  have f7 := s_78 (x := x) ok hb lb.map.1
  have f9 := s_910 (x := x) ok lb.stack.1
  have f11 := s_1112 (x := x) ok lb.chan.1
  have f13 := s_13 (c := c) (l := layF c) (x := x) lb.node.1 (by have := ok.nodes; have := ok.maps; have := ok.chans; omega)
  have b1 : (layF c).alive = 4 := rfl
  have b2 : (layF c).owner = (layF c).alive + c.seats := rfl
  have b3 : (layF c).resv = (layF c).owner + c.seats := rfl
  have b4 : (layF c).deque = (layF c).resv + 3 * c.seats := rfl
  have b5 : (layF c).ring = (layF c).deque + 3 * c.seats := rfl
  have b6 : (layF c).ring ≤ (layF c).task := by have := ring_bd ok.toMay; have : (layF c).task = (layF c).ring + c.seats * (4 * (pwF c.tasks - 1)) := rfl; omega
  have b7 : (layF c).cell = (layF c).task + 4 * c.tasks := rfl
  have b8 : (layF c).map = (layF c).cell + c.cells := rfl
  have b9 : (layF c).map ≤ (layF c).stack := by have := map_bd ok.toMay; have : (layF c).stack = (layF c).map + c.maps * (2 + c.buckets) := rfl; omega
  have b10 : (layF c).stack ≤ (layF c).chan := by have := stack_bd ok.toMay; have : (layF c).chan = (layF c).stack + c.stacks * (1 + c.slots) := rfl; omega
  have b11 : (layF c).node = (layF c).chan + 2 * c.chans := rfl
  have b12 : (layF c).size = (layF c).node + 8 * c.nodes := rfl
  have k1 := ok.tasks
  have k2 := ok.cells
  have k3 := ok.chans
  generalize S2 (fun a b => cK (plsF c (layF c) a b) b 0 x) = e0 at *
  generalize S2 (fun a b => cK (plsF c (layF c) a b) b 1 x) = e1 at *
  generalize S2 (fun a b => cK (plsF c (layF c) a b) b 2 x) = e2 at *
  generalize S2 (fun a b => cK (plsF c (layF c) a b) b 3 x) = e3 at *
  generalize S2 (fun a b => cK (plsF c (layF c) a b) b 4 x) = e4 at *
  generalize S2 (fun a b => cK (plsF c (layF c) a b) b 5 x) = e5 at *
  generalize S2 (fun a b => cK (plsF c (layF c) a b) b 6 x) = e6 at *
  generalize S2 (fun a b => cK (plsF c (layF c) a b) b 7 x) = e7 at *
  generalize S2 (fun a b => cK (plsF c (layF c) a b) b 8 x) = e8 at *
  generalize S2 (fun a b => cK (plsF c (layF c) a b) b 9 x) = e9 at *
  generalize S2 (fun a b => cK (plsF c (layF c) a b) b 10 x) = e10 at *
  generalize S2 (fun a b => cK (plsF c (layF c) a b) b 11 x) = e11 at *
  generalize S2 (fun a b => cK (plsF c (layF c) a b) b 12 x) = e12 at *
  generalize S2 (fun a b => cK (plsF c (layF c) a b) b 13 x) = e13 at *
  generalize hgo : (if x < 4 then 1 else 0) = e14
  have key : ∀ (R : Prop) [Decidable R] (e : Nat), e = (if R then 1 else 0) → (R → e = 1) ∧ (¬ R → e = 0) := fun R _ e h => ⟨fun hR => by rw [h, if_pos hR], fun hR => by rw [h, if_neg hR]⟩
  have g0 := key _ _ f0
  have g1 := key _ _ f1
  have g2 := key _ _ f2
  have g3 := key _ _ f3
  have g4 := key _ _ f4
  have g5 := key _ _ f5
  have g6 := key _ _ f6
  have g7 := key _ _ f7
  have g9 := key _ _ f9
  have g11 := key _ _ f11
  have g13 := key _ _ f13
  have g14 := key _ _ hgo.symm
  clear f0 f1 f2 f3 f4 f5 f6 f7 f9 f11 f13 hgo key e lb
  by_cases x0 : (x : Int) < 4
  · rw [g0.2 (by omega), g1.2 (by omega), g2.2 (by omega), g3.2 (by omega), g4.2 (by omega), g5.2 (by omega), g6.2 (by omega), g13.2 (by omega), g14.1 (by omega)]; have := g7.2 (by omega); have := g9.2 (by omega); have := g11.2 (by omega); omega
  by_cases x1 : (x : Int) < (layF c).owner
  · rw [g0.1 (by omega), g1.2 (by omega), g2.2 (by omega), g3.2 (by omega), g4.2 (by omega), g5.2 (by omega), g6.2 (by omega), g13.2 (by omega), g14.2 (by omega)]; have := g7.2 (by omega); have := g9.2 (by omega); have := g11.2 (by omega); omega
  by_cases x2 : (x : Int) < (layF c).resv
  · rw [g0.2 (by omega), g1.1 (by omega), g2.2 (by omega), g3.2 (by omega), g4.2 (by omega), g5.2 (by omega), g6.2 (by omega), g13.2 (by omega), g14.2 (by omega)]; have := g7.2 (by omega); have := g9.2 (by omega); have := g11.2 (by omega); omega
  by_cases x3 : (x : Int) < (layF c).deque
  · rw [g0.2 (by omega), g1.2 (by omega), g2.1 (by omega), g3.2 (by omega), g4.2 (by omega), g5.2 (by omega), g6.2 (by omega), g13.2 (by omega), g14.2 (by omega)]; have := g7.2 (by omega); have := g9.2 (by omega); have := g11.2 (by omega); omega
  by_cases x4 : (x : Int) < (layF c).ring
  · rw [g0.2 (by omega), g1.2 (by omega), g2.2 (by omega), g3.1 (by omega), g4.2 (by omega), g5.2 (by omega), g6.2 (by omega), g13.2 (by omega), g14.2 (by omega)]; have := g7.2 (by omega); have := g9.2 (by omega); have := g11.2 (by omega); omega
  by_cases x5 : (x : Int) < (layF c).task
  · rw [g0.2 (by omega), g1.2 (by omega), g2.2 (by omega), g3.2 (by omega), g4.1 (by omega), g5.2 (by omega), g6.2 (by omega), g13.2 (by omega), g14.2 (by omega)]; have := g7.2 (by omega); have := g9.2 (by omega); have := g11.2 (by omega); omega
  by_cases x6 : (x : Int) < (layF c).cell
  · rw [g0.2 (by omega), g1.2 (by omega), g2.2 (by omega), g3.2 (by omega), g4.2 (by omega), g5.1 (by omega), g6.2 (by omega), g13.2 (by omega), g14.2 (by omega)]; have := g7.2 (by omega); have := g9.2 (by omega); have := g11.2 (by omega); omega
  by_cases x7 : (x : Int) < (layF c).map
  · rw [g0.2 (by omega), g1.2 (by omega), g2.2 (by omega), g3.2 (by omega), g4.2 (by omega), g5.2 (by omega), g6.1 (by omega), g13.2 (by omega), g14.2 (by omega)]; have := g7.2 (by omega); have := g9.2 (by omega); have := g11.2 (by omega); omega
  by_cases x8 : (x : Int) < (layF c).stack
  · rw [g0.2 (by omega), g1.2 (by omega), g2.2 (by omega), g3.2 (by omega), g4.2 (by omega), g5.2 (by omega), g6.2 (by omega), g13.2 (by omega), g14.2 (by omega)]; have := g7.1 (by omega); have := g9.2 (by omega); have := g11.2 (by omega); omega
  by_cases x9 : (x : Int) < (layF c).chan
  · rw [g0.2 (by omega), g1.2 (by omega), g2.2 (by omega), g3.2 (by omega), g4.2 (by omega), g5.2 (by omega), g6.2 (by omega), g13.2 (by omega), g14.2 (by omega)]; have := g7.2 (by omega); have := g9.1 (by omega); have := g11.2 (by omega); omega
  by_cases x10 : (x : Int) < (layF c).node
  · rw [g0.2 (by omega), g1.2 (by omega), g2.2 (by omega), g3.2 (by omega), g4.2 (by omega), g5.2 (by omega), g6.2 (by omega), g13.2 (by omega), g14.2 (by omega)]; have := g7.2 (by omega); have := g9.2 (by omega); have := g11.1 (by omega); omega
  · rw [g0.2 (by omega), g1.2 (by omega), g2.2 (by omega), g3.2 (by omega), g4.2 (by omega), g5.2 (by omega), g6.2 (by omega), g13.1 (by omega), g14.2 (by omega)]; have := g7.2 (by omega); have := g9.2 (by omega); have := g11.2 (by omega); omega
end
end Go.D.Layout
