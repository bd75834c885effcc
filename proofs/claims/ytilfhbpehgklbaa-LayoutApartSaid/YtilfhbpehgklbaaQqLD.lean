/- Confs and layouts as rows of cells; what a layout is. Printed by wip/tool/mkld.py. -/
import Derived.Test.YtilfhbpehgklbaaQqAuto
set_option linter.unusedSimpArgs false
set_option linter.unusedVariables false
namespace Go.D
structure Cf where
  seats : Int
  nodes : Int
  buckets : Int
  slots : Int
  tasks : Int
  cells : Int
  maps : Int
  stacks : Int
  chans : Int
  deriving DecidableEq
structure Lf where
  done : Int
  count : Int
  era : Int
  free : Int
  alive : Int
  owner : Int
  resv : Int
  deque : Int
  ring : Int
  task : Int
  cell : Int
  map : Int
  stack : Int
  chan : Int
  node : Int
  size : Int
  deriving DecidableEq
def CDc (c : Cf) : List DV := [I c.seats, I c.nodes, I c.buckets, I c.slots, I c.tasks, I c.cells, I c.maps, I c.stacks, I c.chans]
def LDc (c : Cf) (l : Lf) : List DV := [I c.seats, I c.nodes, I c.buckets, I c.slots, I c.tasks, I c.cells, I c.maps, I c.stacks, I c.chans, I l.done, I l.count, I l.era, I l.free, I l.alive, I l.owner, I l.resv, I l.deque, I l.ring, I l.task, I l.cell, I l.map, I l.stack, I l.chan, I l.node, I l.size]
theorem stripL_CDc (c : Cf) : stripL (CDc c) = CDc c := rfl
theorem lookL_CDc (c : Cf) (h : Heap) : lookL h (CDc c) = CDc c := rfl
theorem freeL_CDc (c : Cf) : freeL (CDc c) = true := rfl
theorem hasHsL_CDc (c : Cf) : hasHsL (CDc c) = false := rfl
theorem freshL_CDc (c : Cf) : freshL (CDc c) = true := rfl
theorem len_CDc (c : Cf) : (CDc c).length = 9 := rfl
theorem take_CDc (c : Cf) : (CDc c).take 9 = CDc c := rfl
theorem drop_CDc_0 (c : Cf) : (CDc c).drop 0 = CDc c := rfl
theorem drop_CDc_1 (c : Cf) : (CDc c).drop 1 = [I c.nodes, I c.buckets, I c.slots, I c.tasks, I c.cells, I c.maps, I c.stacks, I c.chans] := rfl
theorem drop_CDc_2 (c : Cf) : (CDc c).drop 2 = [I c.buckets, I c.slots, I c.tasks, I c.cells, I c.maps, I c.stacks, I c.chans] := rfl
theorem drop_CDc_3 (c : Cf) : (CDc c).drop 3 = [I c.slots, I c.tasks, I c.cells, I c.maps, I c.stacks, I c.chans] := rfl
theorem drop_CDc_4 (c : Cf) : (CDc c).drop 4 = [I c.tasks, I c.cells, I c.maps, I c.stacks, I c.chans] := rfl
theorem drop_CDc_5 (c : Cf) : (CDc c).drop 5 = [I c.cells, I c.maps, I c.stacks, I c.chans] := rfl
theorem drop_CDc_6 (c : Cf) : (CDc c).drop 6 = [I c.maps, I c.stacks, I c.chans] := rfl
theorem drop_CDc_7 (c : Cf) : (CDc c).drop 7 = [I c.stacks, I c.chans] := rfl
theorem drop_CDc_8 (c : Cf) : (CDc c).drop 8 = [I c.chans] := rfl
theorem drop_CDc_9 (c : Cf) : (CDc c).drop 9 = [] := rfl
attribute [go_sem] stripL_CDc lookL_CDc freeL_CDc hasHsL_CDc freshL_CDc len_CDc take_CDc drop_CDc_0 drop_CDc_1 drop_CDc_2 drop_CDc_3 drop_CDc_4 drop_CDc_5 drop_CDc_6 drop_CDc_7 drop_CDc_8 drop_CDc_9
theorem stripL_LDc (c : Cf) (l : Lf) : stripL (LDc c l) = LDc c l := rfl
theorem lookL_LDc (c : Cf) (l : Lf) (h : Heap) : lookL h (LDc c l) = LDc c l := rfl
theorem freeL_LDc (c : Cf) (l : Lf) : freeL (LDc c l) = true := rfl
theorem hasHsL_LDc (c : Cf) (l : Lf) : hasHsL (LDc c l) = false := rfl
theorem freshL_LDc (c : Cf) (l : Lf) : freshL (LDc c l) = true := rfl
theorem len_LDc (c : Cf) (l : Lf) : (LDc c l).length = 25 := rfl
theorem take_LDc (c : Cf) (l : Lf) : (LDc c l).take 25 = LDc c l := rfl
theorem drop_LDc_0 (c : Cf) (l : Lf) : (LDc c l).drop 0 = LDc c l := rfl
theorem drop_LDc_1 (c : Cf) (l : Lf) : (LDc c l).drop 1 = [I c.nodes, I c.buckets, I c.slots, I c.tasks, I c.cells, I c.maps, I c.stacks, I c.chans, I l.done, I l.count, I l.era, I l.free, I l.alive, I l.owner, I l.resv, I l.deque, I l.ring, I l.task, I l.cell, I l.map, I l.stack, I l.chan, I l.node, I l.size] := rfl
theorem drop_LDc_2 (c : Cf) (l : Lf) : (LDc c l).drop 2 = [I c.buckets, I c.slots, I c.tasks, I c.cells, I c.maps, I c.stacks, I c.chans, I l.done, I l.count, I l.era, I l.free, I l.alive, I l.owner, I l.resv, I l.deque, I l.ring, I l.task, I l.cell, I l.map, I l.stack, I l.chan, I l.node, I l.size] := rfl
theorem drop_LDc_3 (c : Cf) (l : Lf) : (LDc c l).drop 3 = [I c.slots, I c.tasks, I c.cells, I c.maps, I c.stacks, I c.chans, I l.done, I l.count, I l.era, I l.free, I l.alive, I l.owner, I l.resv, I l.deque, I l.ring, I l.task, I l.cell, I l.map, I l.stack, I l.chan, I l.node, I l.size] := rfl
theorem drop_LDc_4 (c : Cf) (l : Lf) : (LDc c l).drop 4 = [I c.tasks, I c.cells, I c.maps, I c.stacks, I c.chans, I l.done, I l.count, I l.era, I l.free, I l.alive, I l.owner, I l.resv, I l.deque, I l.ring, I l.task, I l.cell, I l.map, I l.stack, I l.chan, I l.node, I l.size] := rfl
theorem drop_LDc_5 (c : Cf) (l : Lf) : (LDc c l).drop 5 = [I c.cells, I c.maps, I c.stacks, I c.chans, I l.done, I l.count, I l.era, I l.free, I l.alive, I l.owner, I l.resv, I l.deque, I l.ring, I l.task, I l.cell, I l.map, I l.stack, I l.chan, I l.node, I l.size] := rfl
theorem drop_LDc_6 (c : Cf) (l : Lf) : (LDc c l).drop 6 = [I c.maps, I c.stacks, I c.chans, I l.done, I l.count, I l.era, I l.free, I l.alive, I l.owner, I l.resv, I l.deque, I l.ring, I l.task, I l.cell, I l.map, I l.stack, I l.chan, I l.node, I l.size] := rfl
theorem drop_LDc_7 (c : Cf) (l : Lf) : (LDc c l).drop 7 = [I c.stacks, I c.chans, I l.done, I l.count, I l.era, I l.free, I l.alive, I l.owner, I l.resv, I l.deque, I l.ring, I l.task, I l.cell, I l.map, I l.stack, I l.chan, I l.node, I l.size] := rfl
theorem drop_LDc_8 (c : Cf) (l : Lf) : (LDc c l).drop 8 = [I c.chans, I l.done, I l.count, I l.era, I l.free, I l.alive, I l.owner, I l.resv, I l.deque, I l.ring, I l.task, I l.cell, I l.map, I l.stack, I l.chan, I l.node, I l.size] := rfl
theorem drop_LDc_9 (c : Cf) (l : Lf) : (LDc c l).drop 9 = [I l.done, I l.count, I l.era, I l.free, I l.alive, I l.owner, I l.resv, I l.deque, I l.ring, I l.task, I l.cell, I l.map, I l.stack, I l.chan, I l.node, I l.size] := rfl
theorem drop_LDc_10 (c : Cf) (l : Lf) : (LDc c l).drop 10 = [I l.count, I l.era, I l.free, I l.alive, I l.owner, I l.resv, I l.deque, I l.ring, I l.task, I l.cell, I l.map, I l.stack, I l.chan, I l.node, I l.size] := rfl
theorem drop_LDc_11 (c : Cf) (l : Lf) : (LDc c l).drop 11 = [I l.era, I l.free, I l.alive, I l.owner, I l.resv, I l.deque, I l.ring, I l.task, I l.cell, I l.map, I l.stack, I l.chan, I l.node, I l.size] := rfl
theorem drop_LDc_12 (c : Cf) (l : Lf) : (LDc c l).drop 12 = [I l.free, I l.alive, I l.owner, I l.resv, I l.deque, I l.ring, I l.task, I l.cell, I l.map, I l.stack, I l.chan, I l.node, I l.size] := rfl
theorem drop_LDc_13 (c : Cf) (l : Lf) : (LDc c l).drop 13 = [I l.alive, I l.owner, I l.resv, I l.deque, I l.ring, I l.task, I l.cell, I l.map, I l.stack, I l.chan, I l.node, I l.size] := rfl
theorem drop_LDc_14 (c : Cf) (l : Lf) : (LDc c l).drop 14 = [I l.owner, I l.resv, I l.deque, I l.ring, I l.task, I l.cell, I l.map, I l.stack, I l.chan, I l.node, I l.size] := rfl
theorem drop_LDc_15 (c : Cf) (l : Lf) : (LDc c l).drop 15 = [I l.resv, I l.deque, I l.ring, I l.task, I l.cell, I l.map, I l.stack, I l.chan, I l.node, I l.size] := rfl
theorem drop_LDc_16 (c : Cf) (l : Lf) : (LDc c l).drop 16 = [I l.deque, I l.ring, I l.task, I l.cell, I l.map, I l.stack, I l.chan, I l.node, I l.size] := rfl
theorem drop_LDc_17 (c : Cf) (l : Lf) : (LDc c l).drop 17 = [I l.ring, I l.task, I l.cell, I l.map, I l.stack, I l.chan, I l.node, I l.size] := rfl
theorem drop_LDc_18 (c : Cf) (l : Lf) : (LDc c l).drop 18 = [I l.task, I l.cell, I l.map, I l.stack, I l.chan, I l.node, I l.size] := rfl
theorem drop_LDc_19 (c : Cf) (l : Lf) : (LDc c l).drop 19 = [I l.cell, I l.map, I l.stack, I l.chan, I l.node, I l.size] := rfl
theorem drop_LDc_20 (c : Cf) (l : Lf) : (LDc c l).drop 20 = [I l.map, I l.stack, I l.chan, I l.node, I l.size] := rfl
theorem drop_LDc_21 (c : Cf) (l : Lf) : (LDc c l).drop 21 = [I l.stack, I l.chan, I l.node, I l.size] := rfl
theorem drop_LDc_22 (c : Cf) (l : Lf) : (LDc c l).drop 22 = [I l.chan, I l.node, I l.size] := rfl
theorem drop_LDc_23 (c : Cf) (l : Lf) : (LDc c l).drop 23 = [I l.node, I l.size] := rfl
theorem drop_LDc_24 (c : Cf) (l : Lf) : (LDc c l).drop 24 = [I l.size] := rfl
theorem drop_LDc_25 (c : Cf) (l : Lf) : (LDc c l).drop 25 = [] := rfl
attribute [go_sem] stripL_LDc lookL_LDc freeL_LDc hasHsL_LDc freshL_LDc len_LDc take_LDc drop_LDc_0 drop_LDc_1 drop_LDc_2 drop_LDc_3 drop_LDc_4 drop_LDc_5 drop_LDc_6 drop_LDc_7 drop_LDc_8 drop_LDc_9 drop_LDc_10 drop_LDc_11 drop_LDc_12 drop_LDc_13 drop_LDc_14 drop_LDc_15 drop_LDc_16 drop_LDc_17 drop_LDc_18 drop_LDc_19 drop_LDc_20 drop_LDc_21 drop_LDc_22 drop_LDc_23 drop_LDc_24 drop_LDc_25
theorem app_CDc (c : Cf) (x0 x1 x2 x3 x4 x5 x6 x7 x8 x9 x10 x11 x12 x13 x14 x15 : Int) : CDc c ++ [.sc (.int .i64 x0), .sc (.int .i64 x1), .sc (.int .i64 x2), .sc (.int .i64 x3), .sc (.int .i64 x4), .sc (.int .i64 x5), .sc (.int .i64 x6), .sc (.int .i64 x7), .sc (.int .i64 x8), .sc (.int .i64 x9), .sc (.int .i64 x10), .sc (.int .i64 x11), .sc (.int .i64 x12), .sc (.int .i64 x13), .sc (.int .i64 x14), .sc (.int .i64 x15)] = LDc c ⟨x0, x1, x2, x3, x4, x5, x6, x7, x8, x9, x10, x11, x12, x13, x14, x15⟩ := rfl
attribute [go_sem] app_CDc
theorem take9_LDc (c : Cf) (l : Lf) : (LDc c l).take 9 = CDc c := rfl
theorem take1_LDc (c : Cf) (l : Lf) : (LDc c l).take 1 = [I c.seats] := rfl
theorem take1_CDc (c : Cf) : (CDc c).take 1 = [I c.seats] := rfl
theorem set_CDc_0 (c : Cf) (x : Int) : setCells (CDc c) 0 [.sc (.int .i64 x)] = CDc { c with seats := x } := rfl
theorem set_LDc_0 (c : Cf) (l : Lf) (x : Int) : setCells (LDc c l) 0 [.sc (.int .i64 x)] = LDc { c with seats := x } l := rfl
theorem set_CDc_1 (c : Cf) (x : Int) : setCells (CDc c) 1 [.sc (.int .i64 x)] = CDc { c with nodes := x } := rfl
theorem set_LDc_1 (c : Cf) (l : Lf) (x : Int) : setCells (LDc c l) 1 [.sc (.int .i64 x)] = LDc { c with nodes := x } l := rfl
theorem set_CDc_2 (c : Cf) (x : Int) : setCells (CDc c) 2 [.sc (.int .i64 x)] = CDc { c with buckets := x } := rfl
theorem set_LDc_2 (c : Cf) (l : Lf) (x : Int) : setCells (LDc c l) 2 [.sc (.int .i64 x)] = LDc { c with buckets := x } l := rfl
theorem set_CDc_3 (c : Cf) (x : Int) : setCells (CDc c) 3 [.sc (.int .i64 x)] = CDc { c with slots := x } := rfl
theorem set_LDc_3 (c : Cf) (l : Lf) (x : Int) : setCells (LDc c l) 3 [.sc (.int .i64 x)] = LDc { c with slots := x } l := rfl
theorem set_CDc_4 (c : Cf) (x : Int) : setCells (CDc c) 4 [.sc (.int .i64 x)] = CDc { c with tasks := x } := rfl
theorem set_LDc_4 (c : Cf) (l : Lf) (x : Int) : setCells (LDc c l) 4 [.sc (.int .i64 x)] = LDc { c with tasks := x } l := rfl
theorem set_CDc_5 (c : Cf) (x : Int) : setCells (CDc c) 5 [.sc (.int .i64 x)] = CDc { c with cells := x } := rfl
theorem set_LDc_5 (c : Cf) (l : Lf) (x : Int) : setCells (LDc c l) 5 [.sc (.int .i64 x)] = LDc { c with cells := x } l := rfl
theorem set_CDc_6 (c : Cf) (x : Int) : setCells (CDc c) 6 [.sc (.int .i64 x)] = CDc { c with maps := x } := rfl
theorem set_LDc_6 (c : Cf) (l : Lf) (x : Int) : setCells (LDc c l) 6 [.sc (.int .i64 x)] = LDc { c with maps := x } l := rfl
theorem set_CDc_7 (c : Cf) (x : Int) : setCells (CDc c) 7 [.sc (.int .i64 x)] = CDc { c with stacks := x } := rfl
theorem set_LDc_7 (c : Cf) (l : Lf) (x : Int) : setCells (LDc c l) 7 [.sc (.int .i64 x)] = LDc { c with stacks := x } l := rfl
theorem set_CDc_8 (c : Cf) (x : Int) : setCells (CDc c) 8 [.sc (.int .i64 x)] = CDc { c with chans := x } := rfl
theorem set_LDc_8 (c : Cf) (l : Lf) (x : Int) : setCells (LDc c l) 8 [.sc (.int .i64 x)] = LDc { c with chans := x } l := rfl
theorem set_LDc_9 (c : Cf) (l : Lf) (x : Int) : setCells (LDc c l) 9 [.sc (.int .i64 x)] = LDc c { l with done := x } := rfl
theorem set_LDc_10 (c : Cf) (l : Lf) (x : Int) : setCells (LDc c l) 10 [.sc (.int .i64 x)] = LDc c { l with count := x } := rfl
theorem set_LDc_11 (c : Cf) (l : Lf) (x : Int) : setCells (LDc c l) 11 [.sc (.int .i64 x)] = LDc c { l with era := x } := rfl
theorem set_LDc_12 (c : Cf) (l : Lf) (x : Int) : setCells (LDc c l) 12 [.sc (.int .i64 x)] = LDc c { l with free := x } := rfl
theorem set_LDc_13 (c : Cf) (l : Lf) (x : Int) : setCells (LDc c l) 13 [.sc (.int .i64 x)] = LDc c { l with alive := x } := rfl
theorem set_LDc_14 (c : Cf) (l : Lf) (x : Int) : setCells (LDc c l) 14 [.sc (.int .i64 x)] = LDc c { l with owner := x } := rfl
theorem set_LDc_15 (c : Cf) (l : Lf) (x : Int) : setCells (LDc c l) 15 [.sc (.int .i64 x)] = LDc c { l with resv := x } := rfl
theorem set_LDc_16 (c : Cf) (l : Lf) (x : Int) : setCells (LDc c l) 16 [.sc (.int .i64 x)] = LDc c { l with deque := x } := rfl
theorem set_LDc_17 (c : Cf) (l : Lf) (x : Int) : setCells (LDc c l) 17 [.sc (.int .i64 x)] = LDc c { l with ring := x } := rfl
theorem set_LDc_18 (c : Cf) (l : Lf) (x : Int) : setCells (LDc c l) 18 [.sc (.int .i64 x)] = LDc c { l with task := x } := rfl
theorem set_LDc_19 (c : Cf) (l : Lf) (x : Int) : setCells (LDc c l) 19 [.sc (.int .i64 x)] = LDc c { l with cell := x } := rfl
theorem set_LDc_20 (c : Cf) (l : Lf) (x : Int) : setCells (LDc c l) 20 [.sc (.int .i64 x)] = LDc c { l with map := x } := rfl
theorem set_LDc_21 (c : Cf) (l : Lf) (x : Int) : setCells (LDc c l) 21 [.sc (.int .i64 x)] = LDc c { l with stack := x } := rfl
theorem set_LDc_22 (c : Cf) (l : Lf) (x : Int) : setCells (LDc c l) 22 [.sc (.int .i64 x)] = LDc c { l with chan := x } := rfl
theorem set_LDc_23 (c : Cf) (l : Lf) (x : Int) : setCells (LDc c l) 23 [.sc (.int .i64 x)] = LDc c { l with node := x } := rfl
theorem set_LDc_24 (c : Cf) (l : Lf) (x : Int) : setCells (LDc c l) 24 [.sc (.int .i64 x)] = LDc c { l with size := x } := rfl
theorem setall_CDc (c c2 : Cf) : setCells (CDc c) 0 (CDc c2) = CDc c2 := rfl
theorem setall_LDc (c c2 : Cf) (l l2 : Lf) : setCells (LDc c l) 0 (LDc c2 l2) = LDc c2 l2 := rfl
theorem setconf_LDc (c c2 : Cf) (l : Lf) : setCells (LDc c l) 0 (CDc c2) = LDc c2 l := rfl
attribute [go_sem] take9_LDc take1_LDc take1_CDc setall_CDc setall_LDc setconf_LDc set_CDc_0 set_CDc_1 set_CDc_2 set_CDc_3 set_CDc_4 set_CDc_5 set_CDc_6 set_CDc_7 set_CDc_8 set_LDc_0 set_LDc_1 set_LDc_2 set_LDc_3 set_LDc_4 set_LDc_5 set_LDc_6 set_LDc_7 set_LDc_8 set_LDc_9 set_LDc_10 set_LDc_11 set_LDc_12 set_LDc_13 set_LDc_14 set_LDc_15 set_LDc_16 set_LDc_17 set_LDc_18 set_LDc_19 set_LDc_20 set_LDc_21 set_LDc_22 set_LDc_23 set_LDc_24
theorem z9_CDc : ([.sc (.int .i64 0), .sc (.int .i64 0), .sc (.int .i64 0), .sc (.int .i64 0), .sc (.int .i64 0), .sc (.int .i64 0), .sc (.int .i64 0), .sc (.int .i64 0), .sc (.int .i64 0)] : List DV) = CDc ⟨0, 0, 0, 0, 0, 0, 0, 0, 0⟩ := rfl
theorem z25_LDc : ([.sc (.int .i64 0), .sc (.int .i64 0), .sc (.int .i64 0), .sc (.int .i64 0), .sc (.int .i64 0), .sc (.int .i64 0), .sc (.int .i64 0), .sc (.int .i64 0), .sc (.int .i64 0), .sc (.int .i64 0), .sc (.int .i64 0), .sc (.int .i64 0), .sc (.int .i64 0), .sc (.int .i64 0), .sc (.int .i64 0), .sc (.int .i64 0), .sc (.int .i64 0), .sc (.int .i64 0), .sc (.int .i64 0), .sc (.int .i64 0), .sc (.int .i64 0), .sc (.int .i64 0), .sc (.int .i64 0), .sc (.int .i64 0), .sc (.int .i64 0)] : List DV) = LDc ⟨0, 0, 0, 0, 0, 0, 0, 0, 0⟩ ⟨0, 0, 0, 0, 0, 0, 0, 0, 0, 0, 0, 0, 0, 0, 0, 0⟩ := rfl
theorem eqL_CDc (c c2 : Cf) : eqL [1, 1, 1, 1, 1, 1, 1, 1, 1] (CDc c) (CDc c2) = some (decide (c = c2)) := by
  cases c; cases c2
  simp only [CDc, eqL, eqV1, if_true, and_self, Cf.mk.injEq, int_beq, Bool.decide_and, Bool.and_true]
theorem eqL_LDc (c c2 : Cf) (l l2 : Lf) : eqL [1, 1, 1, 1, 1, 1, 1, 1, 1, 1, 1, 1, 1, 1, 1, 1, 1, 1, 1, 1, 1, 1, 1, 1, 1] (LDc c l) (LDc c2 l2) = some (decide (c = c2) && decide (l = l2)) := by
  cases c; cases c2; cases l; cases l2
  simp only [LDc, eqL, eqV1, if_true, and_self, Cf.mk.injEq, Lf.mk.injEq, int_beq, Bool.decide_and, Bool.and_true, Bool.and_assoc]
attribute [go_sem] eqL_CDc eqL_LDc

/-- How many rings so many tasks ask for, and 2 so often. -/
def rgF (t : Int) : Int := if t ≤ 4 then 1 else if t ≤ 8 then 2 else if t ≤ 16 then 3 else if t ≤ 32 then 4 else 5
def pwF (t : Int) : Int := if t ≤ 4 then 2 else if t ≤ 8 then 4 else if t ≤ 16 then 8 else if t ≤ 32 then 16 else 32
def p2F (r : Int) : Int := if r ≤ 0 then 1 else if r ≤ 1 then 2 else if r ≤ 2 then 4 else if r ≤ 3 then 8 else if r ≤ 4 then 16 else 32
theorem p2_rg (t : Int) : p2F (rgF t) = pwF t := by unfold p2F rgF pwF; split <;> (try split) <;> (try split) <;> (try split) <;> first | rfl | omega
theorem p2_lt {t r : Int} (h0 : 0 ≤ r) (h1 : r ≤ rgF t - 1) : 1 ≤ p2F r ∧ 2 * p2F r ≤ pwF t := by
  unfold rgF at h1
  unfold p2F pwF
  repeat' split
  all_goals (repeat' split at h1)
  all_goals omega
theorem p2_bd (r : Int) : 1 ≤ p2F r ∧ p2F r ≤ 32 := by
  unfold p2F
  repeat' split
  all_goals omega
theorem shl1 {r : Int} (h0 : 0 ≤ r) (h1 : r ≤ 5) : IntKind.i64.wrap (1 * 2 ^ min r.toNat IntKind.i64.bits) = p2F r := by
  have : r = 0 ∨ r = 1 ∨ r = 2 ∨ r = 3 ∨ r = 4 ∨ r = 5 := by omega
  rcases this with rfl | rfl | rfl | rfl | rfl | rfl <;> decide
/-- The first cell of a seat's ring. -/
def ringF (c : Cf) (l : Lf) (seat r : Int) : Int := if (0 ≤ seat ∧ seat ≤ c.seats - 1) ∧ (0 ≤ r ∧ r ≤ rgF c.tasks - 1) then l.ring + seat * (4 * (pwF c.tasks - 1)) + 4 * (p2F r - 1) else -1
def Two6 (b : Int) : Prop := b = 1 ∨ b = 2 ∨ b = 4 ∨ b = 8 ∨ b = 16 ∨ b = 32 ∨ b = 64
instance (b : Int) : Decidable (Two6 b) := by unfold Two6; infer_instance
/-- May a conf be, but for its nodes? -/
structure May (c : Cf) : Prop where
  seats : 1 ≤ c.seats ∧ c.seats ≤ 8
  buckets : 1 ≤ c.buckets ∧ c.buckets ≤ 64
  slots : 1 ≤ c.slots ∧ c.slots ≤ 8
  tasks : 1 ≤ c.tasks ∧ c.tasks ≤ 64
  cells : 0 ≤ c.cells ∧ c.cells ≤ 16
  maps : 0 ≤ c.maps ∧ c.maps ≤ 8
  stacks : 0 ≤ c.stacks ∧ c.stacks ≤ 8
  chans : 0 ≤ c.chans ∧ c.chans ≤ 8
  two : Two6 c.buckets
instance (c : Cf) : Decidable (May c) := decidable_of_iff ((1 ≤ c.seats ∧ c.seats ≤ 8) ∧ (1 ≤ c.buckets ∧ c.buckets ≤ 64) ∧ (1 ≤ c.slots ∧ c.slots ≤ 8) ∧ (1 ≤ c.tasks ∧ c.tasks ≤ 64) ∧ (0 ≤ c.cells ∧ c.cells ≤ 16) ∧ (0 ≤ c.maps ∧ c.maps ≤ 8) ∧ (0 ≤ c.stacks ∧ c.stacks ≤ 8) ∧ (0 ≤ c.chans ∧ c.chans ≤ 8) ∧ Two6 c.buckets)
  ⟨fun ⟨a, b, c, d, e, f, g, h, i⟩ => ⟨a, b, c, d, e, f, g, h, i⟩, fun ⟨a, b, c, d, e, f, g, h, i⟩ => ⟨a, b, c, d, e, f, g, h, i⟩⟩
/-- .. with its nodes? -/
structure OkC (c : Cf) : Prop extends May c where
  nodes : c.maps + c.chans ≤ c.nodes ∧ c.nodes ≤ 1000
instance (c : Cf) : Decidable (OkC c) := decidable_of_iff (May c ∧ (c.maps + c.chans ≤ c.nodes ∧ c.nodes ≤ 1000)) ⟨fun ⟨a, b⟩ => ⟨a, b⟩, fun ⟨a, b⟩ => ⟨a, b⟩⟩
def zC : Cf := ⟨0, 0, 0, 0, 0, 0, 0, 0, 0⟩
def zL : Lf := ⟨0, 0, 0, 0, 0, 0, 0, 0, 0, 0, 0, 0, 0, 0, 0, 0⟩
theorem and_two {b : Int} (h : 1 ≤ b ∧ b ≤ 64) : (IntKind.i64.wrap (((BitVec.ofInt IntKind.i64.bits b &&& BitVec.ofInt IntKind.i64.bits (b - 1)).toNat : Nat) : Int) = 0) = Two6 b := by
  obtain ⟨n, rfl⟩ := Int.eq_ofNat_of_zero_le (show 0 ≤ b by omega)
  have key : ∀ n : Fin 65, 1 ≤ n.val → ((IntKind.i64.wrap (((BitVec.ofInt IntKind.i64.bits (n.val : Int) &&& BitVec.ofInt IntKind.i64.bits ((n.val : Int) - 1)).toNat : Nat) : Int) = 0) ↔ Two6 (n.val : Int)) := by decide
  exact propext (key ⟨n, by omega⟩ (by show 1 ≤ n; omega))
theorem pw_bd (t : Int) : 2 ≤ pwF t ∧ pwF t ≤ 32 := by unfold pwF; split <;> (try split) <;> (try split) <;> (try split) <;> omega
theorem rg_bd (t : Int) : 1 ≤ rgF t ∧ rgF t ≤ 5 := by unfold rgF; split <;> (try split) <;> (try split) <;> (try split) <;> omega
/-- What lies where. -/
def layF (c : Cf) : Lf :=
  let owner := 4 + c.seats
  let resv := owner + c.seats
  let deque := resv + 3 * c.seats
  let ring := deque + 3 * c.seats
  let task := ring + c.seats * (4 * (pwF c.tasks - 1))
  let cell := task + 4 * c.tasks
  let map := cell + c.cells
  let stack := map + c.maps * (2 + c.buckets)
  let chan := stack + c.stacks * (1 + c.slots)
  let node := chan + 2 * c.chans
  ⟨0, 1, 2, 3, 4, owner, resv, deque, ring, task, cell, map, stack, chan, node, node + 8 * c.nodes⟩
theorem ring_bd {c : Cf} (h : May c) : 4 * c.seats ≤ c.seats * (4 * (pwF c.tasks - 1)) ∧ c.seats * (4 * (pwF c.tasks - 1)) ≤ 992 := by
  have := pw_bd c.tasks
  have h1 := h.seats
  have a : c.seats * 4 ≤ c.seats * (4 * (pwF c.tasks - 1)) := Int.mul_le_mul_of_nonneg_left (by omega) (by omega)
  have b : c.seats * (4 * (pwF c.tasks - 1)) ≤ 8 * 124 := Int.mul_le_mul (by omega) (by omega) (by omega) (by omega)
  omega
theorem map_bd {c : Cf} (h : May c) : 0 ≤ c.maps * (2 + c.buckets) ∧ c.maps * (2 + c.buckets) ≤ 528 := by
  have h1 := h.maps
  have h2 := h.buckets
  have a : 0 ≤ c.maps * (2 + c.buckets) := Int.mul_nonneg (by omega) (by omega)
  have b : c.maps * (2 + c.buckets) ≤ 8 * 66 := Int.mul_le_mul (by omega) (by omega) (by omega) (by omega)
  omega
theorem stack_bd {c : Cf} (h : May c) : 0 ≤ c.stacks * (1 + c.slots) ∧ c.stacks * (1 + c.slots) ≤ 72 := by
  have h1 := h.stacks
  have h2 := h.slots
  have a : 0 ≤ c.stacks * (1 + c.slots) := Int.mul_nonneg (by omega) (by omega)
  have b : c.stacks * (1 + c.slots) ≤ 8 * 9 := Int.mul_le_mul (by omega) (by omega) (by omega) (by omega)
  omega
end Go.D
