/- The small forms of this seat's functions. -/
import Derived.Test.YtjheedldiikpnaaQqDv
set_option linter.unusedSimpArgs false
set_option linter.unusedVariables false
namespace Go.D.Mem
open Go.D
/-- underwood/underwoodlaw02.MemTells -/
def ir3 : FnIR := { np := 3, nv := 15, slots := [0, 1, 2, 3, 4, 5, 8, 9, 11, 12, 6, 24, 7, 10, 13], res := [.v 10], body :=
  (.seq
   (.reg [
     ⟨(.bx 1), [.v 0 true], (.v 3), none⟩,
     ⟨(.bx 1), [.v 1 true], (.v 4), none⟩,
     ⟨(.bx 4), [.v 2 false], (.v 5), none⟩,
     ⟨.mv, [.c (.sc (.bool false))], (.v 10), none⟩] false)
   (.seq
    (.reg [
      ⟨(.call 10), [], .t, none⟩,
      ⟨.mv, [.t 0 false], (.v 12), none⟩] false)
    (.seq
     (.seq
      (.reg [
        ⟨(.faB 3 0), [.v 3 false], .t, none⟩,
        ⟨(.ldB 3 1 false false), [.t 0 false, .v 3 false], .t, none⟩,
        ⟨.len, [.t 1 false], .t, none⟩,
        ⟨(.bin .gtr false), [.t 2 false, .c (.sc (.int .i64 200))], .t, none⟩,
        ⟨.mv, [.t 3 false], .t, none⟩,
        ⟨(.faB 4 0), [.v 4 false], .t, (some (4, false))⟩,
        ⟨(.ldB 4 1 false false), [.t 5 false, .v 4 false], .t, (some (4, false))⟩,
        ⟨.len, [.t 6 false], .t, (some (4, false))⟩,
        ⟨(.bin .gtr false), [.t 7 false, .c (.sc (.int .i64 200))], .t, (some (4, false))⟩,
        ⟨.pick, [.t 4 false, .c (.sc (.bool true)), .t 8 false], (.v 11), none⟩] false)
      (.cond (.v 11 false)
       (.seq
        (.reg [
          ⟨.mv, [.v 12 false], .t, none⟩,
          ⟨.mv, [.t 0 false], (.v 10), none⟩] false)
        .ret)
       .skip))
     (.seq
      (.reg [
        ⟨(.ldB 3 1 true false), [.v 3 false], .t, none⟩,
        ⟨(.ldB 5 4 true false), [.v 5 false], .t, none⟩,
        ⟨(.call 11), [.t 0 false, .t 1 false], .t, none⟩,
        ⟨.mv, [.t 2 true], .t, none⟩,
        ⟨(.ext 0), [.t 3 false], .t, none⟩,
        ⟨(.ext 1), [.t 3 false], .t, none⟩,
        ⟨(.ext 2), [.t 3 false], .t, none⟩,
        ⟨(.bx 1), [.c (.agg [(.sl .full 1 [])])], (.v 6), none⟩,
        ⟨(.bx 2), [.c (.agg [(.sc (.int .i64 0)), (.sc (.bool false))])], (.v 7), none⟩,
        ⟨(.stB 6 1), [.v 6 false, .t 4 true], .none, none⟩,
        ⟨(.stB 7 2), [.v 7 false, .t 5 false], .none, none⟩,
        ⟨.mv, [.t 6 false], (.v 13), none⟩] false)
      (.seq
       (.reg [
         ⟨(.ldB 3 1 true false), [.v 3 false], .t, none⟩,
         ⟨(.ldB 5 4 true false), [.v 5 false], .t, none⟩,
         ⟨(.call 12), [.t 0 false, .t 1 false], .t, none⟩,
         ⟨.mv, [.t 2 true], .t, none⟩,
         ⟨(.ext 0), [.t 3 false], .t, none⟩,
         ⟨(.ext 1), [.t 3 false], .t, none⟩,
         ⟨(.ext 2), [.t 3 false], .t, none⟩,
         ⟨(.bx 1), [.c (.agg [(.sl .full 1 [])])], (.v 8), none⟩,
         ⟨(.bx 2), [.c (.agg [(.sc (.int .i64 0)), (.sc (.bool false))])], (.v 9), none⟩,
         ⟨(.stB 8 1), [.v 8 false, .t 4 true], .none, none⟩,
         ⟨(.stB 9 2), [.v 9 false, .t 5 false], .none, none⟩,
         ⟨.mv, [.t 6 false], (.v 14), none⟩] false)
       (.seq
        (.reg [
          ⟨.mv, [.v 12 false], .t, none⟩,
          ⟨.mv, [.t 0 false], .t, none⟩,
          ⟨(.ldB 5 4 true false), [.v 5 false], .t, (some (1, true))⟩,
          ⟨(.call 13), [.t 2 false], .t, (some (1, true))⟩,
          ⟨(.ldB 5 4 true false), [.v 5 false], .t, (some (1, true))⟩,
          ⟨(.call 14), [.t 4 false], .t, (some (1, true))⟩,
          ⟨(.bin .eql true), [.t 3 false, .t 5 false], .t, (some (1, true))⟩,
          ⟨.pick, [.t 1 false, .t 6 false, .c (.sc (.bool false))], .t, none⟩,
          ⟨.mv, [.t 7 false], .t, none⟩,
          ⟨(.ldB 3 1 true false), [.v 3 false], .t, (some (8, true))⟩,
          ⟨(.ldB 4 1 true false), [.v 4 false], .t, (some (8, true))⟩,
          ⟨(.call 15), [.t 9 false, .t 10 false], .t, (some (8, true))⟩,
          ⟨(.ldB 3 1 true false), [.v 3 false], .t, (some (8, true))⟩,
          ⟨(.ldB 4 1 true false), [.v 4 false], .t, (some (8, true))⟩,
          ⟨(.call 16), [.t 12 false, .t 13 false], .t, (some (8, true))⟩,
          ⟨(.bin .eql true), [.t 11 false, .t 14 false], .t, (some (8, true))⟩,
          ⟨.pick, [.t 8 false, .t 15 false, .c (.sc (.bool false))], .t, none⟩,
          ⟨.mv, [.t 16 false], .t, none⟩,
          ⟨(.ldB 6 1 true true), [.v 6 true], .t, (some (17, true))⟩,
          ⟨(.ldB 8 1 true true), [.v 8 true], .t, (some (17, true))⟩,
          ⟨(.call 16), [.t 18 false, .t 19 false], .t, (some (17, true))⟩,
          ⟨.pick, [.t 17 false, .t 20 false, .c (.sc (.bool false))], .t, none⟩,
          ⟨.mv, [.t 21 false], .t, none⟩,
          ⟨(.ldB 7 2 true false), [.v 7 false], .t, (some (22, true))⟩,
          ⟨(.ldB 9 2 true false), [.v 9 false], .t, (some (22, true))⟩,
          ⟨(.eqA [1, 0] false), [.t 23 false, .t 24 false], .t, (some (22, true))⟩,
          ⟨.pick, [.t 22 false, .t 25 false, .c (.sc (.bool false))], .t, none⟩,
          ⟨.mv, [.t 26 false], .t, none⟩,
          ⟨.mv, [.v 13 false], .t, (some (27, true))⟩,
          ⟨.mv, [.v 14 false], .t, (some (27, true))⟩,
          ⟨(.bin .eql false), [.t 28 false, .t 29 false], .t, (some (27, true))⟩,
          ⟨.pick, [.t 27 false, .t 30 false, .c (.sc (.bool false))], .t, none⟩,
          ⟨.mv, [.t 31 false], (.v 10), none⟩] true)
        .ret)))))) }

/-- underwood/underwoodlaw02.MemAll -/
def ir4 : FnIR := { np := 2, nv := 12, slots := [0, 1, 2, 6, 9, 4, 21, 5, 7, 10, 8, 11], res := [.v 5], body :=
  (.seq
   (.reg [
     ⟨(.bx 1), [.v 0 true], (.v 2), none⟩,
     ⟨.mv, [.c (.sc (.bool false))], (.v 5), none⟩] false)
   (.seq
    (.reg [
      ⟨(.call 10), [], .t, none⟩,
      ⟨.mv, [.t 0 false], (.v 7), none⟩] false)
    (.seq
     (.seq
      (.reg [
        ⟨(.faB 2 0), [.v 2 false], .t, none⟩,
        ⟨(.ldB 2 1 false false), [.t 0 false, .v 2 false], .t, none⟩,
        ⟨.len, [.t 1 false], .t, none⟩,
        ⟨(.bin .gtr false), [.t 2 false, .c (.sc (.int .i64 100))], .t, none⟩,
        ⟨.mv, [.t 3 false], .t, none⟩,
        ⟨.mv, [.v 1 false], .t, (some (4, false))⟩,
        ⟨.len, [.t 5 false], .t, (some (4, false))⟩,
        ⟨(.bin .gtr false), [.t 6 false, .c (.sc (.int .i64 40))], .t, (some (4, false))⟩,
        ⟨.pick, [.t 4 false, .c (.sc (.bool true)), .t 7 false], (.v 6), none⟩] false)
      (.cond (.v 6 false)
       (.seq
        (.reg [
          ⟨.mv, [.v 7 false], .t, none⟩,
          ⟨.mv, [.t 0 false], (.v 5), none⟩] false)
        .ret)
       .skip))
     (.seq
      (.reg [
        ⟨(.ldB 2 1 true false), [.v 2 false], .t, none⟩,
        ⟨.mv, [.v 1 false], .t, none⟩,
        ⟨(.call 17), [.t 0 false, .t 1 false], .t, none⟩,
        ⟨.mv, [.t 2 true], .t, none⟩,
        ⟨(.ext 0), [.t 3 false], .t, none⟩,
        ⟨(.ext 1), [.t 3 false], .t, none⟩,
        ⟨(.ext 2), [.t 3 false], .t, none⟩,
        ⟨(.bx 1), [.c (.agg [(.sl .full 1 [])])], (.v 3), none⟩,
        ⟨(.stB 3 1), [.v 3 false, .t 4 true], .none, none⟩,
        ⟨.mv, [.t 5 true], (.v 8), none⟩,
        ⟨.mv, [.t 6 false], (.v 10), none⟩] false)
      (.seq
       (.reg [
         ⟨(.ldB 2 1 true true), [.v 2 true], .t, none⟩,
         ⟨.mv, [.v 1 true], .t, none⟩,
         ⟨(.call 18), [.t 0 false, .t 1 false], .t, none⟩,
         ⟨.mv, [.t 2 true], .t, none⟩,
         ⟨(.ext 0), [.t 3 false], .t, none⟩,
         ⟨(.ext 1), [.t 3 false], .t, none⟩,
         ⟨(.ext 2), [.t 3 false], .t, none⟩,
         ⟨(.bx 1), [.c (.agg [(.sl .full 1 [])])], (.v 4), none⟩,
         ⟨(.stB 4 1), [.v 4 false, .t 4 true], .none, none⟩,
         ⟨.mv, [.t 5 true], (.v 9), none⟩,
         ⟨.mv, [.t 6 false], (.v 11), none⟩] false)
       (.seq
        (.reg [
          ⟨.mv, [.v 7 false], .t, none⟩,
          ⟨.mv, [.t 0 false], .t, none⟩,
          ⟨(.ldB 3 1 true true), [.v 3 true], .t, (some (1, true))⟩,
          ⟨(.ldB 4 1 true true), [.v 4 true], .t, (some (1, true))⟩,
          ⟨(.call 16), [.t 2 false, .t 3 false], .t, (some (1, true))⟩,
          ⟨.pick, [.t 1 false, .t 4 false, .c (.sc (.bool false))], .t, none⟩,
          ⟨.mv, [.t 5 false], .t, none⟩,
          ⟨.mv, [.v 8 true], .t, (some (6, true))⟩,
          ⟨.mv, [.v 9 true], .t, (some (6, true))⟩,
          ⟨(.call 19), [.t 7 false, .t 8 false], .t, (some (6, true))⟩,
          ⟨.pick, [.t 6 false, .t 9 false, .c (.sc (.bool false))], .t, none⟩,
          ⟨.mv, [.t 10 false], .t, none⟩,
          ⟨.mv, [.v 10 false], .t, (some (11, true))⟩,
          ⟨.mv, [.v 11 false], .t, (some (11, true))⟩,
          ⟨(.bin .eql false), [.t 12 false, .t 13 false], .t, (some (11, true))⟩,
          ⟨.pick, [.t 11 false, .t 14 false, .c (.sc (.bool false))], .t, none⟩,
          ⟨.mv, [.t 15 false], (.v 5), none⟩] false)
        .ret)))))) }

/-- underwood/underwoodlaw02.MemApart -/
def ir5 : FnIR := { np := 3, nv := 18, slots := [0, 1, 2, 3, 4, 5, 9, 12, 6, 45, 70, 87, 8, 7, 11, 14, 10, 13], res := [.v 8], body :=
  (.seq
   (.reg [
     ⟨(.bx 1), [.v 0 true], (.v 3), none⟩,
     ⟨(.bx 4), [.v 1 false], (.v 4), none⟩,
     ⟨(.bx 4), [.v 2 false], (.v 5), none⟩,
     ⟨.mv, [.c (.sc (.bool false))], (.v 8), none⟩] false)
   (.seq
    (.reg [
      ⟨(.call 10), [], .t, none⟩,
      ⟨.mv, [.t 0 false], (.v 13), none⟩] false)
    (.seq
     (.reg [
       ⟨(.faB 4 0), [.v 4 false], .t, none⟩,
       ⟨(.ldB 4 1 false false), [.t 0 false, .v 4 false], .t, none⟩,
       ⟨(.faB 5 0), [.v 5 false], .t, none⟩,
       ⟨(.ldB 5 1 false false), [.t 2 false, .v 5 false], .t, none⟩,
       ⟨(.bin .eql false), [.t 1 false, .t 3 false], .t, none⟩,
       ⟨.mv, [.t 4 false], .t, none⟩,
       ⟨(.faB 4 0), [.v 4 false], .t, (some (5, true))⟩,
       ⟨(.ldB 4 1 false false), [.t 6 false, .v 4 false], .t, (some (5, true))⟩,
       ⟨(.bin .eql false), [.t 7 false, .c (.sc (.int .i64 1))], .t, (some (5, true))⟩,
       ⟨.mv, [.t 8 false], .t, (some (5, true))⟩,
       ⟨(.faB 4 0), [.v 4 false], .t, (some (9, false))⟩,
       ⟨(.ldB 4 1 false false), [.t 10 false, .v 4 false], .t, (some (9, false))⟩,
       ⟨(.bin .eql false), [.t 11 false, .c (.sc (.int .i64 4))], .t, (some (9, false))⟩,
       ⟨.pick, [.t 9 false, .c (.sc (.bool true)), .t 12 false], .t, (some (5, true))⟩,
       ⟨.pick, [.t 5 false, .t 13 false, .c (.sc (.bool false))], .t, none⟩,
       ⟨.mv, [.t 14 false], (.v 12), none⟩] false)
     (.seq
      (.seq
       (.reg [
         ⟨(.faB 3 0), [.v 3 false], .t, none⟩,
         ⟨(.ldB 3 1 false false), [.t 0 false, .v 3 false], .t, none⟩,
         ⟨.len, [.t 1 false], .t, none⟩,
         ⟨(.bin .gtr false), [.t 2 false, .c (.sc (.int .i64 100))], .t, none⟩,
         ⟨.mv, [.t 3 false], .t, none⟩,
         ⟨(.faB 4 1), [.v 4 false], .t, (some (4, false))⟩,
         ⟨(.ldB 4 1 false false), [.t 5 false, .v 4 false], .t, (some (4, false))⟩,
         ⟨(.faB 5 1), [.v 5 false], .t, (some (4, false))⟩,
         ⟨(.ldB 5 1 false false), [.t 7 false, .v 5 false], .t, (some (4, false))⟩,
         ⟨(.bin .eql false), [.t 6 false, .t 8 false], .t, (some (4, false))⟩,
         ⟨.mv, [.t 9 false], .t, (some (4, false))⟩,
         ⟨.mv, [.v 12 false], .t, (some (10, true))⟩,
         ⟨(.un .not), [.t 11 false], .t, (some (10, true))⟩,
         ⟨.pick, [.t 10 false, .t 12 false, .c (.sc (.bool false))], .t, (some (4, false))⟩,
         ⟨.pick, [.t 4 false, .c (.sc (.bool true)), .t 13 false], (.v 9), none⟩] false)
       (.cond (.v 9 false)
        (.seq
         (.reg [
           ⟨.mv, [.v 13 false], .t, none⟩,
           ⟨.mv, [.t 0 false], (.v 8), none⟩] false)
         .ret)
        .skip))
      (.seq
       (.reg [
         ⟨(.ldB 3 1 true false), [.v 3 false], .t, none⟩,
         ⟨(.ldB 4 4 true false), [.v 4 false], .t, none⟩,
         ⟨(.ldB 5 4 true false), [.v 5 false], .t, none⟩,
         ⟨(.buildSl 4 [(.agg [(.sc (.int .i64 0)), (.sc (.int .i64 0)), (.sc (.int .i64 0)), (.sc (.int .i64 0))]), (.agg [(.sc (.int .i64 0)), (.sc (.int .i64 0)), (.sc (.int .i64 0)), (.sc (.int .i64 0))])] [0, 1]), [.t 1 false, .t 2 false], .t, none⟩,
         ⟨(.call 17), [.t 0 false, .t 3 false], .t, none⟩,
         ⟨.mv, [.t 4 true], .t, none⟩,
         ⟨(.ext 0), [.t 5 false], .t, none⟩,
         ⟨(.ext 1), [.t 5 false], .t, none⟩,
         ⟨(.ext 2), [.t 5 false], .t, none⟩,
         ⟨(.bx 1), [.c (.agg [(.sl .full 1 [])])], (.v 6), none⟩,
         ⟨(.stB 6 1), [.v 6 false, .t 6 true], .none, none⟩,
         ⟨.mv, [.t 7 true], (.v 16), none⟩,
         ⟨.mv, [.t 8 false], (.v 14), none⟩] false)
       (.seq
        (.reg [
          ⟨(.ldB 3 1 true true), [.v 3 true], .t, none⟩,
          ⟨(.ldB 5 4 true false), [.v 5 false], .t, none⟩,
          ⟨(.ldB 4 4 true false), [.v 4 false], .t, none⟩,
          ⟨(.buildSl 4 [(.agg [(.sc (.int .i64 0)), (.sc (.int .i64 0)), (.sc (.int .i64 0)), (.sc (.int .i64 0))]), (.agg [(.sc (.int .i64 0)), (.sc (.int .i64 0)), (.sc (.int .i64 0)), (.sc (.int .i64 0))])] [0, 1]), [.t 1 false, .t 2 false], .t, none⟩,
          ⟨(.call 17), [.t 0 false, .t 3 false], .t, none⟩,
          ⟨.mv, [.t 4 true], .t, none⟩,
          ⟨(.ext 0), [.t 5 false], .t, none⟩,
          ⟨(.ext 1), [.t 5 false], .t, none⟩,
          ⟨(.ext 2), [.t 5 false], .t, none⟩,
          ⟨(.bx 1), [.c (.agg [(.sl .full 1 [])])], (.v 7), none⟩,
          ⟨(.stB 7 1), [.v 7 false, .t 6 true], .none, none⟩,
          ⟨.mv, [.t 7 true], (.v 17), none⟩,
          ⟨.mv, [.t 8 false], (.v 15), none⟩] false)
        (.seq
         (.seq
          (.reg [
            ⟨.mv, [.v 14 false], .t, none⟩,
            ⟨(.bin .neq false), [.t 0 false, .c (.sc (.int .i64 0))], .t, none⟩,
            ⟨.mv, [.t 1 false], .t, none⟩,
            ⟨.mv, [.v 15 false], .t, (some (2, false))⟩,
            ⟨(.bin .neq false), [.t 3 false, .c (.sc (.int .i64 0))], .t, (some (2, false))⟩,
            ⟨.pick, [.t 2 false, .c (.sc (.bool true)), .t 4 false], (.v 10), none⟩] false)
          (.cond (.v 10 false)
           (.seq
            (.reg [
              ⟨.mv, [.v 13 false], .t, none⟩,
              ⟨.mv, [.t 0 false], .t, none⟩,
              ⟨.mv, [.v 14 false], .t, (some (1, true))⟩,
              ⟨(.bin .neq false), [.t 2 false, .c (.sc (.int .i64 0))], .t, (some (1, true))⟩,
              ⟨.pick, [.t 1 false, .t 3 false, .c (.sc (.bool false))], .t, none⟩,
              ⟨.mv, [.t 4 false], .t, none⟩,
              ⟨.mv, [.v 15 false], .t, (some (5, true))⟩,
              ⟨(.bin .neq false), [.t 6 false, .c (.sc (.int .i64 0))], .t, (some (5, true))⟩,
              ⟨.pick, [.t 5 false, .t 7 false, .c (.sc (.bool false))], .t, none⟩,
              ⟨.mv, [.t 8 false], (.v 8), none⟩] false)
            .ret)
           .skip))
         (.seq
          (.seq
           (.reg [
             ⟨.mv, [.v 16 false], .t, none⟩,
             ⟨.len, [.t 0 false], .t, none⟩,
             ⟨(.bin .neq false), [.t 1 false, .c (.sc (.int .i64 2))], .t, none⟩,
             ⟨.mv, [.t 2 false], .t, none⟩,
             ⟨.mv, [.v 17 false], .t, (some (3, false))⟩,
             ⟨.len, [.t 4 false], .t, (some (3, false))⟩,
             ⟨(.bin .neq false), [.t 5 false, .c (.sc (.int .i64 2))], .t, (some (3, false))⟩,
             ⟨.pick, [.t 3 false, .c (.sc (.bool true)), .t 6 false], (.v 11), none⟩] false)
           (.cond (.v 11 false)
            (.seq
             (.reg [
               ⟨.mv, [.c (.sc (.bool false))], (.v 8), none⟩] false)
             .ret)
            .skip))
          (.seq
           (.reg [
             ⟨.mv, [.v 13 false], .t, none⟩,
             ⟨.mv, [.t 0 false], .t, none⟩,
             ⟨(.ldB 6 1 true true), [.v 6 true], .t, (some (1, true))⟩,
             ⟨(.ldB 7 1 true true), [.v 7 true], .t, (some (1, true))⟩,
             ⟨(.call 16), [.t 2 false, .t 3 false], .t, (some (1, true))⟩,
             ⟨.pick, [.t 1 false, .t 4 false, .c (.sc (.bool false))], .t, none⟩,
             ⟨.mv, [.t 5 false], .t, none⟩,
             ⟨(.faB 4 1), [.v 4 false], .t, (some (6, true))⟩,
             ⟨(.ldB 4 1 false false), [.t 7 false, .v 4 false], .t, (some (6, true))⟩,
             ⟨(.faB 5 1), [.v 5 false], .t, (some (6, true))⟩,
             ⟨(.ldB 5 1 false false), [.t 9 false, .v 5 false], .t, (some (6, true))⟩,
             ⟨(.bin .eql false), [.t 8 false, .t 10 false], .t, (some (6, true))⟩,
             ⟨.mv, [.t 11 false], .t, (some (6, true))⟩,
             ⟨(.faB 4 0), [.v 4 false], .t, (some (12, true))⟩,
             ⟨(.ldB 4 1 false false), [.t 13 false, .v 4 false], .t, (some (12, true))⟩,
             ⟨(.bin .eql false), [.t 14 false, .c (.sc (.int .i64 4))], .t, (some (12, true))⟩,
             ⟨.pick, [.t 12 false, .t 15 false, .c (.sc (.bool false))], .t, (some (6, true))⟩,
             ⟨.mv, [.t 16 false], .t, (some (6, true))⟩,
             ⟨.mv, [.v 16 false], .t, (some (17, false))⟩,
             ⟨(.ia 2), [.t 18 false, .c (.sc (.int .i64 0))], .t, (some (17, false))⟩,
             ⟨(.ldP 2 true false), [.t 19 false], .t, (some (17, false))⟩,
             ⟨.mv, [.v 17 false], .t, (some (17, false))⟩,
             ⟨(.ia 2), [.t 21 false, .c (.sc (.int .i64 1))], .t, (some (17, false))⟩,
             ⟨(.ldP 2 true false), [.t 22 false], .t, (some (17, false))⟩,
             ⟨(.eqA [1, 0] false), [.t 20 false, .t 23 false], .t, (some (17, false))⟩,
             ⟨.mv, [.t 24 false], .t, (some (17, false))⟩,
             ⟨.mv, [.v 16 false], .t, (some (25, true))⟩,
             ⟨(.ia 2), [.t 26 false, .c (.sc (.int .i64 1))], .t, (some (25, true))⟩,
             ⟨(.ldP 2 true false), [.t 27 false], .t, (some (25, true))⟩,
             ⟨.mv, [.v 17 false], .t, (some (25, true))⟩,
             ⟨(.ia 2), [.t 29 false, .c (.sc (.int .i64 0))], .t, (some (25, true))⟩,
             ⟨(.ldP 2 true false), [.t 30 false], .t, (some (25, true))⟩,
             ⟨(.eqA [1, 0] false), [.t 28 false, .t 31 false], .t, (some (25, true))⟩,
             ⟨.pick, [.t 25 false, .t 32 false, .c (.sc (.bool false))], .t, (some (17, false))⟩,
             ⟨.pick, [.t 17 false, .c (.sc (.bool true)), .t 33 false], .t, (some (6, true))⟩,
             ⟨.pick, [.t 6 false, .t 34 false, .c (.sc (.bool false))], .t, none⟩,
             ⟨.mv, [.t 35 false], (.v 8), none⟩] true)
           .ret))))))))) }

def ir6_l0 : IR :=
            (.seq
             (.seq
              (.reg [
                ⟨.mv, [.v 14 false], .t, none⟩,
                ⟨(.faB 2 0), [.v 2 false], .t, none⟩,
                ⟨(.ldB 2 1 false false), [.t 1 false, .v 2 false], .t, none⟩,
                ⟨.len, [.t 2 false], .t, none⟩,
                ⟨(.bin .lss false), [.t 0 false, .t 3 false], (.v 10), none⟩] false)
              (.cond (.v 10 false)
               .skip
               (.exit 0)))
             (.seq
              (.block 1
               (.seq
                (.reg [
                  ⟨.mv, [.v 14 false], .t, none⟩,
                  ⟨(.faB 3 1), [.v 3 false], .t, none⟩,
                  ⟨(.ldB 3 1 false false), [.t 1 false, .v 3 false], .t, none⟩,
                  ⟨(.bin .neq false), [.t 0 false, .t 2 false], .t, none⟩,
                  ⟨.mv, [.t 3 false], .t, none⟩,
                  ⟨(.faB 4 0), [.v 4 false], .t, (some (4, true))⟩,
                  ⟨(.ldB 4 1 false false), [.t 5 false, .v 4 false], .t, (some (4, true))⟩,
                  ⟨.mv, [.v 14 false], .t, (some (4, true))⟩,
                  ⟨(.ia 1), [.t 6 false, .t 7 false], .t, (some (4, true))⟩,
                  ⟨(.ldP 1 false false), [.t 8 false], .t, (some (4, true))⟩,
                  ⟨(.faB 2 0), [.v 2 false], .t, (some (4, true))⟩,
                  ⟨(.ldB 2 1 false false), [.t 10 false, .v 2 false], .t, (some (4, true))⟩,
                  ⟨.mv, [.v 14 false], .t, (some (4, true))⟩,
                  ⟨(.ia 1), [.t 11 false, .t 12 false], .t, (some (4, true))⟩,
                  ⟨(.ldP 1 false false), [.t 13 false], .t, (some (4, true))⟩,
                  ⟨(.bin .neq false), [.t 9 false, .t 14 false], .t, (some (4, true))⟩,
                  ⟨.pick, [.t 4 false, .t 15 false, .c (.sc (.bool false))], (.v 11), none⟩] true)
                (.cond (.v 11 false)
                 (.seq
                  (.reg [
                    ⟨.mv, [.c (.sc (.bool false))], (.v 6), none⟩] false)
                  .ret)
                 .skip)))
              (.reg [
                ⟨.mv, [.v 14 false], .t, none⟩,
                ⟨(.bin .add false), [.t 0 false, .c (.sc (.int .i64 1))], .t, none⟩,
                ⟨.mv, [.t 1 false], (.v 14), none⟩] false)))

/-- underwood/underwoodlaw02.MemOwn -/
def ir6 : FnIR := { np := 2, nv := 16, slots := [0, 1, 2, 3, 6, 7, 4, 15, 25, 79, 84, 103, 5, 8, 9, 10], res := [.v 6], body :=
  (.seq
   (.reg [
     ⟨(.bx 1), [.v 0 true], (.v 2), none⟩,
     ⟨(.bx 4), [.v 1 false], (.v 3), none⟩,
     ⟨.mv, [.c (.sc (.bool false))], (.v 6), none⟩] false)
   (.seq
    (.reg [
      ⟨(.call 10), [], .t, none⟩,
      ⟨.mv, [.t 0 false], (.v 12), none⟩] false)
    (.seq
     (.seq
      (.reg [
        ⟨(.faB 2 0), [.v 2 false], .t, none⟩,
        ⟨(.ldB 2 1 false false), [.t 0 false, .v 2 false], .t, none⟩,
        ⟨.len, [.t 1 false], .t, none⟩,
        ⟨(.bin .gtr false), [.t 2 false, .c (.sc (.int .i64 100))], (.v 7), none⟩] false)
      (.cond (.v 7 false)
       (.seq
        (.reg [
          ⟨.mv, [.v 12 false], .t, none⟩,
          ⟨.mv, [.t 0 false], (.v 6), none⟩] false)
        .ret)
       .skip))
     (.seq
      (.reg [
        ⟨(.ldB 2 1 true false), [.v 2 false], .t, none⟩,
        ⟨(.ldB 3 4 true false), [.v 3 false], .t, none⟩,
        ⟨(.call 11), [.t 0 false, .t 1 false], .t, none⟩,
        ⟨.mv, [.t 2 true], .t, none⟩,
        ⟨(.ext 0), [.t 3 false], .t, none⟩,
        ⟨(.ext 1), [.t 3 false], .t, none⟩,
        ⟨(.ext 2), [.t 3 false], .t, none⟩,
        ⟨(.bx 1), [.c (.agg [(.sl .full 1 [])])], (.v 4), none⟩,
        ⟨(.bx 2), [.c (.agg [(.sc (.int .i64 0)), (.sc (.bool false))])], (.v 5), none⟩,
        ⟨(.stB 4 1), [.v 4 false, .t 4 true], .none, none⟩,
        ⟨(.stB 5 2), [.v 5 false, .t 5 false], .none, none⟩,
        ⟨.mv, [.t 6 false], (.v 13), none⟩] false)
      (.seq
       (.seq
        (.reg [
          ⟨.mv, [.v 13 false], .t, none⟩,
          ⟨(.bin .neq false), [.t 0 false, .c (.sc (.int .i64 0))], (.v 8), none⟩] false)
        (.cond (.v 8 false)
         (.seq
          (.reg [
            ⟨.mv, [.v 12 false], .t, none⟩,
            ⟨.mv, [.t 0 false], .t, none⟩,
            ⟨(.ldB 4 1 true true), [.v 4 true], .t, (some (1, true))⟩,
            ⟨(.ldB 2 1 true false), [.v 2 false], .t, (some (1, true))⟩,
            ⟨(.call 16), [.t 2 false, .t 3 false], .t, (some (1, true))⟩,
            ⟨.pick, [.t 1 false, .t 4 false, .c (.sc (.bool false))], .t, none⟩,
            ⟨.mv, [.t 5 false], .t, none⟩,
            ⟨(.ldB 5 2 true false), [.v 5 false], .t, (some (6, true))⟩,
            ⟨(.build [(.sc (.int .i64 0)), (.sc (.bool false))] []), [], .t, (some (6, true))⟩,
            ⟨(.eqA [1, 0] false), [.t 7 false, .t 8 false], .t, (some (6, true))⟩,
            ⟨.pick, [.t 6 false, .t 9 false, .c (.sc (.bool false))], .t, none⟩,
            ⟨.mv, [.t 10 false], .t, none⟩,
            ⟨.mv, [.v 13 false], .t, (some (11, true))⟩,
            ⟨(.bin .eql false), [.t 12 false, .c (.sc (.int .i64 1))], .t, (some (11, true))⟩,
            ⟨.mv, [.t 13 false], .t, (some (11, true))⟩,
            ⟨(.faB 3 1), [.v 3 false], .t, (some (14, false))⟩,
            ⟨(.ldB 3 1 false false), [.t 15 false, .v 3 false], .t, (some (14, false))⟩,
            ⟨(.faB 2 0), [.v 2 false], .t, (some (14, false))⟩,
            ⟨(.ldB 2 1 false true), [.t 17 false, .v 2 true], .t, (some (14, false))⟩,
            ⟨.len, [.t 18 false], .t, (some (14, false))⟩,
            ⟨(.bin .geq false), [.t 16 false, .t 19 false], .t, (some (14, false))⟩,
            ⟨.pick, [.t 14 false, .c (.sc (.bool true)), .t 20 false], .t, (some (11, true))⟩,
            ⟨.pick, [.t 11 false, .t 21 false, .c (.sc (.bool false))], .t, none⟩,
            ⟨.mv, [.t 22 false], (.v 6), none⟩] false)
          .ret)
         .skip))
       (.seq
        (.seq
         (.reg [
           ⟨(.faB 3 1), [.v 3 false], .t, none⟩,
           ⟨(.ldB 3 1 false false), [.t 0 false, .v 3 false], .t, none⟩,
           ⟨(.bin .lss false), [.t 1 false, .c (.sc (.int .i64 0))], .t, none⟩,
           ⟨.mv, [.t 2 false], .t, none⟩,
           ⟨(.faB 3 1), [.v 3 false], .t, (some (3, false))⟩,
           ⟨(.ldB 3 1 false false), [.t 4 false, .v 3 false], .t, (some (3, false))⟩,
           ⟨(.faB 2 0), [.v 2 false], .t, (some (3, false))⟩,
           ⟨(.ldB 2 1 false false), [.t 6 false, .v 2 false], .t, (some (3, false))⟩,
           ⟨.len, [.t 7 false], .t, (some (3, false))⟩,
           ⟨(.bin .geq false), [.t 5 false, .t 8 false], .t, (some (3, false))⟩,
           ⟨.pick, [.t 3 false, .c (.sc (.bool true)), .t 9 false], .t, none⟩,
           ⟨.mv, [.t 10 false], .t, none⟩,
           ⟨(.faB 4 0), [.v 4 false], .t, (some (11, false))⟩,
           ⟨(.ldB 4 1 false false), [.t 12 false, .v 4 false], .t, (some (11, false))⟩,
           ⟨.len, [.t 13 false], .t, (some (11, false))⟩,
           ⟨(.faB 2 0), [.v 2 false], .t, (some (11, false))⟩,
           ⟨(.ldB 2 1 false false), [.t 15 false, .v 2 false], .t, (some (11, false))⟩,
           ⟨.len, [.t 16 false], .t, (some (11, false))⟩,
           ⟨(.bin .neq false), [.t 14 false, .t 17 false], .t, (some (11, false))⟩,
           ⟨.pick, [.t 11 false, .c (.sc (.bool true)), .t 18 false], .t, none⟩,
           ⟨.mv, [.t 19 false], .t, none⟩,
           ⟨(.faB 5 0), [.v 5 false], .t, (some (20, false))⟩,
           ⟨(.ldB 5 1 false false), [.t 21 false, .v 5 false], .t, (some (20, false))⟩,
           ⟨(.faB 2 0), [.v 2 false], .t, (some (20, false))⟩,
           ⟨(.ldB 2 1 false false), [.t 23 false, .v 2 false], .t, (some (20, false))⟩,
           ⟨(.faB 3 1), [.v 3 false], .t, (some (20, false))⟩,
           ⟨(.ldB 3 1 false false), [.t 25 false, .v 3 false], .t, (some (20, false))⟩,
           ⟨(.ia 1), [.t 24 false, .t 26 false], .t, (some (20, false))⟩,
           ⟨(.ldP 1 false false), [.t 27 false], .t, (some (20, false))⟩,
           ⟨(.bin .neq false), [.t 22 false, .t 28 false], .t, (some (20, false))⟩,
           ⟨.pick, [.t 20 false, .c (.sc (.bool true)), .t 29 false], (.v 9), none⟩] true)
         (.cond (.v 9 false)
          (.seq
           (.reg [
             ⟨.mv, [.c (.sc (.bool false))], (.v 6), none⟩] false)
           .ret)
          .skip))
        (.seq
         (.seq
          (.reg [
            ⟨.mv, [.c (.sc (.int .i64 0))], (.v 14), none⟩] false)
          (.block 0
           (.loop ir6_l0)))
         (.seq
          (.reg [
            ⟨(.faB 3 0), [.v 3 false], .t, none⟩,
            ⟨(.ldB 3 1 false false), [.t 0 false, .v 3 false], .t, none⟩,
            ⟨(.bin .eql false), [.t 1 false, .c (.sc (.int .i64 1))], .t, none⟩,
            ⟨.mv, [.t 2 false], .t, none⟩,
            ⟨(.faB 5 1), [.v 5 false], .t, (some (3, false))⟩,
            ⟨(.ldB 5 1 false false), [.t 4 false, .v 5 false], .t, (some (3, false))⟩,
            ⟨(.un .not), [.t 5 false], .t, (some (3, false))⟩,
            ⟨.pick, [.t 3 false, .c (.sc (.bool true)), .t 6 false], .t, none⟩,
            ⟨.mv, [.t 7 false], (.v 15), none⟩] false)
          (.seq
           (.reg [
             ⟨.mv, [.v 12 false], .t, none⟩,
             ⟨.mv, [.t 0 false], .t, none⟩,
             ⟨.mv, [.v 15 false], .t, (some (1, true))⟩,
             ⟨(.un .not), [.t 2 false], .t, (some (1, true))⟩,
             ⟨.mv, [.t 3 false], .t, (some (1, true))⟩,
             ⟨(.faB 4 0), [.v 4 false], .t, (some (4, false))⟩,
             ⟨(.ldB 4 1 false false), [.t 5 false, .v 4 false], .t, (some (4, false))⟩,
             ⟨(.faB 3 1), [.v 3 false], .t, (some (4, false))⟩,
             ⟨(.ldB 3 1 false false), [.t 7 false, .v 3 false], .t, (some (4, false))⟩,
             ⟨(.ia 1), [.t 6 false, .t 8 false], .t, (some (4, false))⟩,
             ⟨(.ldP 1 false false), [.t 9 false], .t, (some (4, false))⟩,
             ⟨(.faB 2 0), [.v 2 false], .t, (some (4, false))⟩,
             ⟨(.ldB 2 1 false false), [.t 11 false, .v 2 false], .t, (some (4, false))⟩,
             ⟨(.faB 3 1), [.v 3 false], .t, (some (4, false))⟩,
             ⟨(.ldB 3 1 false false), [.t 13 false, .v 3 false], .t, (some (4, false))⟩,
             ⟨(.ia 1), [.t 12 false, .t 14 false], .t, (some (4, false))⟩,
             ⟨(.ldP 1 false false), [.t 15 false], .t, (some (4, false))⟩,
             ⟨(.bin .eql false), [.t 10 false, .t 16 false], .t, (some (4, false))⟩,
             ⟨.pick, [.t 4 false, .c (.sc (.bool true)), .t 17 false], .t, (some (1, true))⟩,
             ⟨.pick, [.t 1 false, .t 18 false, .c (.sc (.bool false))], .t, none⟩,
             ⟨.mv, [.t 19 false], .t, none⟩,
             ⟨(.faB 5 1), [.v 5 false], .t, (some (20, true))⟩,
             ⟨(.ldB 5 1 false false), [.t 21 false, .v 5 false], .t, (some (20, true))⟩,
             ⟨(.faB 3 0), [.v 3 false], .t, (some (20, true))⟩,
             ⟨(.ldB 3 1 false false), [.t 23 false, .v 3 false], .t, (some (20, true))⟩,
             ⟨(.bin .neq false), [.t 24 false, .c (.sc (.int .i64 3))], .t, (some (20, true))⟩,
             ⟨.mv, [.t 25 false], .t, (some (20, true))⟩,
             ⟨(.faB 2 0), [.v 2 false], .t, (some (26, false))⟩,
             ⟨(.ldB 2 1 false false), [.t 27 false, .v 2 false], .t, (some (26, false))⟩,
             ⟨(.faB 3 1), [.v 3 false], .t, (some (26, false))⟩,
             ⟨(.ldB 3 1 false false), [.t 29 false, .v 3 false], .t, (some (26, false))⟩,
             ⟨(.ia 1), [.t 28 false, .t 30 false], .t, (some (26, false))⟩,
             ⟨(.ldP 1 false false), [.t 31 false], .t, (some (26, false))⟩,
             ⟨(.faB 3 2), [.v 3 false], .t, (some (26, false))⟩,
             ⟨(.ldB 3 1 false false), [.t 33 false, .v 3 false], .t, (some (26, false))⟩,
             ⟨(.bin .eql false), [.t 32 false, .t 34 false], .t, (some (26, false))⟩,
             ⟨.pick, [.t 26 false, .c (.sc (.bool true)), .t 35 false], .t, (some (20, true))⟩,
             ⟨(.bin .eql true), [.t 22 false, .t 36 false], .t, (some (20, true))⟩,
             ⟨.pick, [.t 20 false, .t 37 false, .c (.sc (.bool false))], .t, none⟩,
             ⟨.mv, [.t 38 false], (.v 6), none⟩] true)
           .ret))))))))) }

/-- underwood/underwoodlaw02.MemParts -/
def ir7 : FnIR := { np := 3, nv := 19, slots := [0, 1, 2, 3, 9, 12, 15, 6, 27, 52, 69, 7, 8, 14, 11, 17, 10, 13, 16], res := [.v 7], body :=
  (.seq
   (.reg [
     ⟨(.bx 1), [.v 0 true], (.v 3), none⟩,
     ⟨.mv, [.c (.sc (.bool false))], (.v 7), none⟩] false)
   (.seq
    (.reg [
      ⟨(.call 10), [], .t, none⟩,
      ⟨.mv, [.t 0 false], (.v 11), none⟩] false)
    (.seq
     (.seq
      (.reg [
        ⟨(.faB 3 0), [.v 3 false], .t, none⟩,
        ⟨(.ldB 3 1 false false), [.t 0 false, .v 3 false], .t, none⟩,
        ⟨.len, [.t 1 false], .t, none⟩,
        ⟨(.bin .gtr false), [.t 2 false, .c (.sc (.int .i64 60))], .t, none⟩,
        ⟨.mv, [.t 3 false], .t, none⟩,
        ⟨.mv, [.v 1 false], .t, (some (4, false))⟩,
        ⟨.len, [.t 5 false], .t, (some (4, false))⟩,
        ⟨(.bin .gtr false), [.t 6 false, .c (.sc (.int .i64 30))], .t, (some (4, false))⟩,
        ⟨.pick, [.t 4 false, .c (.sc (.bool true)), .t 7 false], (.v 8), none⟩] false)
      (.cond (.v 8 false)
       (.seq
        (.reg [
          ⟨.mv, [.v 11 false], .t, none⟩,
          ⟨.mv, [.t 0 false], (.v 7), none⟩] false)
        .ret)
       .skip))
     (.seq
      (.reg [
        ⟨.mv, [.v 2 false], .t, none⟩,
        ⟨(.cvI .i64), [.t 0 false], .t, none⟩,
        ⟨.mv, [.v 1 false], .t, none⟩,
        ⟨.len, [.t 2 false], .t, none⟩,
        ⟨(.bin .add false), [.t 3 false, .c (.sc (.int .i64 1))], .t, none⟩,
        ⟨(.bin .rem false), [.t 1 false, .t 4 false], .t, none⟩,
        ⟨.mv, [.t 5 false], (.v 12), none⟩] false)
      (.seq
       (.reg [
         ⟨(.ldB 3 1 true false), [.v 3 false], .t, none⟩,
         ⟨.mv, [.v 1 false], .t, none⟩,
         ⟨(.call 17), [.t 0 false, .t 1 false], .t, none⟩,
         ⟨.mv, [.t 2 true], .t, none⟩,
         ⟨(.ext 0), [.t 3 false], .t, none⟩,
         ⟨(.ext 1), [.t 3 false], .t, none⟩,
         ⟨(.ext 2), [.t 3 false], .t, none⟩,
         ⟨(.bx 1), [.c (.agg [(.sl .full 1 [])])], (.v 4), none⟩,
         ⟨(.stB 4 1), [.v 4 false, .t 4 true], .none, none⟩,
         ⟨.mv, [.t 5 true], (.v 16), none⟩,
         ⟨.mv, [.t 6 false], (.v 14), none⟩] false)
       (.seq
        (.reg [
          ⟨(.ldB 3 1 true true), [.v 3 true], .t, none⟩,
          ⟨.mv, [.v 1 false], .t, none⟩,
          ⟨.mv, [.v 12 false], .t, none⟩,
          ⟨(.slc 4 false true false), [.t 1 false, .t 2 false], .t, none⟩,
          ⟨(.call 17), [.t 0 false, .t 3 false], .t, none⟩,
          ⟨.mv, [.t 4 true], .t, none⟩,
          ⟨(.ext 0), [.t 5 false], .t, none⟩,
          ⟨(.ext 1), [.t 5 false], .t, none⟩,
          ⟨(.ext 2), [.t 5 false], .t, none⟩,
          ⟨(.bx 1), [.c (.agg [(.sl .full 1 [])])], (.v 5), none⟩,
          ⟨(.stB 5 1), [.v 5 false, .t 6 true], .none, none⟩,
          ⟨.mv, [.t 7 true], (.v 17), none⟩,
          ⟨.mv, [.t 8 false], (.v 13), none⟩] true)
        (.seq
         (.seq
          (.reg [
            ⟨.mv, [.v 13 false], .t, none⟩,
            ⟨(.bin .neq false), [.t 0 false, .c (.sc (.int .i64 0))], (.v 9), none⟩] false)
          (.cond (.v 9 false)
           (.seq
            (.reg [
              ⟨.mv, [.v 11 false], .t, none⟩,
              ⟨.mv, [.t 0 false], .t, none⟩,
              ⟨.mv, [.v 14 false], .t, (some (1, true))⟩,
              ⟨.mv, [.v 13 false], .t, (some (1, true))⟩,
              ⟨(.bin .eql false), [.t 2 false, .t 3 false], .t, (some (1, true))⟩,
              ⟨.pick, [.t 1 false, .t 4 false, .c (.sc (.bool false))], .t, none⟩,
              ⟨.mv, [.t 5 false], (.v 7), none⟩] false)
            .ret)
           .skip))
         (.seq
          (.reg [
            ⟨(.ldB 5 1 true true), [.v 5 true], .t, none⟩,
            ⟨.mv, [.v 1 true], .t, none⟩,
            ⟨.mv, [.v 12 false], .t, none⟩,
            ⟨(.slc 4 true false false), [.t 1 false, .t 2 false], .t, none⟩,
            ⟨(.call 17), [.t 0 false, .t 3 false], .t, none⟩,
            ⟨.mv, [.t 4 true], .t, none⟩,
            ⟨(.ext 0), [.t 5 false], .t, none⟩,
            ⟨(.ext 1), [.t 5 false], .t, none⟩,
            ⟨(.ext 2), [.t 5 false], .t, none⟩,
            ⟨(.bx 1), [.c (.agg [(.sl .full 1 [])])], (.v 6), none⟩,
            ⟨(.stB 6 1), [.v 6 false, .t 6 true], .none, none⟩,
            ⟨.mv, [.t 7 true], (.v 18), none⟩,
            ⟨.mv, [.t 8 false], (.v 15), none⟩] true)
          (.seq
           (.seq
            (.reg [
              ⟨.mv, [.v 15 false], .t, none⟩,
              ⟨(.bin .neq false), [.t 0 false, .c (.sc (.int .i64 0))], (.v 10), none⟩] false)
            (.cond (.v 10 false)
             (.seq
              (.reg [
                ⟨.mv, [.v 11 false], .t, none⟩,
                ⟨.mv, [.t 0 false], .t, none⟩,
                ⟨.mv, [.v 14 false], .t, (some (1, true))⟩,
                ⟨.mv, [.v 15 false], .t, (some (1, true))⟩,
                ⟨(.bin .eql false), [.t 2 false, .t 3 false], .t, (some (1, true))⟩,
                ⟨.pick, [.t 1 false, .t 4 false, .c (.sc (.bool false))], .t, none⟩,
                ⟨.mv, [.t 5 false], (.v 7), none⟩] false)
              .ret)
             .skip))
           (.seq
            (.reg [
              ⟨.mv, [.v 11 false], .t, none⟩,
              ⟨.mv, [.t 0 false], .t, none⟩,
              ⟨.mv, [.v 14 false], .t, (some (1, true))⟩,
              ⟨(.bin .eql false), [.t 2 false, .c (.sc (.int .i64 0))], .t, (some (1, true))⟩,
              ⟨.pick, [.t 1 false, .t 3 false, .c (.sc (.bool false))], .t, none⟩,
              ⟨.mv, [.t 4 false], .t, none⟩,
              ⟨(.ldB 4 1 true true), [.v 4 true], .t, (some (5, true))⟩,
              ⟨(.ldB 6 1 true true), [.v 6 true], .t, (some (5, true))⟩,
              ⟨(.call 16), [.t 6 false, .t 7 false], .t, (some (5, true))⟩,
              ⟨.pick, [.t 5 false, .t 8 false, .c (.sc (.bool false))], .t, none⟩,
              ⟨.mv, [.t 9 false], .t, none⟩,
              ⟨.mv, [.v 16 true], .t, (some (10, true))⟩,
              ⟨(.buildSl 2 [] []), [], .t, (some (10, true))⟩,
              ⟨.mv, [.v 17 true], .t, (some (10, true))⟩,
              ⟨(.app 2 16), [.t 12 true, .t 13 false], .t, (some (10, true))⟩,
              ⟨.mv, [.v 18 true], .t, (some (10, true))⟩,
              ⟨(.app 2 16), [.t 14 true, .t 15 false], .t, (some (10, true))⟩,
              ⟨(.call 19), [.t 11 false, .t 16 false], .t, (some (10, true))⟩,
              ⟨.pick, [.t 10 false, .t 17 false, .c (.sc (.bool false))], .t, none⟩,
              ⟨.mv, [.t 18 false], (.v 7), none⟩] false)
            .ret)))))))))) }

def ir8_l0 : IR :=
           (.seq
            (.seq
             (.reg [
               ⟨.mv, [.v 10 false], .t, none⟩,
               ⟨.mv, [.v 0 false], .t, none⟩,
               ⟨.len, [.t 1 false], .t, none⟩,
               ⟨(.bin .lss false), [.t 0 false, .t 2 false], (.v 7), none⟩] false)
             (.cond (.v 7 false)
              .skip
              (.exit 0)))
            (.seq
             (.block 1
              (.seq
               (.reg [
                 ⟨(.ldB 2 1 true false), [.v 2 false], .t, none⟩,
                 ⟨.mv, [.v 0 false], .t, none⟩,
                 ⟨.mv, [.v 10 false], .t, none⟩,
                 ⟨(.ia 1), [.t 1 false, .t 2 false], .t, none⟩,
                 ⟨(.ldP 1 false false), [.t 3 false], .t, none⟩,
                 ⟨(.build [(.sc (.int .i64 0)), (.sc (.int .i64 0)), (.sc (.int .i64 0)), (.sc (.int .i64 0))] [(0, 1), (1, 1), (3, 1)]), [.c (.sc (.int .i64 4)), .c (.sc (.int .i64 1)), .t 4 false], .t, none⟩,
                 ⟨(.call 11), [.t 0 false, .t 5 false], .t, none⟩,
                 ⟨.mv, [.t 6 true], .t, none⟩,
                 ⟨(.ext 0), [.t 7 false], .t, none⟩,
                 ⟨(.ext 1), [.t 7 false], .t, none⟩,
                 ⟨(.ext 2), [.t 7 false], .t, none⟩,
                 ⟨(.bx 1), [.c (.agg [(.sl .full 1 [])])], (.v 3), none⟩,
                 ⟨(.bx 2), [.c (.agg [(.sc (.int .i64 0)), (.sc (.bool false))])], (.v 4), none⟩,
                 ⟨(.stB 3 1), [.v 3 false, .t 8 true], .none, none⟩,
                 ⟨(.stB 4 2), [.v 4 false, .t 9 false], .none, none⟩,
                 ⟨.mv, [.t 10 false], (.v 11), none⟩] true)
               (.seq
                (.seq
                 (.reg [
                   ⟨.mv, [.v 11 false], .t, none⟩,
                   ⟨(.bin .neq false), [.t 0 false, .c (.sc (.int .i64 0))], .t, none⟩,
                   ⟨.mv, [.t 1 false], .t, none⟩,
                   ⟨(.faB 4 0), [.v 4 false], .t, (some (2, false))⟩,
                   ⟨(.ldB 4 1 false false), [.t 3 false, .v 4 false], .t, (some (2, false))⟩,
                   ⟨.mv, [.v 12 false], .t, (some (2, false))⟩,
                   ⟨(.bin .neq false), [.t 4 false, .t 5 false], .t, (some (2, false))⟩,
                   ⟨.pick, [.t 2 false, .c (.sc (.bool true)), .t 6 false], .t, none⟩,
                   ⟨.mv, [.t 7 false], .t, none⟩,
                   ⟨(.faB 4 1), [.v 4 false], .t, (some (8, false))⟩,
                   ⟨(.ldB 4 1 false false), [.t 9 false, .v 4 false], .t, (some (8, false))⟩,
                   ⟨(.un .not), [.t 10 false], .t, (some (8, false))⟩,
                   ⟨.pick, [.t 8 false, .c (.sc (.bool true)), .t 11 false], (.v 8), none⟩] false)
                 (.cond (.v 8 false)
                  (.seq
                   (.reg [
                     ⟨.mv, [.c (.sc (.bool false))], (.v 5), none⟩] false)
                   .ret)
                  .skip))
                (.seq
                 (.reg [
                   ⟨(.ldB 3 1 true true), [.v 3 true], .t, none⟩,
                   ⟨(.stB 2 1), [.v 2 false, .t 0 true], .none, none⟩] false)
                 (.reg [
                   ⟨.mv, [.v 12 false], .t, none⟩,
                   ⟨.mv, [.v 0 false], .t, none⟩,
                   ⟨.mv, [.v 10 false], .t, none⟩,
                   ⟨(.ia 1), [.t 1 false, .t 2 false], .t, none⟩,
                   ⟨(.ldP 1 false false), [.t 3 false], .t, none⟩,
                   ⟨(.bin .add false), [.t 0 false, .t 4 false], .t, none⟩,
                   ⟨.mv, [.t 5 false], (.v 12), none⟩] false)))))
             (.reg [
               ⟨.mv, [.v 10 false], .t, none⟩,
               ⟨(.bin .add false), [.t 0 false, .c (.sc (.int .i64 1))], .t, none⟩,
               ⟨.mv, [.t 1 false], (.v 10), none⟩] false)))

/-- underwood/underwoodlaw02.MemSums -/
def ir8 : FnIR := { np := 2, nv := 13, slots := [0, 1, 6, 9, 10, 4, 15, 24, 50, 5, 8, 11, 7], res := [.v 5], body :=
  (.seq
   (.reg [
     ⟨.mv, [.c (.sc (.bool false))], (.v 5), none⟩] false)
   (.seq
    (.reg [
      ⟨(.call 10), [], .t, none⟩,
      ⟨.mv, [.t 0 false], (.v 9), none⟩] false)
    (.seq
     (.seq
      (.reg [
        ⟨.mv, [.v 0 false], .t, none⟩,
        ⟨.len, [.t 0 false], .t, none⟩,
        ⟨(.bin .gtr false), [.t 1 false, .c (.sc (.int .i64 40))], (.v 6), none⟩] false)
      (.cond (.v 6 false)
       (.seq
        (.reg [
          ⟨.mv, [.v 9 false], .t, none⟩,
          ⟨.mv, [.t 0 false], (.v 5), none⟩] false)
        .ret)
       .skip))
     (.seq
      (.reg [
        ⟨.mv, [.v 1 false], .t, none⟩,
        ⟨(.buildSl 1 [(.sc (.int .i64 0)), (.sc (.int .i64 0))] [0, 1]), [.c (.sc (.int .i64 0)), .t 0 false], .t, none⟩,
        ⟨(.build [(.sl .full 1 [])] [(0, 1)]), [.t 1 true], .t, none⟩,
        ⟨(.bx 1), [.c (.agg [(.sl .full 1 [])])], (.v 2), none⟩,
        ⟨(.stB 2 1), [.v 2 false, .t 2 true], .none, none⟩] false)
      (.seq
       (.reg [
         ⟨.mv, [.v 1 false], .t, none⟩,
         ⟨.mv, [.t 0 false], (.v 12), none⟩] false)
       (.seq
        (.seq
         (.reg [
           ⟨.mv, [.c (.sc (.int .i64 0))], (.v 10), none⟩] false)
         (.block 0
          (.loop ir8_l0)))
        (.seq
         (.reg [
           ⟨.mv, [.v 9 false], .t, none⟩,
           ⟨.mv, [.t 0 false], .t, none⟩,
           ⟨(.ldB 2 1 true true), [.v 2 true], .t, (some (1, true))⟩,
           ⟨.mv, [.v 12 false], .t, (some (1, true))⟩,
           ⟨(.buildSl 1 [(.sc (.int .i64 0)), (.sc (.int .i64 0))] [0, 1]), [.c (.sc (.int .i64 0)), .t 3 false], .t, (some (1, true))⟩,
           ⟨(.build [(.sl .full 1 [])] [(0, 1)]), [.t 4 true], .t, (some (1, true))⟩,
           ⟨(.call 16), [.t 2 false, .t 5 false], .t, (some (1, true))⟩,
           ⟨.pick, [.t 1 false, .t 6 false, .c (.sc (.bool false))], .t, none⟩,
           ⟨.mv, [.t 7 false], (.v 5), none⟩] false)
         .ret))))))) }

def ir9_l0 : IR :=
           (.seq
            (.seq
             (.reg [
               ⟨.mv, [.v 12 false], .t, none⟩,
               ⟨.mv, [.v 1 false], .t, none⟩,
               ⟨.len, [.t 1 false], .t, none⟩,
               ⟨(.bin .lss false), [.t 0 false, .t 2 false], (.v 7), none⟩] false)
             (.cond (.v 7 false)
              .skip
              (.exit 0)))
            (.seq
             (.block 1
              (.seq
               (.seq
                (.reg [
                  ⟨.mv, [.v 1 false], .t, none⟩,
                  ⟨.mv, [.v 12 false], .t, none⟩,
                  ⟨(.ia 1), [.t 0 false, .t 1 false], .t, none⟩,
                  ⟨(.ldP 1 false false), [.t 2 false], .t, none⟩,
                  ⟨.mv, [.v 0 false], .t, none⟩,
                  ⟨(.bin .eql false), [.t 3 false, .t 4 false], (.v 8), none⟩] false)
                (.cond (.v 8 false)
                 (.seq
                  (.reg [
                    ⟨.mv, [.v 11 false], .t, none⟩,
                    ⟨.mv, [.t 0 false], (.v 5), none⟩] false)
                  .ret)
                 .skip))
               (.seq
                (.reg [
                  ⟨(.ldB 2 1 true false), [.v 2 false], .t, none⟩,
                  ⟨.mv, [.v 0 false], .t, none⟩,
                  ⟨.mv, [.v 1 false], .t, none⟩,
                  ⟨.mv, [.v 12 false], .t, none⟩,
                  ⟨(.ia 1), [.t 2 false, .t 3 false], .t, none⟩,
                  ⟨(.ldP 1 false false), [.t 4 false], .t, none⟩,
                  ⟨(.build [(.sc (.int .i64 0)), (.sc (.int .i64 0)), (.sc (.int .i64 0)), (.sc (.int .i64 0))] [(0, 1), (2, 1), (3, 1)]), [.c (.sc (.int .i64 3)), .t 1 false, .t 5 false], .t, none⟩,
                  ⟨(.call 11), [.t 0 false, .t 6 false], .t, none⟩,
                  ⟨.mv, [.t 7 true], .t, none⟩,
                  ⟨(.ext 0), [.t 8 false], .t, none⟩,
                  ⟨(.ext 1), [.t 8 false], .t, none⟩,
                  ⟨(.ext 2), [.t 8 false], .t, none⟩,
                  ⟨(.bx 1), [.c (.agg [(.sl .full 1 [])])], (.v 3), none⟩,
                  ⟨(.bx 2), [.c (.agg [(.sc (.int .i64 0)), (.sc (.bool false))])], (.v 4), none⟩,
                  ⟨(.stB 3 1), [.v 3 false, .t 9 true], .none, none⟩,
                  ⟨(.stB 4 2), [.v 4 false, .t 10 false], .none, none⟩,
                  ⟨.mv, [.t 11 false], (.v 13), none⟩] true)
                (.seq
                 (.seq
                  (.reg [
                    ⟨.mv, [.v 13 false], .t, none⟩,
                    ⟨(.bin .neq false), [.t 0 false, .c (.sc (.int .i64 0))], .t, none⟩,
                    ⟨.mv, [.t 1 false], .t, none⟩,
                    ⟨(.faB 4 1), [.v 4 false], .t, (some (2, false))⟩,
                    ⟨(.ldB 4 1 false false), [.t 3 false, .v 4 false], .t, (some (2, false))⟩,
                    ⟨.mv, [.v 12 false], .t, (some (2, false))⟩,
                    ⟨(.bin .eql false), [.t 5 false, .c (.sc (.int .i64 0))], .t, (some (2, false))⟩,
                    ⟨(.bin .neq true), [.t 4 false, .t 6 false], .t, (some (2, false))⟩,
                    ⟨.pick, [.t 2 false, .c (.sc (.bool true)), .t 7 false], (.v 9), none⟩] false)
                  (.cond (.v 9 false)
                   (.seq
                    (.reg [
                      ⟨.mv, [.c (.sc (.bool false))], (.v 5), none⟩] false)
                    .ret)
                   .skip))
                 (.seq
                  (.reg [
                    ⟨(.ldB 3 1 true true), [.v 3 true], .t, none⟩,
                    ⟨(.stB 2 1), [.v 2 false, .t 0 true], .none, none⟩] false)
                  (.seq
                   (.reg [
                     ⟨(.faB 4 1), [.v 4 false], .t, none⟩,
                     ⟨(.ldB 4 1 false false), [.t 0 false, .v 4 false], (.v 10), none⟩] false)
                   (.cond (.v 10 false)
                    (.reg [
                      ⟨.mv, [.v 14 false], .t, none⟩,
                      ⟨(.bin .add false), [.t 0 false, .c (.sc (.int .i64 1))], .t, none⟩,
                      ⟨.mv, [.t 1 false], (.v 14), none⟩] false)
                    .skip)))))))
             (.reg [
               ⟨.mv, [.v 12 false], .t, none⟩,
               ⟨(.bin .add false), [.t 0 false, .c (.sc (.int .i64 1))], .t, none⟩,
               ⟨.mv, [.t 1 false], (.v 12), none⟩] false)))

/-- underwood/underwoodlaw02.MemOne -/
def ir9 : FnIR := { np := 2, nv := 15, slots := [0, 1, 6, 9, 10, 4, 20, 28, 36, 58, 61, 5, 8, 11, 7], res := [.v 5], body :=
  (.seq
   (.reg [
     ⟨.mv, [.c (.sc (.bool false))], (.v 5), none⟩] false)
   (.seq
    (.reg [
      ⟨(.call 10), [], .t, none⟩,
      ⟨.mv, [.t 0 false], (.v 11), none⟩] false)
    (.seq
     (.seq
      (.reg [
        ⟨.mv, [.v 1 false], .t, none⟩,
        ⟨.len, [.t 0 false], .t, none⟩,
        ⟨(.bin .gtr false), [.t 1 false, .c (.sc (.int .i64 20))], .t, none⟩,
        ⟨.mv, [.t 2 false], .t, none⟩,
        ⟨.mv, [.v 1 false], .t, (some (3, false))⟩,
        ⟨.len, [.t 4 false], .t, (some (3, false))⟩,
        ⟨(.bin .eql false), [.t 5 false, .c (.sc (.int .i64 0))], .t, (some (3, false))⟩,
        ⟨.pick, [.t 3 false, .c (.sc (.bool true)), .t 6 false], (.v 6), none⟩] false)
      (.cond (.v 6 false)
       (.seq
        (.reg [
          ⟨.mv, [.v 11 false], .t, none⟩,
          ⟨.mv, [.t 0 false], (.v 5), none⟩] false)
        .ret)
       .skip))
     (.seq
      (.reg [
        ⟨.mv, [.v 0 false], .t, none⟩,
        ⟨(.buildSl 1 [(.sc (.int .i64 0))] [0]), [.t 0 false], .t, none⟩,
        ⟨(.build [(.sl .full 1 [])] [(0, 1)]), [.t 1 true], .t, none⟩,
        ⟨(.bx 1), [.c (.agg [(.sl .full 1 [])])], (.v 2), none⟩,
        ⟨(.stB 2 1), [.v 2 false, .t 2 true], .none, none⟩] false)
      (.seq
       (.reg [
         ⟨.mv, [.c (.sc (.int .i64 0))], (.v 14), none⟩] false)
       (.seq
        (.seq
         (.reg [
           ⟨.mv, [.c (.sc (.int .i64 0))], (.v 12), none⟩] false)
         (.block 0
          (.loop ir9_l0)))
        (.seq
         (.reg [
           ⟨.mv, [.v 11 false], .t, none⟩,
           ⟨.mv, [.t 0 false], .t, none⟩,
           ⟨.mv, [.v 14 false], .t, (some (1, true))⟩,
           ⟨(.bin .eql false), [.t 2 false, .c (.sc (.int .i64 1))], .t, (some (1, true))⟩,
           ⟨.pick, [.t 1 false, .t 3 false, .c (.sc (.bool false))], .t, none⟩,
           ⟨.mv, [.t 4 false], .t, none⟩,
           ⟨(.ldB 2 1 true true), [.v 2 true], .t, (some (5, true))⟩,
           ⟨.mv, [.v 1 true], .t, (some (5, true))⟩,
           ⟨(.ia 1), [.t 7 false, .c (.sc (.int .i64 0))], .t, (some (5, true))⟩,
           ⟨(.ldP 1 false false), [.t 8 false], .t, (some (5, true))⟩,
           ⟨(.buildSl 1 [(.sc (.int .i64 0))] [0]), [.t 9 false], .t, (some (5, true))⟩,
           ⟨(.build [(.sl .full 1 [])] [(0, 1)]), [.t 10 true], .t, (some (5, true))⟩,
           ⟨(.call 16), [.t 6 false, .t 11 false], .t, (some (5, true))⟩,
           ⟨.pick, [.t 5 false, .t 12 false, .c (.sc (.bool false))], .t, none⟩,
           ⟨.mv, [.t 13 false], (.v 5), none⟩] true)
         .ret))))))) }

/-- underwood/underwoodlaw02.shown -/
def ir10 : FnIR := { np := 0, nv := 13, slots := [1, 3, 6, 7, 9, 10, 0, 43, 2, 4, 5, 8, 11], res := [.v 6], body :=
  (.seq
   (.reg [
     ⟨.mv, [.c (.sc (.bool false))], (.v 6), none⟩] false)
   (.seq
    (.reg [
      ⟨(.buildSl 1 [(.sc (.int .i64 0))] [0]), [.c (.sc (.int .i64 5))], .t, none⟩,
      ⟨(.build [(.sl .full 1 [])] [(0, 1)]), [.t 0 true], .t, none⟩,
      ⟨(.bx 1), [.c (.agg [(.sl .full 1 [])])], (.v 0), none⟩,
      ⟨(.stB 0 1), [.v 0 false, .t 1 true], .none, none⟩] false)
    (.seq
     (.reg [
       ⟨(.build [(.sc (.int .i64 0)), (.sc (.int .i64 0)), (.sc (.int .i64 0)), (.sc (.int .i64 0))] [(0, 1), (2, 1), (3, 1)]), [.c (.sc (.int .i64 3)), .c (.sc (.int .i64 5)), .c (.sc (.int .i64 7))], .t, none⟩,
       ⟨(.build [(.sc (.int .i64 0)), (.sc (.int .i64 0)), (.sc (.int .i64 0)), (.sc (.int .i64 0))] [(0, 1), (2, 1), (3, 1)]), [.c (.sc (.int .i64 3)), .c (.sc (.int .i64 5)), .c (.sc (.int .i64 7))], .t, none⟩,
       ⟨(.build [(.sc (.int .i64 0)), (.sc (.int .i64 0)), (.sc (.int .i64 0)), (.sc (.int .i64 0))] [(0, 1), (3, 1)]), [.c (.sc (.int .i64 4)), .c (.sc (.int .i64 3))], .t, none⟩,
       ⟨(.build [(.sc (.int .i64 0)), (.sc (.int .i64 0)), (.sc (.int .i64 0)), (.sc (.int .i64 0))] [(0, 1), (3, 1)]), [.c (.sc (.int .i64 5)), .c (.sc (.int .i64 1))], .t, none⟩,
       ⟨(.build [(.sc (.int .i64 0)), (.sc (.int .i64 0)), (.sc (.int .i64 0)), (.sc (.int .i64 0))] [(0, 1)]), [.c (.sc (.int .i64 1))], .t, none⟩,
       ⟨(.buildSl 4 [(.agg [(.sc (.int .i64 0)), (.sc (.int .i64 0)), (.sc (.int .i64 0)), (.sc (.int .i64 0))]), (.agg [(.sc (.int .i64 0)), (.sc (.int .i64 0)), (.sc (.int .i64 0)), (.sc (.int .i64 0))]), (.agg [(.sc (.int .i64 0)), (.sc (.int .i64 0)), (.sc (.int .i64 0)), (.sc (.int .i64 0))]), (.agg [(.sc (.int .i64 0)), (.sc (.int .i64 0)), (.sc (.int .i64 0)), (.sc (.int .i64 0))]), (.agg [(.sc (.int .i64 0)), (.sc (.int .i64 0)), (.sc (.int .i64 0)), (.sc (.int .i64 0))])] [0, 1, 2, 3, 4]), [.t 0 false, .t 1 false, .t 2 false, .t 3 false, .t 4 false], .t, none⟩,
       ⟨.mv, [.t 5 true], (.v 8), none⟩] false)
     (.seq
      (.reg [
        ⟨(.ldB 0 1 true false), [.v 0 false], .t, none⟩,
        ⟨.mv, [.v 8 false], .t, none⟩,
        ⟨(.call 17), [.t 0 false, .t 1 false], .t, none⟩,
        ⟨.mv, [.t 2 true], .t, none⟩,
        ⟨(.ext 0), [.t 3 false], .t, none⟩,
        ⟨(.ext 1), [.t 3 false], .t, none⟩,
        ⟨(.ext 2), [.t 3 false], .t, none⟩,
        ⟨(.bx 1), [.c (.agg [(.sl .full 1 [])])], (.v 1), none⟩,
        ⟨(.stB 1 1), [.v 1 false, .t 4 true], .none, none⟩,
        ⟨.mv, [.t 5 true], (.v 9), none⟩,
        ⟨.mv, [.t 6 false], (.v 10), none⟩] false)
      (.seq
       (.reg [
         ⟨(.ldB 0 1 true false), [.v 0 false], .t, none⟩,
         ⟨(.build [(.sc (.int .i64 0)), (.sc (.int .i64 0)), (.sc (.int .i64 0)), (.sc (.int .i64 0))] [(0, 1), (1, 1)]), [.c (.sc (.int .i64 1)), .c (.sc (.int .i64 1))], .t, none⟩,
         ⟨(.call 11), [.t 0 false, .t 1 false], .t, none⟩,
         ⟨.mv, [.t 2 true], .t, none⟩,
         ⟨(.ext 0), [.t 3 false], .t, none⟩,
         ⟨(.ext 1), [.t 3 false], .t, none⟩,
         ⟨(.ext 2), [.t 3 false], .t, none⟩,
         ⟨(.bx 1), [.c (.agg [(.sl .full 1 [])])], (.v 2), none⟩,
         ⟨(.bx 2), [.c (.agg [(.sc (.int .i64 0)), (.sc (.bool false))])], (.v 3), none⟩,
         ⟨(.stB 2 1), [.v 2 false, .t 4 true], .none, none⟩,
         ⟨(.stB 3 2), [.v 3 false, .t 5 false], .none, none⟩,
         ⟨.mv, [.t 6 false], (.v 11), none⟩] false)
       (.seq
        (.reg [
          ⟨(.ldB 0 1 true false), [.v 0 false], .t, none⟩,
          ⟨(.build [(.sc (.int .i64 0)), (.sc (.int .i64 0)), (.sc (.int .i64 0)), (.sc (.int .i64 0))] [(0, 1), (3, 1)]), [.c (.sc (.int .i64 1)), .c (.sc (.int .i64 1))], .t, none⟩,
          ⟨(.call 11), [.t 0 false, .t 1 false], .t, none⟩,
          ⟨.mv, [.t 2 true], .t, none⟩,
          ⟨(.ext 0), [.t 3 false], .t, none⟩,
          ⟨(.ext 1), [.t 3 false], .t, none⟩,
          ⟨(.ext 2), [.t 3 false], .t, none⟩,
          ⟨(.bx 1), [.c (.agg [(.sl .full 1 [])])], (.v 4), none⟩,
          ⟨(.bx 2), [.c (.agg [(.sc (.int .i64 0)), (.sc (.bool false))])], (.v 5), none⟩,
          ⟨(.stB 4 1), [.v 4 false, .t 4 true], .none, none⟩,
          ⟨(.stB 5 2), [.v 5 false, .t 5 false], .none, none⟩,
          ⟨.mv, [.t 6 false], (.v 12), none⟩] false)
        (.seq
         (.seq
          (.reg [
            ⟨.mv, [.v 9 false], .t, none⟩,
            ⟨.len, [.t 0 false], .t, none⟩,
            ⟨(.bin .neq false), [.t 1 false, .c (.sc (.int .i64 5))], (.v 7), none⟩] false)
          (.cond (.v 7 false)
           (.seq
            (.reg [
              ⟨.mv, [.c (.sc (.bool false))], (.v 6), none⟩] false)
            .ret)
           .skip))
         (.seq
          (.reg [
            ⟨.mv, [.v 10 false], .t, none⟩,
            ⟨(.bin .eql false), [.t 0 false, .c (.sc (.int .i64 0))], .t, none⟩,
            ⟨.mv, [.t 1 false], .t, none⟩,
            ⟨.mv, [.v 11 false], .t, (some (2, true))⟩,
            ⟨(.bin .eql false), [.t 3 false, .c (.sc (.int .i64 12))], .t, (some (2, true))⟩,
            ⟨.pick, [.t 2 false, .t 4 false, .c (.sc (.bool false))], .t, none⟩,
            ⟨.mv, [.t 5 false], .t, none⟩,
            ⟨.mv, [.v 12 false], .t, (some (6, true))⟩,
            ⟨(.bin .eql false), [.t 7 false, .c (.sc (.int .i64 1))], .t, (some (6, true))⟩,
            ⟨.pick, [.t 6 false, .t 8 false, .c (.sc (.bool false))], .t, none⟩,
            ⟨.mv, [.t 9 false], .t, none⟩,
            ⟨.mv, [.v 9 false], .t, (some (10, true))⟩,
            ⟨(.ia 2), [.t 11 false, .c (.sc (.int .i64 0))], .t, (some (10, true))⟩,
            ⟨(.ldP 2 true false), [.t 12 false], .t, (some (10, true))⟩,
            ⟨(.build [(.sc (.int .i64 0)), (.sc (.bool false))] [(0, 1), (1, 1)]), [.c (.sc (.int .i64 5)), .c (.sc (.bool true))], .t, (some (10, true))⟩,
            ⟨(.eqA [1, 0] false), [.t 13 false, .t 14 false], .t, (some (10, true))⟩,
            ⟨.pick, [.t 10 false, .t 15 false, .c (.sc (.bool false))], .t, none⟩,
            ⟨.mv, [.t 16 false], .t, none⟩,
            ⟨.mv, [.v 9 false], .t, (some (17, true))⟩,
            ⟨(.ia 2), [.t 18 false, .c (.sc (.int .i64 1))], .t, (some (17, true))⟩,
            ⟨(.ldP 2 true false), [.t 19 false], .t, (some (17, true))⟩,
            ⟨(.build [(.sc (.int .i64 0)), (.sc (.bool false))] [(0, 1)]), [.c (.sc (.int .i64 7))], .t, (some (17, true))⟩,
            ⟨(.eqA [1, 0] false), [.t 20 false, .t 21 false], .t, (some (17, true))⟩,
            ⟨.pick, [.t 17 false, .t 22 false, .c (.sc (.bool false))], .t, none⟩,
            ⟨.mv, [.t 23 false], .t, none⟩,
            ⟨.mv, [.v 9 false], .t, (some (24, true))⟩,
            ⟨(.ia 2), [.t 25 false, .c (.sc (.int .i64 2))], .t, (some (24, true))⟩,
            ⟨(.ldP 2 true false), [.t 26 false], .t, (some (24, true))⟩,
            ⟨(.build [(.sc (.int .i64 0)), (.sc (.bool false))] [(0, 1), (1, 1)]), [.c (.sc (.int .i64 7)), .c (.sc (.bool true))], .t, (some (24, true))⟩,
            ⟨(.eqA [1, 0] false), [.t 27 false, .t 28 false], .t, (some (24, true))⟩,
            ⟨.pick, [.t 24 false, .t 29 false, .c (.sc (.bool false))], .t, none⟩,
            ⟨.mv, [.t 30 false], .t, none⟩,
            ⟨.mv, [.v 9 false], .t, (some (31, true))⟩,
            ⟨(.ia 2), [.t 32 false, .c (.sc (.int .i64 3))], .t, (some (31, true))⟩,
            ⟨(.fa 0), [.t 33 false], .t, (some (31, true))⟩,
            ⟨(.ldP 1 false false), [.t 34 false], .t, (some (31, true))⟩,
            ⟨(.bin .eql false), [.t 35 false, .c (.sc (.int .i64 10))], .t, (some (31, true))⟩,
            ⟨.pick, [.t 31 false, .t 36 false, .c (.sc (.bool false))], .t, none⟩,
            ⟨.mv, [.t 37 false], .t, none⟩,
            ⟨.mv, [.v 9 true], .t, (some (38, true))⟩,
            ⟨(.ia 2), [.t 39 false, .c (.sc (.int .i64 4))], .t, (some (38, true))⟩,
            ⟨(.fa 0), [.t 40 false], .t, (some (38, true))⟩,
            ⟨(.ldP 1 false false), [.t 41 false], .t, (some (38, true))⟩,
            ⟨(.bin .eql false), [.t 42 false, .c (.sc (.int .i64 1))], .t, (some (38, true))⟩,
            ⟨.pick, [.t 38 false, .t 43 false, .c (.sc (.bool false))], .t, none⟩,
            ⟨.mv, [.t 44 false], .t, none⟩,
            ⟨(.ldB 1 1 true false), [.v 1 false], .t, (some (45, true))⟩,
            ⟨(.buildSl 1 [(.sc (.int .i64 0))] [0]), [.c (.sc (.int .i64 1))], .t, (some (45, true))⟩,
            ⟨(.build [(.sl .full 1 [])] [(0, 1)]), [.t 47 true], .t, (some (45, true))⟩,
            ⟨(.call 15), [.t 46 false, .t 48 false], .t, (some (45, true))⟩,
            ⟨.pick, [.t 45 false, .t 49 false, .c (.sc (.bool false))], .t, none⟩,
            ⟨.mv, [.t 50 false], .t, none⟩,
            ⟨.mv, [.v 8 true], .t, (some (51, true))⟩,
            ⟨(.ia 4), [.t 52 false, .c (.sc (.int .i64 0))], .t, (some (51, true))⟩,
            ⟨(.ldP 4 true false), [.t 53 false], .t, (some (51, true))⟩,
            ⟨(.call 13), [.t 54 false], .t, (some (51, true))⟩,
            ⟨.pick, [.t 51 false, .t 55 false, .c (.sc (.bool false))], .t, none⟩,
            ⟨.mv, [.t 56 false], .t, none⟩,
            ⟨(.ldB 0 1 true true), [.v 0 true], .t, (some (57, true))⟩,
            ⟨(.ldB 1 1 true true), [.v 1 true], .t, (some (57, true))⟩,
            ⟨(.call 15), [.t 58 false, .t 59 false], .t, (some (57, true))⟩,
            ⟨(.un .not), [.t 60 false], .t, (some (57, true))⟩,
            ⟨.pick, [.t 57 false, .t 61 false, .c (.sc (.bool false))], .t, none⟩,
            ⟨.mv, [.t 62 false], (.v 6), none⟩] false)
          .ret)))))))) }

/-- underwood/mem.Do -/
def ir11 : FnIR := { np := 2, nv := 15, slots := [0, 1, 2, 3, 4, 5, 10, 6, 14, 22, 42, 7, 9, 8, 11], res := [.b 4 1 true, .b 5 2 true, .v 7], body :=
  (.seq
   (.reg [
     ⟨(.bx 1), [.v 0 true], (.v 2), none⟩,
     ⟨(.bx 4), [.v 1 false], (.v 3), none⟩,
     ⟨(.bx 1), [.c (.agg [(.sl .full 1 [])])], (.v 4), none⟩,
     ⟨(.bx 2), [.c (.agg [(.sc (.int .i64 0)), (.sc (.bool false))])], (.v 5), none⟩,
     ⟨.mv, [.c (.sc (.int .i64 0))], (.v 7), none⟩] false)
   (.seq
    (.seq
     (.reg [
       ⟨(.ldB 3 4 true false), [.v 3 false], .t, none⟩,
       ⟨(.call 13), [.t 0 false], .t, none⟩,
       ⟨(.un .not), [.t 1 false], (.v 8), none⟩] false)
     (.cond (.v 8 false)
      (.seq
       (.reg [
         ⟨(.ldB 2 1 true true), [.v 2 true], .t, none⟩,
         ⟨(.build [(.sc (.int .i64 0)), (.sc (.bool false))] []), [], .t, none⟩,
         ⟨(.stB 4 1), [.v 4 false, .t 0 true], .none, none⟩,
         ⟨(.stB 5 2), [.v 5 false, .t 1 false], .none, none⟩,
         ⟨.mv, [.c (.sc (.int .i64 1))], (.v 7), none⟩] false)
       .ret)
      .skip))
    (.seq
     (.seq
      (.reg [
        ⟨(.faB 3 1), [.v 3 false], .t, none⟩,
        ⟨(.ldB 3 1 false false), [.t 0 false, .v 3 false], .t, none⟩,
        ⟨(.faB 2 0), [.v 2 false], .t, none⟩,
        ⟨(.ldB 2 1 false false), [.t 2 false, .v 2 false], .t, none⟩,
        ⟨.len, [.t 3 false], .t, none⟩,
        ⟨(.bin .geq false), [.t 1 false, .t 4 false], (.v 9), none⟩] false)
      (.cond (.v 9 false)
       (.seq
        (.reg [
          ⟨(.ldB 2 1 true true), [.v 2 true], .t, none⟩,
          ⟨(.build [(.sc (.int .i64 0)), (.sc (.bool false))] []), [], .t, none⟩,
          ⟨(.stB 4 1), [.v 4 false, .t 0 true], .none, none⟩,
          ⟨(.stB 5 2), [.v 5 false, .t 1 false], .none, none⟩,
          ⟨.mv, [.c (.sc (.int .i64 12))], (.v 7), none⟩] false)
        .ret)
       .skip))
     (.seq
      (.reg [
        ⟨(.faB 2 0), [.v 2 false], .t, none⟩,
        ⟨(.ldB 2 1 false false), [.t 0 false, .v 2 false], .t, none⟩,
        ⟨(.faB 3 1), [.v 3 false], .t, none⟩,
        ⟨(.ldB 3 1 false false), [.t 2 false, .v 3 false], .t, none⟩,
        ⟨(.ia 1), [.t 1 false, .t 3 false], .t, none⟩,
        ⟨(.ldP 1 false false), [.t 4 false], .t, none⟩,
        ⟨.mv, [.t 5 false], (.v 11), none⟩] false)
      (.seq
       (.reg [
         ⟨.mv, [.v 11 false], .t, none⟩,
         ⟨(.ldB 3 4 true false), [.v 3 false], .t, none⟩,
         ⟨(.call 20), [.t 0 false, .t 1 false], .t, none⟩,
         ⟨.mv, [.t 2 false], .t, none⟩,
         ⟨(.ext 0), [.t 3 false], .t, none⟩,
         ⟨(.ext 1), [.t 3 false], .t, none⟩,
         ⟨.mv, [.t 4 false], (.v 13), none⟩,
         ⟨.mv, [.t 5 false], (.v 12), none⟩] false)
       (.seq
        (.reg [
          ⟨.mv, [.v 11 false], .t, none⟩,
          ⟨.mv, [.v 12 false], .t, none⟩,
          ⟨(.build [(.sc (.int .i64 0)), (.sc (.bool false))] [(0, 1), (1, 1)]), [.t 0 false, .t 1 false], .t, none⟩,
          ⟨(.bx 2), [.c (.agg [(.sc (.int .i64 0)), (.sc (.bool false))])], (.v 6), none⟩,
          ⟨(.stB 6 2), [.v 6 false, .t 2 false], .none, none⟩] false)
        (.seq
         (.seq
          (.reg [
            ⟨.mv, [.v 13 false], .t, none⟩,
            ⟨.mv, [.v 11 false], .t, none⟩,
            ⟨(.bin .eql false), [.t 0 false, .t 1 false], (.v 10), none⟩] false)
          (.cond (.v 10 false)
           (.seq
            (.reg [
              ⟨(.ldB 2 1 true true), [.v 2 true], .t, none⟩,
              ⟨(.ldB 6 2 true false), [.v 6 false], .t, none⟩,
              ⟨(.stB 4 1), [.v 4 false, .t 0 true], .none, none⟩,
              ⟨(.stB 5 2), [.v 5 false, .t 1 false], .none, none⟩,
              ⟨.mv, [.c (.sc (.int .i64 0))], (.v 7), none⟩] true)
            .ret)
           .skip))
         (.seq
          (.reg [
            ⟨(.faB 2 0), [.v 2 false], .t, none⟩,
            ⟨(.ldB 2 1 false false), [.t 0 false, .v 2 false], .t, none⟩,
            ⟨.len, [.t 1 false], .t, none⟩,
            ⟨(.mkSl 1 8 false [(.sc (.int .i64 0))]), [.t 2 false, .t 2 false], .t, none⟩,
            ⟨.mv, [.t 3 true], (.v 14), none⟩] false)
          (.seq
           (.reg [
             ⟨.mv, [.v 14 false], .t, none⟩,
             ⟨(.faB 2 0), [.v 2 false], .t, none⟩,
             ⟨(.ldB 2 1 false true), [.t 1 false, .v 2 true], .t, none⟩,
             ⟨(.cpy 1), [.t 0 false, .t 2 false], .t, none⟩] false)
           (.seq
            (.reg [
              ⟨.mv, [.v 14 false], .t, none⟩,
              ⟨(.faB 3 1), [.v 3 false], .t, none⟩,
              ⟨(.ldB 3 1 false false), [.t 1 false, .v 3 false], .t, none⟩,
              ⟨.mv, [.v 13 false], .t, none⟩,
              ⟨(.ia 1), [.t 0 false, .t 2 false], .t, none⟩,
              ⟨(.stP 1), [.t 4 false, .t 3 false], .none, none⟩] false)
            (.seq
             (.reg [
               ⟨.mv, [.v 14 true], .t, none⟩,
               ⟨(.build [(.sl .full 1 [])] [(0, 1)]), [.t 0 true], .t, none⟩,
               ⟨(.ldB 6 2 true false), [.v 6 false], .t, none⟩,
               ⟨(.stB 4 1), [.v 4 false, .t 1 true], .none, none⟩,
               ⟨(.stB 5 2), [.v 5 false, .t 2 false], .none, none⟩,
               ⟨.mv, [.c (.sc (.int .i64 0))], (.v 7), none⟩] true)
             .ret))))))))))) }

/-- underwood/underwoodref02.Do -/
def ir12 : FnIR := { np := 2, nv := 15, slots := [0, 1, 2, 3, 4, 5, 6, 13, 21, 32, 44, 52, 7, 8, 9], res := [.b 4 1 true, .b 5 2 true, .v 6], body :=
  (.seq
   (.reg [
     ⟨(.bx 1), [.v 0 true], (.v 2), none⟩,
     ⟨(.bx 4), [.v 1 false], (.v 3), none⟩,
     ⟨(.bx 1), [.c (.agg [(.sl .full 1 [])])], (.v 4), none⟩,
     ⟨(.bx 2), [.c (.agg [(.sc (.int .i64 0)), (.sc (.bool false))])], (.v 5), none⟩,
     ⟨.mv, [.c (.sc (.int .i64 0))], (.v 6), none⟩] false)
   (.seq
    (.reg [
      ⟨(.ldB 3 4 true false), [.v 3 false], .t, none⟩,
      ⟨(.call 14), [.t 0 false], .t, none⟩,
      ⟨.mv, [.t 1 false], (.v 12), none⟩] false)
    (.seq
     (.seq
      (.reg [
        ⟨.mv, [.v 12 false], .t, none⟩,
        ⟨(.un .not), [.t 0 false], (.v 7), none⟩] false)
      (.cond (.v 7 false)
       (.seq
        (.reg [
          ⟨(.ldB 2 1 true true), [.v 2 true], .t, none⟩,
          ⟨(.build [(.sc (.int .i64 0)), (.sc (.bool false))] []), [], .t, none⟩,
          ⟨(.stB 4 1), [.v 4 false, .t 0 true], .none, none⟩,
          ⟨(.stB 5 2), [.v 5 false, .t 1 false], .none, none⟩,
          ⟨.mv, [.c (.sc (.int .i64 1))], (.v 6), none⟩] false)
        .ret)
       .skip))
     (.seq
      (.seq
       (.reg [
         ⟨(.faB 3 1), [.v 3 false], .t, none⟩,
         ⟨(.ldB 3 1 false false), [.t 0 false, .v 3 false], .t, none⟩,
         ⟨(.faB 2 0), [.v 2 false], .t, none⟩,
         ⟨(.ldB 2 1 false false), [.t 2 false, .v 2 false], .t, none⟩,
         ⟨.len, [.t 3 false], .t, none⟩,
         ⟨(.bin .geq false), [.t 1 false, .t 4 false], (.v 8), none⟩] false)
       (.cond (.v 8 false)
        (.seq
         (.reg [
           ⟨(.ldB 2 1 true true), [.v 2 true], .t, none⟩,
           ⟨(.build [(.sc (.int .i64 0)), (.sc (.bool false))] []), [], .t, none⟩,
           ⟨(.stB 4 1), [.v 4 false, .t 0 true], .none, none⟩,
           ⟨(.stB 5 2), [.v 5 false, .t 1 false], .none, none⟩,
           ⟨.mv, [.c (.sc (.int .i64 12))], (.v 6), none⟩] false)
         .ret)
        .skip))
      (.seq
       (.reg [
         ⟨(.faB 2 0), [.v 2 false], .t, none⟩,
         ⟨(.ldB 2 1 false false), [.t 0 false, .v 2 false], .t, none⟩,
         ⟨(.faB 3 1), [.v 3 false], .t, none⟩,
         ⟨(.ldB 3 1 false false), [.t 2 false, .v 3 false], .t, none⟩,
         ⟨(.ia 1), [.t 1 false, .t 3 false], .t, none⟩,
         ⟨(.ldP 1 false false), [.t 4 false], .t, none⟩,
         ⟨.mv, [.t 5 false], (.v 13), none⟩] false)
       (.seq
        (.seq
         (.reg [
           ⟨(.faB 3 0), [.v 3 false], .t, none⟩,
           ⟨(.ldB 3 1 false false), [.t 0 false, .v 3 false], .t, none⟩,
           ⟨(.bin .eql false), [.t 1 false, .c (.sc (.int .i64 1))], (.v 9), none⟩] false)
         (.cond (.v 9 false)
          (.seq
           (.reg [
             ⟨(.ldB 2 1 true true), [.v 2 true], .t, none⟩,
             ⟨.mv, [.v 13 false], .t, none⟩,
             ⟨(.build [(.sc (.int .i64 0)), (.sc (.bool false))] [(0, 1), (1, 1)]), [.t 1 false, .c (.sc (.bool true))], .t, none⟩,
             ⟨(.stB 4 1), [.v 4 false, .t 0 true], .none, none⟩,
             ⟨(.stB 5 2), [.v 5 false, .t 2 false], .none, none⟩,
             ⟨.mv, [.c (.sc (.int .i64 0))], (.v 6), none⟩] false)
           .ret)
          .skip))
        (.seq
         (.seq
          (.reg [
            ⟨(.faB 3 0), [.v 3 false], .t, none⟩,
            ⟨(.ldB 3 1 false false), [.t 0 false, .v 3 false], .t, none⟩,
            ⟨(.bin .eql false), [.t 1 false, .c (.sc (.int .i64 3))], .t, none⟩,
            ⟨.mv, [.t 2 false], .t, none⟩,
            ⟨.mv, [.v 13 false], .t, (some (3, true))⟩,
            ⟨(.faB 3 2), [.v 3 false], .t, (some (3, true))⟩,
            ⟨(.ldB 3 1 false false), [.t 5 false, .v 3 false], .t, (some (3, true))⟩,
            ⟨(.bin .neq false), [.t 4 false, .t 6 false], .t, (some (3, true))⟩,
            ⟨.pick, [.t 3 false, .t 7 false, .c (.sc (.bool false))], (.v 10), none⟩] false)
          (.cond (.v 10 false)
           (.seq
            (.reg [
              ⟨(.ldB 2 1 true true), [.v 2 true], .t, none⟩,
              ⟨.mv, [.v 13 false], .t, none⟩,
              ⟨(.build [(.sc (.int .i64 0)), (.sc (.bool false))] [(0, 1)]), [.t 1 false], .t, none⟩,
              ⟨(.stB 4 1), [.v 4 false, .t 0 true], .none, none⟩,
              ⟨(.stB 5 2), [.v 5 false, .t 2 false], .none, none⟩,
              ⟨.mv, [.c (.sc (.int .i64 0))], (.v 6), none⟩] false)
            .ret)
           .skip))
         (.seq
          (.reg [
            ⟨(.faB 3 3), [.v 3 false], .t, none⟩,
            ⟨(.ldB 3 1 false false), [.t 0 false, .v 3 false], .t, none⟩,
            ⟨.mv, [.t 1 false], (.v 14), none⟩] false)
          (.seq
           (.seq
            (.reg [
              ⟨(.faB 3 0), [.v 3 false], .t, none⟩,
              ⟨(.ldB 3 1 false false), [.t 0 false, .v 3 false], .t, none⟩,
              ⟨(.bin .eql false), [.t 1 false, .c (.sc (.int .i64 4))], (.v 11), none⟩] false)
            (.cond (.v 11 false)
             (.reg [
               ⟨.mv, [.v 13 false], .t, none⟩,
               ⟨(.faB 3 3), [.v 3 false], .t, none⟩,
               ⟨(.ldB 3 1 false false), [.t 1 false, .v 3 false], .t, none⟩,
               ⟨(.bin .add false), [.t 0 false, .t 2 false], .t, none⟩,
               ⟨.mv, [.t 3 false], (.v 14), none⟩] false)
             .skip))
           (.seq
            (.reg [
              ⟨(.ldB 2 1 true true), [.v 2 true], .t, none⟩,
              ⟨(.faB 3 1), [.v 3 false], .t, none⟩,
              ⟨(.ldB 3 1 false false), [.t 1 false, .v 3 false], .t, none⟩,
              ⟨.mv, [.v 14 false], .t, none⟩,
              ⟨(.call 21), [.t 0 false, .t 2 false, .t 3 false], .t, none⟩,
              ⟨.mv, [.v 13 false], .t, none⟩,
              ⟨(.build [(.sc (.int .i64 0)), (.sc (.bool false))] [(0, 1), (1, 1)]), [.t 5 false, .c (.sc (.bool true))], .t, none⟩,
              ⟨(.stB 4 1), [.v 4 false, .t 4 true], .none, none⟩,
              ⟨(.stB 5 2), [.v 5 false, .t 6 false], .none, none⟩,
              ⟨.mv, [.c (.sc (.int .i64 0))], (.v 6), none⟩] false)
            .ret)))))))))) }

/-- underwood/mem.Right -/
def ir13 : FnIR := { np := 1, nv := 8, slots := [0, 1, 2, 9, 11, 15, 8, 3], res := [.v 2], body :=
  (.seq
   (.reg [
     ⟨(.bx 4), [.v 0 false], (.v 1), none⟩,
     ⟨.mv, [.c (.sc (.bool false))], (.v 2), none⟩] false)
   (.seq
    (.reg [
      ⟨(.faB 1 1), [.v 1 false], .t, none⟩,
      ⟨(.ldB 1 1 false false), [.t 0 false, .v 1 false], .t, none⟩,
      ⟨(.bin .geq false), [.t 1 false, .c (.sc (.int .i64 0))], .t, none⟩,
      ⟨.mv, [.t 2 false], (.v 7), none⟩] false)
    (.seq
     (.seq
      (.reg [
        ⟨(.faB 1 0), [.v 1 false], .t, none⟩,
        ⟨(.ldB 1 1 false false), [.t 0 false, .v 1 false], (.v 6), none⟩] false)
      (.block 0
       (.seq
        (.block 4
         (.seq
          (.block 3
           (.seq
            (.block 2
             (.seq
              (.block 1
               (.seq
                (.seq
                 (.seq
                  (.reg [
                    ⟨(.bin .eql false), [.v 6 false, .c (.sc (.int .i64 1))], .t, none⟩,
                    ⟨.mv, [.t 0 false], (.v 3), none⟩] false)
                  (.cond (.v 3 false)
                   (.exit 1)
                   .skip))
                 (.seq
                  (.seq
                   (.seq
                    (.reg [
                      ⟨(.bin .eql false), [.v 6 false, .c (.sc (.int .i64 2))], .t, none⟩,
                      ⟨.mv, [.t 0 false], (.v 4), none⟩] false)
                    (.cond (.v 4 false)
                     .skip
                     (.seq
                      (.reg [
                        ⟨(.bin .eql false), [.v 6 false, .c (.sc (.int .i64 4))], .t, none⟩,
                        ⟨.mv, [.t 0 false], (.v 4), none⟩] false)
                      (.cond (.v 4 false)
                       .skip
                       (.reg [
                         ⟨(.bin .eql false), [.v 6 false, .c (.sc (.int .i64 5))], .t, none⟩,
                         ⟨.mv, [.t 0 false], (.v 4), none⟩] false)))))
                   (.cond (.v 4 false)
                    (.exit 2)
                    .skip))
                  (.seq
                   (.reg [
                     ⟨(.bin .eql false), [.v 6 false, .c (.sc (.int .i64 3))], .t, none⟩,
                     ⟨.mv, [.t 0 false], (.v 5), none⟩] false)
                   (.cond (.v 5 false)
                    (.exit 3)
                    .skip))))
                (.exit 4)))
              (.reg [
                ⟨.mv, [.v 7 false], .t, none⟩,
                ⟨.mv, [.t 0 false], .t, none⟩,
                ⟨(.faB 1 3), [.v 1 false], .t, (some (1, true))⟩,
                ⟨(.ldB 1 1 false false), [.t 2 false, .v 1 false], .t, (some (1, true))⟩,
                ⟨(.bin .eql false), [.t 3 false, .c (.sc (.int .i64 0))], .t, (some (1, true))⟩,
                ⟨.pick, [.t 1 false, .t 4 false, .c (.sc (.bool false))], .t, none⟩,
                ⟨.mv, [.t 5 false], (.v 7), none⟩] false)))
            (.seq
             (.reg [
               ⟨.mv, [.v 7 false], .t, none⟩,
               ⟨.mv, [.t 0 false], .t, none⟩,
               ⟨(.faB 1 2), [.v 1 false], .t, (some (1, true))⟩,
               ⟨(.ldB 1 1 false false), [.t 2 false, .v 1 false], .t, (some (1, true))⟩,
               ⟨(.bin .eql false), [.t 3 false, .c (.sc (.int .i64 0))], .t, (some (1, true))⟩,
               ⟨.pick, [.t 1 false, .t 4 false, .c (.sc (.bool false))], .t, none⟩,
               ⟨.mv, [.t 5 false], (.v 7), none⟩] false)
             (.exit 0))))
          (.exit 0)))
        (.seq
         (.reg [
           ⟨.mv, [.c (.sc (.bool false))], (.v 7), none⟩] false)
         (.exit 0)))))
     (.seq
      (.reg [
        ⟨.mv, [.v 7 false], .t, none⟩,
        ⟨.mv, [.t 0 false], (.v 2), none⟩] false)
      .ret)))) }

/-- underwood/underwoodref02.Right -/
def ir14 : FnIR := { np := 1, nv := 4, slots := [0, 1, 2, 15], res := [.v 2], body :=
  (.seq
   (.reg [
     ⟨(.bx 4), [.v 0 false], (.v 1), none⟩,
     ⟨.mv, [.c (.sc (.bool false))], (.v 2), none⟩] false)
   (.seq
    (.seq
     (.reg [
       ⟨(.faB 1 0), [.v 1 false], .t, none⟩,
       ⟨(.ldB 1 1 false false), [.t 0 false, .v 1 false], .t, none⟩,
       ⟨(.bin .lss false), [.t 1 false, .c (.sc (.int .i64 1))], .t, none⟩,
       ⟨.mv, [.t 2 false], .t, none⟩,
       ⟨(.faB 1 0), [.v 1 false], .t, (some (3, false))⟩,
       ⟨(.ldB 1 1 false false), [.t 4 false, .v 1 false], .t, (some (3, false))⟩,
       ⟨(.bin .gtr false), [.t 5 false, .c (.sc (.int .i64 5))], .t, (some (3, false))⟩,
       ⟨.pick, [.t 3 false, .c (.sc (.bool true)), .t 6 false], .t, none⟩,
       ⟨.mv, [.t 7 false], .t, none⟩,
       ⟨(.faB 1 1), [.v 1 false], .t, (some (8, false))⟩,
       ⟨(.ldB 1 1 false false), [.t 9 false, .v 1 false], .t, (some (8, false))⟩,
       ⟨(.bin .lss false), [.t 10 false, .c (.sc (.int .i64 0))], .t, (some (8, false))⟩,
       ⟨.pick, [.t 8 false, .c (.sc (.bool true)), .t 11 false], (.v 3), none⟩] false)
     (.cond (.v 3 false)
      (.seq
       (.reg [
         ⟨.mv, [.c (.sc (.bool false))], (.v 2), none⟩] false)
       .ret)
      .skip))
    (.seq
     (.reg [
       ⟨(.faB 1 0), [.v 1 false], .t, none⟩,
       ⟨(.ldB 1 1 false false), [.t 0 false, .v 1 false], .t, none⟩,
       ⟨(.bin .eql false), [.t 1 false, .c (.sc (.int .i64 3))], .t, none⟩,
       ⟨.mv, [.t 2 false], .t, none⟩,
       ⟨(.faB 1 2), [.v 1 false], .t, (some (3, false))⟩,
       ⟨(.ldB 1 1 false false), [.t 4 false, .v 1 false], .t, (some (3, false))⟩,
       ⟨(.bin .eql false), [.t 5 false, .c (.sc (.int .i64 0))], .t, (some (3, false))⟩,
       ⟨.pick, [.t 3 false, .c (.sc (.bool true)), .t 6 false], .t, none⟩,
       ⟨.mv, [.t 7 false], .t, none⟩,
       ⟨(.faB 1 0), [.v 1 false], .t, (some (8, true))⟩,
       ⟨(.ldB 1 1 false false), [.t 9 false, .v 1 false], .t, (some (8, true))⟩,
       ⟨(.bin .neq false), [.t 10 false, .c (.sc (.int .i64 1))], .t, (some (8, true))⟩,
       ⟨.mv, [.t 11 false], .t, (some (8, true))⟩,
       ⟨(.faB 1 3), [.v 1 false], .t, (some (12, false))⟩,
       ⟨(.ldB 1 1 false false), [.t 13 false, .v 1 false], .t, (some (12, false))⟩,
       ⟨(.bin .eql false), [.t 14 false, .c (.sc (.int .i64 0))], .t, (some (12, false))⟩,
       ⟨.pick, [.t 12 false, .c (.sc (.bool true)), .t 15 false], .t, (some (8, true))⟩,
       ⟨.pick, [.t 8 false, .t 16 false, .c (.sc (.bool false))], .t, none⟩,
       ⟨.mv, [.t 17 false], (.v 2), none⟩] false)
     .ret))) }

/-- underwood/mem.Same -/
def ir15 : FnIR := { np := 2, nv := 5, slots := [0, 1, 2, 3, 4], res := [.v 4], body :=
  (.seq
   (.reg [
     ⟨(.bx 1), [.v 0 true], (.v 2), none⟩,
     ⟨(.bx 1), [.v 1 true], (.v 3), none⟩,
     ⟨.mv, [.c (.sc (.bool false))], (.v 4), none⟩] false)
   (.seq
    (.reg [
      ⟨(.faB 2 0), [.v 2 false], .t, none⟩,
      ⟨(.ldB 2 1 false true), [.t 0 false, .v 2 true], .t, none⟩,
      ⟨(.faB 3 0), [.v 3 false], .t, none⟩,
      ⟨(.ldB 3 1 false true), [.t 2 false, .v 3 true], .t, none⟩,
      ⟨(.call 22), [.t 1 false, .t 3 false], .t, none⟩,
      ⟨.mv, [.t 4 false], (.v 4), none⟩] false)
    .ret)) }

def ir16_l0 : IR :=
        (.seq
         (.seq
          (.reg [
            ⟨.mv, [.v 8 false], .t, none⟩,
            ⟨(.faB 2 0), [.v 2 false], .t, none⟩,
            ⟨(.ldB 2 1 false false), [.t 1 false, .v 2 false], .t, none⟩,
            ⟨.len, [.t 2 false], .t, none⟩,
            ⟨(.bin .lss false), [.t 0 false, .t 3 false], (.v 6), none⟩] false)
          (.cond (.v 6 false)
           .skip
           (.exit 0)))
         (.seq
          (.block 1
           (.seq
            (.reg [
              ⟨(.faB 2 0), [.v 2 false], .t, none⟩,
              ⟨(.ldB 2 1 false false), [.t 0 false, .v 2 false], .t, none⟩,
              ⟨.mv, [.v 8 false], .t, none⟩,
              ⟨(.ia 1), [.t 1 false, .t 2 false], .t, none⟩,
              ⟨(.ldP 1 false false), [.t 3 false], .t, none⟩,
              ⟨(.faB 3 0), [.v 3 false], .t, none⟩,
              ⟨(.ldB 3 1 false false), [.t 5 false, .v 3 false], .t, none⟩,
              ⟨.mv, [.v 8 false], .t, none⟩,
              ⟨(.ia 1), [.t 6 false, .t 7 false], .t, none⟩,
              ⟨(.ldP 1 false false), [.t 8 false], .t, none⟩,
              ⟨(.bin .neq false), [.t 4 false, .t 9 false], (.v 7), none⟩] true)
            (.cond (.v 7 false)
             (.seq
              (.reg [
                ⟨.mv, [.c (.sc (.bool false))], (.v 4), none⟩] false)
              .ret)
             .skip)))
          (.reg [
            ⟨.mv, [.v 8 false], .t, none⟩,
            ⟨(.bin .add false), [.t 0 false, .c (.sc (.int .i64 1))], .t, none⟩,
            ⟨.mv, [.t 1 false], (.v 8), none⟩] false)))

/-- underwood/underwoodref02.Same -/
def ir16 : FnIR := { np := 2, nv := 9, slots := [0, 1, 2, 3, 4, 12, 17, 30, 5], res := [.v 4], body :=
  (.seq
   (.reg [
     ⟨(.bx 1), [.v 0 true], (.v 2), none⟩,
     ⟨(.bx 1), [.v 1 true], (.v 3), none⟩,
     ⟨.mv, [.c (.sc (.bool false))], (.v 4), none⟩] false)
   (.seq
    (.seq
     (.reg [
       ⟨(.faB 2 0), [.v 2 false], .t, none⟩,
       ⟨(.ldB 2 1 false false), [.t 0 false, .v 2 false], .t, none⟩,
       ⟨.len, [.t 1 false], .t, none⟩,
       ⟨(.faB 3 0), [.v 3 false], .t, none⟩,
       ⟨(.ldB 3 1 false false), [.t 3 false, .v 3 false], .t, none⟩,
       ⟨.len, [.t 4 false], .t, none⟩,
       ⟨(.bin .neq false), [.t 2 false, .t 5 false], (.v 5), none⟩] false)
     (.cond (.v 5 false)
      (.seq
       (.reg [
         ⟨.mv, [.c (.sc (.bool false))], (.v 4), none⟩] false)
       .ret)
      .skip))
    (.seq
     (.seq
      (.reg [
        ⟨.mv, [.c (.sc (.int .i64 0))], (.v 8), none⟩] false)
      (.block 0
       (.loop ir16_l0)))
     (.seq
      (.reg [
        ⟨.mv, [.c (.sc (.bool true))], (.v 4), none⟩] false)
      .ret)))) }

def ir17_l0 : IR :=
         (.seq
          (.reg [
            ⟨(.bin .lss false), [.v 12 false, .v 13 false], (.v 10), none⟩] false)
          (.seq
           (.cond (.v 10 false)
            .skip
            (.exit 0))
           (.seq
            (.block 1
             (.seq
              (.reg [
                ⟨(.ia 4), [.v 14 false, .v 12 false], .t, none⟩,
                ⟨(.ldP 4 true false), [.t 0 false], .t, none⟩,
                ⟨(.bx 4), [.c (.agg [(.sc (.int .i64 0)), (.sc (.int .i64 0)), (.sc (.int .i64 0)), (.sc (.int .i64 0))])], (.v 5), none⟩,
                ⟨(.stB 5 4), [.v 5 false, .t 1 false], .none, none⟩] false)
              (.seq
               (.reg [
                 ⟨(.ldB 4 1 true false), [.v 4 false], .t, none⟩,
                 ⟨(.ldB 5 4 true false), [.v 5 false], .t, none⟩,
                 ⟨(.call 11), [.t 0 false, .t 1 false], .t, none⟩,
                 ⟨.mv, [.t 2 true], .t, none⟩,
                 ⟨(.ext 0), [.t 3 false], .t, none⟩,
                 ⟨(.ext 1), [.t 3 false], .t, none⟩,
                 ⟨(.ext 2), [.t 3 false], .t, none⟩,
                 ⟨(.bx 1), [.c (.agg [(.sl .full 1 [])])], (.v 6), none⟩,
                 ⟨(.bx 2), [.c (.agg [(.sc (.int .i64 0)), (.sc (.bool false))])], (.v 7), none⟩,
                 ⟨(.stB 6 1), [.v 6 false, .t 4 true], .none, none⟩,
                 ⟨(.stB 7 2), [.v 7 false, .t 5 false], .none, none⟩,
                 ⟨.mv, [.t 6 false], (.v 15), none⟩] false)
               (.seq
                (.seq
                 (.reg [
                   ⟨.mv, [.v 15 false], .t, none⟩,
                   ⟨(.bin .neq false), [.t 0 false, .c (.sc (.int .i64 0))], (.v 11), none⟩] false)
                 (.cond (.v 11 false)
                  (.seq
                   (.reg [
                     ⟨(.ldB 2 1 true true), [.v 2 true], .t, none⟩,
                     ⟨.mv, [.v 15 false], .t, none⟩,
                     ⟨(.stB 3 1), [.v 3 false, .t 0 true], .none, none⟩,
                     ⟨.mv, [.c (.sl .full 2 [])], (.v 8), none⟩,
                     ⟨.mv, [.t 1 false], (.v 9), none⟩] false)
                   .ret)
                  .skip))
                (.reg [
                  ⟨(.ldB 6 1 true true), [.v 6 true], .t, none⟩,
                  ⟨.mv, [.v 16 true], .t, none⟩,
                  ⟨(.ldB 7 2 true false), [.v 7 false], .t, none⟩,
                  ⟨(.buildSl 2 [(.agg [(.sc (.int .i64 0)), (.sc (.bool false))])] [0]), [.t 2 false], .t, none⟩,
                  ⟨(.app 2 16), [.t 1 true, .t 3 false], .t, none⟩,
                  ⟨(.stB 4 1), [.v 4 false, .t 0 true], .none, none⟩,
                  ⟨.mv, [.t 4 true], (.v 16), none⟩] true)))))
            (.reg [
              ⟨(.bin .add false), [.v 12 false, .c (.sc (.int .i64 1))], .t, none⟩,
              ⟨.mv, [.t 0 false], (.v 12), none⟩] false))))

/-- underwood/mem.All -/
def ir17 : FnIR := { np := 2, nv := 17, slots := [0, 1, 2, 4, 7, 10, 11, 12, 5, 6, 18, 29, 17, 16, 15, 13, 8], res := [.b 3 1 true, .v 8, .v 9], body :=
  (.seq
   (.reg [
     ⟨(.bx 1), [.v 0 true], (.v 2), none⟩,
     ⟨(.bx 1), [.c (.agg [(.sl .full 1 [])])], (.v 3), none⟩,
     ⟨.mv, [.c (.sl .full 2 [])], (.v 8), none⟩,
     ⟨.mv, [.c (.sc (.int .i64 0))], (.v 9), none⟩] false)
   (.seq
    (.reg [
      ⟨(.ldB 2 1 true false), [.v 2 false], .t, none⟩,
      ⟨(.bx 1), [.c (.agg [(.sl .full 1 [])])], (.v 4), none⟩,
      ⟨(.stB 4 1), [.v 4 false, .t 0 true], .none, none⟩] false)
    (.seq
     (.reg [
       ⟨.mv, [.c (.sl .full 2 [])], (.v 16), none⟩] false)
     (.seq
      (.seq
       (.reg [
         ⟨.mv, [.v 1 true], (.v 14), none⟩,
         ⟨.len, [.v 14 false], (.v 13), none⟩,
         ⟨.mv, [.c (.sc (.int .i64 0))], (.v 12), none⟩] false)
       (.block 0
        (.loop ir17_l0)))
      (.seq
       (.reg [
         ⟨(.ldB 4 1 true true), [.v 4 true], .t, none⟩,
         ⟨.mv, [.v 16 true], .t, none⟩,
         ⟨(.stB 3 1), [.v 3 false, .t 0 true], .none, none⟩,
         ⟨.mv, [.t 1 true], (.v 8), none⟩,
         ⟨.mv, [.c (.sc (.int .i64 0))], (.v 9), none⟩] false)
       .ret))))) }

def ir18_l0 : IR :=
         (.seq
          (.seq
           (.reg [
             ⟨.mv, [.v 11 false], .t, none⟩,
             ⟨.mv, [.v 1 false], .t, none⟩,
             ⟨.len, [.t 1 false], .t, none⟩,
             ⟨(.bin .lss false), [.t 0 false, .t 2 false], (.v 9), none⟩] false)
           (.cond (.v 9 false)
            .skip
            (.exit 0)))
          (.seq
           (.block 1
            (.seq
             (.reg [
               ⟨(.ldB 4 1 true false), [.v 4 false], .t, none⟩,
               ⟨.mv, [.v 1 false], .t, none⟩,
               ⟨.mv, [.v 11 false], .t, none⟩,
               ⟨(.ia 4), [.t 1 false, .t 2 false], .t, none⟩,
               ⟨(.ldP 4 true false), [.t 3 false], .t, none⟩,
               ⟨(.call 12), [.t 0 false, .t 4 false], .t, none⟩,
               ⟨.mv, [.t 5 true], .t, none⟩,
               ⟨(.ext 0), [.t 6 false], .t, none⟩,
               ⟨(.ext 1), [.t 6 false], .t, none⟩,
               ⟨(.ext 2), [.t 6 false], .t, none⟩,
               ⟨(.bx 1), [.c (.agg [(.sl .full 1 [])])], (.v 5), none⟩,
               ⟨(.bx 2), [.c (.agg [(.sc (.int .i64 0)), (.sc (.bool false))])], (.v 6), none⟩,
               ⟨(.stB 5 1), [.v 5 false, .t 7 true], .none, none⟩,
               ⟨(.stB 6 2), [.v 6 false, .t 8 false], .none, none⟩,
               ⟨.mv, [.t 9 false], (.v 12), none⟩] true)
             (.seq
              (.seq
               (.reg [
                 ⟨.mv, [.v 12 false], .t, none⟩,
                 ⟨(.bin .neq false), [.t 0 false, .c (.sc (.int .i64 0))], (.v 10), none⟩] false)
               (.cond (.v 10 false)
                (.seq
                 (.reg [
                   ⟨(.ldB 2 1 true true), [.v 2 true], .t, none⟩,
                   ⟨.mv, [.v 12 false], .t, none⟩,
                   ⟨(.stB 3 1), [.v 3 false, .t 0 true], .none, none⟩,
                   ⟨.mv, [.c (.sl .full 2 [])], (.v 7), none⟩,
                   ⟨.mv, [.t 1 false], (.v 8), none⟩] false)
                 .ret)
                .skip))
              (.seq
               (.reg [
                 ⟨(.ldB 5 1 true true), [.v 5 true], .t, none⟩,
                 ⟨(.stB 4 1), [.v 4 false, .t 0 true], .none, none⟩] false)
               (.reg [
                 ⟨.mv, [.v 13 true], .t, none⟩,
                 ⟨(.ldB 6 2 true false), [.v 6 false], .t, none⟩,
                 ⟨(.buildSl 2 [(.agg [(.sc (.int .i64 0)), (.sc (.bool false))])] [0]), [.t 1 false], .t, none⟩,
                 ⟨(.app 2 16), [.t 0 true, .t 2 false], .t, none⟩,
                 ⟨.mv, [.t 3 true], (.v 13), none⟩] false)))))
           (.reg [
             ⟨.mv, [.v 11 false], .t, none⟩,
             ⟨(.bin .add false), [.t 0 false, .c (.sc (.int .i64 1))], .t, none⟩,
             ⟨.mv, [.t 1 false], (.v 11), none⟩] false)))

/-- underwood/underwoodref02.All -/
def ir18 : FnIR := { np := 2, nv := 14, slots := [0, 1, 2, 4, 7, 10, 11, 5, 6, 17, 31, 9, 12, 8], res := [.b 3 1 true, .v 7, .v 8], body :=
  (.seq
   (.reg [
     ⟨(.bx 1), [.v 0 true], (.v 2), none⟩,
     ⟨(.bx 1), [.c (.agg [(.sl .full 1 [])])], (.v 3), none⟩,
     ⟨.mv, [.c (.sl .full 2 [])], (.v 7), none⟩,
     ⟨.mv, [.c (.sc (.int .i64 0))], (.v 8), none⟩] false)
   (.seq
    (.reg [
      ⟨(.ldB 2 1 true false), [.v 2 false], .t, none⟩,
      ⟨(.bx 1), [.c (.agg [(.sl .full 1 [])])], (.v 4), none⟩,
      ⟨(.stB 4 1), [.v 4 false, .t 0 true], .none, none⟩] false)
    (.seq
     (.reg [
       ⟨.mv, [.c (.sl .full 2 [])], (.v 13), none⟩] false)
     (.seq
      (.seq
       (.reg [
         ⟨.mv, [.c (.sc (.int .i64 0))], (.v 11), none⟩] false)
       (.block 0
        (.loop ir18_l0)))
      (.seq
       (.reg [
         ⟨(.ldB 4 1 true true), [.v 4 true], .t, none⟩,
         ⟨.mv, [.v 13 true], .t, none⟩,
         ⟨(.stB 3 1), [.v 3 false, .t 0 true], .none, none⟩,
         ⟨.mv, [.t 1 true], (.v 7), none⟩,
         ⟨.mv, [.c (.sc (.int .i64 0))], (.v 8), none⟩] false)
       .ret))))) }

def ir19_l0 : IR :=
        (.seq
         (.seq
          (.reg [
            ⟨.mv, [.v 6 false], .t, none⟩,
            ⟨.mv, [.v 0 false], .t, none⟩,
            ⟨.len, [.t 1 false], .t, none⟩,
            ⟨(.bin .lss false), [.t 0 false, .t 2 false], (.v 4), none⟩] false)
          (.cond (.v 4 false)
           .skip
           (.exit 0)))
         (.seq
          (.block 1
           (.seq
            (.reg [
              ⟨.mv, [.v 0 false], .t, none⟩,
              ⟨.mv, [.v 6 false], .t, none⟩,
              ⟨(.ia 2), [.t 0 false, .t 1 false], .t, none⟩,
              ⟨(.ldP 2 true false), [.t 2 false], .t, none⟩,
              ⟨.mv, [.v 1 false], .t, none⟩,
              ⟨.mv, [.v 6 false], .t, none⟩,
              ⟨(.ia 2), [.t 4 false, .t 5 false], .t, none⟩,
              ⟨(.ldP 2 true false), [.t 6 false], .t, none⟩,
              ⟨(.eqA [1, 0] true), [.t 3 false, .t 7 false], (.v 5), none⟩] true)
            (.cond (.v 5 false)
             (.seq
              (.reg [
                ⟨.mv, [.c (.sc (.bool false))], (.v 2), none⟩] false)
              .ret)
             .skip)))
          (.reg [
            ⟨.mv, [.v 6 false], .t, none⟩,
            ⟨(.bin .add false), [.t 0 false, .c (.sc (.int .i64 1))], .t, none⟩,
            ⟨.mv, [.t 1 false], (.v 6), none⟩] false)))

/-- underwood/underwoodref02.Told -/
def ir19 : FnIR := { np := 2, nv := 7, slots := [0, 1, 4, 10, 14, 25, 5], res := [.v 2], body :=
  (.seq
   (.reg [
     ⟨.mv, [.c (.sc (.bool false))], (.v 2), none⟩] false)
   (.seq
    (.seq
     (.reg [
       ⟨.mv, [.v 0 false], .t, none⟩,
       ⟨.len, [.t 0 false], .t, none⟩,
       ⟨.mv, [.v 1 false], .t, none⟩,
       ⟨.len, [.t 2 false], .t, none⟩,
       ⟨(.bin .neq false), [.t 1 false, .t 3 false], (.v 3), none⟩] false)
     (.cond (.v 3 false)
      (.seq
       (.reg [
         ⟨.mv, [.c (.sc (.bool false))], (.v 2), none⟩] false)
       .ret)
      .skip))
    (.seq
     (.seq
      (.reg [
        ⟨.mv, [.c (.sc (.int .i64 0))], (.v 6), none⟩] false)
      (.block 0
       (.loop ir19_l0)))
     (.seq
      (.reg [
        ⟨.mv, [.c (.sc (.bool true))], (.v 2), none⟩] false)
      .ret)))) }

/-- underwood/mem.next -/
def ir20 : FnIR := { np := 2, nv := 10, slots := [0, 1, 3, 4, 5, 8, 13, 19, 24, 7], res := [.v 3, .v 4], body :=
  (.seq
   (.reg [
     ⟨(.bx 4), [.v 1 false], (.v 2), none⟩,
     ⟨.mv, [.c (.sc (.int .i64 0))], (.v 3), none⟩,
     ⟨.mv, [.c (.sc (.bool false))], (.v 4), none⟩] false)
   (.seq
    (.seq
     (.reg [
       ⟨(.faB 2 0), [.v 2 false], .t, none⟩,
       ⟨(.ldB 2 1 false false), [.t 0 false, .v 2 false], (.v 9), none⟩] false)
     (.block 0
      (.seq
       (.seq
        (.reg [
          ⟨(.bin .eql false), [.v 9 false, .c (.sc (.int .i64 2))], .t, none⟩,
          ⟨.mv, [.t 0 false], (.v 5), none⟩] false)
        (.cond (.v 5 false)
         .skip
         (.reg [
           ⟨(.bin .eql false), [.v 9 false, .c (.sc (.int .i64 5))], .t, none⟩,
           ⟨.mv, [.t 0 false], (.v 5), none⟩] false)))
       (.cond (.v 5 false)
        (.seq
         (.reg [
           ⟨(.faB 2 3), [.v 2 false], .t, none⟩,
           ⟨(.ldB 2 1 false false), [.t 0 false, .v 2 false], .t, none⟩,
           ⟨.mv, [.t 1 false], (.v 3), none⟩,
           ⟨.mv, [.c (.sc (.bool true))], (.v 4), none⟩] false)
         .ret)
        (.seq
         (.reg [
           ⟨(.bin .eql false), [.v 9 false, .c (.sc (.int .i64 4))], .t, none⟩,
           ⟨.mv, [.t 0 false], (.v 6), none⟩] false)
         (.cond (.v 6 false)
          (.seq
           (.reg [
             ⟨.mv, [.v 0 false], .t, none⟩,
             ⟨(.faB 2 3), [.v 2 false], .t, none⟩,
             ⟨(.ldB 2 1 false false), [.t 1 false, .v 2 false], .t, none⟩,
             ⟨(.bin .add false), [.t 0 false, .t 2 false], .t, none⟩,
             ⟨.mv, [.t 3 false], (.v 3), none⟩,
             ⟨.mv, [.c (.sc (.bool true))], (.v 4), none⟩] false)
           .ret)
          (.seq
           (.reg [
             ⟨(.bin .eql false), [.v 9 false, .c (.sc (.int .i64 3))], .t, none⟩,
             ⟨.mv, [.t 0 false], (.v 7), none⟩] false)
           (.cond (.v 7 false)
            (.seq
             (.seq
              (.reg [
                ⟨.mv, [.v 0 false], .t, none⟩,
                ⟨(.faB 2 2), [.v 2 false], .t, none⟩,
                ⟨(.ldB 2 1 false false), [.t 1 false, .v 2 false], .t, none⟩,
                ⟨(.bin .neq false), [.t 0 false, .t 2 false], (.v 8), none⟩] false)
              (.cond (.v 8 false)
               (.seq
                (.reg [
                  ⟨.mv, [.v 0 false], .t, none⟩,
                  ⟨.mv, [.t 0 false], (.v 3), none⟩,
                  ⟨.mv, [.c (.sc (.bool false))], (.v 4), none⟩] false)
                .ret)
               .skip))
             (.seq
              (.reg [
                ⟨(.faB 2 3), [.v 2 false], .t, none⟩,
                ⟨(.ldB 2 1 false false), [.t 0 false, .v 2 false], .t, none⟩,
                ⟨.mv, [.t 1 false], (.v 3), none⟩,
                ⟨.mv, [.c (.sc (.bool true))], (.v 4), none⟩] false)
              .ret))
            .skip))))))))
    (.seq
     (.reg [
       ⟨.mv, [.v 0 false], .t, none⟩,
       ⟨.mv, [.t 0 false], (.v 3), none⟩,
       ⟨.mv, [.c (.sc (.bool true))], (.v 4), none⟩] false)
     .ret))) }

/-- underwood/underwoodref02.with -/
def ir21 : FnIR := { np := 3, nv := 6, slots := [0, 1, 2, 3, 6, 7], res := [.b 4 1 true], body :=
  (.seq
   (.reg [
     ⟨(.bx 1), [.v 0 true], (.v 3), none⟩,
     ⟨(.bx 1), [.c (.agg [(.sl .full 1 [])])], (.v 4), none⟩] false)
   (.seq
    (.reg [
      ⟨(.buildSl 1 [] []), [], .t, none⟩,
      ⟨(.faB 3 0), [.v 3 false], .t, none⟩,
      ⟨(.ldB 3 1 false true), [.t 1 false, .v 3 true], .t, none⟩,
      ⟨(.appH 1 8 false), [.t 0 false, .t 2 false], .t, none⟩,
      ⟨.mv, [.t 3 true], (.v 5), none⟩] false)
    (.seq
     (.reg [
       ⟨.mv, [.v 5 false], .t, none⟩,
       ⟨.mv, [.v 1 false], .t, none⟩,
       ⟨.mv, [.v 2 false], .t, none⟩,
       ⟨(.ia 1), [.t 0 false, .t 1 false], .t, none⟩,
       ⟨(.stP 1), [.t 3 false, .t 2 false], .none, none⟩] false)
     (.seq
      (.reg [
        ⟨.mv, [.v 5 true], .t, none⟩,
        ⟨(.build [(.sl .full 1 [])] [(0, 1)]), [.t 0 true], .t, none⟩,
        ⟨(.stB 4 1), [.v 4 false, .t 1 true], .none, none⟩] false)
      .ret)))) }

def ir22_l0 : IR :=
        (.seq
         (.reg [
           ⟨(.bin .lss false), [.v 6 false, .v 7 false], (.v 4), none⟩] false)
         (.seq
          (.cond (.v 4 false)
           .skip
           (.exit 0))
          (.seq
           (.block 1
            (.seq
             (.reg [
               ⟨.mv, [.v 6 false], .t, none⟩,
               ⟨.mv, [.t 0 false], (.v 8), none⟩] false)
             (.seq
              (.reg [
                ⟨.mv, [.v 0 false], .t, none⟩,
                ⟨.mv, [.v 8 false], .t, none⟩,
                ⟨(.ia 1), [.t 0 false, .t 1 false], .t, none⟩,
                ⟨(.ldP 1 false false), [.t 2 false], .t, none⟩,
                ⟨.mv, [.v 1 false], .t, none⟩,
                ⟨.mv, [.v 8 false], .t, none⟩,
                ⟨(.ia 1), [.t 4 false, .t 5 false], .t, none⟩,
                ⟨(.ldP 1 false false), [.t 6 false], .t, none⟩,
                ⟨(.bin .neq false), [.t 3 false, .t 7 false], (.v 5), none⟩] true)
              (.cond (.v 5 false)
               (.seq
                (.reg [
                  ⟨.mv, [.c (.sc (.bool false))], (.v 2), none⟩] false)
                .ret)
               .skip))))
           (.reg [
             ⟨(.bin .add false), [.v 6 false, .c (.sc (.int .i64 1))], .t, none⟩,
             ⟨.mv, [.t 0 false], (.v 6), none⟩] false))))

/-- slices.Equal[[]int,int] -/
def ir22 : FnIR := { np := 2, nv := 9, slots := [0, 1, 4, 10, 14, 24, 13, 12, 5], res := [.v 2], body :=
  (.seq
   (.reg [
     ⟨.mv, [.c (.sc (.bool false))], (.v 2), none⟩] false)
   (.seq
    (.seq
     (.reg [
       ⟨.mv, [.v 0 false], .t, none⟩,
       ⟨.len, [.t 0 false], .t, none⟩,
       ⟨.mv, [.v 1 false], .t, none⟩,
       ⟨.len, [.t 2 false], .t, none⟩,
       ⟨(.bin .neq false), [.t 1 false, .t 3 false], (.v 3), none⟩] false)
     (.cond (.v 3 false)
      (.seq
       (.reg [
         ⟨.mv, [.c (.sc (.bool false))], (.v 2), none⟩] false)
       .ret)
      .skip))
    (.seq
     (.seq
      (.reg [
        ⟨.mv, [.v 0 false], .t, none⟩,
        ⟨.len, [.t 0 false], (.v 7), none⟩,
        ⟨.mv, [.c (.sc (.int .i64 0))], (.v 6), none⟩] false)
      (.block 0
       (.loop ir22_l0)))
     (.seq
      (.reg [
        ⟨.mv, [.c (.sc (.bool true))], (.v 2), none⟩] false)
      .ret)))) }

def fns : FuncId → Option FnIR
  | 3 => some ir3
  | 4 => some ir4
  | 5 => some ir5
  | 6 => some ir6
  | 7 => some ir7
  | 8 => some ir8
  | 9 => some ir9
  | 10 => some ir10
  | 11 => some ir11
  | 12 => some ir12
  | 13 => some ir13
  | 14 => some ir14
  | 15 => some ir15
  | 16 => some ir16
  | 17 => some ir17
  | 18 => some ir18
  | 19 => some ir19
  | 20 => some ir20
  | 21 => some ir21
  | 22 => some ir22
  | _ => none
end Go.D.Mem
