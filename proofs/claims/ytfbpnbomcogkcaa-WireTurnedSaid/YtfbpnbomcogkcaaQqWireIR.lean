/- The small forms of this seat's functions. -/
import Derived.Test.YtfbpnbomcogkcaaQqDv
set_option linter.unusedSimpArgs false
set_option linter.unusedVariables false
namespace Go.D.Wire
open Go.D
/-- underwood/underwoodlaw03.WirePuts -/
def ir3 : FnIR := { np := 1, nv := 2, slots := [0, 2], res := [.v 1], body :=
  (.seq
   (.reg [
     ⟨.mv, [.c (.sc (.bool false))], (.v 1), none⟩] false)
   (.seq
    (.reg [
      ⟨(.call 14), [], .t, none⟩,
      ⟨.mv, [.t 0 false], .t, none⟩,
      ⟨.mv, [.v 0 false], .t, (some (1, true))⟩,
      ⟨(.call 16), [.t 2 false], .t, (some (1, true))⟩,
      ⟨.mv, [.v 0 false], .t, (some (1, true))⟩,
      ⟨(.call 17), [.t 4 false], .t, (some (1, true))⟩,
      ⟨(.call 15), [.t 3 false, .t 5 false], .t, (some (1, true))⟩,
      ⟨.pick, [.t 1 false, .t 6 false, .c (.sc (.bool false))], .t, none⟩,
      ⟨.mv, [.t 7 false], (.v 1), none⟩] false)
    .ret)) }

/-- underwood/underwoodlaw03.WireGets -/
def ir4 : FnIR := { np := 1, nv := 21, slots := [0, 2, 23, 3, 6, 4, 7, 5, 8, 9, 12, 10, 13, 11, 14, 15, 18, 16, 19, 17, 20], res := [.v 1], body :=
  (.seq
   (.reg [
     ⟨.mv, [.c (.sc (.bool false))], (.v 1), none⟩] false)
   (.seq
    (.seq
     (.reg [
       ⟨.mv, [.v 0 false], .t, none⟩,
       ⟨.len, [.t 0 false], .t, none⟩,
       ⟨(.bin .gtr false), [.t 1 false, .c (.sc (.int .i64 1000))], (.v 2), none⟩] false)
     (.cond (.v 2 false)
      (.seq
       (.reg [
         ⟨(.call 14), [], .t, none⟩,
         ⟨.mv, [.t 0 false], (.v 1), none⟩] false)
       .ret)
      .skip))
    (.seq
     (.reg [
       ⟨.mv, [.v 0 false], .t, none⟩,
       ⟨(.call 18), [.t 0 false], .t, none⟩,
       ⟨.mv, [.t 1 false], .t, none⟩,
       ⟨(.ext 0), [.t 2 false], .t, none⟩,
       ⟨(.ext 1), [.t 2 false], .t, none⟩,
       ⟨(.ext 2), [.t 2 false], .t, none⟩,
       ⟨.mv, [.t 3 false], (.v 3), none⟩,
       ⟨.mv, [.t 4 false], (.v 5), none⟩,
       ⟨.mv, [.t 5 false], (.v 7), none⟩] false)
     (.seq
      (.reg [
        ⟨.mv, [.v 0 false], .t, none⟩,
        ⟨(.call 19), [.t 0 false], .t, none⟩,
        ⟨.mv, [.t 1 false], .t, none⟩,
        ⟨(.ext 0), [.t 2 false], .t, none⟩,
        ⟨(.ext 1), [.t 2 false], .t, none⟩,
        ⟨(.ext 2), [.t 2 false], .t, none⟩,
        ⟨.mv, [.t 3 false], (.v 4), none⟩,
        ⟨.mv, [.t 4 false], (.v 6), none⟩,
        ⟨.mv, [.t 5 false], (.v 8), none⟩] false)
      (.seq
       (.reg [
         ⟨.mv, [.v 0 false], .t, none⟩,
         ⟨(.call 20), [.t 0 false], .t, none⟩,
         ⟨.mv, [.t 1 false], .t, none⟩,
         ⟨(.ext 0), [.t 2 false], .t, none⟩,
         ⟨(.ext 1), [.t 2 false], .t, none⟩,
         ⟨(.ext 2), [.t 2 false], .t, none⟩,
         ⟨.mv, [.t 3 false], (.v 9), none⟩,
         ⟨.mv, [.t 4 false], (.v 11), none⟩,
         ⟨.mv, [.t 5 false], (.v 13), none⟩] false)
       (.seq
        (.reg [
          ⟨.mv, [.v 0 false], .t, none⟩,
          ⟨(.call 21), [.t 0 false], .t, none⟩,
          ⟨.mv, [.t 1 false], .t, none⟩,
          ⟨(.ext 0), [.t 2 false], .t, none⟩,
          ⟨(.ext 1), [.t 2 false], .t, none⟩,
          ⟨(.ext 2), [.t 2 false], .t, none⟩,
          ⟨.mv, [.t 3 false], (.v 10), none⟩,
          ⟨.mv, [.t 4 false], (.v 12), none⟩,
          ⟨.mv, [.t 5 false], (.v 14), none⟩] false)
        (.seq
         (.reg [
           ⟨.mv, [.v 0 false], .t, none⟩,
           ⟨(.call 22), [.t 0 false], .t, none⟩,
           ⟨.mv, [.t 1 true], .t, none⟩,
           ⟨(.ext 0), [.t 2 false], .t, none⟩,
           ⟨(.ext 1), [.t 2 false], .t, none⟩,
           ⟨(.ext 2), [.t 2 false], .t, none⟩,
           ⟨.mv, [.t 3 true], (.v 15), none⟩,
           ⟨.mv, [.t 4 false], (.v 17), none⟩,
           ⟨.mv, [.t 5 false], (.v 19), none⟩] false)
         (.seq
          (.reg [
            ⟨.mv, [.v 0 true], .t, none⟩,
            ⟨(.call 23), [.t 0 false], .t, none⟩,
            ⟨.mv, [.t 1 true], .t, none⟩,
            ⟨(.ext 0), [.t 2 false], .t, none⟩,
            ⟨(.ext 1), [.t 2 false], .t, none⟩,
            ⟨(.ext 2), [.t 2 false], .t, none⟩,
            ⟨.mv, [.t 3 true], (.v 16), none⟩,
            ⟨.mv, [.t 4 false], (.v 18), none⟩,
            ⟨.mv, [.t 5 false], (.v 20), none⟩] false)
          (.seq
           (.reg [
             ⟨(.call 14), [], .t, none⟩,
             ⟨.mv, [.t 0 false], .t, none⟩,
             ⟨.mv, [.v 3 false], .t, (some (1, true))⟩,
             ⟨.mv, [.v 4 false], .t, (some (1, true))⟩,
             ⟨(.bin .eql false), [.t 2 false, .t 3 false], .t, (some (1, true))⟩,
             ⟨.pick, [.t 1 false, .t 4 false, .c (.sc (.bool false))], .t, none⟩,
             ⟨.mv, [.t 5 false], .t, none⟩,
             ⟨.mv, [.v 5 false], .t, (some (6, true))⟩,
             ⟨.mv, [.v 6 false], .t, (some (6, true))⟩,
             ⟨(.bin .eql false), [.t 7 false, .t 8 false], .t, (some (6, true))⟩,
             ⟨.pick, [.t 6 false, .t 9 false, .c (.sc (.bool false))], .t, none⟩,
             ⟨.mv, [.t 10 false], .t, none⟩,
             ⟨.mv, [.v 7 false], .t, (some (11, true))⟩,
             ⟨.mv, [.v 8 false], .t, (some (11, true))⟩,
             ⟨(.bin .eql false), [.t 12 false, .t 13 false], .t, (some (11, true))⟩,
             ⟨.pick, [.t 11 false, .t 14 false, .c (.sc (.bool false))], .t, none⟩,
             ⟨.mv, [.t 15 false], .t, none⟩,
             ⟨.mv, [.v 9 false], .t, (some (16, true))⟩,
             ⟨.mv, [.v 10 false], .t, (some (16, true))⟩,
             ⟨(.bin .eql false), [.t 17 false, .t 18 false], .t, (some (16, true))⟩,
             ⟨.pick, [.t 16 false, .t 19 false, .c (.sc (.bool false))], .t, none⟩,
             ⟨.mv, [.t 20 false], .t, none⟩,
             ⟨.mv, [.v 11 false], .t, (some (21, true))⟩,
             ⟨.mv, [.v 12 false], .t, (some (21, true))⟩,
             ⟨(.bin .eql false), [.t 22 false, .t 23 false], .t, (some (21, true))⟩,
             ⟨.pick, [.t 21 false, .t 24 false, .c (.sc (.bool false))], .t, none⟩,
             ⟨.mv, [.t 25 false], .t, none⟩,
             ⟨.mv, [.v 13 false], .t, (some (26, true))⟩,
             ⟨.mv, [.v 14 false], .t, (some (26, true))⟩,
             ⟨(.bin .eql false), [.t 27 false, .t 28 false], .t, (some (26, true))⟩,
             ⟨.pick, [.t 26 false, .t 29 false, .c (.sc (.bool false))], .t, none⟩,
             ⟨.mv, [.t 30 false], .t, none⟩,
             ⟨.mv, [.v 15 true], .t, (some (31, true))⟩,
             ⟨.mv, [.v 16 true], .t, (some (31, true))⟩,
             ⟨(.call 24), [.t 32 false, .t 33 false], .t, (some (31, true))⟩,
             ⟨.pick, [.t 31 false, .t 34 false, .c (.sc (.bool false))], .t, none⟩,
             ⟨.mv, [.t 35 false], .t, none⟩,
             ⟨.mv, [.v 17 false], .t, (some (36, true))⟩,
             ⟨.mv, [.v 18 false], .t, (some (36, true))⟩,
             ⟨(.bin .eql false), [.t 37 false, .t 38 false], .t, (some (36, true))⟩,
             ⟨.pick, [.t 36 false, .t 39 false, .c (.sc (.bool false))], .t, none⟩,
             ⟨.mv, [.t 40 false], .t, none⟩,
             ⟨.mv, [.v 19 false], .t, (some (41, true))⟩,
             ⟨.mv, [.v 20 false], .t, (some (41, true))⟩,
             ⟨(.bin .eql false), [.t 42 false, .t 43 false], .t, (some (41, true))⟩,
             ⟨.pick, [.t 41 false, .t 44 false, .c (.sc (.bool false))], .t, none⟩,
             ⟨.mv, [.t 45 false], (.v 1), none⟩] false)
           .ret))))))))) }

/-- underwood/underwoodlaw03.WireBack -/
def ir5 : FnIR := { np := 2, nv := 8, slots := [0, 1, 4, 11, 5, 6, 7, 8], res := [.v 2], body :=
  (.seq
   (.reg [
     ⟨.mv, [.c (.sc (.bool false))], (.v 2), none⟩] false)
   (.seq
    (.seq
     (.reg [
       ⟨.mv, [.v 1 false], .t, none⟩,
       ⟨.len, [.t 0 false], .t, none⟩,
       ⟨(.bin .gtr false), [.t 1 false, .c (.sc (.int .i64 1000))], (.v 3), none⟩] false)
     (.cond (.v 3 false)
      (.seq
       (.reg [
         ⟨(.call 14), [], .t, none⟩,
         ⟨.mv, [.t 0 false], (.v 2), none⟩] false)
       .ret)
      .skip))
    (.seq
     (.reg [
       ⟨.mv, [.v 0 false], .t, none⟩,
       ⟨(.call 16), [.t 0 false], .t, none⟩,
       ⟨.mv, [.t 1 true], (.v 4), none⟩] false)
     (.seq
      (.reg [
        ⟨.mv, [.v 4 false], .t, none⟩,
        ⟨.mv, [.v 4 false], .t, none⟩,
        ⟨.len, [.t 1 false], .t, none⟩,
        ⟨.mv, [.v 4 false], .t, none⟩,
        ⟨.len, [.t 3 false], .t, none⟩,
        ⟨(.slc 1 false true true), [.t 0 false, .t 2 false, .t 4 false], .t, none⟩,
        ⟨.mv, [.v 1 true], .t, none⟩,
        ⟨(.app 1 1), [.t 5 true, .t 6 false], .t, none⟩,
        ⟨(.call 18), [.t 7 false], .t, none⟩,
        ⟨.mv, [.t 8 false], .t, none⟩,
        ⟨(.ext 0), [.t 9 false], .t, none⟩,
        ⟨(.ext 1), [.t 9 false], .t, none⟩,
        ⟨(.ext 2), [.t 9 false], .t, none⟩,
        ⟨.mv, [.t 10 false], (.v 5), none⟩,
        ⟨.mv, [.t 11 false], (.v 6), none⟩,
        ⟨.mv, [.t 12 false], (.v 7), none⟩] false)
      (.seq
       (.reg [
         ⟨(.call 14), [], .t, none⟩,
         ⟨.mv, [.t 0 false], .t, none⟩,
         ⟨.mv, [.v 5 false], .t, (some (1, true))⟩,
         ⟨.mv, [.v 0 false], .t, (some (1, true))⟩,
         ⟨(.bin .eql false), [.t 2 false, .t 3 false], .t, (some (1, true))⟩,
         ⟨.pick, [.t 1 false, .t 4 false, .c (.sc (.bool false))], .t, none⟩,
         ⟨.mv, [.t 5 false], .t, none⟩,
         ⟨.mv, [.v 6 false], .t, (some (6, true))⟩,
         ⟨.mv, [.v 4 true], .t, (some (6, true))⟩,
         ⟨.len, [.t 8 false], .t, (some (6, true))⟩,
         ⟨(.bin .eql false), [.t 7 false, .t 9 false], .t, (some (6, true))⟩,
         ⟨.pick, [.t 6 false, .t 10 false, .c (.sc (.bool false))], .t, none⟩,
         ⟨.mv, [.t 11 false], .t, none⟩,
         ⟨.mv, [.v 7 false], .t, (some (12, true))⟩,
         ⟨(.bin .eql false), [.t 13 false, .c (.sc (.int .i64 0))], .t, (some (12, true))⟩,
         ⟨.pick, [.t 12 false, .t 14 false, .c (.sc (.bool false))], .t, none⟩,
         ⟨.mv, [.t 15 false], .t, none⟩,
         ⟨.mv, [.v 6 false], .t, (some (16, true))⟩,
         ⟨(.bin .geq false), [.t 17 false, .c (.sc (.int .i64 1))], .t, (some (16, true))⟩,
         ⟨.pick, [.t 16 false, .t 18 false, .c (.sc (.bool false))], .t, none⟩,
         ⟨.mv, [.t 19 false], .t, none⟩,
         ⟨.mv, [.v 6 false], .t, (some (20, true))⟩,
         ⟨(.bin .leq false), [.t 21 false, .c (.sc (.int .i64 10))], .t, (some (20, true))⟩,
         ⟨.pick, [.t 20 false, .t 22 false, .c (.sc (.bool false))], .t, none⟩,
         ⟨.mv, [.t 23 false], (.v 2), none⟩] false)
       .ret))))) }

def ir6_l0 : IR :=
           (.seq
            (.reg [
              ⟨(.bin .lss false), [.v 10 false, .v 11 false], (.v 5), none⟩] false)
            (.seq
             (.cond (.v 5 false)
              .skip
              (.exit 0))
             (.seq
              (.block 1
               (.seq
                (.reg [
                  ⟨.mv, [.v 10 false], .t, none⟩,
                  ⟨.mv, [.t 0 false], (.v 12), none⟩] false)
                (.seq
                 (.reg [
                   ⟨.mv, [.v 0 false], .t, none⟩,
                   ⟨.mv, [.v 12 false], .t, none⟩,
                   ⟨(.slc 1 false true false), [.t 0 false, .t 1 false], .t, none⟩,
                   ⟨(.call 18), [.t 2 false], .t, none⟩,
                   ⟨.mv, [.t 3 false], .t, none⟩,
                   ⟨(.ext 0), [.t 4 false], .t, none⟩,
                   ⟨(.ext 1), [.t 4 false], .t, none⟩,
                   ⟨(.ext 2), [.t 4 false], .t, none⟩,
                   ⟨.mv, [.t 5 false], .t, none⟩,
                   ⟨.mv, [.t 6 false], .t, none⟩,
                   ⟨.mv, [.t 7 false], (.v 13), none⟩] false)
                 (.seq
                  (.reg [
                    ⟨.mv, [.v 13 false], .t, none⟩,
                    ⟨(.bin .neq false), [.t 0 false, .c (.sc (.int .i64 3))], (.v 6), none⟩] false)
                  (.cond (.v 6 false)
                   (.seq
                    (.reg [
                      ⟨.mv, [.c (.sc (.bool false))], (.v 1), none⟩] false)
                    .ret)
                   .skip)))))
              (.reg [
                ⟨(.bin .add false), [.v 10 false, .c (.sc (.int .i64 1))], .t, none⟩,
                ⟨.mv, [.t 0 false], (.v 10), none⟩] false))))

/-- underwood/underwoodlaw03.WireOnce -/
def ir6 : FnIR := { np := 1, nv := 14, slots := [0, 2, 12, 21, 47, 50, 61, 5, 3, 4, 49, 48, 6, 9], res := [.v 1], body :=
  (.seq
   (.reg [
     ⟨.mv, [.c (.sc (.bool false))], (.v 1), none⟩] false)
   (.seq
    (.seq
     (.reg [
       ⟨.mv, [.v 0 false], .t, none⟩,
       ⟨.len, [.t 0 false], .t, none⟩,
       ⟨(.bin .gtr false), [.t 1 false, .c (.sc (.int .i64 1000))], (.v 2), none⟩] false)
     (.cond (.v 2 false)
      (.seq
       (.reg [
         ⟨(.call 14), [], .t, none⟩,
         ⟨.mv, [.t 0 false], (.v 1), none⟩] false)
       .ret)
      .skip))
    (.seq
     (.reg [
       ⟨.mv, [.v 0 false], .t, none⟩,
       ⟨(.call 18), [.t 0 false], .t, none⟩,
       ⟨.mv, [.t 1 false], .t, none⟩,
       ⟨(.ext 0), [.t 2 false], .t, none⟩,
       ⟨(.ext 1), [.t 2 false], .t, none⟩,
       ⟨(.ext 2), [.t 2 false], .t, none⟩,
       ⟨.mv, [.t 3 false], (.v 8), none⟩,
       ⟨.mv, [.t 4 false], (.v 9), none⟩,
       ⟨.mv, [.t 5 false], (.v 7), none⟩] false)
     (.seq
      (.seq
       (.reg [
         ⟨.mv, [.v 7 false], .t, none⟩,
         ⟨(.bin .neq false), [.t 0 false, .c (.sc (.int .i64 0))], (.v 3), none⟩] false)
       (.cond (.v 3 false)
        (.seq
         (.reg [
           ⟨(.call 14), [], .t, none⟩,
           ⟨.mv, [.t 0 false], .t, none⟩,
           ⟨.mv, [.v 8 false], .t, (some (1, true))⟩,
           ⟨(.bin .eql false), [.t 2 false, .c (.sc (.int .i64 0))], .t, (some (1, true))⟩,
           ⟨.pick, [.t 1 false, .t 3 false, .c (.sc (.bool false))], .t, none⟩,
           ⟨.mv, [.t 4 false], .t, none⟩,
           ⟨.mv, [.v 9 false], .t, (some (5, true))⟩,
           ⟨(.bin .eql false), [.t 6 false, .c (.sc (.int .i64 0))], .t, (some (5, true))⟩,
           ⟨.pick, [.t 5 false, .t 7 false, .c (.sc (.bool false))], .t, none⟩,
           ⟨.mv, [.t 8 false], (.v 1), none⟩] false)
         .ret)
        .skip))
      (.seq
       (.seq
        (.reg [
          ⟨.mv, [.v 9 false], .t, none⟩,
          ⟨(.bin .lss false), [.t 0 false, .c (.sc (.int .i64 1))], .t, none⟩,
          ⟨.mv, [.t 1 false], .t, none⟩,
          ⟨.mv, [.v 9 false], .t, (some (2, false))⟩,
          ⟨.mv, [.v 0 false], .t, (some (2, false))⟩,
          ⟨.len, [.t 4 false], .t, (some (2, false))⟩,
          ⟨(.bin .gtr false), [.t 3 false, .t 5 false], .t, (some (2, false))⟩,
          ⟨.pick, [.t 2 false, .c (.sc (.bool true)), .t 6 false], .t, none⟩,
          ⟨.mv, [.t 7 false], .t, none⟩,
          ⟨.mv, [.v 8 false], .t, (some (8, false))⟩,
          ⟨(.call 16), [.t 9 false], .t, (some (8, false))⟩,
          ⟨.mv, [.v 0 false], .t, (some (8, false))⟩,
          ⟨.mv, [.v 9 false], .t, (some (8, false))⟩,
          ⟨(.slc 1 false true false), [.t 11 false, .t 12 false], .t, (some (8, false))⟩,
          ⟨(.call 15), [.t 10 false, .t 13 false], .t, (some (8, false))⟩,
          ⟨(.un .not), [.t 14 false], .t, (some (8, false))⟩,
          ⟨.pick, [.t 8 false, .c (.sc (.bool true)), .t 15 false], (.v 4), none⟩] true)
        (.cond (.v 4 false)
         (.seq
          (.reg [
            ⟨.mv, [.c (.sc (.bool false))], (.v 1), none⟩] false)
          .ret)
         .skip))
       (.seq
        (.seq
         (.reg [
           ⟨.mv, [.v 9 false], (.v 11), none⟩,
           ⟨.mv, [.c (.sc (.int .i64 0))], (.v 10), none⟩] false)
         (.block 0
          (.loop ir6_l0)))
        (.seq
         (.reg [
           ⟨(.call 14), [], .t, none⟩,
           ⟨.mv, [.t 0 false], (.v 1), none⟩] false)
         .ret))))))) }

/-- underwood/underwoodlaw03.WireTexts -/
def ir7 : FnIR := { np := 2, nv := 9, slots := [0, 1, 4, 19, 5, 6, 7, 8, 11], res := [.v 2], body :=
  (.seq
   (.reg [
     ⟨.mv, [.c (.sc (.bool false))], (.v 2), none⟩] false)
   (.seq
    (.seq
     (.reg [
       ⟨.mv, [.v 0 false], .t, none⟩,
       ⟨.lenS, [.t 0 false], .t, none⟩,
       ⟨(.bin .gtr false), [.t 1 false, .c (.sc (.int .i64 1000))], .t, none⟩,
       ⟨.mv, [.t 2 false], .t, none⟩,
       ⟨.mv, [.v 1 false], .t, (some (3, false))⟩,
       ⟨.len, [.t 4 false], .t, (some (3, false))⟩,
       ⟨(.bin .gtr false), [.t 5 false, .c (.sc (.int .i64 1000))], .t, (some (3, false))⟩,
       ⟨.pick, [.t 3 false, .c (.sc (.bool true)), .t 6 false], (.v 3), none⟩] false)
     (.cond (.v 3 false)
      (.seq
       (.reg [
         ⟨(.call 14), [], .t, none⟩,
         ⟨.mv, [.t 0 false], (.v 2), none⟩] false)
       .ret)
      .skip))
    (.seq
     (.reg [
       ⟨.mv, [.v 0 false], .t, none⟩,
       ⟨(.call 25), [.t 0 false], .t, none⟩,
       ⟨.mv, [.t 1 true], (.v 4), none⟩] false)
     (.seq
      (.reg [
        ⟨.mv, [.v 4 false], .t, none⟩,
        ⟨.mv, [.v 4 false], .t, none⟩,
        ⟨.len, [.t 1 false], .t, none⟩,
        ⟨.mv, [.v 4 false], .t, none⟩,
        ⟨.len, [.t 3 false], .t, none⟩,
        ⟨(.slc 1 false true true), [.t 0 false, .t 2 false, .t 4 false], .t, none⟩,
        ⟨.mv, [.v 1 true], .t, none⟩,
        ⟨(.app 1 1), [.t 5 true, .t 6 false], .t, none⟩,
        ⟨(.call 20), [.t 7 false], .t, none⟩,
        ⟨.mv, [.t 8 false], .t, none⟩,
        ⟨(.ext 0), [.t 9 false], .t, none⟩,
        ⟨(.ext 1), [.t 9 false], .t, none⟩,
        ⟨(.ext 2), [.t 9 false], .t, none⟩,
        ⟨.mv, [.t 10 false], (.v 5), none⟩,
        ⟨.mv, [.t 11 false], (.v 6), none⟩,
        ⟨.mv, [.t 12 false], (.v 7), none⟩] false)
      (.seq
       (.reg [
         ⟨.mv, [.v 4 false], .t, none⟩,
         ⟨.mv, [.v 4 false], .t, none⟩,
         ⟨.len, [.t 1 false], .t, none⟩,
         ⟨(.bin .sub false), [.t 2 false, .c (.sc (.int .i64 1))], .t, none⟩,
         ⟨.max, [.c (.sc (.int .i64 0)), .t 3 false], .t, none⟩,
         ⟨(.slc 1 false true false), [.t 0 false, .t 4 false], .t, none⟩,
         ⟨(.call 20), [.t 5 false], .t, none⟩,
         ⟨.mv, [.t 6 false], .t, none⟩,
         ⟨(.ext 0), [.t 7 false], .t, none⟩,
         ⟨(.ext 1), [.t 7 false], .t, none⟩,
         ⟨(.ext 2), [.t 7 false], .t, none⟩,
         ⟨.mv, [.t 8 false], .t, none⟩,
         ⟨.mv, [.t 9 false], .t, none⟩,
         ⟨.mv, [.t 10 false], (.v 8), none⟩] false)
       (.seq
        (.reg [
          ⟨(.call 14), [], .t, none⟩,
          ⟨.mv, [.t 0 false], .t, none⟩,
          ⟨.mv, [.v 4 false], .t, (some (1, true))⟩,
          ⟨.mv, [.v 0 false], .t, (some (1, true))⟩,
          ⟨(.call 26), [.t 3 false], .t, (some (1, true))⟩,
          ⟨(.call 15), [.t 2 false, .t 4 false], .t, (some (1, true))⟩,
          ⟨.pick, [.t 1 false, .t 5 false, .c (.sc (.bool false))], .t, none⟩,
          ⟨.mv, [.t 6 false], .t, none⟩,
          ⟨.mv, [.v 5 false], .t, (some (7, true))⟩,
          ⟨.mv, [.v 0 false], .t, (some (7, true))⟩,
          ⟨(.bin .eql false), [.t 8 false, .t 9 false], .t, (some (7, true))⟩,
          ⟨.pick, [.t 7 false, .t 10 false, .c (.sc (.bool false))], .t, none⟩,
          ⟨.mv, [.t 11 false], .t, none⟩,
          ⟨.mv, [.v 6 false], .t, (some (12, true))⟩,
          ⟨.mv, [.v 4 true], .t, (some (12, true))⟩,
          ⟨.len, [.t 14 false], .t, (some (12, true))⟩,
          ⟨(.bin .eql false), [.t 13 false, .t 15 false], .t, (some (12, true))⟩,
          ⟨.pick, [.t 12 false, .t 16 false, .c (.sc (.bool false))], .t, none⟩,
          ⟨.mv, [.t 17 false], .t, none⟩,
          ⟨.mv, [.v 7 false], .t, (some (18, true))⟩,
          ⟨(.bin .eql false), [.t 19 false, .c (.sc (.int .i64 0))], .t, (some (18, true))⟩,
          ⟨.pick, [.t 18 false, .t 20 false, .c (.sc (.bool false))], .t, none⟩,
          ⟨.mv, [.t 21 false], .t, none⟩,
          ⟨.mv, [.v 8 false], .t, (some (22, true))⟩,
          ⟨(.bin .eql false), [.t 23 false, .c (.sc (.int .i64 3))], .t, (some (22, true))⟩,
          ⟨.pick, [.t 22 false, .t 24 false, .c (.sc (.bool false))], .t, none⟩,
          ⟨.mv, [.t 25 false], (.v 2), none⟩] false)
        .ret)))))) }

/-- underwood/underwoodlaw03.WireRows -/
def ir8 : FnIR := { np := 2, nv := 9, slots := [0, 1, 4, 19, 5, 6, 7, 8, 11], res := [.v 2], body :=
  (.seq
   (.reg [
     ⟨.mv, [.c (.sc (.bool false))], (.v 2), none⟩] false)
   (.seq
    (.seq
     (.reg [
       ⟨.mv, [.v 0 false], .t, none⟩,
       ⟨.len, [.t 0 false], .t, none⟩,
       ⟨(.bin .gtr false), [.t 1 false, .c (.sc (.int .i64 300))], .t, none⟩,
       ⟨.mv, [.t 2 false], .t, none⟩,
       ⟨.mv, [.v 1 false], .t, (some (3, false))⟩,
       ⟨.len, [.t 4 false], .t, (some (3, false))⟩,
       ⟨(.bin .gtr false), [.t 5 false, .c (.sc (.int .i64 1000))], .t, (some (3, false))⟩,
       ⟨.pick, [.t 3 false, .c (.sc (.bool true)), .t 6 false], (.v 3), none⟩] false)
     (.cond (.v 3 false)
      (.seq
       (.reg [
         ⟨(.call 14), [], .t, none⟩,
         ⟨.mv, [.t 0 false], (.v 2), none⟩] false)
       .ret)
      .skip))
    (.seq
     (.reg [
       ⟨.mv, [.v 0 false], .t, none⟩,
       ⟨(.call 27), [.t 0 false], .t, none⟩,
       ⟨.mv, [.t 1 true], (.v 4), none⟩] false)
     (.seq
      (.reg [
        ⟨.mv, [.v 4 false], .t, none⟩,
        ⟨.mv, [.v 4 false], .t, none⟩,
        ⟨.len, [.t 1 false], .t, none⟩,
        ⟨.mv, [.v 4 false], .t, none⟩,
        ⟨.len, [.t 3 false], .t, none⟩,
        ⟨(.slc 1 false true true), [.t 0 false, .t 2 false, .t 4 false], .t, none⟩,
        ⟨.mv, [.v 1 true], .t, none⟩,
        ⟨(.app 1 1), [.t 5 true, .t 6 false], .t, none⟩,
        ⟨(.call 22), [.t 7 false], .t, none⟩,
        ⟨.mv, [.t 8 true], .t, none⟩,
        ⟨(.ext 0), [.t 9 false], .t, none⟩,
        ⟨(.ext 1), [.t 9 false], .t, none⟩,
        ⟨(.ext 2), [.t 9 false], .t, none⟩,
        ⟨.mv, [.t 10 true], (.v 5), none⟩,
        ⟨.mv, [.t 11 false], (.v 6), none⟩,
        ⟨.mv, [.t 12 false], (.v 7), none⟩] false)
      (.seq
       (.reg [
         ⟨.mv, [.v 4 false], .t, none⟩,
         ⟨.mv, [.v 4 false], .t, none⟩,
         ⟨.len, [.t 1 false], .t, none⟩,
         ⟨(.bin .sub false), [.t 2 false, .c (.sc (.int .i64 1))], .t, none⟩,
         ⟨.max, [.c (.sc (.int .i64 0)), .t 3 false], .t, none⟩,
         ⟨(.slc 1 false true false), [.t 0 false, .t 4 false], .t, none⟩,
         ⟨(.call 22), [.t 5 false], .t, none⟩,
         ⟨.mv, [.t 6 true], .t, none⟩,
         ⟨(.ext 0), [.t 7 false], .t, none⟩,
         ⟨(.ext 1), [.t 7 false], .t, none⟩,
         ⟨(.ext 2), [.t 7 false], .t, none⟩,
         ⟨.mv, [.t 8 true], .t, none⟩,
         ⟨.mv, [.t 9 false], .t, none⟩,
         ⟨.mv, [.t 10 false], (.v 8), none⟩] false)
       (.seq
        (.reg [
          ⟨(.call 14), [], .t, none⟩,
          ⟨.mv, [.t 0 false], .t, none⟩,
          ⟨.mv, [.v 4 false], .t, (some (1, true))⟩,
          ⟨.mv, [.v 0 false], .t, (some (1, true))⟩,
          ⟨(.call 28), [.t 3 false], .t, (some (1, true))⟩,
          ⟨(.call 15), [.t 2 false, .t 4 false], .t, (some (1, true))⟩,
          ⟨.pick, [.t 1 false, .t 5 false, .c (.sc (.bool false))], .t, none⟩,
          ⟨.mv, [.t 6 false], .t, none⟩,
          ⟨.mv, [.v 5 true], .t, (some (7, true))⟩,
          ⟨.mv, [.v 0 true], .t, (some (7, true))⟩,
          ⟨(.call 24), [.t 8 false, .t 9 false], .t, (some (7, true))⟩,
          ⟨.pick, [.t 7 false, .t 10 false, .c (.sc (.bool false))], .t, none⟩,
          ⟨.mv, [.t 11 false], .t, none⟩,
          ⟨.mv, [.v 6 false], .t, (some (12, true))⟩,
          ⟨.mv, [.v 4 true], .t, (some (12, true))⟩,
          ⟨.len, [.t 14 false], .t, (some (12, true))⟩,
          ⟨(.bin .eql false), [.t 13 false, .t 15 false], .t, (some (12, true))⟩,
          ⟨.pick, [.t 12 false, .t 16 false, .c (.sc (.bool false))], .t, none⟩,
          ⟨.mv, [.t 17 false], .t, none⟩,
          ⟨.mv, [.v 7 false], .t, (some (18, true))⟩,
          ⟨(.bin .eql false), [.t 19 false, .c (.sc (.int .i64 0))], .t, (some (18, true))⟩,
          ⟨.pick, [.t 18 false, .t 20 false, .c (.sc (.bool false))], .t, none⟩,
          ⟨.mv, [.t 21 false], .t, none⟩,
          ⟨.mv, [.v 8 false], .t, (some (22, true))⟩,
          ⟨(.bin .eql false), [.t 23 false, .c (.sc (.int .i64 3))], .t, (some (22, true))⟩,
          ⟨.pick, [.t 22 false, .t 24 false, .c (.sc (.bool false))], .t, none⟩,
          ⟨.mv, [.t 25 false], (.v 2), none⟩] false)
        .ret)))))) }

/-- underwood/underwoodlaw03.WireApart -/
def ir9 : FnIR := { np := 2, nv := 6, slots := [0, 1, 4, 40, 5, 6], res := [.v 2], body :=
  (.seq
   (.reg [
     ⟨.mv, [.c (.sc (.bool false))], (.v 2), none⟩] false)
   (.seq
    (.reg [
      ⟨.mv, [.v 0 false], .t, none⟩,
      ⟨(.call 16), [.t 0 false], .t, none⟩,
      ⟨.mv, [.v 1 false], .t, none⟩,
      ⟨(.call 16), [.t 2 false], .t, none⟩,
      ⟨.mv, [.t 1 true], (.v 4), none⟩,
      ⟨.mv, [.t 3 true], (.v 5), none⟩] false)
    (.seq
     (.seq
      (.reg [
        ⟨.mv, [.v 0 false], .t, none⟩,
        ⟨(.bin .geq false), [.t 0 false, .c (.sc (.int .i64 0))], .t, none⟩,
        ⟨.mv, [.v 1 false], .t, none⟩,
        ⟨(.bin .geq false), [.t 2 false, .c (.sc (.int .i64 0))], .t, none⟩,
        ⟨(.bin .eql true), [.t 1 false, .t 3 false], .t, none⟩,
        ⟨.mv, [.t 4 false], .t, none⟩,
        ⟨.mv, [.v 0 false], .t, (some (5, true))⟩,
        ⟨(.bin .geq false), [.t 6 false, .c (.sc (.int .i64 0))], .t, (some (5, true))⟩,
        ⟨.mv, [.t 7 false], .t, (some (5, true))⟩,
        ⟨.mv, [.v 0 false], .t, (some (8, true))⟩,
        ⟨.mv, [.v 1 false], .t, (some (8, true))⟩,
        ⟨(.bin .leq false), [.t 9 false, .t 10 false], .t, (some (8, true))⟩,
        ⟨.pick, [.t 8 false, .t 11 false, .c (.sc (.bool false))], .t, (some (5, true))⟩,
        ⟨.mv, [.t 12 false], .t, (some (5, true))⟩,
        ⟨.mv, [.v 0 false], .t, (some (13, false))⟩,
        ⟨(.bin .lss false), [.t 14 false, .c (.sc (.int .i64 0))], .t, (some (13, false))⟩,
        ⟨.mv, [.t 15 false], .t, (some (13, false))⟩,
        ⟨.mv, [.v 0 false], .t, (some (16, true))⟩,
        ⟨.mv, [.v 1 false], .t, (some (16, true))⟩,
        ⟨(.bin .geq false), [.t 17 false, .t 18 false], .t, (some (16, true))⟩,
        ⟨.pick, [.t 16 false, .t 19 false, .c (.sc (.bool false))], .t, (some (13, false))⟩,
        ⟨.pick, [.t 13 false, .c (.sc (.bool true)), .t 20 false], .t, (some (5, true))⟩,
        ⟨.pick, [.t 5 false, .t 21 false, .c (.sc (.bool false))], .t, none⟩,
        ⟨.mv, [.t 22 false], .t, none⟩,
        ⟨.mv, [.v 4 false], .t, (some (23, true))⟩,
        ⟨.len, [.t 24 false], .t, (some (23, true))⟩,
        ⟨.mv, [.v 5 false], .t, (some (23, true))⟩,
        ⟨.len, [.t 26 false], .t, (some (23, true))⟩,
        ⟨(.bin .gtr false), [.t 25 false, .t 27 false], .t, (some (23, true))⟩,
        ⟨.pick, [.t 23 false, .t 28 false, .c (.sc (.bool false))], (.v 3), none⟩] false)
      (.cond (.v 3 false)
       (.seq
        (.reg [
          ⟨.mv, [.c (.sc (.bool false))], (.v 2), none⟩] false)
        .ret)
       .skip))
     (.seq
      (.reg [
        ⟨(.call 14), [], .t, none⟩,
        ⟨.mv, [.t 0 false], .t, none⟩,
        ⟨.mv, [.v 4 true], .t, (some (1, true))⟩,
        ⟨.mv, [.v 5 true], .t, (some (1, true))⟩,
        ⟨(.call 15), [.t 2 false, .t 3 false], .t, (some (1, true))⟩,
        ⟨.mv, [.v 0 false], .t, (some (1, true))⟩,
        ⟨.mv, [.v 1 false], .t, (some (1, true))⟩,
        ⟨(.bin .eql false), [.t 5 false, .t 6 false], .t, (some (1, true))⟩,
        ⟨(.bin .eql true), [.t 4 false, .t 7 false], .t, (some (1, true))⟩,
        ⟨.pick, [.t 1 false, .t 8 false, .c (.sc (.bool false))], .t, none⟩,
        ⟨.mv, [.t 9 false], (.v 2), none⟩] false)
      .ret)))) }

/-- underwood/underwoodlaw03.WireTwo -/
def ir10 : FnIR := { np := 2, nv := 12, slots := [0, 1, 4, 17, 41, 5, 8, 7, 6, 9, 11, 10], res := [.v 2], body :=
  (.seq
   (.reg [
     ⟨.mv, [.c (.sc (.bool false))], (.v 2), none⟩] false)
   (.seq
    (.seq
     (.reg [
       ⟨.mv, [.v 0 false], .t, none⟩,
       ⟨.len, [.t 0 false], .t, none⟩,
       ⟨.mv, [.v 1 false], .t, none⟩,
       ⟨.len, [.t 2 false], .t, none⟩,
       ⟨(.bin .add false), [.t 1 false, .t 3 false], .t, none⟩,
       ⟨(.bin .gtr false), [.t 4 false, .c (.sc (.int .i64 300))], (.v 3), none⟩] false)
     (.cond (.v 3 false)
      (.seq
       (.reg [
         ⟨(.call 14), [], .t, none⟩,
         ⟨.mv, [.t 0 false], (.v 2), none⟩] false)
       .ret)
      .skip))
    (.seq
     (.reg [
       ⟨.mv, [.v 0 false], .t, none⟩,
       ⟨(.call 27), [.t 0 false], .t, none⟩,
       ⟨.mv, [.v 1 false], .t, none⟩,
       ⟨(.call 27), [.t 2 false], .t, none⟩,
       ⟨(.app 1 1), [.t 1 true, .t 3 false], .t, none⟩,
       ⟨.mv, [.t 4 true], (.v 5), none⟩] false)
     (.seq
      (.reg [
        ⟨.mv, [.v 5 false], .t, none⟩,
        ⟨(.call 22), [.t 0 false], .t, none⟩,
        ⟨.mv, [.t 1 true], .t, none⟩,
        ⟨(.ext 0), [.t 2 false], .t, none⟩,
        ⟨(.ext 1), [.t 2 false], .t, none⟩,
        ⟨(.ext 2), [.t 2 false], .t, none⟩,
        ⟨.mv, [.t 3 true], (.v 8), none⟩,
        ⟨.mv, [.t 4 false], (.v 7), none⟩,
        ⟨.mv, [.t 5 false], (.v 6), none⟩] false)
      (.seq
       (.seq
        (.reg [
          ⟨.mv, [.v 6 false], .t, none⟩,
          ⟨(.bin .neq false), [.t 0 false, .c (.sc (.int .i64 0))], .t, none⟩,
          ⟨.mv, [.t 1 false], .t, none⟩,
          ⟨.mv, [.v 7 false], .t, (some (2, false))⟩,
          ⟨(.bin .lss false), [.t 3 false, .c (.sc (.int .i64 0))], .t, (some (2, false))⟩,
          ⟨.pick, [.t 2 false, .c (.sc (.bool true)), .t 4 false], .t, none⟩,
          ⟨.mv, [.t 5 false], .t, none⟩,
          ⟨.mv, [.v 7 false], .t, (some (6, false))⟩,
          ⟨.mv, [.v 5 false], .t, (some (6, false))⟩,
          ⟨.len, [.t 8 false], .t, (some (6, false))⟩,
          ⟨(.bin .gtr false), [.t 7 false, .t 9 false], .t, (some (6, false))⟩,
          ⟨.pick, [.t 6 false, .c (.sc (.bool true)), .t 10 false], (.v 4), none⟩] false)
        (.cond (.v 4 false)
         (.seq
          (.reg [
            ⟨.mv, [.c (.sc (.bool false))], (.v 2), none⟩] false)
          .ret)
         .skip))
       (.seq
        (.reg [
          ⟨.mv, [.v 5 false], .t, none⟩,
          ⟨.mv, [.v 7 false], .t, none⟩,
          ⟨(.slc 1 true false false), [.t 0 false, .t 1 false], .t, none⟩,
          ⟨(.call 22), [.t 2 false], .t, none⟩,
          ⟨.mv, [.t 3 true], .t, none⟩,
          ⟨(.ext 0), [.t 4 false], .t, none⟩,
          ⟨(.ext 1), [.t 4 false], .t, none⟩,
          ⟨(.ext 2), [.t 4 false], .t, none⟩,
          ⟨.mv, [.t 5 true], (.v 9), none⟩,
          ⟨.mv, [.t 6 false], (.v 11), none⟩,
          ⟨.mv, [.t 7 false], (.v 10), none⟩] false)
        (.seq
         (.reg [
           ⟨(.call 14), [], .t, none⟩,
           ⟨.mv, [.t 0 false], .t, none⟩,
           ⟨.mv, [.v 8 true], .t, (some (1, true))⟩,
           ⟨.mv, [.v 0 true], .t, (some (1, true))⟩,
           ⟨(.call 24), [.t 2 false, .t 3 false], .t, (some (1, true))⟩,
           ⟨.pick, [.t 1 false, .t 4 false, .c (.sc (.bool false))], .t, none⟩,
           ⟨.mv, [.t 5 false], .t, none⟩,
           ⟨.mv, [.v 9 true], .t, (some (6, true))⟩,
           ⟨.mv, [.v 1 true], .t, (some (6, true))⟩,
           ⟨(.call 24), [.t 7 false, .t 8 false], .t, (some (6, true))⟩,
           ⟨.pick, [.t 6 false, .t 9 false, .c (.sc (.bool false))], .t, none⟩,
           ⟨.mv, [.t 10 false], .t, none⟩,
           ⟨.mv, [.v 10 false], .t, (some (11, true))⟩,
           ⟨(.bin .eql false), [.t 12 false, .c (.sc (.int .i64 0))], .t, (some (11, true))⟩,
           ⟨.pick, [.t 11 false, .t 13 false, .c (.sc (.bool false))], .t, none⟩,
           ⟨.mv, [.t 14 false], .t, none⟩,
           ⟨.mv, [.v 7 false], .t, (some (15, true))⟩,
           ⟨.mv, [.v 11 false], .t, (some (15, true))⟩,
           ⟨(.bin .add false), [.t 16 false, .t 17 false], .t, (some (15, true))⟩,
           ⟨.mv, [.v 5 true], .t, (some (15, true))⟩,
           ⟨.len, [.t 19 false], .t, (some (15, true))⟩,
           ⟨(.bin .eql false), [.t 18 false, .t 20 false], .t, (some (15, true))⟩,
           ⟨.pick, [.t 15 false, .t 21 false, .c (.sc (.bool false))], .t, none⟩,
           ⟨.mv, [.t 22 false], (.v 2), none⟩] false)
         .ret))))))) }

/-- underwood/underwoodlaw03.WireSums -/
def ir11 : FnIR := { np := 1, nv := 9, slots := [0, 2, 11, 3, 6, 4, 7, 5, 8], res := [.v 1], body :=
  (.seq
   (.reg [
     ⟨.mv, [.c (.sc (.bool false))], (.v 1), none⟩] false)
   (.seq
    (.seq
     (.reg [
       ⟨.mv, [.v 0 false], .t, none⟩,
       ⟨.len, [.t 0 false], .t, none⟩,
       ⟨(.bin .gtr false), [.t 1 false, .c (.sc (.int .i64 1000))], (.v 2), none⟩] false)
     (.cond (.v 2 false)
      (.seq
       (.reg [
         ⟨(.call 14), [], .t, none⟩,
         ⟨.mv, [.t 0 false], (.v 1), none⟩] false)
       .ret)
      .skip))
    (.seq
     (.reg [
       ⟨.mv, [.v 0 false], .t, none⟩,
       ⟨(.call 29), [.t 0 false], .t, none⟩,
       ⟨.mv, [.t 1 true], .t, none⟩,
       ⟨(.ext 0), [.t 2 false], .t, none⟩,
       ⟨(.ext 1), [.t 2 false], .t, none⟩,
       ⟨(.ext 2), [.t 2 false], .t, none⟩,
       ⟨.mv, [.t 3 true], (.v 3), none⟩,
       ⟨.mv, [.t 4 false], (.v 5), none⟩,
       ⟨.mv, [.t 5 false], (.v 7), none⟩] false)
     (.seq
      (.reg [
        ⟨.mv, [.v 0 false], .t, none⟩,
        ⟨(.call 30), [.t 0 false], .t, none⟩,
        ⟨.mv, [.t 1 true], .t, none⟩,
        ⟨(.ext 0), [.t 2 false], .t, none⟩,
        ⟨(.ext 1), [.t 2 false], .t, none⟩,
        ⟨(.ext 2), [.t 2 false], .t, none⟩,
        ⟨.mv, [.t 3 true], (.v 4), none⟩,
        ⟨.mv, [.t 4 false], (.v 6), none⟩,
        ⟨.mv, [.t 5 false], (.v 8), none⟩] false)
      (.seq
       (.reg [
         ⟨(.call 14), [], .t, none⟩,
         ⟨.mv, [.t 0 false], .t, none⟩,
         ⟨.mv, [.v 0 false], .t, (some (1, true))⟩,
         ⟨(.call 31), [.t 2 false], .t, (some (1, true))⟩,
         ⟨.mv, [.v 0 false], .t, (some (1, true))⟩,
         ⟨(.call 32), [.t 4 false], .t, (some (1, true))⟩,
         ⟨(.bin .eql false), [.t 3 false, .t 5 false], .t, (some (1, true))⟩,
         ⟨.pick, [.t 1 false, .t 6 false, .c (.sc (.bool false))], .t, none⟩,
         ⟨.mv, [.t 7 false], .t, none⟩,
         ⟨.mv, [.v 0 false], .t, (some (8, true))⟩,
         ⟨(.call 33), [.t 9 false], .t, (some (8, true))⟩,
         ⟨.mv, [.v 0 true], .t, (some (8, true))⟩,
         ⟨(.call 34), [.t 11 false], .t, (some (8, true))⟩,
         ⟨(.call 15), [.t 10 false, .t 12 false], .t, (some (8, true))⟩,
         ⟨.pick, [.t 8 false, .t 13 false, .c (.sc (.bool false))], .t, none⟩,
         ⟨.mv, [.t 14 false], .t, none⟩,
         ⟨.mv, [.v 3 true], .t, (some (15, true))⟩,
         ⟨.mv, [.v 4 true], .t, (some (15, true))⟩,
         ⟨(.call 15), [.t 16 false, .t 17 false], .t, (some (15, true))⟩,
         ⟨.pick, [.t 15 false, .t 18 false, .c (.sc (.bool false))], .t, none⟩,
         ⟨.mv, [.t 19 false], .t, none⟩,
         ⟨.mv, [.v 5 false], .t, (some (20, true))⟩,
         ⟨.mv, [.v 6 false], .t, (some (20, true))⟩,
         ⟨(.bin .eql false), [.t 21 false, .t 22 false], .t, (some (20, true))⟩,
         ⟨.pick, [.t 20 false, .t 23 false, .c (.sc (.bool false))], .t, none⟩,
         ⟨.mv, [.t 24 false], .t, none⟩,
         ⟨.mv, [.v 7 false], .t, (some (25, true))⟩,
         ⟨.mv, [.v 8 false], .t, (some (25, true))⟩,
         ⟨(.bin .eql false), [.t 26 false, .t 27 false], .t, (some (25, true))⟩,
         ⟨.pick, [.t 25 false, .t 28 false, .c (.sc (.bool false))], .t, none⟩,
         ⟨.mv, [.t 29 false], (.v 1), none⟩] false)
       .ret))))) }

def ir12_l0 : IR :=
          (.seq
           (.reg [
             ⟨(.bin .lss false), [.v 7 false, .v 8 false], (.v 4), none⟩] false)
           (.seq
            (.cond (.v 4 false)
             .skip
             (.exit 0))
            (.seq
             (.block 1
              (.seq
               (.reg [
                 ⟨.mv, [.v 7 false], .t, none⟩,
                 ⟨.mv, [.t 0 false], (.v 9), none⟩] false)
               (.seq
                (.reg [
                  ⟨.mv, [.v 6 false], .t, none⟩,
                  ⟨.mv, [.v 9 false], .t, none⟩,
                  ⟨(.slc 1 false true false), [.t 0 false, .t 1 false], .t, none⟩,
                  ⟨(.call 29), [.t 2 false], .t, none⟩,
                  ⟨.mv, [.t 3 true], .t, none⟩,
                  ⟨(.ext 0), [.t 4 false], .t, none⟩,
                  ⟨(.ext 1), [.t 4 false], .t, none⟩,
                  ⟨(.ext 2), [.t 4 false], .t, none⟩,
                  ⟨.mv, [.t 5 true], .t, none⟩,
                  ⟨.mv, [.t 6 false], .t, none⟩,
                  ⟨.mv, [.t 7 false], (.v 10), none⟩] false)
                (.seq
                 (.reg [
                   ⟨.mv, [.v 10 false], .t, none⟩,
                   ⟨(.bin .neq false), [.t 0 false, .c (.sc (.int .i64 3))], (.v 5), none⟩] false)
                 (.cond (.v 5 false)
                  (.seq
                   (.reg [
                     ⟨.mv, [.c (.sc (.bool false))], (.v 2), none⟩] false)
                   .ret)
                  .skip)))))
             (.reg [
               ⟨(.bin .add false), [.v 7 false, .c (.sc (.int .i64 1))], .t, none⟩,
               ⟨.mv, [.t 0 false], (.v 7), none⟩] false))))

/-- underwood/underwoodlaw03.WireSeals -/
def ir12 : FnIR := { np := 2, nv := 14, slots := [0, 1, 4, 18, 38, 49, 5, 37, 36, 9, 12, 6, 7, 8], res := [.v 2], body :=
  (.seq
   (.reg [
     ⟨.mv, [.c (.sc (.bool false))], (.v 2), none⟩] false)
   (.seq
    (.seq
     (.reg [
       ⟨.mv, [.v 0 false], .t, none⟩,
       ⟨.len, [.t 0 false], .t, none⟩,
       ⟨.mv, [.v 1 false], .t, none⟩,
       ⟨.len, [.t 2 false], .t, none⟩,
       ⟨(.bin .add false), [.t 1 false, .t 3 false], .t, none⟩,
       ⟨(.bin .gtr false), [.t 4 false, .c (.sc (.int .i64 600))], (.v 3), none⟩] false)
     (.cond (.v 3 false)
      (.seq
       (.reg [
         ⟨(.call 14), [], .t, none⟩,
         ⟨.mv, [.t 0 false], (.v 2), none⟩] false)
       .ret)
      .skip))
    (.seq
     (.reg [
       ⟨.mv, [.v 0 false], .t, none⟩,
       ⟨(.call 33), [.t 0 false], .t, none⟩,
       ⟨.mv, [.t 1 true], (.v 6), none⟩] false)
     (.seq
      (.reg [
        ⟨.mv, [.v 6 false], .t, none⟩,
        ⟨.mv, [.v 6 false], .t, none⟩,
        ⟨.len, [.t 1 false], .t, none⟩,
        ⟨.mv, [.v 6 false], .t, none⟩,
        ⟨.len, [.t 3 false], .t, none⟩,
        ⟨(.slc 1 false true true), [.t 0 false, .t 2 false, .t 4 false], .t, none⟩,
        ⟨.mv, [.v 1 true], .t, none⟩,
        ⟨(.app 1 1), [.t 5 true, .t 6 false], .t, none⟩,
        ⟨(.call 29), [.t 7 false], .t, none⟩,
        ⟨.mv, [.t 8 true], .t, none⟩,
        ⟨(.ext 0), [.t 9 false], .t, none⟩,
        ⟨(.ext 1), [.t 9 false], .t, none⟩,
        ⟨(.ext 2), [.t 9 false], .t, none⟩,
        ⟨.mv, [.t 10 true], (.v 11), none⟩,
        ⟨.mv, [.t 11 false], (.v 12), none⟩,
        ⟨.mv, [.t 12 false], (.v 13), none⟩] false)
      (.seq
       (.seq
        (.reg [
          ⟨.mv, [.v 6 false], .t, none⟩,
          ⟨.len, [.t 0 false], (.v 8), none⟩,
          ⟨.mv, [.c (.sc (.int .i64 0))], (.v 7), none⟩] false)
        (.block 0
         (.loop ir12_l0)))
       (.seq
        (.reg [
          ⟨(.call 14), [], .t, none⟩,
          ⟨.mv, [.t 0 false], .t, none⟩,
          ⟨.mv, [.v 11 true], .t, (some (1, true))⟩,
          ⟨.mv, [.v 0 true], .t, (some (1, true))⟩,
          ⟨(.call 15), [.t 2 false, .t 3 false], .t, (some (1, true))⟩,
          ⟨.pick, [.t 1 false, .t 4 false, .c (.sc (.bool false))], .t, none⟩,
          ⟨.mv, [.t 5 false], .t, none⟩,
          ⟨.mv, [.v 12 false], .t, (some (6, true))⟩,
          ⟨.mv, [.v 6 true], .t, (some (6, true))⟩,
          ⟨.len, [.t 8 false], .t, (some (6, true))⟩,
          ⟨(.bin .eql false), [.t 7 false, .t 9 false], .t, (some (6, true))⟩,
          ⟨.pick, [.t 6 false, .t 10 false, .c (.sc (.bool false))], .t, none⟩,
          ⟨.mv, [.t 11 false], .t, none⟩,
          ⟨.mv, [.v 13 false], .t, (some (12, true))⟩,
          ⟨(.bin .eql false), [.t 13 false, .c (.sc (.int .i64 0))], .t, (some (12, true))⟩,
          ⟨.pick, [.t 12 false, .t 14 false, .c (.sc (.bool false))], .t, none⟩,
          ⟨.mv, [.t 15 false], (.v 2), none⟩] false)
        .ret)))))) }

/-- underwood/underwoodlaw03.WireTurned -/
def ir13 : FnIR := { np := 4, nv := 16, slots := [0, 1, 2, 3, 8, 22, 60, 73, 4, 7, 9, 10, 11, 13, 12, 16], res := [.v 4], body :=
  (.seq
   (.reg [
     ⟨(.hp 1), [.v 0 true], (.v 8), none⟩,
     ⟨(.hp 1), [.v 3 true], (.v 9), none⟩,
     ⟨.mv, [.c (.sc (.bool false))], (.v 4), none⟩] false)
   (.seq
    (.seq
     (.reg [
       ⟨(.ldP 1 false false), [.v 8 false], .t, none⟩,
       ⟨.len, [.t 0 false], .t, none⟩,
       ⟨(.ldP 1 false false), [.v 9 false], .t, none⟩,
       ⟨.len, [.t 2 false], .t, none⟩,
       ⟨(.bin .add false), [.t 1 false, .t 3 false], .t, none⟩,
       ⟨(.bin .gtr false), [.t 4 false, .c (.sc (.int .i64 600))], (.v 5), none⟩] false)
     (.cond (.v 5 false)
      (.seq
       (.reg [
         ⟨(.call 14), [], .t, none⟩,
         ⟨.mv, [.t 0 false], (.v 4), none⟩] false)
       .ret)
      .skip))
    (.seq
     (.reg [
       ⟨(.mkFn (.func 35) 0), [.v 8 false, .v 9 false], .t, none⟩,
       ⟨.mv, [.t 0 false], (.v 10), none⟩] false)
     (.seq
      (.reg [
        ⟨.mv, [.v 10 false], .t, none⟩,
        ⟨.mv, [.v 1 false], .t, none⟩,
        ⟨(.buildSl 1 [(.sc (.int .u8 0))] [0]), [.t 1 false], .t, none⟩,
        ⟨.callV, [.t 0 false, .t 2 false], .t, none⟩,
        ⟨.mv, [.v 10 false], .t, none⟩,
        ⟨.mv, [.v 2 false], .t, none⟩,
        ⟨(.buildSl 1 [(.sc (.int .u8 0))] [0]), [.t 5 false], .t, none⟩,
        ⟨.callV, [.t 4 false, .t 6 false], .t, none⟩,
        ⟨.mv, [.t 3 true], (.v 11), none⟩,
        ⟨.mv, [.t 7 true], (.v 12), none⟩] false)
      (.seq
       (.seq
        (.reg [
          ⟨.mv, [.v 11 false], .t, none⟩,
          ⟨(.call 31), [.t 0 false], .t, none⟩,
          ⟨.mv, [.v 12 true], .t, none⟩,
          ⟨(.call 31), [.t 2 false], .t, none⟩,
          ⟨(.bin .eql false), [.t 1 false, .t 3 false], .t, none⟩,
          ⟨.mv, [.v 1 false], .t, none⟩,
          ⟨.mv, [.v 2 false], .t, none⟩,
          ⟨(.bin .eql false), [.t 5 false, .t 6 false], .t, none⟩,
          ⟨(.bin .neq true), [.t 4 false, .t 7 false], .t, none⟩,
          ⟨.mv, [.t 8 false], .t, none⟩,
          ⟨.mv, [.v 10 false], .t, (some (9, false))⟩,
          ⟨.mv, [.v 1 false], .t, (some (9, false))⟩,
          ⟨.mv, [.v 2 false], .t, (some (9, false))⟩,
          ⟨(.buildSl 1 [(.sc (.int .u8 0)), (.sc (.int .u8 0))] [0, 1]), [.t 11 false, .t 12 false], .t, (some (9, false))⟩,
          ⟨.callV, [.t 10 false, .t 13 false], .t, (some (9, false))⟩,
          ⟨(.call 31), [.t 14 false], .t, (some (9, false))⟩,
          ⟨.mv, [.v 10 false], .t, (some (9, false))⟩,
          ⟨.mv, [.v 2 false], .t, (some (9, false))⟩,
          ⟨.mv, [.v 1 false], .t, (some (9, false))⟩,
          ⟨(.buildSl 1 [(.sc (.int .u8 0)), (.sc (.int .u8 0))] [0, 1]), [.t 17 false, .t 18 false], .t, (some (9, false))⟩,
          ⟨.callV, [.t 16 false, .t 19 false], .t, (some (9, false))⟩,
          ⟨(.call 31), [.t 20 false], .t, (some (9, false))⟩,
          ⟨(.bin .eql false), [.t 15 false, .t 21 false], .t, (some (9, false))⟩,
          ⟨.mv, [.v 1 false], .t, (some (9, false))⟩,
          ⟨.mv, [.v 2 false], .t, (some (9, false))⟩,
          ⟨(.bin .eql false), [.t 23 false, .t 24 false], .t, (some (9, false))⟩,
          ⟨(.bin .neq true), [.t 22 false, .t 25 false], .t, (some (9, false))⟩,
          ⟨.pick, [.t 9 false, .c (.sc (.bool true)), .t 26 false], (.v 6), none⟩] false)
        (.cond (.v 6 false)
         (.seq
          (.reg [
            ⟨.mv, [.c (.sc (.bool false))], (.v 4), none⟩] false)
          .ret)
         .skip))
       (.seq
        (.reg [
          ⟨.mv, [.v 11 false], .t, none⟩,
          ⟨(.call 33), [.t 0 false], .t, none⟩,
          ⟨.mv, [.t 1 true], (.v 14), none⟩] false)
        (.seq
         (.reg [
           ⟨.mv, [.v 11 true], .t, none⟩,
           ⟨.len, [.t 0 false], .t, none⟩,
           ⟨(.callQ 16), [.t 1 false], .t, none⟩,
           ⟨.len, [.t 2 false], .t, none⟩,
           ⟨(.ldP 1 false false), [.v 8 false], .t, none⟩,
           ⟨.len, [.t 4 false], .t, none⟩,
           ⟨(.bin .add false), [.t 3 false, .t 5 false], .t, none⟩,
           ⟨.mv, [.t 6 false], (.v 13), none⟩] true)
         (.seq
          (.seq
           (.reg [
             ⟨.mv, [.v 13 false], .t, none⟩,
             ⟨.mv, [.v 14 false], .t, none⟩,
             ⟨.len, [.t 1 false], .t, none⟩,
             ⟨(.bin .geq false), [.t 0 false, .t 2 false], (.v 7), none⟩] false)
           (.cond (.v 7 false)
            (.seq
             (.reg [
               ⟨.mv, [.c (.sc (.bool false))], (.v 4), none⟩] false)
             .ret)
            .skip))
          (.seq
           (.reg [
             ⟨(.buildSl 1 [] []), [], .t, none⟩,
             ⟨.mv, [.v 14 true], .t, none⟩,
             ⟨(.appH 1 1 false), [.t 0 false, .t 1 false], .t, none⟩,
             ⟨.mv, [.t 2 true], (.v 14), none⟩] false)
           (.seq
            (.reg [
              ⟨.mv, [.v 14 false], .t, none⟩,
              ⟨.mv, [.v 13 false], .t, none⟩,
              ⟨.mv, [.v 2 false], .t, none⟩,
              ⟨(.ia 1), [.t 0 false, .t 1 false], .t, none⟩,
              ⟨(.stP 1), [.t 3 false, .t 2 false], .none, none⟩] false)
            (.seq
             (.reg [
               ⟨.mv, [.v 14 true], .t, none⟩,
               ⟨(.call 29), [.t 0 false], .t, none⟩,
               ⟨.mv, [.t 1 true], .t, none⟩,
               ⟨(.ext 0), [.t 2 false], .t, none⟩,
               ⟨(.ext 1), [.t 2 false], .t, none⟩,
               ⟨(.ext 2), [.t 2 false], .t, none⟩,
               ⟨.mv, [.t 3 true], .t, none⟩,
               ⟨.mv, [.t 4 false], .t, none⟩,
               ⟨.mv, [.t 5 false], (.v 15), none⟩] false)
             (.seq
              (.reg [
                ⟨(.call 14), [], .t, none⟩,
                ⟨.mv, [.t 0 false], .t, none⟩,
                ⟨.mv, [.v 15 false], .t, (some (1, true))⟩,
                ⟨(.bin .eql false), [.t 2 false, .c (.sc (.int .i64 0))], .t, (some (1, true))⟩,
                ⟨.mv, [.v 1 false], .t, (some (1, true))⟩,
                ⟨.mv, [.v 2 false], .t, (some (1, true))⟩,
                ⟨(.bin .eql false), [.t 4 false, .t 5 false], .t, (some (1, true))⟩,
                ⟨(.bin .eql true), [.t 3 false, .t 6 false], .t, (some (1, true))⟩,
                ⟨.pick, [.t 1 false, .t 7 false, .c (.sc (.bool false))], .t, none⟩,
                ⟨.mv, [.t 8 false], (.v 4), none⟩] false)
              .ret)))))))))))) }

/-- underwood/underwoodlaw03.alive -/
def ir14 : FnIR := { np := 0, nv := 13, slots := [0, 1, 2, 3, 4, 5, 8, 9, 10, 11, 12, 13, 14], res := [.v 0], body :=
  (.seq
   (.reg [
     ⟨.mv, [.c (.sc (.bool false))], (.v 0), none⟩] false)
   (.seq
    (.reg [
      ⟨(.call 16), [.c (.sc (.int .i64 (-64)))], .t, none⟩,
      ⟨(.call 16), [.c (.sc (.int .i64 64))], .t, none⟩,
      ⟨.mv, [.t 0 true], (.v 1), none⟩,
      ⟨.mv, [.t 1 true], (.v 2), none⟩] false)
    (.seq
     (.reg [
       ⟨(.buildSl 1 [(.sc (.int .u8 0)), (.sc (.int .u8 0)), (.sc (.int .u8 0))] [0, 1, 2]), [.c (.sc (.int .u8 128)), .c (.sc (.int .u8 1)), .c (.sc (.int .u8 9))], .t, none⟩,
       ⟨(.call 18), [.t 0 false], .t, none⟩,
       ⟨.mv, [.t 1 false], .t, none⟩,
       ⟨(.ext 0), [.t 2 false], .t, none⟩,
       ⟨(.ext 1), [.t 2 false], .t, none⟩,
       ⟨(.ext 2), [.t 2 false], .t, none⟩,
       ⟨.mv, [.t 3 false], (.v 3), none⟩,
       ⟨.mv, [.t 4 false], (.v 4), none⟩,
       ⟨.mv, [.t 5 false], (.v 5), none⟩] false)
     (.seq
      (.reg [
        ⟨(.buildSl 1 [(.sc (.int .u8 0)), (.sc (.int .u8 0))] [0, 1]), [.c (.sc (.int .u8 128)), .c (.sc (.int .u8 0))], .t, none⟩,
        ⟨(.call 18), [.t 0 false], .t, none⟩,
        ⟨.mv, [.t 1 false], .t, none⟩,
        ⟨(.ext 0), [.t 2 false], .t, none⟩,
        ⟨(.ext 1), [.t 2 false], .t, none⟩,
        ⟨(.ext 2), [.t 2 false], .t, none⟩,
        ⟨.mv, [.t 3 false], .t, none⟩,
        ⟨.mv, [.t 4 false], .t, none⟩,
        ⟨.mv, [.t 5 false], (.v 6), none⟩] false)
      (.seq
       (.reg [
         ⟨(.buildSl 1 [(.sc (.int .u8 0)), (.sc (.int .u8 0)), (.sc (.int .u8 0)), (.sc (.int .u8 0))] [0, 1, 2, 3]), [.c (.sc (.int .u8 4)), .c (.sc (.int .u8 97)), .c (.sc (.int .u8 98)), .c (.sc (.int .u8 7))], .t, none⟩,
         ⟨(.call 20), [.t 0 false], .t, none⟩,
         ⟨.mv, [.t 1 false], .t, none⟩,
         ⟨(.ext 0), [.t 2 false], .t, none⟩,
         ⟨(.ext 1), [.t 2 false], .t, none⟩,
         ⟨(.ext 2), [.t 2 false], .t, none⟩,
         ⟨.mv, [.t 3 false], (.v 7), none⟩,
         ⟨.mv, [.t 4 false], (.v 8), none⟩,
         ⟨.mv, [.t 5 false], (.v 9), none⟩] false)
       (.seq
        (.reg [
          ⟨(.buildSl 1 [(.sc (.int .u8 0)), (.sc (.int .u8 0)), (.sc (.int .u8 0))] [0, 1, 2]), [.c (.sc (.int .u8 4)), .c (.sc (.int .u8 2)), .c (.sc (.int .u8 1))], .t, none⟩,
          ⟨(.call 22), [.t 0 false], .t, none⟩,
          ⟨.mv, [.t 1 true], .t, none⟩,
          ⟨(.ext 0), [.t 2 false], .t, none⟩,
          ⟨(.ext 1), [.t 2 false], .t, none⟩,
          ⟨(.ext 2), [.t 2 false], .t, none⟩,
          ⟨.mv, [.t 3 true], (.v 10), none⟩,
          ⟨.mv, [.t 4 false], (.v 11), none⟩,
          ⟨.mv, [.t 5 false], (.v 12), none⟩] false)
        (.seq
         (.reg [
           ⟨.mv, [.v 1 true], .t, none⟩,
           ⟨(.buildSl 1 [(.sc (.int .u8 0))] [0]), [.c (.sc (.int .u8 127))], .t, none⟩,
           ⟨(.call 15), [.t 0 false, .t 1 false], .t, none⟩,
           ⟨.mv, [.t 2 false], .t, none⟩,
           ⟨.mv, [.v 2 true], .t, (some (3, true))⟩,
           ⟨(.buildSl 1 [(.sc (.int .u8 0)), (.sc (.int .u8 0))] [0, 1]), [.c (.sc (.int .u8 128)), .c (.sc (.int .u8 1))], .t, (some (3, true))⟩,
           ⟨(.call 15), [.t 4 false, .t 5 false], .t, (some (3, true))⟩,
           ⟨.pick, [.t 3 false, .t 6 false, .c (.sc (.bool false))], .t, none⟩,
           ⟨.mv, [.t 7 false], .t, none⟩,
           ⟨.mv, [.v 3 false], .t, (some (8, true))⟩,
           ⟨(.bin .eql false), [.t 9 false, .c (.sc (.int .i64 64))], .t, (some (8, true))⟩,
           ⟨.pick, [.t 8 false, .t 10 false, .c (.sc (.bool false))], .t, none⟩,
           ⟨.mv, [.t 11 false], .t, none⟩,
           ⟨.mv, [.v 4 false], .t, (some (12, true))⟩,
           ⟨(.bin .eql false), [.t 13 false, .c (.sc (.int .i64 2))], .t, (some (12, true))⟩,
           ⟨.pick, [.t 12 false, .t 14 false, .c (.sc (.bool false))], .t, none⟩,
           ⟨.mv, [.t 15 false], .t, none⟩,
           ⟨.mv, [.v 5 false], .t, (some (16, true))⟩,
           ⟨(.bin .eql false), [.t 17 false, .c (.sc (.int .i64 0))], .t, (some (16, true))⟩,
           ⟨.pick, [.t 16 false, .t 18 false, .c (.sc (.bool false))], .t, none⟩,
           ⟨.mv, [.t 19 false], .t, none⟩,
           ⟨.mv, [.v 6 false], .t, (some (20, true))⟩,
           ⟨(.bin .eql false), [.t 21 false, .c (.sc (.int .i64 3))], .t, (some (20, true))⟩,
           ⟨.pick, [.t 20 false, .t 22 false, .c (.sc (.bool false))], .t, none⟩,
           ⟨.mv, [.t 23 false], .t, none⟩,
           ⟨.mv, [.v 7 false], .t, (some (24, true))⟩,
           ⟨(.bin .eql false), [.t 25 false, .c (.sc (.string ⟨#[97, 98]⟩))], .t, (some (24, true))⟩,
           ⟨.pick, [.t 24 false, .t 26 false, .c (.sc (.bool false))], .t, none⟩,
           ⟨.mv, [.t 27 false], .t, none⟩,
           ⟨.mv, [.v 8 false], .t, (some (28, true))⟩,
           ⟨(.bin .eql false), [.t 29 false, .c (.sc (.int .i64 3))], .t, (some (28, true))⟩,
           ⟨.pick, [.t 28 false, .t 30 false, .c (.sc (.bool false))], .t, none⟩,
           ⟨.mv, [.t 31 false], .t, none⟩,
           ⟨.mv, [.v 9 false], .t, (some (32, true))⟩,
           ⟨(.bin .eql false), [.t 33 false, .c (.sc (.int .i64 0))], .t, (some (32, true))⟩,
           ⟨.pick, [.t 32 false, .t 34 false, .c (.sc (.bool false))], .t, none⟩,
           ⟨.mv, [.t 35 false], .t, none⟩,
           ⟨.mv, [.v 10 true], .t, (some (36, true))⟩,
           ⟨(.buildSl 1 [(.sc (.int .i64 0)), (.sc (.int .i64 0))] [0, 1]), [.c (.sc (.int .i64 1)), .c (.sc (.int .i64 (-1)))], .t, (some (36, true))⟩,
           ⟨(.call 24), [.t 37 false, .t 38 false], .t, (some (36, true))⟩,
           ⟨.pick, [.t 36 false, .t 39 false, .c (.sc (.bool false))], .t, none⟩,
           ⟨.mv, [.t 40 false], .t, none⟩,
           ⟨.mv, [.v 11 false], .t, (some (41, true))⟩,
           ⟨(.bin .eql false), [.t 42 false, .c (.sc (.int .i64 3))], .t, (some (41, true))⟩,
           ⟨.pick, [.t 41 false, .t 43 false, .c (.sc (.bool false))], .t, none⟩,
           ⟨.mv, [.t 44 false], .t, none⟩,
           ⟨.mv, [.v 12 false], .t, (some (45, true))⟩,
           ⟨(.bin .eql false), [.t 46 false, .c (.sc (.int .i64 0))], .t, (some (45, true))⟩,
           ⟨.pick, [.t 45 false, .t 47 false, .c (.sc (.bool false))], .t, none⟩,
           ⟨.mv, [.t 48 false], .t, none⟩,
           ⟨(.call 25), [.c (.sc (.string ⟨#[97, 98]⟩))], .t, (some (49, true))⟩,
           ⟨(.buildSl 1 [(.sc (.int .u8 0)), (.sc (.int .u8 0)), (.sc (.int .u8 0))] [0, 1, 2]), [.c (.sc (.int .u8 4)), .c (.sc (.int .u8 97)), .c (.sc (.int .u8 98))], .t, (some (49, true))⟩,
           ⟨(.call 15), [.t 50 false, .t 51 false], .t, (some (49, true))⟩,
           ⟨.pick, [.t 49 false, .t 52 false, .c (.sc (.bool false))], .t, none⟩,
           ⟨.mv, [.t 53 false], .t, none⟩,
           ⟨(.buildSl 1 [(.sc (.int .i64 0)), (.sc (.int .i64 0))] [0, 1]), [.c (.sc (.int .i64 1)), .c (.sc (.int .i64 (-1)))], .t, (some (54, true))⟩,
           ⟨(.call 27), [.t 55 false], .t, (some (54, true))⟩,
           ⟨(.buildSl 1 [(.sc (.int .u8 0)), (.sc (.int .u8 0)), (.sc (.int .u8 0))] [0, 1, 2]), [.c (.sc (.int .u8 4)), .c (.sc (.int .u8 2)), .c (.sc (.int .u8 1))], .t, (some (54, true))⟩,
           ⟨(.call 15), [.t 56 false, .t 57 false], .t, (some (54, true))⟩,
           ⟨.pick, [.t 54 false, .t 58 false, .c (.sc (.bool false))], .t, none⟩,
           ⟨.mv, [.t 59 false], .t, none⟩,
           ⟨(.buildSl 1 [(.sc (.int .u8 0)), (.sc (.int .u8 0))] [0, 1]), [.c (.sc (.int .u8 1)), .c (.sc (.int .u8 2))], .t, (some (60, true))⟩,
           ⟨(.call 31), [.t 61 false], .t, (some (60, true))⟩,
           ⟨(.bin .eql false), [.t 62 false, .c (.sc (.int .i64 393220))], .t, (some (60, true))⟩,
           ⟨.pick, [.t 60 false, .t 63 false, .c (.sc (.bool false))], .t, none⟩,
           ⟨.mv, [.t 64 false], .t, none⟩,
           ⟨(.buildSl 1 [(.sc (.int .u8 0))] [0]), [.c (.sc (.int .u8 1))], .t, (some (65, true))⟩,
           ⟨(.call 33), [.t 66 false], .t, (some (65, true))⟩,
           ⟨(.buildSl 1 [(.sc (.int .u8 0)), (.sc (.int .u8 0)), (.sc (.int .u8 0)), (.sc (.int .u8 0)), (.sc (.int .u8 0))] [0, 1, 2, 3, 4]), [.c (.sc (.int .u8 2)), .c (.sc (.int .u8 1)), .c (.sc (.int .u8 132)), .c (.sc (.int .u8 128)), .c (.sc (.int .u8 16))], .t, (some (65, true))⟩,
           ⟨(.call 15), [.t 67 false, .t 68 false], .t, (some (65, true))⟩,
           ⟨.pick, [.t 65 false, .t 69 false, .c (.sc (.bool false))], .t, none⟩,
           ⟨.mv, [.t 70 false], (.v 0), none⟩] false)
         .ret))))))) }

def ir15_l0 : IR :=
        (.seq
         (.seq
          (.reg [
            ⟨.mv, [.v 6 false], .t, none⟩,
            ⟨.mv, [.v 0 false], .t, none⟩,
            ⟨.len, [.t 1 false], .t, none⟩,
            ⟨(.bin .lss false), [.t 0 false, .t 2 false], (.v 4), none⟩] false)
          (.cond (.v 4 false)
           .skip
           (.exit 0)))
         (.seq
          (.block 1
           (.seq
            (.reg [
              ⟨.mv, [.v 0 false], .t, none⟩,
              ⟨.mv, [.v 6 false], .t, none⟩,
              ⟨(.ia 1), [.t 0 false, .t 1 false], .t, none⟩,
              ⟨(.ldP 1 false false), [.t 2 false], .t, none⟩,
              ⟨.mv, [.v 1 false], .t, none⟩,
              ⟨.mv, [.v 6 false], .t, none⟩,
              ⟨(.ia 1), [.t 4 false, .t 5 false], .t, none⟩,
              ⟨(.ldP 1 false false), [.t 6 false], .t, none⟩,
              ⟨(.bin .neq false), [.t 3 false, .t 7 false], (.v 5), none⟩] true)
            (.cond (.v 5 false)
             (.seq
              (.reg [
                ⟨.mv, [.c (.sc (.bool false))], (.v 2), none⟩] false)
              .ret)
             .skip)))
          (.reg [
            ⟨.mv, [.v 6 false], .t, none⟩,
            ⟨(.bin .add false), [.t 0 false, .c (.sc (.int .i64 1))], .t, none⟩,
            ⟨.mv, [.t 1 false], (.v 6), none⟩] false)))

/-- underwood/underwoodref03.Same -/
def ir15 : FnIR := { np := 2, nv := 7, slots := [0, 1, 4, 10, 14, 25, 5], res := [.v 2], body :=
  (.seq
   (.reg [
     ⟨.mv, [.c (.sc (.bool false))], (.v 2), none⟩] false)
   (.seq
    (.seq
     (.reg [
       ⟨.mv, [.v 0 false], .t, none⟩,
       ⟨.len, [.t 0 false], .t, none⟩,
       ⟨.mv, [.v 1 false], .t, none⟩,
       ⟨.len, [.t 2 false], .t, none⟩,
       ⟨(.bin .neq false), [.t 1 false, .t 3 false], (.v 3), none⟩] false)
     (.cond (.v 3 false)
      (.seq
       (.reg [
         ⟨.mv, [.c (.sc (.bool false))], (.v 2), none⟩] false)
       .ret)
      .skip))
    (.seq
     (.seq
      (.reg [
        ⟨.mv, [.c (.sc (.int .i64 0))], (.v 6), none⟩] false)
      (.block 0
       (.loop ir15_l0)))
     (.seq
      (.reg [
        ⟨.mv, [.c (.sc (.bool true))], (.v 2), none⟩] false)
      .ret)))) }

def ir16_l0 : IR :=
         (.block 1
          (.seq
           (.seq
            (.reg [
              ⟨.mv, [.v 3 false], .t, none⟩,
              ⟨(.bin .lss false), [.t 0 false, .c (.sc (.int .u64 128))], (.v 2), none⟩] false)
            (.cond (.v 2 false)
             (.seq
              (.reg [
                ⟨.mv, [.v 4 true], .t, none⟩,
                ⟨.mv, [.v 3 false], .t, none⟩,
                ⟨(.cvI .u8), [.t 1 false], .t, none⟩,
                ⟨(.buildSl 1 [(.sc (.int .u8 0))] [0]), [.t 2 false], .t, none⟩,
                ⟨(.app 1 1), [.t 0 true, .t 3 false], .t, none⟩,
                ⟨.mv, [.t 4 true], (.v 4), none⟩] false)
              (.exit 0))
             .skip))
           (.seq
            (.reg [
              ⟨.mv, [.v 4 true], .t, none⟩,
              ⟨.mv, [.v 3 false], .t, none⟩,
              ⟨(.cvI .u8), [.t 1 false], .t, none⟩,
              ⟨(.bin .or false), [.t 2 false, .c (.sc (.int .u8 128))], .t, none⟩,
              ⟨(.buildSl 1 [(.sc (.int .u8 0))] [0]), [.t 3 false], .t, none⟩,
              ⟨(.app 1 1), [.t 0 true, .t 4 false], .t, none⟩,
              ⟨.mv, [.t 5 true], (.v 4), none⟩] false)
            (.reg [
              ⟨.mv, [.v 3 false], .t, none⟩,
              ⟨(.bin .shr false), [.t 0 false, .c (.sc (.int .u64 7))], .t, none⟩,
              ⟨.mv, [.t 1 false], (.v 3), none⟩] false))))

/-- underwood/wire.Put -/
def ir16 : FnIR := { np := 1, nv := 5, slots := [0, 2, 13, 3, 4], res := [.v 1], body :=
  (.seq
   (.reg [
     ⟨.mv, [.c (.sl .full 1 [])], (.v 1), none⟩] false)
   (.seq
    (.reg [
      ⟨.mv, [.v 0 false], .t, none⟩,
      ⟨(.cvI .u64), [.t 0 false], .t, none⟩,
      ⟨(.bin .shl false), [.t 1 false, .c (.sc (.int .u64 1))], .t, none⟩,
      ⟨.mv, [.v 0 false], .t, none⟩,
      ⟨(.bin .shr false), [.t 3 false, .c (.sc (.int .u64 63))], .t, none⟩,
      ⟨(.cvI .u64), [.t 4 false], .t, none⟩,
      ⟨(.bin .xor false), [.t 2 false, .t 5 false], .t, none⟩,
      ⟨.mv, [.t 6 false], (.v 3), none⟩] false)
    (.seq
     (.reg [
       ⟨.mv, [.c (.sl .full 1 [])], (.v 4), none⟩] false)
     (.seq
      .skip
      (.seq
       (.block 0
        (.loop ir16_l0))
       (.seq
        (.reg [
          ⟨.mv, [.v 4 true], .t, none⟩,
          ⟨.mv, [.t 0 true], (.v 1), none⟩] false)
        .ret)))))) }

def ir17_l0 : IR :=
        (.seq
         (.seq
          (.reg [
            ⟨.mv, [.v 3 false], .t, none⟩,
            ⟨(.bin .geq false), [.t 0 false, .c (.sc (.int .u64 128))], (.v 2), none⟩] false)
          (.cond (.v 2 false)
           .skip
           (.exit 0)))
         (.block 1
          (.seq
           (.reg [
             ⟨.mv, [.v 4 true], .t, none⟩,
             ⟨.mv, [.v 3 false], .t, none⟩,
             ⟨(.bin .rem false), [.t 1 false, .c (.sc (.int .u64 128))], .t, none⟩,
             ⟨(.bin .add false), [.t 2 false, .c (.sc (.int .u64 128))], .t, none⟩,
             ⟨(.cvI .u8), [.t 3 false], .t, none⟩,
             ⟨(.buildSl 1 [(.sc (.int .u8 0))] [0]), [.t 4 false], .t, none⟩,
             ⟨(.app 1 1), [.t 0 true, .t 5 false], .t, none⟩,
             ⟨.mv, [.t 6 true], (.v 4), none⟩] false)
           (.reg [
             ⟨.mv, [.v 3 false], .t, none⟩,
             ⟨(.bin .quo false), [.t 0 false, .c (.sc (.int .u64 128))], .t, none⟩,
             ⟨.mv, [.t 1 false], (.v 3), none⟩] false))))

/-- underwood/underwoodref03.Put -/
def ir17 : FnIR := { np := 1, nv := 5, slots := [0, 2, 8, 3, 4], res := [.v 1], body :=
  (.seq
   (.reg [
     ⟨.mv, [.c (.sl .full 1 [])], (.v 1), none⟩] false)
   (.seq
    (.reg [
      ⟨.mv, [.v 0 false], .t, none⟩,
      ⟨(.call 36), [.t 0 false], .t, none⟩,
      ⟨.mv, [.t 1 false], (.v 3), none⟩] false)
    (.seq
     (.reg [
       ⟨.mv, [.c (.sl .full 1 [])], (.v 4), none⟩] false)
     (.seq
      (.block 0
       (.loop ir17_l0))
      (.seq
       (.reg [
         ⟨.mv, [.v 4 true], .t, none⟩,
         ⟨.mv, [.v 3 false], .t, none⟩,
         ⟨(.cvI .u8), [.t 1 false], .t, none⟩,
         ⟨(.buildSl 1 [(.sc (.int .u8 0))] [0]), [.t 2 false], .t, none⟩,
         ⟨(.app 1 1), [.t 0 true, .t 3 false], .t, none⟩,
         ⟨.mv, [.t 4 true], (.v 1), none⟩] false)
       .ret))))) }

def ir18_l0 : IR :=
        (.seq
         (.reg [
           ⟨(.bin .lss false), [.v 8 false, .v 9 false], (.v 4), none⟩] false)
         (.seq
          (.cond (.v 4 false)
           .skip
           (.exit 0))
          (.seq
           (.block 1
            (.seq
             (.reg [
               ⟨.mv, [.v 8 false], .t, none⟩,
               ⟨(.ia 1), [.v 10 false, .v 8 false], .t, none⟩,
               ⟨(.ldP 1 false false), [.t 1 false], .t, none⟩,
               ⟨.mv, [.t 0 false], (.v 11), none⟩,
               ⟨.mv, [.t 2 false], (.v 12), none⟩] false)
             (.seq
              (.seq
               (.reg [
                 ⟨.mv, [.v 11 false], .t, none⟩,
                 ⟨(.bin .eql false), [.t 0 false, .c (.sc (.int .i64 9))], .t, none⟩,
                 ⟨.mv, [.t 1 false], .t, none⟩,
                 ⟨.mv, [.v 12 false], .t, (some (2, true))⟩,
                 ⟨(.bin .gtr false), [.t 3 false, .c (.sc (.int .u8 1))], .t, (some (2, true))⟩,
                 ⟨.pick, [.t 2 false, .t 4 false, .c (.sc (.bool false))], .t, none⟩,
                 ⟨.mv, [.t 5 false], .t, none⟩,
                 ⟨.mv, [.v 11 false], .t, (some (6, false))⟩,
                 ⟨(.bin .gtr false), [.t 7 false, .c (.sc (.int .i64 9))], .t, (some (6, false))⟩,
                 ⟨.pick, [.t 6 false, .c (.sc (.bool true)), .t 8 false], (.v 5), none⟩] false)
               (.cond (.v 5 false)
                (.exit 0)
                .skip))
              (.seq
               (.reg [
                 ⟨.mv, [.v 13 false], .t, none⟩,
                 ⟨.mv, [.v 12 false], .t, none⟩,
                 ⟨(.bin .andNot false), [.t 1 false, .c (.sc (.int .u8 128))], .t, none⟩,
                 ⟨(.cvI .u64), [.t 2 false], .t, none⟩,
                 ⟨.mv, [.v 11 false], .t, none⟩,
                 ⟨(.bin .mul false), [.c (.sc (.int .i64 7)), .t 4 false], .t, none⟩,
                 ⟨(.bin .shl false), [.t 3 false, .t 5 false], .t, none⟩,
                 ⟨(.bin .or false), [.t 0 false, .t 6 false], .t, none⟩,
                 ⟨.mv, [.t 7 false], (.v 13), none⟩] false)
               (.seq
                (.reg [
                  ⟨.mv, [.v 12 false], .t, none⟩,
                  ⟨(.bin .lss false), [.t 0 false, .c (.sc (.int .u8 128))], (.v 6), none⟩] false)
                (.cond (.v 6 false)
                 (.seq
                  (.seq
                   (.reg [
                     ⟨.mv, [.v 12 false], .t, none⟩,
                     ⟨(.bin .eql false), [.t 0 false, .c (.sc (.int .u8 0))], .t, none⟩,
                     ⟨.mv, [.t 1 false], .t, none⟩,
                     ⟨.mv, [.v 11 false], .t, (some (2, true))⟩,
                     ⟨(.bin .gtr false), [.t 3 false, .c (.sc (.int .i64 0))], .t, (some (2, true))⟩,
                     ⟨.pick, [.t 2 false, .t 4 false, .c (.sc (.bool false))], (.v 7), none⟩] false)
                   (.cond (.v 7 false)
                    (.exit 0)
                    .skip))
                  (.seq
                   (.reg [
                     ⟨.mv, [.v 13 false], .t, none⟩,
                     ⟨(.bin .shr false), [.t 0 false, .c (.sc (.int .u64 1))], .t, none⟩,
                     ⟨(.cvI .i64), [.t 1 false], .t, none⟩,
                     ⟨.mv, [.v 13 false], .t, none⟩,
                     ⟨(.bin .and false), [.t 3 false, .c (.sc (.int .u64 1))], .t, none⟩,
                     ⟨(.cvI .i64), [.t 4 false], .t, none⟩,
                     ⟨(.un .neg), [.t 5 false], .t, none⟩,
                     ⟨(.bin .xor false), [.t 2 false, .t 6 false], .t, none⟩,
                     ⟨.mv, [.v 11 false], .t, none⟩,
                     ⟨(.bin .add false), [.t 8 false, .c (.sc (.int .i64 1))], .t, none⟩,
                     ⟨.mv, [.t 7 false], (.v 1), none⟩,
                     ⟨.mv, [.t 9 false], (.v 2), none⟩,
                     ⟨.mv, [.c (.sc (.int .i64 0))], (.v 3), none⟩] false)
                   .ret))
                 .skip))))))
           (.reg [
             ⟨(.bin .add false), [.v 8 false, .c (.sc (.int .i64 1))], .t, none⟩,
             ⟨.mv, [.t 0 false], (.v 8), none⟩] false))))

/-- underwood/wire.Get -/
def ir18 : FnIR := { np := 1, nv := 14, slots := [0, 2, 3, 4, 11, 24, 34, 40, 10, 9, 8, 6, 7, 5], res := [.v 1, .v 2, .v 3], body :=
  (.seq
   (.reg [
     ⟨.mv, [.c (.sc (.int .i64 0))], (.v 1), none⟩,
     ⟨.mv, [.c (.sc (.int .i64 0))], (.v 2), none⟩,
     ⟨.mv, [.c (.sc (.int .i64 0))], (.v 3), none⟩] false)
   (.seq
    (.reg [
      ⟨.mv, [.c (.sc (.int .u64 0))], (.v 13), none⟩] false)
    (.seq
     (.seq
      (.reg [
        ⟨.mv, [.v 0 true], (.v 10), none⟩,
        ⟨.len, [.v 10 false], (.v 9), none⟩,
        ⟨.mv, [.c (.sc (.int .i64 0))], (.v 8), none⟩] false)
      (.block 0
       (.loop ir18_l0)))
     (.seq
      (.reg [
        ⟨.mv, [.c (.sc (.int .i64 0))], (.v 1), none⟩,
        ⟨.mv, [.c (.sc (.int .i64 0))], (.v 2), none⟩,
        ⟨.mv, [.c (.sc (.int .i64 3))], (.v 3), none⟩] false)
      .ret)))) }

def ir19_l1 : IR :=
           (.seq
            (.seq
             (.reg [
               ⟨.mv, [.v 10 false], .t, none⟩,
               ⟨(.bin .geq false), [.t 0 false, .c (.sc (.int .i64 0))], (.v 6), none⟩] false)
             (.cond (.v 6 false)
              .skip
              (.exit 2)))
            (.seq
             (.block 3
              (.reg [
                ⟨.mv, [.v 11 false], .t, none⟩,
                ⟨(.bin .mul false), [.c (.sc (.int .u64 128)), .t 0 false], .t, none⟩,
                ⟨.mv, [.v 0 false], .t, none⟩,
                ⟨.mv, [.v 10 false], .t, none⟩,
                ⟨(.ia 1), [.t 2 false, .t 3 false], .t, none⟩,
                ⟨(.ldP 1 false false), [.t 4 false], .t, none⟩,
                ⟨(.bin .rem false), [.t 5 false, .c (.sc (.int .u8 128))], .t, none⟩,
                ⟨(.cvI .u64), [.t 6 false], .t, none⟩,
                ⟨(.bin .add false), [.t 1 false, .t 7 false], .t, none⟩,
                ⟨.mv, [.t 8 false], (.v 11), none⟩] false))
             (.reg [
               ⟨.mv, [.v 10 false], .t, none⟩,
               ⟨(.bin .sub false), [.t 0 false, .c (.sc (.int .i64 1))], .t, none⟩,
               ⟨.mv, [.t 1 false], (.v 10), none⟩] false)))

def ir19_l0 : IR :=
        (.seq
         (.seq
          (.reg [
            ⟨.mv, [.v 9 false], .t, none⟩,
            ⟨.mv, [.v 0 false], .t, none⟩,
            ⟨.len, [.t 1 false], .t, none⟩,
            ⟨(.bin .lss false), [.t 0 false, .t 2 false], .t, none⟩,
            ⟨.mv, [.t 3 false], .t, none⟩,
            ⟨.mv, [.v 9 false], .t, (some (4, true))⟩,
            ⟨(.bin .lss false), [.t 5 false, .c (.sc (.int .i64 10))], .t, (some (4, true))⟩,
            ⟨.pick, [.t 4 false, .t 6 false, .c (.sc (.bool false))], .t, none⟩,
            ⟨.mv, [.t 7 false], .t, none⟩,
            ⟨.mv, [.v 0 false], .t, (some (8, true))⟩,
            ⟨.mv, [.v 9 false], .t, (some (8, true))⟩,
            ⟨(.ia 1), [.t 9 false, .t 10 false], .t, (some (8, true))⟩,
            ⟨(.ldP 1 false false), [.t 11 false], .t, (some (8, true))⟩,
            ⟨(.bin .geq false), [.t 12 false, .c (.sc (.int .u8 128))], .t, (some (8, true))⟩,
            ⟨.pick, [.t 8 false, .t 13 false, .c (.sc (.bool false))], (.v 4), none⟩] false)
          (.cond (.v 4 false)
           .skip
           (.exit 0)))
         (.block 1
          (.reg [
            ⟨.mv, [.v 9 false], .t, none⟩,
            ⟨(.bin .add false), [.t 0 false, .c (.sc (.int .i64 1))], .t, none⟩,
            ⟨.mv, [.t 1 false], (.v 9), none⟩] false)))

/-- underwood/underwoodref03.Get -/
def ir19 : FnIR := { np := 1, nv := 13, slots := [0, 2, 3, 4, 23, 33, 36, 53, 64, 6, 7, 5, 8], res := [.v 1, .v 2, .v 3], body :=
  (.seq
   (.reg [
     ⟨.mv, [.c (.sc (.int .i64 0))], (.v 1), none⟩,
     ⟨.mv, [.c (.sc (.int .i64 0))], (.v 2), none⟩,
     ⟨.mv, [.c (.sc (.int .i64 0))], (.v 3), none⟩] false)
   (.seq
    (.reg [
      ⟨.mv, [.c (.sc (.int .u64 0))], (.v 11), none⟩] false)
    (.seq
     (.reg [
       ⟨.mv, [.c (.sc (.int .i64 0))], (.v 9), none⟩] false)
     (.seq
      (.block 0
       (.loop ir19_l0))
      (.seq
       (.seq
        (.reg [
          ⟨.mv, [.v 9 false], .t, none⟩,
          ⟨.mv, [.v 0 false], .t, none⟩,
          ⟨.len, [.t 1 false], .t, none⟩,
          ⟨(.bin .eql false), [.t 0 false, .t 2 false], .t, none⟩,
          ⟨.mv, [.t 3 false], .t, none⟩,
          ⟨.mv, [.v 9 false], .t, (some (4, false))⟩,
          ⟨(.bin .eql false), [.t 5 false, .c (.sc (.int .i64 10))], .t, (some (4, false))⟩,
          ⟨.pick, [.t 4 false, .c (.sc (.bool true)), .t 6 false], (.v 5), none⟩] false)
        (.cond (.v 5 false)
         (.seq
          (.reg [
            ⟨.mv, [.c (.sc (.int .i64 0))], (.v 1), none⟩,
            ⟨.mv, [.c (.sc (.int .i64 0))], (.v 2), none⟩,
            ⟨.mv, [.c (.sc (.int .i64 3))], (.v 3), none⟩] false)
          .ret)
         .skip))
       (.seq
        (.seq
         (.reg [
           ⟨.mv, [.v 9 false], .t, none⟩,
           ⟨.mv, [.t 0 false], (.v 10), none⟩] false)
         (.block 2
          (.loop ir19_l1)))
        (.seq
         (.reg [
           ⟨.mv, [.v 11 false], .t, none⟩,
           ⟨(.bin .quo false), [.t 0 false, .c (.sc (.int .u64 2))], .t, none⟩,
           ⟨(.cvI .i64), [.t 1 false], .t, none⟩,
           ⟨.mv, [.t 2 false], (.v 12), none⟩] false)
         (.seq
          (.seq
           (.reg [
             ⟨.mv, [.v 11 false], .t, none⟩,
             ⟨(.bin .rem false), [.t 0 false, .c (.sc (.int .u64 2))], .t, none⟩,
             ⟨(.bin .eql false), [.t 1 false, .c (.sc (.int .u64 1))], (.v 7), none⟩] false)
           (.cond (.v 7 false)
            (.reg [
              ⟨.mv, [.v 12 false], .t, none⟩,
              ⟨(.un .neg), [.t 0 false], .t, none⟩,
              ⟨(.bin .sub false), [.t 1 false, .c (.sc (.int .i64 1))], .t, none⟩,
              ⟨.mv, [.t 2 false], (.v 12), none⟩] false)
            .skip))
          (.seq
           (.seq
            (.reg [
              ⟨.mv, [.v 12 false], .t, none⟩,
              ⟨(.call 17), [.t 0 false], .t, none⟩,
              ⟨.mv, [.v 0 true], .t, none⟩,
              ⟨.mv, [.v 9 false], .t, none⟩,
              ⟨(.bin .add false), [.t 3 false, .c (.sc (.int .i64 1))], .t, none⟩,
              ⟨(.slc 1 false true false), [.t 2 false, .t 4 false], .t, none⟩,
              ⟨(.call 15), [.t 1 false, .t 5 false], .t, none⟩,
              ⟨(.un .not), [.t 6 false], (.v 8), none⟩] true)
            (.cond (.v 8 false)
             (.seq
              (.reg [
                ⟨.mv, [.c (.sc (.int .i64 0))], (.v 1), none⟩,
                ⟨.mv, [.c (.sc (.int .i64 0))], (.v 2), none⟩,
                ⟨.mv, [.c (.sc (.int .i64 3))], (.v 3), none⟩] false)
              .ret)
             .skip))
           (.seq
            (.reg [
              ⟨.mv, [.v 12 false], .t, none⟩,
              ⟨.mv, [.v 9 false], .t, none⟩,
              ⟨(.bin .add false), [.t 1 false, .c (.sc (.int .i64 1))], .t, none⟩,
              ⟨.mv, [.t 0 false], (.v 1), none⟩,
              ⟨.mv, [.t 2 false], (.v 2), none⟩,
              ⟨.mv, [.c (.sc (.int .i64 0))], (.v 3), none⟩] false)
            .ret)))))))))) }

/-- underwood/wire.GetText -/
def ir20 : FnIR := { np := 1, nv := 8, slots := [0, 2, 3, 4, 27, 7, 5, 6], res := [.v 1, .v 2, .v 3], body :=
  (.seq
   (.reg [
     ⟨.mv, [.c (.sc (.string ⟨#[]⟩))], (.v 1), none⟩,
     ⟨.mv, [.c (.sc (.int .i64 0))], (.v 2), none⟩,
     ⟨.mv, [.c (.sc (.int .i64 0))], (.v 3), none⟩] false)
   (.seq
    (.reg [
      ⟨.mv, [.v 0 false], .t, none⟩,
      ⟨(.call 18), [.t 0 false], .t, none⟩,
      ⟨.mv, [.t 1 false], .t, none⟩,
      ⟨(.ext 0), [.t 2 false], .t, none⟩,
      ⟨(.ext 1), [.t 2 false], .t, none⟩,
      ⟨(.ext 2), [.t 2 false], .t, none⟩,
      ⟨.mv, [.t 3 false], (.v 6), none⟩,
      ⟨.mv, [.t 4 false], (.v 7), none⟩,
      ⟨.mv, [.t 5 false], (.v 5), none⟩] false)
    (.seq
     (.seq
      (.reg [
        ⟨.mv, [.v 5 false], .t, none⟩,
        ⟨(.bin .neq false), [.t 0 false, .c (.sc (.int .i64 0))], .t, none⟩,
        ⟨.mv, [.t 1 false], .t, none⟩,
        ⟨.mv, [.v 6 false], .t, (some (2, false))⟩,
        ⟨(.bin .lss false), [.t 3 false, .c (.sc (.int .i64 0))], .t, (some (2, false))⟩,
        ⟨.pick, [.t 2 false, .c (.sc (.bool true)), .t 4 false], .t, none⟩,
        ⟨.mv, [.t 5 false], .t, none⟩,
        ⟨.mv, [.v 6 false], .t, (some (6, false))⟩,
        ⟨.mv, [.v 0 false], .t, (some (6, false))⟩,
        ⟨.len, [.t 8 false], .t, (some (6, false))⟩,
        ⟨.mv, [.v 7 false], .t, (some (6, false))⟩,
        ⟨(.bin .sub false), [.t 9 false, .t 10 false], .t, (some (6, false))⟩,
        ⟨(.bin .gtr false), [.t 7 false, .t 11 false], .t, (some (6, false))⟩,
        ⟨.pick, [.t 6 false, .c (.sc (.bool true)), .t 12 false], (.v 4), none⟩] false)
      (.cond (.v 4 false)
       (.seq
        (.reg [
          ⟨.mv, [.c (.sc (.string ⟨#[]⟩))], (.v 1), none⟩,
          ⟨.mv, [.c (.sc (.int .i64 0))], (.v 2), none⟩,
          ⟨.mv, [.c (.sc (.int .i64 3))], (.v 3), none⟩] false)
        .ret)
       .skip))
     (.seq
      (.reg [
        ⟨.mv, [.v 0 true], .t, none⟩,
        ⟨.mv, [.v 7 false], .t, none⟩,
        ⟨.mv, [.v 7 false], .t, none⟩,
        ⟨.mv, [.v 6 false], .t, none⟩,
        ⟨(.bin .add false), [.t 2 false, .t 3 false], .t, none⟩,
        ⟨(.slc 1 true true false), [.t 0 false, .t 1 false, .t 4 false], .t, none⟩,
        ⟨.cvBS, [.t 5 false], .t, none⟩,
        ⟨.mv, [.v 7 false], .t, none⟩,
        ⟨.mv, [.v 6 false], .t, none⟩,
        ⟨(.bin .add false), [.t 7 false, .t 8 false], .t, none⟩,
        ⟨.mv, [.t 6 false], (.v 1), none⟩,
        ⟨.mv, [.t 9 false], (.v 2), none⟩,
        ⟨.mv, [.c (.sc (.int .i64 0))], (.v 3), none⟩] false)
      .ret)))) }

/-- underwood/underwoodref03.GetText -/
def ir21 : FnIR := { np := 1, nv := 8, slots := [0, 2, 3, 4, 27, 7, 5, 6], res := [.v 1, .v 2, .v 3], body :=
  (.seq
   (.reg [
     ⟨.mv, [.c (.sc (.string ⟨#[]⟩))], (.v 1), none⟩,
     ⟨.mv, [.c (.sc (.int .i64 0))], (.v 2), none⟩,
     ⟨.mv, [.c (.sc (.int .i64 0))], (.v 3), none⟩] false)
   (.seq
    (.reg [
      ⟨.mv, [.v 0 false], .t, none⟩,
      ⟨(.call 19), [.t 0 false], .t, none⟩,
      ⟨.mv, [.t 1 false], .t, none⟩,
      ⟨(.ext 0), [.t 2 false], .t, none⟩,
      ⟨(.ext 1), [.t 2 false], .t, none⟩,
      ⟨(.ext 2), [.t 2 false], .t, none⟩,
      ⟨.mv, [.t 3 false], (.v 6), none⟩,
      ⟨.mv, [.t 4 false], (.v 7), none⟩,
      ⟨.mv, [.t 5 false], (.v 5), none⟩] false)
    (.seq
     (.seq
      (.reg [
        ⟨.mv, [.v 5 false], .t, none⟩,
        ⟨(.bin .neq false), [.t 0 false, .c (.sc (.int .i64 0))], .t, none⟩,
        ⟨.mv, [.t 1 false], .t, none⟩,
        ⟨.mv, [.v 6 false], .t, (some (2, false))⟩,
        ⟨(.bin .lss false), [.t 3 false, .c (.sc (.int .i64 0))], .t, (some (2, false))⟩,
        ⟨.pick, [.t 2 false, .c (.sc (.bool true)), .t 4 false], .t, none⟩,
        ⟨.mv, [.t 5 false], .t, none⟩,
        ⟨.mv, [.v 6 false], .t, (some (6, false))⟩,
        ⟨.mv, [.v 0 false], .t, (some (6, false))⟩,
        ⟨.len, [.t 8 false], .t, (some (6, false))⟩,
        ⟨.mv, [.v 7 false], .t, (some (6, false))⟩,
        ⟨(.bin .sub false), [.t 9 false, .t 10 false], .t, (some (6, false))⟩,
        ⟨(.bin .gtr false), [.t 7 false, .t 11 false], .t, (some (6, false))⟩,
        ⟨.pick, [.t 6 false, .c (.sc (.bool true)), .t 12 false], (.v 4), none⟩] false)
      (.cond (.v 4 false)
       (.seq
        (.reg [
          ⟨.mv, [.c (.sc (.string ⟨#[]⟩))], (.v 1), none⟩,
          ⟨.mv, [.c (.sc (.int .i64 0))], (.v 2), none⟩,
          ⟨.mv, [.c (.sc (.int .i64 3))], (.v 3), none⟩] false)
        .ret)
       .skip))
     (.seq
      (.reg [
        ⟨.mv, [.v 0 true], .t, none⟩,
        ⟨.mv, [.v 7 false], .t, none⟩,
        ⟨.mv, [.v 7 false], .t, none⟩,
        ⟨.mv, [.v 6 false], .t, none⟩,
        ⟨(.bin .add false), [.t 2 false, .t 3 false], .t, none⟩,
        ⟨(.slc 1 true true false), [.t 0 false, .t 1 false, .t 4 false], .t, none⟩,
        ⟨.cvBS, [.t 5 false], .t, none⟩,
        ⟨.mv, [.v 7 false], .t, none⟩,
        ⟨.mv, [.v 6 false], .t, none⟩,
        ⟨(.bin .add false), [.t 7 false, .t 8 false], .t, none⟩,
        ⟨.mv, [.t 6 false], (.v 1), none⟩,
        ⟨.mv, [.t 9 false], (.v 2), none⟩,
        ⟨.mv, [.c (.sc (.int .i64 0))], (.v 3), none⟩] false)
      .ret)))) }

def ir22_l0 : IR :=
           (.seq
            (.reg [
              ⟨(.bin .lss false), [.v 10 false, .v 11 false], (.v 5), none⟩] false)
            (.seq
             (.cond (.v 5 false)
              .skip
              (.exit 0))
             (.seq
              (.block 1
               (.seq
                (.reg [
                  ⟨.mv, [.v 7 false], .t, none⟩,
                  ⟨.callV, [.t 0 false], .t, none⟩,
                  ⟨.mv, [.t 1 false], .t, none⟩,
                  ⟨(.ext 0), [.t 2 false], .t, none⟩,
                  ⟨(.ext 1), [.t 2 false], .t, none⟩,
                  ⟨.mv, [.t 3 false], (.v 14), none⟩,
                  ⟨.mv, [.t 4 false], (.v 12), none⟩] false)
                (.seq
                 (.seq
                  (.reg [
                    ⟨.mv, [.v 12 false], .t, none⟩,
                    ⟨(.un .not), [.t 0 false], (.v 6), none⟩] false)
                  (.cond (.v 6 false)
                   (.seq
                    (.reg [
                      ⟨.mv, [.c (.sl .full 1 [])], (.v 1), none⟩,
                      ⟨.mv, [.c (.sc (.int .i64 0))], (.v 2), none⟩,
                      ⟨.mv, [.c (.sc (.int .i64 3))], (.v 3), none⟩] false)
                    .ret)
                   .skip))
                 (.reg [
                   ⟨.mv, [.v 13 true], .t, none⟩,
                   ⟨.mv, [.v 14 false], .t, none⟩,
                   ⟨(.buildSl 1 [(.sc (.int .i64 0))] [0]), [.t 1 false], .t, none⟩,
                   ⟨(.app 1 8), [.t 0 true, .t 2 false], .t, none⟩,
                   ⟨.mv, [.t 3 true], (.v 13), none⟩] false))))
              (.reg [
                ⟨(.bin .add false), [.v 10 false, .c (.sc (.int .i64 1))], .t, none⟩,
                ⟨.mv, [.t 0 false], (.v 10), none⟩] false))))

/-- underwood/wire.GetNums -/
def ir22 : FnIR := { np := 1, nv := 16, slots := [0, 2, 3, 4, 33, 36, 43, 5, 8, 7, 35, 34, 11, 9, 10, 6], res := [.v 1, .v 2, .v 3], body :=
  (.seq
   (.reg [
     ⟨.mv, [.c (.sl .full 1 [])], (.v 1), none⟩,
     ⟨.mv, [.c (.sc (.int .i64 0))], (.v 2), none⟩,
     ⟨.mv, [.c (.sc (.int .i64 0))], (.v 3), none⟩] false)
   (.seq
    (.reg [
      ⟨.mv, [.v 0 false], .t, none⟩,
      ⟨(.call 37), [.t 0 false], .t, none⟩,
      ⟨.mv, [.t 1 false], .t, none⟩,
      ⟨(.ext 0), [.t 2 false], .t, none⟩,
      ⟨(.ext 1), [.t 2 false], .t, none⟩,
      ⟨.mv, [.t 3 false], (.v 7), none⟩,
      ⟨.mv, [.t 4 false], (.v 15), none⟩] false)
    (.seq
     (.reg [
       ⟨.mv, [.v 7 false], .t, none⟩,
       ⟨.callV, [.t 0 false], .t, none⟩,
       ⟨.mv, [.t 1 false], .t, none⟩,
       ⟨(.ext 0), [.t 2 false], .t, none⟩,
       ⟨(.ext 1), [.t 2 false], .t, none⟩,
       ⟨.mv, [.t 3 false], (.v 9), none⟩,
       ⟨.mv, [.t 4 false], (.v 8), none⟩] false)
     (.seq
      (.seq
       (.reg [
         ⟨.mv, [.v 8 false], .t, none⟩,
         ⟨(.un .not), [.t 0 false], .t, none⟩,
         ⟨.mv, [.t 1 false], .t, none⟩,
         ⟨.mv, [.v 9 false], .t, (some (2, false))⟩,
         ⟨(.bin .lss false), [.t 3 false, .c (.sc (.int .i64 0))], .t, (some (2, false))⟩,
         ⟨.pick, [.t 2 false, .c (.sc (.bool true)), .t 4 false], .t, none⟩,
         ⟨.mv, [.t 5 false], .t, none⟩,
         ⟨.mv, [.v 9 false], .t, (some (6, false))⟩,
         ⟨.mv, [.v 0 true], .t, (some (6, false))⟩,
         ⟨.len, [.t 8 false], .t, (some (6, false))⟩,
         ⟨(.bin .gtr false), [.t 7 false, .t 9 false], .t, (some (6, false))⟩,
         ⟨.pick, [.t 6 false, .c (.sc (.bool true)), .t 10 false], (.v 4), none⟩] false)
       (.cond (.v 4 false)
        (.seq
         (.reg [
           ⟨.mv, [.c (.sl .full 1 [])], (.v 1), none⟩,
           ⟨.mv, [.c (.sc (.int .i64 0))], (.v 2), none⟩,
           ⟨.mv, [.c (.sc (.int .i64 3))], (.v 3), none⟩] false)
         .ret)
        .skip))
      (.seq
       (.reg [
         ⟨.mv, [.c (.sl .full 1 [])], (.v 13), none⟩] false)
       (.seq
        (.seq
         (.reg [
           ⟨.mv, [.v 9 false], (.v 11), none⟩,
           ⟨.mv, [.c (.sc (.int .i64 0))], (.v 10), none⟩] false)
         (.block 0
          (.loop ir22_l0)))
        (.seq
         (.reg [
           ⟨.mv, [.v 13 true], .t, none⟩,
           ⟨.mv, [.v 15 false], .t, none⟩,
           ⟨.callV, [.t 1 false], .t, none⟩,
           ⟨.mv, [.t 0 true], (.v 1), none⟩,
           ⟨.mv, [.t 2 false], (.v 2), none⟩,
           ⟨.mv, [.c (.sc (.int .i64 0))], (.v 3), none⟩] false)
         .ret))))))) }

def ir23_l0 : IR :=
          (.seq
           (.seq
            (.reg [
              ⟨.mv, [.v 9 false], .t, none⟩,
              ⟨.mv, [.v 8 false], .t, none⟩,
              ⟨(.bin .lss false), [.t 0 false, .t 1 false], (.v 5), none⟩] false)
            (.cond (.v 5 false)
             .skip
             (.exit 0)))
           (.seq
            (.block 1
             (.seq
              (.reg [
                ⟨.mv, [.v 0 false], .t, none⟩,
                ⟨.mv, [.v 10 false], .t, none⟩,
                ⟨(.slc 1 true false false), [.t 0 false, .t 1 false], .t, none⟩,
                ⟨(.call 19), [.t 2 false], .t, none⟩,
                ⟨.mv, [.t 3 false], .t, none⟩,
                ⟨(.ext 0), [.t 4 false], .t, none⟩,
                ⟨(.ext 1), [.t 4 false], .t, none⟩,
                ⟨(.ext 2), [.t 4 false], .t, none⟩,
                ⟨.mv, [.t 5 false], (.v 13), none⟩,
                ⟨.mv, [.t 6 false], (.v 14), none⟩,
                ⟨.mv, [.t 7 false], (.v 11), none⟩] false)
              (.seq
               (.seq
                (.reg [
                  ⟨.mv, [.v 11 false], .t, none⟩,
                  ⟨(.bin .neq false), [.t 0 false, .c (.sc (.int .i64 0))], (.v 6), none⟩] false)
                (.cond (.v 6 false)
                 (.seq
                  (.reg [
                    ⟨.mv, [.c (.sl .full 1 [])], (.v 1), none⟩,
                    ⟨.mv, [.c (.sc (.int .i64 0))], (.v 2), none⟩,
                    ⟨.mv, [.c (.sc (.int .i64 3))], (.v 3), none⟩] false)
                  .ret)
                 .skip))
               (.seq
                (.reg [
                  ⟨.mv, [.v 12 true], .t, none⟩,
                  ⟨.mv, [.v 13 false], .t, none⟩,
                  ⟨(.buildSl 1 [(.sc (.int .i64 0))] [0]), [.t 1 false], .t, none⟩,
                  ⟨(.app 1 8), [.t 0 true, .t 2 false], .t, none⟩,
                  ⟨.mv, [.t 3 true], (.v 12), none⟩] false)
                (.reg [
                  ⟨.mv, [.v 10 false], .t, none⟩,
                  ⟨.mv, [.v 14 false], .t, none⟩,
                  ⟨(.bin .add false), [.t 0 false, .t 1 false], .t, none⟩,
                  ⟨.mv, [.t 2 false], (.v 10), none⟩] false)))))
            (.reg [
              ⟨.mv, [.v 9 false], .t, none⟩,
              ⟨(.bin .add false), [.t 0 false, .c (.sc (.int .i64 1))], .t, none⟩,
              ⟨.mv, [.t 1 false], (.v 9), none⟩] false)))

/-- underwood/underwoodref03.GetNums -/
def ir23 : FnIR := { np := 1, nv := 15, slots := [0, 2, 3, 4, 24, 27, 39, 7, 5, 9, 6, 12, 8, 10, 11], res := [.v 1, .v 2, .v 3], body :=
  (.seq
   (.reg [
     ⟨.mv, [.c (.sl .full 1 [])], (.v 1), none⟩,
     ⟨.mv, [.c (.sc (.int .i64 0))], (.v 2), none⟩,
     ⟨.mv, [.c (.sc (.int .i64 0))], (.v 3), none⟩] false)
   (.seq
    (.reg [
      ⟨.mv, [.v 0 false], .t, none⟩,
      ⟨(.call 19), [.t 0 false], .t, none⟩,
      ⟨.mv, [.t 1 false], .t, none⟩,
      ⟨(.ext 0), [.t 2 false], .t, none⟩,
      ⟨(.ext 1), [.t 2 false], .t, none⟩,
      ⟨(.ext 2), [.t 2 false], .t, none⟩,
      ⟨.mv, [.t 3 false], (.v 8), none⟩,
      ⟨.mv, [.t 4 false], (.v 10), none⟩,
      ⟨.mv, [.t 5 false], (.v 7), none⟩] false)
    (.seq
     (.seq
      (.reg [
        ⟨.mv, [.v 7 false], .t, none⟩,
        ⟨(.bin .neq false), [.t 0 false, .c (.sc (.int .i64 0))], .t, none⟩,
        ⟨.mv, [.t 1 false], .t, none⟩,
        ⟨.mv, [.v 8 false], .t, (some (2, false))⟩,
        ⟨(.bin .lss false), [.t 3 false, .c (.sc (.int .i64 0))], .t, (some (2, false))⟩,
        ⟨.pick, [.t 2 false, .c (.sc (.bool true)), .t 4 false], (.v 4), none⟩] false)
      (.cond (.v 4 false)
       (.seq
        (.reg [
          ⟨.mv, [.c (.sl .full 1 [])], (.v 1), none⟩,
          ⟨.mv, [.c (.sc (.int .i64 0))], (.v 2), none⟩,
          ⟨.mv, [.c (.sc (.int .i64 3))], (.v 3), none⟩] false)
        .ret)
       .skip))
     (.seq
      (.reg [
        ⟨.mv, [.c (.sl .full 1 [])], (.v 12), none⟩] false)
      (.seq
       (.seq
        (.reg [
          ⟨.mv, [.c (.sc (.int .i64 0))], (.v 9), none⟩] false)
        (.block 0
         (.loop ir23_l0)))
       (.seq
        (.reg [
          ⟨.mv, [.v 12 true], .t, none⟩,
          ⟨.mv, [.v 10 false], .t, none⟩,
          ⟨.mv, [.t 0 true], (.v 1), none⟩,
          ⟨.mv, [.t 1 false], (.v 2), none⟩,
          ⟨.mv, [.c (.sc (.int .i64 0))], (.v 3), none⟩] false)
        .ret)))))) }

def ir24_l0 : IR :=
        (.seq
         (.seq
          (.reg [
            ⟨.mv, [.v 6 false], .t, none⟩,
            ⟨.mv, [.v 0 false], .t, none⟩,
            ⟨.len, [.t 1 false], .t, none⟩,
            ⟨(.bin .lss false), [.t 0 false, .t 2 false], (.v 4), none⟩] false)
          (.cond (.v 4 false)
           .skip
           (.exit 0)))
         (.seq
          (.block 1
           (.seq
            (.reg [
              ⟨.mv, [.v 0 false], .t, none⟩,
              ⟨.mv, [.v 6 false], .t, none⟩,
              ⟨(.ia 1), [.t 0 false, .t 1 false], .t, none⟩,
              ⟨(.ldP 1 false false), [.t 2 false], .t, none⟩,
              ⟨.mv, [.v 1 false], .t, none⟩,
              ⟨.mv, [.v 6 false], .t, none⟩,
              ⟨(.ia 1), [.t 4 false, .t 5 false], .t, none⟩,
              ⟨(.ldP 1 false false), [.t 6 false], .t, none⟩,
              ⟨(.bin .neq false), [.t 3 false, .t 7 false], (.v 5), none⟩] true)
            (.cond (.v 5 false)
             (.seq
              (.reg [
                ⟨.mv, [.c (.sc (.bool false))], (.v 2), none⟩] false)
              .ret)
             .skip)))
          (.reg [
            ⟨.mv, [.v 6 false], .t, none⟩,
            ⟨(.bin .add false), [.t 0 false, .c (.sc (.int .i64 1))], .t, none⟩,
            ⟨.mv, [.t 1 false], (.v 6), none⟩] false)))

/-- underwood/underwoodref03.Ints -/
def ir24 : FnIR := { np := 2, nv := 7, slots := [0, 1, 4, 10, 14, 25, 5], res := [.v 2], body :=
  (.seq
   (.reg [
     ⟨.mv, [.c (.sc (.bool false))], (.v 2), none⟩] false)
   (.seq
    (.seq
     (.reg [
       ⟨.mv, [.v 0 false], .t, none⟩,
       ⟨.len, [.t 0 false], .t, none⟩,
       ⟨.mv, [.v 1 false], .t, none⟩,
       ⟨.len, [.t 2 false], .t, none⟩,
       ⟨(.bin .neq false), [.t 1 false, .t 3 false], (.v 3), none⟩] false)
     (.cond (.v 3 false)
      (.seq
       (.reg [
         ⟨.mv, [.c (.sc (.bool false))], (.v 2), none⟩] false)
       .ret)
      .skip))
    (.seq
     (.seq
      (.reg [
        ⟨.mv, [.c (.sc (.int .i64 0))], (.v 6), none⟩] false)
      (.block 0
       (.loop ir24_l0)))
     (.seq
      (.reg [
        ⟨.mv, [.c (.sc (.bool true))], (.v 2), none⟩] false)
      .ret)))) }

/-- underwood/wire.Text -/
def ir25 : FnIR := { np := 1, nv := 2, slots := [0, 2], res := [.v 1], body :=
  (.seq
   (.reg [
     ⟨.mv, [.c (.sl .full 1 [])], (.v 1), none⟩] false)
   (.seq
    (.reg [
      ⟨.mv, [.v 0 false], .t, none⟩,
      ⟨.lenS, [.t 0 false], .t, none⟩,
      ⟨(.call 16), [.t 1 false], .t, none⟩,
      ⟨.mv, [.v 0 false], .t, none⟩,
      ⟨(.app 1 1), [.t 2 true, .t 3 false], .t, none⟩,
      ⟨.mv, [.t 4 true], (.v 1), none⟩] false)
    .ret)) }

/-- underwood/underwoodref03.Text -/
def ir26 : FnIR := { np := 1, nv := 2, slots := [0, 2], res := [.v 1], body :=
  (.seq
   (.reg [
     ⟨.mv, [.c (.sl .full 1 [])], (.v 1), none⟩] false)
   (.seq
    (.reg [
      ⟨.mv, [.v 0 false], .t, none⟩,
      ⟨.lenS, [.t 0 false], .t, none⟩,
      ⟨(.call 17), [.t 1 false], .t, none⟩,
      ⟨.mv, [.v 0 false], .t, none⟩,
      ⟨(.app 1 1), [.t 2 true, .t 3 false], .t, none⟩,
      ⟨.mv, [.t 4 true], (.v 1), none⟩] false)
    .ret)) }

def ir27_l0 : IR :=
        (.seq
         (.reg [
           ⟨(.bin .lss false), [.v 3 false, .v 4 false], (.v 2), none⟩] false)
         (.seq
          (.cond (.v 2 false)
           .skip
           (.exit 0))
          (.seq
           (.block 1
            (.seq
             (.reg [
               ⟨(.ia 1), [.v 5 false, .v 3 false], .t, none⟩,
               ⟨(.ldP 1 false false), [.t 0 false], .t, none⟩,
               ⟨.mv, [.t 1 false], (.v 7), none⟩] false)
             (.reg [
               ⟨.mv, [.v 6 true], .t, none⟩,
               ⟨.mv, [.v 7 false], .t, none⟩,
               ⟨(.call 16), [.t 1 false], .t, none⟩,
               ⟨(.app 1 1), [.t 0 true, .t 2 false], .t, none⟩,
               ⟨.mv, [.t 3 true], (.v 6), none⟩] false)))
           (.reg [
             ⟨(.bin .add false), [.v 3 false, .c (.sc (.int .i64 1))], .t, none⟩,
             ⟨.mv, [.t 0 false], (.v 3), none⟩] false))))

/-- underwood/wire.Nums -/
def ir27 : FnIR := { np := 1, nv := 8, slots := [0, 2, 12, 11, 10, 9, 3, 5], res := [.v 1], body :=
  (.seq
   (.reg [
     ⟨.mv, [.c (.sl .full 1 [])], (.v 1), none⟩] false)
   (.seq
    (.reg [
      ⟨.mv, [.v 0 false], .t, none⟩,
      ⟨.len, [.t 0 false], .t, none⟩,
      ⟨(.call 16), [.t 1 false], .t, none⟩,
      ⟨.mv, [.t 2 true], (.v 6), none⟩] false)
    (.seq
     (.seq
      (.reg [
        ⟨.mv, [.v 0 true], (.v 5), none⟩,
        ⟨.len, [.v 5 false], (.v 4), none⟩,
        ⟨.mv, [.c (.sc (.int .i64 0))], (.v 3), none⟩] false)
      (.block 0
       (.loop ir27_l0)))
     (.seq
      (.reg [
        ⟨.mv, [.v 6 true], .t, none⟩,
        ⟨.mv, [.t 0 true], (.v 1), none⟩] false)
      .ret)))) }

def ir28_l0 : IR :=
        (.seq
         (.seq
          (.reg [
            ⟨.mv, [.v 3 false], .t, none⟩,
            ⟨.mv, [.v 0 false], .t, none⟩,
            ⟨.len, [.t 1 false], .t, none⟩,
            ⟨(.bin .lss false), [.t 0 false, .t 2 false], (.v 2), none⟩] false)
          (.cond (.v 2 false)
           .skip
           (.exit 0)))
         (.seq
          (.block 1
           (.reg [
             ⟨.mv, [.v 4 true], .t, none⟩,
             ⟨.mv, [.v 0 false], .t, none⟩,
             ⟨.mv, [.v 3 false], .t, none⟩,
             ⟨(.ia 1), [.t 1 false, .t 2 false], .t, none⟩,
             ⟨(.ldP 1 false false), [.t 3 false], .t, none⟩,
             ⟨(.call 17), [.t 4 false], .t, none⟩,
             ⟨(.app 1 1), [.t 0 true, .t 5 false], .t, none⟩,
             ⟨.mv, [.t 6 true], (.v 4), none⟩] false))
          (.reg [
            ⟨.mv, [.v 3 false], .t, none⟩,
            ⟨(.bin .add false), [.t 0 false, .c (.sc (.int .i64 1))], .t, none⟩,
            ⟨.mv, [.t 1 false], (.v 3), none⟩] false)))

/-- underwood/underwoodref03.Nums -/
def ir28 : FnIR := { np := 1, nv := 5, slots := [0, 2, 11, 4, 3], res := [.v 1], body :=
  (.seq
   (.reg [
     ⟨.mv, [.c (.sl .full 1 [])], (.v 1), none⟩] false)
   (.seq
    (.reg [
      ⟨.mv, [.v 0 false], .t, none⟩,
      ⟨.len, [.t 0 false], .t, none⟩,
      ⟨(.call 17), [.t 1 false], .t, none⟩,
      ⟨.mv, [.t 2 true], (.v 4), none⟩] false)
    (.seq
     (.seq
      (.reg [
        ⟨.mv, [.c (.sc (.int .i64 0))], (.v 3), none⟩] false)
      (.block 0
       (.loop ir28_l0)))
     (.seq
      (.reg [
        ⟨.mv, [.v 4 true], .t, none⟩,
        ⟨.mv, [.t 0 true], (.v 1), none⟩] false)
      .ret)))) }

/-- underwood/wire.Open -/
def ir29 : FnIR := { np := 1, nv := 11, slots := [0, 2, 3, 4, 17, 35, 7, 6, 8, 5, 9], res := [.v 1, .v 2, .v 3], body :=
  (.seq
   (.reg [
     ⟨.mv, [.c (.sl .full 1 [])], (.v 1), none⟩,
     ⟨.mv, [.c (.sc (.int .i64 0))], (.v 2), none⟩,
     ⟨.mv, [.c (.sc (.int .i64 0))], (.v 3), none⟩] false)
   (.seq
    (.reg [
      ⟨.mv, [.v 0 false], .t, none⟩,
      ⟨(.call 20), [.t 0 false], .t, none⟩,
      ⟨.mv, [.t 1 false], .t, none⟩,
      ⟨(.ext 0), [.t 2 false], .t, none⟩,
      ⟨(.ext 1), [.t 2 false], .t, none⟩,
      ⟨(.ext 2), [.t 2 false], .t, none⟩,
      ⟨.mv, [.t 3 false], (.v 9), none⟩,
      ⟨.mv, [.t 4 false], (.v 7), none⟩,
      ⟨.mv, [.t 5 false], (.v 6), none⟩] false)
    (.seq
     (.seq
      (.reg [
        ⟨.mv, [.v 6 false], .t, none⟩,
        ⟨(.bin .neq false), [.t 0 false, .c (.sc (.int .i64 0))], (.v 4), none⟩] false)
      (.cond (.v 4 false)
       (.seq
        (.reg [
          ⟨.mv, [.v 6 false], .t, none⟩,
          ⟨.mv, [.c (.sl .full 1 [])], (.v 1), none⟩,
          ⟨.mv, [.c (.sc (.int .i64 0))], (.v 2), none⟩,
          ⟨.mv, [.t 0 false], (.v 3), none⟩] false)
        .ret)
       .skip))
     (.seq
      (.reg [
        ⟨.mv, [.v 0 true], .t, none⟩,
        ⟨.mv, [.v 7 false], .t, none⟩,
        ⟨(.slc 1 true false false), [.t 0 false, .t 1 false], .t, none⟩,
        ⟨(.call 18), [.t 2 false], .t, none⟩,
        ⟨.mv, [.t 3 false], .t, none⟩,
        ⟨(.ext 0), [.t 4 false], .t, none⟩,
        ⟨(.ext 1), [.t 4 false], .t, none⟩,
        ⟨(.ext 2), [.t 4 false], .t, none⟩,
        ⟨.mv, [.t 5 false], (.v 8), none⟩,
        ⟨.mv, [.t 6 false], (.v 10), none⟩,
        ⟨.mv, [.t 7 false], (.v 6), none⟩] false)
      (.seq
       (.seq
        (.reg [
          ⟨.mv, [.v 6 false], .t, none⟩,
          ⟨(.bin .neq false), [.t 0 false, .c (.sc (.int .i64 0))], .t, none⟩,
          ⟨.mv, [.t 1 false], .t, none⟩,
          ⟨.mv, [.v 8 false], .t, (some (2, false))⟩,
          ⟨.mv, [.v 9 false], .t, (some (2, false))⟩,
          ⟨.cvSB, [.t 4 false], .t, (some (2, false))⟩,
          ⟨(.call 31), [.t 5 false], .t, (some (2, false))⟩,
          ⟨(.bin .neq false), [.t 3 false, .t 6 false], .t, (some (2, false))⟩,
          ⟨.pick, [.t 2 false, .c (.sc (.bool true)), .t 7 false], (.v 5), none⟩] false)
        (.cond (.v 5 false)
         (.seq
          (.reg [
            ⟨.mv, [.c (.sl .full 1 [])], (.v 1), none⟩,
            ⟨.mv, [.c (.sc (.int .i64 0))], (.v 2), none⟩,
            ⟨.mv, [.c (.sc (.int .i64 3))], (.v 3), none⟩] false)
          .ret)
         .skip))
       (.seq
        (.reg [
          ⟨.mv, [.v 9 false], .t, none⟩,
          ⟨.cvSB, [.t 0 false], .t, none⟩,
          ⟨.mv, [.v 7 false], .t, none⟩,
          ⟨.mv, [.v 10 false], .t, none⟩,
          ⟨(.bin .add false), [.t 2 false, .t 3 false], .t, none⟩,
          ⟨.mv, [.t 1 true], (.v 1), none⟩,
          ⟨.mv, [.t 4 false], (.v 2), none⟩,
          ⟨.mv, [.c (.sc (.int .i64 0))], (.v 3), none⟩] false)
        .ret)))))) }

/-- underwood/underwoodref03.Open -/
def ir30 : FnIR := { np := 1, nv := 12, slots := [0, 2, 3, 4, 30, 53, 7, 5, 6, 10, 8, 9], res := [.v 1, .v 2, .v 3], body :=
  (.seq
   (.reg [
     ⟨.mv, [.c (.sl .full 1 [])], (.v 1), none⟩,
     ⟨.mv, [.c (.sc (.int .i64 0))], (.v 2), none⟩,
     ⟨.mv, [.c (.sc (.int .i64 0))], (.v 3), none⟩] false)
   (.seq
    (.reg [
      ⟨.mv, [.v 0 false], .t, none⟩,
      ⟨(.call 19), [.t 0 false], .t, none⟩,
      ⟨.mv, [.t 1 false], .t, none⟩,
      ⟨(.ext 0), [.t 2 false], .t, none⟩,
      ⟨(.ext 1), [.t 2 false], .t, none⟩,
      ⟨(.ext 2), [.t 2 false], .t, none⟩,
      ⟨.mv, [.t 3 false], (.v 7), none⟩,
      ⟨.mv, [.t 4 false], (.v 8), none⟩,
      ⟨.mv, [.t 5 false], (.v 6), none⟩] false)
    (.seq
     (.seq
      (.reg [
        ⟨.mv, [.v 6 false], .t, none⟩,
        ⟨(.bin .neq false), [.t 0 false, .c (.sc (.int .i64 0))], .t, none⟩,
        ⟨.mv, [.t 1 false], .t, none⟩,
        ⟨.mv, [.v 7 false], .t, (some (2, false))⟩,
        ⟨(.bin .lss false), [.t 3 false, .c (.sc (.int .i64 0))], .t, (some (2, false))⟩,
        ⟨.pick, [.t 2 false, .c (.sc (.bool true)), .t 4 false], .t, none⟩,
        ⟨.mv, [.t 5 false], .t, none⟩,
        ⟨.mv, [.v 7 false], .t, (some (6, false))⟩,
        ⟨.mv, [.v 0 false], .t, (some (6, false))⟩,
        ⟨.len, [.t 8 false], .t, (some (6, false))⟩,
        ⟨.mv, [.v 8 false], .t, (some (6, false))⟩,
        ⟨(.bin .sub false), [.t 9 false, .t 10 false], .t, (some (6, false))⟩,
        ⟨(.bin .gtr false), [.t 7 false, .t 11 false], .t, (some (6, false))⟩,
        ⟨.pick, [.t 6 false, .c (.sc (.bool true)), .t 12 false], (.v 4), none⟩] false)
      (.cond (.v 4 false)
       (.seq
        (.reg [
          ⟨.mv, [.c (.sl .full 1 [])], (.v 1), none⟩,
          ⟨.mv, [.c (.sc (.int .i64 0))], (.v 2), none⟩,
          ⟨.mv, [.c (.sc (.int .i64 3))], (.v 3), none⟩] false)
        .ret)
       .skip))
     (.seq
      (.reg [
        ⟨.mv, [.v 0 false], .t, none⟩,
        ⟨.mv, [.v 8 false], .t, none⟩,
        ⟨.mv, [.v 7 false], .t, none⟩,
        ⟨(.bin .add false), [.t 1 false, .t 2 false], .t, none⟩,
        ⟨(.slc 1 true false false), [.t 0 false, .t 3 false], .t, none⟩,
        ⟨(.call 19), [.t 4 false], .t, none⟩,
        ⟨.mv, [.t 5 false], .t, none⟩,
        ⟨(.ext 0), [.t 6 false], .t, none⟩,
        ⟨(.ext 1), [.t 6 false], .t, none⟩,
        ⟨(.ext 2), [.t 6 false], .t, none⟩,
        ⟨.mv, [.t 7 false], (.v 10), none⟩,
        ⟨.mv, [.t 8 false], (.v 11), none⟩,
        ⟨.mv, [.t 9 false], (.v 9), none⟩] false)
      (.seq
       (.seq
        (.reg [
          ⟨.mv, [.v 9 false], .t, none⟩,
          ⟨(.bin .neq false), [.t 0 false, .c (.sc (.int .i64 0))], .t, none⟩,
          ⟨.mv, [.t 1 false], .t, none⟩,
          ⟨.mv, [.v 10 false], .t, (some (2, false))⟩,
          ⟨.mv, [.v 0 false], .t, (some (2, false))⟩,
          ⟨.mv, [.v 8 false], .t, (some (2, false))⟩,
          ⟨.mv, [.v 8 false], .t, (some (2, false))⟩,
          ⟨.mv, [.v 7 false], .t, (some (2, false))⟩,
          ⟨(.bin .add false), [.t 6 false, .t 7 false], .t, (some (2, false))⟩,
          ⟨(.slc 1 true true false), [.t 4 false, .t 5 false, .t 8 false], .t, (some (2, false))⟩,
          ⟨(.call 32), [.t 9 false], .t, (some (2, false))⟩,
          ⟨(.bin .neq false), [.t 3 false, .t 10 false], .t, (some (2, false))⟩,
          ⟨.pick, [.t 2 false, .c (.sc (.bool true)), .t 11 false], (.v 5), none⟩] false)
        (.cond (.v 5 false)
         (.seq
          (.reg [
            ⟨.mv, [.c (.sl .full 1 [])], (.v 1), none⟩,
            ⟨.mv, [.c (.sc (.int .i64 0))], (.v 2), none⟩,
            ⟨.mv, [.c (.sc (.int .i64 3))], (.v 3), none⟩] false)
          .ret)
         .skip))
       (.seq
        (.reg [
          ⟨.mv, [.v 0 true], .t, none⟩,
          ⟨.mv, [.v 8 false], .t, none⟩,
          ⟨.mv, [.v 8 false], .t, none⟩,
          ⟨.mv, [.v 7 false], .t, none⟩,
          ⟨(.bin .add false), [.t 2 false, .t 3 false], .t, none⟩,
          ⟨(.slc 1 true true false), [.t 0 false, .t 1 false, .t 4 false], .t, none⟩,
          ⟨.mv, [.v 8 false], .t, none⟩,
          ⟨.mv, [.v 7 false], .t, none⟩,
          ⟨(.bin .add false), [.t 6 false, .t 7 false], .t, none⟩,
          ⟨.mv, [.v 11 false], .t, none⟩,
          ⟨(.bin .add false), [.t 8 false, .t 9 false], .t, none⟩,
          ⟨.mv, [.t 5 true], (.v 1), none⟩,
          ⟨.mv, [.t 10 false], (.v 2), none⟩,
          ⟨.mv, [.c (.sc (.int .i64 0))], (.v 3), none⟩] false)
        .ret)))))) }

def ir31_l0 : IR :=
        (.seq
         (.reg [
           ⟨(.bin .lss false), [.v 3 false, .v 4 false], (.v 2), none⟩] false)
         (.seq
          (.cond (.v 2 false)
           .skip
           (.exit 0))
          (.seq
           (.block 1
            (.seq
             (.reg [
               ⟨(.ia 1), [.v 5 false, .v 3 false], .t, none⟩,
               ⟨(.ldP 1 false false), [.t 0 false], .t, none⟩,
               ⟨.mv, [.t 1 false], (.v 7), none⟩] false)
             (.seq
              (.reg [
                ⟨.mv, [.v 6 false], .t, none⟩,
                ⟨.mv, [.v 7 false], .t, none⟩,
                ⟨(.cvI .i64), [.t 1 false], .t, none⟩,
                ⟨(.bin .add false), [.t 0 false, .t 2 false], .t, none⟩,
                ⟨(.bin .rem false), [.t 3 false, .c (.sc (.int .i64 65521))], .t, none⟩,
                ⟨.mv, [.t 4 false], (.v 6), none⟩] false)
              (.reg [
                ⟨.mv, [.v 8 false], .t, none⟩,
                ⟨.mv, [.v 6 false], .t, none⟩,
                ⟨(.bin .add false), [.t 0 false, .t 1 false], .t, none⟩,
                ⟨(.bin .rem false), [.t 2 false, .c (.sc (.int .i64 65521))], .t, none⟩,
                ⟨.mv, [.t 3 false], (.v 8), none⟩] false))))
           (.reg [
             ⟨(.bin .add false), [.v 3 false, .c (.sc (.int .i64 1))], .t, none⟩,
             ⟨.mv, [.t 0 false], (.v 3), none⟩] false))))

/-- underwood/wire.Sum -/
def ir31 : FnIR := { np := 1, nv := 9, slots := [0, 2, 10, 9, 8, 7, 3, 6, 4], res := [.v 1], body :=
  (.seq
   (.reg [
     ⟨.mv, [.c (.sc (.int .i64 0))], (.v 1), none⟩] false)
   (.seq
    (.reg [
      ⟨.mv, [.c (.sc (.int .i64 1))], (.v 6), none⟩,
      ⟨.mv, [.c (.sc (.int .i64 0))], (.v 8), none⟩] false)
    (.seq
     (.seq
      (.reg [
        ⟨.mv, [.v 0 true], (.v 5), none⟩,
        ⟨.len, [.v 5 false], (.v 4), none⟩,
        ⟨.mv, [.c (.sc (.int .i64 0))], (.v 3), none⟩] false)
      (.block 0
       (.loop ir31_l0)))
     (.seq
      (.reg [
        ⟨.mv, [.v 8 false], .t, none⟩,
        ⟨(.bin .shl false), [.t 0 false, .c (.sc (.int .u64 16))], .t, none⟩,
        ⟨.mv, [.v 6 false], .t, none⟩,
        ⟨(.bin .or false), [.t 1 false, .t 2 false], .t, none⟩,
        ⟨.mv, [.t 3 false], (.v 1), none⟩] false)
      .ret)))) }

/-- underwood/underwoodref03.Sum -/
def ir32 : FnIR := { np := 1, nv := 4, slots := [0, 2, 4, 3], res := [.v 1], body :=
  (.seq
   (.reg [
     ⟨.mv, [.c (.sc (.int .i64 0))], (.v 1), none⟩] false)
   (.seq
    (.reg [
      ⟨.mv, [.v 0 true], .t, none⟩,
      ⟨(.call 38), [.t 0 false], .t, none⟩,
      ⟨.mv, [.t 1 false], .t, none⟩,
      ⟨(.ext 0), [.t 2 false], .t, none⟩,
      ⟨(.ext 1), [.t 2 false], .t, none⟩,
      ⟨.mv, [.t 3 false], (.v 3), none⟩,
      ⟨.mv, [.t 4 false], (.v 2), none⟩] false)
    (.seq
     (.reg [
       ⟨.mv, [.v 2 false], .t, none⟩,
       ⟨(.bin .mul false), [.c (.sc (.int .i64 65536)), .t 0 false], .t, none⟩,
       ⟨.mv, [.v 3 false], .t, none⟩,
       ⟨(.bin .add false), [.t 1 false, .t 2 false], .t, none⟩,
       ⟨.mv, [.t 3 false], (.v 1), none⟩] false)
     .ret))) }

/-- underwood/wire.Seal -/
def ir33 : FnIR := { np := 1, nv := 2, slots := [0, 2], res := [.v 1], body :=
  (.seq
   (.reg [
     ⟨.mv, [.c (.sl .full 1 [])], (.v 1), none⟩] false)
   (.seq
    (.reg [
      ⟨.mv, [.v 0 false], .t, none⟩,
      ⟨.len, [.t 0 false], .t, none⟩,
      ⟨(.call 16), [.t 1 false], .t, none⟩,
      ⟨.mv, [.v 0 false], .t, none⟩,
      ⟨(.app 1 1), [.t 2 true, .t 3 false], .t, none⟩,
      ⟨.mv, [.v 0 true], .t, none⟩,
      ⟨(.call 31), [.t 5 false], .t, none⟩,
      ⟨(.call 16), [.t 6 false], .t, none⟩,
      ⟨(.app 1 1), [.t 4 true, .t 7 false], .t, none⟩,
      ⟨.mv, [.t 8 true], (.v 1), none⟩] false)
    .ret)) }

/-- underwood/underwoodref03.Seal -/
def ir34 : FnIR := { np := 1, nv := 3, slots := [0, 2, 3], res := [.v 1], body :=
  (.seq
   (.reg [
     ⟨.mv, [.c (.sl .full 1 [])], (.v 1), none⟩] false)
   (.seq
    (.reg [
      ⟨.mv, [.v 0 false], .t, none⟩,
      ⟨.len, [.t 0 false], .t, none⟩,
      ⟨(.call 17), [.t 1 false], .t, none⟩,
      ⟨.mv, [.v 0 false], .t, none⟩,
      ⟨(.app 1 1), [.t 2 true, .t 3 false], .t, none⟩,
      ⟨.mv, [.t 4 true], (.v 2), none⟩] false)
    (.seq
     (.reg [
       ⟨.mv, [.v 2 true], .t, none⟩,
       ⟨.mv, [.v 0 true], .t, none⟩,
       ⟨(.call 32), [.t 1 false], .t, none⟩,
       ⟨(.call 17), [.t 2 false], .t, none⟩,
       ⟨(.app 1 1), [.t 0 true, .t 3 false], .t, none⟩,
       ⟨.mv, [.t 4 true], (.v 1), none⟩] false)
     .ret))) }

/-- underwood/underwoodlaw03.WireTurned$1 -/
def ir35 : FnIR := { np := 3, nv := 4, slots := [0, 1, 2, 4], res := [.v 3], body :=
  (.seq
   (.reg [
     ⟨.mv, [.c (.sl .full 1 [])], (.v 3), none⟩] false)
   (.seq
    (.reg [
      ⟨(.buildSl 1 [] []), [], .t, none⟩,
      ⟨(.ldP 1 false false), [.v 1 false], .t, none⟩,
      ⟨(.app 1 1), [.t 0 true, .t 1 false], .t, none⟩,
      ⟨.mv, [.v 0 true], .t, none⟩,
      ⟨(.app 1 1), [.t 2 true, .t 3 false], .t, none⟩,
      ⟨(.ldP 1 false false), [.v 2 false], .t, none⟩,
      ⟨(.app 1 1), [.t 4 true, .t 5 false], .t, none⟩,
      ⟨.mv, [.t 6 true], (.v 3), none⟩] true)
    .ret)) }

/-- underwood/underwoodref03.turned -/
def ir36 : FnIR := { np := 1, nv := 3, slots := [0, 2, 4], res := [.v 1], body :=
  (.seq
   (.reg [
     ⟨.mv, [.c (.sc (.int .u64 0))], (.v 1), none⟩] false)
   (.seq
    (.seq
     (.reg [
       ⟨.mv, [.v 0 false], .t, none⟩,
       ⟨(.bin .geq false), [.t 0 false, .c (.sc (.int .i64 0))], (.v 2), none⟩] false)
     (.cond (.v 2 false)
      (.seq
       (.reg [
         ⟨.mv, [.v 0 false], .t, none⟩,
         ⟨(.cvI .u64), [.t 0 false], .t, none⟩,
         ⟨(.bin .mul false), [.c (.sc (.int .u64 2)), .t 1 false], .t, none⟩,
         ⟨.mv, [.t 2 false], (.v 1), none⟩] false)
       .ret)
      .skip))
    (.seq
     (.reg [
       ⟨.mv, [.v 0 false], .t, none⟩,
       ⟨(.bin .add false), [.t 0 false, .c (.sc (.int .i64 1))], .t, none⟩,
       ⟨(.un .neg), [.t 1 false], .t, none⟩,
       ⟨(.cvI .u64), [.t 2 false], .t, none⟩,
       ⟨(.bin .mul false), [.c (.sc (.int .u64 2)), .t 3 false], .t, none⟩,
       ⟨(.bin .add false), [.t 4 false, .c (.sc (.int .u64 1))], .t, none⟩,
       ⟨.mv, [.t 5 false], (.v 1), none⟩] false)
     .ret))) }

/-- underwood/wire.reader -/
def ir37 : FnIR := { np := 1, nv := 5, slots := [0, 2, 3, 1, 4], res := [.v 1, .v 2], body :=
  (.seq
   (.reg [
     ⟨(.hp 1), [.v 0 true], (.v 3), none⟩,
     ⟨.mv, [.c (.sc .nilFunc)], (.v 1), none⟩,
     ⟨.mv, [.c (.sc .nilFunc)], (.v 2), none⟩] false)
   (.seq
    (.reg [
      ⟨(.hp 1), [.c (.sc (.int .i64 0))], (.v 4), none⟩,
      ⟨(.stP 1), [.v 4 false, .c (.sc (.int .i64 0))], .none, none⟩] false)
    (.seq
     (.reg [
       ⟨(.mkFn (.func 39) 0), [.v 3 false, .v 4 false], .t, none⟩,
       ⟨.mv, [.t 0 false], (.v 1), none⟩] false)
     (.seq
      (.reg [
        ⟨.mv, [.v 1 false], .t, none⟩,
        ⟨(.mkFn (.func 40) 0), [.v 4 false], .t, none⟩,
        ⟨.mv, [.t 0 false], (.v 1), none⟩,
        ⟨.mv, [.t 1 false], (.v 2), none⟩] false)
      .ret)))) }

def ir38_l0 : IR :=
         (.seq
          (.seq
           (.reg [
             ⟨.mv, [.v 4 false], .t, none⟩,
             ⟨.mv, [.v 0 false], .t, none⟩,
             ⟨.len, [.t 1 false], .t, none⟩,
             ⟨(.bin .lss false), [.t 0 false, .t 2 false], (.v 3), none⟩] false)
           (.cond (.v 3 false)
            .skip
            (.exit 0)))
          (.seq
           (.block 1
            (.seq
             (.reg [
               ⟨.mv, [.v 5 false], .t, none⟩,
               ⟨.mv, [.v 0 false], .t, none⟩,
               ⟨.mv, [.v 4 false], .t, none⟩,
               ⟨(.ia 1), [.t 1 false, .t 2 false], .t, none⟩,
               ⟨(.ldP 1 false false), [.t 3 false], .t, none⟩,
               ⟨(.cvI .i64), [.t 4 false], .t, none⟩,
               ⟨(.bin .add false), [.t 0 false, .t 5 false], .t, none⟩,
               ⟨(.bin .rem false), [.t 6 false, .c (.sc (.int .i64 65521))], .t, none⟩,
               ⟨.mv, [.t 7 false], (.v 5), none⟩] false)
             (.reg [
               ⟨.mv, [.v 6 false], .t, none⟩,
               ⟨.mv, [.v 5 false], .t, none⟩,
               ⟨(.bin .add false), [.t 0 false, .t 1 false], .t, none⟩,
               ⟨(.bin .rem false), [.t 2 false, .c (.sc (.int .i64 65521))], .t, none⟩,
               ⟨.mv, [.t 3 false], (.v 6), none⟩] false)))
           (.reg [
             ⟨.mv, [.v 4 false], .t, none⟩,
             ⟨(.bin .add false), [.t 0 false, .c (.sc (.int .i64 1))], .t, none⟩,
             ⟨.mv, [.t 1 false], (.v 4), none⟩] false)))

/-- underwood/underwoodref03.sums -/
def ir38 : FnIR := { np := 1, nv := 7, slots := [0, 2, 3, 10, 6, 4, 5], res := [.v 1, .v 2], body :=
  (.seq
   (.reg [
     ⟨.mv, [.c (.sc (.int .i64 0))], (.v 1), none⟩,
     ⟨.mv, [.c (.sc (.int .i64 0))], (.v 2), none⟩] false)
   (.seq
    (.reg [
      ⟨.mv, [.c (.sc (.int .i64 1))], (.v 5), none⟩] false)
    (.seq
     (.reg [
       ⟨.mv, [.c (.sc (.int .i64 0))], (.v 6), none⟩] false)
     (.seq
      (.seq
       (.reg [
         ⟨.mv, [.c (.sc (.int .i64 0))], (.v 4), none⟩] false)
       (.block 0
        (.loop ir38_l0)))
      (.seq
       (.reg [
         ⟨.mv, [.v 5 false], .t, none⟩,
         ⟨.mv, [.v 6 false], .t, none⟩,
         ⟨.mv, [.t 0 false], (.v 1), none⟩,
         ⟨.mv, [.t 1 false], (.v 2), none⟩] false)
       .ret))))) }

/-- underwood/wire.reader$1 -/
def ir39 : FnIR := { np := 2, nv := 7, slots := [0, 1, 2, 3, 5, 4, 6], res := [.v 2, .v 3], body :=
  (.seq
   (.reg [
     ⟨.mv, [.c (.sc (.int .i64 0))], (.v 2), none⟩,
     ⟨.mv, [.c (.sc (.bool false))], (.v 3), none⟩] false)
   (.seq
    (.reg [
      ⟨(.ldP 1 false false), [.v 0 false], .t, none⟩,
      ⟨(.ldP 1 false false), [.v 1 false], .t, none⟩,
      ⟨(.slc 1 true false false), [.t 0 false, .t 1 false], .t, none⟩,
      ⟨(.call 18), [.t 2 false], .t, none⟩,
      ⟨.mv, [.t 3 false], .t, none⟩,
      ⟨(.ext 0), [.t 4 false], .t, none⟩,
      ⟨(.ext 1), [.t 4 false], .t, none⟩,
      ⟨(.ext 2), [.t 4 false], .t, none⟩,
      ⟨.mv, [.t 5 false], (.v 5), none⟩,
      ⟨.mv, [.t 6 false], (.v 4), none⟩,
      ⟨.mv, [.t 7 false], (.v 6), none⟩] false)
    (.seq
     (.reg [
       ⟨(.ldP 1 false false), [.v 1 false], .t, none⟩,
       ⟨.mv, [.v 4 false], .t, none⟩,
       ⟨(.bin .add false), [.t 0 false, .t 1 false], .t, none⟩,
       ⟨(.stP 1), [.v 1 false, .t 2 false], .none, none⟩] false)
     (.seq
      (.reg [
        ⟨.mv, [.v 5 false], .t, none⟩,
        ⟨.mv, [.v 6 false], .t, none⟩,
        ⟨(.bin .eql false), [.t 1 false, .c (.sc (.int .i64 0))], .t, none⟩,
        ⟨.mv, [.t 0 false], (.v 2), none⟩,
        ⟨.mv, [.t 2 false], (.v 3), none⟩] false)
      .ret)))) }

/-- underwood/wire.reader$2 -/
def ir40 : FnIR := { np := 1, nv := 2, slots := [0, 1], res := [.v 1], body :=
  (.seq
   (.reg [
     ⟨.mv, [.c (.sc (.int .i64 0))], (.v 1), none⟩] false)
   (.seq
    (.reg [
      ⟨(.ldP 1 false false), [.v 0 false], .t, none⟩,
      ⟨.mv, [.t 0 false], (.v 1), none⟩] false)
    .ret)) }

def fns : FuncId → Option FnIR
  | 3 => some ir3
  | 4 => some ir4
  | 5 => some ir5
  | 6 => some ir6
  | 7 => some ir7
  | 8 => some ir8
  | 9 => some ir9
  | 10 => some ir10
  | 11 => some ir11
  | 12 => some ir12
  | 13 => some ir13
  | 14 => some ir14
  | 15 => some ir15
  | 16 => some ir16
  | 17 => some ir17
  | 18 => some ir18
  | 19 => some ir19
  | 20 => some ir20
  | 21 => some ir21
  | 22 => some ir22
  | 23 => some ir23
  | 24 => some ir24
  | 25 => some ir25
  | 26 => some ir26
  | 27 => some ir27
  | 28 => some ir28
  | 29 => some ir29
  | 30 => some ir30
  | 31 => some ir31
  | 32 => some ir32
  | 33 => some ir33
  | 34 => some ir34
  | 35 => some ir35
  | 36 => some ir36
  | 37 => some ir37
  | 38 => some ir38
  | 39 => some ir39
  | 40 => some ir40
  | _ => none
end Go.D.Wire
