/- The small forms of this seat's functions. -/
import Derived.Test.YtcnancgfgokghaaQqDv
set_option linter.unusedSimpArgs false
set_option linter.unusedVariables false
namespace Go.D.Ring
open Go.D
/-- underwood/underwoodlaw17.RingTells -/
def ir3 : FnIR := { np := 6, nv := 9, slots := [0, 1, 2, 3, 4, 5, 14, 12, 13], res := [.v 7], body :=
  (.seq
   (.reg [
     ⟨.mv, [.c (.sc (.bool false))], (.v 7), none⟩] false)
   (.seq
    (.reg [
      ⟨(.call 8), [], .t, none⟩,
      ⟨.mv, [.t 0 false], (.v 8), none⟩] false)
    (.seq
     (.reg [
       ⟨.mv, [.v 0 false], .t, none⟩,
       ⟨.mv, [.v 1 false], .t, none⟩,
       ⟨(.call 9), [.t 0 false, .t 1 false], .t, none⟩,
       ⟨(.bx 25), [.c (.agg [(.sc (.int .i64 0)), (.sc (.int .i64 0)), (.sc (.int .i64 0)), (.sc (.int .i64 0)), (.sc (.int .i64 0)), (.sc (.int .i64 0)), (.sc (.int .i64 0)), (.sc (.int .i64 0)), (.sc (.int .i64 0)), (.sc (.int .i64 0)), (.sc (.int .i64 0)), (.sc (.int .i64 0)), (.sc (.int .i64 0)), (.sc (.int .i64 0)), (.sc (.int .i64 0)), (.sc (.int .i64 0)), (.sc (.int .i64 0)), (.sc (.int .i64 0)), (.sc (.int .i64 0)), (.sc (.int .i64 0)), (.sc (.int .i64 0)), (.sc (.int .i64 0)), (.sc (.int .i64 0)), (.sc (.int .i64 0)), (.sc (.int .i64 0))])], (.v 6), none⟩,
       ⟨(.stB 6 25), [.v 6 false, .t 2 false], .none, none⟩] false)
     (.seq
      (.reg [
        ⟨.mv, [.v 8 false], .t, none⟩,
        ⟨.mv, [.t 0 false], .t, none⟩,
        ⟨.mv, [.v 3 false], .t, (some (1, true))⟩,
        ⟨(.call 10), [.t 2 false], .t, (some (1, true))⟩,
        ⟨.mv, [.v 3 false], .t, (some (1, true))⟩,
        ⟨(.call 11), [.t 4 false], .t, (some (1, true))⟩,
        ⟨(.bin .eql false), [.t 3 false, .t 5 false], .t, (some (1, true))⟩,
        ⟨.pick, [.t 1 false, .t 6 false, .c (.sc (.bool false))], .t, none⟩,
        ⟨.mv, [.t 7 false], .t, none⟩,
        ⟨(.ldB 6 25 true false), [.v 6 false], .t, (some (8, true))⟩,
        ⟨.mv, [.v 2 false], .t, (some (8, true))⟩,
        ⟨.mv, [.v 3 false], .t, (some (8, true))⟩,
        ⟨.mv, [.v 4 false], .t, (some (8, true))⟩,
        ⟨(.call 12), [.t 9 false, .t 10 false, .t 11 false, .t 12 false], .t, (some (8, true))⟩,
        ⟨(.ldB 6 25 true false), [.v 6 false], .t, (some (8, true))⟩,
        ⟨.mv, [.v 2 false], .t, (some (8, true))⟩,
        ⟨.mv, [.v 3 false], .t, (some (8, true))⟩,
        ⟨.mv, [.v 4 false], .t, (some (8, true))⟩,
        ⟨(.call 13), [.t 14 false, .t 15 false, .t 16 false, .t 17 false], .t, (some (8, true))⟩,
        ⟨(.bin .eql false), [.t 13 false, .t 18 false], .t, (some (8, true))⟩,
        ⟨.pick, [.t 8 false, .t 19 false, .c (.sc (.bool false))], .t, none⟩,
        ⟨.mv, [.t 20 false], .t, none⟩,
        ⟨.mv, [.v 5 false], .t, (some (21, true))⟩,
        ⟨.mv, [.v 4 false], .t, (some (21, true))⟩,
        ⟨(.bin .sub false), [.t 22 false, .t 23 false], .t, (some (21, true))⟩,
        ⟨(.bin .gtr false), [.t 24 false, .c (.sc (.int .i64 100))], .t, (some (21, true))⟩,
        ⟨.mv, [.t 25 false], .t, (some (21, true))⟩,
        ⟨.mv, [.v 4 false], .t, (some (26, true))⟩,
        ⟨(.bin .geq false), [.t 27 false, .c (.sc (.int .i64 0))], .t, (some (26, true))⟩,
        ⟨.pick, [.t 26 false, .t 28 false, .c (.sc (.bool false))], .t, (some (21, true))⟩,
        ⟨.mv, [.t 29 false], .t, (some (21, true))⟩,
        ⟨(.ldB 6 25 true false), [.v 6 false], .t, (some (30, false))⟩,
        ⟨.mv, [.v 2 false], .t, (some (30, false))⟩,
        ⟨.mv, [.v 3 false], .t, (some (30, false))⟩,
        ⟨.mv, [.v 4 false], .t, (some (30, false))⟩,
        ⟨.mv, [.v 5 false], .t, (some (30, false))⟩,
        ⟨(.call 15), [.t 31 false, .t 32 false, .t 33 false, .t 34 false, .t 35 false], .t, (some (30, false))⟩,
        ⟨(.ldB 6 25 true false), [.v 6 false], .t, (some (30, false))⟩,
        ⟨.mv, [.v 2 false], .t, (some (30, false))⟩,
        ⟨.mv, [.v 3 false], .t, (some (30, false))⟩,
        ⟨.mv, [.v 4 false], .t, (some (30, false))⟩,
        ⟨.mv, [.v 5 false], .t, (some (30, false))⟩,
        ⟨(.call 16), [.t 37 false, .t 38 false, .t 39 false, .t 40 false, .t 41 false], .t, (some (30, false))⟩,
        ⟨(.call 14), [.t 36 false, .t 42 false], .t, (some (30, false))⟩,
        ⟨.pick, [.t 30 false, .c (.sc (.bool true)), .t 43 false], .t, (some (21, true))⟩,
        ⟨.pick, [.t 21 false, .t 44 false, .c (.sc (.bool false))], .t, none⟩,
        ⟨.mv, [.t 45 false], (.v 7), none⟩] true)
      .ret)))) }

/-- underwood/underwoodlaw17.RingRound -/
def ir4 : FnIR := { np := 6, nv := 16, slots := [0, 1, 2, 3, 4, 5, 14, 12, 52, 65, 15, 16, 17, 13, 18, 19], res := [.v 7], body :=
  (.seq
   (.reg [
     ⟨.mv, [.c (.sc (.bool false))], (.v 7), none⟩] false)
   (.seq
    (.reg [
      ⟨(.call 8), [], .t, none⟩,
      ⟨.mv, [.t 0 false], (.v 13), none⟩] false)
    (.seq
     (.reg [
       ⟨.mv, [.v 0 false], .t, none⟩,
       ⟨.mv, [.v 1 false], .t, none⟩,
       ⟨(.call 9), [.t 0 false, .t 1 false], .t, none⟩,
       ⟨(.bx 25), [.c (.agg [(.sc (.int .i64 0)), (.sc (.int .i64 0)), (.sc (.int .i64 0)), (.sc (.int .i64 0)), (.sc (.int .i64 0)), (.sc (.int .i64 0)), (.sc (.int .i64 0)), (.sc (.int .i64 0)), (.sc (.int .i64 0)), (.sc (.int .i64 0)), (.sc (.int .i64 0)), (.sc (.int .i64 0)), (.sc (.int .i64 0)), (.sc (.int .i64 0)), (.sc (.int .i64 0)), (.sc (.int .i64 0)), (.sc (.int .i64 0)), (.sc (.int .i64 0)), (.sc (.int .i64 0)), (.sc (.int .i64 0)), (.sc (.int .i64 0)), (.sc (.int .i64 0)), (.sc (.int .i64 0)), (.sc (.int .i64 0)), (.sc (.int .i64 0))])], (.v 6), none⟩,
       ⟨(.stB 6 25), [.v 6 false, .t 2 false], .none, none⟩] false)
     (.seq
      (.reg [
        ⟨.mv, [.v 2 false], .t, none⟩,
        ⟨(.cvI .i64), [.t 0 false], .t, none⟩,
        ⟨.mv, [.v 0 false], .t, none⟩,
        ⟨(.bin .rem false), [.t 2 false, .c (.sc (.int .u8 3))], .t, none⟩,
        ⟨(.cvI .i64), [.t 3 false], .t, none⟩,
        ⟨(.bin .add false), [.c (.sc (.int .i64 1)), .t 4 false], .t, none⟩,
        ⟨(.bin .rem false), [.t 1 false, .t 5 false], .t, none⟩,
        ⟨.mv, [.t 6 false], (.v 10), none⟩] false)
      (.seq
       (.reg [
         ⟨.mv, [.v 3 false], .t, none⟩,
         ⟨(.bin .rem false), [.t 0 false, .c (.sc (.int .u8 8))], .t, none⟩,
         ⟨(.cvI .i64), [.t 1 false], .t, none⟩,
         ⟨.mv, [.t 2 false], (.v 11), none⟩] false)
       (.seq
        (.reg [
          ⟨(.ldB 6 25 true false), [.v 6 false], .t, none⟩,
          ⟨.mv, [.v 10 false], .t, none⟩,
          ⟨.mv, [.v 11 false], .t, none⟩,
          ⟨.mv, [.v 4 false], .t, none⟩,
          ⟨(.cvI .i64), [.t 3 false], .t, none⟩,
          ⟨(.call 12), [.t 0 false, .t 1 false, .t 2 false, .t 4 false], .t, none⟩,
          ⟨.mv, [.t 5 false], (.v 12), none⟩] false)
        (.seq
         (.reg [
           ⟨(.ldB 6 25 true false), [.v 6 false], .t, none⟩,
           ⟨.mv, [.v 10 false], .t, none⟩,
           ⟨.mv, [.v 11 false], .t, none⟩,
           ⟨.mv, [.v 4 false], .t, none⟩,
           ⟨(.cvI .i64), [.t 3 false], .t, none⟩,
           ⟨.mv, [.v 5 false], .t, none⟩,
           ⟨(.cvI .i64), [.t 5 false], .t, none⟩,
           ⟨(.bin .add false), [.t 4 false, .t 6 false], .t, none⟩,
           ⟨(.call 12), [.t 0 false, .t 1 false, .t 2 false, .t 7 false], .t, none⟩,
           ⟨.mv, [.t 8 false], (.v 14), none⟩] false)
         (.seq
          (.reg [
            ⟨.mv, [.v 11 false], .t, none⟩,
            ⟨(.call 10), [.t 0 false], .t, none⟩,
            ⟨.mv, [.t 1 false], (.v 15), none⟩] false)
          (.seq
           (.seq
            (.reg [
              ⟨.mv, [.v 12 false], .t, none⟩,
              ⟨(.bin .lss false), [.t 0 false, .c (.sc (.int .i64 0))], (.v 8), none⟩] false)
            (.cond (.v 8 false)
             (.seq
              (.reg [
                ⟨.mv, [.v 13 false], .t, none⟩,
                ⟨.mv, [.t 0 false], .t, none⟩,
                ⟨.mv, [.v 11 false], .t, (some (1, true))⟩,
                ⟨(.ldB 6 25 true false), [.v 6 false], .t, (some (1, true))⟩,
                ⟨(.call 17), [.t 3 false], .t, (some (1, true))⟩,
                ⟨(.bin .geq false), [.t 2 false, .t 4 false], .t, (some (1, true))⟩,
                ⟨.pick, [.t 1 false, .t 5 false, .c (.sc (.bool false))], .t, none⟩,
                ⟨.mv, [.t 6 false], .t, none⟩,
                ⟨.mv, [.v 14 false], .t, (some (7, true))⟩,
                ⟨(.bin .eql false), [.t 8 false, .c (.sc (.int .i64 (-1)))], .t, (some (7, true))⟩,
                ⟨.pick, [.t 7 false, .t 9 false, .c (.sc (.bool false))], .t, none⟩,
                ⟨.mv, [.t 10 false], (.v 7), none⟩] false)
              .ret)
             .skip))
           (.seq
            (.seq
             (.reg [
               ⟨.mv, [.v 15 false], .t, none⟩,
               ⟨(.bin .lss false), [.t 0 false, .c (.sc (.int .i64 4))], (.v 9), none⟩] false)
             (.cond (.v 9 false)
              (.seq
               (.reg [
                 ⟨.mv, [.c (.sc (.bool false))], (.v 7), none⟩] false)
               .ret)
              .skip))
            (.seq
             (.reg [
               ⟨.mv, [.v 13 false], .t, none⟩,
               ⟨.mv, [.t 0 false], .t, none⟩,
               ⟨.mv, [.v 11 false], .t, (some (1, true))⟩,
               ⟨(.ldB 6 25 true false), [.v 6 false], .t, (some (1, true))⟩,
               ⟨(.call 17), [.t 3 false], .t, (some (1, true))⟩,
               ⟨(.bin .lss false), [.t 2 false, .t 4 false], .t, (some (1, true))⟩,
               ⟨.pick, [.t 1 false, .t 5 false, .c (.sc (.bool false))], .t, none⟩,
               ⟨.mv, [.t 6 false], .t, none⟩,
               ⟨.mv, [.v 12 false], .t, (some (7, true))⟩,
               ⟨.mv, [.v 14 false], .t, (some (7, true))⟩,
               ⟨(.bin .eql false), [.t 8 false, .t 9 false], .t, (some (7, true))⟩,
               ⟨.mv, [.v 5 false], .t, (some (7, true))⟩,
               ⟨(.cvI .i64), [.t 11 false], .t, (some (7, true))⟩,
               ⟨.mv, [.v 15 false], .t, (some (7, true))⟩,
               ⟨(.bin .rem false), [.t 12 false, .t 13 false], .t, (some (7, true))⟩,
               ⟨(.bin .eql false), [.t 14 false, .c (.sc (.int .i64 0))], .t, (some (7, true))⟩,
               ⟨(.bin .eql true), [.t 10 false, .t 15 false], .t, (some (7, true))⟩,
               ⟨.pick, [.t 7 false, .t 16 false, .c (.sc (.bool false))], .t, none⟩,
               ⟨.mv, [.t 17 false], (.v 7), none⟩] false)
             .ret))))))))))) }

/-- underwood/underwoodlaw17.RingApart -/
def ir5 : FnIR := { np := 6, nv := 17, slots := [0, 1, 2, 3, 4, 5, 8, 9, 14, 12, 69, 15, 16, 17, 18, 13, 19], res := [.v 9], body :=
  (.seq
   (.reg [
     ⟨(.bx 2), [.v 2 false], (.v 6), none⟩,
     ⟨(.bx 2), [.v 3 false], (.v 7), none⟩,
     ⟨.mv, [.c (.sc (.bool false))], (.v 9), none⟩] false)
   (.seq
    (.reg [
      ⟨(.call 8), [], .t, none⟩,
      ⟨.mv, [.t 0 false], (.v 15), none⟩] false)
    (.seq
     (.reg [
       ⟨.mv, [.v 0 false], .t, none⟩,
       ⟨.mv, [.v 1 false], .t, none⟩,
       ⟨(.call 9), [.t 0 false, .t 1 false], .t, none⟩,
       ⟨(.bx 25), [.c (.agg [(.sc (.int .i64 0)), (.sc (.int .i64 0)), (.sc (.int .i64 0)), (.sc (.int .i64 0)), (.sc (.int .i64 0)), (.sc (.int .i64 0)), (.sc (.int .i64 0)), (.sc (.int .i64 0)), (.sc (.int .i64 0)), (.sc (.int .i64 0)), (.sc (.int .i64 0)), (.sc (.int .i64 0)), (.sc (.int .i64 0)), (.sc (.int .i64 0)), (.sc (.int .i64 0)), (.sc (.int .i64 0)), (.sc (.int .i64 0)), (.sc (.int .i64 0)), (.sc (.int .i64 0)), (.sc (.int .i64 0)), (.sc (.int .i64 0)), (.sc (.int .i64 0)), (.sc (.int .i64 0)), (.sc (.int .i64 0)), (.sc (.int .i64 0))])], (.v 8), none⟩,
       ⟨(.stB 8 25), [.v 8 false, .t 2 false], .none, none⟩] false)
     (.seq
      (.reg [
        ⟨.mv, [.v 0 false], .t, none⟩,
        ⟨(.bin .rem false), [.t 0 false, .c (.sc (.int .u8 3))], .t, none⟩,
        ⟨(.cvI .i64), [.t 1 false], .t, none⟩,
        ⟨(.bin .add false), [.c (.sc (.int .i64 1)), .t 2 false], .t, none⟩,
        ⟨.mv, [.t 3 false], (.v 11), none⟩] false)
      (.seq
       (.reg [
         ⟨(.iaB 6 2 1), [.v 6 false, .c (.sc (.int .i64 0))], .t, none⟩,
         ⟨(.ldB 6 1 false false), [.t 0 false, .v 6 false], .t, none⟩,
         ⟨(.cvI .i64), [.t 1 false], .t, none⟩,
         ⟨.mv, [.v 11 false], .t, none⟩,
         ⟨(.bin .rem false), [.t 2 false, .t 3 false], .t, none⟩,
         ⟨.mv, [.t 4 false], (.v 12), none⟩] false)
       (.seq
        (.reg [
          ⟨(.iaB 6 2 1), [.v 6 false, .c (.sc (.int .i64 1))], .t, none⟩,
          ⟨(.ldB 6 1 false false), [.t 0 false, .v 6 false], .t, none⟩,
          ⟨(.cvI .i64), [.t 1 false], .t, none⟩,
          ⟨.mv, [.v 11 false], .t, none⟩,
          ⟨(.bin .rem false), [.t 2 false, .t 3 false], .t, none⟩,
          ⟨.mv, [.t 4 false], (.v 13), none⟩] false)
        (.seq
         (.reg [
           ⟨(.ldB 8 25 true false), [.v 8 false], .t, none⟩,
           ⟨.mv, [.v 12 false], .t, none⟩,
           ⟨(.iaB 7 2 1), [.v 7 false, .c (.sc (.int .i64 0))], .t, none⟩,
           ⟨(.ldB 7 1 false false), [.t 2 false, .v 7 false], .t, none⟩,
           ⟨(.bin .rem false), [.t 3 false, .c (.sc (.int .u8 8))], .t, none⟩,
           ⟨(.cvI .i64), [.t 4 false], .t, none⟩,
           ⟨.mv, [.v 4 false], .t, none⟩,
           ⟨(.cvI .i64), [.t 6 false], .t, none⟩,
           ⟨(.call 12), [.t 0 false, .t 1 false, .t 5 false, .t 7 false], .t, none⟩,
           ⟨.mv, [.t 8 false], (.v 14), none⟩] false)
         (.seq
          (.reg [
            ⟨(.ldB 8 25 true false), [.v 8 false], .t, none⟩,
            ⟨.mv, [.v 13 false], .t, none⟩,
            ⟨(.iaB 7 2 1), [.v 7 false, .c (.sc (.int .i64 1))], .t, none⟩,
            ⟨(.ldB 7 1 false false), [.t 2 false, .v 7 false], .t, none⟩,
            ⟨(.bin .rem false), [.t 3 false, .c (.sc (.int .u8 8))], .t, none⟩,
            ⟨(.cvI .i64), [.t 4 false], .t, none⟩,
            ⟨.mv, [.v 5 false], .t, none⟩,
            ⟨(.cvI .i64), [.t 6 false], .t, none⟩,
            ⟨(.call 12), [.t 0 false, .t 1 false, .t 5 false, .t 7 false], .t, none⟩,
            ⟨.mv, [.t 8 false], (.v 16), none⟩] false)
          (.seq
           (.seq
            (.reg [
              ⟨.mv, [.v 14 false], .t, none⟩,
              ⟨(.bin .geq false), [.t 0 false, .c (.sc (.int .i64 0))], .t, none⟩,
              ⟨.mv, [.t 1 false], .t, none⟩,
              ⟨.mv, [.v 14 false], .t, (some (2, true))⟩,
              ⟨(.faB 8 17), [.v 8 false], .t, (some (2, true))⟩,
              ⟨(.ldB 8 1 false false), [.t 4 false, .v 8 false], .t, (some (2, true))⟩,
              ⟨(.bin .lss false), [.t 3 false, .t 5 false], .t, (some (2, true))⟩,
              ⟨.mv, [.t 6 false], .t, (some (2, true))⟩,
              ⟨.mv, [.v 14 false], .t, (some (7, false))⟩,
              ⟨(.faB 8 18), [.v 8 false], .t, (some (7, false))⟩,
              ⟨(.ldB 8 1 false false), [.t 9 false, .v 8 false], .t, (some (7, false))⟩,
              ⟨(.bin .geq false), [.t 8 false, .t 10 false], .t, (some (7, false))⟩,
              ⟨.pick, [.t 7 false, .c (.sc (.bool true)), .t 11 false], .t, (some (2, true))⟩,
              ⟨.pick, [.t 2 false, .t 12 false, .c (.sc (.bool false))], (.v 10), none⟩] false)
            (.cond (.v 10 false)
             (.seq
              (.reg [
                ⟨.mv, [.c (.sc (.bool false))], (.v 9), none⟩] false)
              .ret)
             .skip))
           (.seq
            (.reg [
              ⟨.mv, [.v 15 false], .t, none⟩,
              ⟨.mv, [.t 0 false], .t, none⟩,
              ⟨.mv, [.v 14 false], .t, (some (1, true))⟩,
              ⟨(.bin .lss false), [.t 2 false, .c (.sc (.int .i64 0))], .t, (some (1, true))⟩,
              ⟨.mv, [.t 3 false], .t, (some (1, true))⟩,
              ⟨.mv, [.v 16 false], .t, (some (4, false))⟩,
              ⟨(.bin .lss false), [.t 5 false, .c (.sc (.int .i64 0))], .t, (some (4, false))⟩,
              ⟨.pick, [.t 4 false, .c (.sc (.bool true)), .t 6 false], .t, (some (1, true))⟩,
              ⟨.mv, [.t 7 false], .t, (some (1, true))⟩,
              ⟨.mv, [.v 14 false], .t, (some (8, false))⟩,
              ⟨.mv, [.v 16 false], .t, (some (8, false))⟩,
              ⟨(.bin .neq false), [.t 9 false, .t 10 false], .t, (some (8, false))⟩,
              ⟨.pick, [.t 8 false, .c (.sc (.bool true)), .t 11 false], .t, (some (1, true))⟩,
              ⟨.mv, [.t 12 false], .t, (some (1, true))⟩,
              ⟨.mv, [.v 12 false], .t, (some (13, false))⟩,
              ⟨.mv, [.v 13 false], .t, (some (13, false))⟩,
              ⟨(.bin .eql false), [.t 14 false, .t 15 false], .t, (some (13, false))⟩,
              ⟨.mv, [.t 16 false], .t, (some (13, false))⟩,
              ⟨(.iaB 7 2 1), [.v 7 false, .c (.sc (.int .i64 0))], .t, (some (17, true))⟩,
              ⟨(.ldB 7 1 false false), [.t 18 false, .v 7 false], .t, (some (17, true))⟩,
              ⟨(.bin .rem false), [.t 19 false, .c (.sc (.int .u8 8))], .t, (some (17, true))⟩,
              ⟨(.iaB 7 2 1), [.v 7 false, .c (.sc (.int .i64 1))], .t, (some (17, true))⟩,
              ⟨(.ldB 7 1 false false), [.t 21 false, .v 7 false], .t, (some (17, true))⟩,
              ⟨(.bin .rem false), [.t 22 false, .c (.sc (.int .u8 8))], .t, (some (17, true))⟩,
              ⟨(.bin .eql false), [.t 20 false, .t 23 false], .t, (some (17, true))⟩,
              ⟨.pick, [.t 17 false, .t 24 false, .c (.sc (.bool false))], .t, (some (13, false))⟩,
              ⟨.pick, [.t 13 false, .c (.sc (.bool true)), .t 25 false], .t, (some (1, true))⟩,
              ⟨.pick, [.t 1 false, .t 26 false, .c (.sc (.bool false))], .t, none⟩,
              ⟨.mv, [.t 27 false], (.v 9), none⟩] false)
            .ret)))))))))) }

def ir6_l0 : IR :=
           (.seq
            (.seq
             (.reg [
               ⟨.mv, [.v 6 false], .t, none⟩,
               ⟨.mv, [.v 7 false], .t, none⟩,
               ⟨(.bin .lss false), [.t 0 false, .t 1 false], .t, none⟩,
               ⟨.mv, [.t 2 false], .t, none⟩,
               ⟨.mv, [.v 6 false], .t, (some (3, true))⟩,
               ⟨(.bin .lss false), [.t 4 false, .c (.sc (.int .i64 20))], .t, (some (3, true))⟩,
               ⟨.pick, [.t 3 false, .t 5 false, .c (.sc (.bool false))], (.v 4), none⟩] false)
             (.cond (.v 4 false)
              .skip
              (.exit 0)))
            (.seq
             (.block 1
              (.seq
               (.reg [
                 ⟨.mv, [.v 6 false], .t, none⟩,
                 ⟨(.call 10), [.t 0 false], .t, none⟩,
                 ⟨.mv, [.v 8 false], .t, none⟩,
                 ⟨(.bin .geq false), [.t 1 false, .t 2 false], .t, none⟩,
                 ⟨.mv, [.v 6 false], .t, none⟩,
                 ⟨.mv, [.v 7 false], .t, none⟩,
                 ⟨(.bin .sub false), [.t 5 false, .c (.sc (.int .i64 1))], .t, none⟩,
                 ⟨(.bin .eql false), [.t 4 false, .t 6 false], .t, none⟩,
                 ⟨(.bin .neq true), [.t 3 false, .t 7 false], .t, none⟩,
                 ⟨.mv, [.t 8 false], .t, none⟩,
                 ⟨.mv, [.v 6 false], .t, (some (9, false))⟩,
                 ⟨(.bin .gtr false), [.t 10 false, .c (.sc (.int .i64 0))], .t, (some (9, false))⟩,
                 ⟨.mv, [.t 11 false], .t, (some (9, false))⟩,
                 ⟨.mv, [.v 6 false], .t, (some (12, true))⟩,
                 ⟨(.call 10), [.t 13 false], .t, (some (12, true))⟩,
                 ⟨.mv, [.v 6 false], .t, (some (12, true))⟩,
                 ⟨(.bin .sub false), [.t 15 false, .c (.sc (.int .i64 1))], .t, (some (12, true))⟩,
                 ⟨(.call 10), [.t 16 false], .t, (some (12, true))⟩,
                 ⟨(.bin .mul false), [.c (.sc (.int .i64 2)), .t 17 false], .t, (some (12, true))⟩,
                 ⟨(.bin .neq false), [.t 14 false, .t 18 false], .t, (some (12, true))⟩,
                 ⟨.pick, [.t 12 false, .t 19 false, .c (.sc (.bool false))], .t, (some (9, false))⟩,
                 ⟨.pick, [.t 9 false, .c (.sc (.bool true)), .t 20 false], .t, none⟩,
                 ⟨.mv, [.t 21 false], .t, none⟩,
                 ⟨(.ldB 2 25 true false), [.v 2 false], .t, (some (22, false))⟩,
                 ⟨.mv, [.v 6 false], .t, (some (22, false))⟩,
                 ⟨(.call 12), [.t 23 false, .c (.sc (.int .i64 0)), .t 24 false, .c (.sc (.int .i64 0))], .t, (some (22, false))⟩,
                 ⟨(.bin .lss false), [.t 25 false, .c (.sc (.int .i64 0))], .t, (some (22, false))⟩,
                 ⟨.pick, [.t 22 false, .c (.sc (.bool true)), .t 26 false], (.v 5), none⟩] false)
               (.cond (.v 5 false)
                (.seq
                 (.reg [
                   ⟨.mv, [.c (.sc (.bool false))], (.v 3), none⟩] false)
                 .ret)
                .skip)))
             (.reg [
               ⟨.mv, [.v 6 false], .t, none⟩,
               ⟨(.bin .add false), [.t 0 false, .c (.sc (.int .i64 1))], .t, none⟩,
               ⟨.mv, [.t 1 false], (.v 6), none⟩] false)))

/-- underwood/underwoodlaw17.RingEnough -/
def ir6 : FnIR := { np := 2, nv := 10, slots := [0, 1, 6, 4, 26, 56, 9, 7, 8, 5], res := [.v 3], body :=
  (.seq
   (.reg [
     ⟨.mv, [.c (.sc (.bool false))], (.v 3), none⟩] false)
   (.seq
    (.reg [
      ⟨(.call 8), [], .t, none⟩,
      ⟨.mv, [.t 0 false], (.v 9), none⟩] false)
    (.seq
     (.reg [
       ⟨.mv, [.v 0 false], .t, none⟩,
       ⟨.mv, [.v 1 false], .t, none⟩,
       ⟨(.call 9), [.t 0 false, .t 1 false], .t, none⟩,
       ⟨(.bx 25), [.c (.agg [(.sc (.int .i64 0)), (.sc (.int .i64 0)), (.sc (.int .i64 0)), (.sc (.int .i64 0)), (.sc (.int .i64 0)), (.sc (.int .i64 0)), (.sc (.int .i64 0)), (.sc (.int .i64 0)), (.sc (.int .i64 0)), (.sc (.int .i64 0)), (.sc (.int .i64 0)), (.sc (.int .i64 0)), (.sc (.int .i64 0)), (.sc (.int .i64 0)), (.sc (.int .i64 0)), (.sc (.int .i64 0)), (.sc (.int .i64 0)), (.sc (.int .i64 0)), (.sc (.int .i64 0)), (.sc (.int .i64 0)), (.sc (.int .i64 0)), (.sc (.int .i64 0)), (.sc (.int .i64 0)), (.sc (.int .i64 0)), (.sc (.int .i64 0))])], (.v 2), none⟩,
       ⟨(.stB 2 25), [.v 2 false, .t 2 false], .none, none⟩] false)
     (.seq
      (.reg [
        ⟨(.ldB 2 25 true false), [.v 2 false], .t, none⟩,
        ⟨(.call 17), [.t 0 false], .t, none⟩,
        ⟨.mv, [.t 1 false], (.v 7), none⟩] false)
      (.seq
       (.reg [
         ⟨.mv, [.v 1 false], .t, none⟩,
         ⟨(.bin .rem false), [.t 0 false, .c (.sc (.int .u8 64))], .t, none⟩,
         ⟨(.cvI .i64), [.t 1 false], .t, none⟩,
         ⟨(.bin .add false), [.c (.sc (.int .i64 1)), .t 2 false], .t, none⟩,
         ⟨.mv, [.t 3 false], (.v 8), none⟩] false)
       (.seq
        (.seq
         (.reg [
           ⟨.mv, [.c (.sc (.int .i64 0))], (.v 6), none⟩] false)
         (.block 0
          (.loop ir6_l0)))
        (.seq
         (.reg [
           ⟨.mv, [.v 9 false], .t, none⟩,
           ⟨.mv, [.t 0 false], .t, none⟩,
           ⟨.mv, [.v 7 false], .t, (some (1, true))⟩,
           ⟨(.bin .geq false), [.t 2 false, .c (.sc (.int .i64 1))], .t, (some (1, true))⟩,
           ⟨.pick, [.t 1 false, .t 3 false, .c (.sc (.bool false))], .t, none⟩,
           ⟨.mv, [.t 4 false], .t, none⟩,
           ⟨.mv, [.v 7 false], .t, (some (5, true))⟩,
           ⟨(.bin .leq false), [.t 6 false, .c (.sc (.int .i64 5))], .t, (some (5, true))⟩,
           ⟨.pick, [.t 5 false, .t 7 false, .c (.sc (.bool false))], .t, none⟩,
           ⟨.mv, [.t 8 false], .t, none⟩,
           ⟨(.ldB 2 25 true false), [.v 2 false], .t, (some (9, true))⟩,
           ⟨.mv, [.v 7 false], .t, (some (9, true))⟩,
           ⟨(.call 12), [.t 10 false, .c (.sc (.int .i64 0)), .t 11 false, .c (.sc (.int .i64 0))], .t, (some (9, true))⟩,
           ⟨(.bin .eql false), [.t 12 false, .c (.sc (.int .i64 (-1)))], .t, (some (9, true))⟩,
           ⟨.pick, [.t 9 false, .t 13 false, .c (.sc (.bool false))], .t, none⟩,
           ⟨.mv, [.t 14 false], (.v 3), none⟩] false)
         .ret))))))) }

def ir7_l1 : IR :=
                         (.seq
                          (.seq
                           (.reg [
                             ⟨.mv, [.v 27 false], .t, none⟩,
                             ⟨.mv, [.v 26 false], .t, none⟩,
                             ⟨.len, [.t 1 false], .t, none⟩,
                             ⟨(.bin .lss false), [.t 0 false, .t 2 false], (.v 15), none⟩] false)
                           (.cond (.v 15 false)
                            .skip
                            (.exit 2)))
                          (.seq
                           (.block 3
                            (.seq
                             (.seq
                              (.reg [
                                ⟨.mv, [.v 26 false], .t, none⟩,
                                ⟨.mv, [.v 27 false], .t, none⟩,
                                ⟨(.ia 2), [.t 0 false, .t 1 false], .t, none⟩,
                                ⟨(.iaA 2 1), [.t 2 false, .c (.sc (.int .i64 0))], .t, none⟩,
                                ⟨(.ldP 1 false false), [.t 3 false], .t, none⟩,
                                ⟨(.bin .lss false), [.t 4 false, .c (.sc (.int .i64 0))], .t, none⟩,
                                ⟨.mv, [.t 5 false], .t, none⟩,
                                ⟨.mv, [.v 26 false], .t, (some (6, false))⟩,
                                ⟨.mv, [.v 27 false], .t, (some (6, false))⟩,
                                ⟨(.ia 2), [.t 7 false, .t 8 false], .t, (some (6, false))⟩,
                                ⟨(.iaA 2 1), [.t 9 false, .c (.sc (.int .i64 0))], .t, (some (6, false))⟩,
                                ⟨(.ldP 1 false false), [.t 10 false], .t, (some (6, false))⟩,
                                ⟨.mv, [.v 21 false], .t, (some (6, false))⟩,
                                ⟨.len, [.t 12 false], .t, (some (6, false))⟩,
                                ⟨(.bin .geq false), [.t 11 false, .t 13 false], .t, (some (6, false))⟩,
                                ⟨.pick, [.t 6 false, .c (.sc (.bool true)), .t 14 false], .t, none⟩,
                                ⟨.mv, [.t 15 false], .t, none⟩,
                                ⟨.mv, [.v 26 false], .t, (some (16, false))⟩,
                                ⟨.mv, [.v 27 false], .t, (some (16, false))⟩,
                                ⟨(.ia 2), [.t 17 false, .t 18 false], .t, (some (16, false))⟩,
                                ⟨(.iaA 2 1), [.t 19 false, .c (.sc (.int .i64 1))], .t, (some (16, false))⟩,
                                ⟨(.ldP 1 false false), [.t 20 false], .t, (some (16, false))⟩,
                                ⟨(.bin .lss false), [.t 21 false, .c (.sc (.int .i64 0))], .t, (some (16, false))⟩,
                                ⟨.pick, [.t 16 false, .c (.sc (.bool true)), .t 22 false], .t, none⟩,
                                ⟨.mv, [.t 23 false], .t, none⟩,
                                ⟨.mv, [.v 26 false], .t, (some (24, false))⟩,
                                ⟨.mv, [.v 27 false], .t, (some (24, false))⟩,
                                ⟨(.ia 2), [.t 25 false, .t 26 false], .t, (some (24, false))⟩,
                                ⟨(.iaA 2 1), [.t 27 false, .c (.sc (.int .i64 1))], .t, (some (24, false))⟩,
                                ⟨(.ldP 1 false false), [.t 28 false], .t, (some (24, false))⟩,
                                ⟨.mv, [.v 21 false], .t, (some (24, false))⟩,
                                ⟨.len, [.t 30 false], .t, (some (24, false))⟩,
                                ⟨(.bin .geq false), [.t 29 false, .t 31 false], .t, (some (24, false))⟩,
                                ⟨.pick, [.t 24 false, .c (.sc (.bool true)), .t 32 false], (.v 16), none⟩] false)
                              (.cond (.v 16 false)
                               (.seq
                                (.reg [
                                  ⟨.mv, [.c (.sc (.bool false))], (.v 7), none⟩] false)
                                .ret)
                               .skip))
                             (.reg [
                               ⟨.mv, [.v 21 false], .t, none⟩,
                               ⟨.mv, [.v 26 false], .t, none⟩,
                               ⟨.mv, [.v 27 false], .t, none⟩,
                               ⟨(.ia 2), [.t 1 false, .t 2 false], .t, none⟩,
                               ⟨(.iaA 2 1), [.t 3 false, .c (.sc (.int .i64 1))], .t, none⟩,
                               ⟨(.ldP 1 false false), [.t 4 false], .t, none⟩,
                               ⟨.mv, [.v 21 false], .t, none⟩,
                               ⟨.mv, [.v 26 false], .t, none⟩,
                               ⟨.mv, [.v 27 false], .t, none⟩,
                               ⟨(.ia 2), [.t 7 false, .t 8 false], .t, none⟩,
                               ⟨(.iaA 2 1), [.t 9 false, .c (.sc (.int .i64 0))], .t, none⟩,
                               ⟨(.ldP 1 false false), [.t 10 false], .t, none⟩,
                               ⟨(.ia 1), [.t 6 false, .t 11 false], .t, none⟩,
                               ⟨(.ldP 1 false false), [.t 12 false], .t, none⟩,
                               ⟨(.ia 1), [.t 0 false, .t 5 false], .t, none⟩,
                               ⟨(.stP 1), [.t 14 false, .t 13 false], .none, none⟩] true)))
                           (.reg [
                             ⟨.mv, [.v 27 false], .t, none⟩,
                             ⟨(.bin .add false), [.t 0 false, .c (.sc (.int .i64 1))], .t, none⟩,
                             ⟨.mv, [.t 1 false], (.v 27), none⟩] false)))

def ir7_l0 : IR :=
                   (.seq
                    (.seq
                     (.reg [
                       ⟨.mv, [.v 23 false], .t, none⟩,
                       ⟨.mv, [.v 5 false], .t, none⟩,
                       ⟨.len, [.t 1 false], .t, none⟩,
                       ⟨(.bin .lss false), [.t 0 false, .t 2 false], (.v 10), none⟩] false)
                     (.cond (.v 10 false)
                      .skip
                      (.exit 0)))
                    (.seq
                     (.block 1
                      (.seq
                       (.reg [
                         ⟨(.ldB 6 25 true false), [.v 6 false], .t, none⟩,
                         ⟨.mv, [.v 19 false], .t, none⟩,
                         ⟨.mv, [.v 17 false], .t, none⟩,
                         ⟨.mv, [.v 22 false], .t, none⟩,
                         ⟨.mv, [.v 23 false], .t, none⟩,
                         ⟨(.bin .add false), [.t 3 false, .t 4 false], .t, none⟩,
                         ⟨(.call 12), [.t 0 false, .t 1 false, .t 2 false, .t 5 false], .t, none⟩,
                         ⟨.mv, [.t 6 false], (.v 24), none⟩] false)
                       (.seq
                        (.seq
                         (.reg [
                           ⟨.mv, [.v 24 false], .t, none⟩,
                           ⟨(.bin .lss false), [.t 0 false, .c (.sc (.int .i64 0))], .t, none⟩,
                           ⟨.mv, [.t 1 false], .t, none⟩,
                           ⟨.mv, [.v 24 false], .t, (some (2, false))⟩,
                           ⟨.mv, [.v 21 false], .t, (some (2, false))⟩,
                           ⟨.len, [.t 4 false], .t, (some (2, false))⟩,
                           ⟨(.bin .geq false), [.t 3 false, .t 5 false], .t, (some (2, false))⟩,
                           ⟨.pick, [.t 2 false, .c (.sc (.bool true)), .t 6 false], (.v 11), none⟩] false)
                         (.cond (.v 11 false)
                          (.seq
                           (.reg [
                             ⟨.mv, [.c (.sc (.bool false))], (.v 7), none⟩] false)
                           .ret)
                          .skip))
                        (.reg [
                          ⟨.mv, [.v 21 false], .t, none⟩,
                          ⟨.mv, [.v 24 false], .t, none⟩,
                          ⟨.mv, [.v 5 false], .t, none⟩,
                          ⟨.mv, [.v 23 false], .t, none⟩,
                          ⟨(.ia 1), [.t 2 false, .t 3 false], .t, none⟩,
                          ⟨(.ldP 1 false false), [.t 4 false], .t, none⟩,
                          ⟨(.ia 1), [.t 0 false, .t 1 false], .t, none⟩,
                          ⟨(.stP 1), [.t 6 false, .t 5 false], .none, none⟩] false))))
                     (.reg [
                       ⟨.mv, [.v 23 false], .t, none⟩,
                       ⟨(.bin .add false), [.t 0 false, .c (.sc (.int .i64 1))], .t, none⟩,
                       ⟨.mv, [.t 1 false], (.v 23), none⟩] false)))

/-- underwood/underwoodlaw17.RingMoves -/
def ir7 : FnIR := { np := 6, nv := 28, slots := [0, 1, 2, 3, 4, 5, 14, 12, 61, 79, 100, 117, 133, 147, 158, 162, 198, 16, 13, 15, 19, 17, 18, 20, 21, 22, 23, 24], res := [.v 7], body :=
  (.seq
   (.reg [
     ⟨.mv, [.c (.sc (.bool false))], (.v 7), none⟩] false)
   (.seq
    (.reg [
      ⟨(.call 8), [], .t, none⟩,
      ⟨.mv, [.t 0 false], (.v 18), none⟩] false)
    (.seq
     (.reg [
       ⟨.mv, [.v 0 false], .t, none⟩,
       ⟨.mv, [.v 1 false], .t, none⟩,
       ⟨(.call 9), [.t 0 false, .t 1 false], .t, none⟩,
       ⟨(.bx 25), [.c (.agg [(.sc (.int .i64 0)), (.sc (.int .i64 0)), (.sc (.int .i64 0)), (.sc (.int .i64 0)), (.sc (.int .i64 0)), (.sc (.int .i64 0)), (.sc (.int .i64 0)), (.sc (.int .i64 0)), (.sc (.int .i64 0)), (.sc (.int .i64 0)), (.sc (.int .i64 0)), (.sc (.int .i64 0)), (.sc (.int .i64 0)), (.sc (.int .i64 0)), (.sc (.int .i64 0)), (.sc (.int .i64 0)), (.sc (.int .i64 0)), (.sc (.int .i64 0)), (.sc (.int .i64 0)), (.sc (.int .i64 0)), (.sc (.int .i64 0)), (.sc (.int .i64 0)), (.sc (.int .i64 0)), (.sc (.int .i64 0)), (.sc (.int .i64 0))])], (.v 6), none⟩,
       ⟨(.stB 6 25), [.v 6 false, .t 2 false], .none, none⟩] false)
     (.seq
      (.reg [
        ⟨.mv, [.v 2 false], .t, none⟩,
        ⟨(.cvI .i64), [.t 0 false], .t, none⟩,
        ⟨.mv, [.v 0 false], .t, none⟩,
        ⟨(.bin .rem false), [.t 2 false, .c (.sc (.int .u8 3))], .t, none⟩,
        ⟨(.cvI .i64), [.t 3 false], .t, none⟩,
        ⟨(.bin .add false), [.c (.sc (.int .i64 1)), .t 4 false], .t, none⟩,
        ⟨(.bin .rem false), [.t 1 false, .t 5 false], .t, none⟩,
        ⟨.mv, [.t 6 false], (.v 19), none⟩] false)
      (.seq
       (.reg [
         ⟨.mv, [.v 3 false], .t, none⟩,
         ⟨(.cvI .i64), [.t 0 false], .t, none⟩,
         ⟨(.ldB 6 25 true false), [.v 6 false], .t, none⟩,
         ⟨(.call 17), [.t 2 false], .t, none⟩,
         ⟨.max, [.c (.sc (.int .i64 1)), .t 3 false], .t, none⟩,
         ⟨(.bin .rem false), [.t 1 false, .t 4 false], .t, none⟩,
         ⟨.mv, [.t 5 false], (.v 17), none⟩] false)
       (.seq
        (.seq
         (.reg [
           ⟨.mv, [.v 5 false], .t, none⟩,
           ⟨.len, [.t 0 false], .t, none⟩,
           ⟨(.bin .gtr false), [.t 1 false, .c (.sc (.int .i64 70))], .t, none⟩,
           ⟨.mv, [.t 2 false], .t, none⟩,
           ⟨.mv, [.v 5 false], .t, (some (3, false))⟩,
           ⟨.len, [.t 4 false], .t, (some (3, false))⟩,
           ⟨.mv, [.v 17 false], .t, (some (3, false))⟩,
           ⟨(.call 10), [.t 6 false], .t, (some (3, false))⟩,
           ⟨(.bin .gtr false), [.t 5 false, .t 7 false], .t, (some (3, false))⟩,
           ⟨.pick, [.t 3 false, .c (.sc (.bool true)), .t 8 false], .t, none⟩,
           ⟨.mv, [.t 9 false], .t, none⟩,
           ⟨(.faB 6 24), [.v 6 false], .t, (some (10, false))⟩,
           ⟨(.ldB 6 1 false false), [.t 11 false, .v 6 false], .t, (some (10, false))⟩,
           ⟨(.bin .lss false), [.t 12 false, .c (.sc (.int .i64 1))], .t, (some (10, false))⟩,
           ⟨.pick, [.t 10 false, .c (.sc (.bool true)), .t 13 false], .t, none⟩,
           ⟨.mv, [.t 14 false], .t, none⟩,
           ⟨(.faB 6 24), [.v 6 false], .t, (some (15, false))⟩,
           ⟨(.ldB 6 1 false false), [.t 16 false, .v 6 false], .t, (some (15, false))⟩,
           ⟨(.bin .gtr false), [.t 17 false, .c (.sc (.int .i64 5000))], .t, (some (15, false))⟩,
           ⟨.pick, [.t 15 false, .c (.sc (.bool true)), .t 18 false], (.v 8), none⟩] false)
         (.cond (.v 8 false)
          (.seq
           (.reg [
             ⟨.mv, [.v 18 false], .t, none⟩,
             ⟨.mv, [.t 0 false], (.v 7), none⟩] false)
           .ret)
          .skip))
        (.seq
         (.reg [
           ⟨(.faB 6 24), [.v 6 false], .t, none⟩,
           ⟨(.ldB 6 1 false false), [.t 0 false, .v 6 false], .t, none⟩,
           ⟨(.mkSl 1 8 false [(.sc (.int .i64 0))]), [.t 1 false, .t 1 false], .t, none⟩,
           ⟨.mv, [.t 2 true], (.v 21), none⟩] false)
         (.seq
          (.reg [
            ⟨.mv, [.v 4 false], .t, none⟩,
            ⟨(.cvI .i64), [.t 0 false], .t, none⟩,
            ⟨.mv, [.t 1 false], (.v 22), none⟩] false)
          (.seq
           (.reg [
             ⟨(.ldB 6 25 true false), [.v 6 false], .t, none⟩,
             ⟨.mv, [.v 19 false], .t, none⟩,
             ⟨(.call 18), [.t 0 false, .t 1 false, .c (.sc (.int .i64 0))], .t, none⟩,
             ⟨.mv, [.t 2 false], (.v 20), none⟩] false)
           (.seq
            (.seq
             (.reg [
               ⟨.mv, [.v 20 false], .t, none⟩,
               ⟨(.bin .lss false), [.t 0 false, .c (.sc (.int .i64 0))], .t, none⟩,
               ⟨.mv, [.t 1 false], .t, none⟩,
               ⟨.mv, [.v 20 false], .t, (some (2, false))⟩,
               ⟨(.bin .add false), [.t 3 false, .c (.sc (.int .i64 2))], .t, (some (2, false))⟩,
               ⟨.mv, [.v 21 false], .t, (some (2, false))⟩,
               ⟨.len, [.t 5 false], .t, (some (2, false))⟩,
               ⟨(.bin .geq false), [.t 4 false, .t 6 false], .t, (some (2, false))⟩,
               ⟨.pick, [.t 2 false, .c (.sc (.bool true)), .t 7 false], (.v 9), none⟩] false)
             (.cond (.v 9 false)
              (.seq
               (.reg [
                 ⟨.mv, [.c (.sc (.bool false))], (.v 7), none⟩] false)
               .ret)
              .skip))
            (.seq
             (.reg [
               ⟨.mv, [.v 21 false], .t, none⟩,
               ⟨.mv, [.v 20 false], .t, none⟩,
               ⟨.mv, [.v 22 false], .t, none⟩,
               ⟨(.ia 1), [.t 0 false, .t 1 false], .t, none⟩,
               ⟨(.stP 1), [.t 3 false, .t 2 false], .none, none⟩] false)
             (.seq
              (.reg [
                ⟨.mv, [.v 21 false], .t, none⟩,
                ⟨.mv, [.v 20 false], .t, none⟩,
                ⟨(.bin .add false), [.t 1 false, .c (.sc (.int .i64 1))], .t, none⟩,
                ⟨.mv, [.v 22 false], .t, none⟩,
                ⟨.mv, [.v 5 false], .t, none⟩,
                ⟨.len, [.t 4 false], .t, none⟩,
                ⟨(.bin .add false), [.t 3 false, .t 5 false], .t, none⟩,
                ⟨(.ia 1), [.t 0 false, .t 2 false], .t, none⟩,
                ⟨(.stP 1), [.t 7 false, .t 6 false], .none, none⟩] false)
              (.seq
               (.reg [
                 ⟨.mv, [.v 21 false], .t, none⟩,
                 ⟨.mv, [.v 20 false], .t, none⟩,
                 ⟨(.bin .add false), [.t 1 false, .c (.sc (.int .i64 2))], .t, none⟩,
                 ⟨.mv, [.v 17 false], .t, none⟩,
                 ⟨(.ia 1), [.t 0 false, .t 2 false], .t, none⟩,
                 ⟨(.stP 1), [.t 4 false, .t 3 false], .none, none⟩] false)
               (.seq
                (.seq
                 (.reg [
                   ⟨.mv, [.c (.sc (.int .i64 0))], (.v 23), none⟩] false)
                 (.block 0
                  (.loop ir7_l0)))
                (.seq
                 (.reg [
                   ⟨(.ldB 6 25 true false), [.v 6 false], .t, none⟩,
                   ⟨.mv, [.v 21 false], .t, none⟩,
                   ⟨(.build [(.sl .full 1 [])] [(0, 1)]), [.t 1 true], .t, none⟩,
                   ⟨.mv, [.v 19 false], .t, none⟩,
                   ⟨(.call 19), [.t 0 false, .t 2 false, .t 3 false], .t, none⟩,
                   ⟨.mv, [.t 4 true], (.v 25), none⟩] false)
                 (.seq
                  (.seq
                   (.reg [
                     ⟨.mv, [.v 25 true], .t, none⟩,
                     ⟨.mv, [.v 5 false], .t, none⟩,
                     ⟨(.call 20), [.t 0 false, .t 1 false], .t, none⟩,
                     ⟨(.un .not), [.t 2 false], (.v 12), none⟩] false)
                   (.cond (.v 12 false)
                    (.seq
                     (.reg [
                       ⟨.mv, [.c (.sc (.bool false))], (.v 7), none⟩] false)
                     .ret)
                    .skip))
                  (.seq
                   (.reg [
                     ⟨(.ldB 6 25 true false), [.v 6 false], .t, none⟩,
                     ⟨.mv, [.v 19 false], .t, none⟩,
                     ⟨.mv, [.v 17 false], .t, none⟩,
                     ⟨.mv, [.v 22 false], .t, none⟩,
                     ⟨.mv, [.v 22 false], .t, none⟩,
                     ⟨.mv, [.v 5 false], .t, none⟩,
                     ⟨.len, [.t 5 false], .t, none⟩,
                     ⟨(.bin .add false), [.t 4 false, .t 6 false], .t, none⟩,
                     ⟨(.call 15), [.t 0 false, .t 1 false, .t 2 false, .t 3 false, .t 7 false], .t, none⟩,
                     ⟨.mv, [.t 8 true], (.v 26), none⟩] false)
                   (.seq
                    (.seq
                     (.reg [
                       ⟨.mv, [.v 17 false], .t, none⟩,
                       ⟨(.bin .add false), [.t 0 false, .c (.sc (.int .i64 1))], .t, none⟩,
                       ⟨(.ldB 6 25 true false), [.v 6 false], .t, none⟩,
                       ⟨(.call 17), [.t 2 false], .t, none⟩,
                       ⟨(.bin .geq false), [.t 1 false, .t 3 false], (.v 13), none⟩] false)
                     (.cond (.v 13 false)
                      (.seq
                       (.reg [
                         ⟨.mv, [.v 18 false], .t, none⟩,
                         ⟨.mv, [.t 0 false], .t, none⟩,
                         ⟨.mv, [.v 26 true], .t, (some (1, true))⟩,
                         ⟨.len, [.t 2 false], .t, (some (1, true))⟩,
                         ⟨(.bin .eql false), [.t 3 false, .c (.sc (.int .i64 0))], .t, (some (1, true))⟩,
                         ⟨.pick, [.t 1 false, .t 4 false, .c (.sc (.bool false))], .t, none⟩,
                         ⟨.mv, [.t 5 false], (.v 7), none⟩] false)
                       .ret)
                      .skip))
                    (.seq
                     (.seq
                      (.reg [
                        ⟨.mv, [.v 26 false], .t, none⟩,
                        ⟨.len, [.t 0 false], .t, none⟩,
                        ⟨.mv, [.v 5 false], .t, none⟩,
                        ⟨.len, [.t 2 false], .t, none⟩,
                        ⟨(.bin .neq false), [.t 1 false, .t 3 false], (.v 14), none⟩] false)
                      (.cond (.v 14 false)
                       (.seq
                        (.reg [
                          ⟨.mv, [.c (.sc (.bool false))], (.v 7), none⟩] false)
                        .ret)
                       .skip))
                     (.seq
                      (.seq
                       (.reg [
                         ⟨.mv, [.c (.sc (.int .i64 0))], (.v 27), none⟩] false)
                       (.block 2
                        (.loop ir7_l1)))
                      (.seq
                       (.reg [
                         ⟨.mv, [.v 21 false], .t, none⟩,
                         ⟨.mv, [.v 20 false], .t, none⟩,
                         ⟨(.bin .add false), [.t 1 false, .c (.sc (.int .i64 2))], .t, none⟩,
                         ⟨.mv, [.v 17 false], .t, none⟩,
                         ⟨(.bin .add false), [.t 3 false, .c (.sc (.int .i64 1))], .t, none⟩,
                         ⟨(.ia 1), [.t 0 false, .t 2 false], .t, none⟩,
                         ⟨(.stP 1), [.t 5 false, .t 4 false], .none, none⟩] false)
                       (.seq
                        (.reg [
                          ⟨.mv, [.v 18 false], .t, none⟩,
                          ⟨.mv, [.t 0 false], .t, none⟩,
                          ⟨(.ldB 6 25 true false), [.v 6 false], .t, (some (1, true))⟩,
                          ⟨.mv, [.v 21 true], .t, (some (1, true))⟩,
                          ⟨(.build [(.sl .full 1 [])] [(0, 1)]), [.t 3 true], .t, (some (1, true))⟩,
                          ⟨.mv, [.v 19 false], .t, (some (1, true))⟩,
                          ⟨(.call 19), [.t 2 false, .t 4 false, .t 5 false], .t, (some (1, true))⟩,
                          ⟨.mv, [.v 5 true], .t, (some (1, true))⟩,
                          ⟨(.call 20), [.t 6 false, .t 7 false], .t, (some (1, true))⟩,
                          ⟨.pick, [.t 1 false, .t 8 false, .c (.sc (.bool false))], .t, none⟩,
                          ⟨.mv, [.t 9 false], (.v 7), none⟩] false)
                        .ret)))))))))))))))))))))) }

/-- underwood/underwoodlaw17.awake -/
def ir8 : FnIR := { np := 0, nv := 6, slots := [1, 0, 10, 2, 3, 4], res := [.v 1], body :=
  (.seq
   (.reg [
     ⟨.mv, [.c (.sc (.bool false))], (.v 1), none⟩] false)
   (.seq
    (.reg [
      ⟨(.call 9), [.c (.sc (.int .u8 0)), .c (.sc (.int .u8 20))], .t, none⟩,
      ⟨(.bx 25), [.c (.agg [(.sc (.int .i64 0)), (.sc (.int .i64 0)), (.sc (.int .i64 0)), (.sc (.int .i64 0)), (.sc (.int .i64 0)), (.sc (.int .i64 0)), (.sc (.int .i64 0)), (.sc (.int .i64 0)), (.sc (.int .i64 0)), (.sc (.int .i64 0)), (.sc (.int .i64 0)), (.sc (.int .i64 0)), (.sc (.int .i64 0)), (.sc (.int .i64 0)), (.sc (.int .i64 0)), (.sc (.int .i64 0)), (.sc (.int .i64 0)), (.sc (.int .i64 0)), (.sc (.int .i64 0)), (.sc (.int .i64 0)), (.sc (.int .i64 0)), (.sc (.int .i64 0)), (.sc (.int .i64 0)), (.sc (.int .i64 0)), (.sc (.int .i64 0))])], (.v 0), none⟩,
      ⟨(.stB 0 25), [.v 0 false, .t 0 false], .none, none⟩] false)
    (.seq
     (.reg [
       ⟨(.ldB 0 25 true false), [.v 0 false], .t, none⟩,
       ⟨(.call 15), [.t 0 false, .c (.sc (.int .i64 0)), .c (.sc (.int .i64 0)), .c (.sc (.int .i64 3)), .c (.sc (.int .i64 5))], .t, none⟩,
       ⟨.mv, [.t 1 true], (.v 3), none⟩] false)
     (.seq
      (.seq
       (.reg [
         ⟨.mv, [.v 3 false], .t, none⟩,
         ⟨.len, [.t 0 false], .t, none⟩,
         ⟨(.bin .neq false), [.t 1 false, .c (.sc (.int .i64 2))], (.v 2), none⟩] false)
       (.cond (.v 2 false)
        (.seq
         (.reg [
           ⟨.mv, [.c (.sc (.bool false))], (.v 1), none⟩] false)
         .ret)
        .skip))
      (.seq
       (.reg [
         ⟨(.ldB 0 25 true false), [.v 0 false], .t, none⟩,
         ⟨(.call 21), [.t 0 false, .c (.sc (.int .i64 0)), .c (.sc (.int .i64 0))], .t, none⟩,
         ⟨.mv, [.t 1 false], (.v 4), none⟩] false)
       (.seq
        (.reg [
          ⟨(.ldB 0 25 true false), [.v 0 false], .t, none⟩,
          ⟨(.call 21), [.t 0 false, .c (.sc (.int .i64 0)), .c (.sc (.int .i64 1))], .t, none⟩,
          ⟨.mv, [.t 1 false], (.v 5), none⟩] false)
        (.seq
         (.reg [
           ⟨(.call 10), [.c (.sc (.int .i64 0))], .t, none⟩,
           ⟨(.bin .eql false), [.t 0 false, .c (.sc (.int .i64 4))], .t, none⟩,
           ⟨.mv, [.t 1 false], .t, none⟩,
           ⟨(.call 10), [.c (.sc (.int .i64 1))], .t, (some (2, true))⟩,
           ⟨(.bin .eql false), [.t 3 false, .c (.sc (.int .i64 8))], .t, (some (2, true))⟩,
           ⟨.pick, [.t 2 false, .t 4 false, .c (.sc (.bool false))], .t, none⟩,
           ⟨.mv, [.t 5 false], .t, none⟩,
           ⟨(.call 10), [.c (.sc (.int .i64 2))], .t, (some (6, true))⟩,
           ⟨(.bin .eql false), [.t 7 false, .c (.sc (.int .i64 16))], .t, (some (6, true))⟩,
           ⟨.pick, [.t 6 false, .t 8 false, .c (.sc (.bool false))], .t, none⟩,
           ⟨.mv, [.t 9 false], .t, none⟩,
           ⟨(.ldB 0 25 true false), [.v 0 false], .t, (some (10, true))⟩,
           ⟨(.call 12), [.t 11 false, .c (.sc (.int .i64 0)), .c (.sc (.int .i64 0)), .c (.sc (.int .i64 5))], .t, (some (10, true))⟩,
           ⟨.mv, [.v 4 false], .t, (some (10, true))⟩,
           ⟨(.bin .add false), [.t 13 false, .c (.sc (.int .i64 1))], .t, (some (10, true))⟩,
           ⟨(.bin .eql false), [.t 12 false, .t 14 false], .t, (some (10, true))⟩,
           ⟨.pick, [.t 10 false, .t 15 false, .c (.sc (.bool false))], .t, none⟩,
           ⟨.mv, [.t 16 false], .t, none⟩,
           ⟨(.ldB 0 25 true false), [.v 0 false], .t, (some (17, true))⟩,
           ⟨(.call 12), [.t 18 false, .c (.sc (.int .i64 0)), .c (.sc (.int .i64 9)), .c (.sc (.int .i64 5))], .t, (some (17, true))⟩,
           ⟨(.bin .eql false), [.t 19 false, .c (.sc (.int .i64 (-1)))], .t, (some (17, true))⟩,
           ⟨.pick, [.t 17 false, .t 20 false, .c (.sc (.bool false))], .t, none⟩,
           ⟨.mv, [.t 21 false], .t, none⟩,
           ⟨.mv, [.v 3 false], .t, (some (22, true))⟩,
           ⟨(.ia 2), [.t 23 false, .c (.sc (.int .i64 0))], .t, (some (22, true))⟩,
           ⟨(.ldP 2 true false), [.t 24 false], .t, (some (22, true))⟩,
           ⟨.mv, [.v 4 false], .t, (some (22, true))⟩,
           ⟨(.bin .add false), [.t 26 false, .c (.sc (.int .i64 3))], .t, (some (22, true))⟩,
           ⟨.mv, [.v 5 false], .t, (some (22, true))⟩,
           ⟨(.bin .add false), [.t 28 false, .c (.sc (.int .i64 3))], .t, (some (22, true))⟩,
           ⟨(.build [(.sc (.int .i64 0)), (.sc (.int .i64 0))] [(0, 1), (1, 1)]), [.t 27 false, .t 29 false], .t, (some (22, true))⟩,
           ⟨(.eqA [1, 1] false), [.t 25 false, .t 30 false], .t, (some (22, true))⟩,
           ⟨.pick, [.t 22 false, .t 31 false, .c (.sc (.bool false))], .t, none⟩,
           ⟨.mv, [.t 32 false], .t, none⟩,
           ⟨.mv, [.v 3 true], .t, (some (33, true))⟩,
           ⟨(.ia 2), [.t 34 false, .c (.sc (.int .i64 1))], .t, (some (33, true))⟩,
           ⟨(.ldP 2 true false), [.t 35 false], .t, (some (33, true))⟩,
           ⟨.mv, [.v 4 false], .t, (some (33, true))⟩,
           ⟨.mv, [.v 5 false], .t, (some (33, true))⟩,
           ⟨(.bin .add false), [.t 38 false, .c (.sc (.int .i64 4))], .t, (some (33, true))⟩,
           ⟨(.build [(.sc (.int .i64 0)), (.sc (.int .i64 0))] [(0, 1), (1, 1)]), [.t 37 false, .t 39 false], .t, (some (33, true))⟩,
           ⟨(.eqA [1, 1] false), [.t 36 false, .t 40 false], .t, (some (33, true))⟩,
           ⟨.pick, [.t 33 false, .t 41 false, .c (.sc (.bool false))], .t, none⟩,
           ⟨.mv, [.t 42 false], (.v 1), none⟩] false)
         .ret))))))) }

/-- underwood/underwoodlaw17.where -/
def ir9 : FnIR := { np := 2, nv := 4, slots := [0, 1, 4, 5], res := [.b 2 25 true], body :=
  (.seq
   (.reg [
     ⟨(.bx 25), [.c (.agg [(.sc (.int .i64 0)), (.sc (.int .i64 0)), (.sc (.int .i64 0)), (.sc (.int .i64 0)), (.sc (.int .i64 0)), (.sc (.int .i64 0)), (.sc (.int .i64 0)), (.sc (.int .i64 0)), (.sc (.int .i64 0)), (.sc (.int .i64 0)), (.sc (.int .i64 0)), (.sc (.int .i64 0)), (.sc (.int .i64 0)), (.sc (.int .i64 0)), (.sc (.int .i64 0)), (.sc (.int .i64 0)), (.sc (.int .i64 0)), (.sc (.int .i64 0)), (.sc (.int .i64 0)), (.sc (.int .i64 0)), (.sc (.int .i64 0)), (.sc (.int .i64 0)), (.sc (.int .i64 0)), (.sc (.int .i64 0)), (.sc (.int .i64 0))])], (.v 2), none⟩] false)
   (.seq
    (.reg [
      ⟨.mv, [.v 0 false], .t, none⟩,
      ⟨(.bin .rem false), [.t 0 false, .c (.sc (.int .u8 3))], .t, none⟩,
      ⟨(.cvI .i64), [.t 1 false], .t, none⟩,
      ⟨(.bin .add false), [.c (.sc (.int .i64 1)), .t 2 false], .t, none⟩,
      ⟨.mv, [.v 1 false], .t, none⟩,
      ⟨(.bin .rem false), [.t 4 false, .c (.sc (.int .u8 64))], .t, none⟩,
      ⟨(.cvI .i64), [.t 5 false], .t, none⟩,
      ⟨(.bin .add false), [.c (.sc (.int .i64 1)), .t 6 false], .t, none⟩,
      ⟨(.build [(.sc (.int .i64 0)), (.sc (.int .i64 0)), (.sc (.int .i64 0)), (.sc (.int .i64 0)), (.sc (.int .i64 0)), (.sc (.int .i64 0)), (.sc (.int .i64 0)), (.sc (.int .i64 0)), (.sc (.int .i64 0))] [(0, 1), (2, 1), (3, 1), (4, 1)]), [.t 3 false, .c (.sc (.int .i64 1)), .c (.sc (.int .i64 1)), .t 7 false], .t, none⟩,
      ⟨(.call 22), [.t 8 false], .t, none⟩,
      ⟨.mv, [.t 9 false], .t, none⟩,
      ⟨(.ext 0), [.t 10 false], .t, none⟩,
      ⟨(.ext 1), [.t 10 false], .t, none⟩,
      ⟨(.bx 25), [.c (.agg [(.sc (.int .i64 0)), (.sc (.int .i64 0)), (.sc (.int .i64 0)), (.sc (.int .i64 0)), (.sc (.int .i64 0)), (.sc (.int .i64 0)), (.sc (.int .i64 0)), (.sc (.int .i64 0)), (.sc (.int .i64 0)), (.sc (.int .i64 0)), (.sc (.int .i64 0)), (.sc (.int .i64 0)), (.sc (.int .i64 0)), (.sc (.int .i64 0)), (.sc (.int .i64 0)), (.sc (.int .i64 0)), (.sc (.int .i64 0)), (.sc (.int .i64 0)), (.sc (.int .i64 0)), (.sc (.int .i64 0)), (.sc (.int .i64 0)), (.sc (.int .i64 0)), (.sc (.int .i64 0)), (.sc (.int .i64 0)), (.sc (.int .i64 0))])], (.v 3), none⟩,
      ⟨(.stB 3 25), [.v 3 false, .t 11 false], .none, none⟩,
      ⟨.mv, [.t 12 false], .t, none⟩] false)
    (.seq
     (.reg [
       ⟨(.ldB 3 25 true false), [.v 3 false], .t, none⟩,
       ⟨(.stB 2 25), [.v 2 false, .t 0 false], .none, none⟩] false)
     .ret))) }

/-- underwood/ring.Size -/
def ir10 : FnIR := { np := 1, nv := 3, slots := [0, 2, 8], res := [.v 1], body :=
  (.seq
   (.reg [
     ⟨.mv, [.c (.sc (.int .i64 0))], (.v 1), none⟩] false)
   (.seq
    (.seq
     (.reg [
       ⟨.mv, [.v 0 false], .t, none⟩,
       ⟨(.bin .lss false), [.t 0 false, .c (.sc (.int .i64 0))], .t, none⟩,
       ⟨.mv, [.t 1 false], .t, none⟩,
       ⟨.mv, [.v 0 false], .t, (some (2, false))⟩,
       ⟨(.bin .geq false), [.t 3 false, .c (.sc (.int .i64 16))], .t, (some (2, false))⟩,
       ⟨.pick, [.t 2 false, .c (.sc (.bool true)), .t 4 false], (.v 2), none⟩] false)
     (.cond (.v 2 false)
      (.seq
       (.reg [
         ⟨.mv, [.c (.sc (.int .i64 0))], (.v 1), none⟩] false)
       .ret)
      .skip))
    (.seq
     (.reg [
       ⟨.mv, [.v 0 false], .t, none⟩,
       ⟨(.bin .shl false), [.c (.sc (.int .i64 4)), .t 0 false], .t, none⟩,
       ⟨.mv, [.t 1 false], (.v 1), none⟩] false)
     .ret))) }

def ir11_l0 : IR :=
         (.seq
          (.seq
           (.reg [
             ⟨.mv, [.v 4 false], .t, none⟩,
             ⟨.mv, [.v 0 false], .t, none⟩,
             ⟨(.bin .lss false), [.t 0 false, .t 1 false], (.v 3), none⟩] false)
           (.cond (.v 3 false)
            .skip
            (.exit 0)))
          (.seq
           (.block 1
            (.reg [
              ⟨.mv, [.v 5 false], .t, none⟩,
              ⟨(.bin .mul false), [.c (.sc (.int .i64 2)), .t 0 false], .t, none⟩,
              ⟨.mv, [.t 1 false], (.v 5), none⟩] false))
           (.reg [
             ⟨.mv, [.v 4 false], .t, none⟩,
             ⟨(.bin .add false), [.t 0 false, .c (.sc (.int .i64 1))], .t, none⟩,
             ⟨.mv, [.t 1 false], (.v 4), none⟩] false)))

/-- underwood/underwoodref17.Size -/
def ir11 : FnIR := { np := 1, nv := 6, slots := [0, 2, 10, 13, 4, 3], res := [.v 1], body :=
  (.seq
   (.reg [
     ⟨.mv, [.c (.sc (.int .i64 0))], (.v 1), none⟩] false)
   (.seq
    (.seq
     (.reg [
       ⟨.mv, [.v 0 false], .t, none⟩,
       ⟨(.bin .lss false), [.t 0 false, .c (.sc (.int .i64 0))], .t, none⟩,
       ⟨.mv, [.t 1 false], .t, none⟩,
       ⟨.mv, [.v 0 false], .t, (some (2, false))⟩,
       ⟨(.bin .gtr false), [.t 3 false, .c (.sc (.int .i64 15))], .t, (some (2, false))⟩,
       ⟨.pick, [.t 2 false, .c (.sc (.bool true)), .t 4 false], (.v 2), none⟩] false)
     (.cond (.v 2 false)
      (.seq
       (.reg [
         ⟨.mv, [.c (.sc (.int .i64 0))], (.v 1), none⟩] false)
       .ret)
      .skip))
    (.seq
     (.reg [
       ⟨.mv, [.c (.sc (.int .i64 4))], (.v 5), none⟩] false)
     (.seq
      (.seq
       (.reg [
         ⟨.mv, [.c (.sc (.int .i64 0))], (.v 4), none⟩] false)
       (.block 0
        (.loop ir11_l0)))
      (.seq
       (.reg [
         ⟨.mv, [.v 5 false], .t, none⟩,
         ⟨.mv, [.t 0 false], (.v 1), none⟩] false)
       .ret))))) }

/-- underwood/ring.Place -/
def ir12 : FnIR := { np := 4, nv := 7, slots := [0, 1, 2, 3, 4, 8, 17], res := [.v 5], body :=
  (.seq
   (.reg [
     ⟨(.bx 25), [.v 0 false], (.v 4), none⟩,
     ⟨.mv, [.c (.sc (.int .i64 0))], (.v 5), none⟩] false)
   (.seq
    (.seq
     (.reg [
       ⟨(.ldB 4 25 true false), [.v 4 false], .t, none⟩,
       ⟨.mv, [.v 1 false], .t, none⟩,
       ⟨.mv, [.v 2 false], .t, none⟩,
       ⟨(.call 23), [.t 0 false, .t 1 false, .t 2 false], .t, none⟩,
       ⟨(.un .not), [.t 3 false], .t, none⟩,
       ⟨.mv, [.t 4 false], .t, none⟩,
       ⟨.mv, [.v 3 false], .t, (some (5, false))⟩,
       ⟨(.bin .lss false), [.t 6 false, .c (.sc (.int .i64 0))], .t, (some (5, false))⟩,
       ⟨.pick, [.t 5 false, .c (.sc (.bool true)), .t 7 false], (.v 6), none⟩] false)
     (.cond (.v 6 false)
      (.seq
       (.reg [
         ⟨.mv, [.c (.sc (.int .i64 (-1)))], (.v 5), none⟩] false)
       .ret)
      .skip))
    (.seq
     (.reg [
       ⟨(.ldB 4 25 true false), [.v 4 false], .t, none⟩,
       ⟨.mv, [.v 1 false], .t, none⟩,
       ⟨.mv, [.v 2 false], .t, none⟩,
       ⟨(.call 24), [.t 0 false, .t 1 false, .t 2 false], .t, none⟩,
       ⟨.mv, [.v 3 false], .t, none⟩,
       ⟨.callV, [.t 3 false, .t 4 false], .t, none⟩,
       ⟨.mv, [.t 5 false], (.v 5), none⟩] false)
     .ret))) }

/-- underwood/underwoodref17.Place -/
def ir13 : FnIR := { np := 4, nv := 9, slots := [0, 1, 2, 3, 4, 8, 26, 9, 10], res := [.v 5], body :=
  (.seq
   (.reg [
     ⟨(.bx 25), [.v 0 false], (.v 4), none⟩,
     ⟨.mv, [.c (.sc (.int .i64 0))], (.v 5), none⟩] false)
   (.seq
    (.reg [
      ⟨(.ldB 4 25 true false), [.v 4 false], .t, none⟩,
      ⟨.mv, [.v 1 false], .t, none⟩,
      ⟨.mv, [.v 2 false], .t, none⟩,
      ⟨(.call 25), [.t 0 false, .t 1 false, .t 2 false], .t, none⟩,
      ⟨.mv, [.t 3 false], (.v 7), none⟩] false)
    (.seq
     (.reg [
       ⟨.mv, [.v 2 false], .t, none⟩,
       ⟨(.call 11), [.t 0 false], .t, none⟩,
       ⟨.mv, [.t 1 false], (.v 8), none⟩] false)
     (.seq
      (.seq
       (.reg [
         ⟨.mv, [.v 7 false], .t, none⟩,
         ⟨(.bin .lss false), [.t 0 false, .c (.sc (.int .i64 0))], .t, none⟩,
         ⟨.mv, [.t 1 false], .t, none⟩,
         ⟨.mv, [.v 8 false], .t, (some (2, false))⟩,
         ⟨(.bin .eql false), [.t 3 false, .c (.sc (.int .i64 0))], .t, (some (2, false))⟩,
         ⟨.pick, [.t 2 false, .c (.sc (.bool true)), .t 4 false], .t, none⟩,
         ⟨.mv, [.t 5 false], .t, none⟩,
         ⟨.mv, [.v 3 false], .t, (some (6, false))⟩,
         ⟨(.bin .lss false), [.t 7 false, .c (.sc (.int .i64 0))], .t, (some (6, false))⟩,
         ⟨.pick, [.t 6 false, .c (.sc (.bool true)), .t 8 false], (.v 6), none⟩] false)
       (.cond (.v 6 false)
        (.seq
         (.reg [
           ⟨.mv, [.c (.sc (.int .i64 (-1)))], (.v 5), none⟩] false)
         .ret)
        .skip))
      (.seq
       (.reg [
         ⟨.mv, [.v 7 false], .t, none⟩,
         ⟨.mv, [.v 3 false], .t, none⟩,
         ⟨.mv, [.v 8 false], .t, none⟩,
         ⟨(.bin .rem false), [.t 1 false, .t 2 false], .t, none⟩,
         ⟨(.bin .add false), [.t 0 false, .t 3 false], .t, none⟩,
         ⟨.mv, [.t 4 false], (.v 5), none⟩] false)
       .ret))))) }

def ir14_l0 : IR :=
        (.seq
         (.seq
          (.reg [
            ⟨.mv, [.v 6 false], .t, none⟩,
            ⟨.mv, [.v 0 false], .t, none⟩,
            ⟨.len, [.t 1 false], .t, none⟩,
            ⟨(.bin .lss false), [.t 0 false, .t 2 false], (.v 4), none⟩] false)
          (.cond (.v 4 false)
           .skip
           (.exit 0)))
         (.seq
          (.block 1
           (.seq
            (.reg [
              ⟨.mv, [.v 0 false], .t, none⟩,
              ⟨.mv, [.v 6 false], .t, none⟩,
              ⟨(.ia 2), [.t 0 false, .t 1 false], .t, none⟩,
              ⟨(.ldP 2 true false), [.t 2 false], .t, none⟩,
              ⟨.mv, [.v 1 false], .t, none⟩,
              ⟨.mv, [.v 6 false], .t, none⟩,
              ⟨(.ia 2), [.t 4 false, .t 5 false], .t, none⟩,
              ⟨(.ldP 2 true false), [.t 6 false], .t, none⟩,
              ⟨(.eqA [1, 1] true), [.t 3 false, .t 7 false], (.v 5), none⟩] true)
            (.cond (.v 5 false)
             (.seq
              (.reg [
                ⟨.mv, [.c (.sc (.bool false))], (.v 2), none⟩] false)
              .ret)
             .skip)))
          (.reg [
            ⟨.mv, [.v 6 false], .t, none⟩,
            ⟨(.bin .add false), [.t 0 false, .c (.sc (.int .i64 1))], .t, none⟩,
            ⟨.mv, [.t 1 false], (.v 6), none⟩] false)))

/-- underwood/underwoodref17.Pairs -/
def ir14 : FnIR := { np := 2, nv := 7, slots := [0, 1, 4, 10, 14, 25, 5], res := [.v 2], body :=
  (.seq
   (.reg [
     ⟨.mv, [.c (.sc (.bool false))], (.v 2), none⟩] false)
   (.seq
    (.seq
     (.reg [
       ⟨.mv, [.v 0 false], .t, none⟩,
       ⟨.len, [.t 0 false], .t, none⟩,
       ⟨.mv, [.v 1 false], .t, none⟩,
       ⟨.len, [.t 2 false], .t, none⟩,
       ⟨(.bin .neq false), [.t 1 false, .t 3 false], (.v 3), none⟩] false)
     (.cond (.v 3 false)
      (.seq
       (.reg [
         ⟨.mv, [.c (.sc (.bool false))], (.v 2), none⟩] false)
       .ret)
      .skip))
    (.seq
     (.seq
      (.reg [
        ⟨.mv, [.c (.sc (.int .i64 0))], (.v 6), none⟩] false)
      (.block 0
       (.loop ir14_l0)))
     (.seq
      (.reg [
        ⟨.mv, [.c (.sc (.bool true))], (.v 2), none⟩] false)
      .ret)))) }

def ir15_l0 : IR :=
          (.seq
           (.reg [
             ⟨(.bin .lss false), [.v 9 false, .v 10 false], (.v 8), none⟩] false)
           (.seq
            (.cond (.v 8 false)
             .skip
             (.exit 0))
            (.seq
             (.block 1
              (.seq
               (.reg [
                 ⟨.mv, [.v 9 false], .t, none⟩,
                 ⟨.mv, [.t 0 false], (.v 13), none⟩] false)
               (.reg [
                 ⟨.mv, [.v 11 true], .t, none⟩,
                 ⟨.mv, [.v 12 false], .t, none⟩,
                 ⟨.mv, [.v 3 false], .t, none⟩,
                 ⟨.mv, [.v 13 false], .t, none⟩,
                 ⟨(.bin .add false), [.t 2 false, .t 3 false], .t, none⟩,
                 ⟨.callV, [.t 1 false, .t 4 false], .t, none⟩,
                 ⟨.mv, [.v 14 false], .t, none⟩,
                 ⟨.mv, [.v 3 false], .t, none⟩,
                 ⟨.mv, [.v 13 false], .t, none⟩,
                 ⟨(.bin .add false), [.t 7 false, .t 8 false], .t, none⟩,
                 ⟨.callV, [.t 6 false, .t 9 false], .t, none⟩,
                 ⟨(.build [(.sc (.int .i64 0)), (.sc (.int .i64 0))] [(0, 1), (1, 1)]), [.t 5 false, .t 10 false], .t, none⟩,
                 ⟨(.buildSl 2 [(.agg [(.sc (.int .i64 0)), (.sc (.int .i64 0))])] [0]), [.t 11 false], .t, none⟩,
                 ⟨(.app 2 16), [.t 0 true, .t 12 false], .t, none⟩,
                 ⟨.mv, [.t 13 true], (.v 11), none⟩] false)))
             (.reg [
               ⟨(.bin .add false), [.v 9 false, .c (.sc (.int .i64 1))], .t, none⟩,
               ⟨.mv, [.t 0 false], (.v 9), none⟩] false))))

/-- underwood/ring.Moves -/
def ir15 : FnIR := { np := 5, nv := 15, slots := [0, 1, 2, 3, 4, 5, 10, 29, 43, 42, 41, 13, 11, 14, 12], res := [.v 6], body :=
  (.seq
   (.reg [
     ⟨(.bx 25), [.v 0 false], (.v 5), none⟩,
     ⟨.mv, [.c (.sl .full 2 [])], (.v 6), none⟩] false)
   (.seq
    (.seq
     (.reg [
       ⟨(.ldB 5 25 true false), [.v 5 false], .t, none⟩,
       ⟨.mv, [.v 1 false], .t, none⟩,
       ⟨.mv, [.v 2 false], .t, none⟩,
       ⟨.mv, [.v 3 false], .t, none⟩,
       ⟨.mv, [.v 4 false], .t, none⟩,
       ⟨(.call 26), [.t 0 false, .t 1 false, .t 2 false, .t 3 false, .t 4 false], .t, none⟩,
       ⟨(.un .not), [.t 5 false], .t, none⟩,
       ⟨.mv, [.t 6 false], .t, none⟩,
       ⟨(.ldB 5 25 true false), [.v 5 false], .t, (some (7, false))⟩,
       ⟨.mv, [.v 1 false], .t, (some (7, false))⟩,
       ⟨.mv, [.v 2 false], .t, (some (7, false))⟩,
       ⟨(.bin .add false), [.t 10 false, .c (.sc (.int .i64 1))], .t, (some (7, false))⟩,
       ⟨(.call 23), [.t 8 false, .t 9 false, .t 11 false], .t, (some (7, false))⟩,
       ⟨(.un .not), [.t 12 false], .t, (some (7, false))⟩,
       ⟨.pick, [.t 7 false, .c (.sc (.bool true)), .t 13 false], (.v 7), none⟩] false)
     (.cond (.v 7 false)
      (.seq
       (.reg [
         ⟨.mv, [.c (.sl .full 2 [])], (.v 6), none⟩] false)
       .ret)
      .skip))
    (.seq
     (.reg [
       ⟨(.ldB 5 25 true false), [.v 5 false], .t, none⟩,
       ⟨.mv, [.v 1 false], .t, none⟩,
       ⟨.mv, [.v 2 false], .t, none⟩,
       ⟨(.call 24), [.t 0 false, .t 1 false, .t 2 false], .t, none⟩,
       ⟨(.ldB 5 25 true false), [.v 5 false], .t, none⟩,
       ⟨.mv, [.v 1 false], .t, none⟩,
       ⟨.mv, [.v 2 false], .t, none⟩,
       ⟨(.bin .add false), [.t 6 false, .c (.sc (.int .i64 1))], .t, none⟩,
       ⟨(.call 24), [.t 4 false, .t 5 false, .t 7 false], .t, none⟩,
       ⟨.mv, [.t 3 false], (.v 12), none⟩,
       ⟨.mv, [.t 8 false], (.v 14), none⟩] true)
     (.seq
      (.reg [
        ⟨.mv, [.c (.sl .full 2 [])], (.v 11), none⟩] false)
      (.seq
       (.seq
        (.reg [
          ⟨.mv, [.v 4 false], .t, none⟩,
          ⟨.mv, [.v 3 false], .t, none⟩,
          ⟨(.bin .sub false), [.t 0 false, .t 1 false], (.v 10), none⟩,
          ⟨.mv, [.c (.sc (.int .i64 0))], (.v 9), none⟩] false)
        (.block 0
         (.loop ir15_l0)))
       (.seq
        (.reg [
          ⟨.mv, [.v 11 true], .t, none⟩,
          ⟨.mv, [.t 0 true], (.v 6), none⟩] false)
        .ret)))))) }

def ir16_l0 : IR :=
          (.seq
           (.seq
            (.reg [
              ⟨.mv, [.v 10 false], .t, none⟩,
              ⟨.mv, [.v 4 false], .t, none⟩,
              ⟨.mv, [.v 3 false], .t, none⟩,
              ⟨(.bin .sub false), [.t 1 false, .t 2 false], .t, none⟩,
              ⟨(.bin .lss false), [.t 0 false, .t 3 false], (.v 8), none⟩] false)
            (.cond (.v 8 false)
             .skip
             (.exit 0)))
           (.seq
            (.block 1
             (.reg [
               ⟨.mv, [.v 11 true], .t, none⟩,
               ⟨(.ldB 5 25 true false), [.v 5 false], .t, none⟩,
               ⟨.mv, [.v 1 false], .t, none⟩,
               ⟨.mv, [.v 2 false], .t, none⟩,
               ⟨.mv, [.v 3 false], .t, none⟩,
               ⟨.mv, [.v 10 false], .t, none⟩,
               ⟨(.bin .add false), [.t 4 false, .t 5 false], .t, none⟩,
               ⟨(.call 13), [.t 1 false, .t 2 false, .t 3 false, .t 6 false], .t, none⟩,
               ⟨(.ldB 5 25 true false), [.v 5 false], .t, none⟩,
               ⟨.mv, [.v 1 false], .t, none⟩,
               ⟨.mv, [.v 2 false], .t, none⟩,
               ⟨(.bin .add false), [.t 10 false, .c (.sc (.int .i64 1))], .t, none⟩,
               ⟨.mv, [.v 3 false], .t, none⟩,
               ⟨.mv, [.v 10 false], .t, none⟩,
               ⟨(.bin .add false), [.t 12 false, .t 13 false], .t, none⟩,
               ⟨(.call 13), [.t 8 false, .t 9 false, .t 11 false, .t 14 false], .t, none⟩,
               ⟨(.build [(.sc (.int .i64 0)), (.sc (.int .i64 0))] [(0, 1), (1, 1)]), [.t 7 false, .t 15 false], .t, none⟩,
               ⟨(.buildSl 2 [(.agg [(.sc (.int .i64 0)), (.sc (.int .i64 0))])] [0]), [.t 16 false], .t, none⟩,
               ⟨(.app 2 16), [.t 0 true, .t 17 false], .t, none⟩,
               ⟨.mv, [.t 18 true], (.v 11), none⟩] true))
            (.reg [
              ⟨.mv, [.v 10 false], .t, none⟩,
              ⟨(.bin .add false), [.t 0 false, .c (.sc (.int .i64 1))], .t, none⟩,
              ⟨.mv, [.t 1 false], (.v 10), none⟩] false)))

/-- underwood/underwoodref17.Moves -/
def ir16 : FnIR := { np := 5, nv := 12, slots := [0, 1, 2, 3, 4, 5, 10, 29, 34, 11, 13, 12], res := [.v 6], body :=
  (.seq
   (.reg [
     ⟨(.bx 25), [.v 0 false], (.v 5), none⟩,
     ⟨.mv, [.c (.sl .full 2 [])], (.v 6), none⟩] false)
   (.seq
    (.reg [
      ⟨(.ldB 5 25 true false), [.v 5 false], .t, none⟩,
      ⟨.mv, [.v 1 false], .t, none⟩,
      ⟨.mv, [.v 2 false], .t, none⟩,
      ⟨.mv, [.v 3 false], .t, none⟩,
      ⟨.mv, [.v 4 false], .t, none⟩,
      ⟨(.call 27), [.t 0 false, .t 1 false, .t 2 false, .t 3 false, .t 4 false], .t, none⟩,
      ⟨.mv, [.t 5 false], (.v 9), none⟩] false)
    (.seq
     (.seq
      (.reg [
        ⟨.mv, [.v 9 false], .t, none⟩,
        ⟨(.un .not), [.t 0 false], .t, none⟩,
        ⟨.mv, [.t 1 false], .t, none⟩,
        ⟨(.ldB 5 25 true false), [.v 5 false], .t, (some (2, false))⟩,
        ⟨.mv, [.v 1 false], .t, (some (2, false))⟩,
        ⟨.mv, [.v 2 false], .t, (some (2, false))⟩,
        ⟨(.bin .add false), [.t 5 false, .c (.sc (.int .i64 1))], .t, (some (2, false))⟩,
        ⟨(.call 13), [.t 3 false, .t 4 false, .t 6 false, .c (.sc (.int .i64 0))], .t, (some (2, false))⟩,
        ⟨(.bin .lss false), [.t 7 false, .c (.sc (.int .i64 0))], .t, (some (2, false))⟩,
        ⟨.pick, [.t 2 false, .c (.sc (.bool true)), .t 8 false], (.v 7), none⟩] false)
      (.cond (.v 7 false)
       (.seq
        (.reg [
          ⟨.mv, [.c (.sl .full 2 [])], (.v 6), none⟩] false)
        .ret)
       .skip))
     (.seq
      (.reg [
        ⟨.mv, [.c (.sl .full 2 [])], (.v 11), none⟩] false)
      (.seq
       (.seq
        (.reg [
          ⟨.mv, [.c (.sc (.int .i64 0))], (.v 10), none⟩] false)
        (.block 0
         (.loop ir16_l0)))
       (.seq
        (.reg [
          ⟨.mv, [.v 11 true], .t, none⟩,
          ⟨.mv, [.t 0 true], (.v 6), none⟩] false)
        .ret)))))) }

/-- underwood/layout.Rings -/
def ir17 : FnIR := { np := 1, nv := 3, slots := [0, 1, 2], res := [.v 2], body :=
  (.seq
   (.reg [
     ⟨(.bx 25), [.v 0 false], (.v 1), none⟩,
     ⟨.mv, [.c (.sc (.int .i64 0))], (.v 2), none⟩] false)
   (.seq
    (.reg [
      ⟨(.faB 1 0), [.v 1 false], .t, none⟩,
      ⟨(.fa 4), [.t 0 false], .t, none⟩,
      ⟨(.ldB 1 1 false false), [.t 1 false, .v 1 false], .t, none⟩,
      ⟨(.call 28), [.t 2 false], .t, none⟩,
      ⟨.mv, [.t 3 false], (.v 2), none⟩] false)
    .ret)) }

/-- underwood/layout.Deque -/
def ir18 : FnIR := { np := 3, nv := 5, slots := [0, 1, 2, 3, 6], res := [.v 4], body :=
  (.seq
   (.reg [
     ⟨(.bx 25), [.v 0 false], (.v 3), none⟩,
     ⟨.mv, [.c (.sc (.int .i64 0))], (.v 4), none⟩] false)
   (.seq
    (.reg [
      ⟨(.faB 3 16), [.v 3 false], .t, none⟩,
      ⟨(.ldB 3 1 false false), [.t 0 false, .v 3 false], .t, none⟩,
      ⟨(.faB 3 0), [.v 3 false], .t, none⟩,
      ⟨(.fa 0), [.t 2 false], .t, none⟩,
      ⟨(.ldB 3 1 false false), [.t 3 false, .v 3 false], .t, none⟩,
      ⟨.mv, [.v 1 false], .t, none⟩,
      ⟨.mv, [.v 2 false], .t, none⟩,
      ⟨(.call 29), [.t 1 false, .t 4 false, .c (.sc (.int .i64 3)), .t 5 false, .t 6 false], .t, none⟩,
      ⟨.mv, [.t 7 false], (.v 4), none⟩] false)
    .ret)) }

def ir19_l1 : IR :=
            (.seq
             (.reg [
               ⟨(.bin .lss false), [.v 15 false, .v 16 false], (.v 10), none⟩] false)
             (.seq
              (.cond (.v 10 false)
               .skip
               (.exit 2))
              (.seq
               (.block 3
                (.seq
                 (.reg [
                   ⟨.mv, [.v 15 false], .t, none⟩,
                   ⟨.mv, [.t 0 false], (.v 18), none⟩] false)
                 (.seq
                  (.reg [
                    ⟨.mv, [.v 17 false], .t, none⟩,
                    ⟨(.iaB 5 3 1), [.v 5 false, .c (.sc (.int .i64 0))], .t, none⟩,
                    ⟨(.ldB 5 1 false false), [.t 1 false, .v 5 false], .t, none⟩,
                    ⟨.mv, [.v 18 false], .t, none⟩,
                    ⟨(.bin .add false), [.t 2 false, .t 3 false], .t, none⟩,
                    ⟨.callV, [.t 0 false, .t 4 false], .t, none⟩,
                    ⟨.mv, [.t 5 false], (.v 19), none⟩] false)
                  (.seq
                   (.seq
                    (.reg [
                      ⟨.mv, [.v 19 false], .t, none⟩,
                      ⟨(.faB 4 0), [.v 4 false], .t, none⟩,
                      ⟨(.ldB 4 1 false false), [.t 1 false, .v 4 false], .t, none⟩,
                      ⟨.len, [.t 2 false], .t, none⟩,
                      ⟨(.bin .geq false), [.t 0 false, .t 3 false], (.v 11), none⟩] false)
                    (.cond (.v 11 false)
                     (.seq
                      (.reg [
                        ⟨.mv, [.c (.sl .full 1 [])], (.v 6), none⟩] false)
                      .ret)
                     .skip))
                   (.reg [
                     ⟨.mv, [.v 20 true], .t, none⟩,
                     ⟨(.faB 4 0), [.v 4 false], .t, none⟩,
                     ⟨(.ldB 4 1 false false), [.t 1 false, .v 4 false], .t, none⟩,
                     ⟨.mv, [.v 19 false], .t, none⟩,
                     ⟨(.ia 1), [.t 2 false, .t 3 false], .t, none⟩,
                     ⟨(.ldP 1 false false), [.t 4 false], .t, none⟩,
                     ⟨(.buildSl 1 [(.sc (.int .i64 0))] [0]), [.t 5 false], .t, none⟩,
                     ⟨(.app 1 8), [.t 0 true, .t 6 false], .t, none⟩,
                     ⟨.mv, [.t 7 true], (.v 20), none⟩] false)))))
               (.reg [
                 ⟨(.bin .add false), [.v 15 false, .c (.sc (.int .i64 1))], .t, none⟩,
                 ⟨.mv, [.t 0 false], (.v 15), none⟩] false))))

def ir19_l0 : IR :=
        (.seq
         (.reg [
           ⟨(.bin .lss false), [.v 12 false, .c (.sc (.int .i64 3))], (.v 7), none⟩] false)
         (.seq
          (.cond (.v 7 false)
           .skip
           (.exit 0))
          (.seq
           (.block 1
            (.seq
             (.reg [
               ⟨.mv, [.v 12 false], .t, none⟩,
               ⟨.mv, [.t 0 false], (.v 13), none⟩] false)
             (.seq
              (.reg [
                ⟨(.ldB 3 25 true false), [.v 3 false], .t, none⟩,
                ⟨.mv, [.v 2 false], .t, none⟩,
                ⟨.mv, [.v 13 false], .t, none⟩,
                ⟨(.call 18), [.t 0 false, .t 1 false, .t 2 false], .t, none⟩,
                ⟨.mv, [.t 3 false], (.v 14), none⟩] false)
              (.seq
               (.seq
                (.reg [
                  ⟨.mv, [.v 14 false], .t, none⟩,
                  ⟨(.bin .lss false), [.t 0 false, .c (.sc (.int .i64 0))], .t, none⟩,
                  ⟨.mv, [.t 1 false], .t, none⟩,
                  ⟨.mv, [.v 14 false], .t, (some (2, false))⟩,
                  ⟨(.faB 4 0), [.v 4 false], .t, (some (2, false))⟩,
                  ⟨(.ldB 4 1 false false), [.t 4 false, .v 4 false], .t, (some (2, false))⟩,
                  ⟨.len, [.t 5 false], .t, (some (2, false))⟩,
                  ⟨(.bin .geq false), [.t 3 false, .t 6 false], .t, (some (2, false))⟩,
                  ⟨.pick, [.t 2 false, .c (.sc (.bool true)), .t 7 false], (.v 8), none⟩] false)
                (.cond (.v 8 false)
                 (.seq
                  (.reg [
                    ⟨.mv, [.c (.sl .full 1 [])], (.v 6), none⟩] false)
                  .ret)
                 .skip))
               (.reg [
                 ⟨.mv, [.v 13 false], .t, none⟩,
                 ⟨(.faB 4 0), [.v 4 false], .t, none⟩,
                 ⟨(.ldB 4 1 false false), [.t 1 false, .v 4 false], .t, none⟩,
                 ⟨.mv, [.v 14 false], .t, none⟩,
                 ⟨(.ia 1), [.t 2 false, .t 3 false], .t, none⟩,
                 ⟨(.ldP 1 false false), [.t 4 false], .t, none⟩,
                 ⟨(.iaB 5 3 1), [.v 5 false, .t 0 false], .t, none⟩,
                 ⟨(.stB 5 1), [.t 6 false, .t 5 false], .none, none⟩] false)))))
           (.reg [
             ⟨(.bin .add false), [.v 12 false, .c (.sc (.int .i64 1))], .t, none⟩,
             ⟨.mv, [.t 0 false], (.v 12), none⟩] false))))

/-- underwood/ring.Row -/
def ir19 : FnIR := { np := 3, nv := 21, slots := [0, 1, 2, 3, 4, 7, 6, 15, 29, 47, 59, 71, 14, 8, 9, 58, 57, 10, 12, 13, 11], res := [.v 6], body :=
  (.seq
   (.reg [
     ⟨(.bx 25), [.v 0 false], (.v 3), none⟩,
     ⟨(.bx 1), [.v 1 true], (.v 4), none⟩,
     ⟨.mv, [.c (.sl .full 1 [])], (.v 6), none⟩] false)
   (.seq
    (.reg [
      ⟨(.bx 3), [.c (.agg [(.sc (.int .i64 0)), (.sc (.int .i64 0)), (.sc (.int .i64 0))])], (.v 5), none⟩] false)
    (.seq
     (.seq
      (.reg [
        ⟨.mv, [.c (.sc (.int .i64 0))], (.v 12), none⟩] false)
      (.block 0
       (.loop ir19_l0)))
     (.seq
      (.seq
       (.reg [
         ⟨(.ldB 3 25 true false), [.v 3 false], .t, none⟩,
         ⟨.mv, [.v 2 false], .t, none⟩,
         ⟨(.iaB 5 3 1), [.v 5 false, .c (.sc (.int .i64 2))], .t, none⟩,
         ⟨(.ldB 5 1 false false), [.t 2 false, .v 5 false], .t, none⟩,
         ⟨(.iaB 5 3 1), [.v 5 false, .c (.sc (.int .i64 0))], .t, none⟩,
         ⟨(.ldB 5 1 false false), [.t 4 false, .v 5 false], .t, none⟩,
         ⟨(.iaB 5 3 1), [.v 5 false, .c (.sc (.int .i64 1))], .t, none⟩,
         ⟨(.ldB 5 1 false false), [.t 6 false, .v 5 false], .t, none⟩,
         ⟨(.call 26), [.t 0 false, .t 1 false, .t 3 false, .t 5 false, .t 7 false], .t, none⟩,
         ⟨(.un .not), [.t 8 false], (.v 9), none⟩] false)
       (.cond (.v 9 false)
        (.seq
         (.reg [
           ⟨.mv, [.c (.sl .full 1 [])], (.v 6), none⟩] false)
         .ret)
        .skip))
      (.seq
       (.reg [
         ⟨(.ldB 3 25 true false), [.v 3 false], .t, none⟩,
         ⟨.mv, [.v 2 false], .t, none⟩,
         ⟨(.iaB 5 3 1), [.v 5 false, .c (.sc (.int .i64 2))], .t, none⟩,
         ⟨(.ldB 5 1 false false), [.t 2 false, .v 5 false], .t, none⟩,
         ⟨(.call 24), [.t 0 false, .t 1 false, .t 3 false], .t, none⟩,
         ⟨.mv, [.t 4 false], (.v 17), none⟩] false)
       (.seq
        (.reg [
          ⟨.mv, [.c (.sl .full 1 [])], (.v 20), none⟩] false)
        (.seq
         (.seq
          (.reg [
            ⟨(.iaB 5 3 1), [.v 5 false, .c (.sc (.int .i64 1))], .t, none⟩,
            ⟨(.ldB 5 1 false false), [.t 0 false, .v 5 false], .t, none⟩,
            ⟨(.iaB 5 3 1), [.v 5 false, .c (.sc (.int .i64 0))], .t, none⟩,
            ⟨(.ldB 5 1 false false), [.t 2 false, .v 5 false], .t, none⟩,
            ⟨(.bin .sub false), [.t 1 false, .t 3 false], (.v 16), none⟩,
            ⟨.mv, [.c (.sc (.int .i64 0))], (.v 15), none⟩] false)
          (.block 2
           (.loop ir19_l1)))
         (.seq
          (.reg [
            ⟨.mv, [.v 20 true], .t, none⟩,
            ⟨.mv, [.t 0 true], (.v 6), none⟩] false)
          .ret)))))))) }

def ir20_l0 : IR :=
        (.seq
         (.seq
          (.reg [
            ⟨.mv, [.v 6 false], .t, none⟩,
            ⟨.mv, [.v 0 false], .t, none⟩,
            ⟨.len, [.t 1 false], .t, none⟩,
            ⟨(.bin .lss false), [.t 0 false, .t 2 false], (.v 4), none⟩] false)
          (.cond (.v 4 false)
           .skip
           (.exit 0)))
         (.seq
          (.block 1
           (.seq
            (.reg [
              ⟨.mv, [.v 0 false], .t, none⟩,
              ⟨.mv, [.v 6 false], .t, none⟩,
              ⟨(.ia 1), [.t 0 false, .t 1 false], .t, none⟩,
              ⟨(.ldP 1 false false), [.t 2 false], .t, none⟩,
              ⟨.mv, [.v 1 false], .t, none⟩,
              ⟨.mv, [.v 6 false], .t, none⟩,
              ⟨(.ia 1), [.t 4 false, .t 5 false], .t, none⟩,
              ⟨(.ldP 1 false false), [.t 6 false], .t, none⟩,
              ⟨(.bin .neq false), [.t 3 false, .t 7 false], (.v 5), none⟩] true)
            (.cond (.v 5 false)
             (.seq
              (.reg [
                ⟨.mv, [.c (.sc (.bool false))], (.v 2), none⟩] false)
              .ret)
             .skip)))
          (.reg [
            ⟨.mv, [.v 6 false], .t, none⟩,
            ⟨(.bin .add false), [.t 0 false, .c (.sc (.int .i64 1))], .t, none⟩,
            ⟨.mv, [.t 1 false], (.v 6), none⟩] false)))

/-- underwood/underwoodref17.Ints -/
def ir20 : FnIR := { np := 2, nv := 7, slots := [0, 1, 4, 10, 14, 25, 5], res := [.v 2], body :=
  (.seq
   (.reg [
     ⟨.mv, [.c (.sc (.bool false))], (.v 2), none⟩] false)
   (.seq
    (.seq
     (.reg [
       ⟨.mv, [.v 0 false], .t, none⟩,
       ⟨.len, [.t 0 false], .t, none⟩,
       ⟨.mv, [.v 1 false], .t, none⟩,
       ⟨.len, [.t 2 false], .t, none⟩,
       ⟨(.bin .neq false), [.t 1 false, .t 3 false], (.v 3), none⟩] false)
     (.cond (.v 3 false)
      (.seq
       (.reg [
         ⟨.mv, [.c (.sc (.bool false))], (.v 2), none⟩] false)
       .ret)
      .skip))
    (.seq
     (.seq
      (.reg [
        ⟨.mv, [.c (.sc (.int .i64 0))], (.v 6), none⟩] false)
      (.block 0
       (.loop ir20_l0)))
     (.seq
      (.reg [
        ⟨.mv, [.c (.sc (.bool true))], (.v 2), none⟩] false)
      .ret)))) }

/-- underwood/layout.Ring -/
def ir21 : FnIR := { np := 3, nv := 7, slots := [0, 1, 2, 3, 6, 14, 7], res := [.v 4], body :=
  (.seq
   (.reg [
     ⟨(.bx 25), [.v 0 false], (.v 3), none⟩,
     ⟨.mv, [.c (.sc (.int .i64 0))], (.v 4), none⟩] false)
   (.seq
    (.reg [
      ⟨(.ldB 3 25 true false), [.v 3 false], .t, none⟩,
      ⟨(.call 17), [.t 0 false], .t, none⟩,
      ⟨.mv, [.t 1 false], (.v 6), none⟩] false)
    (.seq
     (.seq
      (.reg [
        ⟨.mv, [.v 2 false], .t, none⟩,
        ⟨.mv, [.v 6 false], .t, none⟩,
        ⟨(.bin .sub false), [.t 1 false, .c (.sc (.int .i64 1))], .t, none⟩,
        ⟨(.call 30), [.t 0 false, .c (.sc (.int .i64 0)), .t 2 false], .t, none⟩,
        ⟨(.un .not), [.t 3 false], (.v 5), none⟩] false)
      (.cond (.v 5 false)
       (.seq
        (.reg [
          ⟨.mv, [.c (.sc (.int .i64 (-1)))], (.v 4), none⟩] false)
        .ret)
       .skip))
     (.seq
      (.reg [
        ⟨(.faB 3 17), [.v 3 false], .t, none⟩,
        ⟨(.ldB 3 1 false false), [.t 0 false, .v 3 false], .t, none⟩,
        ⟨(.faB 3 0), [.v 3 false], .t, none⟩,
        ⟨(.fa 0), [.t 2 false], .t, none⟩,
        ⟨(.ldB 3 1 false false), [.t 3 false, .v 3 false], .t, none⟩,
        ⟨.mv, [.v 6 false], .t, none⟩,
        ⟨(.bin .shl false), [.c (.sc (.int .i64 1)), .t 5 false], .t, none⟩,
        ⟨(.bin .sub false), [.t 6 false, .c (.sc (.int .i64 1))], .t, none⟩,
        ⟨(.bin .mul false), [.c (.sc (.int .i64 4)), .t 7 false], .t, none⟩,
        ⟨.mv, [.v 1 false], .t, none⟩,
        ⟨.mv, [.v 2 false], .t, none⟩,
        ⟨(.bin .shl false), [.c (.sc (.int .i64 1)), .t 10 false], .t, none⟩,
        ⟨(.bin .sub false), [.t 11 false, .c (.sc (.int .i64 1))], .t, none⟩,
        ⟨(.bin .mul false), [.c (.sc (.int .i64 4)), .t 12 false], .t, none⟩,
        ⟨(.call 29), [.t 1 false, .t 4 false, .t 8 false, .t 9 false, .t 13 false], .t, none⟩,
        ⟨.mv, [.t 14 false], (.v 4), none⟩] true)
      .ret)))) }

/-- underwood/layout.Of -/
def ir22 : FnIR := { np := 1, nv := 8, slots := [0, 1, 2, 6, 3, 20, 4, 5], res := [.b 2 25 true, .v 4], body :=
  (.seq
   (.reg [
     ⟨(.bx 9), [.v 0 false], (.v 1), none⟩,
     ⟨(.bx 25), [.c (.agg [(.sc (.int .i64 0)), (.sc (.int .i64 0)), (.sc (.int .i64 0)), (.sc (.int .i64 0)), (.sc (.int .i64 0)), (.sc (.int .i64 0)), (.sc (.int .i64 0)), (.sc (.int .i64 0)), (.sc (.int .i64 0)), (.sc (.int .i64 0)), (.sc (.int .i64 0)), (.sc (.int .i64 0)), (.sc (.int .i64 0)), (.sc (.int .i64 0)), (.sc (.int .i64 0)), (.sc (.int .i64 0)), (.sc (.int .i64 0)), (.sc (.int .i64 0)), (.sc (.int .i64 0)), (.sc (.int .i64 0)), (.sc (.int .i64 0)), (.sc (.int .i64 0)), (.sc (.int .i64 0)), (.sc (.int .i64 0)), (.sc (.int .i64 0))])], (.v 2), none⟩,
     ⟨.mv, [.c (.sc (.int .i64 0))], (.v 4), none⟩] false)
   (.seq
    (.seq
     (.reg [
       ⟨(.ldB 1 9 true false), [.v 1 false], .t, none⟩,
       ⟨(.call 31), [.t 0 false], .t, none⟩,
       ⟨(.un .not), [.t 1 false], .t, none⟩,
       ⟨.mv, [.t 2 false], .t, none⟩,
       ⟨(.faB 1 1), [.v 1 false], .t, (some (3, false))⟩,
       ⟨(.ldB 1 1 false false), [.t 4 false, .v 1 false], .t, (some (3, false))⟩,
       ⟨(.faB 1 6), [.v 1 false], .t, (some (3, false))⟩,
       ⟨(.ldB 1 1 false false), [.t 6 false, .v 1 false], .t, (some (3, false))⟩,
       ⟨(.faB 1 8), [.v 1 false], .t, (some (3, false))⟩,
       ⟨(.ldB 1 1 false false), [.t 8 false, .v 1 false], .t, (some (3, false))⟩,
       ⟨(.bin .add false), [.t 7 false, .t 9 false], .t, (some (3, false))⟩,
       ⟨(.call 30), [.t 5 false, .t 10 false, .c (.sc (.int .i64 1000))], .t, (some (3, false))⟩,
       ⟨(.un .not), [.t 11 false], .t, (some (3, false))⟩,
       ⟨.pick, [.t 3 false, .c (.sc (.bool true)), .t 12 false], (.v 5), none⟩] false)
     (.cond (.v 5 false)
      (.seq
       (.reg [
         ⟨(.build [(.sc (.int .i64 0)), (.sc (.int .i64 0)), (.sc (.int .i64 0)), (.sc (.int .i64 0)), (.sc (.int .i64 0)), (.sc (.int .i64 0)), (.sc (.int .i64 0)), (.sc (.int .i64 0)), (.sc (.int .i64 0)), (.sc (.int .i64 0)), (.sc (.int .i64 0)), (.sc (.int .i64 0)), (.sc (.int .i64 0)), (.sc (.int .i64 0)), (.sc (.int .i64 0)), (.sc (.int .i64 0)), (.sc (.int .i64 0)), (.sc (.int .i64 0)), (.sc (.int .i64 0)), (.sc (.int .i64 0)), (.sc (.int .i64 0)), (.sc (.int .i64 0)), (.sc (.int .i64 0)), (.sc (.int .i64 0)), (.sc (.int .i64 0))] []), [], .t, none⟩,
         ⟨(.stB 2 25), [.v 2 false, .t 0 false], .none, none⟩,
         ⟨.mv, [.c (.sc (.int .i64 1))], (.v 4), none⟩] false)
       .ret)
      .skip))
    (.seq
     (.reg [
       ⟨(.hp 1), [.c (.sc (.int .i64 0))], (.v 6), none⟩,
       ⟨(.stP 1), [.v 6 false, .c (.sc (.int .i64 0))], .none, none⟩] false)
     (.seq
      (.reg [
        ⟨(.mkFn (.func 32) 0), [.v 6 false], .t, none⟩,
        ⟨.mv, [.t 0 false], (.v 7), none⟩] false)
      (.seq
       (.reg [
         ⟨(.ldB 1 9 true false), [.v 1 false], .t, none⟩,
         ⟨.mv, [.v 7 false], .t, none⟩,
         ⟨.callV, [.t 1 false, .c (.sc (.int .i64 1))], .t, none⟩,
         ⟨.mv, [.v 7 false], .t, none⟩,
         ⟨.callV, [.t 3 false, .c (.sc (.int .i64 1))], .t, none⟩,
         ⟨.mv, [.v 7 false], .t, none⟩,
         ⟨.callV, [.t 5 false, .c (.sc (.int .i64 1))], .t, none⟩,
         ⟨.mv, [.v 7 false], .t, none⟩,
         ⟨.callV, [.t 7 false, .c (.sc (.int .i64 1))], .t, none⟩,
         ⟨(.build [(.sc (.int .i64 0)), (.sc (.int .i64 0)), (.sc (.int .i64 0)), (.sc (.int .i64 0)), (.sc (.int .i64 0)), (.sc (.int .i64 0)), (.sc (.int .i64 0)), (.sc (.int .i64 0)), (.sc (.int .i64 0)), (.sc (.int .i64 0)), (.sc (.int .i64 0)), (.sc (.int .i64 0)), (.sc (.int .i64 0)), (.sc (.int .i64 0)), (.sc (.int .i64 0)), (.sc (.int .i64 0)), (.sc (.int .i64 0)), (.sc (.int .i64 0)), (.sc (.int .i64 0)), (.sc (.int .i64 0)), (.sc (.int .i64 0)), (.sc (.int .i64 0)), (.sc (.int .i64 0)), (.sc (.int .i64 0)), (.sc (.int .i64 0))] [(0, 9), (9, 1), (10, 1), (11, 1), (12, 1)]), [.t 0 false, .t 2 false, .t 4 false, .t 6 false, .t 8 false], .t, none⟩,
         ⟨(.bx 25), [.c (.agg [(.sc (.int .i64 0)), (.sc (.int .i64 0)), (.sc (.int .i64 0)), (.sc (.int .i64 0)), (.sc (.int .i64 0)), (.sc (.int .i64 0)), (.sc (.int .i64 0)), (.sc (.int .i64 0)), (.sc (.int .i64 0)), (.sc (.int .i64 0)), (.sc (.int .i64 0)), (.sc (.int .i64 0)), (.sc (.int .i64 0)), (.sc (.int .i64 0)), (.sc (.int .i64 0)), (.sc (.int .i64 0)), (.sc (.int .i64 0)), (.sc (.int .i64 0)), (.sc (.int .i64 0)), (.sc (.int .i64 0)), (.sc (.int .i64 0)), (.sc (.int .i64 0)), (.sc (.int .i64 0)), (.sc (.int .i64 0)), (.sc (.int .i64 0))])], (.v 3), none⟩,
         ⟨(.stB 3 25), [.v 3 false, .t 9 false], .none, none⟩] true)
       (.seq
        (.reg [
          ⟨.mv, [.v 7 false], .t, none⟩,
          ⟨(.faB 1 0), [.v 1 false], .t, none⟩,
          ⟨(.ldB 1 1 false false), [.t 1 false, .v 1 false], .t, none⟩,
          ⟨.callV, [.t 0 false, .t 2 false], .t, none⟩,
          ⟨.mv, [.v 7 false], .t, none⟩,
          ⟨(.faB 1 0), [.v 1 false], .t, none⟩,
          ⟨(.ldB 1 1 false false), [.t 5 false, .v 1 false], .t, none⟩,
          ⟨.callV, [.t 4 false, .t 6 false], .t, none⟩,
          ⟨(.faB 3 13), [.v 3 false], .t, none⟩,
          ⟨(.stB 3 1), [.t 8 false, .t 3 false], .none, none⟩,
          ⟨(.faB 3 14), [.v 3 false], .t, none⟩,
          ⟨(.stB 3 1), [.t 10 false, .t 7 false], .none, none⟩] true)
        (.seq
         (.reg [
           ⟨.mv, [.v 7 false], .t, none⟩,
           ⟨(.faB 1 0), [.v 1 false], .t, none⟩,
           ⟨(.ldB 1 1 false false), [.t 1 false, .v 1 false], .t, none⟩,
           ⟨(.bin .mul false), [.c (.sc (.int .i64 3)), .t 2 false], .t, none⟩,
           ⟨.callV, [.t 0 false, .t 3 false], .t, none⟩,
           ⟨.mv, [.v 7 false], .t, none⟩,
           ⟨(.faB 1 0), [.v 1 false], .t, none⟩,
           ⟨(.ldB 1 1 false false), [.t 6 false, .v 1 false], .t, none⟩,
           ⟨(.bin .mul false), [.c (.sc (.int .i64 3)), .t 7 false], .t, none⟩,
           ⟨.callV, [.t 5 false, .t 8 false], .t, none⟩,
           ⟨(.faB 3 15), [.v 3 false], .t, none⟩,
           ⟨(.stB 3 1), [.t 10 false, .t 4 false], .none, none⟩,
           ⟨(.faB 3 16), [.v 3 false], .t, none⟩,
           ⟨(.stB 3 1), [.t 12 false, .t 9 false], .none, none⟩] true)
         (.seq
          (.reg [
            ⟨.mv, [.v 7 false], .t, none⟩,
            ⟨(.faB 1 0), [.v 1 false], .t, none⟩,
            ⟨(.ldB 1 1 false false), [.t 1 false, .v 1 false], .t, none⟩,
            ⟨(.bin .mul false), [.t 2 false, .c (.sc (.int .i64 4))], .t, none⟩,
            ⟨(.faB 1 4), [.v 1 false], .t, none⟩,
            ⟨(.ldB 1 1 false false), [.t 4 false, .v 1 false], .t, none⟩,
            ⟨(.call 28), [.t 5 false], .t, none⟩,
            ⟨(.bin .shl false), [.c (.sc (.int .i64 1)), .t 6 false], .t, none⟩,
            ⟨(.bin .sub false), [.t 7 false, .c (.sc (.int .i64 1))], .t, none⟩,
            ⟨(.bin .mul false), [.t 3 false, .t 8 false], .t, none⟩,
            ⟨.callV, [.t 0 false, .t 9 false], .t, none⟩,
            ⟨(.faB 3 17), [.v 3 false], .t, none⟩,
            ⟨(.stB 3 1), [.t 11 false, .t 10 false], .none, none⟩] true)
          (.seq
           (.reg [
             ⟨.mv, [.v 7 false], .t, none⟩,
             ⟨(.faB 1 4), [.v 1 false], .t, none⟩,
             ⟨(.ldB 1 1 false false), [.t 1 false, .v 1 false], .t, none⟩,
             ⟨(.bin .mul false), [.c (.sc (.int .i64 4)), .t 2 false], .t, none⟩,
             ⟨.callV, [.t 0 false, .t 3 false], .t, none⟩,
             ⟨.mv, [.v 7 false], .t, none⟩,
             ⟨(.faB 1 5), [.v 1 false], .t, none⟩,
             ⟨(.ldB 1 1 false false), [.t 6 false, .v 1 false], .t, none⟩,
             ⟨.callV, [.t 5 false, .t 7 false], .t, none⟩,
             ⟨(.faB 3 18), [.v 3 false], .t, none⟩,
             ⟨(.stB 3 1), [.t 9 false, .t 4 false], .none, none⟩,
             ⟨(.faB 3 19), [.v 3 false], .t, none⟩,
             ⟨(.stB 3 1), [.t 11 false, .t 8 false], .none, none⟩] true)
           (.seq
            (.reg [
              ⟨.mv, [.v 7 false], .t, none⟩,
              ⟨(.faB 1 6), [.v 1 false], .t, none⟩,
              ⟨(.ldB 1 1 false false), [.t 1 false, .v 1 false], .t, none⟩,
              ⟨(.faB 1 2), [.v 1 false], .t, none⟩,
              ⟨(.ldB 1 1 false false), [.t 3 false, .v 1 false], .t, none⟩,
              ⟨(.bin .add false), [.c (.sc (.int .i64 2)), .t 4 false], .t, none⟩,
              ⟨(.bin .mul false), [.t 2 false, .t 5 false], .t, none⟩,
              ⟨.callV, [.t 0 false, .t 6 false], .t, none⟩,
              ⟨.mv, [.v 7 false], .t, none⟩,
              ⟨(.faB 1 7), [.v 1 false], .t, none⟩,
              ⟨(.ldB 1 1 false false), [.t 9 false, .v 1 false], .t, none⟩,
              ⟨(.faB 1 3), [.v 1 false], .t, none⟩,
              ⟨(.ldB 1 1 false false), [.t 11 false, .v 1 false], .t, none⟩,
              ⟨(.bin .add false), [.c (.sc (.int .i64 1)), .t 12 false], .t, none⟩,
              ⟨(.bin .mul false), [.t 10 false, .t 13 false], .t, none⟩,
              ⟨.callV, [.t 8 false, .t 14 false], .t, none⟩,
              ⟨(.faB 3 20), [.v 3 false], .t, none⟩,
              ⟨(.stB 3 1), [.t 16 false, .t 7 false], .none, none⟩,
              ⟨(.faB 3 21), [.v 3 false], .t, none⟩,
              ⟨(.stB 3 1), [.t 18 false, .t 15 false], .none, none⟩] true)
            (.seq
             (.reg [
               ⟨.mv, [.v 7 false], .t, none⟩,
               ⟨(.faB 1 8), [.v 1 false], .t, none⟩,
               ⟨(.ldB 1 1 false false), [.t 1 false, .v 1 false], .t, none⟩,
               ⟨(.bin .mul false), [.c (.sc (.int .i64 2)), .t 2 false], .t, none⟩,
               ⟨.callV, [.t 0 false, .t 3 false], .t, none⟩,
               ⟨.mv, [.v 7 false], .t, none⟩,
               ⟨(.faB 1 1), [.v 1 false], .t, none⟩,
               ⟨(.ldB 1 1 false false), [.t 6 false, .v 1 false], .t, none⟩,
               ⟨(.bin .mul false), [.c (.sc (.int .i64 8)), .t 7 false], .t, none⟩,
               ⟨.callV, [.t 5 false, .t 8 false], .t, none⟩,
               ⟨(.faB 3 22), [.v 3 false], .t, none⟩,
               ⟨(.stB 3 1), [.t 10 false, .t 4 false], .none, none⟩,
               ⟨(.faB 3 23), [.v 3 false], .t, none⟩,
               ⟨(.stB 3 1), [.t 12 false, .t 9 false], .none, none⟩] true)
             (.seq
              (.reg [
                ⟨(.ldP 1 false false), [.v 6 false], .t, none⟩,
                ⟨(.faB 3 24), [.v 3 false], .t, none⟩,
                ⟨(.stB 3 1), [.t 1 false, .t 0 false], .none, none⟩] false)
              (.seq
               (.reg [
                 ⟨(.ldB 3 25 true false), [.v 3 false], .t, none⟩,
                 ⟨(.stB 2 25), [.v 2 false, .t 0 false], .none, none⟩,
                 ⟨.mv, [.c (.sc (.int .i64 0))], (.v 4), none⟩] false)
               .ret))))))))))))) }

/-- underwood/ring.there -/
def ir23 : FnIR := { np := 3, nv := 5, slots := [0, 1, 2, 3, 6], res := [.v 4], body :=
  (.seq
   (.reg [
     ⟨(.bx 25), [.v 0 false], (.v 3), none⟩,
     ⟨.mv, [.c (.sc (.bool false))], (.v 4), none⟩] false)
   (.seq
    (.reg [
      ⟨(.ldB 3 25 true false), [.v 3 false], .t, none⟩,
      ⟨.mv, [.v 1 false], .t, none⟩,
      ⟨.mv, [.v 2 false], .t, none⟩,
      ⟨(.call 21), [.t 0 false, .t 1 false, .t 2 false], .t, none⟩,
      ⟨(.bin .geq false), [.t 3 false, .c (.sc (.int .i64 0))], .t, none⟩,
      ⟨.mv, [.t 4 false], .t, none⟩,
      ⟨.mv, [.v 2 false], .t, (some (5, true))⟩,
      ⟨(.call 10), [.t 6 false], .t, (some (5, true))⟩,
      ⟨(.bin .gtr false), [.t 7 false, .c (.sc (.int .i64 0))], .t, (some (5, true))⟩,
      ⟨.pick, [.t 5 false, .t 8 false, .c (.sc (.bool false))], .t, none⟩,
      ⟨.mv, [.t 9 false], (.v 4), none⟩] false)
    .ret)) }

/-- underwood/ring.place -/
def ir24 : FnIR := { np := 3, nv := 7, slots := [0, 1, 2, 3, 6, 7, 8], res := [.v 4], body :=
  (.seq
   (.reg [
     ⟨(.bx 25), [.v 0 false], (.v 3), none⟩,
     ⟨.mv, [.c (.sc .nilFunc)], (.v 4), none⟩] false)
   (.seq
    (.reg [
      ⟨(.ldB 3 25 true false), [.v 3 false], .t, none⟩,
      ⟨.mv, [.v 1 false], .t, none⟩,
      ⟨.mv, [.v 2 false], .t, none⟩,
      ⟨(.call 21), [.t 0 false, .t 1 false, .t 2 false], .t, none⟩,
      ⟨.mv, [.v 2 false], .t, none⟩,
      ⟨(.call 10), [.t 4 false], .t, none⟩,
      ⟨(.hp 1), [.c (.sc (.int .i64 0))], (.v 5), none⟩,
      ⟨(.hp 1), [.c (.sc (.int .i64 0))], (.v 6), none⟩,
      ⟨(.stP 1), [.v 5 false, .t 3 false], .none, none⟩,
      ⟨(.stP 1), [.v 6 false, .t 5 false], .none, none⟩] false)
    (.seq
     (.reg [
       ⟨(.mkFn (.func 33) 0), [.v 5 false, .v 6 false], .t, none⟩,
       ⟨.mv, [.t 0 false], (.v 4), none⟩] false)
     .ret))) }

/-- underwood/underwoodref14.Ring -/
def ir25 : FnIR := { np := 3, nv := 7, slots := [0, 1, 2, 3, 6, 23, 7], res := [.v 4], body :=
  (.seq
   (.reg [
     ⟨(.bx 25), [.v 0 false], (.v 3), none⟩,
     ⟨.mv, [.c (.sc (.int .i64 0))], (.v 4), none⟩] false)
   (.seq
    (.reg [
      ⟨(.ldB 3 25 true false), [.v 3 false], .t, none⟩,
      ⟨(.call 34), [.t 0 false], .t, none⟩,
      ⟨.mv, [.t 1 false], (.v 6), none⟩] false)
    (.seq
     (.seq
      (.reg [
        ⟨.mv, [.v 1 false], .t, none⟩,
        ⟨(.faB 3 0), [.v 3 false], .t, none⟩,
        ⟨(.fa 0), [.t 1 false], .t, none⟩,
        ⟨(.ldB 3 1 false false), [.t 2 false, .v 3 false], .t, none⟩,
        ⟨(.bin .sub false), [.t 3 false, .c (.sc (.int .i64 1))], .t, none⟩,
        ⟨(.call 35), [.t 0 false, .c (.sc (.int .i64 0)), .t 4 false], .t, none⟩,
        ⟨(.un .not), [.t 5 false], .t, none⟩,
        ⟨.mv, [.t 6 false], .t, none⟩,
        ⟨.mv, [.v 2 false], .t, (some (7, false))⟩,
        ⟨.mv, [.v 6 false], .t, (some (7, false))⟩,
        ⟨(.bin .sub false), [.t 9 false, .c (.sc (.int .i64 1))], .t, (some (7, false))⟩,
        ⟨(.call 35), [.t 8 false, .c (.sc (.int .i64 0)), .t 10 false], .t, (some (7, false))⟩,
        ⟨(.un .not), [.t 11 false], .t, (some (7, false))⟩,
        ⟨.pick, [.t 7 false, .c (.sc (.bool true)), .t 12 false], (.v 5), none⟩] false)
      (.cond (.v 5 false)
       (.seq
        (.reg [
          ⟨.mv, [.c (.sc (.int .i64 (-1)))], (.v 4), none⟩] false)
        .ret)
       .skip))
     (.seq
      (.reg [
        ⟨(.faB 3 17), [.v 3 false], .t, none⟩,
        ⟨(.ldB 3 1 false false), [.t 0 false, .v 3 false], .t, none⟩,
        ⟨.mv, [.v 1 false], .t, none⟩,
        ⟨.mv, [.v 6 false], .t, none⟩,
        ⟨(.call 36), [.t 3 false], .t, none⟩,
        ⟨(.bin .mul false), [.t 2 false, .t 4 false], .t, none⟩,
        ⟨(.bin .add false), [.t 1 false, .t 5 false], .t, none⟩,
        ⟨.mv, [.v 2 false], .t, none⟩,
        ⟨(.call 36), [.t 7 false], .t, none⟩,
        ⟨(.bin .add false), [.t 6 false, .t 8 false], .t, none⟩,
        ⟨.mv, [.t 9 false], (.v 4), none⟩] true)
      .ret)))) }

/-- underwood/ring.fits -/
def ir26 : FnIR := { np := 5, nv := 7, slots := [0, 1, 2, 3, 4, 5, 10], res := [.v 6], body :=
  (.seq
   (.reg [
     ⟨(.bx 25), [.v 0 false], (.v 5), none⟩,
     ⟨.mv, [.c (.sc (.bool false))], (.v 6), none⟩] false)
   (.seq
    (.reg [
      ⟨(.ldB 5 25 true false), [.v 5 false], .t, none⟩,
      ⟨.mv, [.v 1 false], .t, none⟩,
      ⟨.mv, [.v 2 false], .t, none⟩,
      ⟨(.call 23), [.t 0 false, .t 1 false, .t 2 false], .t, none⟩,
      ⟨.mv, [.t 3 false], .t, none⟩,
      ⟨.mv, [.v 3 false], .t, (some (4, true))⟩,
      ⟨(.bin .geq false), [.t 5 false, .c (.sc (.int .i64 0))], .t, (some (4, true))⟩,
      ⟨.pick, [.t 4 false, .t 6 false, .c (.sc (.bool false))], .t, none⟩,
      ⟨.mv, [.t 7 false], .t, none⟩,
      ⟨.mv, [.v 3 false], .t, (some (8, true))⟩,
      ⟨.mv, [.v 4 false], .t, (some (8, true))⟩,
      ⟨(.bin .leq false), [.t 9 false, .t 10 false], .t, (some (8, true))⟩,
      ⟨.pick, [.t 8 false, .t 11 false, .c (.sc (.bool false))], .t, none⟩,
      ⟨.mv, [.t 12 false], .t, none⟩,
      ⟨.mv, [.v 4 false], .t, (some (13, true))⟩,
      ⟨.mv, [.v 3 false], .t, (some (13, true))⟩,
      ⟨(.bin .sub false), [.t 14 false, .t 15 false], .t, (some (13, true))⟩,
      ⟨.mv, [.v 2 false], .t, (some (13, true))⟩,
      ⟨(.call 10), [.t 17 false], .t, (some (13, true))⟩,
      ⟨(.bin .leq false), [.t 16 false, .t 18 false], .t, (some (13, true))⟩,
      ⟨.pick, [.t 13 false, .t 19 false, .c (.sc (.bool false))], .t, none⟩,
      ⟨.mv, [.t 20 false], (.v 6), none⟩] false)
    .ret)) }

/-- underwood/underwoodref17.Fits -/
def ir27 : FnIR := { np := 5, nv := 9, slots := [0, 1, 2, 3, 4, 5, 10, 11, 12], res := [.v 6], body :=
  (.seq
   (.reg [
     ⟨(.bx 25), [.v 0 false], (.v 5), none⟩,
     ⟨.mv, [.c (.sc (.bool false))], (.v 6), none⟩] false)
   (.seq
    (.reg [
      ⟨(.ldB 5 25 true false), [.v 5 false], .t, none⟩,
      ⟨.mv, [.v 1 false], .t, none⟩,
      ⟨.mv, [.v 2 false], .t, none⟩,
      ⟨(.call 25), [.t 0 false, .t 1 false, .t 2 false], .t, none⟩,
      ⟨.mv, [.t 3 false], (.v 7), none⟩] false)
    (.seq
     (.reg [
       ⟨.mv, [.v 2 false], .t, none⟩,
       ⟨(.call 11), [.t 0 false], .t, none⟩,
       ⟨.mv, [.t 1 false], (.v 8), none⟩] false)
     (.seq
      (.reg [
        ⟨.mv, [.v 7 false], .t, none⟩,
        ⟨(.bin .geq false), [.t 0 false, .c (.sc (.int .i64 0))], .t, none⟩,
        ⟨.mv, [.t 1 false], .t, none⟩,
        ⟨.mv, [.v 8 false], .t, (some (2, true))⟩,
        ⟨(.bin .gtr false), [.t 3 false, .c (.sc (.int .i64 0))], .t, (some (2, true))⟩,
        ⟨.pick, [.t 2 false, .t 4 false, .c (.sc (.bool false))], .t, none⟩,
        ⟨.mv, [.t 5 false], .t, none⟩,
        ⟨.mv, [.v 3 false], .t, (some (6, true))⟩,
        ⟨(.bin .geq false), [.t 7 false, .c (.sc (.int .i64 0))], .t, (some (6, true))⟩,
        ⟨.pick, [.t 6 false, .t 8 false, .c (.sc (.bool false))], .t, none⟩,
        ⟨.mv, [.t 9 false], .t, none⟩,
        ⟨.mv, [.v 3 false], .t, (some (10, true))⟩,
        ⟨.mv, [.v 4 false], .t, (some (10, true))⟩,
        ⟨(.bin .leq false), [.t 11 false, .t 12 false], .t, (some (10, true))⟩,
        ⟨.pick, [.t 10 false, .t 13 false, .c (.sc (.bool false))], .t, none⟩,
        ⟨.mv, [.t 14 false], .t, none⟩,
        ⟨.mv, [.v 4 false], .t, (some (15, true))⟩,
        ⟨.mv, [.v 3 false], .t, (some (15, true))⟩,
        ⟨(.bin .sub false), [.t 16 false, .t 17 false], .t, (some (15, true))⟩,
        ⟨.mv, [.v 8 false], .t, (some (15, true))⟩,
        ⟨(.bin .leq false), [.t 18 false, .t 19 false], .t, (some (15, true))⟩,
        ⟨.pick, [.t 15 false, .t 20 false, .c (.sc (.bool false))], .t, none⟩,
        ⟨.mv, [.t 21 false], (.v 6), none⟩] false)
      .ret)))) }

def ir28_l0 : IR :=
        (.seq
         (.seq
          (.reg [
            ⟨.mv, [.v 3 false], .t, none⟩,
            ⟨.mv, [.v 0 false], .t, none⟩,
            ⟨(.bin .lss false), [.t 0 false, .t 1 false], (.v 2), none⟩] false)
          (.cond (.v 2 false)
           .skip
           (.exit 0)))
         (.seq
          (.block 1
           (.reg [
             ⟨.mv, [.v 4 false], .t, none⟩,
             ⟨(.bin .add false), [.t 0 false, .c (.sc (.int .i64 1))], .t, none⟩,
             ⟨.mv, [.t 1 false], (.v 4), none⟩] false))
          (.reg [
            ⟨.mv, [.v 3 false], .t, none⟩,
            ⟨(.bin .mul false), [.t 0 false, .c (.sc (.int .i64 2))], .t, none⟩,
            ⟨.mv, [.t 1 false], (.v 3), none⟩] false)))

/-- underwood/layout.rings -/
def ir28 : FnIR := { np := 1, nv := 5, slots := [0, 2, 7, 4, 3], res := [.v 1], body :=
  (.seq
   (.reg [
     ⟨.mv, [.c (.sc (.int .i64 0))], (.v 1), none⟩] false)
   (.seq
    (.reg [
      ⟨.mv, [.c (.sc (.int .i64 1))], (.v 4), none⟩] false)
    (.seq
     (.seq
      (.reg [
        ⟨.mv, [.c (.sc (.int .i64 4))], (.v 3), none⟩] false)
      (.block 0
       (.loop ir28_l0)))
     (.seq
      (.reg [
        ⟨.mv, [.v 4 false], .t, none⟩,
        ⟨.mv, [.t 0 false], (.v 1), none⟩] false)
      .ret)))) }

/-- underwood/layout.place -/
def ir29 : FnIR := { np := 5, nv := 7, slots := [0, 1, 2, 3, 4, 10, 22], res := [.v 5], body :=
  (.seq
   (.reg [
     ⟨.mv, [.c (.sc (.int .i64 0))], (.v 5), none⟩] false)
   (.seq
    (.seq
     (.reg [
       ⟨.mv, [.v 3 false], .t, none⟩,
       ⟨.mv, [.v 1 false], .t, none⟩,
       ⟨(.bin .sub false), [.t 1 false, .c (.sc (.int .i64 1))], .t, none⟩,
       ⟨(.call 30), [.t 0 false, .c (.sc (.int .i64 0)), .t 2 false], .t, none⟩,
       ⟨(.un .not), [.t 3 false], .t, none⟩,
       ⟨.mv, [.t 4 false], .t, none⟩,
       ⟨.mv, [.v 4 false], .t, (some (5, false))⟩,
       ⟨.mv, [.v 2 false], .t, (some (5, false))⟩,
       ⟨(.bin .sub false), [.t 7 false, .c (.sc (.int .i64 1))], .t, (some (5, false))⟩,
       ⟨(.call 30), [.t 6 false, .c (.sc (.int .i64 0)), .t 8 false], .t, (some (5, false))⟩,
       ⟨(.un .not), [.t 9 false], .t, (some (5, false))⟩,
       ⟨.pick, [.t 5 false, .c (.sc (.bool true)), .t 10 false], (.v 6), none⟩] false)
     (.cond (.v 6 false)
      (.seq
       (.reg [
         ⟨.mv, [.c (.sc (.int .i64 (-1)))], (.v 5), none⟩] false)
       .ret)
      .skip))
    (.seq
     (.reg [
       ⟨.mv, [.v 0 false], .t, none⟩,
       ⟨.mv, [.v 2 false], .t, none⟩,
       ⟨.mv, [.v 3 false], .t, none⟩,
       ⟨(.bin .mul false), [.t 1 false, .t 2 false], .t, none⟩,
       ⟨(.bin .add false), [.t 0 false, .t 3 false], .t, none⟩,
       ⟨.mv, [.v 4 false], .t, none⟩,
       ⟨(.bin .add false), [.t 4 false, .t 5 false], .t, none⟩,
       ⟨.mv, [.t 6 false], (.v 5), none⟩] false)
     .ret))) }

/-- underwood/layout.within -/
def ir30 : FnIR := { np := 3, nv := 4, slots := [0, 1, 2, 6], res := [.v 3], body :=
  (.seq
   (.reg [
     ⟨.mv, [.c (.sc (.bool false))], (.v 3), none⟩] false)
   (.seq
    (.reg [
      ⟨.mv, [.v 0 false], .t, none⟩,
      ⟨.mv, [.v 1 false], .t, none⟩,
      ⟨(.bin .geq false), [.t 0 false, .t 1 false], .t, none⟩,
      ⟨.mv, [.t 2 false], .t, none⟩,
      ⟨.mv, [.v 0 false], .t, (some (3, true))⟩,
      ⟨.mv, [.v 2 false], .t, (some (3, true))⟩,
      ⟨(.bin .leq false), [.t 4 false, .t 5 false], .t, (some (3, true))⟩,
      ⟨.pick, [.t 3 false, .t 6 false, .c (.sc (.bool false))], .t, none⟩,
      ⟨.mv, [.t 7 false], (.v 3), none⟩] false)
    .ret)) }

def ir31_l0 : IR :=
        (.seq
         (.reg [
           ⟨(.bin .lss false), [.v 7 false, .c (.sc (.int .i64 8))], (.v 5), none⟩] false)
         (.seq
          (.cond (.v 5 false)
           .skip
           (.exit 0))
          (.seq
           (.block 1
            (.seq
             (.reg [
               ⟨(.ix 8 3 true), [.v 8 false, .v 7 false], .t, none⟩,
               ⟨(.bx 3), [.c (.agg [(.sc (.int .i64 0)), (.sc (.int .i64 0)), (.sc (.int .i64 0))])], (.v 3), none⟩,
               ⟨(.stB 3 3), [.v 3 false, .t 0 false], .none, none⟩] false)
             (.seq
              (.reg [
                ⟨(.iaB 3 3 1), [.v 3 false, .c (.sc (.int .i64 0))], .t, none⟩,
                ⟨(.ldB 3 1 false false), [.t 0 false, .v 3 false], .t, none⟩,
                ⟨(.iaB 3 3 1), [.v 3 false, .c (.sc (.int .i64 1))], .t, none⟩,
                ⟨(.ldB 3 1 false false), [.t 2 false, .v 3 false], .t, none⟩,
                ⟨(.iaB 3 3 1), [.v 3 false, .c (.sc (.int .i64 2))], .t, none⟩,
                ⟨(.ldB 3 1 false false), [.t 4 false, .v 3 false], .t, none⟩,
                ⟨(.call 30), [.t 1 false, .t 3 false, .t 5 false], .t, none⟩,
                ⟨(.un .not), [.t 6 false], (.v 6), none⟩] false)
              (.cond (.v 6 false)
               (.seq
                (.reg [
                  ⟨.mv, [.c (.sc (.bool false))], (.v 4), none⟩] false)
                .ret)
               .skip))))
           (.reg [
             ⟨(.bin .add false), [.v 7 false, .c (.sc (.int .i64 1))], .t, none⟩,
             ⟨.mv, [.t 0 false], (.v 7), none⟩] false))))

/-- underwood/layout.may -/
def ir31 : FnIR := { np := 1, nv := 9, slots := [0, 1, 3, 5, 2, 33, 42, 32, 31], res := [.v 4], body :=
  (.seq
   (.reg [
     ⟨(.bx 9), [.v 0 false], (.v 1), none⟩,
     ⟨.mv, [.c (.sc (.bool false))], (.v 4), none⟩] false)
   (.seq
    (.reg [
      ⟨(.faB 1 0), [.v 1 false], .t, none⟩,
      ⟨(.ldB 1 1 false false), [.t 0 false, .v 1 false], .t, none⟩,
      ⟨(.build [(.sc (.int .i64 0)), (.sc (.int .i64 0)), (.sc (.int .i64 0))] [(0, 1), (1, 1), (2, 1)]), [.t 1 false, .c (.sc (.int .i64 1)), .c (.sc (.int .i64 8))], .t, none⟩,
      ⟨(.faB 1 2), [.v 1 false], .t, none⟩,
      ⟨(.ldB 1 1 false false), [.t 3 false, .v 1 false], .t, none⟩,
      ⟨(.build [(.sc (.int .i64 0)), (.sc (.int .i64 0)), (.sc (.int .i64 0))] [(0, 1), (1, 1), (2, 1)]), [.t 4 false, .c (.sc (.int .i64 1)), .c (.sc (.int .i64 64))], .t, none⟩,
      ⟨(.faB 1 3), [.v 1 false], .t, none⟩,
      ⟨(.ldB 1 1 false false), [.t 6 false, .v 1 false], .t, none⟩,
      ⟨(.build [(.sc (.int .i64 0)), (.sc (.int .i64 0)), (.sc (.int .i64 0))] [(0, 1), (1, 1), (2, 1)]), [.t 7 false, .c (.sc (.int .i64 1)), .c (.sc (.int .i64 8))], .t, none⟩,
      ⟨(.faB 1 4), [.v 1 false], .t, none⟩,
      ⟨(.ldB 1 1 false false), [.t 9 false, .v 1 false], .t, none⟩,
      ⟨(.build [(.sc (.int .i64 0)), (.sc (.int .i64 0)), (.sc (.int .i64 0))] [(0, 1), (1, 1), (2, 1)]), [.t 10 false, .c (.sc (.int .i64 1)), .c (.sc (.int .i64 64))], .t, none⟩,
      ⟨(.faB 1 5), [.v 1 false], .t, none⟩,
      ⟨(.ldB 1 1 false false), [.t 12 false, .v 1 false], .t, none⟩,
      ⟨(.build [(.sc (.int .i64 0)), (.sc (.int .i64 0)), (.sc (.int .i64 0))] [(0, 1), (1, 1), (2, 1)]), [.t 13 false, .c (.sc (.int .i64 0)), .c (.sc (.int .i64 16))], .t, none⟩,
      ⟨(.faB 1 6), [.v 1 false], .t, none⟩,
      ⟨(.ldB 1 1 false false), [.t 15 false, .v 1 false], .t, none⟩,
      ⟨(.build [(.sc (.int .i64 0)), (.sc (.int .i64 0)), (.sc (.int .i64 0))] [(0, 1), (1, 1), (2, 1)]), [.t 16 false, .c (.sc (.int .i64 0)), .c (.sc (.int .i64 8))], .t, none⟩,
      ⟨(.faB 1 7), [.v 1 false], .t, none⟩,
      ⟨(.ldB 1 1 false false), [.t 18 false, .v 1 false], .t, none⟩,
      ⟨(.build [(.sc (.int .i64 0)), (.sc (.int .i64 0)), (.sc (.int .i64 0))] [(0, 1), (1, 1), (2, 1)]), [.t 19 false, .c (.sc (.int .i64 0)), .c (.sc (.int .i64 8))], .t, none⟩,
      ⟨(.faB 1 8), [.v 1 false], .t, none⟩,
      ⟨(.ldB 1 1 false false), [.t 21 false, .v 1 false], .t, none⟩,
      ⟨(.build [(.sc (.int .i64 0)), (.sc (.int .i64 0)), (.sc (.int .i64 0))] [(0, 1), (1, 1), (2, 1)]), [.t 22 false, .c (.sc (.int .i64 0)), .c (.sc (.int .i64 8))], .t, none⟩,
      ⟨(.build [(.sc (.int .i64 0)), (.sc (.int .i64 0)), (.sc (.int .i64 0)), (.sc (.int .i64 0)), (.sc (.int .i64 0)), (.sc (.int .i64 0)), (.sc (.int .i64 0)), (.sc (.int .i64 0)), (.sc (.int .i64 0)), (.sc (.int .i64 0)), (.sc (.int .i64 0)), (.sc (.int .i64 0)), (.sc (.int .i64 0)), (.sc (.int .i64 0)), (.sc (.int .i64 0)), (.sc (.int .i64 0)), (.sc (.int .i64 0)), (.sc (.int .i64 0)), (.sc (.int .i64 0)), (.sc (.int .i64 0)), (.sc (.int .i64 0)), (.sc (.int .i64 0)), (.sc (.int .i64 0)), (.sc (.int .i64 0))] [(0, 3), (3, 3), (6, 3), (9, 3), (12, 3), (15, 3), (18, 3), (21, 3)]), [.t 2 false, .t 5 false, .t 8 false, .t 11 false, .t 14 false, .t 17 false, .t 20 false, .t 23 false], .t, none⟩,
      ⟨(.bx 24), [.c (.agg [(.sc (.int .i64 0)), (.sc (.int .i64 0)), (.sc (.int .i64 0)), (.sc (.int .i64 0)), (.sc (.int .i64 0)), (.sc (.int .i64 0)), (.sc (.int .i64 0)), (.sc (.int .i64 0)), (.sc (.int .i64 0)), (.sc (.int .i64 0)), (.sc (.int .i64 0)), (.sc (.int .i64 0)), (.sc (.int .i64 0)), (.sc (.int .i64 0)), (.sc (.int .i64 0)), (.sc (.int .i64 0)), (.sc (.int .i64 0)), (.sc (.int .i64 0)), (.sc (.int .i64 0)), (.sc (.int .i64 0)), (.sc (.int .i64 0)), (.sc (.int .i64 0)), (.sc (.int .i64 0)), (.sc (.int .i64 0))])], (.v 2), none⟩,
      ⟨(.stB 2 24), [.v 2 false, .t 24 false], .none, none⟩] false)
    (.seq
     (.seq
      (.reg [
        ⟨(.ldB 2 24 true false), [.v 2 false], (.v 8), none⟩,
        ⟨.mv, [.c (.sc (.int .i64 0))], (.v 7), none⟩] false)
      (.block 0
       (.loop ir31_l0)))
     (.seq
      (.reg [
        ⟨(.faB 1 2), [.v 1 false], .t, none⟩,
        ⟨(.ldB 1 1 false false), [.t 0 false, .v 1 false], .t, none⟩,
        ⟨(.faB 1 2), [.v 1 false], .t, none⟩,
        ⟨(.ldB 1 1 false false), [.t 2 false, .v 1 false], .t, none⟩,
        ⟨(.bin .sub false), [.t 3 false, .c (.sc (.int .i64 1))], .t, none⟩,
        ⟨(.bin .and false), [.t 1 false, .t 4 false], .t, none⟩,
        ⟨(.bin .eql false), [.t 5 false, .c (.sc (.int .i64 0))], .t, none⟩,
        ⟨.mv, [.t 6 false], (.v 4), none⟩] false)
      .ret)))) }

/-- underwood/layout.Of$1 -/
def ir32 : FnIR := { np := 2, nv := 3, slots := [0, 1, 3], res := [.v 2], body :=
  (.seq
   (.reg [
     ⟨.mv, [.c (.sc (.int .i64 0))], (.v 2), none⟩] false)
   (.seq
    (.reg [
      ⟨(.ldP 1 false false), [.v 1 false], .t, none⟩,
      ⟨.mv, [.v 0 false], .t, none⟩,
      ⟨(.bin .add false), [.t 0 false, .t 1 false], .t, none⟩,
      ⟨(.stP 1), [.v 1 false, .t 2 false], .none, none⟩] false)
    (.seq
     (.reg [
       ⟨(.ldP 1 false false), [.v 1 false], .t, none⟩,
       ⟨.mv, [.v 0 false], .t, none⟩,
       ⟨(.bin .sub false), [.t 0 false, .t 1 false], .t, none⟩,
       ⟨.mv, [.t 2 false], (.v 2), none⟩] false)
     .ret))) }

/-- underwood/ring.place$1 -/
def ir33 : FnIR := { np := 3, nv := 4, slots := [0, 1, 2, 4], res := [.v 3], body :=
  (.seq
   (.reg [
     ⟨.mv, [.c (.sc (.int .i64 0))], (.v 3), none⟩] false)
   (.seq
    (.reg [
      ⟨(.ldP 1 false false), [.v 1 false], .t, none⟩,
      ⟨.mv, [.v 0 false], .t, none⟩,
      ⟨(.ldP 1 false false), [.v 2 false], .t, none⟩,
      ⟨(.bin .rem false), [.t 1 false, .t 2 false], .t, none⟩,
      ⟨(.bin .add false), [.t 0 false, .t 3 false], .t, none⟩,
      ⟨.mv, [.t 4 false], (.v 3), none⟩] true)
    .ret)) }

def ir34_l0 : IR :=
        (.seq
         (.seq
          (.reg [
            ⟨.mv, [.v 4 false], .t, none⟩,
            ⟨(.faB 1 0), [.v 1 false], .t, none⟩,
            ⟨(.fa 4), [.t 1 false], .t, none⟩,
            ⟨(.ldB 1 1 false false), [.t 2 false, .v 1 false], .t, none⟩,
            ⟨(.bin .lss false), [.t 0 false, .t 3 false], .t, none⟩,
            ⟨.mv, [.t 4 false], .t, none⟩,
            ⟨.mv, [.v 5 false], .t, (some (5, true))⟩,
            ⟨(.bin .lss false), [.t 6 false, .c (.sc (.int .i64 40))], .t, (some (5, true))⟩,
            ⟨.pick, [.t 5 false, .t 7 false, .c (.sc (.bool false))], (.v 3), none⟩] false)
          (.cond (.v 3 false)
           .skip
           (.exit 0)))
         (.block 1
          (.seq
           (.reg [
             ⟨.mv, [.v 4 false], .t, none⟩,
             ⟨(.bin .mul false), [.c (.sc (.int .i64 2)), .t 0 false], .t, none⟩,
             ⟨.mv, [.t 1 false], (.v 4), none⟩] false)
           (.reg [
             ⟨.mv, [.v 5 false], .t, none⟩,
             ⟨(.bin .add false), [.t 0 false, .c (.sc (.int .i64 1))], .t, none⟩,
             ⟨.mv, [.t 1 false], (.v 5), none⟩] false))))

/-- underwood/underwoodref14.Rings -/
def ir34 : FnIR := { np := 1, nv := 6, slots := [0, 1, 2, 13, 4, 3], res := [.v 2], body :=
  (.seq
   (.reg [
     ⟨(.bx 25), [.v 0 false], (.v 1), none⟩,
     ⟨.mv, [.c (.sc (.int .i64 0))], (.v 2), none⟩] false)
   (.seq
    (.reg [
      ⟨.mv, [.c (.sc (.int .i64 1))], (.v 5), none⟩] false)
    (.seq
     (.reg [
       ⟨.mv, [.c (.sc (.int .i64 4))], (.v 4), none⟩] false)
     (.seq
      (.block 0
       (.loop ir34_l0))
      (.seq
       (.reg [
         ⟨.mv, [.v 5 false], .t, none⟩,
         ⟨.mv, [.t 0 false], (.v 2), none⟩] false)
       .ret))))) }

/-- underwood/underwoodref14.in -/
def ir35 : FnIR := { np := 3, nv := 4, slots := [0, 1, 2, 6], res := [.v 3], body :=
  (.seq
   (.reg [
     ⟨.mv, [.c (.sc (.bool false))], (.v 3), none⟩] false)
   (.seq
    (.reg [
      ⟨.mv, [.v 0 false], .t, none⟩,
      ⟨.mv, [.v 1 false], .t, none⟩,
      ⟨(.bin .geq false), [.t 0 false, .t 1 false], .t, none⟩,
      ⟨.mv, [.t 2 false], .t, none⟩,
      ⟨.mv, [.v 0 false], .t, (some (3, true))⟩,
      ⟨.mv, [.v 2 false], .t, (some (3, true))⟩,
      ⟨(.bin .leq false), [.t 4 false, .t 5 false], .t, (some (3, true))⟩,
      ⟨.pick, [.t 3 false, .t 6 false, .c (.sc (.bool false))], .t, none⟩,
      ⟨.mv, [.t 7 false], (.v 3), none⟩] false)
    .ret)) }

def ir36_l0 : IR :=
         (.seq
          (.seq
           (.reg [
             ⟨.mv, [.v 3 false], .t, none⟩,
             ⟨.mv, [.v 0 false], .t, none⟩,
             ⟨(.bin .lss false), [.t 0 false, .t 1 false], (.v 2), none⟩] false)
           (.cond (.v 2 false)
            .skip
            (.exit 0)))
          (.seq
           (.block 1
            (.seq
             (.reg [
               ⟨.mv, [.v 4 false], .t, none⟩,
               ⟨.mv, [.v 5 false], .t, none⟩,
               ⟨(.bin .add false), [.t 0 false, .t 1 false], .t, none⟩,
               ⟨.mv, [.t 2 false], (.v 4), none⟩] false)
             (.reg [
               ⟨.mv, [.v 5 false], .t, none⟩,
               ⟨(.bin .mul false), [.c (.sc (.int .i64 2)), .t 0 false], .t, none⟩,
               ⟨.mv, [.t 1 false], (.v 5), none⟩] false)))
           (.reg [
             ⟨.mv, [.v 3 false], .t, none⟩,
             ⟨(.bin .add false), [.t 0 false, .c (.sc (.int .i64 1))], .t, none⟩,
             ⟨.mv, [.t 1 false], (.v 3), none⟩] false)))

/-- underwood/underwoodref14.room -/
def ir36 : FnIR := { np := 1, nv := 6, slots := [0, 2, 8, 5, 3, 4], res := [.v 1], body :=
  (.seq
   (.reg [
     ⟨.mv, [.c (.sc (.int .i64 0))], (.v 1), none⟩] false)
   (.seq
    (.reg [
      ⟨.mv, [.c (.sc (.int .i64 0))], (.v 4), none⟩] false)
    (.seq
     (.reg [
       ⟨.mv, [.c (.sc (.int .i64 4))], (.v 5), none⟩] false)
     (.seq
      (.seq
       (.reg [
         ⟨.mv, [.c (.sc (.int .i64 0))], (.v 3), none⟩] false)
       (.block 0
        (.loop ir36_l0)))
      (.seq
       (.reg [
         ⟨.mv, [.v 4 false], .t, none⟩,
         ⟨.mv, [.t 0 false], (.v 1), none⟩] false)
       .ret))))) }

def fns : FuncId → Option FnIR
  | 3 => some ir3
  | 4 => some ir4
  | 5 => some ir5
  | 6 => some ir6
  | 7 => some ir7
  | 8 => some ir8
  | 9 => some ir9
  | 10 => some ir10
  | 11 => some ir11
  | 12 => some ir12
  | 13 => some ir13
  | 14 => some ir14
  | 15 => some ir15
  | 16 => some ir16
  | 17 => some ir17
  | 18 => some ir18
  | 19 => some ir19
  | 20 => some ir20
  | 21 => some ir21
  | 22 => some ir22
  | 23 => some ir23
  | 24 => some ir24
  | 25 => some ir25
  | 26 => some ir26
  | 27 => some ir27
  | 28 => some ir28
  | 29 => some ir29
  | 30 => some ir30
  | 31 => some ir31
  | 32 => some ir32
  | 33 => some ir33
  | 34 => some ir34
  | 35 => some ir35
  | 36 => some ir36
  | _ => none
end Go.D.Ring
