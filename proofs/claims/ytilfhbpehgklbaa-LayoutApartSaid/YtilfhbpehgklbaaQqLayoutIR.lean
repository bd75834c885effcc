/- The small forms of this seat's functions. -/
import Derived.Test.YtilfhbpehgklbaaQqDv
set_option linter.unusedSimpArgs false
set_option linter.unusedVariables false
namespace Go.D.Layout
open Go.D
/-- underwood/underwoodlaw14.LayoutRight -/
def ir3 : FnIR := { np := 3, nv := 17, slots := [0, 1, 2, 3, 8, 10, 6, 22, 37, 44, 51, 58, 65, 72, 9, 7, 36], res := [.v 6], body :=
  (.seq
   (.reg [
     ⟨(.bx 9), [.v 0 false], (.v 3), none⟩,
     ⟨.mv, [.c (.sc (.bool false))], (.v 6), none⟩] false)
   (.seq
    (.reg [
      ⟨(.call 9), [], .t, none⟩,
      ⟨.mv, [.t 0 false], (.v 15), none⟩] false)
    (.seq
     (.reg [
       ⟨(.ldB 3 9 true false), [.v 3 false], .t, none⟩,
       ⟨(.call 10), [.t 0 false], .t, none⟩,
       ⟨.mv, [.t 1 false], .t, none⟩,
       ⟨(.ext 0), [.t 2 false], .t, none⟩,
       ⟨(.ext 1), [.t 2 false], .t, none⟩,
       ⟨(.bx 25), [.c (.agg [(.sc (.int .i64 0)), (.sc (.int .i64 0)), (.sc (.int .i64 0)), (.sc (.int .i64 0)), (.sc (.int .i64 0)), (.sc (.int .i64 0)), (.sc (.int .i64 0)), (.sc (.int .i64 0)), (.sc (.int .i64 0)), (.sc (.int .i64 0)), (.sc (.int .i64 0)), (.sc (.int .i64 0)), (.sc (.int .i64 0)), (.sc (.int .i64 0)), (.sc (.int .i64 0)), (.sc (.int .i64 0)), (.sc (.int .i64 0)), (.sc (.int .i64 0)), (.sc (.int .i64 0)), (.sc (.int .i64 0)), (.sc (.int .i64 0)), (.sc (.int .i64 0)), (.sc (.int .i64 0)), (.sc (.int .i64 0)), (.sc (.int .i64 0))])], (.v 4), none⟩,
       ⟨(.stB 4 25), [.v 4 false, .t 3 false], .none, none⟩,
       ⟨.mv, [.t 4 false], (.v 14), none⟩] false)
     (.seq
      (.seq
       (.reg [
         ⟨.mv, [.v 14 false], .t, none⟩,
         ⟨(.bin .neq false), [.t 0 false, .c (.sc (.int .i64 0))], .t, none⟩,
         ⟨.mv, [.t 1 false], .t, none⟩,
         ⟨.mv, [.v 2 false], .t, (some (2, false))⟩,
         ⟨(.bin .eql false), [.t 3 false, .c (.sc (.int .i64 0))], .t, (some (2, false))⟩,
         ⟨.pick, [.t 2 false, .c (.sc (.bool true)), .t 4 false], (.v 7), none⟩] false)
       (.cond (.v 7 false)
        (.seq
         (.reg [
           ⟨.mv, [.v 15 false], .t, none⟩,
           ⟨.mv, [.t 0 false], .t, none⟩,
           ⟨.mv, [.v 14 false], .t, (some (1, true))⟩,
           ⟨(.bin .eql false), [.t 2 false, .c (.sc (.int .i64 0))], .t, (some (1, true))⟩,
           ⟨.mv, [.t 3 false], .t, (some (1, true))⟩,
           ⟨(.ldB 3 9 true false), [.v 3 false], .t, (some (4, false))⟩,
           ⟨(.build [(.sc (.int .i64 0)), (.sc (.int .i64 0)), (.sc (.int .i64 0)), (.sc (.int .i64 0)), (.sc (.int .i64 0)), (.sc (.int .i64 0)), (.sc (.int .i64 0)), (.sc (.int .i64 0)), (.sc (.int .i64 0)), (.sc (.int .i64 0)), (.sc (.int .i64 0)), (.sc (.int .i64 0)), (.sc (.int .i64 0)), (.sc (.int .i64 0)), (.sc (.int .i64 0)), (.sc (.int .i64 0)), (.sc (.int .i64 0)), (.sc (.int .i64 0)), (.sc (.int .i64 0)), (.sc (.int .i64 0)), (.sc (.int .i64 0)), (.sc (.int .i64 0)), (.sc (.int .i64 0)), (.sc (.int .i64 0)), (.sc (.int .i64 0))] [(0, 9)]), [.t 5 false], .t, (some (4, false))⟩,
           ⟨(.call 11), [.t 6 false], .t, (some (4, false))⟩,
           ⟨(.un .not), [.t 7 false], .t, (some (4, false))⟩,
           ⟨.pick, [.t 4 false, .c (.sc (.bool true)), .t 8 false], .t, (some (1, true))⟩,
           ⟨.pick, [.t 1 false, .t 9 false, .c (.sc (.bool false))], .t, none⟩,
           ⟨.mv, [.t 10 false], (.v 6), none⟩] false)
         .ret)
        .skip))
      (.seq
       (.reg [
         ⟨(.ldB 4 25 true false), [.v 4 false], .t, none⟩,
         ⟨(.bx 25), [.c (.agg [(.sc (.int .i64 0)), (.sc (.int .i64 0)), (.sc (.int .i64 0)), (.sc (.int .i64 0)), (.sc (.int .i64 0)), (.sc (.int .i64 0)), (.sc (.int .i64 0)), (.sc (.int .i64 0)), (.sc (.int .i64 0)), (.sc (.int .i64 0)), (.sc (.int .i64 0)), (.sc (.int .i64 0)), (.sc (.int .i64 0)), (.sc (.int .i64 0)), (.sc (.int .i64 0)), (.sc (.int .i64 0)), (.sc (.int .i64 0)), (.sc (.int .i64 0)), (.sc (.int .i64 0)), (.sc (.int .i64 0)), (.sc (.int .i64 0)), (.sc (.int .i64 0)), (.sc (.int .i64 0)), (.sc (.int .i64 0)), (.sc (.int .i64 0))])], (.v 5), none⟩,
         ⟨(.stB 5 25), [.v 5 false, .t 0 false], .none, none⟩] false)
       (.seq
        (.seq
         (.reg [
           ⟨.mv, [.v 1 false], .t, none⟩,
           ⟨(.bin .rem false), [.t 0 false, .c (.sc (.int .u8 6))], (.v 16), none⟩] false)
         (.block 0
          (.seq
           (.reg [
             ⟨(.bin .eql false), [.v 16 false, .c (.sc (.int .u8 0))], .t, none⟩,
             ⟨.mv, [.t 0 false], (.v 8), none⟩] false)
           (.cond (.v 8 false)
            (.reg [
              ⟨(.faB 5 17), [.v 5 false], .t, none⟩,
              ⟨(.ldB 5 1 false false), [.t 0 false, .v 5 false], .t, none⟩,
              ⟨.mv, [.v 2 false], .t, none⟩,
              ⟨(.bin .add false), [.t 1 false, .t 2 false], .t, none⟩,
              ⟨(.faB 5 17), [.v 5 false], .t, none⟩,
              ⟨(.stB 5 1), [.t 4 false, .t 3 false], .none, none⟩] false)
            (.seq
             (.reg [
               ⟨(.bin .eql false), [.v 16 false, .c (.sc (.int .u8 1))], .t, none⟩,
               ⟨.mv, [.t 0 false], (.v 9), none⟩] false)
             (.cond (.v 9 false)
              (.reg [
                ⟨(.faB 5 24), [.v 5 false], .t, none⟩,
                ⟨(.ldB 5 1 false false), [.t 0 false, .v 5 false], .t, none⟩,
                ⟨.mv, [.v 2 false], .t, none⟩,
                ⟨(.bin .add false), [.t 1 false, .t 2 false], .t, none⟩,
                ⟨(.faB 5 24), [.v 5 false], .t, none⟩,
                ⟨(.stB 5 1), [.t 4 false, .t 3 false], .none, none⟩] false)
              (.seq
               (.reg [
                 ⟨(.bin .eql false), [.v 16 false, .c (.sc (.int .u8 2))], .t, none⟩,
                 ⟨.mv, [.t 0 false], (.v 10), none⟩] false)
               (.cond (.v 10 false)
                (.reg [
                  ⟨(.faB 5 9), [.v 5 false], .t, none⟩,
                  ⟨(.ldB 5 1 false false), [.t 0 false, .v 5 false], .t, none⟩,
                  ⟨.mv, [.v 2 false], .t, none⟩,
                  ⟨(.bin .add false), [.t 1 false, .t 2 false], .t, none⟩,
                  ⟨(.faB 5 9), [.v 5 false], .t, none⟩,
                  ⟨(.stB 5 1), [.t 4 false, .t 3 false], .none, none⟩] false)
                (.seq
                 (.reg [
                   ⟨(.bin .eql false), [.v 16 false, .c (.sc (.int .u8 3))], .t, none⟩,
                   ⟨.mv, [.t 0 false], (.v 11), none⟩] false)
                 (.cond (.v 11 false)
                  (.reg [
                    ⟨(.faB 5 23), [.v 5 false], .t, none⟩,
                    ⟨(.ldB 5 1 false false), [.t 0 false, .v 5 false], .t, none⟩,
                    ⟨.mv, [.v 2 false], .t, none⟩,
                    ⟨(.bin .add false), [.t 1 false, .t 2 false], .t, none⟩,
                    ⟨(.faB 5 23), [.v 5 false], .t, none⟩,
                    ⟨(.stB 5 1), [.t 4 false, .t 3 false], .none, none⟩] false)
                  (.seq
                   (.reg [
                     ⟨(.bin .eql false), [.v 16 false, .c (.sc (.int .u8 4))], .t, none⟩,
                     ⟨.mv, [.t 0 false], (.v 12), none⟩] false)
                   (.cond (.v 12 false)
                    (.reg [
                      ⟨(.faB 5 20), [.v 5 false], .t, none⟩,
                      ⟨(.ldB 5 1 false false), [.t 0 false, .v 5 false], .t, none⟩,
                      ⟨.mv, [.v 2 false], .t, none⟩,
                      ⟨(.bin .add false), [.t 1 false, .t 2 false], .t, none⟩,
                      ⟨(.faB 5 20), [.v 5 false], .t, none⟩,
                      ⟨(.stB 5 1), [.t 4 false, .t 3 false], .none, none⟩] false)
                    (.seq
                     (.reg [
                       ⟨(.bin .eql false), [.v 16 false, .c (.sc (.int .u8 5))], .t, none⟩,
                       ⟨.mv, [.t 0 false], (.v 13), none⟩] false)
                     (.cond (.v 13 false)
                      (.reg [
                        ⟨(.faB 5 0), [.v 5 false], .t, none⟩,
                        ⟨(.fa 4), [.t 0 false], .t, none⟩,
                        ⟨(.ldB 5 1 false false), [.t 1 false, .v 5 false], .t, none⟩,
                        ⟨.mv, [.v 2 false], .t, none⟩,
                        ⟨(.bin .rem false), [.t 3 false, .c (.sc (.int .i64 2))], .t, none⟩,
                        ⟨(.bin .add false), [.t 4 false, .c (.sc (.int .i64 2))], .t, none⟩,
                        ⟨(.bin .mul false), [.c (.sc (.int .i64 4)), .t 5 false], .t, none⟩,
                        ⟨(.bin .add false), [.t 2 false, .t 6 false], .t, none⟩,
                        ⟨(.faB 5 0), [.v 5 false], .t, none⟩,
                        ⟨(.fa 4), [.t 8 false], .t, none⟩,
                        ⟨(.stB 5 1), [.t 9 false, .t 7 false], .none, none⟩] false)
                      .skip))))))))))))))
        (.seq
         (.reg [
           ⟨.mv, [.v 15 false], .t, none⟩,
           ⟨.mv, [.t 0 false], .t, none⟩,
           ⟨(.ldB 4 25 true false), [.v 4 false], .t, (some (1, true))⟩,
           ⟨(.call 11), [.t 2 false], .t, (some (1, true))⟩,
           ⟨.pick, [.t 1 false, .t 3 false, .c (.sc (.bool false))], .t, none⟩,
           ⟨.mv, [.t 4 false], .t, none⟩,
           ⟨(.ldB 5 25 true false), [.v 5 false], .t, (some (5, true))⟩,
           ⟨(.call 11), [.t 6 false], .t, (some (5, true))⟩,
           ⟨(.un .not), [.t 7 false], .t, (some (5, true))⟩,
           ⟨.pick, [.t 5 false, .t 8 false, .c (.sc (.bool false))], .t, none⟩,
           ⟨.mv, [.t 9 false], (.v 6), none⟩] false)
         .ret))))))) }

/-- underwood/underwoodlaw14.LayoutEnough -/
def ir4 : FnIR := { np := 1, nv := 21, slots := [0, 1, 3, 4, 5, 8, 10, 12, 13, 15, 2, 39, 49, 94, 131, 6, 7, 9, 11, 14, 16], res := [.v 10], body :=
  (.seq
   (.reg [
     ⟨(.bx 28), [.v 0 true], (.v 1), none⟩,
     ⟨.mv, [.c (.sc (.bool false))], (.v 10), none⟩] false)
   (.seq
    (.reg [
      ⟨(.faB 1 0), [.v 1 false], .t, none⟩,
      ⟨(.ldB 1 6 true false), [.t 0 false, .v 1 false], .t, none⟩,
      ⟨(.bx 6), [.c (.agg [(.sl .full 3 []), (.sl .full 1 []), (.sc (.int .i64 0)), (.sc (.int .i64 0)), (.sc (.int .i64 0)), (.sc (.int .i64 0))])], (.v 2), none⟩,
      ⟨(.stB 2 6), [.v 2 false, .t 1 true], .none, none⟩] false)
    (.seq
     (.reg [
       ⟨(.faB 1 6), [.v 1 false], .t, none⟩,
       ⟨(.ldB 1 11 true false), [.t 0 false, .v 1 false], .t, none⟩,
       ⟨(.bx 11), [.c (.agg [(.sc (.int .i64 0)), (.sc (.int .i64 0)), (.sl .full 1 []), (.sl .full 3 []), (.sl .full 3 []), (.sl .full 3 []), (.sl .full 10 []), (.sl .full 5 []), (.sc (.int .i64 0)), (.sc (.int .i64 0)), (.sl .full 1 [])])], (.v 3), none⟩,
       ⟨(.stB 3 11), [.v 3 false, .t 1 true], .none, none⟩] false)
     (.seq
      (.reg [
        ⟨(.faB 1 17), [.v 1 false], .t, none⟩,
        ⟨(.ldB 1 10 true false), [.t 0 false, .v 1 false], .t, none⟩,
        ⟨(.bx 10), [.c (.agg [(.sc (.int .i64 0)), (.sl .full 1 []), (.sc (.int .i64 0)), (.sc (.int .i64 0)), (.sc (.int .i64 0)), (.sc (.int .i64 0)), (.sc (.int .i64 0)), (.sc (.int .i64 0)), (.sc (.int .i64 0)), (.sc (.bool false))])], (.v 4), none⟩,
        ⟨(.stB 4 10), [.v 4 false, .t 1 true], .none, none⟩] false)
      (.seq
       (.reg [
         ⟨(.faB 1 27), [.v 1 false], .t, none⟩,
         ⟨(.ldB 1 1 false false), [.t 0 false, .v 1 false], .t, none⟩,
         ⟨.mv, [.t 1 false], (.v 15), none⟩] false)
       (.seq
        (.reg [
          ⟨(.call 9), [], .t, none⟩,
          ⟨.mv, [.t 0 false], (.v 16), none⟩] false)
        (.seq
         (.seq
          (.reg [
            ⟨(.faB 2 1), [.v 2 false], .t, none⟩,
            ⟨(.ldB 2 1 false false), [.t 0 false, .v 2 false], .t, none⟩,
            ⟨.len, [.t 1 false], .t, none⟩,
            ⟨(.bin .gtr false), [.t 2 false, .c (.sc (.int .i64 40))], .t, none⟩,
            ⟨.mv, [.t 3 false], .t, none⟩,
            ⟨(.faB 3 6), [.v 3 false], .t, (some (4, false))⟩,
            ⟨(.ldB 3 1 false false), [.t 5 false, .v 3 false], .t, (some (4, false))⟩,
            ⟨.len, [.t 6 false], .t, (some (4, false))⟩,
            ⟨(.bin .gtr false), [.t 7 false, .c (.sc (.int .i64 100))], .t, (some (4, false))⟩,
            ⟨.pick, [.t 4 false, .c (.sc (.bool true)), .t 8 false], .t, none⟩,
            ⟨.mv, [.t 9 false], .t, none⟩,
            ⟨.mv, [.v 15 false], .t, (some (10, false))⟩,
            ⟨(.bin .gtr false), [.t 11 false, .c (.sc (.int .i64 100))], .t, (some (10, false))⟩,
            ⟨.pick, [.t 10 false, .c (.sc (.bool true)), .t 12 false], (.v 11), none⟩] false)
          (.cond (.v 11 false)
           (.seq
            (.reg [
              ⟨.mv, [.v 16 false], .t, none⟩,
              ⟨.mv, [.t 0 false], (.v 10), none⟩] false)
            .ret)
           .skip))
         (.seq
          (.reg [
            ⟨(.ldB 2 6 true false), [.v 2 false], .t, none⟩,
            ⟨(.ldB 3 11 true false), [.v 3 false], .t, none⟩,
            ⟨.mv, [.v 15 false], .t, none⟩,
            ⟨(.call 12), [.t 0 false, .t 1 false, .t 2 false], .t, none⟩,
            ⟨.mv, [.t 3 false], .t, none⟩,
            ⟨(.ext 0), [.t 4 false], .t, none⟩,
            ⟨(.ext 1), [.t 4 false], .t, none⟩,
            ⟨(.bx 9), [.c (.agg [(.sc (.int .i64 0)), (.sc (.int .i64 0)), (.sc (.int .i64 0)), (.sc (.int .i64 0)), (.sc (.int .i64 0)), (.sc (.int .i64 0)), (.sc (.int .i64 0)), (.sc (.int .i64 0)), (.sc (.int .i64 0))])], (.v 5), none⟩,
            ⟨(.stB 5 9), [.v 5 false, .t 5 false], .none, none⟩,
            ⟨.mv, [.t 6 false], (.v 17), none⟩] false)
          (.seq
           (.seq
            (.reg [
              ⟨.mv, [.v 17 false], .t, none⟩,
              ⟨(.bin .neq false), [.t 0 false, .c (.sc (.int .i64 0))], (.v 12), none⟩] false)
            (.cond (.v 12 false)
             (.seq
              (.reg [
                ⟨.mv, [.v 16 false], .t, none⟩,
                ⟨.mv, [.t 0 false], .t, none⟩,
                ⟨(.ldB 5 9 true false), [.v 5 false], .t, (some (1, true))⟩,
                ⟨(.build [(.sc (.int .i64 0)), (.sc (.int .i64 0)), (.sc (.int .i64 0)), (.sc (.int .i64 0)), (.sc (.int .i64 0)), (.sc (.int .i64 0)), (.sc (.int .i64 0)), (.sc (.int .i64 0)), (.sc (.int .i64 0))] []), [], .t, (some (1, true))⟩,
                ⟨(.eqA [1, 1, 1, 1, 1, 1, 1, 1, 1] false), [.t 2 false, .t 3 false], .t, (some (1, true))⟩,
                ⟨.pick, [.t 1 false, .t 4 false, .c (.sc (.bool false))], .t, none⟩,
                ⟨.mv, [.t 5 false], .t, none⟩,
                ⟨.mv, [.v 17 false], .t, (some (6, true))⟩,
                ⟨(.bin .eql false), [.t 7 false, .c (.sc (.int .i64 1))], .t, (some (6, true))⟩,
                ⟨.mv, [.t 8 false], .t, (some (6, true))⟩,
                ⟨.mv, [.v 17 false], .t, (some (9, false))⟩,
                ⟨(.bin .eql false), [.t 10 false, .c (.sc (.int .i64 8))], .t, (some (9, false))⟩,
                ⟨.pick, [.t 9 false, .c (.sc (.bool true)), .t 11 false], .t, (some (6, true))⟩,
                ⟨.pick, [.t 6 false, .t 12 false, .c (.sc (.bool false))], .t, none⟩,
                ⟨.mv, [.t 13 false], (.v 10), none⟩] false)
              .ret)
             .skip))
           (.seq
            (.reg [
              ⟨(.ldB 5 9 true false), [.v 5 false], .t, none⟩,
              ⟨(.call 10), [.t 0 false], .t, none⟩,
              ⟨.mv, [.t 1 false], .t, none⟩,
              ⟨(.ext 0), [.t 2 false], .t, none⟩,
              ⟨(.ext 1), [.t 2 false], .t, none⟩,
              ⟨(.bx 25), [.c (.agg [(.sc (.int .i64 0)), (.sc (.int .i64 0)), (.sc (.int .i64 0)), (.sc (.int .i64 0)), (.sc (.int .i64 0)), (.sc (.int .i64 0)), (.sc (.int .i64 0)), (.sc (.int .i64 0)), (.sc (.int .i64 0)), (.sc (.int .i64 0)), (.sc (.int .i64 0)), (.sc (.int .i64 0)), (.sc (.int .i64 0)), (.sc (.int .i64 0)), (.sc (.int .i64 0)), (.sc (.int .i64 0)), (.sc (.int .i64 0)), (.sc (.int .i64 0)), (.sc (.int .i64 0)), (.sc (.int .i64 0)), (.sc (.int .i64 0)), (.sc (.int .i64 0)), (.sc (.int .i64 0)), (.sc (.int .i64 0)), (.sc (.int .i64 0))])], (.v 6), none⟩,
              ⟨(.stB 6 25), [.v 6 false, .t 3 false], .none, none⟩,
              ⟨.mv, [.t 4 false], (.v 18), none⟩] false)
            (.seq
             (.reg [
               ⟨(.ldB 3 11 true false), [.v 3 false], .t, none⟩,
               ⟨(.bx 11), [.c (.agg [(.sc (.int .i64 0)), (.sc (.int .i64 0)), (.sl .full 1 []), (.sl .full 3 []), (.sl .full 3 []), (.sl .full 3 []), (.sl .full 10 []), (.sl .full 5 []), (.sc (.int .i64 0)), (.sc (.int .i64 0)), (.sl .full 1 [])])], (.v 7), none⟩,
               ⟨(.stB 7 11), [.v 7 false, .t 0 true], .none, none⟩] false)
             (.seq
              (.reg [
                ⟨(.buildSl 10 [] []), [], .t, none⟩,
                ⟨(.faB 3 6), [.v 3 false], .t, none⟩,
                ⟨(.ldB 3 1 false false), [.t 1 false, .v 3 false], .t, none⟩,
                ⟨(.app 10 96), [.t 0 true, .t 2 false], .t, none⟩,
                ⟨(.ldB 4 10 true true), [.v 4 true], .t, none⟩,
                ⟨(.buildSl 10 [(.agg [(.sc (.int .i64 0)), (.sl .full 1 []), (.sc (.int .i64 0)), (.sc (.int .i64 0)), (.sc (.int .i64 0)), (.sc (.int .i64 0)), (.sc (.int .i64 0)), (.sc (.int .i64 0)), (.sc (.int .i64 0)), (.sc (.bool false))])] [0]), [.t 4 false], .t, none⟩,
                ⟨(.app 10 96), [.t 3 true, .t 5 false], .t, none⟩,
                ⟨(.faB 7 6), [.v 7 false], .t, none⟩,
                ⟨(.stB 7 1), [.t 7 false, .t 6 true], .none, none⟩] true)
              (.seq
               (.reg [
                 ⟨(.ldB 2 6 true false), [.v 2 false], .t, none⟩,
                 ⟨(.ldB 7 11 true true), [.v 7 true], .t, none⟩,
                 ⟨.mv, [.v 15 false], .t, none⟩,
                 ⟨(.call 12), [.t 0 false, .t 1 false, .t 2 false], .t, none⟩,
                 ⟨.mv, [.t 3 false], .t, none⟩,
                 ⟨(.ext 0), [.t 4 false], .t, none⟩,
                 ⟨(.ext 1), [.t 4 false], .t, none⟩,
                 ⟨(.bx 9), [.c (.agg [(.sc (.int .i64 0)), (.sc (.int .i64 0)), (.sc (.int .i64 0)), (.sc (.int .i64 0)), (.sc (.int .i64 0)), (.sc (.int .i64 0)), (.sc (.int .i64 0)), (.sc (.int .i64 0)), (.sc (.int .i64 0))])], (.v 8), none⟩,
                 ⟨(.stB 8 9), [.v 8 false, .t 5 false], .none, none⟩,
                 ⟨.mv, [.t 6 false], (.v 19), none⟩] false)
               (.seq
                (.reg [
                  ⟨(.ldB 2 6 true true), [.v 2 true], .t, none⟩,
                  ⟨(.ldB 3 11 true true), [.v 3 true], .t, none⟩,
                  ⟨.mv, [.v 15 false], .t, none⟩,
                  ⟨(.bin .add false), [.t 2 false, .c (.sc (.int .i64 1))], .t, none⟩,
                  ⟨(.call 12), [.t 0 false, .t 1 false, .t 3 false], .t, none⟩,
                  ⟨.mv, [.t 4 false], .t, none⟩,
                  ⟨(.ext 0), [.t 5 false], .t, none⟩,
                  ⟨(.ext 1), [.t 5 false], .t, none⟩,
                  ⟨(.bx 9), [.c (.agg [(.sc (.int .i64 0)), (.sc (.int .i64 0)), (.sc (.int .i64 0)), (.sc (.int .i64 0)), (.sc (.int .i64 0)), (.sc (.int .i64 0)), (.sc (.int .i64 0)), (.sc (.int .i64 0)), (.sc (.int .i64 0))])], (.v 9), none⟩,
                  ⟨(.stB 9 9), [.v 9 false, .t 6 false], .none, none⟩,
                  ⟨.mv, [.t 7 false], (.v 20), none⟩] false)
                (.seq
                 (.seq
                  (.reg [
                    ⟨.mv, [.v 18 false], .t, none⟩,
                    ⟨(.bin .neq false), [.t 0 false, .c (.sc (.int .i64 0))], (.v 13), none⟩] false)
                  (.cond (.v 13 false)
                   (.seq
                    (.reg [
                      ⟨.mv, [.c (.sc (.bool false))], (.v 10), none⟩] false)
                    .ret)
                   .skip))
                 (.seq
                  (.seq
                   (.reg [
                     ⟨.mv, [.v 19 false], .t, none⟩,
                     ⟨(.bin .eql false), [.t 0 false, .c (.sc (.int .i64 0))], .t, none⟩,
                     ⟨.mv, [.t 1 false], .t, none⟩,
                     ⟨(.faB 8 1), [.v 8 false], .t, (some (2, true))⟩,
                     ⟨(.ldB 8 1 false false), [.t 3 false, .v 8 false], .t, (some (2, true))⟩,
                     ⟨(.faB 5 1), [.v 5 false], .t, (some (2, true))⟩,
                     ⟨(.ldB 5 1 false false), [.t 5 false, .v 5 false], .t, (some (2, true))⟩,
                     ⟨(.bin .lss false), [.t 4 false, .t 6 false], .t, (some (2, true))⟩,
                     ⟨.mv, [.t 7 false], .t, (some (2, true))⟩,
                     ⟨(.faB 8 2), [.v 8 false], .t, (some (8, false))⟩,
                     ⟨(.ldB 8 1 false false), [.t 9 false, .v 8 false], .t, (some (8, false))⟩,
                     ⟨(.faB 5 2), [.v 5 false], .t, (some (8, false))⟩,
                     ⟨(.ldB 5 1 false false), [.t 11 false, .v 5 false], .t, (some (8, false))⟩,
                     ⟨(.bin .lss false), [.t 10 false, .t 12 false], .t, (some (8, false))⟩,
                     ⟨.pick, [.t 8 false, .c (.sc (.bool true)), .t 13 false], .t, (some (2, true))⟩,
                     ⟨.mv, [.t 14 false], .t, (some (2, true))⟩,
                     ⟨(.faB 8 4), [.v 8 false], .t, (some (15, false))⟩,
                     ⟨(.ldB 8 1 false false), [.t 16 false, .v 8 false], .t, (some (15, false))⟩,
                     ⟨(.faB 5 4), [.v 5 false], .t, (some (15, false))⟩,
                     ⟨(.ldB 5 1 false false), [.t 18 false, .v 5 false], .t, (some (15, false))⟩,
                     ⟨(.bin .neq false), [.t 17 false, .t 19 false], .t, (some (15, false))⟩,
                     ⟨.pick, [.t 15 false, .c (.sc (.bool true)), .t 20 false], .t, (some (2, true))⟩,
                     ⟨.mv, [.t 21 false], .t, (some (2, true))⟩,
                     ⟨(.faB 8 1), [.v 8 false], .t, (some (22, false))⟩,
                     ⟨(.ldB 8 1 false false), [.t 23 false, .v 8 false], .t, (some (22, false))⟩,
                     ⟨(.faB 5 1), [.v 5 false], .t, (some (22, false))⟩,
                     ⟨(.ldB 5 1 false false), [.t 25 false, .v 5 false], .t, (some (22, false))⟩,
                     ⟨(.bin .add false), [.t 26 false, .c (.sc (.int .i64 1))], .t, (some (22, false))⟩,
                     ⟨(.faB 5 2), [.v 5 false], .t, (some (22, false))⟩,
                     ⟨(.ldB 5 1 false false), [.t 28 false, .v 5 false], .t, (some (22, false))⟩,
                     ⟨(.faB 5 6), [.v 5 false], .t, (some (22, false))⟩,
                     ⟨(.ldB 5 1 false false), [.t 30 false, .v 5 false], .t, (some (22, false))⟩,
                     ⟨(.bin .mul false), [.t 29 false, .t 31 false], .t, (some (22, false))⟩,
                     ⟨(.bin .add false), [.t 27 false, .t 32 false], .t, (some (22, false))⟩,
                     ⟨(.bin .gtr false), [.t 24 false, .t 33 false], .t, (some (22, false))⟩,
                     ⟨.pick, [.t 22 false, .c (.sc (.bool true)), .t 34 false], .t, (some (2, true))⟩,
                     ⟨.pick, [.t 2 false, .t 35 false, .c (.sc (.bool false))], (.v 14), none⟩] false)
                   (.cond (.v 14 false)
                    (.seq
                     (.reg [
                       ⟨.mv, [.c (.sc (.bool false))], (.v 10), none⟩] false)
                     .ret)
                    .skip))
                  (.seq
                   (.reg [
                     ⟨.mv, [.v 16 false], .t, none⟩,
                     ⟨.mv, [.t 0 false], .t, none⟩,
                     ⟨.mv, [.v 20 false], .t, (some (1, true))⟩,
                     ⟨(.bin .neq false), [.t 2 false, .c (.sc (.int .i64 0))], .t, (some (1, true))⟩,
                     ⟨.mv, [.t 3 false], .t, (some (1, true))⟩,
                     ⟨(.faB 9 1), [.v 9 false], .t, (some (4, false))⟩,
                     ⟨(.ldB 9 1 false false), [.t 5 false, .v 9 false], .t, (some (4, false))⟩,
                     ⟨(.faB 5 1), [.v 5 false], .t, (some (4, false))⟩,
                     ⟨(.ldB 5 1 false false), [.t 7 false, .v 5 false], .t, (some (4, false))⟩,
                     ⟨(.bin .add false), [.t 8 false, .c (.sc (.int .i64 8))], .t, (some (4, false))⟩,
                     ⟨(.bin .eql false), [.t 6 false, .t 9 false], .t, (some (4, false))⟩,
                     ⟨.mv, [.t 10 false], .t, (some (4, false))⟩,
                     ⟨(.faB 9 3), [.v 9 false], .t, (some (11, true))⟩,
                     ⟨(.ldB 9 1 false false), [.t 12 false, .v 9 false], .t, (some (11, true))⟩,
                     ⟨(.faB 5 3), [.v 5 false], .t, (some (11, true))⟩,
                     ⟨(.ldB 5 1 false false), [.t 14 false, .v 5 false], .t, (some (11, true))⟩,
                     ⟨(.bin .add false), [.t 13 false, .t 15 false], .t, (some (11, true))⟩,
                     ⟨(.faB 9 0), [.v 9 false], .t, (some (11, true))⟩,
                     ⟨(.ldB 9 1 false false), [.t 17 false, .v 9 false], .t, (some (11, true))⟩,
                     ⟨(.bin .eql false), [.t 16 false, .t 18 false], .t, (some (11, true))⟩,
                     ⟨.pick, [.t 11 false, .t 19 false, .c (.sc (.bool false))], .t, (some (4, false))⟩,
                     ⟨.mv, [.t 20 false], .t, (some (4, false))⟩,
                     ⟨(.faB 9 0), [.v 9 false], .t, (some (21, true))⟩,
                     ⟨(.ldB 9 1 false false), [.t 22 false, .v 9 false], .t, (some (21, true))⟩,
                     ⟨(.faB 5 0), [.v 5 false], .t, (some (21, true))⟩,
                     ⟨(.ldB 5 1 false false), [.t 24 false, .v 5 false], .t, (some (21, true))⟩,
                     ⟨(.bin .add false), [.t 25 false, .c (.sc (.int .i64 1))], .t, (some (21, true))⟩,
                     ⟨(.bin .eql false), [.t 23 false, .t 26 false], .t, (some (21, true))⟩,
                     ⟨.pick, [.t 21 false, .t 27 false, .c (.sc (.bool false))], .t, (some (4, false))⟩,
                     ⟨.pick, [.t 4 false, .c (.sc (.bool true)), .t 28 false], .t, (some (1, true))⟩,
                     ⟨.pick, [.t 1 false, .t 29 false, .c (.sc (.bool false))], .t, none⟩,
                     ⟨.mv, [.t 30 false], (.v 10), none⟩] false)
                   .ret))))))))))))))))) }

/-- underwood/underwoodlaw14.LayoutMore -/
def ir5 : FnIR := { np := 1, nv := 12, slots := [0, 1, 4, 6, 7, 2, 16, 44, 92, 5, 3, 8], res := [.v 5], body :=
  (.seq
   (.reg [
     ⟨(.bx 9), [.v 0 false], (.v 1), none⟩,
     ⟨.mv, [.c (.sc (.bool false))], (.v 5), none⟩] false)
   (.seq
    (.reg [
      ⟨(.call 9), [], .t, none⟩,
      ⟨.mv, [.t 0 false], (.v 10), none⟩] false)
    (.seq
     (.reg [
       ⟨(.ldB 1 9 true false), [.v 1 false], .t, none⟩,
       ⟨(.call 13), [.t 0 false], .t, none⟩,
       ⟨.mv, [.t 1 false], .t, none⟩,
       ⟨(.ext 0), [.t 2 false], .t, none⟩,
       ⟨(.ext 1), [.t 2 false], .t, none⟩,
       ⟨(.bx 25), [.c (.agg [(.sc (.int .i64 0)), (.sc (.int .i64 0)), (.sc (.int .i64 0)), (.sc (.int .i64 0)), (.sc (.int .i64 0)), (.sc (.int .i64 0)), (.sc (.int .i64 0)), (.sc (.int .i64 0)), (.sc (.int .i64 0)), (.sc (.int .i64 0)), (.sc (.int .i64 0)), (.sc (.int .i64 0)), (.sc (.int .i64 0)), (.sc (.int .i64 0)), (.sc (.int .i64 0)), (.sc (.int .i64 0)), (.sc (.int .i64 0)), (.sc (.int .i64 0)), (.sc (.int .i64 0)), (.sc (.int .i64 0)), (.sc (.int .i64 0)), (.sc (.int .i64 0)), (.sc (.int .i64 0)), (.sc (.int .i64 0)), (.sc (.int .i64 0))])], (.v 2), none⟩,
       ⟨(.stB 2 25), [.v 2 false, .t 3 false], .none, none⟩,
       ⟨.mv, [.t 4 false], (.v 9), none⟩] false)
     (.seq
      (.seq
       (.reg [
         ⟨.mv, [.v 9 false], .t, none⟩,
         ⟨(.bin .neq false), [.t 0 false, .c (.sc (.int .i64 0))], (.v 6), none⟩] false)
       (.cond (.v 6 false)
        (.seq
         (.reg [
           ⟨.mv, [.v 10 false], .t, none⟩,
           ⟨.mv, [.t 0 false], (.v 5), none⟩] false)
         .ret)
        .skip))
      (.seq
       (.reg [
         ⟨(.ldB 1 9 true false), [.v 1 false], .t, none⟩,
         ⟨(.bx 9), [.c (.agg [(.sc (.int .i64 0)), (.sc (.int .i64 0)), (.sc (.int .i64 0)), (.sc (.int .i64 0)), (.sc (.int .i64 0)), (.sc (.int .i64 0)), (.sc (.int .i64 0)), (.sc (.int .i64 0)), (.sc (.int .i64 0))])], (.v 3), none⟩,
         ⟨(.stB 3 9), [.v 3 false, .t 0 false], .none, none⟩] false)
       (.seq
        (.reg [
          ⟨(.faB 1 1), [.v 1 false], .t, none⟩,
          ⟨(.ldB 1 1 false false), [.t 0 false, .v 1 false], .t, none⟩,
          ⟨(.bin .add false), [.t 1 false, .c (.sc (.int .i64 1))], .t, none⟩,
          ⟨(.faB 3 1), [.v 3 false], .t, none⟩,
          ⟨(.stB 3 1), [.t 3 false, .t 2 false], .none, none⟩] false)
        (.seq
         (.reg [
           ⟨(.ldB 3 9 true false), [.v 3 false], .t, none⟩,
           ⟨(.call 13), [.t 0 false], .t, none⟩,
           ⟨.mv, [.t 1 false], .t, none⟩,
           ⟨(.ext 0), [.t 2 false], .t, none⟩,
           ⟨(.ext 1), [.t 2 false], .t, none⟩,
           ⟨(.bx 25), [.c (.agg [(.sc (.int .i64 0)), (.sc (.int .i64 0)), (.sc (.int .i64 0)), (.sc (.int .i64 0)), (.sc (.int .i64 0)), (.sc (.int .i64 0)), (.sc (.int .i64 0)), (.sc (.int .i64 0)), (.sc (.int .i64 0)), (.sc (.int .i64 0)), (.sc (.int .i64 0)), (.sc (.int .i64 0)), (.sc (.int .i64 0)), (.sc (.int .i64 0)), (.sc (.int .i64 0)), (.sc (.int .i64 0)), (.sc (.int .i64 0)), (.sc (.int .i64 0)), (.sc (.int .i64 0)), (.sc (.int .i64 0)), (.sc (.int .i64 0)), (.sc (.int .i64 0)), (.sc (.int .i64 0)), (.sc (.int .i64 0)), (.sc (.int .i64 0))])], (.v 4), none⟩,
           ⟨(.stB 4 25), [.v 4 false, .t 3 false], .none, none⟩,
           ⟨.mv, [.t 4 false], (.v 11), none⟩] false)
         (.seq
          (.seq
           (.reg [
             ⟨.mv, [.v 11 false], .t, none⟩,
             ⟨(.bin .eql false), [.t 0 false, .c (.sc (.int .i64 0))], .t, none⟩,
             ⟨.mv, [.t 1 false], .t, none⟩,
             ⟨(.faB 4 23), [.v 4 false], .t, (some (2, true))⟩,
             ⟨(.ldB 4 1 false false), [.t 3 false, .v 4 false], .t, (some (2, true))⟩,
             ⟨(.faB 2 23), [.v 2 false], .t, (some (2, true))⟩,
             ⟨(.ldB 2 1 false false), [.t 5 false, .v 2 false], .t, (some (2, true))⟩,
             ⟨(.bin .neq false), [.t 4 false, .t 6 false], .t, (some (2, true))⟩,
             ⟨.mv, [.t 7 false], .t, (some (2, true))⟩,
             ⟨(.faB 4 24), [.v 4 false], .t, (some (8, false))⟩,
             ⟨(.ldB 4 1 false false), [.t 9 false, .v 4 false], .t, (some (8, false))⟩,
             ⟨(.faB 2 24), [.v 2 false], .t, (some (8, false))⟩,
             ⟨(.ldB 2 1 false false), [.t 11 false, .v 2 false], .t, (some (8, false))⟩,
             ⟨(.bin .add false), [.t 12 false, .c (.sc (.int .i64 8))], .t, (some (8, false))⟩,
             ⟨(.bin .neq false), [.t 10 false, .t 13 false], .t, (some (8, false))⟩,
             ⟨.pick, [.t 8 false, .c (.sc (.bool true)), .t 14 false], .t, (some (2, true))⟩,
             ⟨.pick, [.t 2 false, .t 15 false, .c (.sc (.bool false))], (.v 7), none⟩] false)
           (.cond (.v 7 false)
            (.seq
             (.reg [
               ⟨.mv, [.c (.sc (.bool false))], (.v 5), none⟩] false)
             .ret)
            .skip))
          (.seq
           (.reg [
             ⟨(.ldB 1 9 true false), [.v 1 false], .t, none⟩,
             ⟨(.stB 3 9), [.v 3 false, .t 0 false], .none, none⟩] false)
           (.seq
            (.reg [
              ⟨(.faB 1 7), [.v 1 false], .t, none⟩,
              ⟨(.ldB 1 1 false false), [.t 0 false, .v 1 false], .t, none⟩,
              ⟨(.bin .add false), [.t 1 false, .c (.sc (.int .i64 1))], .t, none⟩,
              ⟨(.faB 3 7), [.v 3 false], .t, none⟩,
              ⟨(.stB 3 1), [.t 3 false, .t 2 false], .none, none⟩] false)
            (.seq
             (.reg [
               ⟨(.ldB 3 9 true false), [.v 3 false], .t, none⟩,
               ⟨(.call 13), [.t 0 false], .t, none⟩,
               ⟨.mv, [.t 1 false], .t, none⟩,
               ⟨(.ext 0), [.t 2 false], .t, none⟩,
               ⟨(.ext 1), [.t 2 false], .t, none⟩,
               ⟨(.stB 4 25), [.v 4 false, .t 3 false], .none, none⟩,
               ⟨.mv, [.t 4 false], (.v 11), none⟩] false)
             (.seq
              (.seq
               (.reg [
                 ⟨.mv, [.v 11 false], .t, none⟩,
                 ⟨(.bin .eql false), [.t 0 false, .c (.sc (.int .i64 0))], .t, none⟩,
                 ⟨.mv, [.t 1 false], .t, none⟩,
                 ⟨(.faB 4 21), [.v 4 false], .t, (some (2, true))⟩,
                 ⟨(.ldB 4 1 false false), [.t 3 false, .v 4 false], .t, (some (2, true))⟩,
                 ⟨(.faB 2 21), [.v 2 false], .t, (some (2, true))⟩,
                 ⟨(.ldB 2 1 false false), [.t 5 false, .v 2 false], .t, (some (2, true))⟩,
                 ⟨(.bin .neq false), [.t 4 false, .t 6 false], .t, (some (2, true))⟩,
                 ⟨.mv, [.t 7 false], .t, (some (2, true))⟩,
                 ⟨(.faB 4 20), [.v 4 false], .t, (some (8, false))⟩,
                 ⟨(.ldB 4 1 false false), [.t 9 false, .v 4 false], .t, (some (8, false))⟩,
                 ⟨(.faB 2 20), [.v 2 false], .t, (some (8, false))⟩,
                 ⟨(.ldB 2 1 false false), [.t 11 false, .v 2 false], .t, (some (8, false))⟩,
                 ⟨(.bin .neq false), [.t 10 false, .t 12 false], .t, (some (8, false))⟩,
                 ⟨.pick, [.t 8 false, .c (.sc (.bool true)), .t 13 false], .t, (some (2, true))⟩,
                 ⟨.mv, [.t 14 false], .t, (some (2, true))⟩,
                 ⟨(.faB 4 22), [.v 4 false], .t, (some (15, false))⟩,
                 ⟨(.ldB 4 1 false false), [.t 16 false, .v 4 false], .t, (some (15, false))⟩,
                 ⟨(.faB 2 22), [.v 2 false], .t, (some (15, false))⟩,
                 ⟨(.ldB 2 1 false false), [.t 18 false, .v 2 false], .t, (some (15, false))⟩,
                 ⟨(.bin .add false), [.t 19 false, .c (.sc (.int .i64 1))], .t, (some (15, false))⟩,
                 ⟨(.faB 1 3), [.v 1 false], .t, (some (15, false))⟩,
                 ⟨(.ldB 1 1 false false), [.t 21 false, .v 1 false], .t, (some (15, false))⟩,
                 ⟨(.bin .add false), [.t 20 false, .t 22 false], .t, (some (15, false))⟩,
                 ⟨(.bin .neq false), [.t 17 false, .t 23 false], .t, (some (15, false))⟩,
                 ⟨.pick, [.t 15 false, .c (.sc (.bool true)), .t 24 false], .t, (some (2, true))⟩,
                 ⟨.mv, [.t 25 false], .t, (some (2, true))⟩,
                 ⟨(.faB 4 24), [.v 4 false], .t, (some (26, false))⟩,
                 ⟨(.ldB 4 1 false false), [.t 27 false, .v 4 false], .t, (some (26, false))⟩,
                 ⟨(.faB 2 24), [.v 2 false], .t, (some (26, false))⟩,
                 ⟨(.ldB 2 1 false false), [.t 29 false, .v 2 false], .t, (some (26, false))⟩,
                 ⟨(.bin .add false), [.t 30 false, .c (.sc (.int .i64 1))], .t, (some (26, false))⟩,
                 ⟨(.faB 1 3), [.v 1 false], .t, (some (26, false))⟩,
                 ⟨(.ldB 1 1 false false), [.t 32 false, .v 1 false], .t, (some (26, false))⟩,
                 ⟨(.bin .add false), [.t 31 false, .t 33 false], .t, (some (26, false))⟩,
                 ⟨(.bin .neq false), [.t 28 false, .t 34 false], .t, (some (26, false))⟩,
                 ⟨.pick, [.t 26 false, .c (.sc (.bool true)), .t 35 false], .t, (some (2, true))⟩,
                 ⟨.pick, [.t 2 false, .t 36 false, .c (.sc (.bool false))], (.v 8), none⟩] false)
               (.cond (.v 8 false)
                (.seq
                 (.reg [
                   ⟨.mv, [.c (.sc (.bool false))], (.v 5), none⟩] false)
                 .ret)
                .skip))
              (.seq
               (.reg [
                 ⟨(.ldB 1 9 true false), [.v 1 false], .t, none⟩,
                 ⟨(.stB 3 9), [.v 3 false, .t 0 false], .none, none⟩] false)
               (.seq
                (.reg [
                  ⟨(.faB 1 5), [.v 1 false], .t, none⟩,
                  ⟨(.ldB 1 1 false false), [.t 0 false, .v 1 false], .t, none⟩,
                  ⟨(.bin .add false), [.t 1 false, .c (.sc (.int .i64 1))], .t, none⟩,
                  ⟨(.faB 3 5), [.v 3 false], .t, none⟩,
                  ⟨(.stB 3 1), [.t 3 false, .t 2 false], .none, none⟩] false)
                (.seq
                 (.reg [
                   ⟨(.ldB 3 9 true false), [.v 3 false], .t, none⟩,
                   ⟨(.call 13), [.t 0 false], .t, none⟩,
                   ⟨.mv, [.t 1 false], .t, none⟩,
                   ⟨(.ext 0), [.t 2 false], .t, none⟩,
                   ⟨(.ext 1), [.t 2 false], .t, none⟩,
                   ⟨(.stB 4 25), [.v 4 false, .t 3 false], .none, none⟩,
                   ⟨.mv, [.t 4 false], (.v 11), none⟩] false)
                 (.seq
                  (.reg [
                    ⟨.mv, [.v 10 false], .t, none⟩,
                    ⟨.mv, [.t 0 false], .t, none⟩,
                    ⟨.mv, [.v 11 false], .t, (some (1, true))⟩,
                    ⟨(.bin .neq false), [.t 2 false, .c (.sc (.int .i64 0))], .t, (some (1, true))⟩,
                    ⟨.mv, [.t 3 false], .t, (some (1, true))⟩,
                    ⟨(.faB 4 19), [.v 4 false], .t, (some (4, false))⟩,
                    ⟨(.ldB 4 1 false false), [.t 5 false, .v 4 false], .t, (some (4, false))⟩,
                    ⟨(.faB 2 19), [.v 2 false], .t, (some (4, false))⟩,
                    ⟨(.ldB 2 1 false false), [.t 7 false, .v 2 false], .t, (some (4, false))⟩,
                    ⟨(.bin .eql false), [.t 6 false, .t 8 false], .t, (some (4, false))⟩,
                    ⟨.mv, [.t 9 false], .t, (some (4, false))⟩,
                    ⟨(.faB 4 20), [.v 4 false], .t, (some (10, true))⟩,
                    ⟨(.ldB 4 1 false false), [.t 11 false, .v 4 false], .t, (some (10, true))⟩,
                    ⟨(.faB 2 20), [.v 2 false], .t, (some (10, true))⟩,
                    ⟨(.ldB 2 1 false false), [.t 13 false, .v 2 false], .t, (some (10, true))⟩,
                    ⟨(.bin .add false), [.t 14 false, .c (.sc (.int .i64 1))], .t, (some (10, true))⟩,
                    ⟨(.bin .eql false), [.t 12 false, .t 15 false], .t, (some (10, true))⟩,
                    ⟨.pick, [.t 10 false, .t 16 false, .c (.sc (.bool false))], .t, (some (4, false))⟩,
                    ⟨.mv, [.t 17 false], .t, (some (4, false))⟩,
                    ⟨(.faB 4 24), [.v 4 false], .t, (some (18, true))⟩,
                    ⟨(.ldB 4 1 false false), [.t 19 false, .v 4 false], .t, (some (18, true))⟩,
                    ⟨(.faB 2 24), [.v 2 false], .t, (some (18, true))⟩,
                    ⟨(.ldB 2 1 false false), [.t 21 false, .v 2 false], .t, (some (18, true))⟩,
                    ⟨(.bin .add false), [.t 22 false, .c (.sc (.int .i64 1))], .t, (some (18, true))⟩,
                    ⟨(.bin .eql false), [.t 20 false, .t 23 false], .t, (some (18, true))⟩,
                    ⟨.pick, [.t 18 false, .t 24 false, .c (.sc (.bool false))], .t, (some (4, false))⟩,
                    ⟨.pick, [.t 4 false, .c (.sc (.bool true)), .t 25 false], .t, (some (1, true))⟩,
                    ⟨.pick, [.t 1 false, .t 26 false, .c (.sc (.bool false))], .t, none⟩,
                    ⟨.mv, [.t 27 false], (.v 5), none⟩] false)
                  .ret)))))))))))))))) }

def ir6_l0 : IR :=
              (.seq
               (.seq
                (.reg [
                  ⟨.mv, [.v 13 false], .t, none⟩,
                  ⟨(.bin .add false), [.t 0 false, .c (.sc (.int .i64 1))], .t, none⟩,
                  ⟨.mv, [.v 12 false], .t, none⟩,
                  ⟨(.bin .lss false), [.t 1 false, .t 2 false], (.v 7), none⟩] false)
                (.cond (.v 7 false)
                 .skip
                 (.exit 0)))
               (.seq
                (.block 1
                 (.seq
                  (.seq
                   (.reg [
                     ⟨.mv, [.v 14 false], .t, none⟩,
                     ⟨(.faB 2 4), [.v 2 false], .t, none⟩,
                     ⟨(.ldB 2 1 false false), [.t 1 false, .v 2 false], .t, none⟩,
                     ⟨(.bin .geq false), [.t 0 false, .t 2 false], .t, none⟩,
                     ⟨.mv, [.t 3 false], .t, none⟩,
                     ⟨(.ldB 3 25 true false), [.v 3 false], .t, (some (4, false))⟩,
                     ⟨.mv, [.v 15 false], .t, (some (4, false))⟩,
                     ⟨.mv, [.v 13 false], .t, (some (4, false))⟩,
                     ⟨(.bin .add false), [.t 7 false, .c (.sc (.int .i64 1))], .t, (some (4, false))⟩,
                     ⟨(.call 15), [.t 5 false, .t 6 false, .t 8 false], .t, (some (4, false))⟩,
                     ⟨(.ldB 3 25 true false), [.v 3 false], .t, (some (4, false))⟩,
                     ⟨.mv, [.v 15 false], .t, (some (4, false))⟩,
                     ⟨.mv, [.v 13 false], .t, (some (4, false))⟩,
                     ⟨(.call 15), [.t 10 false, .t 11 false, .t 12 false], .t, (some (4, false))⟩,
                     ⟨.mv, [.v 14 false], .t, (some (4, false))⟩,
                     ⟨(.bin .add false), [.t 13 false, .t 14 false], .t, (some (4, false))⟩,
                     ⟨(.bin .neq false), [.t 9 false, .t 15 false], .t, (some (4, false))⟩,
                     ⟨.pick, [.t 4 false, .c (.sc (.bool true)), .t 16 false], (.v 8), none⟩] true)
                   (.cond (.v 8 false)
                    (.seq
                     (.reg [
                       ⟨.mv, [.c (.sc (.bool false))], (.v 4), none⟩] false)
                     .ret)
                    .skip))
                  (.reg [
                    ⟨.mv, [.v 14 false], .t, none⟩,
                    ⟨(.bin .mul false), [.c (.sc (.int .i64 2)), .t 0 false], .t, none⟩,
                    ⟨.mv, [.t 1 false], (.v 14), none⟩] false)))
                (.reg [
                  ⟨.mv, [.v 13 false], .t, none⟩,
                  ⟨(.bin .add false), [.t 0 false, .c (.sc (.int .i64 1))], .t, none⟩,
                  ⟨.mv, [.t 1 false], (.v 13), none⟩] false)))

/-- underwood/underwoodlaw14.LayoutRings -/
def ir6 : FnIR := { np := 2, nv := 17, slots := [0, 1, 2, 6, 4, 20, 34, 38, 58, 67, 7, 5, 9, 11, 10, 8, 12], res := [.v 4], body :=
  (.seq
   (.reg [
     ⟨(.bx 9), [.v 0 false], (.v 2), none⟩,
     ⟨.mv, [.c (.sc (.bool false))], (.v 4), none⟩] false)
   (.seq
    (.reg [
      ⟨(.call 9), [], .t, none⟩,
      ⟨.mv, [.t 0 false], (.v 11), none⟩] false)
    (.seq
     (.reg [
       ⟨(.ldB 2 9 true false), [.v 2 false], .t, none⟩,
       ⟨(.call 10), [.t 0 false], .t, none⟩,
       ⟨.mv, [.t 1 false], .t, none⟩,
       ⟨(.ext 0), [.t 2 false], .t, none⟩,
       ⟨(.ext 1), [.t 2 false], .t, none⟩,
       ⟨(.bx 25), [.c (.agg [(.sc (.int .i64 0)), (.sc (.int .i64 0)), (.sc (.int .i64 0)), (.sc (.int .i64 0)), (.sc (.int .i64 0)), (.sc (.int .i64 0)), (.sc (.int .i64 0)), (.sc (.int .i64 0)), (.sc (.int .i64 0)), (.sc (.int .i64 0)), (.sc (.int .i64 0)), (.sc (.int .i64 0)), (.sc (.int .i64 0)), (.sc (.int .i64 0)), (.sc (.int .i64 0)), (.sc (.int .i64 0)), (.sc (.int .i64 0)), (.sc (.int .i64 0)), (.sc (.int .i64 0)), (.sc (.int .i64 0)), (.sc (.int .i64 0)), (.sc (.int .i64 0)), (.sc (.int .i64 0)), (.sc (.int .i64 0)), (.sc (.int .i64 0))])], (.v 3), none⟩,
       ⟨(.stB 3 25), [.v 3 false, .t 3 false], .none, none⟩,
       ⟨.mv, [.t 4 false], (.v 10), none⟩] false)
     (.seq
      (.seq
       (.reg [
         ⟨.mv, [.v 10 false], .t, none⟩,
         ⟨(.bin .neq false), [.t 0 false, .c (.sc (.int .i64 0))], (.v 5), none⟩] false)
       (.cond (.v 5 false)
        (.seq
         (.reg [
           ⟨.mv, [.v 11 false], .t, none⟩,
           ⟨.mv, [.t 0 false], (.v 4), none⟩] false)
         .ret)
        .skip))
      (.seq
       (.reg [
         ⟨.mv, [.v 1 false], .t, none⟩,
         ⟨(.cvI .i64), [.t 0 false], .t, none⟩,
         ⟨(.faB 2 0), [.v 2 false], .t, none⟩,
         ⟨(.ldB 2 1 false false), [.t 2 false, .v 2 false], .t, none⟩,
         ⟨(.bin .rem false), [.t 1 false, .t 3 false], .t, none⟩,
         ⟨.mv, [.t 4 false], (.v 15), none⟩] false)
       (.seq
        (.reg [
          ⟨(.ldB 3 25 true false), [.v 3 false], .t, none⟩,
          ⟨(.call 14), [.t 0 false], .t, none⟩,
          ⟨.mv, [.t 1 false], (.v 12), none⟩] false)
        (.seq
         (.seq
          (.reg [
            ⟨.mv, [.v 12 false], .t, none⟩,
            ⟨(.bin .lss false), [.t 0 false, .c (.sc (.int .i64 1))], .t, none⟩,
            ⟨.mv, [.t 1 false], .t, none⟩,
            ⟨.mv, [.v 12 false], .t, (some (2, false))⟩,
            ⟨(.bin .gtr false), [.t 3 false, .c (.sc (.int .i64 6))], .t, (some (2, false))⟩,
            ⟨.pick, [.t 2 false, .c (.sc (.bool true)), .t 4 false], (.v 6), none⟩] false)
          (.cond (.v 6 false)
           (.seq
            (.reg [
              ⟨.mv, [.c (.sc (.bool false))], (.v 4), none⟩] false)
            .ret)
           .skip))
         (.seq
          (.reg [
            ⟨.mv, [.c (.sc (.int .i64 4))], (.v 14), none⟩] false)
          (.seq
           (.seq
            (.reg [
              ⟨.mv, [.c (.sc (.int .i64 0))], (.v 13), none⟩] false)
            (.block 0
             (.loop ir6_l0)))
           (.seq
            (.reg [
              ⟨(.faB 3 18), [.v 3 false], .t, none⟩,
              ⟨(.ldB 3 1 false false), [.t 0 false, .v 3 false], .t, none⟩,
              ⟨.mv, [.t 1 false], (.v 16), none⟩] false)
            (.seq
             (.seq
              (.reg [
                ⟨.mv, [.v 15 false], .t, none⟩,
                ⟨(.bin .add false), [.t 0 false, .c (.sc (.int .i64 1))], .t, none⟩,
                ⟨(.faB 2 0), [.v 2 false], .t, none⟩,
                ⟨(.ldB 2 1 false false), [.t 2 false, .v 2 false], .t, none⟩,
                ⟨(.bin .lss false), [.t 1 false, .t 3 false], (.v 9), none⟩] false)
              (.cond (.v 9 false)
               (.reg [
                 ⟨(.ldB 3 25 true false), [.v 3 false], .t, none⟩,
                 ⟨.mv, [.v 15 false], .t, none⟩,
                 ⟨(.bin .add false), [.t 1 false, .c (.sc (.int .i64 1))], .t, none⟩,
                 ⟨(.call 15), [.t 0 false, .t 2 false, .c (.sc (.int .i64 0))], .t, none⟩,
                 ⟨.mv, [.t 3 false], (.v 16), none⟩] false)
               .skip))
             (.seq
              (.reg [
                ⟨.mv, [.v 11 false], .t, none⟩,
                ⟨.mv, [.t 0 false], .t, none⟩,
                ⟨.mv, [.v 14 false], .t, (some (1, true))⟩,
                ⟨(.faB 2 4), [.v 2 false], .t, (some (1, true))⟩,
                ⟨(.ldB 2 1 false false), [.t 3 false, .v 2 false], .t, (some (1, true))⟩,
                ⟨(.bin .geq false), [.t 2 false, .t 4 false], .t, (some (1, true))⟩,
                ⟨.pick, [.t 1 false, .t 5 false, .c (.sc (.bool false))], .t, none⟩,
                ⟨.mv, [.t 6 false], .t, none⟩,
                ⟨(.ldB 3 25 true false), [.v 3 false], .t, (some (7, true))⟩,
                ⟨.mv, [.v 15 false], .t, (some (7, true))⟩,
                ⟨.mv, [.v 12 false], .t, (some (7, true))⟩,
                ⟨(.bin .sub false), [.t 10 false, .c (.sc (.int .i64 1))], .t, (some (7, true))⟩,
                ⟨(.call 15), [.t 8 false, .t 9 false, .t 11 false], .t, (some (7, true))⟩,
                ⟨.mv, [.v 14 false], .t, (some (7, true))⟩,
                ⟨(.bin .add false), [.t 12 false, .t 13 false], .t, (some (7, true))⟩,
                ⟨.mv, [.v 16 false], .t, (some (7, true))⟩,
                ⟨(.bin .eql false), [.t 14 false, .t 15 false], .t, (some (7, true))⟩,
                ⟨.pick, [.t 7 false, .t 16 false, .c (.sc (.bool false))], .t, none⟩,
                ⟨.mv, [.t 17 false], .t, none⟩,
                ⟨(.ldB 3 25 true false), [.v 3 false], .t, (some (18, true))⟩,
                ⟨.mv, [.v 15 false], .t, (some (18, true))⟩,
                ⟨.mv, [.v 12 false], .t, (some (18, true))⟩,
                ⟨(.call 15), [.t 19 false, .t 20 false, .t 21 false], .t, (some (18, true))⟩,
                ⟨(.bin .eql false), [.t 22 false, .c (.sc (.int .i64 (-1)))], .t, (some (18, true))⟩,
                ⟨.pick, [.t 18 false, .t 23 false, .c (.sc (.bool false))], .t, none⟩,
                ⟨.mv, [.t 24 false], (.v 4), none⟩] false)
              .ret)))))))))))) }

/-- underwood/underwoodlaw14.LayoutTells -/
def ir7 : FnIR := { np := 3, nv := 12, slots := [0, 1, 2, 3, 8, 10, 6, 30, 32, 9, 11, 7], res := [.v 6], body :=
  (.seq
   (.reg [
     ⟨(.bx 9), [.v 0 false], (.v 3), none⟩,
     ⟨.mv, [.c (.sc (.bool false))], (.v 6), none⟩] false)
   (.seq
    (.reg [
      ⟨(.call 9), [], .t, none⟩,
      ⟨.mv, [.t 0 false], (.v 11), none⟩] false)
    (.seq
     (.reg [
       ⟨(.ldB 3 9 true false), [.v 3 false], .t, none⟩,
       ⟨(.call 13), [.t 0 false], .t, none⟩,
       ⟨.mv, [.t 1 false], .t, none⟩,
       ⟨(.ext 0), [.t 2 false], .t, none⟩,
       ⟨(.ext 1), [.t 2 false], .t, none⟩,
       ⟨(.bx 25), [.c (.agg [(.sc (.int .i64 0)), (.sc (.int .i64 0)), (.sc (.int .i64 0)), (.sc (.int .i64 0)), (.sc (.int .i64 0)), (.sc (.int .i64 0)), (.sc (.int .i64 0)), (.sc (.int .i64 0)), (.sc (.int .i64 0)), (.sc (.int .i64 0)), (.sc (.int .i64 0)), (.sc (.int .i64 0)), (.sc (.int .i64 0)), (.sc (.int .i64 0)), (.sc (.int .i64 0)), (.sc (.int .i64 0)), (.sc (.int .i64 0)), (.sc (.int .i64 0)), (.sc (.int .i64 0)), (.sc (.int .i64 0)), (.sc (.int .i64 0)), (.sc (.int .i64 0)), (.sc (.int .i64 0)), (.sc (.int .i64 0)), (.sc (.int .i64 0))])], (.v 4), none⟩,
       ⟨(.stB 4 25), [.v 4 false, .t 3 false], .none, none⟩,
       ⟨.mv, [.t 4 false], (.v 9), none⟩] false)
     (.seq
      (.reg [
        ⟨(.ldB 3 9 true false), [.v 3 false], .t, none⟩,
        ⟨(.call 10), [.t 0 false], .t, none⟩,
        ⟨.mv, [.t 1 false], .t, none⟩,
        ⟨(.ext 0), [.t 2 false], .t, none⟩,
        ⟨(.ext 1), [.t 2 false], .t, none⟩,
        ⟨(.bx 25), [.c (.agg [(.sc (.int .i64 0)), (.sc (.int .i64 0)), (.sc (.int .i64 0)), (.sc (.int .i64 0)), (.sc (.int .i64 0)), (.sc (.int .i64 0)), (.sc (.int .i64 0)), (.sc (.int .i64 0)), (.sc (.int .i64 0)), (.sc (.int .i64 0)), (.sc (.int .i64 0)), (.sc (.int .i64 0)), (.sc (.int .i64 0)), (.sc (.int .i64 0)), (.sc (.int .i64 0)), (.sc (.int .i64 0)), (.sc (.int .i64 0)), (.sc (.int .i64 0)), (.sc (.int .i64 0)), (.sc (.int .i64 0)), (.sc (.int .i64 0)), (.sc (.int .i64 0)), (.sc (.int .i64 0)), (.sc (.int .i64 0)), (.sc (.int .i64 0))])], (.v 5), none⟩,
        ⟨(.stB 5 25), [.v 5 false, .t 3 false], .none, none⟩,
        ⟨.mv, [.t 4 false], (.v 10), none⟩] false)
      (.seq
       (.seq
        (.reg [
          ⟨(.ldB 4 25 true false), [.v 4 false], .t, none⟩,
          ⟨(.ldB 5 25 true false), [.v 5 false], .t, none⟩,
          ⟨(.eqA [1, 1, 1, 1, 1, 1, 1, 1, 1, 1, 1, 1, 1, 1, 1, 1, 1, 1, 1, 1, 1, 1, 1, 1, 1] true), [.t 0 false, .t 1 false], .t, none⟩,
          ⟨.mv, [.t 2 false], .t, none⟩,
          ⟨.mv, [.v 9 false], .t, (some (3, false))⟩,
          ⟨.mv, [.v 10 false], .t, (some (3, false))⟩,
          ⟨(.bin .neq false), [.t 4 false, .t 5 false], .t, (some (3, false))⟩,
          ⟨.pick, [.t 3 false, .c (.sc (.bool true)), .t 6 false], (.v 7), none⟩] false)
        (.cond (.v 7 false)
         (.seq
          (.reg [
            ⟨.mv, [.c (.sc (.bool false))], (.v 6), none⟩] false)
          .ret)
         .skip))
       (.seq
        (.seq
         (.reg [
           ⟨.mv, [.v 10 false], .t, none⟩,
           ⟨(.bin .neq false), [.t 0 false, .c (.sc (.int .i64 0))], (.v 8), none⟩] false)
         (.cond (.v 8 false)
          (.seq
           (.reg [
             ⟨.mv, [.v 11 false], .t, none⟩,
             ⟨.mv, [.t 0 false], (.v 6), none⟩] false)
           .ret)
          .skip))
        (.seq
         (.reg [
           ⟨.mv, [.v 11 false], .t, none⟩,
           ⟨.mv, [.t 0 false], .t, none⟩,
           ⟨(.ldB 5 25 true false), [.v 5 false], .t, (some (1, true))⟩,
           ⟨(.call 11), [.t 2 false], .t, (some (1, true))⟩,
           ⟨.pick, [.t 1 false, .t 3 false, .c (.sc (.bool false))], .t, none⟩,
           ⟨.mv, [.t 4 false], .t, none⟩,
           ⟨(.ldB 5 25 true false), [.v 5 false], .t, (some (5, true))⟩,
           ⟨(.call 14), [.t 6 false], .t, (some (5, true))⟩,
           ⟨(.ldB 5 25 true false), [.v 5 false], .t, (some (5, true))⟩,
           ⟨(.call 16), [.t 8 false], .t, (some (5, true))⟩,
           ⟨(.bin .eql false), [.t 7 false, .t 9 false], .t, (some (5, true))⟩,
           ⟨.pick, [.t 5 false, .t 10 false, .c (.sc (.bool false))], .t, none⟩,
           ⟨.mv, [.t 11 false], .t, none⟩,
           ⟨(.ldB 5 25 true false), [.v 5 false], .t, (some (12, true))⟩,
           ⟨.mv, [.v 1 false], .t, (some (12, true))⟩,
           ⟨.mv, [.v 2 false], .t, (some (12, true))⟩,
           ⟨(.call 18), [.t 13 false, .t 14 false, .t 15 false], .t, (some (12, true))⟩,
           ⟨(.ldB 5 25 true false), [.v 5 false], .t, (some (12, true))⟩,
           ⟨.mv, [.v 1 false], .t, (some (12, true))⟩,
           ⟨.mv, [.v 2 false], .t, (some (12, true))⟩,
           ⟨(.call 19), [.t 17 false, .t 18 false, .t 19 false], .t, (some (12, true))⟩,
           ⟨(.call 17), [.t 16 false, .t 20 false], .t, (some (12, true))⟩,
           ⟨.pick, [.t 12 false, .t 21 false, .c (.sc (.bool false))], .t, none⟩,
           ⟨.mv, [.t 22 false], (.v 6), none⟩] true)
         .ret))))))) }

def ir8_l1 : IR :=
                 (.seq
                  (.seq
                   (.reg [
                     ⟨.mv, [.v 29 false], .t, none⟩,
                     ⟨(.faB 2 24), [.v 2 false], .t, none⟩,
                     ⟨(.ldB 2 1 false false), [.t 1 false, .v 2 false], .t, none⟩,
                     ⟨(.bin .lss false), [.t 0 false, .t 2 false], (.v 14), none⟩] false)
                   (.cond (.v 14 false)
                    .skip
                    (.exit 10)))
                  (.seq
                   (.block 11
                    (.seq
                     (.reg [
                       ⟨.mv, [.v 18 false], .t, none⟩,
                       ⟨.mv, [.v 29 false], .t, none⟩,
                       ⟨(.ia 1), [.t 0 false, .t 1 false], .t, none⟩,
                       ⟨(.ldP 1 false false), [.t 2 false], .t, none⟩,
                       ⟨(.bin .neq false), [.t 3 false, .c (.sc (.int .i64 1))], (.v 15), none⟩] false)
                     (.cond (.v 15 false)
                      (.seq
                       (.reg [
                         ⟨.mv, [.c (.sc (.bool false))], (.v 3), none⟩] false)
                       .ret)
                      .skip)))
                   (.reg [
                     ⟨.mv, [.v 29 false], .t, none⟩,
                     ⟨(.bin .add false), [.t 0 false, .c (.sc (.int .i64 1))], .t, none⟩,
                     ⟨.mv, [.t 1 false], (.v 29), none⟩] false)))

def ir8_l5 : IR :=
                                        (.seq
                                         (.seq
                                          (.reg [
                                            ⟨.mv, [.v 28 false], .t, none⟩,
                                            ⟨.mv, [.v 26 false], .t, none⟩,
                                            ⟨(.bin .lss false), [.t 0 false, .t 1 false], (.v 12), none⟩] false)
                                          (.cond (.v 12 false)
                                           .skip
                                           (.exit 8)))
                                         (.seq
                                          (.block 9
                                           (.seq
                                            (.seq
                                             (.reg [
                                               ⟨.mv, [.v 22 false], .t, none⟩,
                                               ⟨.mv, [.v 21 false], .t, none⟩,
                                               ⟨(.ia 1), [.t 0 false, .t 1 false], .t, none⟩,
                                               ⟨(.ldP 1 false false), [.t 2 false], .t, none⟩,
                                               ⟨.mv, [.v 28 false], .t, none⟩,
                                               ⟨(.bin .add false), [.t 3 false, .t 4 false], .t, none⟩,
                                               ⟨(.faB 2 24), [.v 2 false], .t, none⟩,
                                               ⟨(.ldB 2 1 false false), [.t 6 false, .v 2 false], .t, none⟩,
                                               ⟨(.bin .geq false), [.t 5 false, .t 7 false], (.v 13), none⟩] true)
                                             (.cond (.v 13 false)
                                              (.seq
                                               (.reg [
                                                 ⟨.mv, [.c (.sc (.bool false))], (.v 3), none⟩] false)
                                               .ret)
                                              .skip))
                                            (.reg [
                                              ⟨.mv, [.v 18 false], .t, none⟩,
                                              ⟨.mv, [.v 22 false], .t, none⟩,
                                              ⟨.mv, [.v 21 false], .t, none⟩,
                                              ⟨(.ia 1), [.t 1 false, .t 2 false], .t, none⟩,
                                              ⟨(.ldP 1 false false), [.t 3 false], .t, none⟩,
                                              ⟨.mv, [.v 28 false], .t, none⟩,
                                              ⟨(.bin .add false), [.t 4 false, .t 5 false], .t, none⟩,
                                              ⟨(.ia 1), [.t 0 false, .t 6 false], .t, none⟩,
                                              ⟨(.ldP 1 false false), [.t 7 false], .t, none⟩,
                                              ⟨(.bin .add false), [.t 8 false, .c (.sc (.int .i64 1))], .t, none⟩,
                                              ⟨(.ia 1), [.t 0 false, .t 6 false], .t, none⟩,
                                              ⟨(.stP 1), [.t 10 false, .t 9 false], .none, none⟩] false)))
                                          (.reg [
                                            ⟨.mv, [.v 28 false], .t, none⟩,
                                            ⟨(.bin .add false), [.t 0 false, .c (.sc (.int .i64 1))], .t, none⟩,
                                            ⟨.mv, [.t 1 false], (.v 28), none⟩] false)))

def ir8_l4 : IR :=
                                            (.seq
                                             (.seq
                                              (.reg [
                                                ⟨.mv, [.v 25 false], .t, none⟩,
                                                ⟨.mv, [.v 20 false], .t, none⟩,
                                                ⟨(.bin .lss false), [.t 0 false, .t 1 false], (.v 10), none⟩] false)
                                              (.cond (.v 10 false)
                                               .skip
                                               (.exit 6)))
                                             (.seq
                                              (.block 7
                                               (.reg [
                                                 ⟨.mv, [.v 26 false], .t, none⟩,
                                                 ⟨(.bin .mul false), [.c (.sc (.int .i64 2)), .t 0 false], .t, none⟩,
                                                 ⟨.mv, [.t 1 false], (.v 26), none⟩] false))
                                              (.reg [
                                                ⟨.mv, [.v 25 false], .t, none⟩,
                                                ⟨(.bin .add false), [.t 0 false, .c (.sc (.int .i64 1))], .t, none⟩,
                                                ⟨.mv, [.t 1 false], (.v 25), none⟩] false)))

def ir8_l3 : IR :=
                              (.seq
                               (.seq
                                (.reg [
                                  ⟨.mv, [.v 21 false], .t, none⟩,
                                  ⟨.mv, [.v 22 false], .t, none⟩,
                                  ⟨.len, [.t 1 false], .t, none⟩,
                                  ⟨(.bin .lss false), [.t 0 false, .t 2 false], (.v 7), none⟩] false)
                                (.cond (.v 7 false)
                                 .skip
                                 (.exit 4)))
                               (.seq
                                (.block 5
                                 (.seq
                                  (.reg [
                                    ⟨.mv, [.v 21 false], .t, none⟩,
                                    ⟨(.bin .eql false), [.t 0 false, .c (.sc (.int .i64 0))], .t, none⟩,
                                    ⟨.mv, [.t 1 false], .t, none⟩,
                                    ⟨.mv, [.v 21 false], .t, (some (2, false))⟩,
                                    ⟨(.bin .eql false), [.t 3 false, .c (.sc (.int .i64 1))], .t, (some (2, false))⟩,
                                    ⟨.pick, [.t 2 false, .c (.sc (.bool true)), .t 4 false], .t, none⟩,
                                    ⟨.mv, [.t 5 false], .t, none⟩,
                                    ⟨.mv, [.v 21 false], .t, (some (6, false))⟩,
                                    ⟨(.bin .eql false), [.t 7 false, .c (.sc (.int .i64 6))], .t, (some (6, false))⟩,
                                    ⟨.pick, [.t 6 false, .c (.sc (.bool true)), .t 8 false], .t, none⟩,
                                    ⟨.mv, [.t 9 false], .t, none⟩,
                                    ⟨.mv, [.v 21 false], .t, (some (10, false))⟩,
                                    ⟨(.bin .eql false), [.t 11 false, .c (.sc (.int .i64 9))], .t, (some (10, false))⟩,
                                    ⟨.pick, [.t 10 false, .c (.sc (.bool true)), .t 12 false], .t, none⟩,
                                    ⟨.mv, [.t 13 false], .t, none⟩,
                                    ⟨.mv, [.v 21 false], .t, (some (14, false))⟩,
                                    ⟨(.bin .eql false), [.t 15 false, .c (.sc (.int .i64 11))], .t, (some (14, false))⟩,
                                    ⟨.pick, [.t 14 false, .c (.sc (.bool true)), .t 16 false], .t, none⟩,
                                    ⟨.mv, [.t 17 false], .t, none⟩,
                                    ⟨.mv, [.v 21 false], .t, (some (18, false))⟩,
                                    ⟨(.bin .eql false), [.t 19 false, .c (.sc (.int .i64 12))], .t, (some (18, false))⟩,
                                    ⟨.pick, [.t 18 false, .c (.sc (.bool true)), .t 20 false], .t, none⟩,
                                    ⟨.mv, [.t 21 false], (.v 23), none⟩] false)
                                  (.seq
                                   (.seq
                                    (.reg [
                                      ⟨.mv, [.v 22 false], .t, none⟩,
                                      ⟨.mv, [.v 21 false], .t, none⟩,
                                      ⟨(.ia 1), [.t 0 false, .t 1 false], .t, none⟩,
                                      ⟨(.ldP 1 false false), [.t 2 false], .t, none⟩,
                                      ⟨(.bin .lss false), [.t 3 false, .c (.sc (.int .i64 0))], .t, none⟩,
                                      ⟨.mv, [.t 4 false], .t, none⟩,
                                      ⟨.mv, [.v 23 false], .t, (some (5, false))⟩,
                                      ⟨.mv, [.t 6 false], .t, (some (5, false))⟩,
                                      ⟨.mv, [.v 24 false], .t, (some (7, true))⟩,
                                      ⟨(.un .not), [.t 8 false], .t, (some (7, true))⟩,
                                      ⟨.pick, [.t 7 false, .t 9 false, .c (.sc (.bool false))], .t, (some (5, false))⟩,
                                      ⟨.pick, [.t 5 false, .c (.sc (.bool true)), .t 10 false], (.v 8), none⟩] false)
                                    (.cond (.v 8 false)
                                     (.exit 5)
                                     .skip))
                                   (.seq
                                    (.reg [
                                      ⟨.mv, [.c (.sc (.int .i64 1))], (.v 26), none⟩] false)
                                    (.seq
                                     (.seq
                                      (.reg [
                                        ⟨.mv, [.v 21 false], .t, none⟩,
                                        ⟨(.bin .eql false), [.t 0 false, .c (.sc (.int .i64 4))], (.v 9), none⟩] false)
                                      (.cond (.v 9 false)
                                       (.seq
                                        (.reg [
                                          ⟨.mv, [.c (.sc (.int .i64 4))], (.v 26), none⟩] false)
                                        (.seq
                                         (.seq
                                          (.reg [
                                            ⟨.mv, [.c (.sc (.int .i64 0))], (.v 25), none⟩] false)
                                          (.block 6
                                           (.loop ir8_l4)))
                                         (.seq
                                          (.reg [
                                            ⟨.mv, [.v 20 false], .t, none⟩,
                                            ⟨.mv, [.v 27 false], .t, none⟩,
                                            ⟨(.bin .geq false), [.t 0 false, .t 1 false], (.v 11), none⟩] false)
                                          (.cond (.v 11 false)
                                           (.seq
                                            (.reg [
                                              ⟨.mv, [.c (.sc (.bool false))], (.v 3), none⟩] false)
                                            .ret)
                                           .skip))))
                                       .skip))
                                     (.seq
                                      (.reg [
                                        ⟨.mv, [.c (.sc (.int .i64 0))], (.v 28), none⟩] false)
                                      (.block 8
                                       (.loop ir8_l5))))))))
                                (.reg [
                                  ⟨.mv, [.v 21 false], .t, none⟩,
                                  ⟨(.bin .add false), [.t 0 false, .c (.sc (.int .i64 1))], .t, none⟩,
                                  ⟨.mv, [.t 1 false], (.v 21), none⟩] false)))

def ir8_l2 : IR :=
                      (.seq
                       (.seq
                        (.reg [
                          ⟨.mv, [.v 20 false], .t, none⟩,
                          ⟨(.bin .lss false), [.t 0 false, .c (.sc (.int .i64 16))], (.v 6), none⟩] false)
                        (.cond (.v 6 false)
                         .skip
                         (.exit 2)))
                       (.seq
                        (.block 3
                         (.seq
                          (.reg [
                            ⟨(.ldB 2 25 true false), [.v 2 false], .t, none⟩,
                            ⟨.mv, [.v 19 false], .t, none⟩,
                            ⟨.mv, [.v 20 false], .t, none⟩,
                            ⟨(.call 18), [.t 0 false, .t 1 false, .t 2 false], .t, none⟩,
                            ⟨.mv, [.t 3 true], (.v 22), none⟩] false)
                          (.seq
                           (.reg [
                             ⟨.mv, [.v 20 false], .t, none⟩,
                             ⟨(.bin .eql false), [.t 0 false, .c (.sc (.int .i64 0))], .t, none⟩,
                             ⟨.mv, [.t 1 false], (.v 24), none⟩] false)
                           (.seq
                            (.reg [
                              ⟨.mv, [.c (.sc (.int .i64 0))], (.v 21), none⟩] false)
                            (.block 4
                             (.loop ir8_l3))))))
                        (.reg [
                          ⟨.mv, [.v 20 false], .t, none⟩,
                          ⟨(.bin .add false), [.t 0 false, .c (.sc (.int .i64 1))], .t, none⟩,
                          ⟨.mv, [.t 1 false], (.v 20), none⟩] false)))

def ir8_l0 : IR :=
                (.seq
                 (.seq
                  (.reg [
                    ⟨.mv, [.v 19 false], .t, none⟩,
                    ⟨(.bin .lss false), [.t 0 false, .c (.sc (.int .i64 64))], (.v 5), none⟩] false)
                  (.cond (.v 5 false)
                   .skip
                   (.exit 0)))
                 (.seq
                  (.block 1
                   (.seq
                    (.reg [
                      ⟨.mv, [.c (.sc (.int .i64 0))], (.v 20), none⟩] false)
                    (.block 2
                     (.loop ir8_l2))))
                  (.reg [
                    ⟨.mv, [.v 19 false], .t, none⟩,
                    ⟨(.bin .add false), [.t 0 false, .c (.sc (.int .i64 1))], .t, none⟩,
                    ⟨.mv, [.t 1 false], (.v 19), none⟩] false)))

/-- underwood/underwoodlaw14.LayoutApart -/
def ir8 : FnIR := { np := 1, nv := 30, slots := [0, 1, 4, 2, 45, 81, 85, 97, 133, 135, 138, 145, 148, 159, 174, 181, 5, 3, 6, 8, 9, 12, 10, 13, 11, 15, 14, 7, 16, 17], res := [.v 3], body :=
  (.seq
   (.reg [
     ⟨(.bx 9), [.v 0 false], (.v 1), none⟩,
     ⟨.mv, [.c (.sc (.bool false))], (.v 3), none⟩] false)
   (.seq
    (.reg [
      ⟨(.call 9), [], .t, none⟩,
      ⟨.mv, [.t 0 false], (.v 17), none⟩] false)
    (.seq
     (.reg [
       ⟨(.ldB 1 9 true false), [.v 1 false], .t, none⟩,
       ⟨(.call 10), [.t 0 false], .t, none⟩,
       ⟨.mv, [.t 1 false], .t, none⟩,
       ⟨(.ext 0), [.t 2 false], .t, none⟩,
       ⟨(.ext 1), [.t 2 false], .t, none⟩,
       ⟨(.bx 25), [.c (.agg [(.sc (.int .i64 0)), (.sc (.int .i64 0)), (.sc (.int .i64 0)), (.sc (.int .i64 0)), (.sc (.int .i64 0)), (.sc (.int .i64 0)), (.sc (.int .i64 0)), (.sc (.int .i64 0)), (.sc (.int .i64 0)), (.sc (.int .i64 0)), (.sc (.int .i64 0)), (.sc (.int .i64 0)), (.sc (.int .i64 0)), (.sc (.int .i64 0)), (.sc (.int .i64 0)), (.sc (.int .i64 0)), (.sc (.int .i64 0)), (.sc (.int .i64 0)), (.sc (.int .i64 0)), (.sc (.int .i64 0)), (.sc (.int .i64 0)), (.sc (.int .i64 0)), (.sc (.int .i64 0)), (.sc (.int .i64 0)), (.sc (.int .i64 0))])], (.v 2), none⟩,
       ⟨(.stB 2 25), [.v 2 false, .t 3 false], .none, none⟩,
       ⟨.mv, [.t 4 false], (.v 16), none⟩] false)
     (.seq
      (.seq
       (.reg [
         ⟨.mv, [.v 16 false], .t, none⟩,
         ⟨(.bin .neq false), [.t 0 false, .c (.sc (.int .i64 0))], .t, none⟩,
         ⟨.mv, [.t 1 false], .t, none⟩,
         ⟨(.faB 1 0), [.v 1 false], .t, (some (2, false))⟩,
         ⟨(.ldB 1 1 false false), [.t 3 false, .v 1 false], .t, (some (2, false))⟩,
         ⟨(.bin .gtr false), [.t 4 false, .c (.sc (.int .i64 2))], .t, (some (2, false))⟩,
         ⟨.pick, [.t 2 false, .c (.sc (.bool true)), .t 5 false], .t, none⟩,
         ⟨.mv, [.t 6 false], .t, none⟩,
         ⟨(.faB 1 4), [.v 1 false], .t, (some (7, false))⟩,
         ⟨(.ldB 1 1 false false), [.t 8 false, .v 1 false], .t, (some (7, false))⟩,
         ⟨(.bin .gtr false), [.t 9 false, .c (.sc (.int .i64 9))], .t, (some (7, false))⟩,
         ⟨.pick, [.t 7 false, .c (.sc (.bool true)), .t 10 false], .t, none⟩,
         ⟨.mv, [.t 11 false], .t, none⟩,
         ⟨(.faB 1 2), [.v 1 false], .t, (some (12, false))⟩,
         ⟨(.ldB 1 1 false false), [.t 13 false, .v 1 false], .t, (some (12, false))⟩,
         ⟨(.bin .gtr false), [.t 14 false, .c (.sc (.int .i64 8))], .t, (some (12, false))⟩,
         ⟨.pick, [.t 12 false, .c (.sc (.bool true)), .t 15 false], .t, none⟩,
         ⟨.mv, [.t 16 false], .t, none⟩,
         ⟨(.faB 1 1), [.v 1 false], .t, (some (17, false))⟩,
         ⟨(.ldB 1 1 false false), [.t 18 false, .v 1 false], .t, (some (17, false))⟩,
         ⟨(.bin .gtr false), [.t 19 false, .c (.sc (.int .i64 20))], .t, (some (17, false))⟩,
         ⟨.pick, [.t 17 false, .c (.sc (.bool true)), .t 20 false], (.v 4), none⟩] false)
       (.cond (.v 4 false)
        (.seq
         (.reg [
           ⟨.mv, [.v 17 false], .t, none⟩,
           ⟨.mv, [.t 0 false], (.v 3), none⟩] false)
         .ret)
        .skip))
      (.seq
       (.reg [
         ⟨(.faB 2 24), [.v 2 false], .t, none⟩,
         ⟨(.ldB 2 1 false false), [.t 0 false, .v 2 false], .t, none⟩,
         ⟨(.mkSl 1 8 false [(.sc (.int .i64 0))]), [.t 1 false, .t 1 false], .t, none⟩,
         ⟨.mv, [.t 2 true], (.v 18), none⟩] false)
       (.seq
        (.reg [
          ⟨.mv, [.v 18 false], .t, none⟩,
          ⟨(.faB 2 9), [.v 2 false], .t, none⟩,
          ⟨(.ldB 2 1 false false), [.t 1 false, .v 2 false], .t, none⟩,
          ⟨(.ia 1), [.t 0 false, .t 2 false], .t, none⟩,
          ⟨(.ldP 1 false false), [.t 3 false], .t, none⟩,
          ⟨(.bin .add false), [.t 4 false, .c (.sc (.int .i64 1))], .t, none⟩,
          ⟨(.ia 1), [.t 0 false, .t 2 false], .t, none⟩,
          ⟨(.stP 1), [.t 6 false, .t 5 false], .none, none⟩] false)
        (.seq
         (.reg [
           ⟨.mv, [.v 18 false], .t, none⟩,
           ⟨(.faB 2 10), [.v 2 false], .t, none⟩,
           ⟨(.ldB 2 1 false false), [.t 1 false, .v 2 false], .t, none⟩,
           ⟨(.ia 1), [.t 0 false, .t 2 false], .t, none⟩,
           ⟨(.ldP 1 false false), [.t 3 false], .t, none⟩,
           ⟨(.bin .add false), [.t 4 false, .c (.sc (.int .i64 1))], .t, none⟩,
           ⟨(.ia 1), [.t 0 false, .t 2 false], .t, none⟩,
           ⟨(.stP 1), [.t 6 false, .t 5 false], .none, none⟩] false)
         (.seq
          (.reg [
            ⟨.mv, [.v 18 false], .t, none⟩,
            ⟨(.faB 2 11), [.v 2 false], .t, none⟩,
            ⟨(.ldB 2 1 false false), [.t 1 false, .v 2 false], .t, none⟩,
            ⟨(.ia 1), [.t 0 false, .t 2 false], .t, none⟩,
            ⟨(.ldP 1 false false), [.t 3 false], .t, none⟩,
            ⟨(.bin .add false), [.t 4 false, .c (.sc (.int .i64 1))], .t, none⟩,
            ⟨(.ia 1), [.t 0 false, .t 2 false], .t, none⟩,
            ⟨(.stP 1), [.t 6 false, .t 5 false], .none, none⟩] false)
          (.seq
           (.reg [
             ⟨.mv, [.v 18 false], .t, none⟩,
             ⟨(.faB 2 12), [.v 2 false], .t, none⟩,
             ⟨(.ldB 2 1 false false), [.t 1 false, .v 2 false], .t, none⟩,
             ⟨(.ia 1), [.t 0 false, .t 2 false], .t, none⟩,
             ⟨(.ldP 1 false false), [.t 3 false], .t, none⟩,
             ⟨(.bin .add false), [.t 4 false, .c (.sc (.int .i64 1))], .t, none⟩,
             ⟨(.ia 1), [.t 0 false, .t 2 false], .t, none⟩,
             ⟨(.stP 1), [.t 6 false, .t 5 false], .none, none⟩] false)
           (.seq
            (.reg [
              ⟨(.ldB 2 25 true false), [.v 2 false], .t, none⟩,
              ⟨(.call 14), [.t 0 false], .t, none⟩,
              ⟨.mv, [.t 1 false], (.v 27), none⟩] false)
            (.seq
             (.seq
              (.reg [
                ⟨.mv, [.c (.sc (.int .i64 0))], (.v 19), none⟩] false)
              (.block 0
               (.loop ir8_l0)))
             (.seq
              (.seq
               (.reg [
                 ⟨.mv, [.c (.sc (.int .i64 0))], (.v 29), none⟩] false)
               (.block 10
                (.loop ir8_l1)))
              (.seq
               (.reg [
                 ⟨.mv, [.v 17 false], .t, none⟩,
                 ⟨.mv, [.t 0 false], (.v 3), none⟩] false)
               .ret))))))))))))) }

/-- underwood/underwoodlaw14.shown -/
def ir9 : FnIR := { np := 0, nv := 7, slots := [1, 3, 5, 0, 2, 4, 6], res := [.v 3], body :=
  (.seq
   (.reg [
     ⟨.mv, [.c (.sc (.bool false))], (.v 3), none⟩] false)
   (.seq
    (.reg [
      ⟨(.build [(.sc (.int .i64 0)), (.sc (.int .i64 0)), (.sc (.int .i64 0)), (.sc (.int .i64 0)), (.sc (.int .i64 0)), (.sc (.int .i64 0)), (.sc (.int .i64 0)), (.sc (.int .i64 0)), (.sc (.int .i64 0))] [(0, 1), (2, 1), (3, 1), (4, 1)]), [.c (.sc (.int .i64 1)), .c (.sc (.int .i64 1)), .c (.sc (.int .i64 1)), .c (.sc (.int .i64 1))], .t, none⟩,
      ⟨(.call 13), [.t 0 false], .t, none⟩,
      ⟨.mv, [.t 1 false], .t, none⟩,
      ⟨(.ext 0), [.t 2 false], .t, none⟩,
      ⟨(.ext 1), [.t 2 false], .t, none⟩,
      ⟨(.bx 25), [.c (.agg [(.sc (.int .i64 0)), (.sc (.int .i64 0)), (.sc (.int .i64 0)), (.sc (.int .i64 0)), (.sc (.int .i64 0)), (.sc (.int .i64 0)), (.sc (.int .i64 0)), (.sc (.int .i64 0)), (.sc (.int .i64 0)), (.sc (.int .i64 0)), (.sc (.int .i64 0)), (.sc (.int .i64 0)), (.sc (.int .i64 0)), (.sc (.int .i64 0)), (.sc (.int .i64 0)), (.sc (.int .i64 0)), (.sc (.int .i64 0)), (.sc (.int .i64 0)), (.sc (.int .i64 0)), (.sc (.int .i64 0)), (.sc (.int .i64 0)), (.sc (.int .i64 0)), (.sc (.int .i64 0)), (.sc (.int .i64 0)), (.sc (.int .i64 0))])], (.v 0), none⟩,
      ⟨(.stB 0 25), [.v 0 false, .t 3 false], .none, none⟩,
      ⟨.mv, [.t 4 false], (.v 4), none⟩] false)
    (.seq
     (.reg [
       ⟨(.build [(.sc (.int .i64 0)), (.sc (.int .i64 0)), (.sc (.int .i64 0)), (.sc (.int .i64 0)), (.sc (.int .i64 0)), (.sc (.int .i64 0)), (.sc (.int .i64 0)), (.sc (.int .i64 0)), (.sc (.int .i64 0))] []), [], .t, none⟩,
       ⟨(.call 13), [.t 0 false], .t, none⟩,
       ⟨.mv, [.t 1 false], .t, none⟩,
       ⟨(.ext 0), [.t 2 false], .t, none⟩,
       ⟨(.ext 1), [.t 2 false], .t, none⟩,
       ⟨(.bx 25), [.c (.agg [(.sc (.int .i64 0)), (.sc (.int .i64 0)), (.sc (.int .i64 0)), (.sc (.int .i64 0)), (.sc (.int .i64 0)), (.sc (.int .i64 0)), (.sc (.int .i64 0)), (.sc (.int .i64 0)), (.sc (.int .i64 0)), (.sc (.int .i64 0)), (.sc (.int .i64 0)), (.sc (.int .i64 0)), (.sc (.int .i64 0)), (.sc (.int .i64 0)), (.sc (.int .i64 0)), (.sc (.int .i64 0)), (.sc (.int .i64 0)), (.sc (.int .i64 0)), (.sc (.int .i64 0)), (.sc (.int .i64 0)), (.sc (.int .i64 0)), (.sc (.int .i64 0)), (.sc (.int .i64 0)), (.sc (.int .i64 0)), (.sc (.int .i64 0))])], (.v 1), none⟩,
       ⟨(.stB 1 25), [.v 1 false, .t 3 false], .none, none⟩,
       ⟨.mv, [.t 4 false], (.v 5), none⟩] false)
     (.seq
      (.reg [
        ⟨(.build [(.sl .full 3 []), (.sl .full 1 []), (.sc (.int .i64 0)), (.sc (.int .i64 0)), (.sc (.int .i64 0)), (.sc (.int .i64 0))] [(2, 1)]), [.c (.sc (.int .i64 1))], .t, none⟩,
        ⟨(.build [(.sc (.int .i64 0)), (.sc (.int .i64 0)), (.sc (.int .i64 0)), (.sc (.int .i64 0))] [(0, 1)]), [.c (.sc (.int .i64 2))], .t, none⟩,
        ⟨(.build [(.sc (.int .i64 0)), (.sl .full 1 []), (.sc (.int .i64 0)), (.sc (.int .i64 0)), (.sc (.int .i64 0)), (.sc (.int .i64 0)), (.sc (.int .i64 0)), (.sc (.int .i64 0)), (.sc (.int .i64 0)), (.sc (.bool false))] [(2, 1), (4, 4)]), [.c (.sc (.int .i64 1)), .t 1 false], .t, none⟩,
        ⟨(.buildSl 10 [(.agg [(.sc (.int .i64 0)), (.sl .full 1 []), (.sc (.int .i64 0)), (.sc (.int .i64 0)), (.sc (.int .i64 0)), (.sc (.int .i64 0)), (.sc (.int .i64 0)), (.sc (.int .i64 0)), (.sc (.int .i64 0)), (.sc (.bool false))])] [0]), [.t 2 false], .t, none⟩,
        ⟨(.build [(.sc (.int .i64 0)), (.sc (.int .i64 0)), (.sl .full 1 []), (.sl .full 3 []), (.sl .full 3 []), (.sl .full 3 []), (.sl .full 10 []), (.sl .full 5 []), (.sc (.int .i64 0)), (.sc (.int .i64 0)), (.sl .full 1 [])] [(6, 1)]), [.t 3 true], .t, none⟩,
        ⟨(.call 12), [.t 0 false, .t 4 false, .c (.sc (.int .i64 2))], .t, none⟩,
        ⟨.mv, [.t 5 false], .t, none⟩,
        ⟨(.ext 0), [.t 6 false], .t, none⟩,
        ⟨(.ext 1), [.t 6 false], .t, none⟩,
        ⟨(.bx 9), [.c (.agg [(.sc (.int .i64 0)), (.sc (.int .i64 0)), (.sc (.int .i64 0)), (.sc (.int .i64 0)), (.sc (.int .i64 0)), (.sc (.int .i64 0)), (.sc (.int .i64 0)), (.sc (.int .i64 0)), (.sc (.int .i64 0))])], (.v 2), none⟩,
        ⟨(.stB 2 9), [.v 2 false, .t 7 false], .none, none⟩,
        ⟨.mv, [.t 8 false], (.v 6), none⟩] false)
      (.seq
       (.reg [
         ⟨.mv, [.v 4 false], .t, none⟩,
         ⟨(.bin .eql false), [.t 0 false, .c (.sc (.int .i64 0))], .t, none⟩,
         ⟨.mv, [.t 1 false], .t, none⟩,
         ⟨.mv, [.v 5 false], .t, (some (2, true))⟩,
         ⟨(.bin .eql false), [.t 3 false, .c (.sc (.int .i64 1))], .t, (some (2, true))⟩,
         ⟨.pick, [.t 2 false, .t 4 false, .c (.sc (.bool false))], .t, none⟩,
         ⟨.mv, [.t 5 false], .t, none⟩,
         ⟨.mv, [.v 6 false], .t, (some (6, true))⟩,
         ⟨(.bin .eql false), [.t 7 false, .c (.sc (.int .i64 0))], .t, (some (6, true))⟩,
         ⟨.pick, [.t 6 false, .t 8 false, .c (.sc (.bool false))], .t, none⟩,
         ⟨.mv, [.t 9 false], .t, none⟩,
         ⟨(.faB 0 13), [.v 0 false], .t, (some (10, true))⟩,
         ⟨(.ldB 0 1 false false), [.t 11 false, .v 0 false], .t, (some (10, true))⟩,
         ⟨(.bin .eql false), [.t 12 false, .c (.sc (.int .i64 4))], .t, (some (10, true))⟩,
         ⟨.pick, [.t 10 false, .t 13 false, .c (.sc (.bool false))], .t, none⟩,
         ⟨.mv, [.t 14 false], .t, none⟩,
         ⟨(.faB 0 14), [.v 0 false], .t, (some (15, true))⟩,
         ⟨(.ldB 0 1 false false), [.t 16 false, .v 0 false], .t, (some (15, true))⟩,
         ⟨(.bin .eql false), [.t 17 false, .c (.sc (.int .i64 5))], .t, (some (15, true))⟩,
         ⟨.pick, [.t 15 false, .t 18 false, .c (.sc (.bool false))], .t, none⟩,
         ⟨.mv, [.t 19 false], .t, none⟩,
         ⟨(.faB 0 15), [.v 0 false], .t, (some (20, true))⟩,
         ⟨(.ldB 0 1 false false), [.t 21 false, .v 0 false], .t, (some (20, true))⟩,
         ⟨(.bin .eql false), [.t 22 false, .c (.sc (.int .i64 6))], .t, (some (20, true))⟩,
         ⟨.pick, [.t 20 false, .t 23 false, .c (.sc (.bool false))], .t, none⟩,
         ⟨.mv, [.t 24 false], .t, none⟩,
         ⟨(.faB 0 16), [.v 0 false], .t, (some (25, true))⟩,
         ⟨(.ldB 0 1 false false), [.t 26 false, .v 0 false], .t, (some (25, true))⟩,
         ⟨(.bin .eql false), [.t 27 false, .c (.sc (.int .i64 9))], .t, (some (25, true))⟩,
         ⟨.pick, [.t 25 false, .t 28 false, .c (.sc (.bool false))], .t, none⟩,
         ⟨.mv, [.t 29 false], .t, none⟩,
         ⟨(.faB 0 17), [.v 0 false], .t, (some (30, true))⟩,
         ⟨(.ldB 0 1 false false), [.t 31 false, .v 0 false], .t, (some (30, true))⟩,
         ⟨(.bin .eql false), [.t 32 false, .c (.sc (.int .i64 12))], .t, (some (30, true))⟩,
         ⟨.pick, [.t 30 false, .t 33 false, .c (.sc (.bool false))], .t, none⟩,
         ⟨.mv, [.t 34 false], .t, none⟩,
         ⟨(.faB 0 18), [.v 0 false], .t, (some (35, true))⟩,
         ⟨(.ldB 0 1 false false), [.t 36 false, .v 0 false], .t, (some (35, true))⟩,
         ⟨(.bin .eql false), [.t 37 false, .c (.sc (.int .i64 16))], .t, (some (35, true))⟩,
         ⟨.pick, [.t 35 false, .t 38 false, .c (.sc (.bool false))], .t, none⟩,
         ⟨.mv, [.t 39 false], .t, none⟩,
         ⟨(.faB 0 24), [.v 0 false], .t, (some (40, true))⟩,
         ⟨(.ldB 0 1 false false), [.t 41 false, .v 0 false], .t, (some (40, true))⟩,
         ⟨(.bin .eql false), [.t 42 false, .c (.sc (.int .i64 20))], .t, (some (40, true))⟩,
         ⟨.pick, [.t 40 false, .t 43 false, .c (.sc (.bool false))], .t, none⟩,
         ⟨.mv, [.t 44 false], .t, none⟩,
         ⟨(.ldB 0 25 true false), [.v 0 false], .t, (some (45, true))⟩,
         ⟨(.call 11), [.t 46 false], .t, (some (45, true))⟩,
         ⟨.pick, [.t 45 false, .t 47 false, .c (.sc (.bool false))], .t, none⟩,
         ⟨.mv, [.t 48 false], .t, none⟩,
         ⟨(.ldB 0 25 true false), [.v 0 false], .t, (some (49, true))⟩,
         ⟨(.call 14), [.t 50 false], .t, (some (49, true))⟩,
         ⟨(.bin .eql false), [.t 51 false, .c (.sc (.int .i64 1))], .t, (some (49, true))⟩,
         ⟨.pick, [.t 49 false, .t 52 false, .c (.sc (.bool false))], .t, none⟩,
         ⟨.mv, [.t 53 false], .t, none⟩,
         ⟨(.ldB 0 25 true false), [.v 0 false], .t, (some (54, true))⟩,
         ⟨(.call 20), [.t 55 false, .c (.sc (.int .i64 1)), .c (.sc (.int .i64 3))], .t, (some (54, true))⟩,
         ⟨(.bin .eql false), [.t 56 false, .c (.sc (.int .i64 19))], .t, (some (54, true))⟩,
         ⟨.pick, [.t 54 false, .t 57 false, .c (.sc (.bool false))], .t, none⟩,
         ⟨.mv, [.t 58 false], .t, none⟩,
         ⟨(.ldB 0 25 true false), [.v 0 false], .t, (some (59, true))⟩,
         ⟨(.call 20), [.t 60 false, .c (.sc (.int .i64 0)), .c (.sc (.int .i64 0))], .t, (some (59, true))⟩,
         ⟨(.bin .eql false), [.t 61 false, .c (.sc (.int .i64 (-1)))], .t, (some (59, true))⟩,
         ⟨.pick, [.t 59 false, .t 62 false, .c (.sc (.bool false))], .t, none⟩,
         ⟨.mv, [.t 63 false], .t, none⟩,
         ⟨(.ldB 0 25 true false), [.v 0 false], .t, (some (64, true))⟩,
         ⟨(.call 21), [.t 65 false, .c (.sc (.int .i64 1)), .c (.sc (.int .i64 0))], .t, (some (64, true))⟩,
         ⟨(.bin .eql false), [.t 66 false, .c (.sc (.int .i64 (-1)))], .t, (some (64, true))⟩,
         ⟨.pick, [.t 64 false, .t 67 false, .c (.sc (.bool false))], .t, none⟩,
         ⟨.mv, [.t 68 false], .t, none⟩,
         ⟨(.ldB 2 9 true false), [.v 2 false], .t, (some (69, true))⟩,
         ⟨(.build [(.sc (.int .i64 0)), (.sc (.int .i64 0)), (.sc (.int .i64 0)), (.sc (.int .i64 0)), (.sc (.int .i64 0)), (.sc (.int .i64 0)), (.sc (.int .i64 0)), (.sc (.int .i64 0)), (.sc (.int .i64 0))] [(0, 1), (1, 1), (2, 1), (3, 1), (4, 1), (6, 1)]), [.c (.sc (.int .i64 2)), .c (.sc (.int .i64 22)), .c (.sc (.int .i64 1)), .c (.sc (.int .i64 1)), .c (.sc (.int .i64 1)), .c (.sc (.int .i64 1))], .t, (some (69, true))⟩,
         ⟨(.eqA [1, 1, 1, 1, 1, 1, 1, 1, 1] false), [.t 70 false, .t 71 false], .t, (some (69, true))⟩,
         ⟨.pick, [.t 69 false, .t 72 false, .c (.sc (.bool false))], .t, none⟩,
         ⟨.mv, [.t 73 false], (.v 3), none⟩] false)
       .ret))))) }

/-- underwood/underwoodref14.Of -/
def ir10 : FnIR := { np := 1, nv := 8, slots := [0, 1, 2, 5, 3, 21, 4, 6], res := [.b 2 25 true, .v 4], body :=
  (.seq
   (.reg [
     ⟨(.bx 9), [.v 0 false], (.v 1), none⟩,
     ⟨(.bx 25), [.c (.agg [(.sc (.int .i64 0)), (.sc (.int .i64 0)), (.sc (.int .i64 0)), (.sc (.int .i64 0)), (.sc (.int .i64 0)), (.sc (.int .i64 0)), (.sc (.int .i64 0)), (.sc (.int .i64 0)), (.sc (.int .i64 0)), (.sc (.int .i64 0)), (.sc (.int .i64 0)), (.sc (.int .i64 0)), (.sc (.int .i64 0)), (.sc (.int .i64 0)), (.sc (.int .i64 0)), (.sc (.int .i64 0)), (.sc (.int .i64 0)), (.sc (.int .i64 0)), (.sc (.int .i64 0)), (.sc (.int .i64 0)), (.sc (.int .i64 0)), (.sc (.int .i64 0)), (.sc (.int .i64 0)), (.sc (.int .i64 0)), (.sc (.int .i64 0))])], (.v 2), none⟩,
     ⟨.mv, [.c (.sc (.int .i64 0))], (.v 4), none⟩] false)
   (.seq
    (.reg [
      ⟨(.ldB 1 9 true false), [.v 1 false], .t, none⟩,
      ⟨(.call 22), [.t 0 false], .t, none⟩,
      ⟨.mv, [.t 1 false], (.v 6), none⟩] false)
    (.seq
     (.seq
      (.reg [
        ⟨.mv, [.v 6 false], .t, none⟩,
        ⟨(.un .not), [.t 0 false], .t, none⟩,
        ⟨.mv, [.t 1 false], .t, none⟩,
        ⟨(.faB 1 1), [.v 1 false], .t, (some (2, false))⟩,
        ⟨(.ldB 1 1 false false), [.t 3 false, .v 1 false], .t, (some (2, false))⟩,
        ⟨(.faB 1 6), [.v 1 false], .t, (some (2, false))⟩,
        ⟨(.ldB 1 1 false false), [.t 5 false, .v 1 false], .t, (some (2, false))⟩,
        ⟨(.faB 1 8), [.v 1 false], .t, (some (2, false))⟩,
        ⟨(.ldB 1 1 false false), [.t 7 false, .v 1 false], .t, (some (2, false))⟩,
        ⟨(.bin .add false), [.t 6 false, .t 8 false], .t, (some (2, false))⟩,
        ⟨(.call 23), [.t 4 false, .t 9 false, .c (.sc (.int .i64 1000))], .t, (some (2, false))⟩,
        ⟨(.un .not), [.t 10 false], .t, (some (2, false))⟩,
        ⟨.pick, [.t 2 false, .c (.sc (.bool true)), .t 11 false], (.v 5), none⟩] false)
      (.cond (.v 5 false)
       (.seq
        (.reg [
          ⟨(.build [(.sc (.int .i64 0)), (.sc (.int .i64 0)), (.sc (.int .i64 0)), (.sc (.int .i64 0)), (.sc (.int .i64 0)), (.sc (.int .i64 0)), (.sc (.int .i64 0)), (.sc (.int .i64 0)), (.sc (.int .i64 0)), (.sc (.int .i64 0)), (.sc (.int .i64 0)), (.sc (.int .i64 0)), (.sc (.int .i64 0)), (.sc (.int .i64 0)), (.sc (.int .i64 0)), (.sc (.int .i64 0)), (.sc (.int .i64 0)), (.sc (.int .i64 0)), (.sc (.int .i64 0)), (.sc (.int .i64 0)), (.sc (.int .i64 0)), (.sc (.int .i64 0)), (.sc (.int .i64 0)), (.sc (.int .i64 0)), (.sc (.int .i64 0))] []), [], .t, none⟩,
          ⟨(.stB 2 25), [.v 2 false, .t 0 false], .none, none⟩,
          ⟨.mv, [.c (.sc (.int .i64 1))], (.v 4), none⟩] false)
        .ret)
       .skip))
     (.seq
      (.reg [
        ⟨(.ldB 1 9 true false), [.v 1 false], .t, none⟩,
        ⟨(.build [(.sc (.int .i64 0)), (.sc (.int .i64 0)), (.sc (.int .i64 0)), (.sc (.int .i64 0)), (.sc (.int .i64 0)), (.sc (.int .i64 0)), (.sc (.int .i64 0)), (.sc (.int .i64 0)), (.sc (.int .i64 0)), (.sc (.int .i64 0)), (.sc (.int .i64 0)), (.sc (.int .i64 0)), (.sc (.int .i64 0)), (.sc (.int .i64 0)), (.sc (.int .i64 0)), (.sc (.int .i64 0)), (.sc (.int .i64 0)), (.sc (.int .i64 0)), (.sc (.int .i64 0)), (.sc (.int .i64 0)), (.sc (.int .i64 0)), (.sc (.int .i64 0)), (.sc (.int .i64 0)), (.sc (.int .i64 0)), (.sc (.int .i64 0))] [(0, 9), (9, 1), (10, 1), (11, 1), (12, 1), (13, 1)]), [.t 0 false, .c (.sc (.int .i64 0)), .c (.sc (.int .i64 1)), .c (.sc (.int .i64 2)), .c (.sc (.int .i64 3)), .c (.sc (.int .i64 4))], .t, none⟩,
        ⟨(.bx 25), [.c (.agg [(.sc (.int .i64 0)), (.sc (.int .i64 0)), (.sc (.int .i64 0)), (.sc (.int .i64 0)), (.sc (.int .i64 0)), (.sc (.int .i64 0)), (.sc (.int .i64 0)), (.sc (.int .i64 0)), (.sc (.int .i64 0)), (.sc (.int .i64 0)), (.sc (.int .i64 0)), (.sc (.int .i64 0)), (.sc (.int .i64 0)), (.sc (.int .i64 0)), (.sc (.int .i64 0)), (.sc (.int .i64 0)), (.sc (.int .i64 0)), (.sc (.int .i64 0)), (.sc (.int .i64 0)), (.sc (.int .i64 0)), (.sc (.int .i64 0)), (.sc (.int .i64 0)), (.sc (.int .i64 0)), (.sc (.int .i64 0)), (.sc (.int .i64 0))])], (.v 3), none⟩,
        ⟨(.stB 3 25), [.v 3 false, .t 1 false], .none, none⟩] false)
      (.seq
       (.reg [
         ⟨(.ldB 3 25 true false), [.v 3 false], .t, none⟩,
         ⟨(.call 16), [.t 0 false], .t, none⟩,
         ⟨.mv, [.t 1 false], (.v 7), none⟩] false)
       (.seq
        (.reg [
          ⟨(.faB 3 13), [.v 3 false], .t, none⟩,
          ⟨(.ldB 3 1 false false), [.t 0 false, .v 3 false], .t, none⟩,
          ⟨(.faB 1 0), [.v 1 false], .t, none⟩,
          ⟨(.ldB 1 1 false false), [.t 2 false, .v 1 false], .t, none⟩,
          ⟨(.bin .add false), [.t 1 false, .t 3 false], .t, none⟩,
          ⟨(.faB 3 14), [.v 3 false], .t, none⟩,
          ⟨(.stB 3 1), [.t 5 false, .t 4 false], .none, none⟩] false)
        (.seq
         (.reg [
           ⟨(.faB 3 14), [.v 3 false], .t, none⟩,
           ⟨(.ldB 3 1 false false), [.t 0 false, .v 3 false], .t, none⟩,
           ⟨(.faB 1 0), [.v 1 false], .t, none⟩,
           ⟨(.ldB 1 1 false false), [.t 2 false, .v 1 false], .t, none⟩,
           ⟨(.bin .add false), [.t 1 false, .t 3 false], .t, none⟩,
           ⟨(.faB 3 15), [.v 3 false], .t, none⟩,
           ⟨(.stB 3 1), [.t 5 false, .t 4 false], .none, none⟩] false)
         (.seq
          (.reg [
            ⟨(.faB 3 15), [.v 3 false], .t, none⟩,
            ⟨(.ldB 3 1 false false), [.t 0 false, .v 3 false], .t, none⟩,
            ⟨(.faB 1 0), [.v 1 false], .t, none⟩,
            ⟨(.ldB 1 1 false false), [.t 2 false, .v 1 false], .t, none⟩,
            ⟨(.bin .mul false), [.c (.sc (.int .i64 3)), .t 3 false], .t, none⟩,
            ⟨(.bin .add false), [.t 1 false, .t 4 false], .t, none⟩,
            ⟨(.faB 3 16), [.v 3 false], .t, none⟩,
            ⟨(.stB 3 1), [.t 6 false, .t 5 false], .none, none⟩] false)
          (.seq
           (.reg [
             ⟨(.faB 3 16), [.v 3 false], .t, none⟩,
             ⟨(.ldB 3 1 false false), [.t 0 false, .v 3 false], .t, none⟩,
             ⟨(.faB 1 0), [.v 1 false], .t, none⟩,
             ⟨(.ldB 1 1 false false), [.t 2 false, .v 1 false], .t, none⟩,
             ⟨(.bin .mul false), [.c (.sc (.int .i64 3)), .t 3 false], .t, none⟩,
             ⟨(.bin .add false), [.t 1 false, .t 4 false], .t, none⟩,
             ⟨(.faB 3 17), [.v 3 false], .t, none⟩,
             ⟨(.stB 3 1), [.t 6 false, .t 5 false], .none, none⟩] false)
           (.seq
            (.reg [
              ⟨(.faB 3 17), [.v 3 false], .t, none⟩,
              ⟨(.ldB 3 1 false false), [.t 0 false, .v 3 false], .t, none⟩,
              ⟨(.faB 1 0), [.v 1 false], .t, none⟩,
              ⟨(.ldB 1 1 false false), [.t 2 false, .v 1 false], .t, none⟩,
              ⟨.mv, [.v 7 false], .t, none⟩,
              ⟨(.call 24), [.t 4 false], .t, none⟩,
              ⟨(.bin .mul false), [.t 3 false, .t 5 false], .t, none⟩,
              ⟨(.bin .add false), [.t 1 false, .t 6 false], .t, none⟩,
              ⟨(.faB 3 18), [.v 3 false], .t, none⟩,
              ⟨(.stB 3 1), [.t 8 false, .t 7 false], .none, none⟩] true)
            (.seq
             (.reg [
               ⟨(.faB 3 18), [.v 3 false], .t, none⟩,
               ⟨(.ldB 3 1 false false), [.t 0 false, .v 3 false], .t, none⟩,
               ⟨(.faB 1 4), [.v 1 false], .t, none⟩,
               ⟨(.ldB 1 1 false false), [.t 2 false, .v 1 false], .t, none⟩,
               ⟨(.bin .mul false), [.c (.sc (.int .i64 4)), .t 3 false], .t, none⟩,
               ⟨(.bin .add false), [.t 1 false, .t 4 false], .t, none⟩,
               ⟨(.faB 3 19), [.v 3 false], .t, none⟩,
               ⟨(.stB 3 1), [.t 6 false, .t 5 false], .none, none⟩] false)
             (.seq
              (.reg [
                ⟨(.faB 3 19), [.v 3 false], .t, none⟩,
                ⟨(.ldB 3 1 false false), [.t 0 false, .v 3 false], .t, none⟩,
                ⟨(.faB 1 5), [.v 1 false], .t, none⟩,
                ⟨(.ldB 1 1 false false), [.t 2 false, .v 1 false], .t, none⟩,
                ⟨(.bin .add false), [.t 1 false, .t 3 false], .t, none⟩,
                ⟨(.faB 3 20), [.v 3 false], .t, none⟩,
                ⟨(.stB 3 1), [.t 5 false, .t 4 false], .none, none⟩] false)
              (.seq
               (.reg [
                 ⟨(.faB 3 20), [.v 3 false], .t, none⟩,
                 ⟨(.ldB 3 1 false false), [.t 0 false, .v 3 false], .t, none⟩,
                 ⟨(.faB 1 6), [.v 1 false], .t, none⟩,
                 ⟨(.ldB 1 1 false false), [.t 2 false, .v 1 false], .t, none⟩,
                 ⟨(.faB 1 2), [.v 1 false], .t, none⟩,
                 ⟨(.ldB 1 1 false false), [.t 4 false, .v 1 false], .t, none⟩,
                 ⟨(.bin .add false), [.t 5 false, .c (.sc (.int .i64 2))], .t, none⟩,
                 ⟨(.bin .mul false), [.t 3 false, .t 6 false], .t, none⟩,
                 ⟨(.bin .add false), [.t 1 false, .t 7 false], .t, none⟩,
                 ⟨(.faB 3 21), [.v 3 false], .t, none⟩,
                 ⟨(.stB 3 1), [.t 9 false, .t 8 false], .none, none⟩] false)
               (.seq
                (.reg [
                  ⟨(.faB 3 21), [.v 3 false], .t, none⟩,
                  ⟨(.ldB 3 1 false false), [.t 0 false, .v 3 false], .t, none⟩,
                  ⟨(.faB 1 7), [.v 1 false], .t, none⟩,
                  ⟨(.ldB 1 1 false false), [.t 2 false, .v 1 false], .t, none⟩,
                  ⟨(.faB 1 3), [.v 1 false], .t, none⟩,
                  ⟨(.ldB 1 1 false false), [.t 4 false, .v 1 false], .t, none⟩,
                  ⟨(.bin .add false), [.t 5 false, .c (.sc (.int .i64 1))], .t, none⟩,
                  ⟨(.bin .mul false), [.t 3 false, .t 6 false], .t, none⟩,
                  ⟨(.bin .add false), [.t 1 false, .t 7 false], .t, none⟩,
                  ⟨(.faB 3 22), [.v 3 false], .t, none⟩,
                  ⟨(.stB 3 1), [.t 9 false, .t 8 false], .none, none⟩] false)
                (.seq
                 (.reg [
                   ⟨(.faB 3 22), [.v 3 false], .t, none⟩,
                   ⟨(.ldB 3 1 false false), [.t 0 false, .v 3 false], .t, none⟩,
                   ⟨(.faB 1 8), [.v 1 false], .t, none⟩,
                   ⟨(.ldB 1 1 false false), [.t 2 false, .v 1 false], .t, none⟩,
                   ⟨(.bin .mul false), [.c (.sc (.int .i64 2)), .t 3 false], .t, none⟩,
                   ⟨(.bin .add false), [.t 1 false, .t 4 false], .t, none⟩,
                   ⟨(.faB 3 23), [.v 3 false], .t, none⟩,
                   ⟨(.stB 3 1), [.t 6 false, .t 5 false], .none, none⟩] false)
                 (.seq
                  (.reg [
                    ⟨(.faB 3 23), [.v 3 false], .t, none⟩,
                    ⟨(.ldB 3 1 false false), [.t 0 false, .v 3 false], .t, none⟩,
                    ⟨(.faB 1 1), [.v 1 false], .t, none⟩,
                    ⟨(.ldB 1 1 false false), [.t 2 false, .v 1 false], .t, none⟩,
                    ⟨(.bin .mul false), [.c (.sc (.int .i64 8)), .t 3 false], .t, none⟩,
                    ⟨(.bin .add false), [.t 1 false, .t 4 false], .t, none⟩,
                    ⟨(.faB 3 24), [.v 3 false], .t, none⟩,
                    ⟨(.stB 3 1), [.t 6 false, .t 5 false], .none, none⟩] false)
                  (.seq
                   (.reg [
                     ⟨(.ldB 3 25 true false), [.v 3 false], .t, none⟩,
                     ⟨(.stB 2 25), [.v 2 false, .t 0 false], .none, none⟩,
                     ⟨.mv, [.c (.sc (.int .i64 0))], (.v 4), none⟩] false)
                   .ret))))))))))))))))) }

/-- underwood/layout.Right -/
def ir11 : FnIR := { np := 1, nv := 5, slots := [0, 1, 3, 2, 4], res := [.v 3], body :=
  (.seq
   (.reg [
     ⟨(.bx 25), [.v 0 false], (.v 1), none⟩,
     ⟨.mv, [.c (.sc (.bool false))], (.v 3), none⟩] false)
   (.seq
    (.reg [
      ⟨(.faB 1 0), [.v 1 false], .t, none⟩,
      ⟨(.ldB 1 9 true false), [.t 0 false, .v 1 false], .t, none⟩,
      ⟨(.call 13), [.t 1 false], .t, none⟩,
      ⟨.mv, [.t 2 false], .t, none⟩,
      ⟨(.ext 0), [.t 3 false], .t, none⟩,
      ⟨(.ext 1), [.t 3 false], .t, none⟩,
      ⟨(.bx 25), [.c (.agg [(.sc (.int .i64 0)), (.sc (.int .i64 0)), (.sc (.int .i64 0)), (.sc (.int .i64 0)), (.sc (.int .i64 0)), (.sc (.int .i64 0)), (.sc (.int .i64 0)), (.sc (.int .i64 0)), (.sc (.int .i64 0)), (.sc (.int .i64 0)), (.sc (.int .i64 0)), (.sc (.int .i64 0)), (.sc (.int .i64 0)), (.sc (.int .i64 0)), (.sc (.int .i64 0)), (.sc (.int .i64 0)), (.sc (.int .i64 0)), (.sc (.int .i64 0)), (.sc (.int .i64 0)), (.sc (.int .i64 0)), (.sc (.int .i64 0)), (.sc (.int .i64 0)), (.sc (.int .i64 0)), (.sc (.int .i64 0)), (.sc (.int .i64 0))])], (.v 2), none⟩,
      ⟨(.stB 2 25), [.v 2 false, .t 4 false], .none, none⟩,
      ⟨.mv, [.t 5 false], (.v 4), none⟩] false)
    (.seq
     (.reg [
       ⟨.mv, [.v 4 false], .t, none⟩,
       ⟨(.bin .eql false), [.t 0 false, .c (.sc (.int .i64 0))], .t, none⟩,
       ⟨.mv, [.t 1 false], .t, none⟩,
       ⟨(.ldB 2 25 true false), [.v 2 false], .t, (some (2, true))⟩,
       ⟨(.ldB 1 25 true false), [.v 1 false], .t, (some (2, true))⟩,
       ⟨(.eqA [1, 1, 1, 1, 1, 1, 1, 1, 1, 1, 1, 1, 1, 1, 1, 1, 1, 1, 1, 1, 1, 1, 1, 1, 1] false), [.t 3 false, .t 4 false], .t, (some (2, true))⟩,
       ⟨.pick, [.t 2 false, .t 5 false, .c (.sc (.bool false))], .t, none⟩,
       ⟨.mv, [.t 6 false], (.v 3), none⟩] false)
     .ret))) }

def ir12_l0 : IR :=
        (.seq
         (.seq
          (.reg [
            ⟨(.faB 6 6), [.v 6 false], .t, none⟩,
            ⟨(.ldB 6 1 false false), [.t 0 false, .v 6 false], .t, none⟩,
            ⟨(.bin .neq false), [.t 1 false, .c (.sc (.int .i64 0))], .t, none⟩,
            ⟨.mv, [.t 2 false], .t, none⟩,
            ⟨(.faB 6 2), [.v 6 false], .t, (some (3, true))⟩,
            ⟨(.ldB 6 1 false false), [.t 4 false, .v 6 false], .t, (some (3, true))⟩,
            ⟨(.bin .lss false), [.t 5 false, .c (.sc (.int .i64 64))], .t, (some (3, true))⟩,
            ⟨.pick, [.t 3 false, .t 6 false, .c (.sc (.bool false))], .t, none⟩,
            ⟨.mv, [.t 7 false], .t, none⟩,
            ⟨(.faB 6 2), [.v 6 false], .t, (some (8, true))⟩,
            ⟨(.ldB 6 1 false false), [.t 9 false, .v 6 false], .t, (some (8, true))⟩,
            ⟨(.bin .mul false), [.c (.sc (.int .i64 2)), .t 10 false], .t, (some (8, true))⟩,
            ⟨.mv, [.v 11 false], .t, (some (8, true))⟩,
            ⟨(.bin .lss false), [.t 11 false, .t 12 false], .t, (some (8, true))⟩,
            ⟨.pick, [.t 8 false, .t 13 false, .c (.sc (.bool false))], (.v 8), none⟩] false)
          (.cond (.v 8 false)
           .skip
           (.exit 0)))
         (.block 1
          (.reg [
            ⟨(.faB 6 2), [.v 6 false], .t, none⟩,
            ⟨(.ldB 6 1 false false), [.t 0 false, .v 6 false], .t, none⟩,
            ⟨(.bin .mul false), [.t 1 false, .c (.sc (.int .i64 2))], .t, none⟩,
            ⟨(.faB 6 2), [.v 6 false], .t, none⟩,
            ⟨(.stB 6 1), [.t 3 false, .t 2 false], .none, none⟩] false)))

/-- underwood/layout.For -/
def ir12 : FnIR := { np := 3, nv := 13, slots := [0, 1, 2, 3, 4, 6, 10, 7, 47, 54, 73, 8, 9], res := [.b 5 9 true, .v 7], body :=
  (.seq
   (.reg [
     ⟨(.bx 6), [.v 0 true], (.v 3), none⟩,
     ⟨(.bx 11), [.v 1 true], (.v 4), none⟩,
     ⟨(.bx 9), [.c (.agg [(.sc (.int .i64 0)), (.sc (.int .i64 0)), (.sc (.int .i64 0)), (.sc (.int .i64 0)), (.sc (.int .i64 0)), (.sc (.int .i64 0)), (.sc (.int .i64 0)), (.sc (.int .i64 0)), (.sc (.int .i64 0))])], (.v 5), none⟩,
     ⟨.mv, [.c (.sc (.int .i64 0))], (.v 7), none⟩] false)
   (.seq
    (.reg [
      ⟨(.ldB 4 11 true false), [.v 4 false], .t, none⟩,
      ⟨(.call 25), [.t 0 false], .t, none⟩,
      ⟨.mv, [.t 1 false], .t, none⟩,
      ⟨(.ext 0), [.t 2 false], .t, none⟩,
      ⟨(.ext 1), [.t 2 false], .t, none⟩,
      ⟨.mv, [.t 3 false], (.v 11), none⟩,
      ⟨.mv, [.t 4 false], (.v 12), none⟩] false)
    (.seq
     (.reg [
       ⟨.mv, [.v 2 false], .t, none⟩,
       ⟨.mv, [.v 2 false], .t, none⟩,
       ⟨(.bin .add false), [.t 1 false, .c (.sc (.int .i64 1))], .t, none⟩,
       ⟨(.bin .quo false), [.t 2 false, .c (.sc (.int .i64 2))], .t, none⟩,
       ⟨(.faB 4 9), [.v 4 false], .t, none⟩,
       ⟨(.ldB 4 1 false false), [.t 4 false, .v 4 false], .t, none⟩,
       ⟨.max, [.t 5 false, .c (.sc (.int .i64 1))], .t, none⟩,
       ⟨(.faB 3 1), [.v 3 false], .t, none⟩,
       ⟨(.ldB 3 1 false false), [.t 7 false, .v 3 false], .t, none⟩,
       ⟨.len, [.t 8 false], .t, none⟩,
       ⟨(.faB 3 2), [.v 3 false], .t, none⟩,
       ⟨(.ldB 3 1 false false), [.t 10 false, .v 3 false], .t, none⟩,
       ⟨(.faB 3 3), [.v 3 false], .t, none⟩,
       ⟨(.ldB 3 1 false false), [.t 12 false, .v 3 false], .t, none⟩,
       ⟨(.faB 3 4), [.v 3 false], .t, none⟩,
       ⟨(.ldB 3 1 false false), [.t 14 false, .v 3 false], .t, none⟩,
       ⟨(.build [(.sc (.int .i64 0)), (.sc (.int .i64 0)), (.sc (.int .i64 0)), (.sc (.int .i64 0)), (.sc (.int .i64 0)), (.sc (.int .i64 0)), (.sc (.int .i64 0)), (.sc (.int .i64 0)), (.sc (.int .i64 0))] [(0, 1), (2, 1), (3, 1), (4, 1), (5, 1), (6, 1), (7, 1), (8, 1)]), [.t 0 false, .c (.sc (.int .i64 1)), .t 3 false, .t 6 false, .t 9 false, .t 11 false, .t 13 false, .t 15 false], .t, none⟩,
       ⟨(.bx 9), [.c (.agg [(.sc (.int .i64 0)), (.sc (.int .i64 0)), (.sc (.int .i64 0)), (.sc (.int .i64 0)), (.sc (.int .i64 0)), (.sc (.int .i64 0)), (.sc (.int .i64 0)), (.sc (.int .i64 0)), (.sc (.int .i64 0))])], (.v 6), none⟩,
       ⟨(.stB 6 9), [.v 6 false, .t 16 false], .none, none⟩] false)
     (.seq
      (.block 0
       (.loop ir12_l0))
      (.seq
       (.seq
        (.reg [
          ⟨(.ldB 6 9 true false), [.v 6 false], .t, none⟩,
          ⟨(.call 26), [.t 0 false], .t, none⟩,
          ⟨(.un .not), [.t 1 false], (.v 9), none⟩] false)
        (.cond (.v 9 false)
         (.seq
          (.reg [
            ⟨(.build [(.sc (.int .i64 0)), (.sc (.int .i64 0)), (.sc (.int .i64 0)), (.sc (.int .i64 0)), (.sc (.int .i64 0)), (.sc (.int .i64 0)), (.sc (.int .i64 0)), (.sc (.int .i64 0)), (.sc (.int .i64 0))] []), [], .t, none⟩,
            ⟨(.stB 5 9), [.v 5 false, .t 0 false], .none, none⟩,
            ⟨.mv, [.c (.sc (.int .i64 1))], (.v 7), none⟩] false)
          .ret)
         .skip))
       (.seq
        (.reg [
          ⟨(.faB 6 2), [.v 6 false], .t, none⟩,
          ⟨(.ldB 6 1 false false), [.t 0 false, .v 6 false], .t, none⟩,
          ⟨(.faB 6 6), [.v 6 false], .t, none⟩,
          ⟨(.ldB 6 1 false false), [.t 2 false, .v 6 false], .t, none⟩,
          ⟨(.bin .mul false), [.t 1 false, .t 3 false], .t, none⟩,
          ⟨(.bin .add false), [.c (.sc (.int .i64 4)), .t 4 false], .t, none⟩,
          ⟨(.faB 6 8), [.v 6 false], .t, none⟩,
          ⟨(.ldB 6 1 false false), [.t 6 false, .v 6 false], .t, none⟩,
          ⟨(.bin .add false), [.t 5 false, .t 7 false], .t, none⟩,
          ⟨.mv, [.v 12 false], .t, none⟩,
          ⟨(.bin .add false), [.t 8 false, .t 9 false], .t, none⟩,
          ⟨.mv, [.v 2 false], .t, none⟩,
          ⟨(.bin .mul false), [.c (.sc (.int .i64 8)), .t 11 false], .t, none⟩,
          ⟨(.bin .add false), [.t 10 false, .t 12 false], .t, none⟩,
          ⟨(.faB 6 1), [.v 6 false], .t, none⟩,
          ⟨(.stB 6 1), [.t 14 false, .t 13 false], .none, none⟩] false)
        (.seq
         (.seq
          (.reg [
            ⟨(.faB 6 1), [.v 6 false], .t, none⟩,
            ⟨(.ldB 6 1 false false), [.t 0 false, .v 6 false], .t, none⟩,
            ⟨(.bin .gtr false), [.t 1 false, .c (.sc (.int .i64 1000))], (.v 10), none⟩] false)
          (.cond (.v 10 false)
           (.seq
            (.reg [
              ⟨(.build [(.sc (.int .i64 0)), (.sc (.int .i64 0)), (.sc (.int .i64 0)), (.sc (.int .i64 0)), (.sc (.int .i64 0)), (.sc (.int .i64 0)), (.sc (.int .i64 0)), (.sc (.int .i64 0)), (.sc (.int .i64 0))] []), [], .t, none⟩,
              ⟨(.stB 5 9), [.v 5 false, .t 0 false], .none, none⟩,
              ⟨.mv, [.c (.sc (.int .i64 8))], (.v 7), none⟩] false)
            .ret)
           .skip))
         (.seq
          (.reg [
            ⟨(.ldB 6 9 true false), [.v 6 false], .t, none⟩,
            ⟨(.stB 5 9), [.v 5 false, .t 0 false], .none, none⟩,
            ⟨.mv, [.c (.sc (.int .i64 0))], (.v 7), none⟩] false)
          .ret)))))))) }

/-- underwood/layout.Of -/
def ir13 : FnIR := { np := 1, nv := 8, slots := [0, 1, 2, 6, 3, 20, 4, 5], res := [.b 2 25 true, .v 4], body :=
  (.seq
   (.reg [
     ⟨(.bx 9), [.v 0 false], (.v 1), none⟩,
     ⟨(.bx 25), [.c (.agg [(.sc (.int .i64 0)), (.sc (.int .i64 0)), (.sc (.int .i64 0)), (.sc (.int .i64 0)), (.sc (.int .i64 0)), (.sc (.int .i64 0)), (.sc (.int .i64 0)), (.sc (.int .i64 0)), (.sc (.int .i64 0)), (.sc (.int .i64 0)), (.sc (.int .i64 0)), (.sc (.int .i64 0)), (.sc (.int .i64 0)), (.sc (.int .i64 0)), (.sc (.int .i64 0)), (.sc (.int .i64 0)), (.sc (.int .i64 0)), (.sc (.int .i64 0)), (.sc (.int .i64 0)), (.sc (.int .i64 0)), (.sc (.int .i64 0)), (.sc (.int .i64 0)), (.sc (.int .i64 0)), (.sc (.int .i64 0)), (.sc (.int .i64 0))])], (.v 2), none⟩,
     ⟨.mv, [.c (.sc (.int .i64 0))], (.v 4), none⟩] false)
   (.seq
    (.seq
     (.reg [
       ⟨(.ldB 1 9 true false), [.v 1 false], .t, none⟩,
       ⟨(.call 26), [.t 0 false], .t, none⟩,
       ⟨(.un .not), [.t 1 false], .t, none⟩,
       ⟨.mv, [.t 2 false], .t, none⟩,
       ⟨(.faB 1 1), [.v 1 false], .t, (some (3, false))⟩,
       ⟨(.ldB 1 1 false false), [.t 4 false, .v 1 false], .t, (some (3, false))⟩,
       ⟨(.faB 1 6), [.v 1 false], .t, (some (3, false))⟩,
       ⟨(.ldB 1 1 false false), [.t 6 false, .v 1 false], .t, (some (3, false))⟩,
       ⟨(.faB 1 8), [.v 1 false], .t, (some (3, false))⟩,
       ⟨(.ldB 1 1 false false), [.t 8 false, .v 1 false], .t, (some (3, false))⟩,
       ⟨(.bin .add false), [.t 7 false, .t 9 false], .t, (some (3, false))⟩,
       ⟨(.call 27), [.t 5 false, .t 10 false, .c (.sc (.int .i64 1000))], .t, (some (3, false))⟩,
       ⟨(.un .not), [.t 11 false], .t, (some (3, false))⟩,
       ⟨.pick, [.t 3 false, .c (.sc (.bool true)), .t 12 false], (.v 5), none⟩] false)
     (.cond (.v 5 false)
      (.seq
       (.reg [
         ⟨(.build [(.sc (.int .i64 0)), (.sc (.int .i64 0)), (.sc (.int .i64 0)), (.sc (.int .i64 0)), (.sc (.int .i64 0)), (.sc (.int .i64 0)), (.sc (.int .i64 0)), (.sc (.int .i64 0)), (.sc (.int .i64 0)), (.sc (.int .i64 0)), (.sc (.int .i64 0)), (.sc (.int .i64 0)), (.sc (.int .i64 0)), (.sc (.int .i64 0)), (.sc (.int .i64 0)), (.sc (.int .i64 0)), (.sc (.int .i64 0)), (.sc (.int .i64 0)), (.sc (.int .i64 0)), (.sc (.int .i64 0)), (.sc (.int .i64 0)), (.sc (.int .i64 0)), (.sc (.int .i64 0)), (.sc (.int .i64 0)), (.sc (.int .i64 0))] []), [], .t, none⟩,
         ⟨(.stB 2 25), [.v 2 false, .t 0 false], .none, none⟩,
         ⟨.mv, [.c (.sc (.int .i64 1))], (.v 4), none⟩] false)
       .ret)
      .skip))
    (.seq
     (.reg [
       ⟨(.hp 1), [.c (.sc (.int .i64 0))], (.v 6), none⟩,
       ⟨(.stP 1), [.v 6 false, .c (.sc (.int .i64 0))], .none, none⟩] false)
     (.seq
      (.reg [
        ⟨(.mkFn (.func 28) 0), [.v 6 false], .t, none⟩,
        ⟨.mv, [.t 0 false], (.v 7), none⟩] false)
      (.seq
       (.reg [
         ⟨(.ldB 1 9 true false), [.v 1 false], .t, none⟩,
         ⟨.mv, [.v 7 false], .t, none⟩,
         ⟨.callV, [.t 1 false, .c (.sc (.int .i64 1))], .t, none⟩,
         ⟨.mv, [.v 7 false], .t, none⟩,
         ⟨.callV, [.t 3 false, .c (.sc (.int .i64 1))], .t, none⟩,
         ⟨.mv, [.v 7 false], .t, none⟩,
         ⟨.callV, [.t 5 false, .c (.sc (.int .i64 1))], .t, none⟩,
         ⟨.mv, [.v 7 false], .t, none⟩,
         ⟨.callV, [.t 7 false, .c (.sc (.int .i64 1))], .t, none⟩,
         ⟨(.build [(.sc (.int .i64 0)), (.sc (.int .i64 0)), (.sc (.int .i64 0)), (.sc (.int .i64 0)), (.sc (.int .i64 0)), (.sc (.int .i64 0)), (.sc (.int .i64 0)), (.sc (.int .i64 0)), (.sc (.int .i64 0)), (.sc (.int .i64 0)), (.sc (.int .i64 0)), (.sc (.int .i64 0)), (.sc (.int .i64 0)), (.sc (.int .i64 0)), (.sc (.int .i64 0)), (.sc (.int .i64 0)), (.sc (.int .i64 0)), (.sc (.int .i64 0)), (.sc (.int .i64 0)), (.sc (.int .i64 0)), (.sc (.int .i64 0)), (.sc (.int .i64 0)), (.sc (.int .i64 0)), (.sc (.int .i64 0)), (.sc (.int .i64 0))] [(0, 9), (9, 1), (10, 1), (11, 1), (12, 1)]), [.t 0 false, .t 2 false, .t 4 false, .t 6 false, .t 8 false], .t, none⟩,
         ⟨(.bx 25), [.c (.agg [(.sc (.int .i64 0)), (.sc (.int .i64 0)), (.sc (.int .i64 0)), (.sc (.int .i64 0)), (.sc (.int .i64 0)), (.sc (.int .i64 0)), (.sc (.int .i64 0)), (.sc (.int .i64 0)), (.sc (.int .i64 0)), (.sc (.int .i64 0)), (.sc (.int .i64 0)), (.sc (.int .i64 0)), (.sc (.int .i64 0)), (.sc (.int .i64 0)), (.sc (.int .i64 0)), (.sc (.int .i64 0)), (.sc (.int .i64 0)), (.sc (.int .i64 0)), (.sc (.int .i64 0)), (.sc (.int .i64 0)), (.sc (.int .i64 0)), (.sc (.int .i64 0)), (.sc (.int .i64 0)), (.sc (.int .i64 0)), (.sc (.int .i64 0))])], (.v 3), none⟩,
         ⟨(.stB 3 25), [.v 3 false, .t 9 false], .none, none⟩] true)
       (.seq
        (.reg [
          ⟨.mv, [.v 7 false], .t, none⟩,
          ⟨(.faB 1 0), [.v 1 false], .t, none⟩,
          ⟨(.ldB 1 1 false false), [.t 1 false, .v 1 false], .t, none⟩,
          ⟨.callV, [.t 0 false, .t 2 false], .t, none⟩,
          ⟨.mv, [.v 7 false], .t, none⟩,
          ⟨(.faB 1 0), [.v 1 false], .t, none⟩,
          ⟨(.ldB 1 1 false false), [.t 5 false, .v 1 false], .t, none⟩,
          ⟨.callV, [.t 4 false, .t 6 false], .t, none⟩,
          ⟨(.faB 3 13), [.v 3 false], .t, none⟩,
          ⟨(.stB 3 1), [.t 8 false, .t 3 false], .none, none⟩,
          ⟨(.faB 3 14), [.v 3 false], .t, none⟩,
          ⟨(.stB 3 1), [.t 10 false, .t 7 false], .none, none⟩] true)
        (.seq
         (.reg [
           ⟨.mv, [.v 7 false], .t, none⟩,
           ⟨(.faB 1 0), [.v 1 false], .t, none⟩,
           ⟨(.ldB 1 1 false false), [.t 1 false, .v 1 false], .t, none⟩,
           ⟨(.bin .mul false), [.c (.sc (.int .i64 3)), .t 2 false], .t, none⟩,
           ⟨.callV, [.t 0 false, .t 3 false], .t, none⟩,
           ⟨.mv, [.v 7 false], .t, none⟩,
           ⟨(.faB 1 0), [.v 1 false], .t, none⟩,
           ⟨(.ldB 1 1 false false), [.t 6 false, .v 1 false], .t, none⟩,
           ⟨(.bin .mul false), [.c (.sc (.int .i64 3)), .t 7 false], .t, none⟩,
           ⟨.callV, [.t 5 false, .t 8 false], .t, none⟩,
           ⟨(.faB 3 15), [.v 3 false], .t, none⟩,
           ⟨(.stB 3 1), [.t 10 false, .t 4 false], .none, none⟩,
           ⟨(.faB 3 16), [.v 3 false], .t, none⟩,
           ⟨(.stB 3 1), [.t 12 false, .t 9 false], .none, none⟩] true)
         (.seq
          (.reg [
            ⟨.mv, [.v 7 false], .t, none⟩,
            ⟨(.faB 1 0), [.v 1 false], .t, none⟩,
            ⟨(.ldB 1 1 false false), [.t 1 false, .v 1 false], .t, none⟩,
            ⟨(.bin .mul false), [.t 2 false, .c (.sc (.int .i64 4))], .t, none⟩,
            ⟨(.faB 1 4), [.v 1 false], .t, none⟩,
            ⟨(.ldB 1 1 false false), [.t 4 false, .v 1 false], .t, none⟩,
            ⟨(.call 29), [.t 5 false], .t, none⟩,
            ⟨(.bin .shl false), [.c (.sc (.int .i64 1)), .t 6 false], .t, none⟩,
            ⟨(.bin .sub false), [.t 7 false, .c (.sc (.int .i64 1))], .t, none⟩,
            ⟨(.bin .mul false), [.t 3 false, .t 8 false], .t, none⟩,
            ⟨.callV, [.t 0 false, .t 9 false], .t, none⟩,
            ⟨(.faB 3 17), [.v 3 false], .t, none⟩,
            ⟨(.stB 3 1), [.t 11 false, .t 10 false], .none, none⟩] true)
          (.seq
           (.reg [
             ⟨.mv, [.v 7 false], .t, none⟩,
             ⟨(.faB 1 4), [.v 1 false], .t, none⟩,
             ⟨(.ldB 1 1 false false), [.t 1 false, .v 1 false], .t, none⟩,
             ⟨(.bin .mul false), [.c (.sc (.int .i64 4)), .t 2 false], .t, none⟩,
             ⟨.callV, [.t 0 false, .t 3 false], .t, none⟩,
             ⟨.mv, [.v 7 false], .t, none⟩,
             ⟨(.faB 1 5), [.v 1 false], .t, none⟩,
             ⟨(.ldB 1 1 false false), [.t 6 false, .v 1 false], .t, none⟩,
             ⟨.callV, [.t 5 false, .t 7 false], .t, none⟩,
             ⟨(.faB 3 18), [.v 3 false], .t, none⟩,
             ⟨(.stB 3 1), [.t 9 false, .t 4 false], .none, none⟩,
             ⟨(.faB 3 19), [.v 3 false], .t, none⟩,
             ⟨(.stB 3 1), [.t 11 false, .t 8 false], .none, none⟩] true)
           (.seq
            (.reg [
              ⟨.mv, [.v 7 false], .t, none⟩,
              ⟨(.faB 1 6), [.v 1 false], .t, none⟩,
              ⟨(.ldB 1 1 false false), [.t 1 false, .v 1 false], .t, none⟩,
              ⟨(.faB 1 2), [.v 1 false], .t, none⟩,
              ⟨(.ldB 1 1 false false), [.t 3 false, .v 1 false], .t, none⟩,
              ⟨(.bin .add false), [.c (.sc (.int .i64 2)), .t 4 false], .t, none⟩,
              ⟨(.bin .mul false), [.t 2 false, .t 5 false], .t, none⟩,
              ⟨.callV, [.t 0 false, .t 6 false], .t, none⟩,
              ⟨.mv, [.v 7 false], .t, none⟩,
              ⟨(.faB 1 7), [.v 1 false], .t, none⟩,
              ⟨(.ldB 1 1 false false), [.t 9 false, .v 1 false], .t, none⟩,
              ⟨(.faB 1 3), [.v 1 false], .t, none⟩,
              ⟨(.ldB 1 1 false false), [.t 11 false, .v 1 false], .t, none⟩,
              ⟨(.bin .add false), [.c (.sc (.int .i64 1)), .t 12 false], .t, none⟩,
              ⟨(.bin .mul false), [.t 10 false, .t 13 false], .t, none⟩,
              ⟨.callV, [.t 8 false, .t 14 false], .t, none⟩,
              ⟨(.faB 3 20), [.v 3 false], .t, none⟩,
              ⟨(.stB 3 1), [.t 16 false, .t 7 false], .none, none⟩,
              ⟨(.faB 3 21), [.v 3 false], .t, none⟩,
              ⟨(.stB 3 1), [.t 18 false, .t 15 false], .none, none⟩] true)
            (.seq
             (.reg [
               ⟨.mv, [.v 7 false], .t, none⟩,
               ⟨(.faB 1 8), [.v 1 false], .t, none⟩,
               ⟨(.ldB 1 1 false false), [.t 1 false, .v 1 false], .t, none⟩,
               ⟨(.bin .mul false), [.c (.sc (.int .i64 2)), .t 2 false], .t, none⟩,
               ⟨.callV, [.t 0 false, .t 3 false], .t, none⟩,
               ⟨.mv, [.v 7 false], .t, none⟩,
               ⟨(.faB 1 1), [.v 1 false], .t, none⟩,
               ⟨(.ldB 1 1 false false), [.t 6 false, .v 1 false], .t, none⟩,
               ⟨(.bin .mul false), [.c (.sc (.int .i64 8)), .t 7 false], .t, none⟩,
               ⟨.callV, [.t 5 false, .t 8 false], .t, none⟩,
               ⟨(.faB 3 22), [.v 3 false], .t, none⟩,
               ⟨(.stB 3 1), [.t 10 false, .t 4 false], .none, none⟩,
               ⟨(.faB 3 23), [.v 3 false], .t, none⟩,
               ⟨(.stB 3 1), [.t 12 false, .t 9 false], .none, none⟩] true)
             (.seq
              (.reg [
                ⟨(.ldP 1 false false), [.v 6 false], .t, none⟩,
                ⟨(.faB 3 24), [.v 3 false], .t, none⟩,
                ⟨(.stB 3 1), [.t 1 false, .t 0 false], .none, none⟩] false)
              (.seq
               (.reg [
                 ⟨(.ldB 3 25 true false), [.v 3 false], .t, none⟩,
                 ⟨(.stB 2 25), [.v 2 false, .t 0 false], .none, none⟩,
                 ⟨.mv, [.c (.sc (.int .i64 0))], (.v 4), none⟩] false)
               .ret))))))))))))) }

/-- underwood/layout.Rings -/
def ir14 : FnIR := { np := 1, nv := 3, slots := [0, 1, 2], res := [.v 2], body :=
  (.seq
   (.reg [
     ⟨(.bx 25), [.v 0 false], (.v 1), none⟩,
     ⟨.mv, [.c (.sc (.int .i64 0))], (.v 2), none⟩] false)
   (.seq
    (.reg [
      ⟨(.faB 1 0), [.v 1 false], .t, none⟩,
      ⟨(.fa 4), [.t 0 false], .t, none⟩,
      ⟨(.ldB 1 1 false false), [.t 1 false, .v 1 false], .t, none⟩,
      ⟨(.call 29), [.t 2 false], .t, none⟩,
      ⟨.mv, [.t 3 false], (.v 2), none⟩] false)
    .ret)) }

/-- underwood/layout.Ring -/
def ir15 : FnIR := { np := 3, nv := 7, slots := [0, 1, 2, 3, 6, 14, 7], res := [.v 4], body :=
  (.seq
   (.reg [
     ⟨(.bx 25), [.v 0 false], (.v 3), none⟩,
     ⟨.mv, [.c (.sc (.int .i64 0))], (.v 4), none⟩] false)
   (.seq
    (.reg [
      ⟨(.ldB 3 25 true false), [.v 3 false], .t, none⟩,
      ⟨(.call 14), [.t 0 false], .t, none⟩,
      ⟨.mv, [.t 1 false], (.v 6), none⟩] false)
    (.seq
     (.seq
      (.reg [
        ⟨.mv, [.v 2 false], .t, none⟩,
        ⟨.mv, [.v 6 false], .t, none⟩,
        ⟨(.bin .sub false), [.t 1 false, .c (.sc (.int .i64 1))], .t, none⟩,
        ⟨(.call 27), [.t 0 false, .c (.sc (.int .i64 0)), .t 2 false], .t, none⟩,
        ⟨(.un .not), [.t 3 false], (.v 5), none⟩] false)
      (.cond (.v 5 false)
       (.seq
        (.reg [
          ⟨.mv, [.c (.sc (.int .i64 (-1)))], (.v 4), none⟩] false)
        .ret)
       .skip))
     (.seq
      (.reg [
        ⟨(.faB 3 17), [.v 3 false], .t, none⟩,
        ⟨(.ldB 3 1 false false), [.t 0 false, .v 3 false], .t, none⟩,
        ⟨(.faB 3 0), [.v 3 false], .t, none⟩,
        ⟨(.fa 0), [.t 2 false], .t, none⟩,
        ⟨(.ldB 3 1 false false), [.t 3 false, .v 3 false], .t, none⟩,
        ⟨.mv, [.v 6 false], .t, none⟩,
        ⟨(.bin .shl false), [.c (.sc (.int .i64 1)), .t 5 false], .t, none⟩,
        ⟨(.bin .sub false), [.t 6 false, .c (.sc (.int .i64 1))], .t, none⟩,
        ⟨(.bin .mul false), [.c (.sc (.int .i64 4)), .t 7 false], .t, none⟩,
        ⟨.mv, [.v 1 false], .t, none⟩,
        ⟨.mv, [.v 2 false], .t, none⟩,
        ⟨(.bin .shl false), [.c (.sc (.int .i64 1)), .t 10 false], .t, none⟩,
        ⟨(.bin .sub false), [.t 11 false, .c (.sc (.int .i64 1))], .t, none⟩,
        ⟨(.bin .mul false), [.c (.sc (.int .i64 4)), .t 12 false], .t, none⟩,
        ⟨(.call 30), [.t 1 false, .t 4 false, .t 8 false, .t 9 false, .t 13 false], .t, none⟩,
        ⟨.mv, [.t 14 false], (.v 4), none⟩] true)
      .ret)))) }

def ir16_l0 : IR :=
        (.seq
         (.seq
          (.reg [
            ⟨.mv, [.v 4 false], .t, none⟩,
            ⟨(.faB 1 0), [.v 1 false], .t, none⟩,
            ⟨(.fa 4), [.t 1 false], .t, none⟩,
            ⟨(.ldB 1 1 false false), [.t 2 false, .v 1 false], .t, none⟩,
            ⟨(.bin .lss false), [.t 0 false, .t 3 false], .t, none⟩,
            ⟨.mv, [.t 4 false], .t, none⟩,
            ⟨.mv, [.v 5 false], .t, (some (5, true))⟩,
            ⟨(.bin .lss false), [.t 6 false, .c (.sc (.int .i64 40))], .t, (some (5, true))⟩,
            ⟨.pick, [.t 5 false, .t 7 false, .c (.sc (.bool false))], (.v 3), none⟩] false)
          (.cond (.v 3 false)
           .skip
           (.exit 0)))
         (.block 1
          (.seq
           (.reg [
             ⟨.mv, [.v 4 false], .t, none⟩,
             ⟨(.bin .mul false), [.c (.sc (.int .i64 2)), .t 0 false], .t, none⟩,
             ⟨.mv, [.t 1 false], (.v 4), none⟩] false)
           (.reg [
             ⟨.mv, [.v 5 false], .t, none⟩,
             ⟨(.bin .add false), [.t 0 false, .c (.sc (.int .i64 1))], .t, none⟩,
             ⟨.mv, [.t 1 false], (.v 5), none⟩] false))))

/-- underwood/underwoodref14.Rings -/
def ir16 : FnIR := { np := 1, nv := 6, slots := [0, 1, 2, 13, 4, 3], res := [.v 2], body :=
  (.seq
   (.reg [
     ⟨(.bx 25), [.v 0 false], (.v 1), none⟩,
     ⟨.mv, [.c (.sc (.int .i64 0))], (.v 2), none⟩] false)
   (.seq
    (.reg [
      ⟨.mv, [.c (.sc (.int .i64 1))], (.v 5), none⟩] false)
    (.seq
     (.reg [
       ⟨.mv, [.c (.sc (.int .i64 4))], (.v 4), none⟩] false)
     (.seq
      (.block 0
       (.loop ir16_l0))
      (.seq
       (.reg [
         ⟨.mv, [.v 5 false], .t, none⟩,
         ⟨.mv, [.t 0 false], (.v 2), none⟩] false)
       .ret))))) }

def ir17_l0 : IR :=
        (.seq
         (.seq
          (.reg [
            ⟨.mv, [.v 6 false], .t, none⟩,
            ⟨.mv, [.v 0 false], .t, none⟩,
            ⟨.len, [.t 1 false], .t, none⟩,
            ⟨(.bin .lss false), [.t 0 false, .t 2 false], (.v 4), none⟩] false)
          (.cond (.v 4 false)
           .skip
           (.exit 0)))
         (.seq
          (.block 1
           (.seq
            (.reg [
              ⟨.mv, [.v 0 false], .t, none⟩,
              ⟨.mv, [.v 6 false], .t, none⟩,
              ⟨(.ia 1), [.t 0 false, .t 1 false], .t, none⟩,
              ⟨(.ldP 1 false false), [.t 2 false], .t, none⟩,
              ⟨.mv, [.v 1 false], .t, none⟩,
              ⟨.mv, [.v 6 false], .t, none⟩,
              ⟨(.ia 1), [.t 4 false, .t 5 false], .t, none⟩,
              ⟨(.ldP 1 false false), [.t 6 false], .t, none⟩,
              ⟨(.bin .neq false), [.t 3 false, .t 7 false], (.v 5), none⟩] true)
            (.cond (.v 5 false)
             (.seq
              (.reg [
                ⟨.mv, [.c (.sc (.bool false))], (.v 2), none⟩] false)
              .ret)
             .skip)))
          (.reg [
            ⟨.mv, [.v 6 false], .t, none⟩,
            ⟨(.bin .add false), [.t 0 false, .c (.sc (.int .i64 1))], .t, none⟩,
            ⟨.mv, [.t 1 false], (.v 6), none⟩] false)))

/-- underwood/underwoodref11.Ints -/
def ir17 : FnIR := { np := 2, nv := 7, slots := [0, 1, 4, 10, 14, 25, 5], res := [.v 2], body :=
  (.seq
   (.reg [
     ⟨.mv, [.c (.sc (.bool false))], (.v 2), none⟩] false)
   (.seq
    (.seq
     (.reg [
       ⟨.mv, [.v 0 false], .t, none⟩,
       ⟨.len, [.t 0 false], .t, none⟩,
       ⟨.mv, [.v 1 false], .t, none⟩,
       ⟨.len, [.t 2 false], .t, none⟩,
       ⟨(.bin .neq false), [.t 1 false, .t 3 false], (.v 3), none⟩] false)
     (.cond (.v 3 false)
      (.seq
       (.reg [
         ⟨.mv, [.c (.sc (.bool false))], (.v 2), none⟩] false)
       .ret)
      .skip))
    (.seq
     (.seq
      (.reg [
        ⟨.mv, [.c (.sc (.int .i64 0))], (.v 6), none⟩] false)
      (.block 0
       (.loop ir17_l0)))
     (.seq
      (.reg [
        ⟨.mv, [.c (.sc (.bool true))], (.v 2), none⟩] false)
      .ret)))) }

/-- underwood/underwoodlaw14.places -/
def ir18 : FnIR := { np := 3, nv := 5, slots := [0, 1, 2, 3, 6], res := [.v 4], body :=
  (.seq
   (.reg [
     ⟨(.bx 25), [.v 0 false], (.v 3), none⟩,
     ⟨.mv, [.c (.sl .full 1 [])], (.v 4), none⟩] false)
   (.seq
    (.reg [
      ⟨(.ldB 3 25 true false), [.v 3 false], .t, none⟩,
      ⟨.mv, [.v 1 false], .t, none⟩,
      ⟨(.call 31), [.t 0 false, .t 1 false], .t, none⟩,
      ⟨(.ldB 3 25 true false), [.v 3 false], .t, none⟩,
      ⟨.mv, [.v 1 false], .t, none⟩,
      ⟨(.call 32), [.t 3 false, .t 4 false], .t, none⟩,
      ⟨(.ldB 3 25 true false), [.v 3 false], .t, none⟩,
      ⟨.mv, [.v 1 false], .t, none⟩,
      ⟨.mv, [.v 2 false], .t, none⟩,
      ⟨(.call 33), [.t 6 false, .t 7 false, .t 8 false], .t, none⟩,
      ⟨(.ldB 3 25 true false), [.v 3 false], .t, none⟩,
      ⟨.mv, [.v 1 false], .t, none⟩,
      ⟨.mv, [.v 2 false], .t, none⟩,
      ⟨(.call 34), [.t 10 false, .t 11 false, .t 12 false], .t, none⟩,
      ⟨(.ldB 3 25 true false), [.v 3 false], .t, none⟩,
      ⟨.mv, [.v 1 false], .t, none⟩,
      ⟨.mv, [.v 2 false], .t, none⟩,
      ⟨(.call 15), [.t 14 false, .t 15 false, .t 16 false], .t, none⟩,
      ⟨(.ldB 3 25 true false), [.v 3 false], .t, none⟩,
      ⟨.mv, [.v 1 false], .t, none⟩,
      ⟨.mv, [.v 2 false], .t, none⟩,
      ⟨(.call 20), [.t 18 false, .t 19 false, .t 20 false], .t, none⟩,
      ⟨(.ldB 3 25 true false), [.v 3 false], .t, none⟩,
      ⟨.mv, [.v 1 false], .t, none⟩,
      ⟨(.call 35), [.t 22 false, .t 23 false], .t, none⟩,
      ⟨(.ldB 3 25 true false), [.v 3 false], .t, none⟩,
      ⟨.mv, [.v 1 false], .t, none⟩,
      ⟨.mv, [.v 2 false], .t, none⟩,
      ⟨(.call 36), [.t 25 false, .t 26 false, .t 27 false], .t, none⟩,
      ⟨(.ldB 3 25 true false), [.v 3 false], .t, none⟩,
      ⟨.mv, [.v 1 false], .t, none⟩,
      ⟨.mv, [.v 2 false], .t, none⟩,
      ⟨(.call 37), [.t 29 false, .t 30 false, .t 31 false], .t, none⟩,
      ⟨(.ldB 3 25 true false), [.v 3 false], .t, none⟩,
      ⟨.mv, [.v 1 false], .t, none⟩,
      ⟨(.call 38), [.t 33 false, .t 34 false], .t, none⟩,
      ⟨(.ldB 3 25 true false), [.v 3 false], .t, none⟩,
      ⟨.mv, [.v 1 false], .t, none⟩,
      ⟨.mv, [.v 2 false], .t, none⟩,
      ⟨(.call 39), [.t 36 false, .t 37 false, .t 38 false], .t, none⟩,
      ⟨(.ldB 3 25 true false), [.v 3 false], .t, none⟩,
      ⟨.mv, [.v 1 false], .t, none⟩,
      ⟨(.call 40), [.t 40 false, .t 41 false], .t, none⟩,
      ⟨(.ldB 3 25 true false), [.v 3 false], .t, none⟩,
      ⟨.mv, [.v 1 false], .t, none⟩,
      ⟨(.call 41), [.t 43 false, .t 44 false], .t, none⟩,
      ⟨(.ldB 3 25 true false), [.v 3 false], .t, none⟩,
      ⟨.mv, [.v 1 false], .t, none⟩,
      ⟨.mv, [.v 2 false], .t, none⟩,
      ⟨(.call 21), [.t 46 false, .t 47 false, .t 48 false], .t, none⟩,
      ⟨(.buildSl 1 [(.sc (.int .i64 0)), (.sc (.int .i64 0)), (.sc (.int .i64 0)), (.sc (.int .i64 0)), (.sc (.int .i64 0)), (.sc (.int .i64 0)), (.sc (.int .i64 0)), (.sc (.int .i64 0)), (.sc (.int .i64 0)), (.sc (.int .i64 0)), (.sc (.int .i64 0)), (.sc (.int .i64 0)), (.sc (.int .i64 0)), (.sc (.int .i64 0))] [0, 1, 2, 3, 4, 5, 6, 7, 8, 9, 10, 11, 12, 13]), [.t 2 false, .t 5 false, .t 9 false, .t 13 false, .t 17 false, .t 21 false, .t 24 false, .t 28 false, .t 32 false, .t 35 false, .t 39 false, .t 42 false, .t 45 false, .t 49 false], .t, none⟩,
      ⟨.mv, [.t 50 true], (.v 4), none⟩] true)
    .ret)) }

/-- underwood/underwoodref14.All -/
def ir19 : FnIR := { np := 3, nv := 5, slots := [0, 1, 2, 3, 6], res := [.v 4], body :=
  (.seq
   (.reg [
     ⟨(.bx 25), [.v 0 false], (.v 3), none⟩,
     ⟨.mv, [.c (.sl .full 1 [])], (.v 4), none⟩] false)
   (.seq
    (.reg [
      ⟨(.ldB 3 25 true false), [.v 3 false], .t, none⟩,
      ⟨.mv, [.v 1 false], .t, none⟩,
      ⟨(.call 42), [.t 0 false, .t 1 false], .t, none⟩,
      ⟨(.ldB 3 25 true false), [.v 3 false], .t, none⟩,
      ⟨.mv, [.v 1 false], .t, none⟩,
      ⟨(.call 43), [.t 3 false, .t 4 false], .t, none⟩,
      ⟨(.ldB 3 25 true false), [.v 3 false], .t, none⟩,
      ⟨.mv, [.v 1 false], .t, none⟩,
      ⟨.mv, [.v 2 false], .t, none⟩,
      ⟨(.call 44), [.t 6 false, .t 7 false, .t 8 false], .t, none⟩,
      ⟨(.ldB 3 25 true false), [.v 3 false], .t, none⟩,
      ⟨.mv, [.v 1 false], .t, none⟩,
      ⟨.mv, [.v 2 false], .t, none⟩,
      ⟨(.call 45), [.t 10 false, .t 11 false, .t 12 false], .t, none⟩,
      ⟨(.ldB 3 25 true false), [.v 3 false], .t, none⟩,
      ⟨.mv, [.v 1 false], .t, none⟩,
      ⟨.mv, [.v 2 false], .t, none⟩,
      ⟨(.call 46), [.t 14 false, .t 15 false, .t 16 false], .t, none⟩,
      ⟨(.ldB 3 25 true false), [.v 3 false], .t, none⟩,
      ⟨.mv, [.v 1 false], .t, none⟩,
      ⟨.mv, [.v 2 false], .t, none⟩,
      ⟨(.call 47), [.t 18 false, .t 19 false, .t 20 false], .t, none⟩,
      ⟨(.ldB 3 25 true false), [.v 3 false], .t, none⟩,
      ⟨.mv, [.v 1 false], .t, none⟩,
      ⟨(.call 48), [.t 22 false, .t 23 false], .t, none⟩,
      ⟨(.ldB 3 25 true false), [.v 3 false], .t, none⟩,
      ⟨.mv, [.v 1 false], .t, none⟩,
      ⟨.mv, [.v 2 false], .t, none⟩,
      ⟨(.call 49), [.t 25 false, .t 26 false, .t 27 false], .t, none⟩,
      ⟨(.ldB 3 25 true false), [.v 3 false], .t, none⟩,
      ⟨.mv, [.v 1 false], .t, none⟩,
      ⟨.mv, [.v 2 false], .t, none⟩,
      ⟨(.call 50), [.t 29 false, .t 30 false, .t 31 false], .t, none⟩,
      ⟨(.ldB 3 25 true false), [.v 3 false], .t, none⟩,
      ⟨.mv, [.v 1 false], .t, none⟩,
      ⟨(.call 51), [.t 33 false, .t 34 false], .t, none⟩,
      ⟨(.ldB 3 25 true false), [.v 3 false], .t, none⟩,
      ⟨.mv, [.v 1 false], .t, none⟩,
      ⟨.mv, [.v 2 false], .t, none⟩,
      ⟨(.call 52), [.t 36 false, .t 37 false, .t 38 false], .t, none⟩,
      ⟨(.ldB 3 25 true false), [.v 3 false], .t, none⟩,
      ⟨.mv, [.v 1 false], .t, none⟩,
      ⟨(.call 53), [.t 40 false, .t 41 false], .t, none⟩,
      ⟨(.ldB 3 25 true false), [.v 3 false], .t, none⟩,
      ⟨.mv, [.v 1 false], .t, none⟩,
      ⟨(.call 54), [.t 43 false, .t 44 false], .t, none⟩,
      ⟨(.ldB 3 25 true false), [.v 3 false], .t, none⟩,
      ⟨.mv, [.v 1 false], .t, none⟩,
      ⟨.mv, [.v 2 false], .t, none⟩,
      ⟨(.call 55), [.t 46 false, .t 47 false, .t 48 false], .t, none⟩,
      ⟨(.buildSl 1 [(.sc (.int .i64 0)), (.sc (.int .i64 0)), (.sc (.int .i64 0)), (.sc (.int .i64 0)), (.sc (.int .i64 0)), (.sc (.int .i64 0)), (.sc (.int .i64 0)), (.sc (.int .i64 0)), (.sc (.int .i64 0)), (.sc (.int .i64 0)), (.sc (.int .i64 0)), (.sc (.int .i64 0)), (.sc (.int .i64 0)), (.sc (.int .i64 0))] [0, 1, 2, 3, 4, 5, 6, 7, 8, 9, 10, 11, 12, 13]), [.t 2 false, .t 5 false, .t 9 false, .t 13 false, .t 17 false, .t 21 false, .t 24 false, .t 28 false, .t 32 false, .t 35 false, .t 39 false, .t 42 false, .t 45 false, .t 49 false], .t, none⟩,
      ⟨.mv, [.t 50 true], (.v 4), none⟩] true)
    .ret)) }

/-- underwood/layout.Task -/
def ir20 : FnIR := { np := 3, nv := 6, slots := [0, 1, 2, 3, 6, 8], res := [.v 4], body :=
  (.seq
   (.reg [
     ⟨(.bx 25), [.v 0 false], (.v 3), none⟩,
     ⟨.mv, [.c (.sc (.int .i64 0))], (.v 4), none⟩] false)
   (.seq
    (.seq
     (.reg [
       ⟨.mv, [.v 1 false], .t, none⟩,
       ⟨(.bin .lss false), [.t 0 false, .c (.sc (.int .i64 1))], (.v 5), none⟩] false)
     (.cond (.v 5 false)
      (.seq
       (.reg [
         ⟨.mv, [.c (.sc (.int .i64 (-1)))], (.v 4), none⟩] false)
       .ret)
      .skip))
    (.seq
     (.reg [
       ⟨(.faB 3 18), [.v 3 false], .t, none⟩,
       ⟨(.ldB 3 1 false false), [.t 0 false, .v 3 false], .t, none⟩,
       ⟨(.faB 3 0), [.v 3 false], .t, none⟩,
       ⟨(.fa 4), [.t 2 false], .t, none⟩,
       ⟨(.ldB 3 1 false false), [.t 3 false, .v 3 false], .t, none⟩,
       ⟨.mv, [.v 1 false], .t, none⟩,
       ⟨(.bin .sub false), [.t 5 false, .c (.sc (.int .i64 1))], .t, none⟩,
       ⟨.mv, [.v 2 false], .t, none⟩,
       ⟨(.call 30), [.t 1 false, .t 4 false, .c (.sc (.int .i64 4)), .t 6 false, .t 7 false], .t, none⟩,
       ⟨.mv, [.t 8 false], (.v 4), none⟩] false)
     .ret))) }

/-- underwood/layout.Node -/
def ir21 : FnIR := { np := 3, nv := 6, slots := [0, 1, 2, 3, 6, 8], res := [.v 4], body :=
  (.seq
   (.reg [
     ⟨(.bx 25), [.v 0 false], (.v 3), none⟩,
     ⟨.mv, [.c (.sc (.int .i64 0))], (.v 4), none⟩] false)
   (.seq
    (.seq
     (.reg [
       ⟨.mv, [.v 1 false], .t, none⟩,
       ⟨(.bin .lss false), [.t 0 false, .c (.sc (.int .i64 1))], (.v 5), none⟩] false)
     (.cond (.v 5 false)
      (.seq
       (.reg [
         ⟨.mv, [.c (.sc (.int .i64 (-1)))], (.v 4), none⟩] false)
       .ret)
      .skip))
    (.seq
     (.reg [
       ⟨(.faB 3 23), [.v 3 false], .t, none⟩,
       ⟨(.ldB 3 1 false false), [.t 0 false, .v 3 false], .t, none⟩,
       ⟨(.faB 3 0), [.v 3 false], .t, none⟩,
       ⟨(.fa 1), [.t 2 false], .t, none⟩,
       ⟨(.ldB 3 1 false false), [.t 3 false, .v 3 false], .t, none⟩,
       ⟨.mv, [.v 1 false], .t, none⟩,
       ⟨(.bin .sub false), [.t 5 false, .c (.sc (.int .i64 1))], .t, none⟩,
       ⟨.mv, [.v 2 false], .t, none⟩,
       ⟨(.call 30), [.t 1 false, .t 4 false, .c (.sc (.int .i64 8)), .t 6 false, .t 7 false], .t, none⟩,
       ⟨.mv, [.t 8 false], (.v 4), none⟩] false)
     .ret))) }

def ir22_l0 : IR :=
        (.seq
         (.seq
          (.reg [
            ⟨.mv, [.v 5 false], .t, none⟩,
            ⟨(.bin .leq false), [.t 0 false, .c (.sc (.int .i64 64))], (.v 3), none⟩] false)
          (.cond (.v 3 false)
           .skip
           (.exit 0)))
         (.seq
          (.block 1
           (.reg [
             ⟨.mv, [.v 6 false], .t, none⟩,
             ⟨.mv, [.t 0 false], .t, none⟩,
             ⟨(.faB 1 2), [.v 1 false], .t, (some (1, false))⟩,
             ⟨(.ldB 1 1 false false), [.t 2 false, .v 1 false], .t, (some (1, false))⟩,
             ⟨.mv, [.v 5 false], .t, (some (1, false))⟩,
             ⟨(.bin .eql false), [.t 3 false, .t 4 false], .t, (some (1, false))⟩,
             ⟨.pick, [.t 1 false, .c (.sc (.bool true)), .t 5 false], .t, none⟩,
             ⟨.mv, [.t 6 false], (.v 6), none⟩] false))
          (.reg [
            ⟨.mv, [.v 5 false], .t, none⟩,
            ⟨(.bin .mul false), [.c (.sc (.int .i64 2)), .t 0 false], .t, none⟩,
            ⟨.mv, [.t 1 false], (.v 5), none⟩] false)))

/-- underwood/underwoodref14.may -/
def ir22 : FnIR := { np := 1, nv := 7, slots := [0, 1, 2, 6, 41, 4, 3], res := [.v 2], body :=
  (.seq
   (.reg [
     ⟨(.bx 9), [.v 0 false], (.v 1), none⟩,
     ⟨.mv, [.c (.sc (.bool false))], (.v 2), none⟩] false)
   (.seq
    (.reg [
      ⟨.mv, [.c (.sc (.bool false))], (.v 6), none⟩] false)
    (.seq
     (.seq
      (.reg [
        ⟨.mv, [.c (.sc (.int .i64 1))], (.v 5), none⟩] false)
      (.block 0
       (.loop ir22_l0)))
     (.seq
      (.seq
       (.reg [
         ⟨.mv, [.v 6 false], .t, none⟩,
         ⟨(.un .not), [.t 0 false], .t, none⟩,
         ⟨.mv, [.t 1 false], .t, none⟩,
         ⟨(.faB 1 0), [.v 1 false], .t, (some (2, false))⟩,
         ⟨(.ldB 1 1 false false), [.t 3 false, .v 1 false], .t, (some (2, false))⟩,
         ⟨(.call 23), [.t 4 false, .c (.sc (.int .i64 1)), .c (.sc (.int .i64 8))], .t, (some (2, false))⟩,
         ⟨(.un .not), [.t 5 false], .t, (some (2, false))⟩,
         ⟨.pick, [.t 2 false, .c (.sc (.bool true)), .t 6 false], .t, none⟩,
         ⟨.mv, [.t 7 false], .t, none⟩,
         ⟨(.faB 1 3), [.v 1 false], .t, (some (8, false))⟩,
         ⟨(.ldB 1 1 false false), [.t 9 false, .v 1 false], .t, (some (8, false))⟩,
         ⟨(.call 23), [.t 10 false, .c (.sc (.int .i64 1)), .c (.sc (.int .i64 8))], .t, (some (8, false))⟩,
         ⟨(.un .not), [.t 11 false], .t, (some (8, false))⟩,
         ⟨.pick, [.t 8 false, .c (.sc (.bool true)), .t 12 false], .t, none⟩,
         ⟨.mv, [.t 13 false], .t, none⟩,
         ⟨(.faB 1 4), [.v 1 false], .t, (some (14, false))⟩,
         ⟨(.ldB 1 1 false false), [.t 15 false, .v 1 false], .t, (some (14, false))⟩,
         ⟨(.call 23), [.t 16 false, .c (.sc (.int .i64 1)), .c (.sc (.int .i64 64))], .t, (some (14, false))⟩,
         ⟨(.un .not), [.t 17 false], .t, (some (14, false))⟩,
         ⟨.pick, [.t 14 false, .c (.sc (.bool true)), .t 18 false], .t, none⟩,
         ⟨.mv, [.t 19 false], .t, none⟩,
         ⟨(.faB 1 5), [.v 1 false], .t, (some (20, false))⟩,
         ⟨(.ldB 1 1 false false), [.t 21 false, .v 1 false], .t, (some (20, false))⟩,
         ⟨(.call 23), [.t 22 false, .c (.sc (.int .i64 0)), .c (.sc (.int .i64 16))], .t, (some (20, false))⟩,
         ⟨(.un .not), [.t 23 false], .t, (some (20, false))⟩,
         ⟨.pick, [.t 20 false, .c (.sc (.bool true)), .t 24 false], (.v 4), none⟩] false)
       (.cond (.v 4 false)
        (.seq
         (.reg [
           ⟨.mv, [.c (.sc (.bool false))], (.v 2), none⟩] false)
         .ret)
        .skip))
      (.seq
       (.reg [
         ⟨(.faB 1 6), [.v 1 false], .t, none⟩,
         ⟨(.ldB 1 1 false false), [.t 0 false, .v 1 false], .t, none⟩,
         ⟨(.call 23), [.t 1 false, .c (.sc (.int .i64 0)), .c (.sc (.int .i64 8))], .t, none⟩,
         ⟨.mv, [.t 2 false], .t, none⟩,
         ⟨(.faB 1 7), [.v 1 false], .t, (some (3, true))⟩,
         ⟨(.ldB 1 1 false false), [.t 4 false, .v 1 false], .t, (some (3, true))⟩,
         ⟨(.call 23), [.t 5 false, .c (.sc (.int .i64 0)), .c (.sc (.int .i64 8))], .t, (some (3, true))⟩,
         ⟨.pick, [.t 3 false, .t 6 false, .c (.sc (.bool false))], .t, none⟩,
         ⟨.mv, [.t 7 false], .t, none⟩,
         ⟨(.faB 1 8), [.v 1 false], .t, (some (8, true))⟩,
         ⟨(.ldB 1 1 false false), [.t 9 false, .v 1 false], .t, (some (8, true))⟩,
         ⟨(.call 23), [.t 10 false, .c (.sc (.int .i64 0)), .c (.sc (.int .i64 8))], .t, (some (8, true))⟩,
         ⟨.pick, [.t 8 false, .t 11 false, .c (.sc (.bool false))], .t, none⟩,
         ⟨.mv, [.t 12 false], (.v 2), none⟩] false)
       .ret))))) }

/-- underwood/underwoodref14.in -/
def ir23 : FnIR := { np := 3, nv := 4, slots := [0, 1, 2, 6], res := [.v 3], body :=
  (.seq
   (.reg [
     ⟨.mv, [.c (.sc (.bool false))], (.v 3), none⟩] false)
   (.seq
    (.reg [
      ⟨.mv, [.v 0 false], .t, none⟩,
      ⟨.mv, [.v 1 false], .t, none⟩,
      ⟨(.bin .geq false), [.t 0 false, .t 1 false], .t, none⟩,
      ⟨.mv, [.t 2 false], .t, none⟩,
      ⟨.mv, [.v 0 false], .t, (some (3, true))⟩,
      ⟨.mv, [.v 2 false], .t, (some (3, true))⟩,
      ⟨(.bin .leq false), [.t 4 false, .t 5 false], .t, (some (3, true))⟩,
      ⟨.pick, [.t 3 false, .t 6 false, .c (.sc (.bool false))], .t, none⟩,
      ⟨.mv, [.t 7 false], (.v 3), none⟩] false)
    .ret)) }

def ir24_l0 : IR :=
         (.seq
          (.seq
           (.reg [
             ⟨.mv, [.v 3 false], .t, none⟩,
             ⟨.mv, [.v 0 false], .t, none⟩,
             ⟨(.bin .lss false), [.t 0 false, .t 1 false], (.v 2), none⟩] false)
           (.cond (.v 2 false)
            .skip
            (.exit 0)))
          (.seq
           (.block 1
            (.seq
             (.reg [
               ⟨.mv, [.v 4 false], .t, none⟩,
               ⟨.mv, [.v 5 false], .t, none⟩,
               ⟨(.bin .add false), [.t 0 false, .t 1 false], .t, none⟩,
               ⟨.mv, [.t 2 false], (.v 4), none⟩] false)
             (.reg [
               ⟨.mv, [.v 5 false], .t, none⟩,
               ⟨(.bin .mul false), [.c (.sc (.int .i64 2)), .t 0 false], .t, none⟩,
               ⟨.mv, [.t 1 false], (.v 5), none⟩] false)))
           (.reg [
             ⟨.mv, [.v 3 false], .t, none⟩,
             ⟨(.bin .add false), [.t 0 false, .c (.sc (.int .i64 1))], .t, none⟩,
             ⟨.mv, [.t 1 false], (.v 3), none⟩] false)))

/-- underwood/underwoodref14.room -/
def ir24 : FnIR := { np := 1, nv := 6, slots := [0, 2, 8, 5, 3, 4], res := [.v 1], body :=
  (.seq
   (.reg [
     ⟨.mv, [.c (.sc (.int .i64 0))], (.v 1), none⟩] false)
   (.seq
    (.reg [
      ⟨.mv, [.c (.sc (.int .i64 0))], (.v 4), none⟩] false)
    (.seq
     (.reg [
       ⟨.mv, [.c (.sc (.int .i64 4))], (.v 5), none⟩] false)
     (.seq
      (.seq
       (.reg [
         ⟨.mv, [.c (.sc (.int .i64 0))], (.v 3), none⟩] false)
       (.block 0
        (.loop ir24_l0)))
      (.seq
       (.reg [
         ⟨.mv, [.v 4 false], .t, none⟩,
         ⟨.mv, [.t 0 false], (.v 1), none⟩] false)
       .ret))))) }

def ir25_l0 : IR :=
       (.seq
        (.reg [
          ⟨(.bin .lss false), [.v 8 false, .v 9 false], (.v 5), none⟩] false)
        (.seq
         (.cond (.v 5 false)
          .skip
          (.exit 0))
         (.seq
          (.block 1
           (.seq
            (.reg [
              ⟨(.ia 10), [.v 10 false, .v 8 false], .t, none⟩,
              ⟨(.ldP 10 true false), [.t 0 false], .t, none⟩,
              ⟨(.bx 10), [.c (.agg [(.sc (.int .i64 0)), (.sl .full 1 []), (.sc (.int .i64 0)), (.sc (.int .i64 0)), (.sc (.int .i64 0)), (.sc (.int .i64 0)), (.sc (.int .i64 0)), (.sc (.int .i64 0)), (.sc (.int .i64 0)), (.sc (.bool false))])], (.v 2), none⟩,
              ⟨(.stB 2 10), [.v 2 false, .t 1 true], .none, none⟩] false)
            (.block 2
             (.seq
              (.reg [
                ⟨(.faB 2 2), [.v 2 false], .t, none⟩,
                ⟨(.ldB 2 1 false false), [.t 0 false, .v 2 false], .t, none⟩,
                ⟨(.bin .eql false), [.t 1 false, .c (.sc (.int .i64 1))], .t, none⟩,
                ⟨.mv, [.t 2 false], .t, none⟩,
                ⟨(.faB 2 4), [.v 2 false], .t, (some (3, true))⟩,
                ⟨(.fa 0), [.t 4 false], .t, (some (3, true))⟩,
                ⟨(.ldB 2 1 false false), [.t 5 false, .v 2 false], .t, (some (3, true))⟩,
                ⟨(.bin .eql false), [.t 6 false, .c (.sc (.int .i64 2))], .t, (some (3, true))⟩,
                ⟨.pick, [.t 3 false, .t 7 false, .c (.sc (.bool false))], .t, none⟩,
                ⟨.mv, [.t 8 false], (.v 6), none⟩] false)
              (.cond (.v 6 false)
               (.seq
                (.reg [
                  ⟨.mv, [.v 3 false], .t, none⟩,
                  ⟨(.bin .add false), [.t 0 false, .c (.sc (.int .i64 1))], .t, none⟩,
                  ⟨.mv, [.t 1 false], (.v 3), none⟩] false)
                (.reg [
                  ⟨.mv, [.v 4 false], .t, none⟩,
                  ⟨(.bin .add false), [.t 0 false, .c (.sc (.int .i64 1))], .t, none⟩,
                  ⟨.mv, [.t 1 false], (.v 4), none⟩] false))
               (.seq
                (.seq
                 (.reg [
                   ⟨(.faB 2 2), [.v 2 false], .t, none⟩,
                   ⟨(.ldB 2 1 false false), [.t 0 false, .v 2 false], .t, none⟩,
                   ⟨(.bin .eql false), [.t 1 false, .c (.sc (.int .i64 2))], .t, none⟩,
                   ⟨.mv, [.t 2 false], .t, none⟩,
                   ⟨(.faB 2 4), [.v 2 false], .t, (some (3, true))⟩,
                   ⟨(.fa 0), [.t 4 false], .t, (some (3, true))⟩,
                   ⟨(.ldB 2 1 false false), [.t 5 false, .v 2 false], .t, (some (3, true))⟩,
                   ⟨(.bin .eql false), [.t 6 false, .c (.sc (.int .i64 4))], .t, (some (3, true))⟩,
                   ⟨.pick, [.t 3 false, .t 7 false, .c (.sc (.bool false))], .t, none⟩,
                   ⟨.mv, [.t 8 false], (.v 7), none⟩] false)
                 (.cond (.v 7 false)
                  .skip
                  (.reg [
                    ⟨(.faB 2 2), [.v 2 false], .t, none⟩,
                    ⟨(.ldB 2 1 false false), [.t 0 false, .v 2 false], .t, none⟩,
                    ⟨(.bin .eql false), [.t 1 false, .c (.sc (.int .i64 3))], .t, none⟩,
                    ⟨.mv, [.t 2 false], .t, none⟩,
                    ⟨(.faB 2 4), [.v 2 false], .t, (some (3, true))⟩,
                    ⟨(.fa 0), [.t 4 false], .t, (some (3, true))⟩,
                    ⟨(.ldB 2 1 false false), [.t 5 false, .v 2 false], .t, (some (3, true))⟩,
                    ⟨(.bin .eql false), [.t 6 false, .c (.sc (.int .i64 6))], .t, (some (3, true))⟩,
                    ⟨.pick, [.t 3 false, .t 7 false, .c (.sc (.bool false))], .t, none⟩,
                    ⟨.mv, [.t 8 false], (.v 7), none⟩] false)))
                (.cond (.v 7 false)
                 (.reg [
                   ⟨.mv, [.v 4 false], .t, none⟩,
                   ⟨(.bin .add false), [.t 0 false, .c (.sc (.int .i64 1))], .t, none⟩,
                   ⟨.mv, [.t 1 false], (.v 4), none⟩] false)
                 .skip)))))))
          (.reg [
            ⟨(.bin .add false), [.v 8 false, .c (.sc (.int .i64 1))], .t, none⟩,
            ⟨.mv, [.t 0 false], (.v 8), none⟩] false))))

/-- underwood/layout.made -/
def ir25 : FnIR := { np := 1, nv := 11, slots := [0, 1, 5, 2, 3, 10, 13, 27, 9, 8, 7], res := [.v 3, .v 4], body :=
  (.seq
   (.reg [
     ⟨(.bx 11), [.v 0 true], (.v 1), none⟩,
     ⟨.mv, [.c (.sc (.int .i64 0))], (.v 3), none⟩,
     ⟨.mv, [.c (.sc (.int .i64 0))], (.v 4), none⟩] false)
   (.seq
    (.seq
     (.reg [
       ⟨(.faB 1 6), [.v 1 false], .t, none⟩,
       ⟨(.ldB 1 1 false true), [.t 0 false, .v 1 true], (.v 10), none⟩,
       ⟨.len, [.v 10 false], (.v 9), none⟩,
       ⟨.mv, [.c (.sc (.int .i64 0))], (.v 8), none⟩] false)
     (.block 0
      (.loop ir25_l0)))
    (.seq
     (.reg [
       ⟨.mv, [.v 3 false], .t, none⟩,
       ⟨.mv, [.v 4 false], .t, none⟩,
       ⟨.mv, [.t 0 false], (.v 3), none⟩,
       ⟨.mv, [.t 1 false], (.v 4), none⟩] false)
     .ret))) }

def ir26_l0 : IR :=
        (.seq
         (.reg [
           ⟨(.bin .lss false), [.v 7 false, .c (.sc (.int .i64 8))], (.v 5), none⟩] false)
         (.seq
          (.cond (.v 5 false)
           .skip
           (.exit 0))
          (.seq
           (.block 1
            (.seq
             (.reg [
               ⟨(.ix 8 3 true), [.v 8 false, .v 7 false], .t, none⟩,
               ⟨(.bx 3), [.c (.agg [(.sc (.int .i64 0)), (.sc (.int .i64 0)), (.sc (.int .i64 0))])], (.v 3), none⟩,
               ⟨(.stB 3 3), [.v 3 false, .t 0 false], .none, none⟩] false)
             (.seq
              (.reg [
                ⟨(.iaB 3 3 1), [.v 3 false, .c (.sc (.int .i64 0))], .t, none⟩,
                ⟨(.ldB 3 1 false false), [.t 0 false, .v 3 false], .t, none⟩,
                ⟨(.iaB 3 3 1), [.v 3 false, .c (.sc (.int .i64 1))], .t, none⟩,
                ⟨(.ldB 3 1 false false), [.t 2 false, .v 3 false], .t, none⟩,
                ⟨(.iaB 3 3 1), [.v 3 false, .c (.sc (.int .i64 2))], .t, none⟩,
                ⟨(.ldB 3 1 false false), [.t 4 false, .v 3 false], .t, none⟩,
                ⟨(.call 27), [.t 1 false, .t 3 false, .t 5 false], .t, none⟩,
                ⟨(.un .not), [.t 6 false], (.v 6), none⟩] false)
              (.cond (.v 6 false)
               (.seq
                (.reg [
                  ⟨.mv, [.c (.sc (.bool false))], (.v 4), none⟩] false)
                .ret)
               .skip))))
           (.reg [
             ⟨(.bin .add false), [.v 7 false, .c (.sc (.int .i64 1))], .t, none⟩,
             ⟨.mv, [.t 0 false], (.v 7), none⟩] false))))

/-- underwood/layout.may -/
def ir26 : FnIR := { np := 1, nv := 9, slots := [0, 1, 3, 5, 2, 33, 42, 32, 31], res := [.v 4], body :=
  (.seq
   (.reg [
     ⟨(.bx 9), [.v 0 false], (.v 1), none⟩,
     ⟨.mv, [.c (.sc (.bool false))], (.v 4), none⟩] false)
   (.seq
    (.reg [
      ⟨(.faB 1 0), [.v 1 false], .t, none⟩,
      ⟨(.ldB 1 1 false false), [.t 0 false, .v 1 false], .t, none⟩,
      ⟨(.build [(.sc (.int .i64 0)), (.sc (.int .i64 0)), (.sc (.int .i64 0))] [(0, 1), (1, 1), (2, 1)]), [.t 1 false, .c (.sc (.int .i64 1)), .c (.sc (.int .i64 8))], .t, none⟩,
      ⟨(.faB 1 2), [.v 1 false], .t, none⟩,
      ⟨(.ldB 1 1 false false), [.t 3 false, .v 1 false], .t, none⟩,
      ⟨(.build [(.sc (.int .i64 0)), (.sc (.int .i64 0)), (.sc (.int .i64 0))] [(0, 1), (1, 1), (2, 1)]), [.t 4 false, .c (.sc (.int .i64 1)), .c (.sc (.int .i64 64))], .t, none⟩,
      ⟨(.faB 1 3), [.v 1 false], .t, none⟩,
      ⟨(.ldB 1 1 false false), [.t 6 false, .v 1 false], .t, none⟩,
      ⟨(.build [(.sc (.int .i64 0)), (.sc (.int .i64 0)), (.sc (.int .i64 0))] [(0, 1), (1, 1), (2, 1)]), [.t 7 false, .c (.sc (.int .i64 1)), .c (.sc (.int .i64 8))], .t, none⟩,
      ⟨(.faB 1 4), [.v 1 false], .t, none⟩,
      ⟨(.ldB 1 1 false false), [.t 9 false, .v 1 false], .t, none⟩,
      ⟨(.build [(.sc (.int .i64 0)), (.sc (.int .i64 0)), (.sc (.int .i64 0))] [(0, 1), (1, 1), (2, 1)]), [.t 10 false, .c (.sc (.int .i64 1)), .c (.sc (.int .i64 64))], .t, none⟩,
      ⟨(.faB 1 5), [.v 1 false], .t, none⟩,
      ⟨(.ldB 1 1 false false), [.t 12 false, .v 1 false], .t, none⟩,
      ⟨(.build [(.sc (.int .i64 0)), (.sc (.int .i64 0)), (.sc (.int .i64 0))] [(0, 1), (1, 1), (2, 1)]), [.t 13 false, .c (.sc (.int .i64 0)), .c (.sc (.int .i64 16))], .t, none⟩,
      ⟨(.faB 1 6), [.v 1 false], .t, none⟩,
      ⟨(.ldB 1 1 false false), [.t 15 false, .v 1 false], .t, none⟩,
      ⟨(.build [(.sc (.int .i64 0)), (.sc (.int .i64 0)), (.sc (.int .i64 0))] [(0, 1), (1, 1), (2, 1)]), [.t 16 false, .c (.sc (.int .i64 0)), .c (.sc (.int .i64 8))], .t, none⟩,
      ⟨(.faB 1 7), [.v 1 false], .t, none⟩,
      ⟨(.ldB 1 1 false false), [.t 18 false, .v 1 false], .t, none⟩,
      ⟨(.build [(.sc (.int .i64 0)), (.sc (.int .i64 0)), (.sc (.int .i64 0))] [(0, 1), (1, 1), (2, 1)]), [.t 19 false, .c (.sc (.int .i64 0)), .c (.sc (.int .i64 8))], .t, none⟩,
      ⟨(.faB 1 8), [.v 1 false], .t, none⟩,
      ⟨(.ldB 1 1 false false), [.t 21 false, .v 1 false], .t, none⟩,
      ⟨(.build [(.sc (.int .i64 0)), (.sc (.int .i64 0)), (.sc (.int .i64 0))] [(0, 1), (1, 1), (2, 1)]), [.t 22 false, .c (.sc (.int .i64 0)), .c (.sc (.int .i64 8))], .t, none⟩,
      ⟨(.build [(.sc (.int .i64 0)), (.sc (.int .i64 0)), (.sc (.int .i64 0)), (.sc (.int .i64 0)), (.sc (.int .i64 0)), (.sc (.int .i64 0)), (.sc (.int .i64 0)), (.sc (.int .i64 0)), (.sc (.int .i64 0)), (.sc (.int .i64 0)), (.sc (.int .i64 0)), (.sc (.int .i64 0)), (.sc (.int .i64 0)), (.sc (.int .i64 0)), (.sc (.int .i64 0)), (.sc (.int .i64 0)), (.sc (.int .i64 0)), (.sc (.int .i64 0)), (.sc (.int .i64 0)), (.sc (.int .i64 0)), (.sc (.int .i64 0)), (.sc (.int .i64 0)), (.sc (.int .i64 0)), (.sc (.int .i64 0))] [(0, 3), (3, 3), (6, 3), (9, 3), (12, 3), (15, 3), (18, 3), (21, 3)]), [.t 2 false, .t 5 false, .t 8 false, .t 11 false, .t 14 false, .t 17 false, .t 20 false, .t 23 false], .t, none⟩,
      ⟨(.bx 24), [.c (.agg [(.sc (.int .i64 0)), (.sc (.int .i64 0)), (.sc (.int .i64 0)), (.sc (.int .i64 0)), (.sc (.int .i64 0)), (.sc (.int .i64 0)), (.sc (.int .i64 0)), (.sc (.int .i64 0)), (.sc (.int .i64 0)), (.sc (.int .i64 0)), (.sc (.int .i64 0)), (.sc (.int .i64 0)), (.sc (.int .i64 0)), (.sc (.int .i64 0)), (.sc (.int .i64 0)), (.sc (.int .i64 0)), (.sc (.int .i64 0)), (.sc (.int .i64 0)), (.sc (.int .i64 0)), (.sc (.int .i64 0)), (.sc (.int .i64 0)), (.sc (.int .i64 0)), (.sc (.int .i64 0)), (.sc (.int .i64 0))])], (.v 2), none⟩,
      ⟨(.stB 2 24), [.v 2 false, .t 24 false], .none, none⟩] false)
    (.seq
     (.seq
      (.reg [
        ⟨(.ldB 2 24 true false), [.v 2 false], (.v 8), none⟩,
        ⟨.mv, [.c (.sc (.int .i64 0))], (.v 7), none⟩] false)
      (.block 0
       (.loop ir26_l0)))
     (.seq
      (.reg [
        ⟨(.faB 1 2), [.v 1 false], .t, none⟩,
        ⟨(.ldB 1 1 false false), [.t 0 false, .v 1 false], .t, none⟩,
        ⟨(.faB 1 2), [.v 1 false], .t, none⟩,
        ⟨(.ldB 1 1 false false), [.t 2 false, .v 1 false], .t, none⟩,
        ⟨(.bin .sub false), [.t 3 false, .c (.sc (.int .i64 1))], .t, none⟩,
        ⟨(.bin .and false), [.t 1 false, .t 4 false], .t, none⟩,
        ⟨(.bin .eql false), [.t 5 false, .c (.sc (.int .i64 0))], .t, none⟩,
        ⟨.mv, [.t 6 false], (.v 4), none⟩] false)
      .ret)))) }

/-- underwood/layout.within -/
def ir27 : FnIR := { np := 3, nv := 4, slots := [0, 1, 2, 6], res := [.v 3], body :=
  (.seq
   (.reg [
     ⟨.mv, [.c (.sc (.bool false))], (.v 3), none⟩] false)
   (.seq
    (.reg [
      ⟨.mv, [.v 0 false], .t, none⟩,
      ⟨.mv, [.v 1 false], .t, none⟩,
      ⟨(.bin .geq false), [.t 0 false, .t 1 false], .t, none⟩,
      ⟨.mv, [.t 2 false], .t, none⟩,
      ⟨.mv, [.v 0 false], .t, (some (3, true))⟩,
      ⟨.mv, [.v 2 false], .t, (some (3, true))⟩,
      ⟨(.bin .leq false), [.t 4 false, .t 5 false], .t, (some (3, true))⟩,
      ⟨.pick, [.t 3 false, .t 6 false, .c (.sc (.bool false))], .t, none⟩,
      ⟨.mv, [.t 7 false], (.v 3), none⟩] false)
    .ret)) }

/-- underwood/layout.Of$1 -/
def ir28 : FnIR := { np := 2, nv := 3, slots := [0, 1, 3], res := [.v 2], body :=
  (.seq
   (.reg [
     ⟨.mv, [.c (.sc (.int .i64 0))], (.v 2), none⟩] false)
   (.seq
    (.reg [
      ⟨(.ldP 1 false false), [.v 1 false], .t, none⟩,
      ⟨.mv, [.v 0 false], .t, none⟩,
      ⟨(.bin .add false), [.t 0 false, .t 1 false], .t, none⟩,
      ⟨(.stP 1), [.v 1 false, .t 2 false], .none, none⟩] false)
    (.seq
     (.reg [
       ⟨(.ldP 1 false false), [.v 1 false], .t, none⟩,
       ⟨.mv, [.v 0 false], .t, none⟩,
       ⟨(.bin .sub false), [.t 0 false, .t 1 false], .t, none⟩,
       ⟨.mv, [.t 2 false], (.v 2), none⟩] false)
     .ret))) }

def ir29_l0 : IR :=
        (.seq
         (.seq
          (.reg [
            ⟨.mv, [.v 3 false], .t, none⟩,
            ⟨.mv, [.v 0 false], .t, none⟩,
            ⟨(.bin .lss false), [.t 0 false, .t 1 false], (.v 2), none⟩] false)
          (.cond (.v 2 false)
           .skip
           (.exit 0)))
         (.seq
          (.block 1
           (.reg [
             ⟨.mv, [.v 4 false], .t, none⟩,
             ⟨(.bin .add false), [.t 0 false, .c (.sc (.int .i64 1))], .t, none⟩,
             ⟨.mv, [.t 1 false], (.v 4), none⟩] false))
          (.reg [
            ⟨.mv, [.v 3 false], .t, none⟩,
            ⟨(.bin .mul false), [.t 0 false, .c (.sc (.int .i64 2))], .t, none⟩,
            ⟨.mv, [.t 1 false], (.v 3), none⟩] false)))

/-- underwood/layout.rings -/
def ir29 : FnIR := { np := 1, nv := 5, slots := [0, 2, 7, 4, 3], res := [.v 1], body :=
  (.seq
   (.reg [
     ⟨.mv, [.c (.sc (.int .i64 0))], (.v 1), none⟩] false)
   (.seq
    (.reg [
      ⟨.mv, [.c (.sc (.int .i64 1))], (.v 4), none⟩] false)
    (.seq
     (.seq
      (.reg [
        ⟨.mv, [.c (.sc (.int .i64 4))], (.v 3), none⟩] false)
      (.block 0
       (.loop ir29_l0)))
     (.seq
      (.reg [
        ⟨.mv, [.v 4 false], .t, none⟩,
        ⟨.mv, [.t 0 false], (.v 1), none⟩] false)
      .ret)))) }

/-- underwood/layout.place -/
def ir30 : FnIR := { np := 5, nv := 7, slots := [0, 1, 2, 3, 4, 10, 22], res := [.v 5], body :=
  (.seq
   (.reg [
     ⟨.mv, [.c (.sc (.int .i64 0))], (.v 5), none⟩] false)
   (.seq
    (.seq
     (.reg [
       ⟨.mv, [.v 3 false], .t, none⟩,
       ⟨.mv, [.v 1 false], .t, none⟩,
       ⟨(.bin .sub false), [.t 1 false, .c (.sc (.int .i64 1))], .t, none⟩,
       ⟨(.call 27), [.t 0 false, .c (.sc (.int .i64 0)), .t 2 false], .t, none⟩,
       ⟨(.un .not), [.t 3 false], .t, none⟩,
       ⟨.mv, [.t 4 false], .t, none⟩,
       ⟨.mv, [.v 4 false], .t, (some (5, false))⟩,
       ⟨.mv, [.v 2 false], .t, (some (5, false))⟩,
       ⟨(.bin .sub false), [.t 7 false, .c (.sc (.int .i64 1))], .t, (some (5, false))⟩,
       ⟨(.call 27), [.t 6 false, .c (.sc (.int .i64 0)), .t 8 false], .t, (some (5, false))⟩,
       ⟨(.un .not), [.t 9 false], .t, (some (5, false))⟩,
       ⟨.pick, [.t 5 false, .c (.sc (.bool true)), .t 10 false], (.v 6), none⟩] false)
     (.cond (.v 6 false)
      (.seq
       (.reg [
         ⟨.mv, [.c (.sc (.int .i64 (-1)))], (.v 5), none⟩] false)
       .ret)
      .skip))
    (.seq
     (.reg [
       ⟨.mv, [.v 0 false], .t, none⟩,
       ⟨.mv, [.v 2 false], .t, none⟩,
       ⟨.mv, [.v 3 false], .t, none⟩,
       ⟨(.bin .mul false), [.t 1 false, .t 2 false], .t, none⟩,
       ⟨(.bin .add false), [.t 0 false, .t 3 false], .t, none⟩,
       ⟨.mv, [.v 4 false], .t, none⟩,
       ⟨(.bin .add false), [.t 4 false, .t 5 false], .t, none⟩,
       ⟨.mv, [.t 6 false], (.v 5), none⟩] false)
     .ret))) }

/-- underwood/layout.Alive -/
def ir31 : FnIR := { np := 2, nv := 4, slots := [0, 1, 2, 4], res := [.v 3], body :=
  (.seq
   (.reg [
     ⟨(.bx 25), [.v 0 false], (.v 2), none⟩,
     ⟨.mv, [.c (.sc (.int .i64 0))], (.v 3), none⟩] false)
   (.seq
    (.reg [
      ⟨(.faB 2 13), [.v 2 false], .t, none⟩,
      ⟨(.ldB 2 1 false false), [.t 0 false, .v 2 false], .t, none⟩,
      ⟨(.faB 2 0), [.v 2 false], .t, none⟩,
      ⟨(.fa 0), [.t 2 false], .t, none⟩,
      ⟨(.ldB 2 1 false false), [.t 3 false, .v 2 false], .t, none⟩,
      ⟨.mv, [.v 1 false], .t, none⟩,
      ⟨(.call 30), [.t 1 false, .t 4 false, .c (.sc (.int .i64 1)), .t 5 false, .c (.sc (.int .i64 0))], .t, none⟩,
      ⟨.mv, [.t 6 false], (.v 3), none⟩] false)
    .ret)) }

/-- underwood/layout.Owner -/
def ir32 : FnIR := { np := 2, nv := 4, slots := [0, 1, 2, 4], res := [.v 3], body :=
  (.seq
   (.reg [
     ⟨(.bx 25), [.v 0 false], (.v 2), none⟩,
     ⟨.mv, [.c (.sc (.int .i64 0))], (.v 3), none⟩] false)
   (.seq
    (.reg [
      ⟨(.faB 2 14), [.v 2 false], .t, none⟩,
      ⟨(.ldB 2 1 false false), [.t 0 false, .v 2 false], .t, none⟩,
      ⟨(.faB 2 0), [.v 2 false], .t, none⟩,
      ⟨(.fa 0), [.t 2 false], .t, none⟩,
      ⟨(.ldB 2 1 false false), [.t 3 false, .v 2 false], .t, none⟩,
      ⟨.mv, [.v 1 false], .t, none⟩,
      ⟨(.call 30), [.t 1 false, .t 4 false, .c (.sc (.int .i64 1)), .t 5 false, .c (.sc (.int .i64 0))], .t, none⟩,
      ⟨.mv, [.t 6 false], (.v 3), none⟩] false)
    .ret)) }

/-- underwood/layout.Resv -/
def ir33 : FnIR := { np := 3, nv := 5, slots := [0, 1, 2, 3, 6], res := [.v 4], body :=
  (.seq
   (.reg [
     ⟨(.bx 25), [.v 0 false], (.v 3), none⟩,
     ⟨.mv, [.c (.sc (.int .i64 0))], (.v 4), none⟩] false)
   (.seq
    (.reg [
      ⟨(.faB 3 15), [.v 3 false], .t, none⟩,
      ⟨(.ldB 3 1 false false), [.t 0 false, .v 3 false], .t, none⟩,
      ⟨(.faB 3 0), [.v 3 false], .t, none⟩,
      ⟨(.fa 0), [.t 2 false], .t, none⟩,
      ⟨(.ldB 3 1 false false), [.t 3 false, .v 3 false], .t, none⟩,
      ⟨.mv, [.v 1 false], .t, none⟩,
      ⟨.mv, [.v 2 false], .t, none⟩,
      ⟨(.call 30), [.t 1 false, .t 4 false, .c (.sc (.int .i64 3)), .t 5 false, .t 6 false], .t, none⟩,
      ⟨.mv, [.t 7 false], (.v 4), none⟩] false)
    .ret)) }

/-- underwood/layout.Deque -/
def ir34 : FnIR := { np := 3, nv := 5, slots := [0, 1, 2, 3, 6], res := [.v 4], body :=
  (.seq
   (.reg [
     ⟨(.bx 25), [.v 0 false], (.v 3), none⟩,
     ⟨.mv, [.c (.sc (.int .i64 0))], (.v 4), none⟩] false)
   (.seq
    (.reg [
      ⟨(.faB 3 16), [.v 3 false], .t, none⟩,
      ⟨(.ldB 3 1 false false), [.t 0 false, .v 3 false], .t, none⟩,
      ⟨(.faB 3 0), [.v 3 false], .t, none⟩,
      ⟨(.fa 0), [.t 2 false], .t, none⟩,
      ⟨(.ldB 3 1 false false), [.t 3 false, .v 3 false], .t, none⟩,
      ⟨.mv, [.v 1 false], .t, none⟩,
      ⟨.mv, [.v 2 false], .t, none⟩,
      ⟨(.call 30), [.t 1 false, .t 4 false, .c (.sc (.int .i64 3)), .t 5 false, .t 6 false], .t, none⟩,
      ⟨.mv, [.t 7 false], (.v 4), none⟩] false)
    .ret)) }

/-- underwood/layout.Cell -/
def ir35 : FnIR := { np := 2, nv := 4, slots := [0, 1, 2, 4], res := [.v 3], body :=
  (.seq
   (.reg [
     ⟨(.bx 25), [.v 0 false], (.v 2), none⟩,
     ⟨.mv, [.c (.sc (.int .i64 0))], (.v 3), none⟩] false)
   (.seq
    (.reg [
      ⟨(.faB 2 19), [.v 2 false], .t, none⟩,
      ⟨(.ldB 2 1 false false), [.t 0 false, .v 2 false], .t, none⟩,
      ⟨(.faB 2 0), [.v 2 false], .t, none⟩,
      ⟨(.fa 5), [.t 2 false], .t, none⟩,
      ⟨(.ldB 2 1 false false), [.t 3 false, .v 2 false], .t, none⟩,
      ⟨.mv, [.v 1 false], .t, none⟩,
      ⟨(.call 30), [.t 1 false, .t 4 false, .c (.sc (.int .i64 1)), .t 5 false, .c (.sc (.int .i64 0))], .t, none⟩,
      ⟨.mv, [.t 6 false], (.v 3), none⟩] false)
    .ret)) }

/-- underwood/layout.Map -/
def ir36 : FnIR := { np := 3, nv := 6, slots := [0, 1, 2, 3, 6, 9], res := [.v 4], body :=
  (.seq
   (.reg [
     ⟨(.bx 25), [.v 0 false], (.v 3), none⟩,
     ⟨.mv, [.c (.sc (.int .i64 0))], (.v 4), none⟩] false)
   (.seq
    (.seq
     (.reg [
       ⟨.mv, [.v 2 false], .t, none⟩,
       ⟨(.call 27), [.t 0 false, .c (.sc (.int .i64 0)), .c (.sc (.int .i64 1))], .t, none⟩,
       ⟨(.un .not), [.t 1 false], (.v 5), none⟩] false)
     (.cond (.v 5 false)
      (.seq
       (.reg [
         ⟨.mv, [.c (.sc (.int .i64 (-1)))], (.v 4), none⟩] false)
       .ret)
      .skip))
    (.seq
     (.reg [
       ⟨(.faB 3 20), [.v 3 false], .t, none⟩,
       ⟨(.ldB 3 1 false false), [.t 0 false, .v 3 false], .t, none⟩,
       ⟨(.faB 3 0), [.v 3 false], .t, none⟩,
       ⟨(.fa 6), [.t 2 false], .t, none⟩,
       ⟨(.ldB 3 1 false false), [.t 3 false, .v 3 false], .t, none⟩,
       ⟨(.faB 3 0), [.v 3 false], .t, none⟩,
       ⟨(.fa 2), [.t 5 false], .t, none⟩,
       ⟨(.ldB 3 1 false false), [.t 6 false, .v 3 false], .t, none⟩,
       ⟨(.bin .add false), [.c (.sc (.int .i64 2)), .t 7 false], .t, none⟩,
       ⟨.mv, [.v 1 false], .t, none⟩,
       ⟨.mv, [.v 2 false], .t, none⟩,
       ⟨(.call 30), [.t 1 false, .t 4 false, .t 8 false, .t 9 false, .t 10 false], .t, none⟩,
       ⟨.mv, [.t 11 false], (.v 4), none⟩] false)
     .ret))) }

/-- underwood/layout.Bucket -/
def ir37 : FnIR := { np := 3, nv := 6, slots := [0, 1, 2, 3, 6, 13], res := [.v 4], body :=
  (.seq
   (.reg [
     ⟨(.bx 25), [.v 0 false], (.v 3), none⟩,
     ⟨.mv, [.c (.sc (.int .i64 0))], (.v 4), none⟩] false)
   (.seq
    (.seq
     (.reg [
       ⟨.mv, [.v 2 false], .t, none⟩,
       ⟨(.faB 3 0), [.v 3 false], .t, none⟩,
       ⟨(.fa 2), [.t 1 false], .t, none⟩,
       ⟨(.ldB 3 1 false false), [.t 2 false, .v 3 false], .t, none⟩,
       ⟨(.bin .sub false), [.t 3 false, .c (.sc (.int .i64 1))], .t, none⟩,
       ⟨(.call 27), [.t 0 false, .c (.sc (.int .i64 0)), .t 4 false], .t, none⟩,
       ⟨(.un .not), [.t 5 false], (.v 5), none⟩] false)
     (.cond (.v 5 false)
      (.seq
       (.reg [
         ⟨.mv, [.c (.sc (.int .i64 (-1)))], (.v 4), none⟩] false)
       .ret)
      .skip))
    (.seq
     (.reg [
       ⟨(.faB 3 20), [.v 3 false], .t, none⟩,
       ⟨(.ldB 3 1 false false), [.t 0 false, .v 3 false], .t, none⟩,
       ⟨(.faB 3 0), [.v 3 false], .t, none⟩,
       ⟨(.fa 6), [.t 2 false], .t, none⟩,
       ⟨(.ldB 3 1 false false), [.t 3 false, .v 3 false], .t, none⟩,
       ⟨(.faB 3 0), [.v 3 false], .t, none⟩,
       ⟨(.fa 2), [.t 5 false], .t, none⟩,
       ⟨(.ldB 3 1 false false), [.t 6 false, .v 3 false], .t, none⟩,
       ⟨(.bin .add false), [.c (.sc (.int .i64 2)), .t 7 false], .t, none⟩,
       ⟨.mv, [.v 1 false], .t, none⟩,
       ⟨.mv, [.v 2 false], .t, none⟩,
       ⟨(.bin .add false), [.c (.sc (.int .i64 2)), .t 10 false], .t, none⟩,
       ⟨(.call 30), [.t 1 false, .t 4 false, .t 8 false, .t 9 false, .t 11 false], .t, none⟩,
       ⟨.mv, [.t 12 false], (.v 4), none⟩] false)
     .ret))) }

/-- underwood/layout.Top -/
def ir38 : FnIR := { np := 2, nv := 4, slots := [0, 1, 2, 4], res := [.v 3], body :=
  (.seq
   (.reg [
     ⟨(.bx 25), [.v 0 false], (.v 2), none⟩,
     ⟨.mv, [.c (.sc (.int .i64 0))], (.v 3), none⟩] false)
   (.seq
    (.reg [
      ⟨(.faB 2 21), [.v 2 false], .t, none⟩,
      ⟨(.ldB 2 1 false false), [.t 0 false, .v 2 false], .t, none⟩,
      ⟨(.faB 2 0), [.v 2 false], .t, none⟩,
      ⟨(.fa 7), [.t 2 false], .t, none⟩,
      ⟨(.ldB 2 1 false false), [.t 3 false, .v 2 false], .t, none⟩,
      ⟨(.faB 2 0), [.v 2 false], .t, none⟩,
      ⟨(.fa 3), [.t 5 false], .t, none⟩,
      ⟨(.ldB 2 1 false false), [.t 6 false, .v 2 false], .t, none⟩,
      ⟨(.bin .add false), [.c (.sc (.int .i64 1)), .t 7 false], .t, none⟩,
      ⟨.mv, [.v 1 false], .t, none⟩,
      ⟨(.call 30), [.t 1 false, .t 4 false, .t 8 false, .t 9 false, .c (.sc (.int .i64 0))], .t, none⟩,
      ⟨.mv, [.t 10 false], (.v 3), none⟩] false)
    .ret)) }

/-- underwood/layout.Slot -/
def ir39 : FnIR := { np := 3, nv := 6, slots := [0, 1, 2, 3, 6, 13], res := [.v 4], body :=
  (.seq
   (.reg [
     ⟨(.bx 25), [.v 0 false], (.v 3), none⟩,
     ⟨.mv, [.c (.sc (.int .i64 0))], (.v 4), none⟩] false)
   (.seq
    (.seq
     (.reg [
       ⟨.mv, [.v 2 false], .t, none⟩,
       ⟨(.faB 3 0), [.v 3 false], .t, none⟩,
       ⟨(.fa 3), [.t 1 false], .t, none⟩,
       ⟨(.ldB 3 1 false false), [.t 2 false, .v 3 false], .t, none⟩,
       ⟨(.bin .sub false), [.t 3 false, .c (.sc (.int .i64 1))], .t, none⟩,
       ⟨(.call 27), [.t 0 false, .c (.sc (.int .i64 0)), .t 4 false], .t, none⟩,
       ⟨(.un .not), [.t 5 false], (.v 5), none⟩] false)
     (.cond (.v 5 false)
      (.seq
       (.reg [
         ⟨.mv, [.c (.sc (.int .i64 (-1)))], (.v 4), none⟩] false)
       .ret)
      .skip))
    (.seq
     (.reg [
       ⟨(.faB 3 21), [.v 3 false], .t, none⟩,
       ⟨(.ldB 3 1 false false), [.t 0 false, .v 3 false], .t, none⟩,
       ⟨(.faB 3 0), [.v 3 false], .t, none⟩,
       ⟨(.fa 7), [.t 2 false], .t, none⟩,
       ⟨(.ldB 3 1 false false), [.t 3 false, .v 3 false], .t, none⟩,
       ⟨(.faB 3 0), [.v 3 false], .t, none⟩,
       ⟨(.fa 3), [.t 5 false], .t, none⟩,
       ⟨(.ldB 3 1 false false), [.t 6 false, .v 3 false], .t, none⟩,
       ⟨(.bin .add false), [.c (.sc (.int .i64 1)), .t 7 false], .t, none⟩,
       ⟨.mv, [.v 1 false], .t, none⟩,
       ⟨.mv, [.v 2 false], .t, none⟩,
       ⟨(.bin .add false), [.c (.sc (.int .i64 1)), .t 10 false], .t, none⟩,
       ⟨(.call 30), [.t 1 false, .t 4 false, .t 8 false, .t 9 false, .t 11 false], .t, none⟩,
       ⟨.mv, [.t 12 false], (.v 4), none⟩] false)
     .ret))) }

/-- underwood/layout.Head -/
def ir40 : FnIR := { np := 2, nv := 4, slots := [0, 1, 2, 4], res := [.v 3], body :=
  (.seq
   (.reg [
     ⟨(.bx 25), [.v 0 false], (.v 2), none⟩,
     ⟨.mv, [.c (.sc (.int .i64 0))], (.v 3), none⟩] false)
   (.seq
    (.reg [
      ⟨(.faB 2 22), [.v 2 false], .t, none⟩,
      ⟨(.ldB 2 1 false false), [.t 0 false, .v 2 false], .t, none⟩,
      ⟨(.faB 2 0), [.v 2 false], .t, none⟩,
      ⟨(.fa 8), [.t 2 false], .t, none⟩,
      ⟨(.ldB 2 1 false false), [.t 3 false, .v 2 false], .t, none⟩,
      ⟨.mv, [.v 1 false], .t, none⟩,
      ⟨(.call 30), [.t 1 false, .t 4 false, .c (.sc (.int .i64 2)), .t 5 false, .c (.sc (.int .i64 0))], .t, none⟩,
      ⟨.mv, [.t 6 false], (.v 3), none⟩] false)
    .ret)) }

/-- underwood/layout.Tail -/
def ir41 : FnIR := { np := 2, nv := 4, slots := [0, 1, 2, 4], res := [.v 3], body :=
  (.seq
   (.reg [
     ⟨(.bx 25), [.v 0 false], (.v 2), none⟩,
     ⟨.mv, [.c (.sc (.int .i64 0))], (.v 3), none⟩] false)
   (.seq
    (.reg [
      ⟨(.faB 2 22), [.v 2 false], .t, none⟩,
      ⟨(.ldB 2 1 false false), [.t 0 false, .v 2 false], .t, none⟩,
      ⟨(.faB 2 0), [.v 2 false], .t, none⟩,
      ⟨(.fa 8), [.t 2 false], .t, none⟩,
      ⟨(.ldB 2 1 false false), [.t 3 false, .v 2 false], .t, none⟩,
      ⟨.mv, [.v 1 false], .t, none⟩,
      ⟨(.call 30), [.t 1 false, .t 4 false, .c (.sc (.int .i64 2)), .t 5 false, .c (.sc (.int .i64 1))], .t, none⟩,
      ⟨.mv, [.t 6 false], (.v 3), none⟩] false)
    .ret)) }

/-- underwood/underwoodref14.Alive -/
def ir42 : FnIR := { np := 2, nv := 4, slots := [0, 1, 2, 4], res := [.v 3], body :=
  (.seq
   (.reg [
     ⟨(.bx 25), [.v 0 false], (.v 2), none⟩,
     ⟨.mv, [.c (.sc (.int .i64 0))], (.v 3), none⟩] false)
   (.seq
    (.reg [
      ⟨(.faB 2 13), [.v 2 false], .t, none⟩,
      ⟨(.ldB 2 1 false false), [.t 0 false, .v 2 false], .t, none⟩,
      ⟨.mv, [.v 1 false], .t, none⟩,
      ⟨(.bin .add false), [.t 1 false, .t 2 false], .t, none⟩,
      ⟨.mv, [.v 1 false], .t, none⟩,
      ⟨(.faB 2 0), [.v 2 false], .t, none⟩,
      ⟨(.fa 0), [.t 5 false], .t, none⟩,
      ⟨(.ldB 2 1 false false), [.t 6 false, .v 2 false], .t, none⟩,
      ⟨(.bin .sub false), [.t 7 false, .c (.sc (.int .i64 1))], .t, none⟩,
      ⟨(.call 23), [.t 4 false, .c (.sc (.int .i64 0)), .t 8 false], .t, none⟩,
      ⟨(.call 56), [.t 3 false, .t 9 false], .t, none⟩,
      ⟨.mv, [.t 10 false], (.v 3), none⟩] true)
    .ret)) }

/-- underwood/underwoodref14.Owner -/
def ir43 : FnIR := { np := 2, nv := 4, slots := [0, 1, 2, 4], res := [.v 3], body :=
  (.seq
   (.reg [
     ⟨(.bx 25), [.v 0 false], (.v 2), none⟩,
     ⟨.mv, [.c (.sc (.int .i64 0))], (.v 3), none⟩] false)
   (.seq
    (.reg [
      ⟨(.faB 2 14), [.v 2 false], .t, none⟩,
      ⟨(.ldB 2 1 false false), [.t 0 false, .v 2 false], .t, none⟩,
      ⟨.mv, [.v 1 false], .t, none⟩,
      ⟨(.bin .add false), [.t 1 false, .t 2 false], .t, none⟩,
      ⟨.mv, [.v 1 false], .t, none⟩,
      ⟨(.faB 2 0), [.v 2 false], .t, none⟩,
      ⟨(.fa 0), [.t 5 false], .t, none⟩,
      ⟨(.ldB 2 1 false false), [.t 6 false, .v 2 false], .t, none⟩,
      ⟨(.bin .sub false), [.t 7 false, .c (.sc (.int .i64 1))], .t, none⟩,
      ⟨(.call 23), [.t 4 false, .c (.sc (.int .i64 0)), .t 8 false], .t, none⟩,
      ⟨(.call 56), [.t 3 false, .t 9 false], .t, none⟩,
      ⟨.mv, [.t 10 false], (.v 3), none⟩] true)
    .ret)) }

/-- underwood/underwoodref14.Resv -/
def ir44 : FnIR := { np := 3, nv := 5, slots := [0, 1, 2, 3, 6], res := [.v 4], body :=
  (.seq
   (.reg [
     ⟨(.bx 25), [.v 0 false], (.v 3), none⟩,
     ⟨.mv, [.c (.sc (.int .i64 0))], (.v 4), none⟩] false)
   (.seq
    (.reg [
      ⟨(.faB 3 15), [.v 3 false], .t, none⟩,
      ⟨(.ldB 3 1 false false), [.t 0 false, .v 3 false], .t, none⟩,
      ⟨.mv, [.v 1 false], .t, none⟩,
      ⟨(.bin .mul false), [.c (.sc (.int .i64 3)), .t 2 false], .t, none⟩,
      ⟨(.bin .add false), [.t 1 false, .t 3 false], .t, none⟩,
      ⟨.mv, [.v 2 false], .t, none⟩,
      ⟨(.bin .add false), [.t 4 false, .t 5 false], .t, none⟩,
      ⟨.mv, [.v 1 false], .t, none⟩,
      ⟨(.faB 3 0), [.v 3 false], .t, none⟩,
      ⟨(.fa 0), [.t 8 false], .t, none⟩,
      ⟨(.ldB 3 1 false false), [.t 9 false, .v 3 false], .t, none⟩,
      ⟨(.bin .sub false), [.t 10 false, .c (.sc (.int .i64 1))], .t, none⟩,
      ⟨(.call 23), [.t 7 false, .c (.sc (.int .i64 0)), .t 11 false], .t, none⟩,
      ⟨.mv, [.t 12 false], .t, none⟩,
      ⟨.mv, [.v 2 false], .t, (some (13, true))⟩,
      ⟨(.call 23), [.t 14 false, .c (.sc (.int .i64 0)), .c (.sc (.int .i64 2))], .t, (some (13, true))⟩,
      ⟨.pick, [.t 13 false, .t 15 false, .c (.sc (.bool false))], .t, none⟩,
      ⟨(.call 56), [.t 6 false, .t 16 false], .t, none⟩,
      ⟨.mv, [.t 17 false], (.v 4), none⟩] true)
    .ret)) }

/-- underwood/underwoodref14.Deque -/
def ir45 : FnIR := { np := 3, nv := 5, slots := [0, 1, 2, 3, 6], res := [.v 4], body :=
  (.seq
   (.reg [
     ⟨(.bx 25), [.v 0 false], (.v 3), none⟩,
     ⟨.mv, [.c (.sc (.int .i64 0))], (.v 4), none⟩] false)
   (.seq
    (.reg [
      ⟨(.faB 3 16), [.v 3 false], .t, none⟩,
      ⟨(.ldB 3 1 false false), [.t 0 false, .v 3 false], .t, none⟩,
      ⟨.mv, [.v 1 false], .t, none⟩,
      ⟨(.bin .mul false), [.c (.sc (.int .i64 3)), .t 2 false], .t, none⟩,
      ⟨(.bin .add false), [.t 1 false, .t 3 false], .t, none⟩,
      ⟨.mv, [.v 2 false], .t, none⟩,
      ⟨(.bin .add false), [.t 4 false, .t 5 false], .t, none⟩,
      ⟨.mv, [.v 1 false], .t, none⟩,
      ⟨(.faB 3 0), [.v 3 false], .t, none⟩,
      ⟨(.fa 0), [.t 8 false], .t, none⟩,
      ⟨(.ldB 3 1 false false), [.t 9 false, .v 3 false], .t, none⟩,
      ⟨(.bin .sub false), [.t 10 false, .c (.sc (.int .i64 1))], .t, none⟩,
      ⟨(.call 23), [.t 7 false, .c (.sc (.int .i64 0)), .t 11 false], .t, none⟩,
      ⟨.mv, [.t 12 false], .t, none⟩,
      ⟨.mv, [.v 2 false], .t, (some (13, true))⟩,
      ⟨(.call 23), [.t 14 false, .c (.sc (.int .i64 0)), .c (.sc (.int .i64 2))], .t, (some (13, true))⟩,
      ⟨.pick, [.t 13 false, .t 15 false, .c (.sc (.bool false))], .t, none⟩,
      ⟨(.call 56), [.t 6 false, .t 16 false], .t, none⟩,
      ⟨.mv, [.t 17 false], (.v 4), none⟩] true)
    .ret)) }

/-- underwood/underwoodref14.Ring -/
def ir46 : FnIR := { np := 3, nv := 7, slots := [0, 1, 2, 3, 6, 23, 7], res := [.v 4], body :=
  (.seq
   (.reg [
     ⟨(.bx 25), [.v 0 false], (.v 3), none⟩,
     ⟨.mv, [.c (.sc (.int .i64 0))], (.v 4), none⟩] false)
   (.seq
    (.reg [
      ⟨(.ldB 3 25 true false), [.v 3 false], .t, none⟩,
      ⟨(.call 16), [.t 0 false], .t, none⟩,
      ⟨.mv, [.t 1 false], (.v 6), none⟩] false)
    (.seq
     (.seq
      (.reg [
        ⟨.mv, [.v 1 false], .t, none⟩,
        ⟨(.faB 3 0), [.v 3 false], .t, none⟩,
        ⟨(.fa 0), [.t 1 false], .t, none⟩,
        ⟨(.ldB 3 1 false false), [.t 2 false, .v 3 false], .t, none⟩,
        ⟨(.bin .sub false), [.t 3 false, .c (.sc (.int .i64 1))], .t, none⟩,
        ⟨(.call 23), [.t 0 false, .c (.sc (.int .i64 0)), .t 4 false], .t, none⟩,
        ⟨(.un .not), [.t 5 false], .t, none⟩,
        ⟨.mv, [.t 6 false], .t, none⟩,
        ⟨.mv, [.v 2 false], .t, (some (7, false))⟩,
        ⟨.mv, [.v 6 false], .t, (some (7, false))⟩,
        ⟨(.bin .sub false), [.t 9 false, .c (.sc (.int .i64 1))], .t, (some (7, false))⟩,
        ⟨(.call 23), [.t 8 false, .c (.sc (.int .i64 0)), .t 10 false], .t, (some (7, false))⟩,
        ⟨(.un .not), [.t 11 false], .t, (some (7, false))⟩,
        ⟨.pick, [.t 7 false, .c (.sc (.bool true)), .t 12 false], (.v 5), none⟩] false)
      (.cond (.v 5 false)
       (.seq
        (.reg [
          ⟨.mv, [.c (.sc (.int .i64 (-1)))], (.v 4), none⟩] false)
        .ret)
       .skip))
     (.seq
      (.reg [
        ⟨(.faB 3 17), [.v 3 false], .t, none⟩,
        ⟨(.ldB 3 1 false false), [.t 0 false, .v 3 false], .t, none⟩,
        ⟨.mv, [.v 1 false], .t, none⟩,
        ⟨.mv, [.v 6 false], .t, none⟩,
        ⟨(.call 24), [.t 3 false], .t, none⟩,
        ⟨(.bin .mul false), [.t 2 false, .t 4 false], .t, none⟩,
        ⟨(.bin .add false), [.t 1 false, .t 5 false], .t, none⟩,
        ⟨.mv, [.v 2 false], .t, none⟩,
        ⟨(.call 24), [.t 7 false], .t, none⟩,
        ⟨(.bin .add false), [.t 6 false, .t 8 false], .t, none⟩,
        ⟨.mv, [.t 9 false], (.v 4), none⟩] true)
      .ret)))) }

/-- underwood/underwoodref14.Task -/
def ir47 : FnIR := { np := 3, nv := 5, slots := [0, 1, 2, 3, 6], res := [.v 4], body :=
  (.seq
   (.reg [
     ⟨(.bx 25), [.v 0 false], (.v 3), none⟩,
     ⟨.mv, [.c (.sc (.int .i64 0))], (.v 4), none⟩] false)
   (.seq
    (.reg [
      ⟨(.faB 3 18), [.v 3 false], .t, none⟩,
      ⟨(.ldB 3 1 false false), [.t 0 false, .v 3 false], .t, none⟩,
      ⟨.mv, [.v 1 false], .t, none⟩,
      ⟨(.bin .sub false), [.t 2 false, .c (.sc (.int .i64 1))], .t, none⟩,
      ⟨(.bin .mul false), [.c (.sc (.int .i64 4)), .t 3 false], .t, none⟩,
      ⟨(.bin .add false), [.t 1 false, .t 4 false], .t, none⟩,
      ⟨.mv, [.v 2 false], .t, none⟩,
      ⟨(.bin .add false), [.t 5 false, .t 6 false], .t, none⟩,
      ⟨.mv, [.v 1 false], .t, none⟩,
      ⟨(.faB 3 0), [.v 3 false], .t, none⟩,
      ⟨(.fa 4), [.t 9 false], .t, none⟩,
      ⟨(.ldB 3 1 false false), [.t 10 false, .v 3 false], .t, none⟩,
      ⟨(.call 23), [.t 8 false, .c (.sc (.int .i64 1)), .t 11 false], .t, none⟩,
      ⟨.mv, [.t 12 false], .t, none⟩,
      ⟨.mv, [.v 2 false], .t, (some (13, true))⟩,
      ⟨(.call 23), [.t 14 false, .c (.sc (.int .i64 0)), .c (.sc (.int .i64 3))], .t, (some (13, true))⟩,
      ⟨.pick, [.t 13 false, .t 15 false, .c (.sc (.bool false))], .t, none⟩,
      ⟨(.call 56), [.t 7 false, .t 16 false], .t, none⟩,
      ⟨.mv, [.t 17 false], (.v 4), none⟩] true)
    .ret)) }

/-- underwood/underwoodref14.Cell -/
def ir48 : FnIR := { np := 2, nv := 4, slots := [0, 1, 2, 4], res := [.v 3], body :=
  (.seq
   (.reg [
     ⟨(.bx 25), [.v 0 false], (.v 2), none⟩,
     ⟨.mv, [.c (.sc (.int .i64 0))], (.v 3), none⟩] false)
   (.seq
    (.reg [
      ⟨(.faB 2 19), [.v 2 false], .t, none⟩,
      ⟨(.ldB 2 1 false false), [.t 0 false, .v 2 false], .t, none⟩,
      ⟨.mv, [.v 1 false], .t, none⟩,
      ⟨(.bin .add false), [.t 1 false, .t 2 false], .t, none⟩,
      ⟨.mv, [.v 1 false], .t, none⟩,
      ⟨(.faB 2 0), [.v 2 false], .t, none⟩,
      ⟨(.fa 5), [.t 5 false], .t, none⟩,
      ⟨(.ldB 2 1 false false), [.t 6 false, .v 2 false], .t, none⟩,
      ⟨(.bin .sub false), [.t 7 false, .c (.sc (.int .i64 1))], .t, none⟩,
      ⟨(.call 23), [.t 4 false, .c (.sc (.int .i64 0)), .t 8 false], .t, none⟩,
      ⟨(.call 56), [.t 3 false, .t 9 false], .t, none⟩,
      ⟨.mv, [.t 10 false], (.v 3), none⟩] true)
    .ret)) }

/-- underwood/underwoodref14.Map -/
def ir49 : FnIR := { np := 3, nv := 5, slots := [0, 1, 2, 3, 6], res := [.v 4], body :=
  (.seq
   (.reg [
     ⟨(.bx 25), [.v 0 false], (.v 3), none⟩,
     ⟨.mv, [.c (.sc (.int .i64 0))], (.v 4), none⟩] false)
   (.seq
    (.reg [
      ⟨(.faB 3 20), [.v 3 false], .t, none⟩,
      ⟨(.ldB 3 1 false false), [.t 0 false, .v 3 false], .t, none⟩,
      ⟨(.faB 3 0), [.v 3 false], .t, none⟩,
      ⟨(.fa 2), [.t 2 false], .t, none⟩,
      ⟨(.ldB 3 1 false false), [.t 3 false, .v 3 false], .t, none⟩,
      ⟨(.bin .add false), [.t 4 false, .c (.sc (.int .i64 2))], .t, none⟩,
      ⟨.mv, [.v 1 false], .t, none⟩,
      ⟨(.bin .mul false), [.t 5 false, .t 6 false], .t, none⟩,
      ⟨(.bin .add false), [.t 1 false, .t 7 false], .t, none⟩,
      ⟨.mv, [.v 2 false], .t, none⟩,
      ⟨(.bin .add false), [.t 8 false, .t 9 false], .t, none⟩,
      ⟨.mv, [.v 1 false], .t, none⟩,
      ⟨(.faB 3 0), [.v 3 false], .t, none⟩,
      ⟨(.fa 6), [.t 12 false], .t, none⟩,
      ⟨(.ldB 3 1 false false), [.t 13 false, .v 3 false], .t, none⟩,
      ⟨(.bin .sub false), [.t 14 false, .c (.sc (.int .i64 1))], .t, none⟩,
      ⟨(.call 23), [.t 11 false, .c (.sc (.int .i64 0)), .t 15 false], .t, none⟩,
      ⟨.mv, [.t 16 false], .t, none⟩,
      ⟨.mv, [.v 2 false], .t, (some (17, true))⟩,
      ⟨(.call 23), [.t 18 false, .c (.sc (.int .i64 0)), .c (.sc (.int .i64 1))], .t, (some (17, true))⟩,
      ⟨.pick, [.t 17 false, .t 19 false, .c (.sc (.bool false))], .t, none⟩,
      ⟨(.call 56), [.t 10 false, .t 20 false], .t, none⟩,
      ⟨.mv, [.t 21 false], (.v 4), none⟩] true)
    .ret)) }

/-- underwood/underwoodref14.Bucket -/
def ir50 : FnIR := { np := 3, nv := 5, slots := [0, 1, 2, 3, 6], res := [.v 4], body :=
  (.seq
   (.reg [
     ⟨(.bx 25), [.v 0 false], (.v 3), none⟩,
     ⟨.mv, [.c (.sc (.int .i64 0))], (.v 4), none⟩] false)
   (.seq
    (.reg [
      ⟨(.faB 3 20), [.v 3 false], .t, none⟩,
      ⟨(.ldB 3 1 false false), [.t 0 false, .v 3 false], .t, none⟩,
      ⟨(.faB 3 0), [.v 3 false], .t, none⟩,
      ⟨(.fa 2), [.t 2 false], .t, none⟩,
      ⟨(.ldB 3 1 false false), [.t 3 false, .v 3 false], .t, none⟩,
      ⟨(.bin .add false), [.t 4 false, .c (.sc (.int .i64 2))], .t, none⟩,
      ⟨.mv, [.v 1 false], .t, none⟩,
      ⟨(.bin .mul false), [.t 5 false, .t 6 false], .t, none⟩,
      ⟨(.bin .add false), [.t 1 false, .t 7 false], .t, none⟩,
      ⟨(.bin .add false), [.t 8 false, .c (.sc (.int .i64 2))], .t, none⟩,
      ⟨.mv, [.v 2 false], .t, none⟩,
      ⟨(.bin .add false), [.t 9 false, .t 10 false], .t, none⟩,
      ⟨.mv, [.v 1 false], .t, none⟩,
      ⟨(.faB 3 0), [.v 3 false], .t, none⟩,
      ⟨(.fa 6), [.t 13 false], .t, none⟩,
      ⟨(.ldB 3 1 false false), [.t 14 false, .v 3 false], .t, none⟩,
      ⟨(.bin .sub false), [.t 15 false, .c (.sc (.int .i64 1))], .t, none⟩,
      ⟨(.call 23), [.t 12 false, .c (.sc (.int .i64 0)), .t 16 false], .t, none⟩,
      ⟨.mv, [.t 17 false], .t, none⟩,
      ⟨.mv, [.v 2 false], .t, (some (18, true))⟩,
      ⟨(.faB 3 0), [.v 3 false], .t, (some (18, true))⟩,
      ⟨(.fa 2), [.t 20 false], .t, (some (18, true))⟩,
      ⟨(.ldB 3 1 false false), [.t 21 false, .v 3 false], .t, (some (18, true))⟩,
      ⟨(.bin .sub false), [.t 22 false, .c (.sc (.int .i64 1))], .t, (some (18, true))⟩,
      ⟨(.call 23), [.t 19 false, .c (.sc (.int .i64 0)), .t 23 false], .t, (some (18, true))⟩,
      ⟨.pick, [.t 18 false, .t 24 false, .c (.sc (.bool false))], .t, none⟩,
      ⟨(.call 56), [.t 11 false, .t 25 false], .t, none⟩,
      ⟨.mv, [.t 26 false], (.v 4), none⟩] true)
    .ret)) }

/-- underwood/underwoodref14.Top -/
def ir51 : FnIR := { np := 2, nv := 4, slots := [0, 1, 2, 4], res := [.v 3], body :=
  (.seq
   (.reg [
     ⟨(.bx 25), [.v 0 false], (.v 2), none⟩,
     ⟨.mv, [.c (.sc (.int .i64 0))], (.v 3), none⟩] false)
   (.seq
    (.reg [
      ⟨(.faB 2 21), [.v 2 false], .t, none⟩,
      ⟨(.ldB 2 1 false false), [.t 0 false, .v 2 false], .t, none⟩,
      ⟨(.faB 2 0), [.v 2 false], .t, none⟩,
      ⟨(.fa 3), [.t 2 false], .t, none⟩,
      ⟨(.ldB 2 1 false false), [.t 3 false, .v 2 false], .t, none⟩,
      ⟨(.bin .add false), [.t 4 false, .c (.sc (.int .i64 1))], .t, none⟩,
      ⟨.mv, [.v 1 false], .t, none⟩,
      ⟨(.bin .mul false), [.t 5 false, .t 6 false], .t, none⟩,
      ⟨(.bin .add false), [.t 1 false, .t 7 false], .t, none⟩,
      ⟨.mv, [.v 1 false], .t, none⟩,
      ⟨(.faB 2 0), [.v 2 false], .t, none⟩,
      ⟨(.fa 7), [.t 10 false], .t, none⟩,
      ⟨(.ldB 2 1 false false), [.t 11 false, .v 2 false], .t, none⟩,
      ⟨(.bin .sub false), [.t 12 false, .c (.sc (.int .i64 1))], .t, none⟩,
      ⟨(.call 23), [.t 9 false, .c (.sc (.int .i64 0)), .t 13 false], .t, none⟩,
      ⟨(.call 56), [.t 8 false, .t 14 false], .t, none⟩,
      ⟨.mv, [.t 15 false], (.v 3), none⟩] true)
    .ret)) }

/-- underwood/underwoodref14.Slot -/
def ir52 : FnIR := { np := 3, nv := 5, slots := [0, 1, 2, 3, 6], res := [.v 4], body :=
  (.seq
   (.reg [
     ⟨(.bx 25), [.v 0 false], (.v 3), none⟩,
     ⟨.mv, [.c (.sc (.int .i64 0))], (.v 4), none⟩] false)
   (.seq
    (.reg [
      ⟨(.faB 3 21), [.v 3 false], .t, none⟩,
      ⟨(.ldB 3 1 false false), [.t 0 false, .v 3 false], .t, none⟩,
      ⟨(.faB 3 0), [.v 3 false], .t, none⟩,
      ⟨(.fa 3), [.t 2 false], .t, none⟩,
      ⟨(.ldB 3 1 false false), [.t 3 false, .v 3 false], .t, none⟩,
      ⟨(.bin .add false), [.t 4 false, .c (.sc (.int .i64 1))], .t, none⟩,
      ⟨.mv, [.v 1 false], .t, none⟩,
      ⟨(.bin .mul false), [.t 5 false, .t 6 false], .t, none⟩,
      ⟨(.bin .add false), [.t 1 false, .t 7 false], .t, none⟩,
      ⟨(.bin .add false), [.t 8 false, .c (.sc (.int .i64 1))], .t, none⟩,
      ⟨.mv, [.v 2 false], .t, none⟩,
      ⟨(.bin .add false), [.t 9 false, .t 10 false], .t, none⟩,
      ⟨.mv, [.v 1 false], .t, none⟩,
      ⟨(.faB 3 0), [.v 3 false], .t, none⟩,
      ⟨(.fa 7), [.t 13 false], .t, none⟩,
      ⟨(.ldB 3 1 false false), [.t 14 false, .v 3 false], .t, none⟩,
      ⟨(.bin .sub false), [.t 15 false, .c (.sc (.int .i64 1))], .t, none⟩,
      ⟨(.call 23), [.t 12 false, .c (.sc (.int .i64 0)), .t 16 false], .t, none⟩,
      ⟨.mv, [.t 17 false], .t, none⟩,
      ⟨.mv, [.v 2 false], .t, (some (18, true))⟩,
      ⟨(.faB 3 0), [.v 3 false], .t, (some (18, true))⟩,
      ⟨(.fa 3), [.t 20 false], .t, (some (18, true))⟩,
      ⟨(.ldB 3 1 false false), [.t 21 false, .v 3 false], .t, (some (18, true))⟩,
      ⟨(.bin .sub false), [.t 22 false, .c (.sc (.int .i64 1))], .t, (some (18, true))⟩,
      ⟨(.call 23), [.t 19 false, .c (.sc (.int .i64 0)), .t 23 false], .t, (some (18, true))⟩,
      ⟨.pick, [.t 18 false, .t 24 false, .c (.sc (.bool false))], .t, none⟩,
      ⟨(.call 56), [.t 11 false, .t 25 false], .t, none⟩,
      ⟨.mv, [.t 26 false], (.v 4), none⟩] true)
    .ret)) }

/-- underwood/underwoodref14.Head -/
def ir53 : FnIR := { np := 2, nv := 4, slots := [0, 1, 2, 4], res := [.v 3], body :=
  (.seq
   (.reg [
     ⟨(.bx 25), [.v 0 false], (.v 2), none⟩,
     ⟨.mv, [.c (.sc (.int .i64 0))], (.v 3), none⟩] false)
   (.seq
    (.reg [
      ⟨(.faB 2 22), [.v 2 false], .t, none⟩,
      ⟨(.ldB 2 1 false false), [.t 0 false, .v 2 false], .t, none⟩,
      ⟨.mv, [.v 1 false], .t, none⟩,
      ⟨(.bin .mul false), [.c (.sc (.int .i64 2)), .t 2 false], .t, none⟩,
      ⟨(.bin .add false), [.t 1 false, .t 3 false], .t, none⟩,
      ⟨.mv, [.v 1 false], .t, none⟩,
      ⟨(.faB 2 0), [.v 2 false], .t, none⟩,
      ⟨(.fa 8), [.t 6 false], .t, none⟩,
      ⟨(.ldB 2 1 false false), [.t 7 false, .v 2 false], .t, none⟩,
      ⟨(.bin .sub false), [.t 8 false, .c (.sc (.int .i64 1))], .t, none⟩,
      ⟨(.call 23), [.t 5 false, .c (.sc (.int .i64 0)), .t 9 false], .t, none⟩,
      ⟨(.call 56), [.t 4 false, .t 10 false], .t, none⟩,
      ⟨.mv, [.t 11 false], (.v 3), none⟩] true)
    .ret)) }

/-- underwood/underwoodref14.Tail -/
def ir54 : FnIR := { np := 2, nv := 4, slots := [0, 1, 2, 4], res := [.v 3], body :=
  (.seq
   (.reg [
     ⟨(.bx 25), [.v 0 false], (.v 2), none⟩,
     ⟨.mv, [.c (.sc (.int .i64 0))], (.v 3), none⟩] false)
   (.seq
    (.reg [
      ⟨(.faB 2 22), [.v 2 false], .t, none⟩,
      ⟨(.ldB 2 1 false false), [.t 0 false, .v 2 false], .t, none⟩,
      ⟨.mv, [.v 1 false], .t, none⟩,
      ⟨(.bin .mul false), [.c (.sc (.int .i64 2)), .t 2 false], .t, none⟩,
      ⟨(.bin .add false), [.t 1 false, .t 3 false], .t, none⟩,
      ⟨(.bin .add false), [.t 4 false, .c (.sc (.int .i64 1))], .t, none⟩,
      ⟨.mv, [.v 1 false], .t, none⟩,
      ⟨(.faB 2 0), [.v 2 false], .t, none⟩,
      ⟨(.fa 8), [.t 7 false], .t, none⟩,
      ⟨(.ldB 2 1 false false), [.t 8 false, .v 2 false], .t, none⟩,
      ⟨(.bin .sub false), [.t 9 false, .c (.sc (.int .i64 1))], .t, none⟩,
      ⟨(.call 23), [.t 6 false, .c (.sc (.int .i64 0)), .t 10 false], .t, none⟩,
      ⟨(.call 56), [.t 5 false, .t 11 false], .t, none⟩,
      ⟨.mv, [.t 12 false], (.v 3), none⟩] true)
    .ret)) }

/-- underwood/underwoodref14.Node -/
def ir55 : FnIR := { np := 3, nv := 5, slots := [0, 1, 2, 3, 6], res := [.v 4], body :=
  (.seq
   (.reg [
     ⟨(.bx 25), [.v 0 false], (.v 3), none⟩,
     ⟨.mv, [.c (.sc (.int .i64 0))], (.v 4), none⟩] false)
   (.seq
    (.reg [
      ⟨(.faB 3 23), [.v 3 false], .t, none⟩,
      ⟨(.ldB 3 1 false false), [.t 0 false, .v 3 false], .t, none⟩,
      ⟨.mv, [.v 1 false], .t, none⟩,
      ⟨(.bin .sub false), [.t 2 false, .c (.sc (.int .i64 1))], .t, none⟩,
      ⟨(.bin .mul false), [.c (.sc (.int .i64 8)), .t 3 false], .t, none⟩,
      ⟨(.bin .add false), [.t 1 false, .t 4 false], .t, none⟩,
      ⟨.mv, [.v 2 false], .t, none⟩,
      ⟨(.bin .add false), [.t 5 false, .t 6 false], .t, none⟩,
      ⟨.mv, [.v 1 false], .t, none⟩,
      ⟨(.faB 3 0), [.v 3 false], .t, none⟩,
      ⟨(.fa 1), [.t 9 false], .t, none⟩,
      ⟨(.ldB 3 1 false false), [.t 10 false, .v 3 false], .t, none⟩,
      ⟨(.call 23), [.t 8 false, .c (.sc (.int .i64 1)), .t 11 false], .t, none⟩,
      ⟨.mv, [.t 12 false], .t, none⟩,
      ⟨.mv, [.v 2 false], .t, (some (13, true))⟩,
      ⟨(.call 23), [.t 14 false, .c (.sc (.int .i64 0)), .c (.sc (.int .i64 7))], .t, (some (13, true))⟩,
      ⟨.pick, [.t 13 false, .t 15 false, .c (.sc (.bool false))], .t, none⟩,
      ⟨(.call 56), [.t 7 false, .t 16 false], .t, none⟩,
      ⟨.mv, [.t 17 false], (.v 4), none⟩] true)
    .ret)) }

/-- underwood/underwoodref14.at -/
def ir56 : FnIR := { np := 2, nv := 4, slots := [0, 1, 4, 5], res := [.v 2], body :=
  (.seq
   (.reg [
     ⟨.mv, [.c (.sc (.int .i64 0))], (.v 2), none⟩] false)
   (.seq
    (.seq
     (.reg [
       ⟨.mv, [.v 1 false], (.v 3), none⟩] false)
     (.cond (.v 3 false)
      (.seq
       (.reg [
         ⟨.mv, [.v 0 false], .t, none⟩,
         ⟨.mv, [.t 0 false], (.v 2), none⟩] false)
       .ret)
      .skip))
    (.seq
     (.reg [
       ⟨.mv, [.c (.sc (.int .i64 (-1)))], (.v 2), none⟩] false)
     .ret))) }

def fns : FuncId → Option FnIR
  | 3 => some ir3
  | 4 => some ir4
  | 5 => some ir5
  | 6 => some ir6
  | 7 => some ir7
  | 8 => some ir8
  | 9 => some ir9
  | 10 => some ir10
  | 11 => some ir11
  | 12 => some ir12
  | 13 => some ir13
  | 14 => some ir14
  | 15 => some ir15
  | 16 => some ir16
  | 17 => some ir17
  | 18 => some ir18
  | 19 => some ir19
  | 20 => some ir20
  | 21 => some ir21
  | 22 => some ir22
  | 23 => some ir23
  | 24 => some ir24
  | 25 => some ir25
  | 26 => some ir26
  | 27 => some ir27
  | 28 => some ir28
  | 29 => some ir29
  | 30 => some ir30
  | 31 => some ir31
  | 32 => some ir32
  | 33 => some ir33
  | 34 => some ir34
  | 35 => some ir35
  | 36 => some ir36
  | 37 => some ir37
  | 38 => some ir38
  | 39 => some ir39
  | 40 => some ir40
  | 41 => some ir41
  | 42 => some ir42
  | 43 => some ir43
  | 44 => some ir44
  | 45 => some ir45
  | 46 => some ir46
  | 47 => some ir47
  | 48 => some ir48
  | 49 => some ir49
  | 50 => some ir50
  | 51 => some ir51
  | 52 => some ir52
  | 53 => some ir53
  | 54 => some ir54
  | 55 => some ir55
  | 56 => some ir56
  | _ => none
end Go.D.Layout
