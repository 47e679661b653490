import Derived.Test.YtfeanpgfjakbbaaNsQ
import Derived.Test.YtfeanpgfjakbbaaProg
import Derived.KernelRfl
set_option maxRecDepth 100000
namespace Go.Proofs
open Go.Ns
/-- A long list of one value over and over. -/
def fill (n : Nat) (x : NV) : List NV := List.replicate n x

/-- matchguard/matchguardlaw11.ExactOrder -/
def t3 : NFn := ⟨129, [(.tmp 4)],
  (.seq
   (.ops [
     ⟨(some 4), .move (.const (.bool false)), none⟩])
   (.seq
    (.draw 0 [
      ⟨0, ⟨(some 19), .move (.tmp 0), none⟩, [], 0⟩,
      ⟨1, ⟨(some 20), .move (.tmp 0), none⟩, [], 0⟩,
      ⟨2, ⟨(some 21), .lenSl (.tmp 20), none⟩, [1], 0⟩,
      ⟨3, ⟨(some 22), .minmax false [(.tmp 21), (.const (.int .i64 20))], none⟩, [2, 1], 0⟩,
      ⟨4, ⟨(some 23), .slice (.tmp 19) none (some (.tmp 22)) none 11, none⟩, [0, 3, 2, 1], 0⟩,
      ⟨5, ⟨(some 24), .move (.tmp 1), none⟩, [], 0⟩,
      ⟨6, ⟨(some 25), .move (.tmp 1), none⟩, [], 0⟩,
      ⟨7, ⟨(some 26), .lenSl (.tmp 25), none⟩, [6], 0⟩,
      ⟨8, ⟨(some 27), .minmax false [(.tmp 26), (.const (.int .i64 20))], none⟩, [7, 6], 0⟩,
      ⟨9, ⟨(some 28), .slice (.tmp 24) none (some (.tmp 27)) none 11, none⟩, [5, 8, 7, 6], 0⟩,
      ⟨10, ⟨(some 0), .move (.tmp 23), none⟩, [4, 0, 3, 2, 1], 0⟩,
      ⟨11, ⟨(some 1), .move (.tmp 28), none⟩, [9, 5, 8, 7, 6, 10, 4, 0, 3, 2, 1], 0⟩])
    (.seq
     (.ops [
       ⟨(some 29), .call 6 [], none⟩,
       ⟨(some 30), .call 6 [], none⟩,
       ⟨(some 5), .move (.tmp 29), none⟩,
       ⟨(some 6), .move (.tmp 30), none⟩])
     (.seq
      (.ops [
        ⟨(some 7), .move (.const (.slice none 0 (.fix 0))), none⟩])
      (.seq
       (.seq
        (.ops [
          ⟨(some 31), .move (.tmp 0), none⟩,
          ⟨(some 32), .lenSl (.tmp 31), none⟩,
          ⟨(some 33), .move (.const (.int .i64 0)), none⟩])
        (.block 0
         (.loop
          (.seq
           (.ops [
             ⟨(some 34), .bin .lss (.tmp 33) (.tmp 32), none⟩])
           (.seq
            (.cond (.tmp 34)
             .skip
             (.exit 0))
            (.seq
             (.block 1
              (.seq
               (.ops [
                 ⟨(some 35), .idxSl (.tmp 31) (.tmp 33) 11, none⟩,
                 ⟨(some 36), .load 11 true (.tmp 35), none⟩,
                 ⟨(some 9), .alloc [(.int .i64 0), (.int .u8 0), (.int .u64 0), (.int .u64 0), (.int .u64 0), (.int .u64 0), (.int .u64 0), (.int .u64 0), (.int .u64 0), (.int .u64 0), (.int .i64 0)], none⟩,
                 ⟨none, .store 11 (.tmp 9) (.tmp 36), none⟩])
               (.seq
                (.draw 0 [
                  ⟨0, ⟨(some 37), .move (.tmp 5), none⟩, [], 0⟩,
                  ⟨1, ⟨(some 38), .load 11 true (.tmp 9), none⟩, [], 0⟩,
                  ⟨2, ⟨(some 39), .call 8 [(.tmp 38)], none⟩, [1], 0⟩,
                  ⟨3, ⟨(some 40), .off (.tmp 9) 10, none⟩, [], 0⟩,
                  ⟨4, ⟨(some 41), .load 1 false (.tmp 40), none⟩, [3], 0⟩,
                  ⟨5, ⟨(some 42), .call 7 [(.tmp 37), (.tmp 39), (.tmp 41)], none⟩, [0, 2, 1, 4, 3], 0⟩])
                (.cond (.tmp 42)
                 (.ops [
                   ⟨(some 43), .move (.tmp 7), none⟩,
                   ⟨(some 44), .load 11 true (.tmp 9), none⟩,
                   ⟨(some 45), .bslice 1 [(.int .i64 0), (.int .u8 0), (.int .u64 0), (.int .u64 0), (.int .u64 0), (.int .u64 0), (.int .u64 0), (.int .u64 0), (.int .u64 0), (.int .u64 0), (.int .i64 0)] [(0, 11, (.tmp 44))], none⟩,
                   ⟨(some 46), .append 11 88 (.tmp 43) (.tmp 45), none⟩,
                   ⟨(some 7), .move (.tmp 46), none⟩])
                 .skip))))
             (.ops [
               ⟨(some 47), .bin .add (.tmp 33) (.const (.int .i64 1)), none⟩,
               ⟨(some 33), .move (.tmp 47), none⟩])))))))
       (.seq
        (.ops [
          ⟨(some 10), .move (.const (.slice none 0 (.fix 0))), none⟩])
        (.seq
         (.seq
          (.ops [
            ⟨(some 48), .move (.tmp 1), none⟩,
            ⟨(some 49), .lenSl (.tmp 48), none⟩,
            ⟨(some 50), .move (.const (.int .i64 0)), none⟩])
          (.block 2
           (.loop
            (.seq
             (.ops [
               ⟨(some 51), .bin .lss (.tmp 50) (.tmp 49), none⟩])
             (.seq
              (.cond (.tmp 51)
               .skip
               (.exit 2))
              (.seq
               (.block 3
                (.seq
                 (.ops [
                   ⟨(some 52), .idxSl (.tmp 48) (.tmp 50) 11, none⟩,
                   ⟨(some 53), .load 11 true (.tmp 52), none⟩,
                   ⟨(some 12), .alloc [(.int .i64 0), (.int .u8 0), (.int .u64 0), (.int .u64 0), (.int .u64 0), (.int .u64 0), (.int .u64 0), (.int .u64 0), (.int .u64 0), (.int .u64 0), (.int .i64 0)], none⟩,
                   ⟨none, .store 11 (.tmp 12) (.tmp 53), none⟩])
                 (.seq
                  (.draw 0 [
                    ⟨0, ⟨(some 54), .move (.tmp 6), none⟩, [], 0⟩,
                    ⟨1, ⟨(some 55), .load 11 true (.tmp 12), none⟩, [], 0⟩,
                    ⟨2, ⟨(some 56), .call 8 [(.tmp 55)], none⟩, [1], 0⟩,
                    ⟨3, ⟨(some 57), .off (.tmp 12) 10, none⟩, [], 0⟩,
                    ⟨4, ⟨(some 58), .load 1 false (.tmp 57), none⟩, [3], 0⟩,
                    ⟨5, ⟨(some 59), .call 7 [(.tmp 54), (.tmp 56), (.tmp 58)], none⟩, [0, 2, 1, 4, 3], 0⟩])
                  (.cond (.tmp 59)
                   (.ops [
                     ⟨(some 60), .move (.tmp 10), none⟩,
                     ⟨(some 61), .load 11 true (.tmp 12), none⟩,
                     ⟨(some 62), .bslice 1 [(.int .i64 0), (.int .u8 0), (.int .u64 0), (.int .u64 0), (.int .u64 0), (.int .u64 0), (.int .u64 0), (.int .u64 0), (.int .u64 0), (.int .u64 0), (.int .i64 0)] [(0, 11, (.tmp 61))], none⟩,
                     ⟨(some 63), .append 11 88 (.tmp 60) (.tmp 62), none⟩,
                     ⟨(some 10), .move (.tmp 63), none⟩])
                   .skip))))
               (.ops [
                 ⟨(some 64), .bin .add (.tmp 50) (.const (.int .i64 1)), none⟩,
                 ⟨(some 50), .move (.tmp 64), none⟩])))))))
         (.seq
          (.seq
           (.ops [
             ⟨(some 65), .move (.tmp 10), none⟩,
             ⟨(some 66), .lenSl (.tmp 65), none⟩,
             ⟨(some 67), .move (.const (.int .i64 0)), none⟩])
           (.block 4
            (.loop
             (.seq
              (.ops [
                ⟨(some 68), .bin .lss (.tmp 67) (.tmp 66), none⟩])
              (.seq
               (.cond (.tmp 68)
                .skip
                (.exit 4))
               (.seq
                (.block 5
                 (.seq
                  (.ops [
                    ⟨(some 69), .idxSl (.tmp 65) (.tmp 67) 11, none⟩,
                    ⟨(some 70), .load 11 true (.tmp 69), none⟩,
                    ⟨(some 14), .alloc [(.int .i64 0), (.int .u8 0), (.int .u64 0), (.int .u64 0), (.int .u64 0), (.int .u64 0), (.int .u64 0), (.int .u64 0), (.int .u64 0), (.int .u64 0), (.int .i64 0)], none⟩,
                    ⟨none, .store 11 (.tmp 14) (.tmp 70), none⟩])
                  (.seq
                   (.ops [
                     ⟨(some 71), .move (.tmp 6), none⟩,
                     ⟨(some 72), .load 11 true (.tmp 14), none⟩,
                     ⟨(some 73), .call 8 [(.tmp 72)], none⟩,
                     ⟨(some 74), .call 9 [(.tmp 71), (.tmp 73)], none⟩,
                     ⟨(some 75), .un .not (.tmp 74), none⟩])
                   (.cond (.tmp 75)
                    (.seq
                     (.ops [
                       ⟨(some 4), .move (.const (.bool false)), none⟩])
                     .ret)
                    .skip))))
                (.ops [
                  ⟨(some 76), .bin .add (.tmp 67) (.const (.int .i64 1)), none⟩,
                  ⟨(some 67), .move (.tmp 76), none⟩])))))))
          (.seq
           (.seq
            (.ops [
              ⟨(some 77), .move (.tmp 7), none⟩,
              ⟨(some 78), .lenSl (.tmp 77), none⟩,
              ⟨(some 79), .bin .sub (.tmp 78) (.const (.int .i64 1)), none⟩,
              ⟨(some 15), .move (.tmp 79), none⟩])
            (.block 6
             (.loop
              (.seq
               (.seq
                (.ops [
                  ⟨(some 80), .move (.tmp 15), none⟩,
                  ⟨(some 81), .bin .geq (.tmp 80) (.const (.int .i64 0)), none⟩])
                (.cond (.tmp 81)
                 .skip
                 (.exit 6)))
               (.seq
                (.block 7
                 (.seq
                  (.draw 0 [
                    ⟨0, ⟨(some 84), .move (.tmp 6), none⟩, [], 0⟩,
                    ⟨1, ⟨(some 85), .move (.tmp 7), none⟩, [], 0⟩,
                    ⟨2, ⟨(some 86), .move (.tmp 15), none⟩, [], 0⟩,
                    ⟨3, ⟨(some 87), .idxSl (.tmp 85) (.tmp 86) 11, none⟩, [1, 2], 0⟩,
                    ⟨4, ⟨(some 88), .load 11 true (.tmp 87), none⟩, [3, 1, 2], 0⟩,
                    ⟨5, ⟨(some 89), .call 8 [(.tmp 88)], none⟩, [4, 3, 1, 2], 0⟩,
                    ⟨6, ⟨(some 90), .move (.tmp 7), none⟩, [], 0⟩,
                    ⟨7, ⟨(some 91), .move (.tmp 15), none⟩, [], 0⟩,
                    ⟨8, ⟨(some 92), .idxSl (.tmp 90) (.tmp 91) 11, none⟩, [6, 7], 0⟩,
                    ⟨9, ⟨(some 93), .off (.tmp 92) 10, none⟩, [8, 6, 7], 0⟩,
                    ⟨10, ⟨(some 94), .load 1 false (.tmp 93), none⟩, [9, 8, 6, 7], 0⟩,
                    ⟨11, ⟨(some 95), .call 7 [(.tmp 84), (.tmp 89), (.tmp 94)], none⟩, [0, 5, 4, 3, 1, 2, 10, 9, 8, 6, 7], 0⟩,
                    ⟨12, ⟨(some 96), .un .not (.tmp 95), none⟩, [11, 0, 5, 4, 3, 1, 2, 10, 9, 8, 6, 7], 0⟩])
                  (.cond (.tmp 96)
                   (.seq
                    (.ops [
                      ⟨(some 4), .move (.const (.bool false)), none⟩])
                    .ret)
                   .skip)))
                (.ops [
                  ⟨(some 82), .move (.tmp 15), none⟩,
                  ⟨(some 83), .bin .sub (.tmp 82) (.const (.int .i64 1)), none⟩,
                  ⟨(some 15), .move (.tmp 83), none⟩]))))))
           (.seq
            (.ops [
              ⟨(some 97), .move (.tmp 5), none⟩,
              ⟨(some 98), .call 10 [(.tmp 97)], none⟩,
              ⟨(some 99), .move (.tmp 6), none⟩,
              ⟨(some 100), .call 10 [(.tmp 99)], none⟩,
              ⟨(some 16), .move (.tmp 98), none⟩,
              ⟨(some 17), .move (.tmp 100), none⟩])
            (.seq
             (.seq
              (.ops [
                ⟨(some 101), .move (.tmp 16), none⟩,
                ⟨(some 102), .lenSl (.tmp 101), none⟩,
                ⟨(some 103), .move (.tmp 17), none⟩,
                ⟨(some 104), .lenSl (.tmp 103), none⟩,
                ⟨(some 105), .bin .neq (.tmp 102) (.tmp 104), none⟩,
                ⟨(some 106), .move (.tmp 105), none⟩,
                ⟨(some 107), .move (.tmp 16), (some (106, false))⟩,
                ⟨(some 108), .lenSl (.tmp 107), (some (106, false))⟩,
                ⟨(some 109), .move (.tmp 7), (some (106, false))⟩,
                ⟨(some 110), .lenSl (.tmp 109), (some (106, false))⟩,
                ⟨(some 111), .bin .neq (.tmp 108) (.tmp 110), (some (106, false))⟩,
                ⟨(some 112), .pick (.tmp 106) (.const (.bool true)) (.tmp 111), none⟩])
              (.cond (.tmp 112)
               (.seq
                (.ops [
                  ⟨(some 4), .move (.const (.bool false)), none⟩])
                .ret)
               .skip))
             (.seq
              (.seq
               (.ops [
                 ⟨(some 113), .move (.tmp 16), none⟩,
                 ⟨(some 114), .lenSl (.tmp 113), none⟩,
                 ⟨(some 115), .move (.const (.int .i64 0)), none⟩])
               (.block 8
                (.loop
                 (.seq
                  (.ops [
                    ⟨(some 116), .bin .lss (.tmp 115) (.tmp 114), none⟩])
                  (.seq
                   (.cond (.tmp 116)
                    .skip
                    (.exit 8))
                   (.seq
                    (.block 9
                     (.seq
                      (.ops [
                        ⟨(some 117), .move (.tmp 115), none⟩,
                        ⟨(some 18), .move (.tmp 117), none⟩])
                      (.seq
                       (.draw 0 [
                         ⟨0, ⟨(some 118), .move (.tmp 16), none⟩, [], 0⟩,
                         ⟨1, ⟨(some 119), .move (.tmp 18), none⟩, [], 0⟩,
                         ⟨2, ⟨(some 120), .idxSl (.tmp 118) (.tmp 119) 9, none⟩, [0, 1], 0⟩,
                         ⟨3, ⟨(some 121), .load 9 true (.tmp 120), none⟩, [2, 0, 1], 0⟩,
                         ⟨4, ⟨(some 122), .move (.tmp 17), none⟩, [], 0⟩,
                         ⟨5, ⟨(some 123), .move (.tmp 18), none⟩, [], 0⟩,
                         ⟨6, ⟨(some 124), .idxSl (.tmp 122) (.tmp 123) 9, none⟩, [4, 5], 0⟩,
                         ⟨7, ⟨(some 125), .load 9 true (.tmp 124), none⟩, [6, 4, 5], 0⟩,
                         ⟨8, ⟨(some 126), .eq true true [.int, .int, .int, .int, .int, .int, .int, .int, .int] (.tmp 121) (.tmp 125), none⟩, [3, 2, 0, 1, 7, 6, 4, 5], 0⟩])
                       (.cond (.tmp 126)
                        (.seq
                         (.ops [
                           ⟨(some 4), .move (.const (.bool false)), none⟩])
                         .ret)
                        .skip))))
                    (.ops [
                      ⟨(some 127), .bin .add (.tmp 115) (.const (.int .i64 1)), none⟩,
                      ⟨(some 115), .move (.tmp 127), none⟩])))))))
              (.seq
               (.ops [
                 ⟨(some 128), .call 11 [], none⟩,
                 ⟨(some 4), .move (.tmp 128), none⟩])
               .ret)))))))))))))⟩
theorem t3_ok : goodFn Try.prog 3 = true ∧ cfn Try.prog 3 = t3 := ⟨by kernel_rfl, by kernel_rfl⟩

/-- matchguard/matchguardlaw11.ExactCalls -/
def t4 : NFn := ⟨93, [(.tmp 2)],
  (.seq
   (.ops [
     ⟨(some 2), .move (.const (.bool false)), none⟩])
   (.seq
    (.ops [
      ⟨(some 12), .call 6 [], none⟩,
      ⟨(some 13), .build [(.slice none 0 (.fix 0))] [], none⟩,
      ⟨(some 14), .box (.tmp 13), none⟩,
      ⟨(some 3), .move (.tmp 12), none⟩,
      ⟨(some 4), .move (.tmp 14), none⟩])
    (.seq
     (.seq
      (.ops [
        ⟨(some 15), .move (.tmp 0), none⟩,
        ⟨(some 16), .move (.tmp 0), none⟩,
        ⟨(some 17), .lenSl (.tmp 16), none⟩,
        ⟨(some 18), .minmax false [(.tmp 17), (.const (.int .i64 60))], none⟩,
        ⟨(some 19), .slice (.tmp 15) none (some (.tmp 18)) none 11, none⟩,
        ⟨(some 20), .lenSl (.tmp 19), none⟩,
        ⟨(some 21), .move (.const (.int .i64 0)), none⟩])
      (.block 0
       (.loop
        (.seq
         (.ops [
           ⟨(some 22), .bin .lss (.tmp 21) (.tmp 20), none⟩])
         (.seq
          (.cond (.tmp 22)
           .skip
           (.exit 0))
          (.seq
           (.block 1
            (.seq
             (.ops [
               ⟨(some 23), .idxSl (.tmp 19) (.tmp 21) 11, none⟩,
               ⟨(some 24), .load 11 true (.tmp 23), none⟩,
               ⟨(some 6), .alloc [(.int .i64 0), (.int .u8 0), (.int .u64 0), (.int .u64 0), (.int .u64 0), (.int .u64 0), (.int .u64 0), (.int .u64 0), (.int .u64 0), (.int .u64 0), (.int .i64 0)], none⟩,
               ⟨none, .store 11 (.tmp 6) (.tmp 24), none⟩])
             (.seq
              (.ops [
                ⟨(some 25), .load 11 true (.tmp 6), none⟩,
                ⟨(some 26), .call 8 [(.tmp 25)], none⟩,
                ⟨(some 7), .alloc [(.int .u64 0), (.int .u64 0), (.int .u64 0), (.int .u64 0), (.int .u64 0), (.int .u64 0), (.int .u64 0), (.int .u64 0)], none⟩,
                ⟨none, .store 8 (.tmp 7) (.tmp 26), none⟩])
              (.seq
               (.seq
                (.ops [
                  ⟨(some 27), .off (.tmp 6) 0, none⟩,
                  ⟨(some 28), .load 1 false (.tmp 27), none⟩,
                  ⟨(some 29), .bin .rem (.tmp 28) (.const (.int .i64 4)), none⟩])
                (.block 2
                 (.seq
                  (.seq
                   (.ops [
                     ⟨(some 51), .bin .eql (.tmp 29) (.const (.int .i64 0)), none⟩,
                     ⟨(some 50), .move (.tmp 51), none⟩])
                   (.cond (.tmp 50)
                    .skip
                    (.ops [
                      ⟨(some 52), .bin .eql (.tmp 29) (.const (.int .i64 1)), none⟩,
                      ⟨(some 50), .move (.tmp 52), none⟩])))
                  (.cond (.tmp 50)
                   (.seq
                    (.draw 0 [
                      ⟨0, ⟨(some 53), .move (.tmp 3), none⟩, [], 0⟩,
                      ⟨1, ⟨(some 54), .load 8 true (.tmp 7), none⟩, [], 0⟩,
                      ⟨2, ⟨(some 55), .off (.tmp 6) 10, none⟩, [], 0⟩,
                      ⟨3, ⟨(some 56), .load 1 false (.tmp 55), none⟩, [2], 0⟩,
                      ⟨4, ⟨(some 57), .call 7 [(.tmp 53), (.tmp 54), (.tmp 56)], none⟩, [0, 1, 3, 2], 0⟩,
                      ⟨5, ⟨(some 58), .move (.tmp 4), none⟩, [], 0⟩,
                      ⟨6, ⟨(some 59), .load 8 true (.tmp 7), none⟩, [], 0⟩,
                      ⟨7, ⟨(some 60), .off (.tmp 6) 10, none⟩, [], 0⟩,
                      ⟨8, ⟨(some 61), .load 1 false (.tmp 60), none⟩, [7], 0⟩,
                      ⟨9, ⟨(some 62), .call 12 [(.tmp 58), (.tmp 59), (.tmp 61)], none⟩, [5, 6, 8, 7, 4, 0, 1, 3, 2], 0⟩,
                      ⟨10, ⟨(some 63), .eq true false [.bool] (.tmp 57) (.tmp 62), none⟩, [4, 0, 1, 3, 2, 9, 5, 6, 8, 7], 0⟩])
                    (.cond (.tmp 63)
                     (.seq
                      (.ops [
                        ⟨(some 2), .move (.const (.bool false)), none⟩])
                      .ret)
                     .skip))
                   (.seq
                    (.ops [
                      ⟨(some 65), .bin .eql (.tmp 29) (.const (.int .i64 2)), none⟩,
                      ⟨(some 64), .move (.tmp 65), none⟩])
                    (.cond (.tmp 64)
                     (.seq
                      (.draw 0 [
                        ⟨0, ⟨(some 66), .move (.tmp 3), none⟩, [], 0⟩,
                        ⟨1, ⟨(some 67), .load 8 true (.tmp 7), none⟩, [], 0⟩,
                        ⟨2, ⟨(some 68), .call 9 [(.tmp 66), (.tmp 67)], none⟩, [0, 1], 0⟩,
                        ⟨3, ⟨(some 69), .move (.tmp 4), none⟩, [], 0⟩,
                        ⟨4, ⟨(some 70), .load 8 true (.tmp 7), none⟩, [], 0⟩,
                        ⟨5, ⟨(some 71), .call 13 [(.tmp 69), (.tmp 70)], none⟩, [3, 4, 2, 0, 1], 0⟩,
                        ⟨6, ⟨(some 72), .eq true false [.bool] (.tmp 68) (.tmp 71), none⟩, [2, 0, 1, 5, 3, 4], 0⟩])
                      (.cond (.tmp 72)
                       (.seq
                        (.ops [
                          ⟨(some 2), .move (.const (.bool false)), none⟩])
                        .ret)
                       .skip))
                     (.seq
                      (.ops [
                        ⟨(some 31), .move (.tmp 3), none⟩,
                        ⟨(some 32), .load 8 true (.tmp 7), none⟩,
                        ⟨(some 33), .call 14 [(.tmp 31), (.tmp 32)], none⟩,
                        ⟨(some 30), .move (.tmp 33), none⟩,
                        ⟨(some 34), .extract (.tmp 30) 0, none⟩,
                        ⟨(some 35), .extract (.tmp 30) 1, none⟩,
                        ⟨(some 8), .move (.tmp 34), none⟩,
                        ⟨(some 9), .move (.tmp 35), none⟩])
                      (.seq
                       (.ops [
                         ⟨(some 37), .move (.tmp 4), none⟩,
                         ⟨(some 38), .load 8 true (.tmp 7), none⟩,
                         ⟨(some 39), .call 15 [(.tmp 37), (.tmp 38)], none⟩,
                         ⟨(some 36), .move (.tmp 39), none⟩,
                         ⟨(some 40), .extract (.tmp 36) 0, none⟩,
                         ⟨(some 41), .extract (.tmp 36) 1, none⟩,
                         ⟨(some 10), .move (.tmp 40), none⟩,
                         ⟨(some 11), .move (.tmp 41), none⟩])
                       (.seq
                        (.ops [
                          ⟨(some 42), .move (.tmp 8), none⟩,
                          ⟨(some 43), .move (.tmp 10), none⟩,
                          ⟨(some 44), .bin .neq (.tmp 42) (.tmp 43), none⟩,
                          ⟨(some 45), .move (.tmp 44), none⟩,
                          ⟨(some 46), .move (.tmp 9), (some (45, false))⟩,
                          ⟨(some 47), .move (.tmp 11), (some (45, false))⟩,
                          ⟨(some 48), .eq true false [.bool] (.tmp 46) (.tmp 47), (some (45, false))⟩,
                          ⟨(some 49), .pick (.tmp 45) (.const (.bool true)) (.tmp 48), none⟩])
                        (.cond (.tmp 49)
                         (.seq
                          (.ops [
                            ⟨(some 2), .move (.const (.bool false)), none⟩])
                          .ret)
                         .skip))))))))))
               (.seq
                (.draw 0 [
                  ⟨0, ⟨(some 73), .move (.tmp 3), none⟩, [], 0⟩,
                  ⟨1, ⟨(some 74), .call 16 [(.tmp 73)], none⟩, [0], 0⟩,
                  ⟨2, ⟨(some 75), .move (.tmp 4), none⟩, [], 0⟩,
                  ⟨3, ⟨(some 76), .nilCheck (.tmp 75), none⟩, [2], 0⟩,
                  ⟨4, ⟨(some 77), .off (.tmp 76) 0, none⟩, [3, 2], 0⟩,
                  ⟨5, ⟨(some 78), .load 1 false (.tmp 77), none⟩, [4, 3, 2], 0⟩,
                  ⟨6, ⟨(some 79), .lenSl (.tmp 78), none⟩, [5, 4, 3, 2], 0⟩,
                  ⟨7, ⟨(some 80), .bin .neq (.tmp 74) (.tmp 79), none⟩, [1, 0, 6, 5, 4, 3, 2], 0⟩,
                  ⟨8, ⟨(some 81), .move (.tmp 80), none⟩, [7, 1, 0, 6, 5, 4, 3, 2], 0⟩,
                  ⟨9, ⟨(some 82), .move (.tmp 3), (some (81, false))⟩, [8, 7, 1, 0, 6, 5, 4, 3, 2], 0⟩,
                  ⟨10, ⟨(some 83), .call 10 [(.tmp 82)], (some (81, false))⟩, [9, 8, 7, 1, 0, 6, 5, 4, 3, 2], 0⟩,
                  ⟨11, ⟨(some 84), .move (.tmp 4), (some (81, false))⟩, [8, 7, 1, 0, 6, 5, 4, 3, 2], 0⟩,
                  ⟨12, ⟨(some 85), .nilCheck (.tmp 84), (some (81, false))⟩, [11, 8, 7, 1, 0, 6, 5, 4, 3, 2], 0⟩,
                  ⟨13, ⟨(some 86), .off (.tmp 85) 0, (some (81, false))⟩, [12, 11, 8, 7, 1, 0, 6, 5, 4, 3, 2], 0⟩,
                  ⟨14, ⟨(some 87), .load 1 false (.tmp 86), (some (81, false))⟩, [13, 12, 11, 8, 7, 1, 0, 6, 5, 4, 3, 2], 0⟩,
                  ⟨15, ⟨(some 88), .call 17 [(.tmp 83), (.tmp 87)], (some (81, false))⟩, [10, 9, 8, 7, 1, 0, 6, 5, 4, 3, 2, 14, 13, 12, 11], 0⟩,
                  ⟨16, ⟨(some 89), .un .not (.tmp 88), (some (81, false))⟩, [15, 10, 9, 8, 7, 1, 0, 6, 5, 4, 3, 2, 14, 13, 12, 11], 0⟩,
                  ⟨17, ⟨(some 90), .pick (.tmp 81) (.const (.bool true)) (.tmp 89), none⟩, [8, 7, 1, 0, 6, 5, 4, 3, 2, 16, 15, 10, 9, 14, 13, 12, 11], 0⟩])
                (.cond (.tmp 90)
                 (.seq
                  (.ops [
                    ⟨(some 2), .move (.const (.bool false)), none⟩])
                  .ret)
                 .skip))))))
           (.ops [
             ⟨(some 91), .bin .add (.tmp 21) (.const (.int .i64 1)), none⟩,
             ⟨(some 21), .move (.tmp 91), none⟩])))))))
     (.seq
      (.ops [
        ⟨(some 92), .call 11 [], none⟩,
        ⟨(some 2), .move (.tmp 92), none⟩])
      .ret))))⟩
theorem t4_ok : goodFn Try.prog 4 = true ∧ cfn Try.prog 4 = t4 := ⟨by kernel_rfl, by kernel_rfl⟩

/-- matchguard/matchguardlaw11.ExactNone -/
def t5 : NFn := ⟨106, [(.tmp 4)],
  (.seq
   (.ops [
     ⟨(some 2), .box (.tmp 0), none⟩,
     ⟨(some 4), .move (.const (.bool false)), none⟩])
   (.seq
    (.ops [
      ⟨(some 5), .move (.const (.ptr none)), none⟩])
    (.seq
     (.ops [
       ⟨(some 16), .move (.tmp 5), none⟩,
       ⟨(some 17), .off (.tmp 2) 2, none⟩,
       ⟨(some 18), .load 8 true (.tmp 17), none⟩,
       ⟨(some 19), .call 14 [(.tmp 16), (.tmp 18)], none⟩,
       ⟨(some 15), .move (.tmp 19), none⟩,
       ⟨(some 20), .extract (.tmp 15) 0, none⟩,
       ⟨(some 21), .extract (.tmp 15) 1, none⟩,
       ⟨(some 6), .move (.tmp 20), none⟩,
       ⟨(some 7), .move (.tmp 21), none⟩])
     (.seq
      (.seq
       (.ops [
         ⟨(some 22), .move (.tmp 7), none⟩,
         ⟨(some 23), .move (.tmp 22), none⟩,
         ⟨(some 24), .move (.tmp 5), (some (23, false))⟩,
         ⟨(some 25), .off (.tmp 2) 2, (some (23, false))⟩,
         ⟨(some 26), .load 8 true (.tmp 25), (some (23, false))⟩,
         ⟨(some 27), .call 7 [(.tmp 24), (.tmp 26), (.const (.int .i64 1))], (some (23, false))⟩,
         ⟨(some 28), .pick (.tmp 23) (.const (.bool true)) (.tmp 27), none⟩,
         ⟨(some 29), .move (.tmp 28), none⟩,
         ⟨(some 30), .move (.tmp 5), (some (29, false))⟩,
         ⟨(some 31), .off (.tmp 2) 2, (some (29, false))⟩,
         ⟨(some 32), .load 8 true (.tmp 31), (some (29, false))⟩,
         ⟨(some 33), .call 9 [(.tmp 30), (.tmp 32)], (some (29, false))⟩,
         ⟨(some 34), .pick (.tmp 29) (.const (.bool true)) (.tmp 33), none⟩,
         ⟨(some 35), .move (.tmp 34), none⟩,
         ⟨(some 36), .move (.tmp 5), (some (35, false))⟩,
         ⟨(some 37), .call 16 [(.tmp 36)], (some (35, false))⟩,
         ⟨(some 38), .bin .neq (.tmp 37) (.const (.int .i64 0)), (some (35, false))⟩,
         ⟨(some 39), .pick (.tmp 35) (.const (.bool true)) (.tmp 38), none⟩,
         ⟨(some 40), .move (.tmp 39), none⟩,
         ⟨(some 41), .move (.tmp 5), (some (40, false))⟩,
         ⟨(some 42), .call 10 [(.tmp 41)], (some (40, false))⟩,
         ⟨(some 43), .lenSl (.tmp 42), (some (40, false))⟩,
         ⟨(some 44), .bin .neq (.tmp 43) (.const (.int .i64 0)), (some (40, false))⟩,
         ⟨(some 45), .pick (.tmp 40) (.const (.bool true)) (.tmp 44), none⟩])
       (.cond (.tmp 45)
        (.seq
         (.ops [
           ⟨(some 4), .move (.const (.bool false)), none⟩])
         .ret)
        .skip))
      (.seq
       (.ops [
         ⟨(some 46), .call 6 [], none⟩,
         ⟨(some 8), .move (.tmp 46), none⟩])
       (.seq
        (.seq
         (.ops [
           ⟨(some 47), .move (.tmp 1), none⟩,
           ⟨(some 48), .move (.tmp 1), none⟩,
           ⟨(some 49), .lenSl (.tmp 48), none⟩,
           ⟨(some 50), .minmax false [(.tmp 49), (.const (.int .i64 10))], none⟩,
           ⟨(some 51), .slice (.tmp 47) none (some (.tmp 50)) none 11, none⟩,
           ⟨(some 52), .lenSl (.tmp 51), none⟩,
           ⟨(some 53), .move (.const (.int .i64 0)), none⟩])
         (.block 0
          (.loop
           (.seq
            (.ops [
              ⟨(some 54), .bin .lss (.tmp 53) (.tmp 52), none⟩])
            (.seq
             (.cond (.tmp 54)
              .skip
              (.exit 0))
             (.seq
              (.block 1
               (.seq
                (.ops [
                  ⟨(some 55), .idxSl (.tmp 51) (.tmp 53) 11, none⟩,
                  ⟨(some 56), .load 11 true (.tmp 55), none⟩,
                  ⟨(some 10), .alloc [(.int .i64 0), (.int .u8 0), (.int .u64 0), (.int .u64 0), (.int .u64 0), (.int .u64 0), (.int .u64 0), (.int .u64 0), (.int .u64 0), (.int .u64 0), (.int .i64 0)], none⟩,
                  ⟨none, .store 11 (.tmp 10) (.tmp 56), none⟩])
                (.draw 0 [
                  ⟨0, ⟨(some 57), .move (.tmp 8), none⟩, [], 0⟩,
                  ⟨1, ⟨(some 58), .load 11 true (.tmp 10), none⟩, [], 0⟩,
                  ⟨2, ⟨(some 59), .call 8 [(.tmp 58)], none⟩, [1], 0⟩,
                  ⟨3, ⟨(some 60), .off (.tmp 10) 10, none⟩, [], 0⟩,
                  ⟨4, ⟨(some 61), .load 1 false (.tmp 60), none⟩, [3], 0⟩,
                  ⟨5, ⟨(some 62), .call 7 [(.tmp 57), (.tmp 59), (.tmp 61)], none⟩, [0, 2, 1, 4, 3], 0⟩])))
              (.ops [
                ⟨(some 63), .bin .add (.tmp 53) (.const (.int .i64 1)), none⟩,
                ⟨(some 53), .move (.tmp 63), none⟩])))))))
        (.seq
         (.ops [
           ⟨(some 64), .move (.tmp 8), none⟩,
           ⟨(some 65), .call 10 [(.tmp 64)], none⟩,
           ⟨(some 11), .move (.tmp 65), none⟩])
         (.seq
          (.seq
           (.ops [
             ⟨(some 66), .move (.tmp 11), none⟩,
             ⟨(some 67), .lenSl (.tmp 66), none⟩,
             ⟨(some 68), .move (.const (.int .i64 0)), none⟩])
           (.block 2
            (.loop
             (.seq
              (.ops [
                ⟨(some 69), .bin .lss (.tmp 68) (.tmp 67), none⟩])
              (.seq
               (.cond (.tmp 69)
                .skip
                (.exit 2))
               (.seq
                (.block 3
                 (.seq
                  (.ops [
                    ⟨(some 70), .move (.tmp 68), none⟩,
                    ⟨(some 12), .move (.tmp 70), none⟩])
                  (.ops [
                    ⟨(some 71), .move (.tmp 11), none⟩,
                    ⟨(some 72), .move (.tmp 12), none⟩,
                    ⟨(some 73), .idxSl (.tmp 71) (.tmp 72) 9, none⟩,
                    ⟨(some 74), .off (.tmp 73) 8, none⟩,
                    ⟨(some 75), .load 1 false (.tmp 74), none⟩,
                    ⟨(some 76), .bin .add (.tmp 75) (.const (.int .i64 1)), none⟩,
                    ⟨(some 77), .idxSl (.tmp 71) (.tmp 72) 9, none⟩,
                    ⟨(some 78), .off (.tmp 77) 8, none⟩,
                    ⟨none, .store 1 (.tmp 78) (.tmp 76), none⟩])))
                (.ops [
                  ⟨(some 79), .bin .add (.tmp 68) (.const (.int .i64 1)), none⟩,
                  ⟨(some 68), .move (.tmp 79), none⟩])))))))
          (.seq
           (.ops [
             ⟨(some 80), .move (.tmp 8), none⟩,
             ⟨(some 81), .call 10 [(.tmp 80)], none⟩,
             ⟨(some 13), .move (.tmp 81), none⟩])
           (.seq
            (.seq
             (.ops [
               ⟨(some 82), .move (.tmp 11), none⟩,
               ⟨(some 83), .lenSl (.tmp 82), none⟩,
               ⟨(some 84), .move (.tmp 13), none⟩,
               ⟨(some 85), .lenSl (.tmp 84), none⟩,
               ⟨(some 86), .bin .neq (.tmp 83) (.tmp 85), none⟩])
             (.cond (.tmp 86)
              (.seq
               (.ops [
                 ⟨(some 4), .move (.const (.bool false)), none⟩])
               .ret)
              .skip))
            (.seq
             (.seq
              (.ops [
                ⟨(some 87), .move (.tmp 11), none⟩,
                ⟨(some 88), .lenSl (.tmp 87), none⟩,
                ⟨(some 89), .move (.const (.int .i64 0)), none⟩])
              (.block 4
               (.loop
                (.seq
                 (.ops [
                   ⟨(some 90), .bin .lss (.tmp 89) (.tmp 88), none⟩])
                 (.seq
                  (.cond (.tmp 90)
                   .skip
                   (.exit 4))
                  (.seq
                   (.block 5
                    (.seq
                     (.ops [
                       ⟨(some 91), .move (.tmp 89), none⟩,
                       ⟨(some 14), .move (.tmp 91), none⟩])
                     (.seq
                      (.draw 0 [
                        ⟨0, ⟨(some 92), .move (.tmp 11), none⟩, [], 0⟩,
                        ⟨1, ⟨(some 93), .move (.tmp 14), none⟩, [], 0⟩,
                        ⟨2, ⟨(some 94), .idxSl (.tmp 92) (.tmp 93) 9, none⟩, [0, 1], 0⟩,
                        ⟨3, ⟨(some 95), .off (.tmp 94) 8, none⟩, [2, 0, 1], 0⟩,
                        ⟨4, ⟨(some 96), .load 1 false (.tmp 95), none⟩, [3, 2, 0, 1], 0⟩,
                        ⟨5, ⟨(some 97), .move (.tmp 13), none⟩, [], 0⟩,
                        ⟨6, ⟨(some 98), .move (.tmp 14), none⟩, [], 0⟩,
                        ⟨7, ⟨(some 99), .idxSl (.tmp 97) (.tmp 98) 9, none⟩, [5, 6], 0⟩,
                        ⟨8, ⟨(some 100), .off (.tmp 99) 8, none⟩, [7, 5, 6], 0⟩,
                        ⟨9, ⟨(some 101), .load 1 false (.tmp 100), none⟩, [8, 7, 5, 6], 0⟩,
                        ⟨10, ⟨(some 102), .bin .add (.tmp 101) (.const (.int .i64 1)), none⟩, [9, 8, 7, 5, 6], 0⟩,
                        ⟨11, ⟨(some 103), .bin .neq (.tmp 96) (.tmp 102), none⟩, [4, 3, 2, 0, 1, 10, 9, 8, 7, 5, 6], 0⟩])
                      (.cond (.tmp 103)
                       (.seq
                        (.ops [
                          ⟨(some 4), .move (.const (.bool false)), none⟩])
                        .ret)
                       .skip))))
                   (.ops [
                     ⟨(some 104), .bin .add (.tmp 89) (.const (.int .i64 1)), none⟩,
                     ⟨(some 89), .move (.tmp 104), none⟩])))))))
             (.seq
              (.ops [
                ⟨(some 105), .call 11 [], none⟩,
                ⟨(some 4), .move (.tmp 105), none⟩])
              .ret))))))))))))⟩
theorem t5_ok : goodFn Try.prog 5 = true ∧ cfn Try.prog 5 = t5 := ⟨by kernel_rfl, by kernel_rfl⟩

/-- matchguard/exact.New -/
def t6 : NFn := ⟨4, [(.tmp 0)],
  (.seq
   (.ops [
     ⟨(some 0), .move (.const (.ptr none)), none⟩])
   (.seq
    (.ops [
      ⟨(some 1), .mkmap, none⟩,
      ⟨(some 2), .build [(.map none)] [(0, 1, (.tmp 1))], none⟩,
      ⟨(some 3), .box (.tmp 2), none⟩,
      ⟨(some 0), .move (.tmp 3), none⟩])
    .ret))⟩
theorem t6_ok : goodFn Try.prog 6 = true ∧ cfn Try.prog 6 = t6 := ⟨by kernel_rfl, by kernel_rfl⟩

/-- (*matchguard/exact.Index).Put -/
def t7 : NFn := ⟨27, [(.tmp 6)],
  (.seq
   (.ops [
     ⟨(some 4), .box (.tmp 1), none⟩,
     ⟨(some 6), .move (.const (.bool false)), none⟩])
   (.seq
    (.seq
     (.ops [
       ⟨(some 9), .move (.tmp 0), none⟩,
       ⟨(some 10), .eq false false [.ptr] (.tmp 9) (.const (.ptr none)), none⟩])
     (.cond (.tmp 10)
      (.seq
       (.ops [
         ⟨(some 6), .move (.const (.bool false)), none⟩])
       .ret)
      .skip))
    (.seq
     (.seq
      (.draw 0 [
        ⟨0, ⟨(some 12), .move (.tmp 0), none⟩, [], 0⟩,
        ⟨1, ⟨(some 13), .nilCheck (.tmp 12), none⟩, [0], 0⟩,
        ⟨2, ⟨(some 14), .off (.tmp 13) 0, none⟩, [1, 0], 0⟩,
        ⟨3, ⟨(some 15), .load 1 false (.tmp 14), none⟩, [2, 1, 0], 0⟩,
        ⟨4, ⟨(some 16), .load 8 true (.tmp 4), none⟩, [], 0⟩,
        ⟨5, ⟨(some 17), .lookup true [.int, .int, .int, .int, .int, .int, .int, .int] (.int .i64 0) true (.tmp 15) (.tmp 16), none⟩, [3, 2, 1, 0, 4], 0⟩,
        ⟨6, ⟨(some 11), .move (.tmp 17), none⟩, [5, 3, 2, 1, 0, 4], 0⟩,
        ⟨7, ⟨(some 18), .extract (.tmp 11) 0, none⟩, [6, 5, 3, 2, 1, 0, 4], 0⟩,
        ⟨8, ⟨(some 19), .extract (.tmp 11) 1, none⟩, [6, 5, 3, 2, 1, 0, 4], 0⟩,
        ⟨9, ⟨(some 7), .move (.tmp 18), none⟩, [7, 6, 5, 3, 2, 1, 0, 4], 0⟩,
        ⟨10, ⟨(some 8), .move (.tmp 19), none⟩, [8, 6, 5, 3, 2, 1, 0, 4, 9, 7], 0⟩])
      (.seq
       (.ops [
         ⟨(some 20), .move (.tmp 8), none⟩])
       (.cond (.tmp 20)
        (.seq
         (.ops [
           ⟨(some 6), .move (.const (.bool false)), none⟩])
         .ret)
        .skip)))
     (.seq
      (.draw 0 [
        ⟨0, ⟨(some 21), .move (.tmp 0), none⟩, [], 0⟩,
        ⟨1, ⟨(some 22), .nilCheck (.tmp 21), none⟩, [0], 0⟩,
        ⟨2, ⟨(some 23), .off (.tmp 22) 0, none⟩, [1, 0], 0⟩,
        ⟨3, ⟨(some 24), .load 1 false (.tmp 23), none⟩, [2, 1, 0], 0⟩,
        ⟨4, ⟨(some 25), .load 8 true (.tmp 4), none⟩, [], 0⟩,
        ⟨5, ⟨(some 26), .move (.tmp 2), none⟩, [], 0⟩,
        ⟨6, ⟨none, .update true [.int, .int, .int, .int, .int, .int, .int, .int] (.tmp 24) (.tmp 25) (.tmp 26), none⟩, [3, 2, 1, 0, 4, 5], 0⟩])
      (.seq
       (.ops [
         ⟨(some 6), .move (.const (.bool true)), none⟩])
       .ret)))))⟩
theorem t7_ok : goodFn Try.prog 7 = true ∧ cfn Try.prog 7 = t7 := ⟨by kernel_rfl, by kernel_rfl⟩

/-- (matchguard/matchguardlaw11.Op).point -/
def t8 : NFn := ⟨28, [(.cell 2 8 true)],
  (.seq
   (.ops [
     ⟨(some 1), .box (.tmp 0), none⟩,
     ⟨(some 2), .alloc [(.int .u64 0), (.int .u64 0), (.int .u64 0), (.int .u64 0), (.int .u64 0), (.int .u64 0), (.int .u64 0), (.int .u64 0)], none⟩])
   (.seq
    (.seq
     (.ops [
       ⟨(some 3), .off (.tmp 1) 1, none⟩,
       ⟨(some 4), .load 1 false (.tmp 3), none⟩,
       ⟨(some 5), .bin .rem (.tmp 4) (.const (.int .u8 4)), none⟩,
       ⟨(some 6), .bin .gtr (.tmp 5) (.const (.int .u8 0)), none⟩])
     (.cond (.tmp 6)
      (.seq
       (.ops [
         ⟨(some 7), .off (.tmp 1) 1, none⟩,
         ⟨(some 8), .load 1 false (.tmp 7), none⟩,
         ⟨(some 9), .bin .quo (.tmp 8) (.const (.int .u8 4)), none⟩,
         ⟨(some 10), .bin .rem (.tmp 9) (.const (.int .u8 3)), none⟩,
         ⟨(some 11), .conv .u64 (.tmp 10), none⟩,
         ⟨(some 12), .build [(.int .u64 0), (.int .u64 0)] [(1, 1, (.tmp 11))], none⟩,
         ⟨(some 13), .off (.tmp 1) 1, none⟩,
         ⟨(some 14), .load 1 false (.tmp 13), none⟩,
         ⟨(some 15), .bin .quo (.tmp 14) (.const (.int .u8 16)), none⟩,
         ⟨(some 16), .bin .rem (.tmp 15) (.const (.int .u8 2)), none⟩,
         ⟨(some 17), .conv .u64 (.tmp 16), none⟩,
         ⟨(some 18), .build [(.int .u64 0), (.int .u64 0)] [(0, 1, (.tmp 17))], none⟩,
         ⟨(some 19), .build [(.int .u64 0), (.int .u64 0)] [], none⟩,
         ⟨(some 20), .off (.tmp 1) 1, none⟩,
         ⟨(some 21), .load 1 false (.tmp 20), none⟩,
         ⟨(some 22), .bin .quo (.tmp 21) (.const (.int .u8 64)), none⟩,
         ⟨(some 23), .conv .u64 (.tmp 22), none⟩,
         ⟨(some 24), .build [(.int .u64 0), (.int .u64 0)] [(1, 1, (.tmp 23))], none⟩,
         ⟨(some 25), .build [(.int .u64 0), (.int .u64 0), (.int .u64 0), (.int .u64 0), (.int .u64 0), (.int .u64 0), (.int .u64 0), (.int .u64 0)] [(0, 2, (.tmp 12)), (2, 2, (.tmp 18)), (4, 2, (.tmp 19)), (6, 2, (.tmp 24))], none⟩,
         ⟨none, .store 8 (.tmp 2) (.tmp 25), none⟩])
       .ret)
      .skip))
    (.seq
     (.ops [
       ⟨(some 26), .off (.tmp 1) 2, none⟩,
       ⟨(some 27), .load 8 true (.tmp 26), none⟩,
       ⟨none, .store 8 (.tmp 2) (.tmp 27), none⟩])
     .ret)))⟩
theorem t8_ok : goodFn Try.prog 8 = true ∧ cfn Try.prog 8 = t8 := ⟨by kernel_rfl, by kernel_rfl⟩

/-- (*matchguard/exact.Index).Remove -/
def t9 : NFn := ⟨20, [(.tmp 4)],
  (.seq
   (.ops [
     ⟨(some 3), .box (.tmp 1), none⟩,
     ⟨(some 4), .move (.const (.bool false)), none⟩])
   (.seq
    (.seq
     (.ops [
       ⟨(some 8), .move (.tmp 0), none⟩,
       ⟨(some 9), .load 8 true (.tmp 3), none⟩,
       ⟨(some 10), .call 14 [(.tmp 8), (.tmp 9)], none⟩,
       ⟨(some 7), .move (.tmp 10), none⟩,
       ⟨(some 11), .extract (.tmp 7) 0, none⟩,
       ⟨(some 12), .extract (.tmp 7) 1, none⟩,
       ⟨(some 5), .move (.tmp 11), none⟩,
       ⟨(some 6), .move (.tmp 12), none⟩])
     (.seq
      (.ops [
        ⟨(some 13), .move (.tmp 6), none⟩,
        ⟨(some 14), .un .not (.tmp 13), none⟩])
      (.cond (.tmp 14)
       (.seq
        (.ops [
          ⟨(some 4), .move (.const (.bool false)), none⟩])
        .ret)
       .skip)))
    (.seq
     (.draw 0 [
       ⟨0, ⟨(some 15), .move (.tmp 0), none⟩, [], 0⟩,
       ⟨1, ⟨(some 16), .nilCheck (.tmp 15), none⟩, [0], 0⟩,
       ⟨2, ⟨(some 17), .off (.tmp 16) 0, none⟩, [1, 0], 0⟩,
       ⟨3, ⟨(some 18), .load 1 false (.tmp 17), none⟩, [2, 1, 0], 0⟩,
       ⟨4, ⟨(some 19), .load 8 true (.tmp 3), none⟩, [], 0⟩,
       ⟨5, ⟨none, .delete true [.int, .int, .int, .int, .int, .int, .int, .int] (.tmp 18) (.tmp 19), none⟩, [3, 2, 1, 0, 4], 0⟩])
     (.seq
      (.ops [
        ⟨(some 4), .move (.const (.bool true)), none⟩])
      .ret))))⟩
theorem t9_ok : goodFn Try.prog 9 = true ∧ cfn Try.prog 9 = t9 := ⟨by kernel_rfl, by kernel_rfl⟩

/-- (*matchguard/exact.Index).All -/
def t10 : NFn := ⟨27, [(.tmp 2)],
  (.seq
   (.ops [
     ⟨(some 2), .move (.const (.slice none 0 (.fix 0))), none⟩])
   (.seq
    (.seq
     (.ops [
       ⟨(some 6), .move (.tmp 0), none⟩,
       ⟨(some 7), .eq false false [.ptr] (.tmp 6) (.const (.ptr none)), none⟩])
     (.cond (.tmp 7)
      (.seq
       (.ops [
         ⟨(some 2), .move (.const (.slice none 0 (.fix 0))), none⟩])
       .ret)
      .skip))
    (.seq
     (.ops [
       ⟨(some 3), .move (.const (.slice none 0 (.fix 0))), none⟩])
     (.seq
      (.seq
       (.ops [
         ⟨(some 8), .move (.tmp 0), none⟩,
         ⟨(some 9), .nilCheck (.tmp 8), none⟩,
         ⟨(some 10), .off (.tmp 9) 0, none⟩,
         ⟨(some 11), .load 1 false (.tmp 10), none⟩,
         ⟨(some 12), .range (.tmp 11), none⟩])
       (.block 0
        (.loop
         (.seq
          (.ops [
            ⟨(some 13), .next (.tmp 12), none⟩,
            ⟨(some 14), .extract (.tmp 13) 0, none⟩])
          (.seq
           (.cond (.tmp 14)
            .skip
            (.exit 0))
           (.block 1
            (.seq
             (.ops [
               ⟨(some 15), .entry (.tmp 12), none⟩,
               ⟨(some 16), .extract (.tmp 15) 0, none⟩,
               ⟨(some 17), .extract (.tmp 15) 1, none⟩,
               ⟨(some 4), .alloc [(.int .u64 0), (.int .u64 0), (.int .u64 0), (.int .u64 0), (.int .u64 0), (.int .u64 0), (.int .u64 0), (.int .u64 0)], none⟩,
               ⟨none, .store 8 (.tmp 4) (.tmp 16), none⟩,
               ⟨(some 5), .move (.tmp 17), none⟩])
             (.ops [
               ⟨(some 18), .move (.tmp 3), none⟩,
               ⟨(some 19), .load 8 true (.tmp 4), none⟩,
               ⟨(some 20), .move (.tmp 5), none⟩,
               ⟨(some 21), .build [(.int .u64 0), (.int .u64 0), (.int .u64 0), (.int .u64 0), (.int .u64 0), (.int .u64 0), (.int .u64 0), (.int .u64 0), (.int .i64 0)] [(0, 8, (.tmp 19)), (8, 1, (.tmp 20))], none⟩,
               ⟨(some 22), .bslice 1 [(.int .u64 0), (.int .u64 0), (.int .u64 0), (.int .u64 0), (.int .u64 0), (.int .u64 0), (.int .u64 0), (.int .u64 0), (.int .i64 0)] [(0, 9, (.tmp 21))], none⟩,
               ⟨(some 23), .append 9 72 (.tmp 18) (.tmp 22), none⟩,
               ⟨(some 3), .move (.tmp 23), none⟩]))))))))
      (.seq
       (.ops [
         ⟨(some 24), .move (.tmp 3), none⟩,
         ⟨(some 25), .call 18 [(.tmp 24), (.const (.func (.func 19) [] []))], none⟩])
       (.seq
        (.ops [
          ⟨(some 26), .move (.tmp 3), none⟩,
          ⟨(some 2), .move (.tmp 26), none⟩])
        .ret))))))⟩
theorem t10_ok : goodFn Try.prog 10 = true ∧ cfn Try.prog 10 = t10 := ⟨by kernel_rfl, by kernel_rfl⟩

/-- matchguard/matchguardlaw11.begun -/
def t11 : NFn := ⟨31, [(.tmp 0)],
  (.seq
   (.ops [
     ⟨(some 0), .move (.const (.bool false)), none⟩])
   (.seq
    (.ops [
      ⟨(some 6), .call 6 [], none⟩,
      ⟨(some 1), .move (.tmp 6), none⟩])
    (.seq
     (.ops [
       ⟨(some 7), .move (.tmp 1), none⟩,
       ⟨(some 8), .build [(.int .u64 0), (.int .u64 0), (.int .u64 0), (.int .u64 0), (.int .u64 0), (.int .u64 0), (.int .u64 0), (.int .u64 0)] [], none⟩,
       ⟨(some 9), .call 7 [(.tmp 7), (.tmp 8), (.const (.int .i64 5))], none⟩,
       ⟨(some 10), .move (.tmp 1), none⟩,
       ⟨(some 11), .build [(.int .u64 0), (.int .u64 0), (.int .u64 0), (.int .u64 0), (.int .u64 0), (.int .u64 0), (.int .u64 0), (.int .u64 0)] [], none⟩,
       ⟨(some 12), .call 7 [(.tmp 10), (.tmp 11), (.const (.int .i64 6))], none⟩,
       ⟨(some 2), .move (.tmp 9), none⟩,
       ⟨(some 3), .move (.tmp 12), none⟩])
     (.seq
      (.ops [
        ⟨(some 14), .move (.tmp 1), none⟩,
        ⟨(some 15), .build [(.int .u64 0), (.int .u64 0), (.int .u64 0), (.int .u64 0), (.int .u64 0), (.int .u64 0), (.int .u64 0), (.int .u64 0)] [], none⟩,
        ⟨(some 16), .call 14 [(.tmp 14), (.tmp 15)], none⟩,
        ⟨(some 13), .move (.tmp 16), none⟩,
        ⟨(some 17), .extract (.tmp 13) 0, none⟩,
        ⟨(some 18), .extract (.tmp 13) 1, none⟩,
        ⟨(some 4), .move (.tmp 17), none⟩,
        ⟨(some 5), .move (.tmp 18), none⟩])
      (.seq
       (.ops [
         ⟨(some 19), .move (.tmp 2), none⟩,
         ⟨(some 20), .move (.tmp 19), none⟩,
         ⟨(some 21), .move (.tmp 3), (some (20, true))⟩,
         ⟨(some 22), .un .not (.tmp 21), (some (20, true))⟩,
         ⟨(some 23), .pick (.tmp 20) (.tmp 22) (.const (.bool false)), none⟩,
         ⟨(some 24), .move (.tmp 23), none⟩,
         ⟨(some 25), .move (.tmp 4), (some (24, true))⟩,
         ⟨(some 26), .bin .eql (.tmp 25) (.const (.int .i64 5)), (some (24, true))⟩,
         ⟨(some 27), .pick (.tmp 24) (.tmp 26) (.const (.bool false)), none⟩,
         ⟨(some 28), .move (.tmp 27), none⟩,
         ⟨(some 29), .move (.tmp 5), (some (28, true))⟩,
         ⟨(some 30), .pick (.tmp 28) (.tmp 29) (.const (.bool false)), none⟩,
         ⟨(some 0), .move (.tmp 30), none⟩])
       .ret)))))⟩
theorem t11_ok : goodFn Try.prog 11 = true ∧ cfn Try.prog 11 = t11 := ⟨by kernel_rfl, by kernel_rfl⟩

/-- (*matchguard/matchguardref11.Index).Put -/
def t12 : NFn := ⟨39, [(.tmp 6)],
  (.seq
   (.ops [
     ⟨(some 4), .box (.tmp 1), none⟩,
     ⟨(some 6), .move (.const (.bool false)), none⟩])
   (.seq
    (.ops [
      ⟨(some 10), .move (.tmp 0), none⟩,
      ⟨(some 11), .load 8 true (.tmp 4), none⟩,
      ⟨(some 12), .call 22 [(.tmp 10), (.tmp 11)], none⟩,
      ⟨(some 9), .move (.tmp 12), none⟩,
      ⟨(some 13), .extract (.tmp 9) 0, none⟩,
      ⟨(some 14), .extract (.tmp 9) 1, none⟩,
      ⟨(some 7), .move (.tmp 13), none⟩,
      ⟨(some 8), .move (.tmp 14), none⟩])
    (.seq
     (.seq
      (.ops [
        ⟨(some 15), .move (.tmp 8), none⟩])
      (.cond (.tmp 15)
       (.seq
        (.ops [
          ⟨(some 6), .move (.const (.bool false)), none⟩])
        .ret)
       .skip))
     (.seq
      (.draw 2 [
        ⟨0, ⟨(some 16), .move (.tmp 0), none⟩, [], 0⟩,
        ⟨1, ⟨(some 17), .bslice 0 [] [], none⟩, [], 0⟩,
        ⟨2, ⟨(some 18), .move (.tmp 0), none⟩, [], 1⟩,
        ⟨3, ⟨(some 19), .nilCheck (.tmp 18), none⟩, [2], 1⟩,
        ⟨4, ⟨(some 20), .off (.tmp 19) 0, none⟩, [3, 2], 1⟩,
        ⟨5, ⟨(some 21), .load 1 false (.tmp 20), none⟩, [4, 3, 2], 1⟩,
        ⟨6, ⟨(some 22), .move (.tmp 7), none⟩, [], 1⟩,
        ⟨7, ⟨(some 23), .slice (.tmp 21) none (some (.tmp 22)) none 9, none⟩, [5, 4, 3, 2, 6], 1⟩,
        ⟨8, ⟨(some 24), .append 9 72 (.tmp 17) (.tmp 23), none⟩, [1, 7, 5, 4, 3, 2, 6], 1⟩,
        ⟨9, ⟨(some 25), .load 8 true (.tmp 4), none⟩, [], 1⟩,
        ⟨10, ⟨(some 26), .move (.tmp 2), none⟩, [], 1⟩,
        ⟨11, ⟨(some 27), .build [(.int .u64 0), (.int .u64 0), (.int .u64 0), (.int .u64 0), (.int .u64 0), (.int .u64 0), (.int .u64 0), (.int .u64 0), (.int .i64 0)] [(0, 8, (.tmp 25)), (8, 1, (.tmp 26))], none⟩, [9, 10], 1⟩,
        ⟨12, ⟨(some 28), .bslice 1 [(.int .u64 0), (.int .u64 0), (.int .u64 0), (.int .u64 0), (.int .u64 0), (.int .u64 0), (.int .u64 0), (.int .u64 0), (.int .i64 0)] [(0, 9, (.tmp 27))], none⟩, [11, 9, 10], 1⟩,
        ⟨13, ⟨(some 29), .append 9 72 (.tmp 24) (.tmp 28), none⟩, [8, 1, 7, 5, 4, 3, 2, 6, 12, 11, 9, 10], 2⟩,
        ⟨14, ⟨(some 30), .move (.tmp 0), none⟩, [], 2⟩,
        ⟨15, ⟨(some 31), .nilCheck (.tmp 30), none⟩, [14], 2⟩,
        ⟨16, ⟨(some 32), .off (.tmp 31) 0, none⟩, [15, 14], 2⟩,
        ⟨17, ⟨(some 33), .load 1 false (.tmp 32), none⟩, [16, 15, 14], 2⟩,
        ⟨18, ⟨(some 34), .move (.tmp 7), none⟩, [], 2⟩,
        ⟨19, ⟨(some 35), .slice (.tmp 33) (some (.tmp 34)) none none 9, none⟩, [17, 16, 15, 14, 18], 2⟩,
        ⟨20, ⟨(some 36), .append 9 72 (.tmp 29) (.tmp 35), none⟩, [13, 8, 1, 7, 5, 4, 3, 2, 6, 12, 11, 9, 10, 19, 17, 16, 15, 14, 18], 2⟩,
        ⟨21, ⟨(some 37), .nilCheck (.tmp 16), none⟩, [0, 1, 2, 3, 4, 5, 6, 7, 8, 9, 10, 11, 12, 13, 14, 15, 16, 17, 18, 19, 20], 2⟩,
        ⟨22, ⟨(some 38), .off (.tmp 37) 0, none⟩, [21, 0, 1, 2, 3, 4, 5, 6, 7, 8, 9, 10, 11, 12, 13, 14, 15, 16, 17, 18, 19, 20], 2⟩,
        ⟨23, ⟨none, .store 1 (.tmp 38) (.tmp 36), none⟩, [22, 21, 0, 1, 2, 3, 4, 5, 6, 7, 8, 9, 10, 11, 12, 13, 14, 15, 16, 17, 18, 19, 20], 2⟩])
      (.seq
       (.ops [
         ⟨(some 6), .move (.const (.bool true)), none⟩])
       .ret)))))⟩
theorem t12_ok : goodFn Try.prog 12 = true ∧ cfn Try.prog 12 = t12 := ⟨by kernel_rfl, by kernel_rfl⟩

/-- (*matchguard/matchguardref11.Index).Remove -/
def t13 : NFn := ⟨34, [(.tmp 4)],
  (.seq
   (.ops [
     ⟨(some 3), .box (.tmp 1), none⟩,
     ⟨(some 4), .move (.const (.bool false)), none⟩])
   (.seq
    (.ops [
      ⟨(some 8), .move (.tmp 0), none⟩,
      ⟨(some 9), .load 8 true (.tmp 3), none⟩,
      ⟨(some 10), .call 22 [(.tmp 8), (.tmp 9)], none⟩,
      ⟨(some 7), .move (.tmp 10), none⟩,
      ⟨(some 11), .extract (.tmp 7) 0, none⟩,
      ⟨(some 12), .extract (.tmp 7) 1, none⟩,
      ⟨(some 5), .move (.tmp 11), none⟩,
      ⟨(some 6), .move (.tmp 12), none⟩])
    (.seq
     (.seq
      (.ops [
        ⟨(some 13), .move (.tmp 6), none⟩])
      (.cond (.tmp 13)
       (.draw 1 [
         ⟨0, ⟨(some 14), .move (.tmp 0), none⟩, [], 0⟩,
         ⟨1, ⟨(some 15), .bslice 0 [] [], none⟩, [], 0⟩,
         ⟨2, ⟨(some 16), .move (.tmp 0), none⟩, [], 1⟩,
         ⟨3, ⟨(some 17), .nilCheck (.tmp 16), none⟩, [2], 1⟩,
         ⟨4, ⟨(some 18), .off (.tmp 17) 0, none⟩, [3, 2], 1⟩,
         ⟨5, ⟨(some 19), .load 1 false (.tmp 18), none⟩, [4, 3, 2], 1⟩,
         ⟨6, ⟨(some 20), .move (.tmp 5), none⟩, [], 1⟩,
         ⟨7, ⟨(some 21), .slice (.tmp 19) none (some (.tmp 20)) none 9, none⟩, [5, 4, 3, 2, 6], 1⟩,
         ⟨8, ⟨(some 22), .append 9 72 (.tmp 15) (.tmp 21), none⟩, [1, 7, 5, 4, 3, 2, 6], 1⟩,
         ⟨9, ⟨(some 23), .move (.tmp 0), none⟩, [], 1⟩,
         ⟨10, ⟨(some 24), .nilCheck (.tmp 23), none⟩, [9], 1⟩,
         ⟨11, ⟨(some 25), .off (.tmp 24) 0, none⟩, [10, 9], 1⟩,
         ⟨12, ⟨(some 26), .load 1 false (.tmp 25), none⟩, [11, 10, 9], 1⟩,
         ⟨13, ⟨(some 27), .move (.tmp 5), none⟩, [], 1⟩,
         ⟨14, ⟨(some 28), .bin .add (.tmp 27) (.const (.int .i64 1)), none⟩, [13], 1⟩,
         ⟨15, ⟨(some 29), .slice (.tmp 26) (some (.tmp 28)) none none 9, none⟩, [12, 11, 10, 9, 14, 13], 1⟩,
         ⟨16, ⟨(some 30), .append 9 72 (.tmp 22) (.tmp 29), none⟩, [8, 1, 7, 5, 4, 3, 2, 6, 15, 12, 11, 10, 9, 14, 13], 1⟩,
         ⟨17, ⟨(some 31), .nilCheck (.tmp 14), none⟩, [0, 1, 2, 3, 4, 5, 6, 7, 8, 9, 10, 11, 12, 13, 14, 15, 16], 1⟩,
         ⟨18, ⟨(some 32), .off (.tmp 31) 0, none⟩, [17, 0, 1, 2, 3, 4, 5, 6, 7, 8, 9, 10, 11, 12, 13, 14, 15, 16], 1⟩,
         ⟨19, ⟨none, .store 1 (.tmp 32) (.tmp 30), none⟩, [18, 17, 0, 1, 2, 3, 4, 5, 6, 7, 8, 9, 10, 11, 12, 13, 14, 15, 16], 1⟩])
       .skip))
     (.seq
      (.ops [
        ⟨(some 33), .move (.tmp 6), none⟩,
        ⟨(some 4), .move (.tmp 33), none⟩])
      .ret))))⟩
theorem t13_ok : goodFn Try.prog 13 = true ∧ cfn Try.prog 13 = t13 := ⟨by kernel_rfl, by kernel_rfl⟩

/-- (*matchguard/exact.Index).Get -/
def t14 : NFn := ⟨21, [(.tmp 4), (.tmp 5)],
  (.seq
   (.ops [
     ⟨(some 3), .box (.tmp 1), none⟩,
     ⟨(some 4), .move (.const (.int .i64 0)), none⟩,
     ⟨(some 5), .move (.const (.bool false)), none⟩])
   (.seq
    (.seq
     (.ops [
       ⟨(some 8), .move (.tmp 0), none⟩,
       ⟨(some 9), .eq false false [.ptr] (.tmp 8) (.const (.ptr none)), none⟩])
     (.cond (.tmp 9)
      (.seq
       (.ops [
         ⟨(some 4), .move (.const (.int .i64 0)), none⟩,
         ⟨(some 5), .move (.const (.bool false)), none⟩])
       .ret)
      .skip))
    (.seq
     (.draw 0 [
       ⟨0, ⟨(some 11), .move (.tmp 0), none⟩, [], 0⟩,
       ⟨1, ⟨(some 12), .nilCheck (.tmp 11), none⟩, [0], 0⟩,
       ⟨2, ⟨(some 13), .off (.tmp 12) 0, none⟩, [1, 0], 0⟩,
       ⟨3, ⟨(some 14), .load 1 false (.tmp 13), none⟩, [2, 1, 0], 0⟩,
       ⟨4, ⟨(some 15), .load 8 true (.tmp 3), none⟩, [], 0⟩,
       ⟨5, ⟨(some 16), .lookup true [.int, .int, .int, .int, .int, .int, .int, .int] (.int .i64 0) true (.tmp 14) (.tmp 15), none⟩, [3, 2, 1, 0, 4], 0⟩,
       ⟨6, ⟨(some 10), .move (.tmp 16), none⟩, [5, 3, 2, 1, 0, 4], 0⟩,
       ⟨7, ⟨(some 17), .extract (.tmp 10) 0, none⟩, [6, 5, 3, 2, 1, 0, 4], 0⟩,
       ⟨8, ⟨(some 18), .extract (.tmp 10) 1, none⟩, [6, 5, 3, 2, 1, 0, 4], 0⟩,
       ⟨9, ⟨(some 6), .move (.tmp 17), none⟩, [7, 6, 5, 3, 2, 1, 0, 4], 0⟩,
       ⟨10, ⟨(some 7), .move (.tmp 18), none⟩, [8, 6, 5, 3, 2, 1, 0, 4, 9, 7], 0⟩])
     (.seq
      (.ops [
        ⟨(some 19), .move (.tmp 6), none⟩,
        ⟨(some 20), .move (.tmp 7), none⟩,
        ⟨(some 4), .move (.tmp 19), none⟩,
        ⟨(some 5), .move (.tmp 20), none⟩])
      .ret))))⟩
theorem t14_ok : goodFn Try.prog 14 = true ∧ cfn Try.prog 14 = t14 := ⟨by kernel_rfl, by kernel_rfl⟩

/-- (*matchguard/matchguardref11.Index).Get -/
def t15 : NFn := ⟨24, [(.tmp 4), (.tmp 5)],
  (.seq
   (.ops [
     ⟨(some 3), .box (.tmp 1), none⟩,
     ⟨(some 4), .move (.const (.int .i64 0)), none⟩,
     ⟨(some 5), .move (.const (.bool false)), none⟩])
   (.seq
    (.ops [
      ⟨(some 9), .move (.tmp 0), none⟩,
      ⟨(some 10), .load 8 true (.tmp 3), none⟩,
      ⟨(some 11), .call 22 [(.tmp 9), (.tmp 10)], none⟩,
      ⟨(some 8), .move (.tmp 11), none⟩,
      ⟨(some 12), .extract (.tmp 8) 0, none⟩,
      ⟨(some 13), .extract (.tmp 8) 1, none⟩,
      ⟨(some 6), .move (.tmp 12), none⟩,
      ⟨(some 7), .move (.tmp 13), none⟩])
    (.seq
     (.seq
      (.ops [
        ⟨(some 14), .move (.tmp 7), none⟩,
        ⟨(some 15), .un .not (.tmp 14), none⟩])
      (.cond (.tmp 15)
       (.seq
        (.ops [
          ⟨(some 4), .move (.const (.int .i64 0)), none⟩,
          ⟨(some 5), .move (.const (.bool false)), none⟩])
        .ret)
       .skip))
     (.seq
      (.ops [
        ⟨(some 16), .move (.tmp 0), none⟩,
        ⟨(some 17), .nilCheck (.tmp 16), none⟩,
        ⟨(some 18), .off (.tmp 17) 0, none⟩,
        ⟨(some 19), .load 1 false (.tmp 18), none⟩,
        ⟨(some 20), .move (.tmp 6), none⟩,
        ⟨(some 21), .idxSl (.tmp 19) (.tmp 20) 9, none⟩,
        ⟨(some 22), .off (.tmp 21) 8, none⟩,
        ⟨(some 23), .load 1 false (.tmp 22), none⟩,
        ⟨(some 4), .move (.tmp 23), none⟩,
        ⟨(some 5), .move (.const (.bool true)), none⟩])
      .ret))))⟩
theorem t15_ok : goodFn Try.prog 15 = true ∧ cfn Try.prog 15 = t15 := ⟨by kernel_rfl, by kernel_rfl⟩

/-- (*matchguard/exact.Index).Len -/
def t16 : NFn := ⟨10, [(.tmp 2)],
  (.seq
   (.ops [
     ⟨(some 2), .move (.const (.int .i64 0)), none⟩])
   (.seq
    (.seq
     (.ops [
       ⟨(some 3), .move (.tmp 0), none⟩,
       ⟨(some 4), .eq false false [.ptr] (.tmp 3) (.const (.ptr none)), none⟩])
     (.cond (.tmp 4)
      (.seq
       (.ops [
         ⟨(some 2), .move (.const (.int .i64 0)), none⟩])
       .ret)
      .skip))
    (.seq
     (.ops [
       ⟨(some 5), .move (.tmp 0), none⟩,
       ⟨(some 6), .nilCheck (.tmp 5), none⟩,
       ⟨(some 7), .off (.tmp 6) 0, none⟩,
       ⟨(some 8), .load 1 false (.tmp 7), none⟩,
       ⟨(some 9), .lenMap (.tmp 8), none⟩,
       ⟨(some 2), .move (.tmp 9), none⟩])
     .ret)))⟩
theorem t16_ok : goodFn Try.prog 16 = true ∧ cfn Try.prog 16 = t16 := ⟨by kernel_rfl, by kernel_rfl⟩

/-- matchguard/matchguardlaw11.same -/
def t17 : NFn := ⟨38, [(.tmp 4)],
  (.seq
   (.ops [
     ⟨(some 4), .move (.const (.bool false)), none⟩])
   (.seq
    (.seq
     (.ops [
       ⟨(some 7), .move (.tmp 0), none⟩,
       ⟨(some 8), .lenSl (.tmp 7), none⟩,
       ⟨(some 9), .move (.tmp 1), none⟩,
       ⟨(some 10), .lenSl (.tmp 9), none⟩,
       ⟨(some 11), .bin .neq (.tmp 8) (.tmp 10), none⟩])
     (.cond (.tmp 11)
      (.seq
       (.ops [
         ⟨(some 4), .move (.const (.bool false)), none⟩])
       .ret)
      .skip))
    (.seq
     (.seq
      (.ops [
        ⟨(some 12), .move (.tmp 0), none⟩,
        ⟨(some 13), .lenSl (.tmp 12), none⟩,
        ⟨(some 14), .move (.const (.int .i64 0)), none⟩])
      (.block 0
       (.loop
        (.seq
         (.ops [
           ⟨(some 15), .bin .lss (.tmp 14) (.tmp 13), none⟩])
         (.seq
          (.cond (.tmp 15)
           .skip
           (.exit 0))
          (.seq
           (.block 1
            (.seq
             (.ops [
               ⟨(some 16), .move (.tmp 14), none⟩,
               ⟨(some 17), .idxSl (.tmp 12) (.tmp 14) 9, none⟩,
               ⟨(some 18), .load 9 true (.tmp 17), none⟩,
               ⟨(some 6), .alloc [(.int .u64 0), (.int .u64 0), (.int .u64 0), (.int .u64 0), (.int .u64 0), (.int .u64 0), (.int .u64 0), (.int .u64 0), (.int .i64 0)], none⟩,
               ⟨(some 5), .move (.tmp 16), none⟩,
               ⟨none, .store 9 (.tmp 6) (.tmp 18), none⟩])
             (.seq
              (.draw 0 [
                ⟨0, ⟨(some 19), .off (.tmp 6) 0, none⟩, [], 0⟩,
                ⟨1, ⟨(some 20), .load 8 true (.tmp 19), none⟩, [0], 0⟩,
                ⟨2, ⟨(some 21), .move (.tmp 1), none⟩, [], 0⟩,
                ⟨3, ⟨(some 22), .move (.tmp 5), none⟩, [], 0⟩,
                ⟨4, ⟨(some 23), .idxSl (.tmp 21) (.tmp 22) 9, none⟩, [2, 3], 0⟩,
                ⟨5, ⟨(some 24), .off (.tmp 23) 0, none⟩, [4, 2, 3], 0⟩,
                ⟨6, ⟨(some 25), .load 8 true (.tmp 24), none⟩, [5, 4, 2, 3], 0⟩,
                ⟨7, ⟨(some 26), .eq true true [.int, .int, .int, .int, .int, .int, .int, .int] (.tmp 20) (.tmp 25), none⟩, [1, 0, 6, 5, 4, 2, 3], 0⟩,
                ⟨8, ⟨(some 27), .move (.tmp 26), none⟩, [7, 1, 0, 6, 5, 4, 2, 3], 0⟩,
                ⟨9, ⟨(some 28), .off (.tmp 6) 8, (some (27, false))⟩, [8, 7, 1, 0, 6, 5, 4, 2, 3], 0⟩,
                ⟨10, ⟨(some 29), .load 1 false (.tmp 28), (some (27, false))⟩, [9, 8, 7, 1, 0, 6, 5, 4, 2, 3], 0⟩,
                ⟨11, ⟨(some 30), .move (.tmp 1), (some (27, false))⟩, [8, 7, 1, 0, 6, 5, 4, 2, 3], 0⟩,
                ⟨12, ⟨(some 31), .move (.tmp 5), (some (27, false))⟩, [8, 7, 1, 0, 6, 5, 4, 2, 3], 0⟩,
                ⟨13, ⟨(some 32), .idxSl (.tmp 30) (.tmp 31) 9, (some (27, false))⟩, [11, 8, 7, 1, 0, 6, 5, 4, 2, 3, 12], 0⟩,
                ⟨14, ⟨(some 33), .off (.tmp 32) 8, (some (27, false))⟩, [13, 11, 8, 7, 1, 0, 6, 5, 4, 2, 3, 12], 0⟩,
                ⟨15, ⟨(some 34), .load 1 false (.tmp 33), (some (27, false))⟩, [14, 13, 11, 8, 7, 1, 0, 6, 5, 4, 2, 3, 12], 0⟩,
                ⟨16, ⟨(some 35), .bin .neq (.tmp 29) (.tmp 34), (some (27, false))⟩, [10, 9, 8, 7, 1, 0, 6, 5, 4, 2, 3, 15, 14, 13, 11, 12], 0⟩,
                ⟨17, ⟨(some 36), .pick (.tmp 27) (.const (.bool true)) (.tmp 35), none⟩, [8, 7, 1, 0, 6, 5, 4, 2, 3, 16, 10, 9, 15, 14, 13, 11, 12], 0⟩])
              (.cond (.tmp 36)
               (.seq
                (.ops [
                  ⟨(some 4), .move (.const (.bool false)), none⟩])
                .ret)
               .skip))))
           (.ops [
             ⟨(some 37), .bin .add (.tmp 14) (.const (.int .i64 1)), none⟩,
             ⟨(some 14), .move (.tmp 37), none⟩])))))))
     (.seq
      (.ops [
        ⟨(some 4), .move (.const (.bool true)), none⟩])
      .ret))))⟩
theorem t17_ok : goodFn Try.prog 17 = true ∧ cfn Try.prog 17 = t17 := ⟨by kernel_rfl, by kernel_rfl⟩

/-- slices.SortFunc[[]matchguard/exact.Pair,matchguard/exact.Pair] -/
def t18 : NFn := ⟨14, [],
  (.seq
   (.ops [
     ⟨(some 5), .move (.tmp 0), none⟩,
     ⟨(some 6), .lenSl (.tmp 5), none⟩,
     ⟨(some 4), .move (.tmp 6), none⟩])
   (.ops [
     ⟨(some 7), .move (.tmp 0), none⟩,
     ⟨(some 8), .move (.tmp 4), none⟩,
     ⟨(some 9), .move (.tmp 4), none⟩,
     ⟨(some 10), .conv .u64 (.tmp 9), none⟩,
     ⟨(some 11), .call 24 [(.tmp 10)], none⟩,
     ⟨(some 12), .move (.tmp 1), none⟩,
     ⟨(some 13), .call 23 [(.tmp 7), (.const (.int .i64 0)), (.tmp 8), (.tmp 11), (.tmp 12)], none⟩]))⟩
theorem t18_ok : goodFn Try.prog 18 = true ∧ cfn Try.prog 18 = t18 := ⟨by kernel_rfl, by kernel_rfl⟩

/-- (*matchguard/exact.Index).All$1 -/
def t19 : NFn := ⟨10, [(.tmp 4)],
  (.seq
   (.ops [
     ⟨(some 2), .box (.tmp 0), none⟩,
     ⟨(some 3), .box (.tmp 1), none⟩,
     ⟨(some 4), .move (.const (.int .i64 0)), none⟩])
   (.seq
    (.draw 0 [
      ⟨0, ⟨(some 5), .off (.tmp 2) 0, none⟩, [], 0⟩,
      ⟨1, ⟨(some 6), .sliceArr (.tmp 5) none none none 4 2, none⟩, [0], 0⟩,
      ⟨2, ⟨(some 7), .off (.tmp 3) 0, none⟩, [], 0⟩,
      ⟨3, ⟨(some 8), .sliceArr (.tmp 7) none none none 4 2, none⟩, [2], 0⟩,
      ⟨4, ⟨(some 9), .call 20 [(.tmp 6), (.tmp 8), (.const (.func (.func 21) [] []))], none⟩, [1, 0, 3, 2], 0⟩,
      ⟨5, ⟨(some 4), .move (.tmp 9), none⟩, [4, 1, 0, 3, 2], 0⟩])
    .ret))⟩
theorem t19_ok : goodFn Try.prog 19 = true ∧ cfn Try.prog 19 = t19 := ⟨by kernel_rfl, by kernel_rfl⟩

/-- slices.CompareFunc[[]matchguard/api.Value,[]matchguard/api.Value,matchguard/api.Value,matchguard/api.Value] -/
def t20 : NFn := ⟨39, [(.tmp 6)],
  (.seq
   (.ops [
     ⟨(some 6), .move (.const (.int .i64 0)), none⟩])
   (.seq
    (.seq
     (.ops [
       ⟨(some 11), .move (.tmp 0), none⟩,
       ⟨(some 12), .lenSl (.tmp 11), none⟩,
       ⟨(some 13), .move (.const (.int .i64 0)), none⟩])
     (.block 0
      (.loop
       (.seq
        (.ops [
          ⟨(some 14), .bin .lss (.tmp 13) (.tmp 12), none⟩])
        (.seq
         (.cond (.tmp 14)
          .skip
          (.exit 0))
         (.seq
          (.block 1
           (.seq
            (.ops [
              ⟨(some 15), .move (.tmp 13), none⟩,
              ⟨(some 16), .idxSl (.tmp 11) (.tmp 13) 2, none⟩,
              ⟨(some 17), .load 2 true (.tmp 16), none⟩,
              ⟨(some 8), .alloc [(.int .u64 0), (.int .u64 0)], none⟩,
              ⟨(some 7), .move (.tmp 15), none⟩,
              ⟨none, .store 2 (.tmp 8) (.tmp 17), none⟩])
            (.seq
             (.seq
              (.ops [
                ⟨(some 18), .move (.tmp 7), none⟩,
                ⟨(some 19), .move (.tmp 1), none⟩,
                ⟨(some 20), .lenSl (.tmp 19), none⟩,
                ⟨(some 21), .bin .geq (.tmp 18) (.tmp 20), none⟩])
              (.cond (.tmp 21)
               (.seq
                (.ops [
                  ⟨(some 6), .move (.const (.int .i64 1)), none⟩])
                .ret)
               .skip))
             (.seq
              (.ops [
                ⟨(some 22), .move (.tmp 1), none⟩,
                ⟨(some 23), .move (.tmp 7), none⟩,
                ⟨(some 24), .idxSl (.tmp 22) (.tmp 23) 2, none⟩,
                ⟨(some 25), .load 2 true (.tmp 24), none⟩,
                ⟨(some 9), .alloc [(.int .u64 0), (.int .u64 0)], none⟩,
                ⟨none, .store 2 (.tmp 9) (.tmp 25), none⟩])
              (.seq
               (.ops [
                 ⟨(some 26), .move (.tmp 2), none⟩,
                 ⟨(some 27), .load 2 true (.tmp 8), none⟩,
                 ⟨(some 28), .load 2 true (.tmp 9), none⟩,
                 ⟨(some 29), .callv (.tmp 26) [(.tmp 27), (.tmp 28)], none⟩,
                 ⟨(some 10), .move (.tmp 29), none⟩])
               (.seq
                (.ops [
                  ⟨(some 30), .move (.tmp 10), none⟩,
                  ⟨(some 31), .bin .neq (.tmp 30) (.const (.int .i64 0)), none⟩])
                (.cond (.tmp 31)
                 (.seq
                  (.ops [
                    ⟨(some 32), .move (.tmp 10), none⟩,
                    ⟨(some 6), .move (.tmp 32), none⟩])
                  .ret)
                 .skip)))))))
          (.ops [
            ⟨(some 33), .bin .add (.tmp 13) (.const (.int .i64 1)), none⟩,
            ⟨(some 13), .move (.tmp 33), none⟩])))))))
    (.seq
     (.seq
      (.ops [
        ⟨(some 34), .move (.tmp 0), none⟩,
        ⟨(some 35), .lenSl (.tmp 34), none⟩,
        ⟨(some 36), .move (.tmp 1), none⟩,
        ⟨(some 37), .lenSl (.tmp 36), none⟩,
        ⟨(some 38), .bin .lss (.tmp 35) (.tmp 37), none⟩])
      (.cond (.tmp 38)
       (.seq
        (.ops [
          ⟨(some 6), .move (.const (.int .i64 (-1))), none⟩])
        .ret)
       .skip))
     (.seq
      (.ops [
        ⟨(some 6), .move (.const (.int .i64 0)), none⟩])
      .ret))))⟩
theorem t20_ok : goodFn Try.prog 20 = true ∧ cfn Try.prog 20 = t20 := ⟨by kernel_rfl, by kernel_rfl⟩

/-- matchguard/value.Compare -/
def t21 : NFn := ⟨29, [(.tmp 4)],
  (.seq
   (.ops [
     ⟨(some 2), .box (.tmp 0), none⟩,
     ⟨(some 3), .box (.tmp 1), none⟩,
     ⟨(some 4), .move (.const (.int .i64 0)), none⟩])
   (.seq
    (.block 0
     (.seq
      (.ops [
        ⟨(some 6), .load 2 true (.tmp 2), none⟩,
        ⟨(some 7), .load 2 true (.tmp 3), none⟩,
        ⟨(some 8), .eq false true [.int, .int] (.tmp 6) (.tmp 7), none⟩,
        ⟨(some 5), .move (.tmp 8), none⟩])
      (.cond (.tmp 5)
       (.seq
        (.ops [
          ⟨(some 4), .move (.const (.int .i64 0)), none⟩])
        .ret)
       (.seq
        (.ops [
          ⟨(some 10), .off (.tmp 2) 0, none⟩,
          ⟨(some 11), .load 1 false (.tmp 10), none⟩,
          ⟨(some 12), .off (.tmp 3) 0, none⟩,
          ⟨(some 13), .load 1 false (.tmp 12), none⟩,
          ⟨(some 14), .bin .lss (.tmp 11) (.tmp 13), none⟩,
          ⟨(some 15), .move (.tmp 14), none⟩,
          ⟨(some 16), .off (.tmp 2) 0, (some (15, false))⟩,
          ⟨(some 17), .load 1 false (.tmp 16), (some (15, false))⟩,
          ⟨(some 18), .off (.tmp 3) 0, (some (15, false))⟩,
          ⟨(some 19), .load 1 false (.tmp 18), (some (15, false))⟩,
          ⟨(some 20), .bin .eql (.tmp 17) (.tmp 19), (some (15, false))⟩,
          ⟨(some 21), .move (.tmp 20), (some (15, false))⟩,
          ⟨(some 22), .off (.tmp 2) 1, (some (21, true))⟩,
          ⟨(some 23), .load 1 false (.tmp 22), (some (21, true))⟩,
          ⟨(some 24), .off (.tmp 3) 1, (some (21, true))⟩,
          ⟨(some 25), .load 1 false (.tmp 24), (some (21, true))⟩,
          ⟨(some 26), .bin .lss (.tmp 23) (.tmp 25), (some (21, true))⟩,
          ⟨(some 27), .pick (.tmp 21) (.tmp 26) (.const (.bool false)), (some (15, false))⟩,
          ⟨(some 28), .pick (.tmp 15) (.const (.bool true)) (.tmp 27), none⟩,
          ⟨(some 9), .move (.tmp 28), none⟩])
        (.cond (.tmp 9)
         (.seq
          (.ops [
            ⟨(some 4), .move (.const (.int .i64 (-1))), none⟩])
          .ret)
         .skip)))))
    (.seq
     (.ops [
       ⟨(some 4), .move (.const (.int .i64 1)), none⟩])
     .ret)))⟩
theorem t21_ok : goodFn Try.prog 21 = true ∧ cfn Try.prog 21 = t21 := ⟨by kernel_rfl, by kernel_rfl⟩

/-- (*matchguard/matchguardref11.Index).place -/
def t22 : NFn := ⟨49, [(.tmp 4), (.tmp 5)],
  (.seq
   (.ops [
     ⟨(some 3), .box (.tmp 1), none⟩,
     ⟨(some 4), .move (.const (.int .i64 0)), none⟩,
     ⟨(some 5), .move (.const (.bool false)), none⟩])
   (.seq
    (.ops [
      ⟨(some 6), .move (.const (.int .i64 0)), none⟩])
    (.seq
     (.block 0
      (.loop
       (.seq
        (.seq
         (.draw 0 [
           ⟨0, ⟨(some 7), .move (.tmp 6), none⟩, [], 0⟩,
           ⟨1, ⟨(some 8), .move (.tmp 0), none⟩, [], 0⟩,
           ⟨2, ⟨(some 9), .nilCheck (.tmp 8), none⟩, [1], 0⟩,
           ⟨3, ⟨(some 10), .off (.tmp 9) 0, none⟩, [2, 1], 0⟩,
           ⟨4, ⟨(some 11), .load 1 false (.tmp 10), none⟩, [3, 2, 1], 0⟩,
           ⟨5, ⟨(some 12), .lenSl (.tmp 11), none⟩, [4, 3, 2, 1], 0⟩,
           ⟨6, ⟨(some 13), .bin .lss (.tmp 7) (.tmp 12), none⟩, [0, 5, 4, 3, 2, 1], 0⟩,
           ⟨7, ⟨(some 14), .move (.tmp 13), none⟩, [6, 0, 5, 4, 3, 2, 1], 0⟩,
           ⟨8, ⟨(some 15), .move (.tmp 0), (some (14, true))⟩, [7, 6, 0, 5, 4, 3, 2, 1], 0⟩,
           ⟨9, ⟨(some 16), .nilCheck (.tmp 15), (some (14, true))⟩, [8, 7, 6, 0, 5, 4, 3, 2, 1], 0⟩,
           ⟨10, ⟨(some 17), .off (.tmp 16) 0, (some (14, true))⟩, [9, 8, 7, 6, 0, 5, 4, 3, 2, 1], 0⟩,
           ⟨11, ⟨(some 18), .load 1 false (.tmp 17), (some (14, true))⟩, [10, 9, 8, 7, 6, 0, 5, 4, 3, 2, 1], 0⟩,
           ⟨12, ⟨(some 19), .move (.tmp 6), (some (14, true))⟩, [7, 6, 0, 5, 4, 3, 2, 1], 0⟩,
           ⟨13, ⟨(some 20), .idxSl (.tmp 18) (.tmp 19) 9, (some (14, true))⟩, [11, 10, 9, 8, 7, 6, 0, 5, 4, 3, 2, 1, 12], 0⟩,
           ⟨14, ⟨(some 21), .off (.tmp 20) 0, (some (14, true))⟩, [13, 11, 10, 9, 8, 7, 6, 0, 5, 4, 3, 2, 1, 12], 0⟩,
           ⟨15, ⟨(some 22), .load 8 true (.tmp 21), (some (14, true))⟩, [14, 13, 11, 10, 9, 8, 7, 6, 0, 5, 4, 3, 2, 1, 12], 0⟩,
           ⟨16, ⟨(some 23), .load 8 true (.tmp 3), (some (14, true))⟩, [7, 6, 0, 5, 4, 3, 2, 1], 0⟩,
           ⟨17, ⟨(some 24), .call 25 [(.tmp 22), (.tmp 23)], (some (14, true))⟩, [15, 14, 13, 11, 10, 9, 8, 7, 6, 0, 5, 4, 3, 2, 1, 12, 16], 0⟩,
           ⟨18, ⟨(some 25), .bin .lss (.tmp 24) (.const (.int .i64 0)), (some (14, true))⟩, [17, 15, 14, 13, 11, 10, 9, 8, 7, 6, 0, 5, 4, 3, 2, 1, 12, 16], 0⟩,
           ⟨19, ⟨(some 26), .pick (.tmp 14) (.tmp 25) (.const (.bool false)), none⟩, [7, 6, 0, 5, 4, 3, 2, 1, 18, 17, 15, 14, 13, 11, 10, 9, 8, 12, 16], 0⟩])
         (.cond (.tmp 26)
          .skip
          (.exit 0)))
        (.block 1
         (.ops [
           ⟨(some 27), .move (.tmp 6), none⟩,
           ⟨(some 28), .bin .add (.tmp 27) (.const (.int .i64 1)), none⟩,
           ⟨(some 6), .move (.tmp 28), none⟩])))))
     (.seq
      (.draw 0 [
        ⟨0, ⟨(some 29), .move (.tmp 6), none⟩, [], 0⟩,
        ⟨1, ⟨(some 30), .move (.tmp 6), none⟩, [], 0⟩,
        ⟨2, ⟨(some 31), .move (.tmp 0), none⟩, [], 0⟩,
        ⟨3, ⟨(some 32), .nilCheck (.tmp 31), none⟩, [2], 0⟩,
        ⟨4, ⟨(some 33), .off (.tmp 32) 0, none⟩, [3, 2], 0⟩,
        ⟨5, ⟨(some 34), .load 1 false (.tmp 33), none⟩, [4, 3, 2], 0⟩,
        ⟨6, ⟨(some 35), .lenSl (.tmp 34), none⟩, [5, 4, 3, 2], 0⟩,
        ⟨7, ⟨(some 36), .bin .lss (.tmp 30) (.tmp 35), none⟩, [1, 6, 5, 4, 3, 2], 0⟩,
        ⟨8, ⟨(some 37), .move (.tmp 36), none⟩, [7, 1, 6, 5, 4, 3, 2], 0⟩,
        ⟨9, ⟨(some 38), .move (.tmp 0), (some (37, true))⟩, [8, 7, 1, 6, 5, 4, 3, 2], 0⟩,
        ⟨10, ⟨(some 39), .nilCheck (.tmp 38), (some (37, true))⟩, [9, 8, 7, 1, 6, 5, 4, 3, 2], 0⟩,
        ⟨11, ⟨(some 40), .off (.tmp 39) 0, (some (37, true))⟩, [10, 9, 8, 7, 1, 6, 5, 4, 3, 2], 0⟩,
        ⟨12, ⟨(some 41), .load 1 false (.tmp 40), (some (37, true))⟩, [11, 10, 9, 8, 7, 1, 6, 5, 4, 3, 2], 0⟩,
        ⟨13, ⟨(some 42), .move (.tmp 6), (some (37, true))⟩, [8, 7, 1, 6, 5, 4, 3, 2], 0⟩,
        ⟨14, ⟨(some 43), .idxSl (.tmp 41) (.tmp 42) 9, (some (37, true))⟩, [12, 11, 10, 9, 8, 7, 1, 6, 5, 4, 3, 2, 13], 0⟩,
        ⟨15, ⟨(some 44), .off (.tmp 43) 0, (some (37, true))⟩, [14, 12, 11, 10, 9, 8, 7, 1, 6, 5, 4, 3, 2, 13], 0⟩,
        ⟨16, ⟨(some 45), .load 8 true (.tmp 44), (some (37, true))⟩, [15, 14, 12, 11, 10, 9, 8, 7, 1, 6, 5, 4, 3, 2, 13], 0⟩,
        ⟨17, ⟨(some 46), .load 8 true (.tmp 3), (some (37, true))⟩, [8, 7, 1, 6, 5, 4, 3, 2], 0⟩,
        ⟨18, ⟨(some 47), .eq false true [.int, .int, .int, .int, .int, .int, .int, .int] (.tmp 45) (.tmp 46), (some (37, true))⟩, [16, 15, 14, 12, 11, 10, 9, 8, 7, 1, 6, 5, 4, 3, 2, 13, 17], 0⟩,
        ⟨19, ⟨(some 48), .pick (.tmp 37) (.tmp 47) (.const (.bool false)), none⟩, [8, 7, 1, 6, 5, 4, 3, 2, 18, 16, 15, 14, 12, 11, 10, 9, 13, 17], 0⟩,
        ⟨20, ⟨(some 4), .move (.tmp 29), none⟩, [0, 8, 7, 1, 6, 5, 4, 3, 2], 0⟩,
        ⟨21, ⟨(some 5), .move (.tmp 48), none⟩, [19, 8, 7, 1, 6, 5, 4, 3, 2, 18, 16, 15, 14, 12, 11, 10, 9, 13, 17, 20, 0], 0⟩])
      .ret))))⟩
theorem t22_ok : goodFn Try.prog 22 = true ∧ cfn Try.prog 22 = t22 := ⟨by kernel_rfl, by kernel_rfl⟩

/-- slices.pdqsortCmpFunc[matchguard/exact.Pair] -/
def t23 : NFn := ⟨148, [],
  (.seq
   (.ops [
     ⟨(some 10), .move (.const (.bool true)), none⟩])
   (.seq
    (.ops [
      ⟨(some 11), .move (.const (.bool true)), none⟩])
    (.block 0
     (.loop
      (.block 1
       (.seq
        (.ops [
          ⟨(some 21), .move (.tmp 2), none⟩,
          ⟨(some 22), .move (.tmp 1), none⟩,
          ⟨(some 23), .bin .sub (.tmp 21) (.tmp 22), none⟩,
          ⟨(some 12), .move (.tmp 23), none⟩])
        (.seq
         (.seq
          (.ops [
            ⟨(some 24), .move (.tmp 12), none⟩,
            ⟨(some 25), .bin .leq (.tmp 24) (.const (.int .i64 12)), none⟩])
          (.cond (.tmp 25)
           (.seq
            (.ops [
              ⟨(some 26), .move (.tmp 0), none⟩,
              ⟨(some 27), .move (.tmp 1), none⟩,
              ⟨(some 28), .move (.tmp 2), none⟩,
              ⟨(some 29), .move (.tmp 4), none⟩,
              ⟨(some 30), .call 26 [(.tmp 26), (.tmp 27), (.tmp 28), (.tmp 29)], none⟩])
            .ret)
           .skip))
         (.seq
          (.seq
           (.ops [
             ⟨(some 31), .move (.tmp 3), none⟩,
             ⟨(some 32), .bin .eql (.tmp 31) (.const (.int .i64 0)), none⟩])
           (.cond (.tmp 32)
            (.seq
             (.ops [
               ⟨(some 33), .move (.tmp 0), none⟩,
               ⟨(some 34), .move (.tmp 1), none⟩,
               ⟨(some 35), .move (.tmp 2), none⟩,
               ⟨(some 36), .move (.tmp 4), none⟩,
               ⟨(some 37), .call 27 [(.tmp 33), (.tmp 34), (.tmp 35), (.tmp 36)], none⟩])
             .ret)
            .skip))
          (.seq
           (.seq
            (.ops [
              ⟨(some 38), .move (.tmp 10), none⟩,
              ⟨(some 39), .un .not (.tmp 38), none⟩])
            (.cond (.tmp 39)
             (.seq
              (.ops [
                ⟨(some 40), .move (.tmp 0), none⟩,
                ⟨(some 41), .move (.tmp 1), none⟩,
                ⟨(some 42), .move (.tmp 2), none⟩,
                ⟨(some 43), .move (.tmp 4), none⟩,
                ⟨(some 44), .call 28 [(.tmp 40), (.tmp 41), (.tmp 42), (.tmp 43)], none⟩])
              (.ops [
                ⟨(some 45), .move (.tmp 3), none⟩,
                ⟨(some 46), .bin .sub (.tmp 45) (.const (.int .i64 1)), none⟩,
                ⟨(some 3), .move (.tmp 46), none⟩]))
             .skip))
           (.seq
            (.ops [
              ⟨(some 48), .move (.tmp 0), none⟩,
              ⟨(some 49), .move (.tmp 1), none⟩,
              ⟨(some 50), .move (.tmp 2), none⟩,
              ⟨(some 51), .move (.tmp 4), none⟩,
              ⟨(some 52), .call 29 [(.tmp 48), (.tmp 49), (.tmp 50), (.tmp 51)], none⟩,
              ⟨(some 47), .move (.tmp 52), none⟩,
              ⟨(some 53), .extract (.tmp 47) 0, none⟩,
              ⟨(some 54), .extract (.tmp 47) 1, none⟩,
              ⟨(some 13), .move (.tmp 53), none⟩,
              ⟨(some 14), .move (.tmp 54), none⟩])
            (.seq
             (.seq
              (.ops [
                ⟨(some 55), .move (.tmp 14), none⟩,
                ⟨(some 56), .bin .eql (.tmp 55) (.const (.int .i64 2)), none⟩])
              (.cond (.tmp 56)
               (.seq
                (.ops [
                  ⟨(some 57), .move (.tmp 0), none⟩,
                  ⟨(some 58), .move (.tmp 1), none⟩,
                  ⟨(some 59), .move (.tmp 2), none⟩,
                  ⟨(some 60), .move (.tmp 4), none⟩,
                  ⟨(some 61), .call 30 [(.tmp 57), (.tmp 58), (.tmp 59), (.tmp 60)], none⟩])
                (.seq
                 (.ops [
                   ⟨(some 62), .move (.tmp 2), none⟩,
                   ⟨(some 63), .bin .sub (.tmp 62) (.const (.int .i64 1)), none⟩,
                   ⟨(some 64), .move (.tmp 13), none⟩,
                   ⟨(some 65), .move (.tmp 1), none⟩,
                   ⟨(some 66), .bin .sub (.tmp 64) (.tmp 65), none⟩,
                   ⟨(some 67), .bin .sub (.tmp 63) (.tmp 66), none⟩,
                   ⟨(some 13), .move (.tmp 67), none⟩])
                 (.ops [
                   ⟨(some 14), .move (.const (.int .i64 1)), none⟩])))
               .skip))
             (.seq
              (.seq
               (.ops [
                 ⟨(some 68), .move (.tmp 10), none⟩,
                 ⟨(some 69), .move (.tmp 68), none⟩,
                 ⟨(some 70), .move (.tmp 11), (some (69, true))⟩,
                 ⟨(some 71), .pick (.tmp 69) (.tmp 70) (.const (.bool false)), none⟩,
                 ⟨(some 72), .move (.tmp 71), none⟩,
                 ⟨(some 73), .move (.tmp 14), (some (72, true))⟩,
                 ⟨(some 74), .bin .eql (.tmp 73) (.const (.int .i64 1)), (some (72, true))⟩,
                 ⟨(some 75), .pick (.tmp 72) (.tmp 74) (.const (.bool false)), none⟩])
               (.cond (.tmp 75)
                (.seq
                 (.ops [
                   ⟨(some 76), .move (.tmp 0), none⟩,
                   ⟨(some 77), .move (.tmp 1), none⟩,
                   ⟨(some 78), .move (.tmp 2), none⟩,
                   ⟨(some 79), .move (.tmp 4), none⟩,
                   ⟨(some 80), .call 31 [(.tmp 76), (.tmp 77), (.tmp 78), (.tmp 79)], none⟩])
                 (.cond (.tmp 80)
                  .ret
                  .skip))
                .skip))
              (.seq
               (.seq
                (.draw 0 [
                  ⟨0, ⟨(some 81), .move (.tmp 1), none⟩, [], 0⟩,
                  ⟨1, ⟨(some 82), .bin .gtr (.tmp 81) (.const (.int .i64 0)), none⟩, [0], 0⟩,
                  ⟨2, ⟨(some 83), .move (.tmp 82), none⟩, [1, 0], 0⟩,
                  ⟨3, ⟨(some 84), .move (.tmp 4), (some (83, true))⟩, [2, 1, 0], 0⟩,
                  ⟨4, ⟨(some 85), .move (.tmp 0), (some (83, true))⟩, [2, 1, 0], 0⟩,
                  ⟨5, ⟨(some 86), .move (.tmp 1), (some (83, true))⟩, [2, 1, 0], 0⟩,
                  ⟨6, ⟨(some 87), .bin .sub (.tmp 86) (.const (.int .i64 1)), (some (83, true))⟩, [5, 2, 1, 0], 0⟩,
                  ⟨7, ⟨(some 88), .idxSl (.tmp 85) (.tmp 87) 9, (some (83, true))⟩, [4, 2, 1, 0, 6, 5], 0⟩,
                  ⟨8, ⟨(some 89), .load 9 true (.tmp 88), (some (83, true))⟩, [7, 4, 2, 1, 0, 6, 5], 0⟩,
                  ⟨9, ⟨(some 90), .move (.tmp 0), (some (83, true))⟩, [2, 1, 0], 0⟩,
                  ⟨10, ⟨(some 91), .move (.tmp 13), (some (83, true))⟩, [2, 1, 0], 0⟩,
                  ⟨11, ⟨(some 92), .idxSl (.tmp 90) (.tmp 91) 9, (some (83, true))⟩, [9, 2, 1, 0, 10], 0⟩,
                  ⟨12, ⟨(some 93), .load 9 true (.tmp 92), (some (83, true))⟩, [11, 9, 2, 1, 0, 10], 0⟩,
                  ⟨13, ⟨(some 94), .callv (.tmp 84) [(.tmp 89), (.tmp 93)], (some (83, true))⟩, [3, 2, 1, 0, 8, 7, 4, 6, 5, 12, 11, 9, 10], 0⟩,
                  ⟨14, ⟨(some 95), .bin .lss (.tmp 94) (.const (.int .i64 0)), (some (83, true))⟩, [13, 3, 2, 1, 0, 8, 7, 4, 6, 5, 12, 11, 9, 10], 0⟩,
                  ⟨15, ⟨(some 96), .un .not (.tmp 95), (some (83, true))⟩, [14, 13, 3, 2, 1, 0, 8, 7, 4, 6, 5, 12, 11, 9, 10], 0⟩,
                  ⟨16, ⟨(some 97), .pick (.tmp 83) (.tmp 96) (.const (.bool false)), none⟩, [2, 1, 0, 15, 14, 13, 3, 8, 7, 4, 6, 5, 12, 11, 9, 10], 0⟩])
                (.cond (.tmp 97)
                 (.seq
                  (.ops [
                    ⟨(some 98), .move (.tmp 0), none⟩,
                    ⟨(some 99), .move (.tmp 1), none⟩,
                    ⟨(some 100), .move (.tmp 2), none⟩,
                    ⟨(some 101), .move (.tmp 13), none⟩,
                    ⟨(some 102), .move (.tmp 4), none⟩,
                    ⟨(some 103), .call 32 [(.tmp 98), (.tmp 99), (.tmp 100), (.tmp 101), (.tmp 102)], none⟩,
                    ⟨(some 15), .move (.tmp 103), none⟩])
                  (.seq
                   (.ops [
                     ⟨(some 104), .move (.tmp 15), none⟩,
                     ⟨(some 1), .move (.tmp 104), none⟩])
                   (.exit 1)))
                 .skip))
               (.seq
                (.ops [
                  ⟨(some 106), .move (.tmp 0), none⟩,
                  ⟨(some 107), .move (.tmp 1), none⟩,
                  ⟨(some 108), .move (.tmp 2), none⟩,
                  ⟨(some 109), .move (.tmp 13), none⟩,
                  ⟨(some 110), .move (.tmp 4), none⟩,
                  ⟨(some 111), .call 33 [(.tmp 106), (.tmp 107), (.tmp 108), (.tmp 109), (.tmp 110)], none⟩,
                  ⟨(some 105), .move (.tmp 111), none⟩,
                  ⟨(some 112), .extract (.tmp 105) 0, none⟩,
                  ⟨(some 113), .extract (.tmp 105) 1, none⟩,
                  ⟨(some 16), .move (.tmp 112), none⟩,
                  ⟨(some 17), .move (.tmp 113), none⟩])
                (.seq
                 (.ops [
                   ⟨(some 114), .move (.tmp 17), none⟩,
                   ⟨(some 11), .move (.tmp 114), none⟩])
                 (.seq
                  (.ops [
                    ⟨(some 115), .move (.tmp 16), none⟩,
                    ⟨(some 116), .move (.tmp 1), none⟩,
                    ⟨(some 117), .bin .sub (.tmp 115) (.tmp 116), none⟩,
                    ⟨(some 118), .move (.tmp 2), none⟩,
                    ⟨(some 119), .move (.tmp 16), none⟩,
                    ⟨(some 120), .bin .sub (.tmp 118) (.tmp 119), none⟩,
                    ⟨(some 18), .move (.tmp 117), none⟩,
                    ⟨(some 19), .move (.tmp 120), none⟩])
                  (.seq
                   (.ops [
                     ⟨(some 121), .move (.tmp 12), none⟩,
                     ⟨(some 122), .bin .quo (.tmp 121) (.const (.int .i64 8)), none⟩,
                     ⟨(some 20), .move (.tmp 122), none⟩])
                   (.seq
                    (.ops [
                      ⟨(some 123), .move (.tmp 18), none⟩,
                      ⟨(some 124), .move (.tmp 19), none⟩,
                      ⟨(some 125), .bin .lss (.tmp 123) (.tmp 124), none⟩])
                    (.cond (.tmp 125)
                     (.seq
                      (.ops [
                        ⟨(some 126), .move (.tmp 18), none⟩,
                        ⟨(some 127), .move (.tmp 20), none⟩,
                        ⟨(some 128), .bin .geq (.tmp 126) (.tmp 127), none⟩,
                        ⟨(some 10), .move (.tmp 128), none⟩])
                      (.seq
                       (.ops [
                         ⟨(some 129), .move (.tmp 0), none⟩,
                         ⟨(some 130), .move (.tmp 1), none⟩,
                         ⟨(some 131), .move (.tmp 16), none⟩,
                         ⟨(some 132), .move (.tmp 3), none⟩,
                         ⟨(some 133), .move (.tmp 4), none⟩,
                         ⟨(some 134), .call 23 [(.tmp 129), (.tmp 130), (.tmp 131), (.tmp 132), (.tmp 133)], none⟩])
                       (.ops [
                         ⟨(some 135), .move (.tmp 16), none⟩,
                         ⟨(some 136), .bin .add (.tmp 135) (.const (.int .i64 1)), none⟩,
                         ⟨(some 1), .move (.tmp 136), none⟩])))
                     (.seq
                      (.ops [
                        ⟨(some 137), .move (.tmp 19), none⟩,
                        ⟨(some 138), .move (.tmp 20), none⟩,
                        ⟨(some 139), .bin .geq (.tmp 137) (.tmp 138), none⟩,
                        ⟨(some 10), .move (.tmp 139), none⟩])
                      (.seq
                       (.ops [
                         ⟨(some 140), .move (.tmp 0), none⟩,
                         ⟨(some 141), .move (.tmp 16), none⟩,
                         ⟨(some 142), .bin .add (.tmp 141) (.const (.int .i64 1)), none⟩,
                         ⟨(some 143), .move (.tmp 2), none⟩,
                         ⟨(some 144), .move (.tmp 3), none⟩,
                         ⟨(some 145), .move (.tmp 4), none⟩,
                         ⟨(some 146), .call 23 [(.tmp 140), (.tmp 142), (.tmp 143), (.tmp 144), (.tmp 145)], none⟩])
                       (.ops [
                         ⟨(some 147), .move (.tmp 16), none⟩,
                         ⟨(some 2), .move (.tmp 147), none⟩]))))))))))))))))))))))⟩
theorem t23_ok : goodFn Try.prog 23 = true ∧ cfn Try.prog 23 = t23 := ⟨by kernel_rfl, by kernel_rfl⟩

/-- math/bits.Len -/
def t24 : NFn := ⟨8, [(.tmp 2)],
  (.seq
   (.ops [
     ⟨(some 2), .move (.const (.int .i64 0)), none⟩])
   (.seq
    (.cond (.const (.bool false))
     (.seq
      (.ops [
        ⟨(some 3), .move (.tmp 0), none⟩,
        ⟨(some 4), .conv .u32 (.tmp 3), none⟩,
        ⟨(some 5), .call 34 [(.tmp 4)], none⟩,
        ⟨(some 2), .move (.tmp 5), none⟩])
      .ret)
     .skip)
    (.seq
     (.ops [
       ⟨(some 6), .move (.tmp 0), none⟩,
       ⟨(some 7), .call 35 [(.tmp 6)], none⟩,
       ⟨(some 2), .move (.tmp 7), none⟩])
     .ret)))⟩
theorem t24_ok : goodFn Try.prog 24 = true ∧ cfn Try.prog 24 = t24 := ⟨by kernel_rfl, by kernel_rfl⟩

/-- matchguard/matchguardref11.compare -/
def t25 : NFn := ⟨21, [(.tmp 4)],
  (.seq
   (.ops [
     ⟨(some 2), .box (.tmp 0), none⟩,
     ⟨(some 3), .box (.tmp 1), none⟩,
     ⟨(some 4), .move (.const (.int .i64 0)), none⟩])
   (.seq
    (.seq
     (.ops [
       ⟨(some 7), .move (.const (.int .i64 0)), none⟩])
     (.block 0
      (.loop
       (.seq
        (.ops [
          ⟨(some 8), .bin .lss (.tmp 7) (.const (.int .i64 4)), none⟩])
        (.seq
         (.cond (.tmp 8)
          .skip
          (.exit 0))
         (.seq
          (.block 1
           (.seq
            (.ops [
              ⟨(some 9), .move (.tmp 7), none⟩,
              ⟨(some 5), .move (.tmp 9), none⟩])
            (.seq
             (.draw 0 [
               ⟨0, ⟨(some 10), .move (.tmp 5), none⟩, [], 0⟩,
               ⟨1, ⟨(some 11), .idxArr (.tmp 2) (.tmp 10) 4 2, none⟩, [0], 0⟩,
               ⟨2, ⟨(some 12), .load 2 true (.tmp 11), none⟩, [1, 0], 0⟩,
               ⟨3, ⟨(some 13), .move (.tmp 5), none⟩, [], 0⟩,
               ⟨4, ⟨(some 14), .idxArr (.tmp 3) (.tmp 13) 4 2, none⟩, [3], 0⟩,
               ⟨5, ⟨(some 15), .load 2 true (.tmp 14), none⟩, [4, 3], 0⟩,
               ⟨6, ⟨(some 16), .call 36 [(.tmp 12), (.tmp 15)], none⟩, [2, 1, 0, 5, 4, 3], 0⟩,
               ⟨7, ⟨(some 6), .move (.tmp 16), none⟩, [6, 2, 1, 0, 5, 4, 3], 0⟩])
             (.seq
              (.ops [
                ⟨(some 17), .move (.tmp 6), none⟩,
                ⟨(some 18), .bin .neq (.tmp 17) (.const (.int .i64 0)), none⟩])
              (.cond (.tmp 18)
               (.seq
                (.ops [
                  ⟨(some 19), .move (.tmp 6), none⟩,
                  ⟨(some 4), .move (.tmp 19), none⟩])
                .ret)
               .skip)))))
          (.ops [
            ⟨(some 20), .bin .add (.tmp 7) (.const (.int .i64 1)), none⟩,
            ⟨(some 7), .move (.tmp 20), none⟩])))))))
    (.seq
     (.ops [
       ⟨(some 4), .move (.const (.int .i64 0)), none⟩])
     .ret)))⟩
theorem t25_ok : goodFn Try.prog 25 = true ∧ cfn Try.prog 25 = t25 := ⟨by kernel_rfl, by kernel_rfl⟩

/-- slices.insertionSortCmpFunc[matchguard/exact.Pair] -/
def t26 : NFn := ⟨53, [],
  (.seq
   (.ops [
     ⟨(some 10), .move (.tmp 1), none⟩,
     ⟨(some 11), .bin .add (.tmp 10) (.const (.int .i64 1)), none⟩,
     ⟨(some 8), .move (.tmp 11), none⟩])
   (.block 0
    (.loop
     (.seq
      (.seq
       (.ops [
         ⟨(some 12), .move (.tmp 8), none⟩,
         ⟨(some 13), .move (.tmp 2), none⟩,
         ⟨(some 14), .bin .lss (.tmp 12) (.tmp 13), none⟩])
       (.cond (.tmp 14)
        .skip
        (.exit 0)))
      (.seq
       (.block 1
        (.seq
         (.ops [
           ⟨(some 17), .move (.tmp 8), none⟩,
           ⟨(some 9), .move (.tmp 17), none⟩])
         (.block 2
          (.loop
           (.seq
            (.seq
             (.draw 0 [
               ⟨0, ⟨(some 18), .move (.tmp 9), none⟩, [], 0⟩,
               ⟨1, ⟨(some 19), .move (.tmp 1), none⟩, [], 0⟩,
               ⟨2, ⟨(some 20), .bin .gtr (.tmp 18) (.tmp 19), none⟩, [0, 1], 0⟩,
               ⟨3, ⟨(some 21), .move (.tmp 20), none⟩, [2, 0, 1], 0⟩,
               ⟨4, ⟨(some 22), .move (.tmp 3), (some (21, true))⟩, [3, 2, 0, 1], 0⟩,
               ⟨5, ⟨(some 23), .move (.tmp 0), (some (21, true))⟩, [3, 2, 0, 1], 0⟩,
               ⟨6, ⟨(some 24), .move (.tmp 9), (some (21, true))⟩, [3, 2, 0, 1], 0⟩,
               ⟨7, ⟨(some 25), .idxSl (.tmp 23) (.tmp 24) 9, (some (21, true))⟩, [5, 3, 2, 0, 1, 6], 0⟩,
               ⟨8, ⟨(some 26), .load 9 true (.tmp 25), (some (21, true))⟩, [7, 5, 3, 2, 0, 1, 6], 0⟩,
               ⟨9, ⟨(some 27), .move (.tmp 0), (some (21, true))⟩, [3, 2, 0, 1], 0⟩,
               ⟨10, ⟨(some 28), .move (.tmp 9), (some (21, true))⟩, [3, 2, 0, 1], 0⟩,
               ⟨11, ⟨(some 29), .bin .sub (.tmp 28) (.const (.int .i64 1)), (some (21, true))⟩, [10, 3, 2, 0, 1], 0⟩,
               ⟨12, ⟨(some 30), .idxSl (.tmp 27) (.tmp 29) 9, (some (21, true))⟩, [9, 3, 2, 0, 1, 11, 10], 0⟩,
               ⟨13, ⟨(some 31), .load 9 true (.tmp 30), (some (21, true))⟩, [12, 9, 3, 2, 0, 1, 11, 10], 0⟩,
               ⟨14, ⟨(some 32), .callv (.tmp 22) [(.tmp 26), (.tmp 31)], (some (21, true))⟩, [4, 3, 2, 0, 1, 8, 7, 5, 6, 13, 12, 9, 11, 10], 0⟩,
               ⟨15, ⟨(some 33), .bin .lss (.tmp 32) (.const (.int .i64 0)), (some (21, true))⟩, [14, 4, 3, 2, 0, 1, 8, 7, 5, 6, 13, 12, 9, 11, 10], 0⟩,
               ⟨16, ⟨(some 34), .pick (.tmp 21) (.tmp 33) (.const (.bool false)), none⟩, [3, 2, 0, 1, 15, 14, 4, 8, 7, 5, 6, 13, 12, 9, 11, 10], 0⟩])
             (.cond (.tmp 34)
              .skip
              (.exit 2)))
            (.seq
             (.block 3
              (.draw 0 [
                ⟨0, ⟨(some 37), .move (.tmp 0), none⟩, [], 0⟩,
                ⟨1, ⟨(some 38), .move (.tmp 9), none⟩, [], 0⟩,
                ⟨2, ⟨(some 39), .move (.tmp 0), none⟩, [], 0⟩,
                ⟨3, ⟨(some 40), .move (.tmp 9), none⟩, [], 0⟩,
                ⟨4, ⟨(some 41), .bin .sub (.tmp 40) (.const (.int .i64 1)), none⟩, [3], 0⟩,
                ⟨5, ⟨(some 42), .move (.tmp 0), none⟩, [], 0⟩,
                ⟨6, ⟨(some 43), .move (.tmp 9), none⟩, [], 0⟩,
                ⟨7, ⟨(some 44), .bin .sub (.tmp 43) (.const (.int .i64 1)), none⟩, [6], 0⟩,
                ⟨8, ⟨(some 45), .idxSl (.tmp 42) (.tmp 44) 9, none⟩, [5, 7, 6], 0⟩,
                ⟨9, ⟨(some 46), .load 9 true (.tmp 45), none⟩, [8, 5, 7, 6], 0⟩,
                ⟨10, ⟨(some 47), .move (.tmp 0), none⟩, [], 0⟩,
                ⟨11, ⟨(some 48), .move (.tmp 9), none⟩, [], 0⟩,
                ⟨12, ⟨(some 49), .idxSl (.tmp 47) (.tmp 48) 9, none⟩, [10, 11], 0⟩,
                ⟨13, ⟨(some 50), .load 9 true (.tmp 49), none⟩, [12, 10, 11], 0⟩,
                ⟨14, ⟨(some 51), .idxSl (.tmp 37) (.tmp 38) 9, none⟩, [0, 1, 5, 6, 7, 8, 9, 13, 12, 10, 11], 0⟩,
                ⟨15, ⟨none, .store 9 (.tmp 51) (.tmp 46), none⟩, [14, 0, 1, 5, 6, 7, 8, 9, 13, 12, 10, 11], 0⟩,
                ⟨16, ⟨(some 52), .idxSl (.tmp 39) (.tmp 41) 9, none⟩, [2, 4, 3, 0, 1, 5, 6, 7, 8, 9, 10, 11, 12, 13, 14, 15], 0⟩,
                ⟨17, ⟨none, .store 9 (.tmp 52) (.tmp 50), none⟩, [16, 2, 4, 3, 0, 1, 5, 6, 7, 8, 9, 10, 11, 12, 13, 14, 15], 0⟩]))
             (.ops [
               ⟨(some 35), .move (.tmp 9), none⟩,
               ⟨(some 36), .bin .sub (.tmp 35) (.const (.int .i64 1)), none⟩,
               ⟨(some 9), .move (.tmp 36), none⟩])))))))
       (.ops [
         ⟨(some 15), .move (.tmp 8), none⟩,
         ⟨(some 16), .bin .add (.tmp 15) (.const (.int .i64 1)), none⟩,
         ⟨(some 8), .move (.tmp 16), none⟩]))))))⟩
theorem t26_ok : goodFn Try.prog 26 = true ∧ cfn Try.prog 26 = t26 := ⟨by kernel_rfl, by kernel_rfl⟩

/-- slices.heapSortCmpFunc[matchguard/exact.Pair] -/
def t27 : NFn := ⟨60, [],
  (.seq
   (.ops [
     ⟨(some 13), .move (.tmp 1), none⟩,
     ⟨(some 8), .move (.tmp 13), none⟩])
   (.seq
    (.ops [
      ⟨(some 9), .move (.const (.int .i64 0)), none⟩])
    (.seq
     (.ops [
       ⟨(some 14), .move (.tmp 2), none⟩,
       ⟨(some 15), .move (.tmp 1), none⟩,
       ⟨(some 16), .bin .sub (.tmp 14) (.tmp 15), none⟩,
       ⟨(some 10), .move (.tmp 16), none⟩])
     (.seq
      (.seq
       (.ops [
         ⟨(some 17), .move (.tmp 10), none⟩,
         ⟨(some 18), .bin .sub (.tmp 17) (.const (.int .i64 1)), none⟩,
         ⟨(some 19), .bin .quo (.tmp 18) (.const (.int .i64 2)), none⟩,
         ⟨(some 11), .move (.tmp 19), none⟩])
       (.block 0
        (.loop
         (.seq
          (.seq
           (.ops [
             ⟨(some 20), .move (.tmp 11), none⟩,
             ⟨(some 21), .bin .geq (.tmp 20) (.const (.int .i64 0)), none⟩])
           (.cond (.tmp 21)
            .skip
            (.exit 0)))
          (.seq
           (.block 1
            (.ops [
              ⟨(some 24), .move (.tmp 0), none⟩,
              ⟨(some 25), .move (.tmp 11), none⟩,
              ⟨(some 26), .move (.tmp 10), none⟩,
              ⟨(some 27), .move (.tmp 8), none⟩,
              ⟨(some 28), .move (.tmp 3), none⟩,
              ⟨(some 29), .call 37 [(.tmp 24), (.tmp 25), (.tmp 26), (.tmp 27), (.tmp 28)], none⟩]))
           (.ops [
             ⟨(some 22), .move (.tmp 11), none⟩,
             ⟨(some 23), .bin .sub (.tmp 22) (.const (.int .i64 1)), none⟩,
             ⟨(some 11), .move (.tmp 23), none⟩]))))))
      (.seq
       (.ops [
         ⟨(some 30), .move (.tmp 10), none⟩,
         ⟨(some 31), .bin .sub (.tmp 30) (.const (.int .i64 1)), none⟩,
         ⟨(some 12), .move (.tmp 31), none⟩])
       (.block 2
        (.loop
         (.seq
          (.seq
           (.ops [
             ⟨(some 32), .move (.tmp 12), none⟩,
             ⟨(some 33), .bin .geq (.tmp 32) (.const (.int .i64 0)), none⟩])
           (.cond (.tmp 33)
            .skip
            (.exit 2)))
          (.seq
           (.block 3
            (.seq
             (.draw 0 [
               ⟨0, ⟨(some 36), .move (.tmp 0), none⟩, [], 0⟩,
               ⟨1, ⟨(some 37), .move (.tmp 8), none⟩, [], 0⟩,
               ⟨2, ⟨(some 38), .move (.tmp 0), none⟩, [], 0⟩,
               ⟨3, ⟨(some 39), .move (.tmp 8), none⟩, [], 0⟩,
               ⟨4, ⟨(some 40), .move (.tmp 12), none⟩, [], 0⟩,
               ⟨5, ⟨(some 41), .bin .add (.tmp 39) (.tmp 40), none⟩, [3, 4], 0⟩,
               ⟨6, ⟨(some 42), .move (.tmp 0), none⟩, [], 0⟩,
               ⟨7, ⟨(some 43), .move (.tmp 8), none⟩, [], 0⟩,
               ⟨8, ⟨(some 44), .move (.tmp 12), none⟩, [], 0⟩,
               ⟨9, ⟨(some 45), .bin .add (.tmp 43) (.tmp 44), none⟩, [7, 8], 0⟩,
               ⟨10, ⟨(some 46), .idxSl (.tmp 42) (.tmp 45) 9, none⟩, [6, 9, 7, 8], 0⟩,
               ⟨11, ⟨(some 47), .load 9 true (.tmp 46), none⟩, [10, 6, 9, 7, 8], 0⟩,
               ⟨12, ⟨(some 48), .move (.tmp 0), none⟩, [], 0⟩,
               ⟨13, ⟨(some 49), .move (.tmp 8), none⟩, [], 0⟩,
               ⟨14, ⟨(some 50), .idxSl (.tmp 48) (.tmp 49) 9, none⟩, [12, 13], 0⟩,
               ⟨15, ⟨(some 51), .load 9 true (.tmp 50), none⟩, [14, 12, 13], 0⟩,
               ⟨16, ⟨(some 52), .idxSl (.tmp 36) (.tmp 37) 9, none⟩, [0, 1, 6, 7, 8, 9, 10, 11, 15, 14, 12, 13], 0⟩,
               ⟨17, ⟨none, .store 9 (.tmp 52) (.tmp 47), none⟩, [16, 0, 1, 6, 7, 8, 9, 10, 11, 15, 14, 12, 13], 0⟩,
               ⟨18, ⟨(some 53), .idxSl (.tmp 38) (.tmp 41) 9, none⟩, [2, 5, 3, 4, 0, 1, 6, 7, 8, 9, 10, 11, 12, 13, 14, 15, 16, 17], 0⟩,
               ⟨19, ⟨none, .store 9 (.tmp 53) (.tmp 51), none⟩, [18, 2, 5, 3, 4, 0, 1, 6, 7, 8, 9, 10, 11, 12, 13, 14, 15, 16, 17], 0⟩])
             (.ops [
               ⟨(some 54), .move (.tmp 0), none⟩,
               ⟨(some 55), .move (.tmp 9), none⟩,
               ⟨(some 56), .move (.tmp 12), none⟩,
               ⟨(some 57), .move (.tmp 8), none⟩,
               ⟨(some 58), .move (.tmp 3), none⟩,
               ⟨(some 59), .call 37 [(.tmp 54), (.tmp 55), (.tmp 56), (.tmp 57), (.tmp 58)], none⟩])))
           (.ops [
             ⟨(some 34), .move (.tmp 12), none⟩,
             ⟨(some 35), .bin .sub (.tmp 34) (.const (.int .i64 1)), none⟩,
             ⟨(some 12), .move (.tmp 35), none⟩]))))))))))⟩
theorem t27_ok : goodFn Try.prog 27 = true ∧ cfn Try.prog 27 = t27 := ⟨by kernel_rfl, by kernel_rfl⟩

/-- slices.breakPatternsCmpFunc[matchguard/exact.Pair] -/
def t28 : NFn := ⟨67, [],
  (.seq
   (.ops [
     ⟨(some 13), .move (.tmp 2), none⟩,
     ⟨(some 14), .move (.tmp 1), none⟩,
     ⟨(some 15), .bin .sub (.tmp 13) (.tmp 14), none⟩,
     ⟨(some 8), .move (.tmp 15), none⟩])
   (.seq
    (.ops [
      ⟨(some 16), .move (.tmp 8), none⟩,
      ⟨(some 17), .bin .geq (.tmp 16) (.const (.int .i64 8)), none⟩])
    (.cond (.tmp 17)
     (.seq
      (.ops [
        ⟨(some 18), .move (.tmp 8), none⟩,
        ⟨(some 19), .conv .u64 (.tmp 18), none⟩,
        ⟨(some 9), .alloc [(.int .u64 0)], none⟩,
        ⟨none, .store 1 (.tmp 9) (.tmp 19), none⟩])
      (.seq
       (.ops [
         ⟨(some 20), .move (.tmp 8), none⟩,
         ⟨(some 21), .call 38 [(.tmp 20)], none⟩,
         ⟨(some 10), .move (.tmp 21), none⟩])
       (.seq
        (.ops [
          ⟨(some 22), .move (.tmp 1), none⟩,
          ⟨(some 23), .move (.tmp 8), none⟩,
          ⟨(some 24), .bin .quo (.tmp 23) (.const (.int .i64 4)), none⟩,
          ⟨(some 25), .bin .mul (.tmp 24) (.const (.int .i64 2)), none⟩,
          ⟨(some 26), .bin .add (.tmp 22) (.tmp 25), none⟩,
          ⟨(some 27), .bin .sub (.tmp 26) (.const (.int .i64 1)), none⟩,
          ⟨(some 11), .move (.tmp 27), none⟩])
        (.block 0
         (.loop
          (.seq
           (.seq
            (.ops [
              ⟨(some 28), .move (.tmp 11), none⟩,
              ⟨(some 29), .move (.tmp 1), none⟩,
              ⟨(some 30), .move (.tmp 8), none⟩,
              ⟨(some 31), .bin .quo (.tmp 30) (.const (.int .i64 4)), none⟩,
              ⟨(some 32), .bin .mul (.tmp 31) (.const (.int .i64 2)), none⟩,
              ⟨(some 33), .bin .add (.tmp 29) (.tmp 32), none⟩,
              ⟨(some 34), .bin .add (.tmp 33) (.const (.int .i64 1)), none⟩,
              ⟨(some 35), .bin .leq (.tmp 28) (.tmp 34), none⟩])
            (.cond (.tmp 35)
             .skip
             (.exit 0)))
           (.seq
            (.block 1
             (.seq
              (.ops [
                ⟨(some 38), .call 39 [(.tmp 9)], none⟩,
                ⟨(some 39), .move (.tmp 10), none⟩,
                ⟨(some 40), .bin .sub (.tmp 39) (.const (.int .u64 1)), none⟩,
                ⟨(some 41), .bin .and (.tmp 38) (.tmp 40), none⟩,
                ⟨(some 42), .conv .i64 (.tmp 41), none⟩,
                ⟨(some 12), .move (.tmp 42), none⟩])
              (.seq
               (.seq
                (.ops [
                  ⟨(some 43), .move (.tmp 12), none⟩,
                  ⟨(some 44), .move (.tmp 8), none⟩,
                  ⟨(some 45), .bin .geq (.tmp 43) (.tmp 44), none⟩])
                (.cond (.tmp 45)
                 (.ops [
                   ⟨(some 46), .move (.tmp 12), none⟩,
                   ⟨(some 47), .move (.tmp 8), none⟩,
                   ⟨(some 48), .bin .sub (.tmp 46) (.tmp 47), none⟩,
                   ⟨(some 12), .move (.tmp 48), none⟩])
                 .skip))
               (.draw 0 [
                 ⟨0, ⟨(some 49), .move (.tmp 0), none⟩, [], 0⟩,
                 ⟨1, ⟨(some 50), .move (.tmp 11), none⟩, [], 0⟩,
                 ⟨2, ⟨(some 51), .move (.tmp 0), none⟩, [], 0⟩,
                 ⟨3, ⟨(some 52), .move (.tmp 1), none⟩, [], 0⟩,
                 ⟨4, ⟨(some 53), .move (.tmp 12), none⟩, [], 0⟩,
                 ⟨5, ⟨(some 54), .bin .add (.tmp 52) (.tmp 53), none⟩, [3, 4], 0⟩,
                 ⟨6, ⟨(some 55), .move (.tmp 0), none⟩, [], 0⟩,
                 ⟨7, ⟨(some 56), .move (.tmp 1), none⟩, [], 0⟩,
                 ⟨8, ⟨(some 57), .move (.tmp 12), none⟩, [], 0⟩,
                 ⟨9, ⟨(some 58), .bin .add (.tmp 56) (.tmp 57), none⟩, [7, 8], 0⟩,
                 ⟨10, ⟨(some 59), .idxSl (.tmp 55) (.tmp 58) 9, none⟩, [6, 9, 7, 8], 0⟩,
                 ⟨11, ⟨(some 60), .load 9 true (.tmp 59), none⟩, [10, 6, 9, 7, 8], 0⟩,
                 ⟨12, ⟨(some 61), .move (.tmp 0), none⟩, [], 0⟩,
                 ⟨13, ⟨(some 62), .move (.tmp 11), none⟩, [], 0⟩,
                 ⟨14, ⟨(some 63), .idxSl (.tmp 61) (.tmp 62) 9, none⟩, [12, 13], 0⟩,
                 ⟨15, ⟨(some 64), .load 9 true (.tmp 63), none⟩, [14, 12, 13], 0⟩,
                 ⟨16, ⟨(some 65), .idxSl (.tmp 49) (.tmp 50) 9, none⟩, [0, 1, 6, 7, 8, 9, 10, 11, 15, 14, 12, 13], 0⟩,
                 ⟨17, ⟨none, .store 9 (.tmp 65) (.tmp 60), none⟩, [16, 0, 1, 6, 7, 8, 9, 10, 11, 15, 14, 12, 13], 0⟩,
                 ⟨18, ⟨(some 66), .idxSl (.tmp 51) (.tmp 54) 9, none⟩, [2, 5, 3, 4, 0, 1, 6, 7, 8, 9, 10, 11, 12, 13, 14, 15, 16, 17], 0⟩,
                 ⟨19, ⟨none, .store 9 (.tmp 66) (.tmp 64), none⟩, [18, 2, 5, 3, 4, 0, 1, 6, 7, 8, 9, 10, 11, 12, 13, 14, 15, 16, 17], 0⟩]))))
            (.ops [
              ⟨(some 36), .move (.tmp 11), none⟩,
              ⟨(some 37), .bin .add (.tmp 36) (.const (.int .i64 1)), none⟩,
              ⟨(some 11), .move (.tmp 37), none⟩]))))))))
     .skip)))⟩
theorem t28_ok : goodFn Try.prog 28 = true ∧ cfn Try.prog 28 = t28 := ⟨by kernel_rfl, by kernel_rfl⟩

/-- slices.choosePivotCmpFunc[matchguard/exact.Pair] -/
def t29 : NFn := ⟨63, [(.tmp 8), (.tmp 9)],
  (.seq
   (.ops [
     ⟨(some 8), .move (.const (.int .i64 0)), none⟩,
     ⟨(some 9), .move (.const (.int .i64 0)), none⟩])
   (.seq
    (.ops [
      ⟨(some 15), .move (.tmp 2), none⟩,
      ⟨(some 16), .move (.tmp 1), none⟩,
      ⟨(some 17), .bin .sub (.tmp 15) (.tmp 16), none⟩,
      ⟨(some 10), .move (.tmp 17), none⟩])
    (.seq
     (.ops [
       ⟨(some 11), .alloc [(.int .i64 0)], none⟩])
     (.seq
      (.ops [
        ⟨(some 18), .move (.tmp 1), none⟩,
        ⟨(some 19), .move (.tmp 10), none⟩,
        ⟨(some 20), .bin .quo (.tmp 19) (.const (.int .i64 4)), none⟩,
        ⟨(some 21), .bin .mul (.tmp 20) (.const (.int .i64 1)), none⟩,
        ⟨(some 22), .bin .add (.tmp 18) (.tmp 21), none⟩,
        ⟨(some 12), .move (.tmp 22), none⟩])
      (.seq
       (.ops [
         ⟨(some 23), .move (.tmp 1), none⟩,
         ⟨(some 24), .move (.tmp 10), none⟩,
         ⟨(some 25), .bin .quo (.tmp 24) (.const (.int .i64 4)), none⟩,
         ⟨(some 26), .bin .mul (.tmp 25) (.const (.int .i64 2)), none⟩,
         ⟨(some 27), .bin .add (.tmp 23) (.tmp 26), none⟩,
         ⟨(some 13), .move (.tmp 27), none⟩])
       (.seq
        (.ops [
          ⟨(some 28), .move (.tmp 1), none⟩,
          ⟨(some 29), .move (.tmp 10), none⟩,
          ⟨(some 30), .bin .quo (.tmp 29) (.const (.int .i64 4)), none⟩,
          ⟨(some 31), .bin .mul (.tmp 30) (.const (.int .i64 3)), none⟩,
          ⟨(some 32), .bin .add (.tmp 28) (.tmp 31), none⟩,
          ⟨(some 14), .move (.tmp 32), none⟩])
        (.seq
         (.seq
          (.ops [
            ⟨(some 33), .move (.tmp 10), none⟩,
            ⟨(some 34), .bin .geq (.tmp 33) (.const (.int .i64 8)), none⟩])
          (.cond (.tmp 34)
           (.seq
            (.seq
             (.ops [
               ⟨(some 35), .move (.tmp 10), none⟩,
               ⟨(some 36), .bin .geq (.tmp 35) (.const (.int .i64 50)), none⟩])
             (.cond (.tmp 36)
              (.seq
               (.ops [
                 ⟨(some 37), .move (.tmp 0), none⟩,
                 ⟨(some 38), .move (.tmp 12), none⟩,
                 ⟨(some 39), .move (.tmp 3), none⟩,
                 ⟨(some 40), .call 40 [(.tmp 37), (.tmp 38), (.tmp 11), (.tmp 39)], none⟩,
                 ⟨(some 12), .move (.tmp 40), none⟩])
               (.seq
                (.ops [
                  ⟨(some 41), .move (.tmp 0), none⟩,
                  ⟨(some 42), .move (.tmp 13), none⟩,
                  ⟨(some 43), .move (.tmp 3), none⟩,
                  ⟨(some 44), .call 40 [(.tmp 41), (.tmp 42), (.tmp 11), (.tmp 43)], none⟩,
                  ⟨(some 13), .move (.tmp 44), none⟩])
                (.ops [
                  ⟨(some 45), .move (.tmp 0), none⟩,
                  ⟨(some 46), .move (.tmp 14), none⟩,
                  ⟨(some 47), .move (.tmp 3), none⟩,
                  ⟨(some 48), .call 40 [(.tmp 45), (.tmp 46), (.tmp 11), (.tmp 47)], none⟩,
                  ⟨(some 14), .move (.tmp 48), none⟩])))
              .skip))
            (.ops [
              ⟨(some 49), .move (.tmp 0), none⟩,
              ⟨(some 50), .move (.tmp 12), none⟩,
              ⟨(some 51), .move (.tmp 13), none⟩,
              ⟨(some 52), .move (.tmp 14), none⟩,
              ⟨(some 53), .move (.tmp 3), none⟩,
              ⟨(some 54), .call 41 [(.tmp 49), (.tmp 50), (.tmp 51), (.tmp 52), (.tmp 11), (.tmp 53)], none⟩,
              ⟨(some 13), .move (.tmp 54), none⟩]))
           .skip))
         (.seq
          (.ops [
            ⟨(some 55), .load 1 false (.tmp 11), none⟩])
          (.block 0
           (.seq
            (.ops [
              ⟨(some 58), .bin .eql (.tmp 55) (.const (.int .i64 0)), none⟩,
              ⟨(some 57), .move (.tmp 58), none⟩])
            (.cond (.tmp 57)
             (.seq
              (.ops [
                ⟨(some 59), .move (.tmp 13), none⟩,
                ⟨(some 8), .move (.tmp 59), none⟩,
                ⟨(some 9), .move (.const (.int .i64 1)), none⟩])
              .ret)
             (.seq
              (.ops [
                ⟨(some 61), .bin .eql (.tmp 55) (.const (.int .i64 12)), none⟩,
                ⟨(some 60), .move (.tmp 61), none⟩])
              (.cond (.tmp 60)
               (.seq
                (.ops [
                  ⟨(some 62), .move (.tmp 13), none⟩,
                  ⟨(some 8), .move (.tmp 62), none⟩,
                  ⟨(some 9), .move (.const (.int .i64 2)), none⟩])
                .ret)
               (.seq
                (.ops [
                  ⟨(some 56), .move (.tmp 13), none⟩,
                  ⟨(some 8), .move (.tmp 56), none⟩,
                  ⟨(some 9), .move (.const (.int .i64 0)), none⟩])
                .ret))))))))))))))⟩
theorem t29_ok : goodFn Try.prog 29 = true ∧ cfn Try.prog 29 = t29 := ⟨by kernel_rfl, by kernel_rfl⟩

/-- slices.reverseRangeCmpFunc[matchguard/exact.Pair] -/
def t30 : NFn := ⟨34, [],
  (.seq
   (.ops [
     ⟨(some 10), .move (.tmp 1), none⟩,
     ⟨(some 8), .move (.tmp 10), none⟩])
   (.seq
    (.ops [
      ⟨(some 11), .move (.tmp 2), none⟩,
      ⟨(some 12), .bin .sub (.tmp 11) (.const (.int .i64 1)), none⟩,
      ⟨(some 9), .move (.tmp 12), none⟩])
    (.block 0
     (.loop
      (.seq
       (.seq
        (.ops [
          ⟨(some 13), .move (.tmp 8), none⟩,
          ⟨(some 14), .move (.tmp 9), none⟩,
          ⟨(some 15), .bin .lss (.tmp 13) (.tmp 14), none⟩])
        (.cond (.tmp 15)
         .skip
         (.exit 0)))
       (.block 1
        (.seq
         (.draw 0 [
           ⟨0, ⟨(some 16), .move (.tmp 0), none⟩, [], 0⟩,
           ⟨1, ⟨(some 17), .move (.tmp 8), none⟩, [], 0⟩,
           ⟨2, ⟨(some 18), .move (.tmp 0), none⟩, [], 0⟩,
           ⟨3, ⟨(some 19), .move (.tmp 9), none⟩, [], 0⟩,
           ⟨4, ⟨(some 20), .move (.tmp 0), none⟩, [], 0⟩,
           ⟨5, ⟨(some 21), .move (.tmp 9), none⟩, [], 0⟩,
           ⟨6, ⟨(some 22), .idxSl (.tmp 20) (.tmp 21) 9, none⟩, [4, 5], 0⟩,
           ⟨7, ⟨(some 23), .load 9 true (.tmp 22), none⟩, [6, 4, 5], 0⟩,
           ⟨8, ⟨(some 24), .move (.tmp 0), none⟩, [], 0⟩,
           ⟨9, ⟨(some 25), .move (.tmp 8), none⟩, [], 0⟩,
           ⟨10, ⟨(some 26), .idxSl (.tmp 24) (.tmp 25) 9, none⟩, [8, 9], 0⟩,
           ⟨11, ⟨(some 27), .load 9 true (.tmp 26), none⟩, [10, 8, 9], 0⟩,
           ⟨12, ⟨(some 28), .idxSl (.tmp 16) (.tmp 17) 9, none⟩, [0, 1, 4, 5, 6, 7, 11, 10, 8, 9], 0⟩,
           ⟨13, ⟨none, .store 9 (.tmp 28) (.tmp 23), none⟩, [12, 0, 1, 4, 5, 6, 7, 11, 10, 8, 9], 0⟩,
           ⟨14, ⟨(some 29), .idxSl (.tmp 18) (.tmp 19) 9, none⟩, [2, 3, 0, 1, 4, 5, 6, 7, 8, 9, 10, 11, 12, 13], 0⟩,
           ⟨15, ⟨none, .store 9 (.tmp 29) (.tmp 27), none⟩, [14, 2, 3, 0, 1, 4, 5, 6, 7, 8, 9, 10, 11, 12, 13], 0⟩])
         (.seq
          (.ops [
            ⟨(some 30), .move (.tmp 8), none⟩,
            ⟨(some 31), .bin .add (.tmp 30) (.const (.int .i64 1)), none⟩,
            ⟨(some 8), .move (.tmp 31), none⟩])
          (.ops [
            ⟨(some 32), .move (.tmp 9), none⟩,
            ⟨(some 33), .bin .sub (.tmp 32) (.const (.int .i64 1)), none⟩,
            ⟨(some 9), .move (.tmp 33), none⟩])))))))))⟩
theorem t30_ok : goodFn Try.prog 30 = true ∧ cfn Try.prog 30 = t30 := ⟨by kernel_rfl, by kernel_rfl⟩

/-- slices.partialInsertionSortCmpFunc[matchguard/exact.Pair] -/
def t31 : NFn := ⟨141, [(.tmp 8)],
  (.seq
   (.ops [
     ⟨(some 8), .move (.const (.bool false)), none⟩])
   (.seq
    (.ops [
      ⟨(some 13), .move (.tmp 1), none⟩,
      ⟨(some 14), .bin .add (.tmp 13) (.const (.int .i64 1)), none⟩,
      ⟨(some 9), .move (.tmp 14), none⟩])
    (.seq
     (.seq
      (.ops [
        ⟨(some 10), .move (.const (.int .i64 0)), none⟩])
      (.block 0
       (.loop
        (.seq
         (.seq
          (.ops [
            ⟨(some 15), .move (.tmp 10), none⟩,
            ⟨(some 16), .bin .lss (.tmp 15) (.const (.int .i64 5)), none⟩])
          (.cond (.tmp 16)
           .skip
           (.exit 0)))
         (.seq
          (.block 1
           (.seq
            (.block 2
             (.loop
              (.seq
               (.seq
                (.draw 0 [
                  ⟨0, ⟨(some 19), .move (.tmp 9), none⟩, [], 0⟩,
                  ⟨1, ⟨(some 20), .move (.tmp 2), none⟩, [], 0⟩,
                  ⟨2, ⟨(some 21), .bin .lss (.tmp 19) (.tmp 20), none⟩, [0, 1], 0⟩,
                  ⟨3, ⟨(some 22), .move (.tmp 21), none⟩, [2, 0, 1], 0⟩,
                  ⟨4, ⟨(some 23), .move (.tmp 3), (some (22, true))⟩, [3, 2, 0, 1], 0⟩,
                  ⟨5, ⟨(some 24), .move (.tmp 0), (some (22, true))⟩, [3, 2, 0, 1], 0⟩,
                  ⟨6, ⟨(some 25), .move (.tmp 9), (some (22, true))⟩, [3, 2, 0, 1], 0⟩,
                  ⟨7, ⟨(some 26), .idxSl (.tmp 24) (.tmp 25) 9, (some (22, true))⟩, [5, 3, 2, 0, 1, 6], 0⟩,
                  ⟨8, ⟨(some 27), .load 9 true (.tmp 26), (some (22, true))⟩, [7, 5, 3, 2, 0, 1, 6], 0⟩,
                  ⟨9, ⟨(some 28), .move (.tmp 0), (some (22, true))⟩, [3, 2, 0, 1], 0⟩,
                  ⟨10, ⟨(some 29), .move (.tmp 9), (some (22, true))⟩, [3, 2, 0, 1], 0⟩,
                  ⟨11, ⟨(some 30), .bin .sub (.tmp 29) (.const (.int .i64 1)), (some (22, true))⟩, [10, 3, 2, 0, 1], 0⟩,
                  ⟨12, ⟨(some 31), .idxSl (.tmp 28) (.tmp 30) 9, (some (22, true))⟩, [9, 3, 2, 0, 1, 11, 10], 0⟩,
                  ⟨13, ⟨(some 32), .load 9 true (.tmp 31), (some (22, true))⟩, [12, 9, 3, 2, 0, 1, 11, 10], 0⟩,
                  ⟨14, ⟨(some 33), .callv (.tmp 23) [(.tmp 27), (.tmp 32)], (some (22, true))⟩, [4, 3, 2, 0, 1, 8, 7, 5, 6, 13, 12, 9, 11, 10], 0⟩,
                  ⟨15, ⟨(some 34), .bin .lss (.tmp 33) (.const (.int .i64 0)), (some (22, true))⟩, [14, 4, 3, 2, 0, 1, 8, 7, 5, 6, 13, 12, 9, 11, 10], 0⟩,
                  ⟨16, ⟨(some 35), .un .not (.tmp 34), (some (22, true))⟩, [15, 14, 4, 3, 2, 0, 1, 8, 7, 5, 6, 13, 12, 9, 11, 10], 0⟩,
                  ⟨17, ⟨(some 36), .pick (.tmp 22) (.tmp 35) (.const (.bool false)), none⟩, [3, 2, 0, 1, 16, 15, 14, 4, 8, 7, 5, 6, 13, 12, 9, 11, 10], 0⟩])
                (.cond (.tmp 36)
                 .skip
                 (.exit 2)))
               (.block 3
                (.ops [
                  ⟨(some 37), .move (.tmp 9), none⟩,
                  ⟨(some 38), .bin .add (.tmp 37) (.const (.int .i64 1)), none⟩,
                  ⟨(some 9), .move (.tmp 38), none⟩])))))
            (.seq
             (.seq
              (.ops [
                ⟨(some 39), .move (.tmp 9), none⟩,
                ⟨(some 40), .move (.tmp 2), none⟩,
                ⟨(some 41), .bin .eql (.tmp 39) (.tmp 40), none⟩])
              (.cond (.tmp 41)
               (.seq
                (.ops [
                  ⟨(some 8), .move (.const (.bool true)), none⟩])
                .ret)
               .skip))
             (.seq
              (.seq
               (.ops [
                 ⟨(some 42), .move (.tmp 2), none⟩,
                 ⟨(some 43), .move (.tmp 1), none⟩,
                 ⟨(some 44), .bin .sub (.tmp 42) (.tmp 43), none⟩,
                 ⟨(some 45), .bin .lss (.tmp 44) (.const (.int .i64 50)), none⟩])
               (.cond (.tmp 45)
                (.seq
                 (.ops [
                   ⟨(some 8), .move (.const (.bool false)), none⟩])
                 .ret)
                .skip))
              (.seq
               (.draw 0 [
                 ⟨0, ⟨(some 46), .move (.tmp 0), none⟩, [], 0⟩,
                 ⟨1, ⟨(some 47), .move (.tmp 9), none⟩, [], 0⟩,
                 ⟨2, ⟨(some 48), .move (.tmp 0), none⟩, [], 0⟩,
                 ⟨3, ⟨(some 49), .move (.tmp 9), none⟩, [], 0⟩,
                 ⟨4, ⟨(some 50), .bin .sub (.tmp 49) (.const (.int .i64 1)), none⟩, [3], 0⟩,
                 ⟨5, ⟨(some 51), .move (.tmp 0), none⟩, [], 0⟩,
                 ⟨6, ⟨(some 52), .move (.tmp 9), none⟩, [], 0⟩,
                 ⟨7, ⟨(some 53), .bin .sub (.tmp 52) (.const (.int .i64 1)), none⟩, [6], 0⟩,
                 ⟨8, ⟨(some 54), .idxSl (.tmp 51) (.tmp 53) 9, none⟩, [5, 7, 6], 0⟩,
                 ⟨9, ⟨(some 55), .load 9 true (.tmp 54), none⟩, [8, 5, 7, 6], 0⟩,
                 ⟨10, ⟨(some 56), .move (.tmp 0), none⟩, [], 0⟩,
                 ⟨11, ⟨(some 57), .move (.tmp 9), none⟩, [], 0⟩,
                 ⟨12, ⟨(some 58), .idxSl (.tmp 56) (.tmp 57) 9, none⟩, [10, 11], 0⟩,
                 ⟨13, ⟨(some 59), .load 9 true (.tmp 58), none⟩, [12, 10, 11], 0⟩,
                 ⟨14, ⟨(some 60), .idxSl (.tmp 46) (.tmp 47) 9, none⟩, [0, 1, 5, 6, 7, 8, 9, 13, 12, 10, 11], 0⟩,
                 ⟨15, ⟨none, .store 9 (.tmp 60) (.tmp 55), none⟩, [14, 0, 1, 5, 6, 7, 8, 9, 13, 12, 10, 11], 0⟩,
                 ⟨16, ⟨(some 61), .idxSl (.tmp 48) (.tmp 50) 9, none⟩, [2, 4, 3, 0, 1, 5, 6, 7, 8, 9, 10, 11, 12, 13, 14, 15], 0⟩,
                 ⟨17, ⟨none, .store 9 (.tmp 61) (.tmp 59), none⟩, [16, 2, 4, 3, 0, 1, 5, 6, 7, 8, 9, 10, 11, 12, 13, 14, 15], 0⟩])
               (.seq
                (.seq
                 (.ops [
                   ⟨(some 62), .move (.tmp 9), none⟩,
                   ⟨(some 63), .move (.tmp 1), none⟩,
                   ⟨(some 64), .bin .sub (.tmp 62) (.tmp 63), none⟩,
                   ⟨(some 65), .bin .geq (.tmp 64) (.const (.int .i64 2)), none⟩])
                 (.cond (.tmp 65)
                  (.seq
                   (.ops [
                     ⟨(some 66), .move (.tmp 9), none⟩,
                     ⟨(some 67), .bin .sub (.tmp 66) (.const (.int .i64 1)), none⟩,
                     ⟨(some 11), .move (.tmp 67), none⟩])
                   (.block 4
                    (.loop
                     (.seq
                      (.seq
                       (.ops [
                         ⟨(some 68), .move (.tmp 11), none⟩,
                         ⟨(some 69), .bin .geq (.tmp 68) (.const (.int .i64 1)), none⟩])
                       (.cond (.tmp 69)
                        .skip
                        (.exit 4)))
                      (.seq
                       (.block 5
                        (.seq
                         (.seq
                          (.draw 0 [
                            ⟨0, ⟨(some 72), .move (.tmp 3), none⟩, [], 0⟩,
                            ⟨1, ⟨(some 73), .move (.tmp 0), none⟩, [], 0⟩,
                            ⟨2, ⟨(some 74), .move (.tmp 11), none⟩, [], 0⟩,
                            ⟨3, ⟨(some 75), .idxSl (.tmp 73) (.tmp 74) 9, none⟩, [1, 2], 0⟩,
                            ⟨4, ⟨(some 76), .load 9 true (.tmp 75), none⟩, [3, 1, 2], 0⟩,
                            ⟨5, ⟨(some 77), .move (.tmp 0), none⟩, [], 0⟩,
                            ⟨6, ⟨(some 78), .move (.tmp 11), none⟩, [], 0⟩,
                            ⟨7, ⟨(some 79), .bin .sub (.tmp 78) (.const (.int .i64 1)), none⟩, [6], 0⟩,
                            ⟨8, ⟨(some 80), .idxSl (.tmp 77) (.tmp 79) 9, none⟩, [5, 7, 6], 0⟩,
                            ⟨9, ⟨(some 81), .load 9 true (.tmp 80), none⟩, [8, 5, 7, 6], 0⟩,
                            ⟨10, ⟨(some 82), .callv (.tmp 72) [(.tmp 76), (.tmp 81)], none⟩, [0, 4, 3, 1, 2, 9, 8, 5, 7, 6], 0⟩,
                            ⟨11, ⟨(some 83), .bin .lss (.tmp 82) (.const (.int .i64 0)), none⟩, [10, 0, 4, 3, 1, 2, 9, 8, 5, 7, 6], 0⟩,
                            ⟨12, ⟨(some 84), .un .not (.tmp 83), none⟩, [11, 10, 0, 4, 3, 1, 2, 9, 8, 5, 7, 6], 0⟩])
                          (.cond (.tmp 84)
                           (.exit 4)
                           .skip))
                         (.draw 0 [
                           ⟨0, ⟨(some 85), .move (.tmp 0), none⟩, [], 0⟩,
                           ⟨1, ⟨(some 86), .move (.tmp 11), none⟩, [], 0⟩,
                           ⟨2, ⟨(some 87), .move (.tmp 0), none⟩, [], 0⟩,
                           ⟨3, ⟨(some 88), .move (.tmp 11), none⟩, [], 0⟩,
                           ⟨4, ⟨(some 89), .bin .sub (.tmp 88) (.const (.int .i64 1)), none⟩, [3], 0⟩,
                           ⟨5, ⟨(some 90), .move (.tmp 0), none⟩, [], 0⟩,
                           ⟨6, ⟨(some 91), .move (.tmp 11), none⟩, [], 0⟩,
                           ⟨7, ⟨(some 92), .bin .sub (.tmp 91) (.const (.int .i64 1)), none⟩, [6], 0⟩,
                           ⟨8, ⟨(some 93), .idxSl (.tmp 90) (.tmp 92) 9, none⟩, [5, 7, 6], 0⟩,
                           ⟨9, ⟨(some 94), .load 9 true (.tmp 93), none⟩, [8, 5, 7, 6], 0⟩,
                           ⟨10, ⟨(some 95), .move (.tmp 0), none⟩, [], 0⟩,
                           ⟨11, ⟨(some 96), .move (.tmp 11), none⟩, [], 0⟩,
                           ⟨12, ⟨(some 97), .idxSl (.tmp 95) (.tmp 96) 9, none⟩, [10, 11], 0⟩,
                           ⟨13, ⟨(some 98), .load 9 true (.tmp 97), none⟩, [12, 10, 11], 0⟩,
                           ⟨14, ⟨(some 99), .idxSl (.tmp 85) (.tmp 86) 9, none⟩, [0, 1, 5, 6, 7, 8, 9, 13, 12, 10, 11], 0⟩,
                           ⟨15, ⟨none, .store 9 (.tmp 99) (.tmp 94), none⟩, [14, 0, 1, 5, 6, 7, 8, 9, 13, 12, 10, 11], 0⟩,
                           ⟨16, ⟨(some 100), .idxSl (.tmp 87) (.tmp 89) 9, none⟩, [2, 4, 3, 0, 1, 5, 6, 7, 8, 9, 10, 11, 12, 13, 14, 15], 0⟩,
                           ⟨17, ⟨none, .store 9 (.tmp 100) (.tmp 98), none⟩, [16, 2, 4, 3, 0, 1, 5, 6, 7, 8, 9, 10, 11, 12, 13, 14, 15], 0⟩])))
                       (.ops [
                         ⟨(some 70), .move (.tmp 11), none⟩,
                         ⟨(some 71), .bin .sub (.tmp 70) (.const (.int .i64 1)), none⟩,
                         ⟨(some 11), .move (.tmp 71), none⟩]))))))
                  .skip))
                (.seq
                 (.ops [
                   ⟨(some 101), .move (.tmp 2), none⟩,
                   ⟨(some 102), .move (.tmp 9), none⟩,
                   ⟨(some 103), .bin .sub (.tmp 101) (.tmp 102), none⟩,
                   ⟨(some 104), .bin .geq (.tmp 103) (.const (.int .i64 2)), none⟩])
                 (.cond (.tmp 104)
                  (.seq
                   (.ops [
                     ⟨(some 105), .move (.tmp 9), none⟩,
                     ⟨(some 106), .bin .add (.tmp 105) (.const (.int .i64 1)), none⟩,
                     ⟨(some 12), .move (.tmp 106), none⟩])
                   (.block 6
                    (.loop
                     (.seq
                      (.seq
                       (.ops [
                         ⟨(some 107), .move (.tmp 12), none⟩,
                         ⟨(some 108), .move (.tmp 2), none⟩,
                         ⟨(some 109), .bin .lss (.tmp 107) (.tmp 108), none⟩])
                       (.cond (.tmp 109)
                        .skip
                        (.exit 6)))
                      (.seq
                       (.block 7
                        (.seq
                         (.seq
                          (.draw 0 [
                            ⟨0, ⟨(some 112), .move (.tmp 3), none⟩, [], 0⟩,
                            ⟨1, ⟨(some 113), .move (.tmp 0), none⟩, [], 0⟩,
                            ⟨2, ⟨(some 114), .move (.tmp 12), none⟩, [], 0⟩,
                            ⟨3, ⟨(some 115), .idxSl (.tmp 113) (.tmp 114) 9, none⟩, [1, 2], 0⟩,
                            ⟨4, ⟨(some 116), .load 9 true (.tmp 115), none⟩, [3, 1, 2], 0⟩,
                            ⟨5, ⟨(some 117), .move (.tmp 0), none⟩, [], 0⟩,
                            ⟨6, ⟨(some 118), .move (.tmp 12), none⟩, [], 0⟩,
                            ⟨7, ⟨(some 119), .bin .sub (.tmp 118) (.const (.int .i64 1)), none⟩, [6], 0⟩,
                            ⟨8, ⟨(some 120), .idxSl (.tmp 117) (.tmp 119) 9, none⟩, [5, 7, 6], 0⟩,
                            ⟨9, ⟨(some 121), .load 9 true (.tmp 120), none⟩, [8, 5, 7, 6], 0⟩,
                            ⟨10, ⟨(some 122), .callv (.tmp 112) [(.tmp 116), (.tmp 121)], none⟩, [0, 4, 3, 1, 2, 9, 8, 5, 7, 6], 0⟩,
                            ⟨11, ⟨(some 123), .bin .lss (.tmp 122) (.const (.int .i64 0)), none⟩, [10, 0, 4, 3, 1, 2, 9, 8, 5, 7, 6], 0⟩,
                            ⟨12, ⟨(some 124), .un .not (.tmp 123), none⟩, [11, 10, 0, 4, 3, 1, 2, 9, 8, 5, 7, 6], 0⟩])
                          (.cond (.tmp 124)
                           (.exit 6)
                           .skip))
                         (.draw 0 [
                           ⟨0, ⟨(some 125), .move (.tmp 0), none⟩, [], 0⟩,
                           ⟨1, ⟨(some 126), .move (.tmp 12), none⟩, [], 0⟩,
                           ⟨2, ⟨(some 127), .move (.tmp 0), none⟩, [], 0⟩,
                           ⟨3, ⟨(some 128), .move (.tmp 12), none⟩, [], 0⟩,
                           ⟨4, ⟨(some 129), .bin .sub (.tmp 128) (.const (.int .i64 1)), none⟩, [3], 0⟩,
                           ⟨5, ⟨(some 130), .move (.tmp 0), none⟩, [], 0⟩,
                           ⟨6, ⟨(some 131), .move (.tmp 12), none⟩, [], 0⟩,
                           ⟨7, ⟨(some 132), .bin .sub (.tmp 131) (.const (.int .i64 1)), none⟩, [6], 0⟩,
                           ⟨8, ⟨(some 133), .idxSl (.tmp 130) (.tmp 132) 9, none⟩, [5, 7, 6], 0⟩,
                           ⟨9, ⟨(some 134), .load 9 true (.tmp 133), none⟩, [8, 5, 7, 6], 0⟩,
                           ⟨10, ⟨(some 135), .move (.tmp 0), none⟩, [], 0⟩,
                           ⟨11, ⟨(some 136), .move (.tmp 12), none⟩, [], 0⟩,
                           ⟨12, ⟨(some 137), .idxSl (.tmp 135) (.tmp 136) 9, none⟩, [10, 11], 0⟩,
                           ⟨13, ⟨(some 138), .load 9 true (.tmp 137), none⟩, [12, 10, 11], 0⟩,
                           ⟨14, ⟨(some 139), .idxSl (.tmp 125) (.tmp 126) 9, none⟩, [0, 1, 5, 6, 7, 8, 9, 13, 12, 10, 11], 0⟩,
                           ⟨15, ⟨none, .store 9 (.tmp 139) (.tmp 134), none⟩, [14, 0, 1, 5, 6, 7, 8, 9, 13, 12, 10, 11], 0⟩,
                           ⟨16, ⟨(some 140), .idxSl (.tmp 127) (.tmp 129) 9, none⟩, [2, 4, 3, 0, 1, 5, 6, 7, 8, 9, 10, 11, 12, 13, 14, 15], 0⟩,
                           ⟨17, ⟨none, .store 9 (.tmp 140) (.tmp 138), none⟩, [16, 2, 4, 3, 0, 1, 5, 6, 7, 8, 9, 10, 11, 12, 13, 14, 15], 0⟩])))
                       (.ops [
                         ⟨(some 110), .move (.tmp 12), none⟩,
                         ⟨(some 111), .bin .add (.tmp 110) (.const (.int .i64 1)), none⟩,
                         ⟨(some 12), .move (.tmp 111), none⟩]))))))
                  .skip))))))))
          (.ops [
            ⟨(some 17), .move (.tmp 10), none⟩,
            ⟨(some 18), .bin .add (.tmp 17) (.const (.int .i64 1)), none⟩,
            ⟨(some 10), .move (.tmp 18), none⟩]))))))
     (.seq
      (.ops [
        ⟨(some 8), .move (.const (.bool false)), none⟩])
      .ret))))⟩
theorem t31_ok : goodFn Try.prog 31 = true ∧ cfn Try.prog 31 = t31 := ⟨by kernel_rfl, by kernel_rfl⟩

/-- slices.partitionEqualCmpFunc[matchguard/exact.Pair] -/
def t32 : NFn := ⟨90, [(.tmp 10)],
  (.seq
   (.ops [
     ⟨(some 10), .move (.const (.int .i64 0)), none⟩])
   (.seq
    (.draw 0 [
      ⟨0, ⟨(some 13), .move (.tmp 0), none⟩, [], 0⟩,
      ⟨1, ⟨(some 14), .move (.tmp 1), none⟩, [], 0⟩,
      ⟨2, ⟨(some 15), .move (.tmp 0), none⟩, [], 0⟩,
      ⟨3, ⟨(some 16), .move (.tmp 3), none⟩, [], 0⟩,
      ⟨4, ⟨(some 17), .move (.tmp 0), none⟩, [], 0⟩,
      ⟨5, ⟨(some 18), .move (.tmp 3), none⟩, [], 0⟩,
      ⟨6, ⟨(some 19), .idxSl (.tmp 17) (.tmp 18) 9, none⟩, [4, 5], 0⟩,
      ⟨7, ⟨(some 20), .load 9 true (.tmp 19), none⟩, [6, 4, 5], 0⟩,
      ⟨8, ⟨(some 21), .move (.tmp 0), none⟩, [], 0⟩,
      ⟨9, ⟨(some 22), .move (.tmp 1), none⟩, [], 0⟩,
      ⟨10, ⟨(some 23), .idxSl (.tmp 21) (.tmp 22) 9, none⟩, [8, 9], 0⟩,
      ⟨11, ⟨(some 24), .load 9 true (.tmp 23), none⟩, [10, 8, 9], 0⟩,
      ⟨12, ⟨(some 25), .idxSl (.tmp 13) (.tmp 14) 9, none⟩, [0, 1, 4, 5, 6, 7, 11, 10, 8, 9], 0⟩,
      ⟨13, ⟨none, .store 9 (.tmp 25) (.tmp 20), none⟩, [12, 0, 1, 4, 5, 6, 7, 11, 10, 8, 9], 0⟩,
      ⟨14, ⟨(some 26), .idxSl (.tmp 15) (.tmp 16) 9, none⟩, [2, 3, 0, 1, 4, 5, 6, 7, 8, 9, 10, 11, 12, 13], 0⟩,
      ⟨15, ⟨none, .store 9 (.tmp 26) (.tmp 24), none⟩, [14, 2, 3, 0, 1, 4, 5, 6, 7, 8, 9, 10, 11, 12, 13], 0⟩])
    (.seq
     (.ops [
       ⟨(some 27), .move (.tmp 1), none⟩,
       ⟨(some 28), .bin .add (.tmp 27) (.const (.int .i64 1)), none⟩,
       ⟨(some 29), .move (.tmp 2), none⟩,
       ⟨(some 30), .bin .sub (.tmp 29) (.const (.int .i64 1)), none⟩,
       ⟨(some 11), .move (.tmp 28), none⟩,
       ⟨(some 12), .move (.tmp 30), none⟩])
     (.seq
      (.block 0
       (.loop
        (.block 1
         (.seq
          (.block 2
           (.loop
            (.seq
             (.seq
              (.draw 0 [
                ⟨0, ⟨(some 31), .move (.tmp 11), none⟩, [], 0⟩,
                ⟨1, ⟨(some 32), .move (.tmp 12), none⟩, [], 0⟩,
                ⟨2, ⟨(some 33), .bin .leq (.tmp 31) (.tmp 32), none⟩, [0, 1], 0⟩,
                ⟨3, ⟨(some 34), .move (.tmp 33), none⟩, [2, 0, 1], 0⟩,
                ⟨4, ⟨(some 35), .move (.tmp 4), (some (34, true))⟩, [3, 2, 0, 1], 0⟩,
                ⟨5, ⟨(some 36), .move (.tmp 0), (some (34, true))⟩, [3, 2, 0, 1], 0⟩,
                ⟨6, ⟨(some 37), .move (.tmp 1), (some (34, true))⟩, [3, 2, 0, 1], 0⟩,
                ⟨7, ⟨(some 38), .idxSl (.tmp 36) (.tmp 37) 9, (some (34, true))⟩, [5, 3, 2, 0, 1, 6], 0⟩,
                ⟨8, ⟨(some 39), .load 9 true (.tmp 38), (some (34, true))⟩, [7, 5, 3, 2, 0, 1, 6], 0⟩,
                ⟨9, ⟨(some 40), .move (.tmp 0), (some (34, true))⟩, [3, 2, 0, 1], 0⟩,
                ⟨10, ⟨(some 41), .move (.tmp 11), (some (34, true))⟩, [3, 2, 0, 1], 0⟩,
                ⟨11, ⟨(some 42), .idxSl (.tmp 40) (.tmp 41) 9, (some (34, true))⟩, [9, 3, 2, 0, 1, 10], 0⟩,
                ⟨12, ⟨(some 43), .load 9 true (.tmp 42), (some (34, true))⟩, [11, 9, 3, 2, 0, 1, 10], 0⟩,
                ⟨13, ⟨(some 44), .callv (.tmp 35) [(.tmp 39), (.tmp 43)], (some (34, true))⟩, [4, 3, 2, 0, 1, 8, 7, 5, 6, 12, 11, 9, 10], 0⟩,
                ⟨14, ⟨(some 45), .bin .lss (.tmp 44) (.const (.int .i64 0)), (some (34, true))⟩, [13, 4, 3, 2, 0, 1, 8, 7, 5, 6, 12, 11, 9, 10], 0⟩,
                ⟨15, ⟨(some 46), .un .not (.tmp 45), (some (34, true))⟩, [14, 13, 4, 3, 2, 0, 1, 8, 7, 5, 6, 12, 11, 9, 10], 0⟩,
                ⟨16, ⟨(some 47), .pick (.tmp 34) (.tmp 46) (.const (.bool false)), none⟩, [3, 2, 0, 1, 15, 14, 13, 4, 8, 7, 5, 6, 12, 11, 9, 10], 0⟩])
              (.cond (.tmp 47)
               .skip
               (.exit 2)))
             (.block 3
              (.ops [
                ⟨(some 48), .move (.tmp 11), none⟩,
                ⟨(some 49), .bin .add (.tmp 48) (.const (.int .i64 1)), none⟩,
                ⟨(some 11), .move (.tmp 49), none⟩])))))
          (.seq
           (.block 4
            (.loop
             (.seq
              (.seq
               (.draw 0 [
                 ⟨0, ⟨(some 50), .move (.tmp 11), none⟩, [], 0⟩,
                 ⟨1, ⟨(some 51), .move (.tmp 12), none⟩, [], 0⟩,
                 ⟨2, ⟨(some 52), .bin .leq (.tmp 50) (.tmp 51), none⟩, [0, 1], 0⟩,
                 ⟨3, ⟨(some 53), .move (.tmp 52), none⟩, [2, 0, 1], 0⟩,
                 ⟨4, ⟨(some 54), .move (.tmp 4), (some (53, true))⟩, [3, 2, 0, 1], 0⟩,
                 ⟨5, ⟨(some 55), .move (.tmp 0), (some (53, true))⟩, [3, 2, 0, 1], 0⟩,
                 ⟨6, ⟨(some 56), .move (.tmp 1), (some (53, true))⟩, [3, 2, 0, 1], 0⟩,
                 ⟨7, ⟨(some 57), .idxSl (.tmp 55) (.tmp 56) 9, (some (53, true))⟩, [5, 3, 2, 0, 1, 6], 0⟩,
                 ⟨8, ⟨(some 58), .load 9 true (.tmp 57), (some (53, true))⟩, [7, 5, 3, 2, 0, 1, 6], 0⟩,
                 ⟨9, ⟨(some 59), .move (.tmp 0), (some (53, true))⟩, [3, 2, 0, 1], 0⟩,
                 ⟨10, ⟨(some 60), .move (.tmp 12), (some (53, true))⟩, [3, 2, 0, 1], 0⟩,
                 ⟨11, ⟨(some 61), .idxSl (.tmp 59) (.tmp 60) 9, (some (53, true))⟩, [9, 3, 2, 0, 1, 10], 0⟩,
                 ⟨12, ⟨(some 62), .load 9 true (.tmp 61), (some (53, true))⟩, [11, 9, 3, 2, 0, 1, 10], 0⟩,
                 ⟨13, ⟨(some 63), .callv (.tmp 54) [(.tmp 58), (.tmp 62)], (some (53, true))⟩, [4, 3, 2, 0, 1, 8, 7, 5, 6, 12, 11, 9, 10], 0⟩,
                 ⟨14, ⟨(some 64), .bin .lss (.tmp 63) (.const (.int .i64 0)), (some (53, true))⟩, [13, 4, 3, 2, 0, 1, 8, 7, 5, 6, 12, 11, 9, 10], 0⟩,
                 ⟨15, ⟨(some 65), .pick (.tmp 53) (.tmp 64) (.const (.bool false)), none⟩, [3, 2, 0, 1, 14, 13, 4, 8, 7, 5, 6, 12, 11, 9, 10], 0⟩])
               (.cond (.tmp 65)
                .skip
                (.exit 4)))
              (.block 5
               (.ops [
                 ⟨(some 66), .move (.tmp 12), none⟩,
                 ⟨(some 67), .bin .sub (.tmp 66) (.const (.int .i64 1)), none⟩,
                 ⟨(some 12), .move (.tmp 67), none⟩])))))
           (.seq
            (.seq
             (.ops [
               ⟨(some 68), .move (.tmp 11), none⟩,
               ⟨(some 69), .move (.tmp 12), none⟩,
               ⟨(some 70), .bin .gtr (.tmp 68) (.tmp 69), none⟩])
             (.cond (.tmp 70)
              (.exit 0)
              .skip))
            (.seq
             (.draw 0 [
               ⟨0, ⟨(some 71), .move (.tmp 0), none⟩, [], 0⟩,
               ⟨1, ⟨(some 72), .move (.tmp 11), none⟩, [], 0⟩,
               ⟨2, ⟨(some 73), .move (.tmp 0), none⟩, [], 0⟩,
               ⟨3, ⟨(some 74), .move (.tmp 12), none⟩, [], 0⟩,
               ⟨4, ⟨(some 75), .move (.tmp 0), none⟩, [], 0⟩,
               ⟨5, ⟨(some 76), .move (.tmp 12), none⟩, [], 0⟩,
               ⟨6, ⟨(some 77), .idxSl (.tmp 75) (.tmp 76) 9, none⟩, [4, 5], 0⟩,
               ⟨7, ⟨(some 78), .load 9 true (.tmp 77), none⟩, [6, 4, 5], 0⟩,
               ⟨8, ⟨(some 79), .move (.tmp 0), none⟩, [], 0⟩,
               ⟨9, ⟨(some 80), .move (.tmp 11), none⟩, [], 0⟩,
               ⟨10, ⟨(some 81), .idxSl (.tmp 79) (.tmp 80) 9, none⟩, [8, 9], 0⟩,
               ⟨11, ⟨(some 82), .load 9 true (.tmp 81), none⟩, [10, 8, 9], 0⟩,
               ⟨12, ⟨(some 83), .idxSl (.tmp 71) (.tmp 72) 9, none⟩, [0, 1, 4, 5, 6, 7, 11, 10, 8, 9], 0⟩,
               ⟨13, ⟨none, .store 9 (.tmp 83) (.tmp 78), none⟩, [12, 0, 1, 4, 5, 6, 7, 11, 10, 8, 9], 0⟩,
               ⟨14, ⟨(some 84), .idxSl (.tmp 73) (.tmp 74) 9, none⟩, [2, 3, 0, 1, 4, 5, 6, 7, 8, 9, 10, 11, 12, 13], 0⟩,
               ⟨15, ⟨none, .store 9 (.tmp 84) (.tmp 82), none⟩, [14, 2, 3, 0, 1, 4, 5, 6, 7, 8, 9, 10, 11, 12, 13], 0⟩])
             (.seq
              (.ops [
                ⟨(some 85), .move (.tmp 11), none⟩,
                ⟨(some 86), .bin .add (.tmp 85) (.const (.int .i64 1)), none⟩,
                ⟨(some 11), .move (.tmp 86), none⟩])
              (.ops [
                ⟨(some 87), .move (.tmp 12), none⟩,
                ⟨(some 88), .bin .sub (.tmp 87) (.const (.int .i64 1)), none⟩,
                ⟨(some 12), .move (.tmp 88), none⟩])))))))))
      (.seq
       (.ops [
         ⟨(some 89), .move (.tmp 11), none⟩,
         ⟨(some 10), .move (.tmp 89), none⟩])
       .ret)))))⟩
theorem t32_ok : goodFn Try.prog 32 = true ∧ cfn Try.prog 32 = t32 := ⟨by kernel_rfl, by kernel_rfl⟩

/-- slices.partitionCmpFunc[matchguard/exact.Pair] -/
def t33 : NFn := ⟨178, [(.tmp 10), (.tmp 11)],
  (.seq
   (.ops [
     ⟨(some 10), .move (.const (.int .i64 0)), none⟩,
     ⟨(some 11), .move (.const (.bool false)), none⟩])
   (.seq
    (.draw 0 [
      ⟨0, ⟨(some 14), .move (.tmp 0), none⟩, [], 0⟩,
      ⟨1, ⟨(some 15), .move (.tmp 1), none⟩, [], 0⟩,
      ⟨2, ⟨(some 16), .move (.tmp 0), none⟩, [], 0⟩,
      ⟨3, ⟨(some 17), .move (.tmp 3), none⟩, [], 0⟩,
      ⟨4, ⟨(some 18), .move (.tmp 0), none⟩, [], 0⟩,
      ⟨5, ⟨(some 19), .move (.tmp 3), none⟩, [], 0⟩,
      ⟨6, ⟨(some 20), .idxSl (.tmp 18) (.tmp 19) 9, none⟩, [4, 5], 0⟩,
      ⟨7, ⟨(some 21), .load 9 true (.tmp 20), none⟩, [6, 4, 5], 0⟩,
      ⟨8, ⟨(some 22), .move (.tmp 0), none⟩, [], 0⟩,
      ⟨9, ⟨(some 23), .move (.tmp 1), none⟩, [], 0⟩,
      ⟨10, ⟨(some 24), .idxSl (.tmp 22) (.tmp 23) 9, none⟩, [8, 9], 0⟩,
      ⟨11, ⟨(some 25), .load 9 true (.tmp 24), none⟩, [10, 8, 9], 0⟩,
      ⟨12, ⟨(some 26), .idxSl (.tmp 14) (.tmp 15) 9, none⟩, [0, 1, 4, 5, 6, 7, 11, 10, 8, 9], 0⟩,
      ⟨13, ⟨none, .store 9 (.tmp 26) (.tmp 21), none⟩, [12, 0, 1, 4, 5, 6, 7, 11, 10, 8, 9], 0⟩,
      ⟨14, ⟨(some 27), .idxSl (.tmp 16) (.tmp 17) 9, none⟩, [2, 3, 0, 1, 4, 5, 6, 7, 8, 9, 10, 11, 12, 13], 0⟩,
      ⟨15, ⟨none, .store 9 (.tmp 27) (.tmp 25), none⟩, [14, 2, 3, 0, 1, 4, 5, 6, 7, 8, 9, 10, 11, 12, 13], 0⟩])
    (.seq
     (.ops [
       ⟨(some 28), .move (.tmp 1), none⟩,
       ⟨(some 29), .bin .add (.tmp 28) (.const (.int .i64 1)), none⟩,
       ⟨(some 30), .move (.tmp 2), none⟩,
       ⟨(some 31), .bin .sub (.tmp 30) (.const (.int .i64 1)), none⟩,
       ⟨(some 12), .move (.tmp 29), none⟩,
       ⟨(some 13), .move (.tmp 31), none⟩])
     (.seq
      (.block 0
       (.loop
        (.seq
         (.seq
          (.draw 0 [
            ⟨0, ⟨(some 32), .move (.tmp 12), none⟩, [], 0⟩,
            ⟨1, ⟨(some 33), .move (.tmp 13), none⟩, [], 0⟩,
            ⟨2, ⟨(some 34), .bin .leq (.tmp 32) (.tmp 33), none⟩, [0, 1], 0⟩,
            ⟨3, ⟨(some 35), .move (.tmp 34), none⟩, [2, 0, 1], 0⟩,
            ⟨4, ⟨(some 36), .move (.tmp 4), (some (35, true))⟩, [3, 2, 0, 1], 0⟩,
            ⟨5, ⟨(some 37), .move (.tmp 0), (some (35, true))⟩, [3, 2, 0, 1], 0⟩,
            ⟨6, ⟨(some 38), .move (.tmp 12), (some (35, true))⟩, [3, 2, 0, 1], 0⟩,
            ⟨7, ⟨(some 39), .idxSl (.tmp 37) (.tmp 38) 9, (some (35, true))⟩, [5, 3, 2, 0, 1, 6], 0⟩,
            ⟨8, ⟨(some 40), .load 9 true (.tmp 39), (some (35, true))⟩, [7, 5, 3, 2, 0, 1, 6], 0⟩,
            ⟨9, ⟨(some 41), .move (.tmp 0), (some (35, true))⟩, [3, 2, 0, 1], 0⟩,
            ⟨10, ⟨(some 42), .move (.tmp 1), (some (35, true))⟩, [3, 2, 0, 1], 0⟩,
            ⟨11, ⟨(some 43), .idxSl (.tmp 41) (.tmp 42) 9, (some (35, true))⟩, [9, 3, 2, 0, 1, 10], 0⟩,
            ⟨12, ⟨(some 44), .load 9 true (.tmp 43), (some (35, true))⟩, [11, 9, 3, 2, 0, 1, 10], 0⟩,
            ⟨13, ⟨(some 45), .callv (.tmp 36) [(.tmp 40), (.tmp 44)], (some (35, true))⟩, [4, 3, 2, 0, 1, 8, 7, 5, 6, 12, 11, 9, 10], 0⟩,
            ⟨14, ⟨(some 46), .bin .lss (.tmp 45) (.const (.int .i64 0)), (some (35, true))⟩, [13, 4, 3, 2, 0, 1, 8, 7, 5, 6, 12, 11, 9, 10], 0⟩,
            ⟨15, ⟨(some 47), .pick (.tmp 35) (.tmp 46) (.const (.bool false)), none⟩, [3, 2, 0, 1, 14, 13, 4, 8, 7, 5, 6, 12, 11, 9, 10], 0⟩])
          (.cond (.tmp 47)
           .skip
           (.exit 0)))
         (.block 1
          (.ops [
            ⟨(some 48), .move (.tmp 12), none⟩,
            ⟨(some 49), .bin .add (.tmp 48) (.const (.int .i64 1)), none⟩,
            ⟨(some 12), .move (.tmp 49), none⟩])))))
      (.seq
       (.block 2
        (.loop
         (.seq
          (.seq
           (.draw 0 [
             ⟨0, ⟨(some 50), .move (.tmp 12), none⟩, [], 0⟩,
             ⟨1, ⟨(some 51), .move (.tmp 13), none⟩, [], 0⟩,
             ⟨2, ⟨(some 52), .bin .leq (.tmp 50) (.tmp 51), none⟩, [0, 1], 0⟩,
             ⟨3, ⟨(some 53), .move (.tmp 52), none⟩, [2, 0, 1], 0⟩,
             ⟨4, ⟨(some 54), .move (.tmp 4), (some (53, true))⟩, [3, 2, 0, 1], 0⟩,
             ⟨5, ⟨(some 55), .move (.tmp 0), (some (53, true))⟩, [3, 2, 0, 1], 0⟩,
             ⟨6, ⟨(some 56), .move (.tmp 13), (some (53, true))⟩, [3, 2, 0, 1], 0⟩,
             ⟨7, ⟨(some 57), .idxSl (.tmp 55) (.tmp 56) 9, (some (53, true))⟩, [5, 3, 2, 0, 1, 6], 0⟩,
             ⟨8, ⟨(some 58), .load 9 true (.tmp 57), (some (53, true))⟩, [7, 5, 3, 2, 0, 1, 6], 0⟩,
             ⟨9, ⟨(some 59), .move (.tmp 0), (some (53, true))⟩, [3, 2, 0, 1], 0⟩,
             ⟨10, ⟨(some 60), .move (.tmp 1), (some (53, true))⟩, [3, 2, 0, 1], 0⟩,
             ⟨11, ⟨(some 61), .idxSl (.tmp 59) (.tmp 60) 9, (some (53, true))⟩, [9, 3, 2, 0, 1, 10], 0⟩,
             ⟨12, ⟨(some 62), .load 9 true (.tmp 61), (some (53, true))⟩, [11, 9, 3, 2, 0, 1, 10], 0⟩,
             ⟨13, ⟨(some 63), .callv (.tmp 54) [(.tmp 58), (.tmp 62)], (some (53, true))⟩, [4, 3, 2, 0, 1, 8, 7, 5, 6, 12, 11, 9, 10], 0⟩,
             ⟨14, ⟨(some 64), .bin .lss (.tmp 63) (.const (.int .i64 0)), (some (53, true))⟩, [13, 4, 3, 2, 0, 1, 8, 7, 5, 6, 12, 11, 9, 10], 0⟩,
             ⟨15, ⟨(some 65), .un .not (.tmp 64), (some (53, true))⟩, [14, 13, 4, 3, 2, 0, 1, 8, 7, 5, 6, 12, 11, 9, 10], 0⟩,
             ⟨16, ⟨(some 66), .pick (.tmp 53) (.tmp 65) (.const (.bool false)), none⟩, [3, 2, 0, 1, 15, 14, 13, 4, 8, 7, 5, 6, 12, 11, 9, 10], 0⟩])
           (.cond (.tmp 66)
            .skip
            (.exit 2)))
          (.block 3
           (.ops [
             ⟨(some 67), .move (.tmp 13), none⟩,
             ⟨(some 68), .bin .sub (.tmp 67) (.const (.int .i64 1)), none⟩,
             ⟨(some 13), .move (.tmp 68), none⟩])))))
       (.seq
        (.seq
         (.ops [
           ⟨(some 69), .move (.tmp 12), none⟩,
           ⟨(some 70), .move (.tmp 13), none⟩,
           ⟨(some 71), .bin .gtr (.tmp 69) (.tmp 70), none⟩])
         (.cond (.tmp 71)
          (.seq
           (.draw 0 [
             ⟨0, ⟨(some 72), .move (.tmp 0), none⟩, [], 0⟩,
             ⟨1, ⟨(some 73), .move (.tmp 13), none⟩, [], 0⟩,
             ⟨2, ⟨(some 74), .move (.tmp 0), none⟩, [], 0⟩,
             ⟨3, ⟨(some 75), .move (.tmp 1), none⟩, [], 0⟩,
             ⟨4, ⟨(some 76), .move (.tmp 0), none⟩, [], 0⟩,
             ⟨5, ⟨(some 77), .move (.tmp 1), none⟩, [], 0⟩,
             ⟨6, ⟨(some 78), .idxSl (.tmp 76) (.tmp 77) 9, none⟩, [4, 5], 0⟩,
             ⟨7, ⟨(some 79), .load 9 true (.tmp 78), none⟩, [6, 4, 5], 0⟩,
             ⟨8, ⟨(some 80), .move (.tmp 0), none⟩, [], 0⟩,
             ⟨9, ⟨(some 81), .move (.tmp 13), none⟩, [], 0⟩,
             ⟨10, ⟨(some 82), .idxSl (.tmp 80) (.tmp 81) 9, none⟩, [8, 9], 0⟩,
             ⟨11, ⟨(some 83), .load 9 true (.tmp 82), none⟩, [10, 8, 9], 0⟩,
             ⟨12, ⟨(some 84), .idxSl (.tmp 72) (.tmp 73) 9, none⟩, [0, 1, 4, 5, 6, 7, 11, 10, 8, 9], 0⟩,
             ⟨13, ⟨none, .store 9 (.tmp 84) (.tmp 79), none⟩, [12, 0, 1, 4, 5, 6, 7, 11, 10, 8, 9], 0⟩,
             ⟨14, ⟨(some 85), .idxSl (.tmp 74) (.tmp 75) 9, none⟩, [2, 3, 0, 1, 4, 5, 6, 7, 8, 9, 10, 11, 12, 13], 0⟩,
             ⟨15, ⟨none, .store 9 (.tmp 85) (.tmp 83), none⟩, [14, 2, 3, 0, 1, 4, 5, 6, 7, 8, 9, 10, 11, 12, 13], 0⟩])
           (.seq
            (.ops [
              ⟨(some 86), .move (.tmp 13), none⟩,
              ⟨(some 10), .move (.tmp 86), none⟩,
              ⟨(some 11), .move (.const (.bool true)), none⟩])
            .ret))
          .skip))
        (.seq
         (.draw 0 [
           ⟨0, ⟨(some 87), .move (.tmp 0), none⟩, [], 0⟩,
           ⟨1, ⟨(some 88), .move (.tmp 12), none⟩, [], 0⟩,
           ⟨2, ⟨(some 89), .move (.tmp 0), none⟩, [], 0⟩,
           ⟨3, ⟨(some 90), .move (.tmp 13), none⟩, [], 0⟩,
           ⟨4, ⟨(some 91), .move (.tmp 0), none⟩, [], 0⟩,
           ⟨5, ⟨(some 92), .move (.tmp 13), none⟩, [], 0⟩,
           ⟨6, ⟨(some 93), .idxSl (.tmp 91) (.tmp 92) 9, none⟩, [4, 5], 0⟩,
           ⟨7, ⟨(some 94), .load 9 true (.tmp 93), none⟩, [6, 4, 5], 0⟩,
           ⟨8, ⟨(some 95), .move (.tmp 0), none⟩, [], 0⟩,
           ⟨9, ⟨(some 96), .move (.tmp 12), none⟩, [], 0⟩,
           ⟨10, ⟨(some 97), .idxSl (.tmp 95) (.tmp 96) 9, none⟩, [8, 9], 0⟩,
           ⟨11, ⟨(some 98), .load 9 true (.tmp 97), none⟩, [10, 8, 9], 0⟩,
           ⟨12, ⟨(some 99), .idxSl (.tmp 87) (.tmp 88) 9, none⟩, [0, 1, 4, 5, 6, 7, 11, 10, 8, 9], 0⟩,
           ⟨13, ⟨none, .store 9 (.tmp 99) (.tmp 94), none⟩, [12, 0, 1, 4, 5, 6, 7, 11, 10, 8, 9], 0⟩,
           ⟨14, ⟨(some 100), .idxSl (.tmp 89) (.tmp 90) 9, none⟩, [2, 3, 0, 1, 4, 5, 6, 7, 8, 9, 10, 11, 12, 13], 0⟩,
           ⟨15, ⟨none, .store 9 (.tmp 100) (.tmp 98), none⟩, [14, 2, 3, 0, 1, 4, 5, 6, 7, 8, 9, 10, 11, 12, 13], 0⟩])
         (.seq
          (.ops [
            ⟨(some 101), .move (.tmp 12), none⟩,
            ⟨(some 102), .bin .add (.tmp 101) (.const (.int .i64 1)), none⟩,
            ⟨(some 12), .move (.tmp 102), none⟩])
          (.seq
           (.ops [
             ⟨(some 103), .move (.tmp 13), none⟩,
             ⟨(some 104), .bin .sub (.tmp 103) (.const (.int .i64 1)), none⟩,
             ⟨(some 13), .move (.tmp 104), none⟩])
           (.seq
            (.block 4
             (.loop
              (.block 5
               (.seq
                (.block 6
                 (.loop
                  (.seq
                   (.seq
                    (.draw 0 [
                      ⟨0, ⟨(some 105), .move (.tmp 12), none⟩, [], 0⟩,
                      ⟨1, ⟨(some 106), .move (.tmp 13), none⟩, [], 0⟩,
                      ⟨2, ⟨(some 107), .bin .leq (.tmp 105) (.tmp 106), none⟩, [0, 1], 0⟩,
                      ⟨3, ⟨(some 108), .move (.tmp 107), none⟩, [2, 0, 1], 0⟩,
                      ⟨4, ⟨(some 109), .move (.tmp 4), (some (108, true))⟩, [3, 2, 0, 1], 0⟩,
                      ⟨5, ⟨(some 110), .move (.tmp 0), (some (108, true))⟩, [3, 2, 0, 1], 0⟩,
                      ⟨6, ⟨(some 111), .move (.tmp 12), (some (108, true))⟩, [3, 2, 0, 1], 0⟩,
                      ⟨7, ⟨(some 112), .idxSl (.tmp 110) (.tmp 111) 9, (some (108, true))⟩, [5, 3, 2, 0, 1, 6], 0⟩,
                      ⟨8, ⟨(some 113), .load 9 true (.tmp 112), (some (108, true))⟩, [7, 5, 3, 2, 0, 1, 6], 0⟩,
                      ⟨9, ⟨(some 114), .move (.tmp 0), (some (108, true))⟩, [3, 2, 0, 1], 0⟩,
                      ⟨10, ⟨(some 115), .move (.tmp 1), (some (108, true))⟩, [3, 2, 0, 1], 0⟩,
                      ⟨11, ⟨(some 116), .idxSl (.tmp 114) (.tmp 115) 9, (some (108, true))⟩, [9, 3, 2, 0, 1, 10], 0⟩,
                      ⟨12, ⟨(some 117), .load 9 true (.tmp 116), (some (108, true))⟩, [11, 9, 3, 2, 0, 1, 10], 0⟩,
                      ⟨13, ⟨(some 118), .callv (.tmp 109) [(.tmp 113), (.tmp 117)], (some (108, true))⟩, [4, 3, 2, 0, 1, 8, 7, 5, 6, 12, 11, 9, 10], 0⟩,
                      ⟨14, ⟨(some 119), .bin .lss (.tmp 118) (.const (.int .i64 0)), (some (108, true))⟩, [13, 4, 3, 2, 0, 1, 8, 7, 5, 6, 12, 11, 9, 10], 0⟩,
                      ⟨15, ⟨(some 120), .pick (.tmp 108) (.tmp 119) (.const (.bool false)), none⟩, [3, 2, 0, 1, 14, 13, 4, 8, 7, 5, 6, 12, 11, 9, 10], 0⟩])
                    (.cond (.tmp 120)
                     .skip
                     (.exit 6)))
                   (.block 7
                    (.ops [
                      ⟨(some 121), .move (.tmp 12), none⟩,
                      ⟨(some 122), .bin .add (.tmp 121) (.const (.int .i64 1)), none⟩,
                      ⟨(some 12), .move (.tmp 122), none⟩])))))
                (.seq
                 (.block 8
                  (.loop
                   (.seq
                    (.seq
                     (.draw 0 [
                       ⟨0, ⟨(some 123), .move (.tmp 12), none⟩, [], 0⟩,
                       ⟨1, ⟨(some 124), .move (.tmp 13), none⟩, [], 0⟩,
                       ⟨2, ⟨(some 125), .bin .leq (.tmp 123) (.tmp 124), none⟩, [0, 1], 0⟩,
                       ⟨3, ⟨(some 126), .move (.tmp 125), none⟩, [2, 0, 1], 0⟩,
                       ⟨4, ⟨(some 127), .move (.tmp 4), (some (126, true))⟩, [3, 2, 0, 1], 0⟩,
                       ⟨5, ⟨(some 128), .move (.tmp 0), (some (126, true))⟩, [3, 2, 0, 1], 0⟩,
                       ⟨6, ⟨(some 129), .move (.tmp 13), (some (126, true))⟩, [3, 2, 0, 1], 0⟩,
                       ⟨7, ⟨(some 130), .idxSl (.tmp 128) (.tmp 129) 9, (some (126, true))⟩, [5, 3, 2, 0, 1, 6], 0⟩,
                       ⟨8, ⟨(some 131), .load 9 true (.tmp 130), (some (126, true))⟩, [7, 5, 3, 2, 0, 1, 6], 0⟩,
                       ⟨9, ⟨(some 132), .move (.tmp 0), (some (126, true))⟩, [3, 2, 0, 1], 0⟩,
                       ⟨10, ⟨(some 133), .move (.tmp 1), (some (126, true))⟩, [3, 2, 0, 1], 0⟩,
                       ⟨11, ⟨(some 134), .idxSl (.tmp 132) (.tmp 133) 9, (some (126, true))⟩, [9, 3, 2, 0, 1, 10], 0⟩,
                       ⟨12, ⟨(some 135), .load 9 true (.tmp 134), (some (126, true))⟩, [11, 9, 3, 2, 0, 1, 10], 0⟩,
                       ⟨13, ⟨(some 136), .callv (.tmp 127) [(.tmp 131), (.tmp 135)], (some (126, true))⟩, [4, 3, 2, 0, 1, 8, 7, 5, 6, 12, 11, 9, 10], 0⟩,
                       ⟨14, ⟨(some 137), .bin .lss (.tmp 136) (.const (.int .i64 0)), (some (126, true))⟩, [13, 4, 3, 2, 0, 1, 8, 7, 5, 6, 12, 11, 9, 10], 0⟩,
                       ⟨15, ⟨(some 138), .un .not (.tmp 137), (some (126, true))⟩, [14, 13, 4, 3, 2, 0, 1, 8, 7, 5, 6, 12, 11, 9, 10], 0⟩,
                       ⟨16, ⟨(some 139), .pick (.tmp 126) (.tmp 138) (.const (.bool false)), none⟩, [3, 2, 0, 1, 15, 14, 13, 4, 8, 7, 5, 6, 12, 11, 9, 10], 0⟩])
                     (.cond (.tmp 139)
                      .skip
                      (.exit 8)))
                    (.block 9
                     (.ops [
                       ⟨(some 140), .move (.tmp 13), none⟩,
                       ⟨(some 141), .bin .sub (.tmp 140) (.const (.int .i64 1)), none⟩,
                       ⟨(some 13), .move (.tmp 141), none⟩])))))
                 (.seq
                  (.seq
                   (.ops [
                     ⟨(some 142), .move (.tmp 12), none⟩,
                     ⟨(some 143), .move (.tmp 13), none⟩,
                     ⟨(some 144), .bin .gtr (.tmp 142) (.tmp 143), none⟩])
                   (.cond (.tmp 144)
                    (.exit 4)
                    .skip))
                  (.seq
                   (.draw 0 [
                     ⟨0, ⟨(some 145), .move (.tmp 0), none⟩, [], 0⟩,
                     ⟨1, ⟨(some 146), .move (.tmp 12), none⟩, [], 0⟩,
                     ⟨2, ⟨(some 147), .move (.tmp 0), none⟩, [], 0⟩,
                     ⟨3, ⟨(some 148), .move (.tmp 13), none⟩, [], 0⟩,
                     ⟨4, ⟨(some 149), .move (.tmp 0), none⟩, [], 0⟩,
                     ⟨5, ⟨(some 150), .move (.tmp 13), none⟩, [], 0⟩,
                     ⟨6, ⟨(some 151), .idxSl (.tmp 149) (.tmp 150) 9, none⟩, [4, 5], 0⟩,
                     ⟨7, ⟨(some 152), .load 9 true (.tmp 151), none⟩, [6, 4, 5], 0⟩,
                     ⟨8, ⟨(some 153), .move (.tmp 0), none⟩, [], 0⟩,
                     ⟨9, ⟨(some 154), .move (.tmp 12), none⟩, [], 0⟩,
                     ⟨10, ⟨(some 155), .idxSl (.tmp 153) (.tmp 154) 9, none⟩, [8, 9], 0⟩,
                     ⟨11, ⟨(some 156), .load 9 true (.tmp 155), none⟩, [10, 8, 9], 0⟩,
                     ⟨12, ⟨(some 157), .idxSl (.tmp 145) (.tmp 146) 9, none⟩, [0, 1, 4, 5, 6, 7, 11, 10, 8, 9], 0⟩,
                     ⟨13, ⟨none, .store 9 (.tmp 157) (.tmp 152), none⟩, [12, 0, 1, 4, 5, 6, 7, 11, 10, 8, 9], 0⟩,
                     ⟨14, ⟨(some 158), .idxSl (.tmp 147) (.tmp 148) 9, none⟩, [2, 3, 0, 1, 4, 5, 6, 7, 8, 9, 10, 11, 12, 13], 0⟩,
                     ⟨15, ⟨none, .store 9 (.tmp 158) (.tmp 156), none⟩, [14, 2, 3, 0, 1, 4, 5, 6, 7, 8, 9, 10, 11, 12, 13], 0⟩])
                   (.seq
                    (.ops [
                      ⟨(some 159), .move (.tmp 12), none⟩,
                      ⟨(some 160), .bin .add (.tmp 159) (.const (.int .i64 1)), none⟩,
                      ⟨(some 12), .move (.tmp 160), none⟩])
                    (.ops [
                      ⟨(some 161), .move (.tmp 13), none⟩,
                      ⟨(some 162), .bin .sub (.tmp 161) (.const (.int .i64 1)), none⟩,
                      ⟨(some 13), .move (.tmp 162), none⟩])))))))))
            (.seq
             (.draw 0 [
               ⟨0, ⟨(some 163), .move (.tmp 0), none⟩, [], 0⟩,
               ⟨1, ⟨(some 164), .move (.tmp 13), none⟩, [], 0⟩,
               ⟨2, ⟨(some 165), .move (.tmp 0), none⟩, [], 0⟩,
               ⟨3, ⟨(some 166), .move (.tmp 1), none⟩, [], 0⟩,
               ⟨4, ⟨(some 167), .move (.tmp 0), none⟩, [], 0⟩,
               ⟨5, ⟨(some 168), .move (.tmp 1), none⟩, [], 0⟩,
               ⟨6, ⟨(some 169), .idxSl (.tmp 167) (.tmp 168) 9, none⟩, [4, 5], 0⟩,
               ⟨7, ⟨(some 170), .load 9 true (.tmp 169), none⟩, [6, 4, 5], 0⟩,
               ⟨8, ⟨(some 171), .move (.tmp 0), none⟩, [], 0⟩,
               ⟨9, ⟨(some 172), .move (.tmp 13), none⟩, [], 0⟩,
               ⟨10, ⟨(some 173), .idxSl (.tmp 171) (.tmp 172) 9, none⟩, [8, 9], 0⟩,
               ⟨11, ⟨(some 174), .load 9 true (.tmp 173), none⟩, [10, 8, 9], 0⟩,
               ⟨12, ⟨(some 175), .idxSl (.tmp 163) (.tmp 164) 9, none⟩, [0, 1, 4, 5, 6, 7, 11, 10, 8, 9], 0⟩,
               ⟨13, ⟨none, .store 9 (.tmp 175) (.tmp 170), none⟩, [12, 0, 1, 4, 5, 6, 7, 11, 10, 8, 9], 0⟩,
               ⟨14, ⟨(some 176), .idxSl (.tmp 165) (.tmp 166) 9, none⟩, [2, 3, 0, 1, 4, 5, 6, 7, 8, 9, 10, 11, 12, 13], 0⟩,
               ⟨15, ⟨none, .store 9 (.tmp 176) (.tmp 174), none⟩, [14, 2, 3, 0, 1, 4, 5, 6, 7, 8, 9, 10, 11, 12, 13], 0⟩])
             (.seq
              (.ops [
                ⟨(some 177), .move (.tmp 13), none⟩,
                ⟨(some 10), .move (.tmp 177), none⟩,
                ⟨(some 11), .move (.const (.bool false)), none⟩])
              .ret))))))))))))⟩
theorem t33_ok : goodFn Try.prog 33 = true ∧ cfn Try.prog 33 = t33 := ⟨by kernel_rfl, by kernel_rfl⟩

/-- math/bits.Len32 -/
def t34 : NFn := ⟨19, [(.tmp 2)],
  (.seq
   (.ops [
     ⟨(some 2), .move (.const (.int .i64 0)), none⟩])
   (.seq
    (.seq
     (.ops [
       ⟨(some 3), .move (.tmp 0), none⟩,
       ⟨(some 4), .bin .geq (.tmp 3) (.const (.int .u32 65536)), none⟩])
     (.cond (.tmp 4)
      (.seq
       (.ops [
         ⟨(some 5), .move (.tmp 0), none⟩,
         ⟨(some 6), .bin .shr (.tmp 5) (.const (.int .u64 16)), none⟩,
         ⟨(some 0), .move (.tmp 6), none⟩])
       (.ops [
         ⟨(some 2), .move (.const (.int .i64 16)), none⟩]))
      .skip))
    (.seq
     (.seq
      (.ops [
        ⟨(some 7), .move (.tmp 0), none⟩,
        ⟨(some 8), .bin .geq (.tmp 7) (.const (.int .u32 256)), none⟩])
      (.cond (.tmp 8)
       (.seq
        (.ops [
          ⟨(some 9), .move (.tmp 0), none⟩,
          ⟨(some 10), .bin .shr (.tmp 9) (.const (.int .u64 8)), none⟩,
          ⟨(some 0), .move (.tmp 10), none⟩])
        (.ops [
          ⟨(some 11), .move (.tmp 2), none⟩,
          ⟨(some 12), .bin .add (.tmp 11) (.const (.int .i64 8)), none⟩,
          ⟨(some 2), .move (.tmp 12), none⟩]))
       .skip))
     (.seq
      (.ops [
        ⟨(some 13), .move (.tmp 2), none⟩,
        ⟨(some 14), .move (.tmp 0), none⟩,
        ⟨(some 15), .conv .u8 (.tmp 14), none⟩,
        ⟨(some 16), .strIdx (.const (.str ⟨#[0, 1, 2, 2, 3, 3, 3, 3, 4, 4, 4, 4, 4, 4, 4, 4, 5, 5, 5, 5, 5, 5, 5, 5, 5, 5, 5, 5, 5, 5, 5, 5, 6, 6, 6, 6, 6, 6, 6, 6, 6, 6, 6, 6, 6, 6, 6, 6, 6, 6, 6, 6, 6, 6, 6, 6, 6, 6, 6, 6, 6, 6, 6, 6, 7, 7, 7, 7, 7, 7, 7, 7, 7, 7, 7, 7, 7, 7, 7, 7, 7, 7, 7, 7, 7, 7, 7, 7, 7, 7, 7, 7, 7, 7, 7, 7, 7, 7, 7, 7, 7, 7, 7, 7, 7, 7, 7, 7, 7, 7, 7, 7, 7, 7, 7, 7, 7, 7, 7, 7, 7, 7, 7, 7, 7, 7, 7, 7, 8, 8, 8, 8, 8, 8, 8, 8, 8, 8, 8, 8, 8, 8, 8, 8, 8, 8, 8, 8, 8, 8, 8, 8, 8, 8, 8, 8, 8, 8, 8, 8, 8, 8, 8, 8, 8, 8, 8, 8, 8, 8, 8, 8, 8, 8, 8, 8, 8, 8, 8, 8, 8, 8, 8, 8, 8, 8, 8, 8, 8, 8, 8, 8, 8, 8, 8, 8, 8, 8, 8, 8, 8, 8, 8, 8, 8, 8, 8, 8, 8, 8, 8, 8, 8, 8, 8, 8, 8, 8, 8, 8, 8, 8, 8, 8, 8, 8, 8, 8, 8, 8, 8, 8, 8, 8, 8, 8, 8, 8, 8, 8, 8, 8, 8, 8, 8, 8, 8, 8, 8, 8, 8, 8, 8, 8, 8, 8]⟩)) (.tmp 15), none⟩,
        ⟨(some 17), .conv .i64 (.tmp 16), none⟩,
        ⟨(some 18), .bin .add (.tmp 13) (.tmp 17), none⟩,
        ⟨(some 2), .move (.tmp 18), none⟩])
      .ret))))⟩
theorem t34_ok : goodFn Try.prog 34 = true ∧ cfn Try.prog 34 = t34 := ⟨by kernel_rfl, by kernel_rfl⟩

/-- math/bits.Len64 -/
def t35 : NFn := ⟨25, [(.tmp 2)],
  (.seq
   (.ops [
     ⟨(some 2), .move (.const (.int .i64 0)), none⟩])
   (.seq
    (.seq
     (.ops [
       ⟨(some 3), .move (.tmp 0), none⟩,
       ⟨(some 4), .bin .geq (.tmp 3) (.const (.int .u64 4294967296)), none⟩])
     (.cond (.tmp 4)
      (.seq
       (.ops [
         ⟨(some 5), .move (.tmp 0), none⟩,
         ⟨(some 6), .bin .shr (.tmp 5) (.const (.int .u64 32)), none⟩,
         ⟨(some 0), .move (.tmp 6), none⟩])
       (.ops [
         ⟨(some 2), .move (.const (.int .i64 32)), none⟩]))
      .skip))
    (.seq
     (.seq
      (.ops [
        ⟨(some 7), .move (.tmp 0), none⟩,
        ⟨(some 8), .bin .geq (.tmp 7) (.const (.int .u64 65536)), none⟩])
      (.cond (.tmp 8)
       (.seq
        (.ops [
          ⟨(some 9), .move (.tmp 0), none⟩,
          ⟨(some 10), .bin .shr (.tmp 9) (.const (.int .u64 16)), none⟩,
          ⟨(some 0), .move (.tmp 10), none⟩])
        (.ops [
          ⟨(some 11), .move (.tmp 2), none⟩,
          ⟨(some 12), .bin .add (.tmp 11) (.const (.int .i64 16)), none⟩,
          ⟨(some 2), .move (.tmp 12), none⟩]))
       .skip))
     (.seq
      (.seq
       (.ops [
         ⟨(some 13), .move (.tmp 0), none⟩,
         ⟨(some 14), .bin .geq (.tmp 13) (.const (.int .u64 256)), none⟩])
       (.cond (.tmp 14)
        (.seq
         (.ops [
           ⟨(some 15), .move (.tmp 0), none⟩,
           ⟨(some 16), .bin .shr (.tmp 15) (.const (.int .u64 8)), none⟩,
           ⟨(some 0), .move (.tmp 16), none⟩])
         (.ops [
           ⟨(some 17), .move (.tmp 2), none⟩,
           ⟨(some 18), .bin .add (.tmp 17) (.const (.int .i64 8)), none⟩,
           ⟨(some 2), .move (.tmp 18), none⟩]))
        .skip))
      (.seq
       (.ops [
         ⟨(some 19), .move (.tmp 2), none⟩,
         ⟨(some 20), .move (.tmp 0), none⟩,
         ⟨(some 21), .conv .u8 (.tmp 20), none⟩,
         ⟨(some 22), .strIdx (.const (.str ⟨#[0, 1, 2, 2, 3, 3, 3, 3, 4, 4, 4, 4, 4, 4, 4, 4, 5, 5, 5, 5, 5, 5, 5, 5, 5, 5, 5, 5, 5, 5, 5, 5, 6, 6, 6, 6, 6, 6, 6, 6, 6, 6, 6, 6, 6, 6, 6, 6, 6, 6, 6, 6, 6, 6, 6, 6, 6, 6, 6, 6, 6, 6, 6, 6, 7, 7, 7, 7, 7, 7, 7, 7, 7, 7, 7, 7, 7, 7, 7, 7, 7, 7, 7, 7, 7, 7, 7, 7, 7, 7, 7, 7, 7, 7, 7, 7, 7, 7, 7, 7, 7, 7, 7, 7, 7, 7, 7, 7, 7, 7, 7, 7, 7, 7, 7, 7, 7, 7, 7, 7, 7, 7, 7, 7, 7, 7, 7, 7, 8, 8, 8, 8, 8, 8, 8, 8, 8, 8, 8, 8, 8, 8, 8, 8, 8, 8, 8, 8, 8, 8, 8, 8, 8, 8, 8, 8, 8, 8, 8, 8, 8, 8, 8, 8, 8, 8, 8, 8, 8, 8, 8, 8, 8, 8, 8, 8, 8, 8, 8, 8, 8, 8, 8, 8, 8, 8, 8, 8, 8, 8, 8, 8, 8, 8, 8, 8, 8, 8, 8, 8, 8, 8, 8, 8, 8, 8, 8, 8, 8, 8, 8, 8, 8, 8, 8, 8, 8, 8, 8, 8, 8, 8, 8, 8, 8, 8, 8, 8, 8, 8, 8, 8, 8, 8, 8, 8, 8, 8, 8, 8, 8, 8, 8, 8, 8, 8, 8, 8, 8, 8, 8, 8, 8, 8, 8, 8]⟩)) (.tmp 21), none⟩,
         ⟨(some 23), .conv .i64 (.tmp 22), none⟩,
         ⟨(some 24), .bin .add (.tmp 19) (.tmp 23), none⟩,
         ⟨(some 2), .move (.tmp 24), none⟩])
       .ret)))))⟩
theorem t35_ok : goodFn Try.prog 35 = true ∧ cfn Try.prog 35 = t35 := ⟨by kernel_rfl, by kernel_rfl⟩

/-- matchguard/matchguardref01.Compare -/
def t36 : NFn := ⟨26, [(.tmp 4)],
  (.seq
   (.ops [
     ⟨(some 2), .box (.tmp 0), none⟩,
     ⟨(some 3), .box (.tmp 1), none⟩,
     ⟨(some 4), .move (.const (.int .i64 0)), none⟩])
   (.seq
    (.draw 2 [
      ⟨0, ⟨(some 8), .load 2 true (.tmp 2), none⟩, [], 0⟩,
      ⟨1, ⟨(some 9), .call 42 [(.tmp 8)], none⟩, [0], 0⟩,
      ⟨2, ⟨(some 10), .load 2 true (.tmp 3), none⟩, [], 0⟩,
      ⟨3, ⟨(some 11), .call 42 [(.tmp 10)], none⟩, [2, 1, 0], 0⟩,
      ⟨4, ⟨(some 5), .alloc (fill 128 (.bool false)), none⟩, [], 0⟩,
      ⟨5, ⟨(some 6), .alloc (fill 128 (.bool false)), none⟩, [], 1⟩,
      ⟨6, ⟨none, .store 128 (.tmp 5) (.tmp 9), none⟩, [4, 1, 0, 3, 2, 5], 2⟩,
      ⟨7, ⟨none, .store 128 (.tmp 6) (.tmp 11), none⟩, [5, 3, 2, 1, 0, 6, 4], 2⟩])
    (.seq
     (.seq
      (.ops [
        ⟨(some 7), .move (.const (.int .i64 127)), none⟩])
      (.block 0
       (.loop
        (.seq
         (.seq
          (.ops [
            ⟨(some 12), .move (.tmp 7), none⟩,
            ⟨(some 13), .bin .geq (.tmp 12) (.const (.int .i64 0)), none⟩])
          (.cond (.tmp 13)
           .skip
           (.exit 0)))
         (.seq
          (.block 1
           (.seq
            (.draw 0 [
              ⟨0, ⟨(some 16), .move (.tmp 7), none⟩, [], 0⟩,
              ⟨1, ⟨(some 17), .idxArr (.tmp 5) (.tmp 16) 128 1, none⟩, [0], 0⟩,
              ⟨2, ⟨(some 18), .load 1 false (.tmp 17), none⟩, [1, 0], 0⟩,
              ⟨3, ⟨(some 19), .move (.tmp 7), none⟩, [], 0⟩,
              ⟨4, ⟨(some 20), .idxArr (.tmp 6) (.tmp 19) 128 1, none⟩, [3], 0⟩,
              ⟨5, ⟨(some 21), .load 1 false (.tmp 20), none⟩, [4, 3], 0⟩,
              ⟨6, ⟨(some 22), .eq true false [.bool] (.tmp 18) (.tmp 21), none⟩, [2, 1, 0, 5, 4, 3], 0⟩])
            (.cond (.tmp 22)
             (.seq
              (.seq
               (.ops [
                 ⟨(some 23), .move (.tmp 7), none⟩,
                 ⟨(some 24), .idxArr (.tmp 6) (.tmp 23) 128 1, none⟩,
                 ⟨(some 25), .load 1 false (.tmp 24), none⟩])
               (.cond (.tmp 25)
                (.seq
                 (.ops [
                   ⟨(some 4), .move (.const (.int .i64 (-1))), none⟩])
                 .ret)
                .skip))
              (.seq
               (.ops [
                 ⟨(some 4), .move (.const (.int .i64 1)), none⟩])
               .ret))
             .skip)))
          (.ops [
            ⟨(some 14), .move (.tmp 7), none⟩,
            ⟨(some 15), .bin .sub (.tmp 14) (.const (.int .i64 1)), none⟩,
            ⟨(some 7), .move (.tmp 15), none⟩]))))))
     (.seq
      (.ops [
        ⟨(some 4), .move (.const (.int .i64 0)), none⟩])
      .ret))))⟩
theorem t36_ok : goodFn Try.prog 36 = true ∧ cfn Try.prog 36 = t36 := ⟨by kernel_rfl, by kernel_rfl⟩

/-- slices.siftDownCmpFunc[matchguard/exact.Pair] -/
def t37 : NFn := ⟨82, [],
  (.seq
   (.ops [
     ⟨(some 12), .move (.tmp 1), none⟩,
     ⟨(some 10), .move (.tmp 12), none⟩])
   (.block 0
    (.loop
     (.block 1
      (.seq
       (.ops [
         ⟨(some 13), .move (.tmp 10), none⟩,
         ⟨(some 14), .bin .mul (.const (.int .i64 2)) (.tmp 13), none⟩,
         ⟨(some 15), .bin .add (.tmp 14) (.const (.int .i64 1)), none⟩,
         ⟨(some 11), .move (.tmp 15), none⟩])
       (.seq
        (.seq
         (.ops [
           ⟨(some 16), .move (.tmp 11), none⟩,
           ⟨(some 17), .move (.tmp 2), none⟩,
           ⟨(some 18), .bin .geq (.tmp 16) (.tmp 17), none⟩])
         (.cond (.tmp 18)
          (.exit 0)
          .skip))
        (.seq
         (.seq
          (.draw 0 [
            ⟨0, ⟨(some 19), .move (.tmp 11), none⟩, [], 0⟩,
            ⟨1, ⟨(some 20), .bin .add (.tmp 19) (.const (.int .i64 1)), none⟩, [0], 0⟩,
            ⟨2, ⟨(some 21), .move (.tmp 2), none⟩, [], 0⟩,
            ⟨3, ⟨(some 22), .bin .lss (.tmp 20) (.tmp 21), none⟩, [1, 0, 2], 0⟩,
            ⟨4, ⟨(some 23), .move (.tmp 22), none⟩, [3, 1, 0, 2], 0⟩,
            ⟨5, ⟨(some 24), .move (.tmp 4), (some (23, true))⟩, [4, 3, 1, 0, 2], 0⟩,
            ⟨6, ⟨(some 25), .move (.tmp 0), (some (23, true))⟩, [4, 3, 1, 0, 2], 0⟩,
            ⟨7, ⟨(some 26), .move (.tmp 3), (some (23, true))⟩, [4, 3, 1, 0, 2], 0⟩,
            ⟨8, ⟨(some 27), .move (.tmp 11), (some (23, true))⟩, [4, 3, 1, 0, 2], 0⟩,
            ⟨9, ⟨(some 28), .bin .add (.tmp 26) (.tmp 27), (some (23, true))⟩, [7, 4, 3, 1, 0, 2, 8], 0⟩,
            ⟨10, ⟨(some 29), .idxSl (.tmp 25) (.tmp 28) 9, (some (23, true))⟩, [6, 4, 3, 1, 0, 2, 9, 7, 8], 0⟩,
            ⟨11, ⟨(some 30), .load 9 true (.tmp 29), (some (23, true))⟩, [10, 6, 4, 3, 1, 0, 2, 9, 7, 8], 0⟩,
            ⟨12, ⟨(some 31), .move (.tmp 0), (some (23, true))⟩, [4, 3, 1, 0, 2], 0⟩,
            ⟨13, ⟨(some 32), .move (.tmp 3), (some (23, true))⟩, [4, 3, 1, 0, 2], 0⟩,
            ⟨14, ⟨(some 33), .move (.tmp 11), (some (23, true))⟩, [4, 3, 1, 0, 2], 0⟩,
            ⟨15, ⟨(some 34), .bin .add (.tmp 32) (.tmp 33), (some (23, true))⟩, [13, 4, 3, 1, 0, 2, 14], 0⟩,
            ⟨16, ⟨(some 35), .bin .add (.tmp 34) (.const (.int .i64 1)), (some (23, true))⟩, [15, 13, 4, 3, 1, 0, 2, 14], 0⟩,
            ⟨17, ⟨(some 36), .idxSl (.tmp 31) (.tmp 35) 9, (some (23, true))⟩, [12, 4, 3, 1, 0, 2, 16, 15, 13, 14], 0⟩,
            ⟨18, ⟨(some 37), .load 9 true (.tmp 36), (some (23, true))⟩, [17, 12, 4, 3, 1, 0, 2, 16, 15, 13, 14], 0⟩,
            ⟨19, ⟨(some 38), .callv (.tmp 24) [(.tmp 30), (.tmp 37)], (some (23, true))⟩, [5, 4, 3, 1, 0, 2, 11, 10, 6, 9, 7, 8, 18, 17, 12, 16, 15, 13, 14], 0⟩,
            ⟨20, ⟨(some 39), .bin .lss (.tmp 38) (.const (.int .i64 0)), (some (23, true))⟩, [19, 5, 4, 3, 1, 0, 2, 11, 10, 6, 9, 7, 8, 18, 17, 12, 16, 15, 13, 14], 0⟩,
            ⟨21, ⟨(some 40), .pick (.tmp 23) (.tmp 39) (.const (.bool false)), none⟩, [4, 3, 1, 0, 2, 20, 19, 5, 11, 10, 6, 9, 7, 8, 18, 17, 12, 16, 15, 13, 14], 0⟩])
          (.cond (.tmp 40)
           (.ops [
             ⟨(some 41), .move (.tmp 11), none⟩,
             ⟨(some 42), .bin .add (.tmp 41) (.const (.int .i64 1)), none⟩,
             ⟨(some 11), .move (.tmp 42), none⟩])
           .skip))
         (.seq
          (.seq
           (.draw 0 [
             ⟨0, ⟨(some 43), .move (.tmp 4), none⟩, [], 0⟩,
             ⟨1, ⟨(some 44), .move (.tmp 0), none⟩, [], 0⟩,
             ⟨2, ⟨(some 45), .move (.tmp 3), none⟩, [], 0⟩,
             ⟨3, ⟨(some 46), .move (.tmp 10), none⟩, [], 0⟩,
             ⟨4, ⟨(some 47), .bin .add (.tmp 45) (.tmp 46), none⟩, [2, 3], 0⟩,
             ⟨5, ⟨(some 48), .idxSl (.tmp 44) (.tmp 47) 9, none⟩, [1, 4, 2, 3], 0⟩,
             ⟨6, ⟨(some 49), .load 9 true (.tmp 48), none⟩, [5, 1, 4, 2, 3], 0⟩,
             ⟨7, ⟨(some 50), .move (.tmp 0), none⟩, [], 0⟩,
             ⟨8, ⟨(some 51), .move (.tmp 3), none⟩, [], 0⟩,
             ⟨9, ⟨(some 52), .move (.tmp 11), none⟩, [], 0⟩,
             ⟨10, ⟨(some 53), .bin .add (.tmp 51) (.tmp 52), none⟩, [8, 9], 0⟩,
             ⟨11, ⟨(some 54), .idxSl (.tmp 50) (.tmp 53) 9, none⟩, [7, 10, 8, 9], 0⟩,
             ⟨12, ⟨(some 55), .load 9 true (.tmp 54), none⟩, [11, 7, 10, 8, 9], 0⟩,
             ⟨13, ⟨(some 56), .callv (.tmp 43) [(.tmp 49), (.tmp 55)], none⟩, [0, 6, 5, 1, 4, 2, 3, 12, 11, 7, 10, 8, 9], 0⟩,
             ⟨14, ⟨(some 57), .bin .lss (.tmp 56) (.const (.int .i64 0)), none⟩, [13, 0, 6, 5, 1, 4, 2, 3, 12, 11, 7, 10, 8, 9], 0⟩,
             ⟨15, ⟨(some 58), .un .not (.tmp 57), none⟩, [14, 13, 0, 6, 5, 1, 4, 2, 3, 12, 11, 7, 10, 8, 9], 0⟩])
           (.cond (.tmp 58)
            .ret
            .skip))
          (.seq
           (.draw 0 [
             ⟨0, ⟨(some 59), .move (.tmp 0), none⟩, [], 0⟩,
             ⟨1, ⟨(some 60), .move (.tmp 3), none⟩, [], 0⟩,
             ⟨2, ⟨(some 61), .move (.tmp 10), none⟩, [], 0⟩,
             ⟨3, ⟨(some 62), .bin .add (.tmp 60) (.tmp 61), none⟩, [1, 2], 0⟩,
             ⟨4, ⟨(some 63), .move (.tmp 0), none⟩, [], 0⟩,
             ⟨5, ⟨(some 64), .move (.tmp 3), none⟩, [], 0⟩,
             ⟨6, ⟨(some 65), .move (.tmp 11), none⟩, [], 0⟩,
             ⟨7, ⟨(some 66), .bin .add (.tmp 64) (.tmp 65), none⟩, [5, 6], 0⟩,
             ⟨8, ⟨(some 67), .move (.tmp 0), none⟩, [], 0⟩,
             ⟨9, ⟨(some 68), .move (.tmp 3), none⟩, [], 0⟩,
             ⟨10, ⟨(some 69), .move (.tmp 11), none⟩, [], 0⟩,
             ⟨11, ⟨(some 70), .bin .add (.tmp 68) (.tmp 69), none⟩, [9, 10], 0⟩,
             ⟨12, ⟨(some 71), .idxSl (.tmp 67) (.tmp 70) 9, none⟩, [8, 11, 9, 10], 0⟩,
             ⟨13, ⟨(some 72), .load 9 true (.tmp 71), none⟩, [12, 8, 11, 9, 10], 0⟩,
             ⟨14, ⟨(some 73), .move (.tmp 0), none⟩, [], 0⟩,
             ⟨15, ⟨(some 74), .move (.tmp 3), none⟩, [], 0⟩,
             ⟨16, ⟨(some 75), .move (.tmp 10), none⟩, [], 0⟩,
             ⟨17, ⟨(some 76), .bin .add (.tmp 74) (.tmp 75), none⟩, [15, 16], 0⟩,
             ⟨18, ⟨(some 77), .idxSl (.tmp 73) (.tmp 76) 9, none⟩, [14, 17, 15, 16], 0⟩,
             ⟨19, ⟨(some 78), .load 9 true (.tmp 77), none⟩, [18, 14, 17, 15, 16], 0⟩,
             ⟨20, ⟨(some 79), .idxSl (.tmp 59) (.tmp 62) 9, none⟩, [0, 3, 1, 2, 8, 9, 10, 11, 12, 13, 19, 18, 14, 17, 15, 16], 0⟩,
             ⟨21, ⟨none, .store 9 (.tmp 79) (.tmp 72), none⟩, [20, 0, 3, 1, 2, 8, 9, 10, 11, 12, 13, 19, 18, 14, 17, 15, 16], 0⟩,
             ⟨22, ⟨(some 80), .idxSl (.tmp 63) (.tmp 66) 9, none⟩, [4, 7, 5, 6, 0, 1, 2, 3, 8, 9, 10, 11, 12, 13, 14, 15, 16, 17, 18, 19, 20, 21], 0⟩,
             ⟨23, ⟨none, .store 9 (.tmp 80) (.tmp 78), none⟩, [22, 4, 7, 5, 6, 0, 1, 2, 3, 8, 9, 10, 11, 12, 13, 14, 15, 16, 17, 18, 19, 20, 21], 0⟩])
           (.ops [
             ⟨(some 81), .move (.tmp 11), none⟩,
             ⟨(some 10), .move (.tmp 81), none⟩]))))))))))⟩
theorem t37_ok : goodFn Try.prog 37 = true ∧ cfn Try.prog 37 = t37 := ⟨by kernel_rfl, by kernel_rfl⟩

/-- slices.nextPowerOfTwo -/
def t38 : NFn := ⟨7, [(.tmp 2)],
  (.seq
   (.ops [
     ⟨(some 2), .move (.const (.int .u64 0)), none⟩])
   (.seq
    (.ops [
      ⟨(some 3), .move (.tmp 0), none⟩,
      ⟨(some 4), .conv .u64 (.tmp 3), none⟩,
      ⟨(some 5), .call 24 [(.tmp 4)], none⟩,
      ⟨(some 6), .bin .shl (.const (.int .u64 1)) (.tmp 5), none⟩,
      ⟨(some 2), .move (.tmp 6), none⟩])
    .ret))⟩
theorem t38_ok : goodFn Try.prog 38 = true ∧ cfn Try.prog 38 = t38 := ⟨by kernel_rfl, by kernel_rfl⟩

/-- (*slices.xorshift).Next -/
def t39 : NFn := ⟨33, [(.tmp 2)],
  (.seq
   (.ops [
     ⟨(some 2), .move (.const (.int .u64 0)), none⟩])
   (.seq
    (.draw 0 [
      ⟨0, ⟨(some 3), .move (.tmp 0), none⟩, [], 0⟩,
      ⟨1, ⟨(some 4), .nilCheck (.tmp 3), none⟩, [0], 0⟩,
      ⟨2, ⟨(some 5), .load 1 false (.tmp 4), none⟩, [1, 0], 0⟩,
      ⟨3, ⟨(some 6), .move (.tmp 0), none⟩, [], 0⟩,
      ⟨4, ⟨(some 7), .nilCheck (.tmp 6), none⟩, [3], 0⟩,
      ⟨5, ⟨(some 8), .load 1 false (.tmp 7), none⟩, [4, 3], 0⟩,
      ⟨6, ⟨(some 9), .bin .shl (.tmp 8) (.const (.int .u64 13)), none⟩, [5, 4, 3], 0⟩,
      ⟨7, ⟨(some 10), .bin .xor (.tmp 5) (.tmp 9), none⟩, [2, 1, 0, 6, 5, 4, 3], 0⟩,
      ⟨8, ⟨(some 11), .nilCheck (.tmp 3), none⟩, [0, 1, 2, 3, 4, 5, 6, 7], 0⟩,
      ⟨9, ⟨none, .store 1 (.tmp 11) (.tmp 10), none⟩, [8, 0, 1, 2, 3, 4, 5, 6, 7], 0⟩])
    (.seq
     (.draw 0 [
       ⟨0, ⟨(some 12), .move (.tmp 0), none⟩, [], 0⟩,
       ⟨1, ⟨(some 13), .nilCheck (.tmp 12), none⟩, [0], 0⟩,
       ⟨2, ⟨(some 14), .load 1 false (.tmp 13), none⟩, [1, 0], 0⟩,
       ⟨3, ⟨(some 15), .move (.tmp 0), none⟩, [], 0⟩,
       ⟨4, ⟨(some 16), .nilCheck (.tmp 15), none⟩, [3], 0⟩,
       ⟨5, ⟨(some 17), .load 1 false (.tmp 16), none⟩, [4, 3], 0⟩,
       ⟨6, ⟨(some 18), .bin .shr (.tmp 17) (.const (.int .u64 7)), none⟩, [5, 4, 3], 0⟩,
       ⟨7, ⟨(some 19), .bin .xor (.tmp 14) (.tmp 18), none⟩, [2, 1, 0, 6, 5, 4, 3], 0⟩,
       ⟨8, ⟨(some 20), .nilCheck (.tmp 12), none⟩, [0, 1, 2, 3, 4, 5, 6, 7], 0⟩,
       ⟨9, ⟨none, .store 1 (.tmp 20) (.tmp 19), none⟩, [8, 0, 1, 2, 3, 4, 5, 6, 7], 0⟩])
     (.seq
      (.draw 0 [
        ⟨0, ⟨(some 21), .move (.tmp 0), none⟩, [], 0⟩,
        ⟨1, ⟨(some 22), .nilCheck (.tmp 21), none⟩, [0], 0⟩,
        ⟨2, ⟨(some 23), .load 1 false (.tmp 22), none⟩, [1, 0], 0⟩,
        ⟨3, ⟨(some 24), .move (.tmp 0), none⟩, [], 0⟩,
        ⟨4, ⟨(some 25), .nilCheck (.tmp 24), none⟩, [3], 0⟩,
        ⟨5, ⟨(some 26), .load 1 false (.tmp 25), none⟩, [4, 3], 0⟩,
        ⟨6, ⟨(some 27), .bin .shl (.tmp 26) (.const (.int .u64 17)), none⟩, [5, 4, 3], 0⟩,
        ⟨7, ⟨(some 28), .bin .xor (.tmp 23) (.tmp 27), none⟩, [2, 1, 0, 6, 5, 4, 3], 0⟩,
        ⟨8, ⟨(some 29), .nilCheck (.tmp 21), none⟩, [0, 1, 2, 3, 4, 5, 6, 7], 0⟩,
        ⟨9, ⟨none, .store 1 (.tmp 29) (.tmp 28), none⟩, [8, 0, 1, 2, 3, 4, 5, 6, 7], 0⟩])
      (.seq
       (.ops [
         ⟨(some 30), .move (.tmp 0), none⟩,
         ⟨(some 31), .nilCheck (.tmp 30), none⟩,
         ⟨(some 32), .load 1 false (.tmp 31), none⟩,
         ⟨(some 2), .move (.tmp 32), none⟩])
       .ret)))))⟩
theorem t39_ok : goodFn Try.prog 39 = true ∧ cfn Try.prog 39 = t39 := ⟨by kernel_rfl, by kernel_rfl⟩

/-- slices.medianAdjacentCmpFunc[matchguard/exact.Pair] -/
def t40 : NFn := ⟨18, [(.tmp 8)],
  (.seq
   (.ops [
     ⟨(some 8), .move (.const (.int .i64 0)), none⟩])
   (.seq
    (.ops [
      ⟨(some 9), .move (.tmp 0), none⟩,
      ⟨(some 10), .move (.tmp 1), none⟩,
      ⟨(some 11), .bin .sub (.tmp 10) (.const (.int .i64 1)), none⟩,
      ⟨(some 12), .move (.tmp 1), none⟩,
      ⟨(some 13), .move (.tmp 1), none⟩,
      ⟨(some 14), .bin .add (.tmp 13) (.const (.int .i64 1)), none⟩,
      ⟨(some 15), .move (.tmp 2), none⟩,
      ⟨(some 16), .move (.tmp 3), none⟩,
      ⟨(some 17), .call 41 [(.tmp 9), (.tmp 11), (.tmp 12), (.tmp 14), (.tmp 15), (.tmp 16)], none⟩,
      ⟨(some 8), .move (.tmp 17), none⟩])
    .ret))⟩
theorem t40_ok : goodFn Try.prog 40 = true ∧ cfn Try.prog 40 = t40 := ⟨by kernel_rfl, by kernel_rfl⟩

/-- slices.medianCmpFunc[matchguard/exact.Pair] -/
def t41 : NFn := ⟨41, [(.tmp 12)],
  (.seq
   (.ops [
     ⟨(some 12), .move (.const (.int .i64 0)), none⟩])
   (.seq
    (.ops [
      ⟨(some 14), .move (.tmp 0), none⟩,
      ⟨(some 15), .move (.tmp 1), none⟩,
      ⟨(some 16), .move (.tmp 2), none⟩,
      ⟨(some 17), .move (.tmp 4), none⟩,
      ⟨(some 18), .move (.tmp 5), none⟩,
      ⟨(some 19), .call 43 [(.tmp 14), (.tmp 15), (.tmp 16), (.tmp 17), (.tmp 18)], none⟩,
      ⟨(some 13), .move (.tmp 19), none⟩,
      ⟨(some 20), .extract (.tmp 13) 0, none⟩,
      ⟨(some 21), .extract (.tmp 13) 1, none⟩,
      ⟨(some 1), .move (.tmp 20), none⟩,
      ⟨(some 2), .move (.tmp 21), none⟩])
    (.seq
     (.ops [
       ⟨(some 23), .move (.tmp 0), none⟩,
       ⟨(some 24), .move (.tmp 2), none⟩,
       ⟨(some 25), .move (.tmp 3), none⟩,
       ⟨(some 26), .move (.tmp 4), none⟩,
       ⟨(some 27), .move (.tmp 5), none⟩,
       ⟨(some 28), .call 43 [(.tmp 23), (.tmp 24), (.tmp 25), (.tmp 26), (.tmp 27)], none⟩,
       ⟨(some 22), .move (.tmp 28), none⟩,
       ⟨(some 29), .extract (.tmp 22) 0, none⟩,
       ⟨(some 30), .extract (.tmp 22) 1, none⟩,
       ⟨(some 2), .move (.tmp 29), none⟩,
       ⟨(some 3), .move (.tmp 30), none⟩])
     (.seq
      (.ops [
        ⟨(some 32), .move (.tmp 0), none⟩,
        ⟨(some 33), .move (.tmp 1), none⟩,
        ⟨(some 34), .move (.tmp 2), none⟩,
        ⟨(some 35), .move (.tmp 4), none⟩,
        ⟨(some 36), .move (.tmp 5), none⟩,
        ⟨(some 37), .call 43 [(.tmp 32), (.tmp 33), (.tmp 34), (.tmp 35), (.tmp 36)], none⟩,
        ⟨(some 31), .move (.tmp 37), none⟩,
        ⟨(some 38), .extract (.tmp 31) 0, none⟩,
        ⟨(some 39), .extract (.tmp 31) 1, none⟩,
        ⟨(some 1), .move (.tmp 38), none⟩,
        ⟨(some 2), .move (.tmp 39), none⟩])
      (.seq
       (.ops [
         ⟨(some 40), .move (.tmp 2), none⟩,
         ⟨(some 12), .move (.tmp 40), none⟩])
       .ret)))))⟩
theorem t41_ok : goodFn Try.prog 41 = true ∧ cfn Try.prog 41 = t41 := ⟨by kernel_rfl, by kernel_rfl⟩

/-- matchguard/matchguardref01.Read -/
def t42 : NFn := ⟨29, [(.cell 2 128 true)],
  (.seq
   (.ops [
     ⟨(some 1), .box (.tmp 0), none⟩,
     ⟨(some 2), .alloc (fill 128 (.bool false)), none⟩])
   (.seq
    (.ops [
      ⟨(some 3), .alloc (fill 128 (.bool false)), none⟩])
    (.seq
     (.seq
      (.ops [
        ⟨(some 4), .move (.const (.int .i64 0)), none⟩])
      (.block 0
       (.loop
        (.seq
         (.seq
          (.ops [
            ⟨(some 5), .move (.tmp 4), none⟩,
            ⟨(some 6), .bin .lss (.tmp 5) (.const (.int .i64 64)), none⟩])
          (.cond (.tmp 6)
           .skip
           (.exit 0)))
         (.seq
          (.block 1
           (.draw 0 [
             ⟨0, ⟨(some 9), .move (.tmp 4), none⟩, [], 0⟩,
             ⟨1, ⟨(some 10), .move (.tmp 4), none⟩, [], 0⟩,
             ⟨2, ⟨(some 11), .bin .add (.tmp 10) (.const (.int .i64 64)), none⟩, [1], 0⟩,
             ⟨3, ⟨(some 12), .off (.tmp 1) 1, none⟩, [], 0⟩,
             ⟨4, ⟨(some 13), .load 1 false (.tmp 12), none⟩, [3], 0⟩,
             ⟨5, ⟨(some 14), .move (.tmp 4), none⟩, [], 0⟩,
             ⟨6, ⟨(some 15), .conv .u64 (.tmp 14), none⟩, [5], 0⟩,
             ⟨7, ⟨(some 16), .bin .shr (.tmp 13) (.tmp 15), none⟩, [4, 3, 6, 5], 0⟩,
             ⟨8, ⟨(some 17), .bin .and (.tmp 16) (.const (.int .u64 1)), none⟩, [7, 4, 3, 6, 5], 0⟩,
             ⟨9, ⟨(some 18), .bin .eql (.tmp 17) (.const (.int .u64 1)), none⟩, [8, 7, 4, 3, 6, 5], 0⟩,
             ⟨10, ⟨(some 19), .off (.tmp 1) 0, none⟩, [], 0⟩,
             ⟨11, ⟨(some 20), .load 1 false (.tmp 19), none⟩, [10], 0⟩,
             ⟨12, ⟨(some 21), .move (.tmp 4), none⟩, [], 0⟩,
             ⟨13, ⟨(some 22), .conv .u64 (.tmp 21), none⟩, [12], 0⟩,
             ⟨14, ⟨(some 23), .bin .shr (.tmp 20) (.tmp 22), none⟩, [11, 10, 13, 12], 0⟩,
             ⟨15, ⟨(some 24), .bin .and (.tmp 23) (.const (.int .u64 1)), none⟩, [14, 11, 10, 13, 12], 0⟩,
             ⟨16, ⟨(some 25), .bin .eql (.tmp 24) (.const (.int .u64 1)), none⟩, [15, 14, 11, 10, 13, 12], 0⟩,
             ⟨17, ⟨(some 26), .idxArr (.tmp 3) (.tmp 9) 128 1, none⟩, [0, 3, 4, 5, 6, 7, 8, 9], 0⟩,
             ⟨18, ⟨none, .store 1 (.tmp 26) (.tmp 18), none⟩, [17, 0, 3, 4, 5, 6, 7, 8, 9], 0⟩,
             ⟨19, ⟨(some 27), .idxArr (.tmp 3) (.tmp 11) 128 1, none⟩, [2, 1, 0, 3, 4, 5, 6, 7, 8, 9, 10, 11, 12, 13, 14, 15, 16, 17, 18], 0⟩,
             ⟨20, ⟨none, .store 1 (.tmp 27) (.tmp 25), none⟩, [19, 2, 1, 0, 3, 4, 5, 6, 7, 8, 9, 10, 11, 12, 13, 14, 15, 16, 17, 18], 0⟩]))
          (.ops [
            ⟨(some 7), .move (.tmp 4), none⟩,
            ⟨(some 8), .bin .add (.tmp 7) (.const (.int .i64 1)), none⟩,
            ⟨(some 4), .move (.tmp 8), none⟩]))))))
     (.seq
      (.ops [
        ⟨(some 28), .load 128 true (.tmp 3), none⟩,
        ⟨none, .store 128 (.tmp 2) (.tmp 28), none⟩])
      .ret))))⟩
theorem t42_ok : goodFn Try.prog 42 = true ∧ cfn Try.prog 42 = t42 := ⟨by kernel_rfl, by kernel_rfl⟩

/-- slices.order2CmpFunc[matchguard/exact.Pair] -/
def t43 : NFn := ⟨32, [(.tmp 10), (.tmp 11)],
  (.seq
   (.ops [
     ⟨(some 10), .move (.const (.int .i64 0)), none⟩,
     ⟨(some 11), .move (.const (.int .i64 0)), none⟩])
   (.seq
    (.seq
     (.draw 0 [
       ⟨0, ⟨(some 12), .move (.tmp 4), none⟩, [], 0⟩,
       ⟨1, ⟨(some 13), .move (.tmp 0), none⟩, [], 0⟩,
       ⟨2, ⟨(some 14), .move (.tmp 2), none⟩, [], 0⟩,
       ⟨3, ⟨(some 15), .idxSl (.tmp 13) (.tmp 14) 9, none⟩, [1, 2], 0⟩,
       ⟨4, ⟨(some 16), .load 9 true (.tmp 15), none⟩, [3, 1, 2], 0⟩,
       ⟨5, ⟨(some 17), .move (.tmp 0), none⟩, [], 0⟩,
       ⟨6, ⟨(some 18), .move (.tmp 1), none⟩, [], 0⟩,
       ⟨7, ⟨(some 19), .idxSl (.tmp 17) (.tmp 18) 9, none⟩, [5, 6], 0⟩,
       ⟨8, ⟨(some 20), .load 9 true (.tmp 19), none⟩, [7, 5, 6], 0⟩,
       ⟨9, ⟨(some 21), .callv (.tmp 12) [(.tmp 16), (.tmp 20)], none⟩, [0, 4, 3, 1, 2, 8, 7, 5, 6], 0⟩,
       ⟨10, ⟨(some 22), .bin .lss (.tmp 21) (.const (.int .i64 0)), none⟩, [9, 0, 4, 3, 1, 2, 8, 7, 5, 6], 0⟩])
     (.cond (.tmp 22)
      (.seq
       (.ops [
         ⟨(some 23), .move (.tmp 3), none⟩,
         ⟨(some 24), .nilCheck (.tmp 23), none⟩,
         ⟨(some 25), .load 1 false (.tmp 24), none⟩,
         ⟨(some 26), .bin .add (.tmp 25) (.const (.int .i64 1)), none⟩,
         ⟨(some 27), .nilCheck (.tmp 23), none⟩,
         ⟨none, .store 1 (.tmp 27) (.tmp 26), none⟩])
       (.seq
        (.ops [
          ⟨(some 28), .move (.tmp 2), none⟩,
          ⟨(some 29), .move (.tmp 1), none⟩,
          ⟨(some 10), .move (.tmp 28), none⟩,
          ⟨(some 11), .move (.tmp 29), none⟩])
        .ret))
      .skip))
    (.seq
     (.ops [
       ⟨(some 30), .move (.tmp 1), none⟩,
       ⟨(some 31), .move (.tmp 2), none⟩,
       ⟨(some 10), .move (.tmp 30), none⟩,
       ⟨(some 11), .move (.tmp 31), none⟩])
     .ret)))⟩
theorem t43_ok : goodFn Try.prog 43 = true ∧ cfn Try.prog 43 = t43 := ⟨by kernel_rfl, by kernel_rfl⟩

def tab : List (Nat × NFn) := [(3, t3), (4, t4), (5, t5), (6, t6), (7, t7), (8, t8), (9, t9), (10, t10), (11, t11), (12, t12), (13, t13), (14, t14), (15, t15), (16, t16), (17, t17), (18, t18), (19, t19), (20, t20), (21, t21), (22, t22), (23, t23), (24, t24), (25, t25), (26, t26), (27, t27), (28, t28), (29, t29), (30, t30), (31, t31), (32, t32), (33, t33), (34, t34), (35, t35), (36, t36), (37, t37), (38, t38), (39, t39), (40, t40), (41, t41), (42, t42), (43, t43)]
theorem tab_ok : ∀ p ∈ tab, goodFn Try.prog p.1 = true ∧ cfn Try.prog p.1 = p.2 := by
  intro p hp
  simp only [tab, List.mem_cons, List.not_mem_nil, or_false] at hp
  rcases hp with rfl | rfl | rfl | rfl | rfl | rfl | rfl | rfl | rfl | rfl | rfl | rfl | rfl | rfl | rfl | rfl | rfl | rfl | rfl | rfl | rfl | rfl | rfl | rfl | rfl | rfl | rfl | rfl | rfl | rfl | rfl | rfl | rfl | rfl | rfl | rfl | rfl | rfl | rfl | rfl | rfl
  · exact t3_ok
  · exact t4_ok
  · exact t5_ok
  · exact t6_ok
  · exact t7_ok
  · exact t8_ok
  · exact t9_ok
  · exact t10_ok
  · exact t11_ok
  · exact t12_ok
  · exact t13_ok
  · exact t14_ok
  · exact t15_ok
  · exact t16_ok
  · exact t17_ok
  · exact t18_ok
  · exact t19_ok
  · exact t20_ok
  · exact t21_ok
  · exact t22_ok
  · exact t23_ok
  · exact t24_ok
  · exact t25_ok
  · exact t26_ok
  · exact t27_ok
  · exact t28_ok
  · exact t29_ok
  · exact t30_ok
  · exact t31_ok
  · exact t32_ok
  · exact t33_ok
  · exact t34_ok
  · exact t35_ok
  · exact t36_ok
  · exact t37_ok
  · exact t38_ok
  · exact t39_ok
  · exact t40_ok
  · exact t41_ok
  · exact t42_ok
  · exact t43_ok
end Go.Proofs
