import Derived.Test.YtpiejppmldboaaaNsQ
import Derived.Test.YtpiejppmldboaaaProg
import Derived.KernelRfl
set_option maxRecDepth 100000
namespace Go.Proofs
open Go.Ns
/-- A long list of one value over and over. -/
def fill (n : Nat) (x : NV) : List NV := List.replicate n x

/-- gosem.cut.init -/
def t2 : NFn := ⟨1, [],
  (.ops [
    ⟨(some 0), .fail, none⟩])⟩
theorem t2_ok : goodFn Try.prog 2 = true ∧ cfn Try.prog 2 = t2 := ⟨by kernel_rfl, by kernel_rfl⟩

/-- matchguard/matchguardlaw01.ValueShifts -/
def t3 : NFn := ⟨59, [(.tmp 4)],
  (.seq
   (.ops [
     ⟨(some 2), .box (.tmp 0), none⟩,
     ⟨(some 4), .move (.const (.bool false)), none⟩])
   (.seq
    (.seq
     (.ops [
       ⟨(some 7), .move (.tmp 1), none⟩,
       ⟨(some 8), .move (.tmp 1), none⟩,
       ⟨(some 9), .bin .and (.tmp 8) (.const (.int .i64 127)), none⟩,
       ⟨(some 10), .bslice 6 [(.int .i64 0), (.int .i64 0), (.int .i64 0), (.int .i64 0), (.int .i64 0), (.int .i64 0)] [(0, 1, (.tmp 7)), (1, 1, (.tmp 9)), (2, 1, (.const (.int .i64 64))), (3, 1, (.const (.int .i64 63))), (4, 1, (.const (.int .i64 127))), (5, 1, (.const (.int .i64 128)))], none⟩,
       ⟨(some 11), .lenSl (.tmp 10), none⟩,
       ⟨(some 12), .move (.const (.int .i64 0)), none⟩])
     (.block 0
      (.loop
       (.seq
        (.ops [
          ⟨(some 13), .bin .lss (.tmp 12) (.tmp 11), none⟩])
        (.seq
         (.cond (.tmp 13)
          .skip
          (.exit 0))
         (.seq
          (.block 1
           (.seq
            (.ops [
              ⟨(some 14), .idxSl (.tmp 10) (.tmp 12) 1, none⟩,
              ⟨(some 15), .load 1 false (.tmp 14), none⟩,
              ⟨(some 6), .move (.tmp 15), none⟩])
            (.seq
             (.draw 0 [
               ⟨0, ⟨(some 16), .load 2 true (.tmp 2), none⟩, [], 0⟩,
               ⟨1, ⟨(some 17), .move (.tmp 6), none⟩, [], 0⟩,
               ⟨2, ⟨(some 18), .call 10 [(.tmp 16), (.tmp 17)], none⟩, [0, 1], 0⟩,
               ⟨3, ⟨(some 19), .load 2 true (.tmp 2), none⟩, [], 0⟩,
               ⟨4, ⟨(some 20), .move (.tmp 6), none⟩, [], 0⟩,
               ⟨5, ⟨(some 21), .call 11 [(.tmp 19), (.tmp 20)], none⟩, [3, 4, 2, 0, 1], 0⟩,
               ⟨6, ⟨(some 22), .eq true true [.int, .int] (.tmp 18) (.tmp 21), none⟩, [2, 0, 1, 5, 3, 4], 0⟩,
               ⟨7, ⟨(some 23), .move (.tmp 22), none⟩, [6, 2, 0, 1, 5, 3, 4], 0⟩,
               ⟨8, ⟨(some 24), .load 2 true (.tmp 2), (some (23, false))⟩, [7, 6, 2, 0, 1, 5, 3, 4], 0⟩,
               ⟨9, ⟨(some 25), .move (.tmp 6), (some (23, false))⟩, [7, 6, 2, 0, 1, 5, 3, 4], 0⟩,
               ⟨10, ⟨(some 26), .call 12 [(.tmp 24), (.tmp 25)], (some (23, false))⟩, [8, 7, 6, 2, 0, 1, 5, 3, 4, 9], 0⟩,
               ⟨11, ⟨(some 27), .load 2 true (.tmp 2), (some (23, false))⟩, [7, 6, 2, 0, 1, 5, 3, 4], 0⟩,
               ⟨12, ⟨(some 28), .move (.tmp 6), (some (23, false))⟩, [7, 6, 2, 0, 1, 5, 3, 4], 0⟩,
               ⟨13, ⟨(some 29), .call 13 [(.tmp 27), (.tmp 28)], (some (23, false))⟩, [11, 7, 6, 2, 0, 1, 5, 3, 4, 12, 10, 8, 9], 0⟩,
               ⟨14, ⟨(some 30), .eq true true [.int, .int] (.tmp 26) (.tmp 29), (some (23, false))⟩, [10, 8, 7, 6, 2, 0, 1, 5, 3, 4, 9, 13, 11, 12], 0⟩,
               ⟨15, ⟨(some 31), .pick (.tmp 23) (.const (.bool true)) (.tmp 30), none⟩, [7, 6, 2, 0, 1, 5, 3, 4, 14, 10, 8, 9, 13, 11, 12], 0⟩,
               ⟨16, ⟨(some 32), .move (.tmp 31), none⟩, [15, 7, 6, 2, 0, 1, 5, 3, 4, 14, 10, 8, 9, 13, 11, 12], 0⟩,
               ⟨17, ⟨(some 33), .load 2 true (.tmp 2), (some (32, false))⟩, [16, 15, 7, 6, 2, 0, 1, 5, 3, 4, 14, 10, 8, 9, 13, 11, 12], 0⟩,
               ⟨18, ⟨(some 34), .move (.tmp 6), (some (32, false))⟩, [16, 15, 7, 6, 2, 0, 1, 5, 3, 4, 14, 10, 8, 9, 13, 11, 12], 0⟩,
               ⟨19, ⟨(some 35), .call 14 [(.tmp 33), (.tmp 34)], (some (32, false))⟩, [17, 16, 15, 7, 6, 2, 0, 1, 5, 3, 4, 14, 10, 8, 9, 13, 11, 12, 18], 0⟩,
               ⟨20, ⟨(some 36), .load 2 true (.tmp 2), (some (32, false))⟩, [16, 15, 7, 6, 2, 0, 1, 5, 3, 4, 14, 10, 8, 9, 13, 11, 12], 0⟩,
               ⟨21, ⟨(some 37), .move (.tmp 6), (some (32, false))⟩, [16, 15, 7, 6, 2, 0, 1, 5, 3, 4, 14, 10, 8, 9, 13, 11, 12], 0⟩,
               ⟨22, ⟨(some 38), .call 15 [(.tmp 36), (.tmp 37)], (some (32, false))⟩, [20, 16, 15, 7, 6, 2, 0, 1, 5, 3, 4, 14, 10, 8, 9, 13, 11, 12, 21, 19, 17, 18], 0⟩,
               ⟨23, ⟨(some 39), .eq true false [.bool] (.tmp 35) (.tmp 38), (some (32, false))⟩, [19, 17, 16, 15, 7, 6, 2, 0, 1, 5, 3, 4, 14, 10, 8, 9, 13, 11, 12, 18, 22, 20, 21], 0⟩,
               ⟨24, ⟨(some 40), .pick (.tmp 32) (.const (.bool true)) (.tmp 39), none⟩, [16, 15, 7, 6, 2, 0, 1, 5, 3, 4, 14, 10, 8, 9, 13, 11, 12, 23, 19, 17, 18, 22, 20, 21], 0⟩,
               ⟨25, ⟨(some 41), .move (.tmp 40), none⟩, [24, 16, 15, 7, 6, 2, 0, 1, 5, 3, 4, 14, 10, 8, 9, 13, 11, 12, 23, 19, 17, 18, 22, 20, 21], 0⟩,
               ⟨26, ⟨(some 42), .load 2 true (.tmp 2), (some (41, false))⟩, [25, 24, 16, 15, 7, 6, 2, 0, 1, 5, 3, 4, 14, 10, 8, 9, 13, 11, 12, 23, 19, 17, 18, 22, 20, 21], 0⟩,
               ⟨27, ⟨(some 43), .move (.tmp 6), (some (41, false))⟩, [25, 24, 16, 15, 7, 6, 2, 0, 1, 5, 3, 4, 14, 10, 8, 9, 13, 11, 12, 23, 19, 17, 18, 22, 20, 21], 0⟩,
               ⟨28, ⟨(some 44), .call 16 [(.tmp 42), (.tmp 43)], (some (41, false))⟩, [26, 25, 24, 16, 15, 7, 6, 2, 0, 1, 5, 3, 4, 14, 10, 8, 9, 13, 11, 12, 23, 19, 17, 18, 22, 20, 21, 27], 0⟩,
               ⟨29, ⟨(some 45), .load 2 true (.tmp 2), (some (41, false))⟩, [25, 24, 16, 15, 7, 6, 2, 0, 1, 5, 3, 4, 14, 10, 8, 9, 13, 11, 12, 23, 19, 17, 18, 22, 20, 21], 0⟩,
               ⟨30, ⟨(some 46), .move (.tmp 6), (some (41, false))⟩, [25, 24, 16, 15, 7, 6, 2, 0, 1, 5, 3, 4, 14, 10, 8, 9, 13, 11, 12, 23, 19, 17, 18, 22, 20, 21], 0⟩,
               ⟨31, ⟨(some 47), .call 17 [(.tmp 45), (.tmp 46)], (some (41, false))⟩, [29, 25, 24, 16, 15, 7, 6, 2, 0, 1, 5, 3, 4, 14, 10, 8, 9, 13, 11, 12, 23, 19, 17, 18, 22, 20, 21, 30, 28, 26, 27], 0⟩,
               ⟨32, ⟨(some 48), .eq true false [.bool] (.tmp 44) (.tmp 47), (some (41, false))⟩, [28, 26, 25, 24, 16, 15, 7, 6, 2, 0, 1, 5, 3, 4, 14, 10, 8, 9, 13, 11, 12, 23, 19, 17, 18, 22, 20, 21, 27, 31, 29, 30], 0⟩,
               ⟨33, ⟨(some 49), .pick (.tmp 41) (.const (.bool true)) (.tmp 48), none⟩, [25, 24, 16, 15, 7, 6, 2, 0, 1, 5, 3, 4, 14, 10, 8, 9, 13, 11, 12, 23, 19, 17, 18, 22, 20, 21, 32, 28, 26, 27, 31, 29, 30], 0⟩])
             (.cond (.tmp 49)
              (.seq
               (.ops [
                 ⟨(some 4), .move (.const (.bool false)), none⟩])
               .ret)
              .skip))))
          (.ops [
            ⟨(some 50), .bin .add (.tmp 12) (.const (.int .i64 1)), none⟩,
            ⟨(some 12), .move (.tmp 50), none⟩])))))))
    (.seq
     (.draw 0 [
       ⟨0, ⟨(some 51), .load 2 true (.tmp 2), none⟩, [], 0⟩,
       ⟨1, ⟨(some 52), .call 18 [(.tmp 51)], none⟩, [0], 0⟩,
       ⟨2, ⟨(some 53), .load 2 true (.tmp 2), none⟩, [], 0⟩,
       ⟨3, ⟨(some 54), .call 19 [(.tmp 53)], none⟩, [2, 1, 0], 0⟩,
       ⟨4, ⟨(some 55), .bin .eql (.tmp 52) (.tmp 54), none⟩, [1, 0, 3, 2], 0⟩,
       ⟨5, ⟨(some 56), .move (.tmp 55), none⟩, [4, 1, 0, 3, 2], 0⟩,
       ⟨6, ⟨(some 57), .call 20 [], (some (56, true))⟩, [5, 4, 1, 0, 3, 2], 0⟩,
       ⟨7, ⟨(some 58), .pick (.tmp 56) (.tmp 57) (.const (.bool false)), none⟩, [5, 4, 1, 0, 3, 2, 6], 0⟩,
       ⟨8, ⟨(some 4), .move (.tmp 58), none⟩, [7, 5, 4, 1, 0, 3, 2, 6], 0⟩])
     .ret)))⟩
theorem t3_ok : goodFn Try.prog 3 = true ∧ cfn Try.prog 3 = t3 := ⟨by kernel_rfl, by kernel_rfl⟩

/-- matchguard/matchguardlaw01.ValueBits -/
def t4 : NFn := ⟨85, [(.tmp 8)],
  (.seq
   (.ops [
     ⟨(some 4), .box (.tmp 0), none⟩,
     ⟨(some 5), .box (.tmp 1), none⟩,
     ⟨(some 8), .move (.const (.bool false)), none⟩])
   (.seq
    (.seq
     (.ops [
       ⟨(some 11), .move (.tmp 2), none⟩,
       ⟨(some 12), .move (.tmp 2), none⟩,
       ⟨(some 13), .bin .and (.tmp 12) (.const (.int .i64 127)), none⟩,
       ⟨(some 14), .move (.tmp 3), none⟩,
       ⟨(some 15), .bin .and (.tmp 14) (.const (.int .i64 127)), none⟩,
       ⟨(some 16), .bslice 3 [(.int .i64 0), (.int .i64 0), (.int .i64 0)] [(0, 1, (.tmp 11)), (1, 1, (.tmp 13)), (2, 1, (.tmp 15))], none⟩,
       ⟨(some 17), .lenSl (.tmp 16), none⟩,
       ⟨(some 18), .move (.const (.int .i64 0)), none⟩])
     (.block 0
      (.loop
       (.seq
        (.ops [
          ⟨(some 19), .bin .lss (.tmp 18) (.tmp 17), none⟩])
        (.seq
         (.cond (.tmp 19)
          .skip
          (.exit 0))
         (.seq
          (.block 1
           (.seq
            (.ops [
              ⟨(some 20), .idxSl (.tmp 16) (.tmp 18) 1, none⟩,
              ⟨(some 21), .load 1 false (.tmp 20), none⟩,
              ⟨(some 10), .move (.tmp 21), none⟩])
            (.seq
             (.draw 0 [
               ⟨0, ⟨(some 22), .move (.tmp 10), none⟩, [], 0⟩,
               ⟨1, ⟨(some 23), .call 21 [(.tmp 22)], none⟩, [0], 0⟩,
               ⟨2, ⟨(some 24), .move (.tmp 10), none⟩, [], 0⟩,
               ⟨3, ⟨(some 25), .call 22 [(.tmp 24)], none⟩, [2, 1, 0], 0⟩,
               ⟨4, ⟨(some 26), .eq true true [.int, .int] (.tmp 23) (.tmp 25), none⟩, [1, 0, 3, 2], 0⟩,
               ⟨5, ⟨(some 27), .move (.tmp 26), none⟩, [4, 1, 0, 3, 2], 0⟩,
               ⟨6, ⟨(some 28), .load 2 true (.tmp 4), (some (27, false))⟩, [5, 4, 1, 0, 3, 2], 0⟩,
               ⟨7, ⟨(some 29), .move (.tmp 10), (some (27, false))⟩, [5, 4, 1, 0, 3, 2], 0⟩,
               ⟨8, ⟨(some 30), .call 23 [(.tmp 28), (.tmp 29)], (some (27, false))⟩, [6, 5, 4, 1, 0, 3, 2, 7], 0⟩,
               ⟨9, ⟨(some 31), .load 2 true (.tmp 4), (some (27, false))⟩, [5, 4, 1, 0, 3, 2], 0⟩,
               ⟨10, ⟨(some 32), .move (.tmp 10), (some (27, false))⟩, [5, 4, 1, 0, 3, 2], 0⟩,
               ⟨11, ⟨(some 33), .call 24 [(.tmp 31), (.tmp 32)], (some (27, false))⟩, [9, 5, 4, 1, 0, 3, 2, 10, 8, 6, 7], 0⟩,
               ⟨12, ⟨(some 34), .eq true true [.int, .int] (.tmp 30) (.tmp 33), (some (27, false))⟩, [8, 6, 5, 4, 1, 0, 3, 2, 7, 11, 9, 10], 0⟩,
               ⟨13, ⟨(some 35), .pick (.tmp 27) (.const (.bool true)) (.tmp 34), none⟩, [5, 4, 1, 0, 3, 2, 12, 8, 6, 7, 11, 9, 10], 0⟩,
               ⟨14, ⟨(some 36), .move (.tmp 35), none⟩, [13, 5, 4, 1, 0, 3, 2, 12, 8, 6, 7, 11, 9, 10], 0⟩,
               ⟨15, ⟨(some 37), .move (.tmp 10), (some (36, false))⟩, [14, 13, 5, 4, 1, 0, 3, 2, 12, 8, 6, 7, 11, 9, 10], 0⟩,
               ⟨16, ⟨(some 38), .move (.tmp 3), (some (36, false))⟩, [14, 13, 5, 4, 1, 0, 3, 2, 12, 8, 6, 7, 11, 9, 10], 0⟩,
               ⟨17, ⟨(some 39), .call 25 [(.tmp 37), (.tmp 38)], (some (36, false))⟩, [15, 14, 13, 5, 4, 1, 0, 3, 2, 12, 8, 6, 7, 11, 9, 10, 16], 0⟩,
               ⟨18, ⟨(some 40), .move (.tmp 10), (some (36, false))⟩, [14, 13, 5, 4, 1, 0, 3, 2, 12, 8, 6, 7, 11, 9, 10], 0⟩,
               ⟨19, ⟨(some 41), .move (.tmp 3), (some (36, false))⟩, [14, 13, 5, 4, 1, 0, 3, 2, 12, 8, 6, 7, 11, 9, 10], 0⟩,
               ⟨20, ⟨(some 42), .call 26 [(.tmp 40), (.tmp 41)], (some (36, false))⟩, [18, 14, 13, 5, 4, 1, 0, 3, 2, 12, 8, 6, 7, 11, 9, 10, 19, 17, 15, 16], 0⟩,
               ⟨21, ⟨(some 43), .eq true true [.int, .int] (.tmp 39) (.tmp 42), (some (36, false))⟩, [17, 15, 14, 13, 5, 4, 1, 0, 3, 2, 12, 8, 6, 7, 11, 9, 10, 16, 20, 18, 19], 0⟩,
               ⟨22, ⟨(some 44), .pick (.tmp 36) (.const (.bool true)) (.tmp 43), none⟩, [14, 13, 5, 4, 1, 0, 3, 2, 12, 8, 6, 7, 11, 9, 10, 21, 17, 15, 16, 20, 18, 19], 0⟩,
               ⟨23, ⟨(some 45), .move (.tmp 44), none⟩, [22, 14, 13, 5, 4, 1, 0, 3, 2, 12, 8, 6, 7, 11, 9, 10, 21, 17, 15, 16, 20, 18, 19], 0⟩,
               ⟨24, ⟨(some 46), .move (.tmp 10), (some (45, false))⟩, [23, 22, 14, 13, 5, 4, 1, 0, 3, 2, 12, 8, 6, 7, 11, 9, 10, 21, 17, 15, 16, 20, 18, 19], 0⟩,
               ⟨25, ⟨(some 47), .move (.tmp 3), (some (45, false))⟩, [23, 22, 14, 13, 5, 4, 1, 0, 3, 2, 12, 8, 6, 7, 11, 9, 10, 21, 17, 15, 16, 20, 18, 19], 0⟩,
               ⟨26, ⟨(some 48), .bin .and (.tmp 47) (.const (.int .i64 127)), (some (45, false))⟩, [25, 23, 22, 14, 13, 5, 4, 1, 0, 3, 2, 12, 8, 6, 7, 11, 9, 10, 21, 17, 15, 16, 20, 18, 19], 0⟩,
               ⟨27, ⟨(some 49), .call 25 [(.tmp 46), (.tmp 48)], (some (45, false))⟩, [24, 23, 22, 14, 13, 5, 4, 1, 0, 3, 2, 12, 8, 6, 7, 11, 9, 10, 21, 17, 15, 16, 20, 18, 19, 26, 25], 0⟩,
               ⟨28, ⟨(some 50), .move (.tmp 10), (some (45, false))⟩, [23, 22, 14, 13, 5, 4, 1, 0, 3, 2, 12, 8, 6, 7, 11, 9, 10, 21, 17, 15, 16, 20, 18, 19], 0⟩,
               ⟨29, ⟨(some 51), .move (.tmp 3), (some (45, false))⟩, [23, 22, 14, 13, 5, 4, 1, 0, 3, 2, 12, 8, 6, 7, 11, 9, 10, 21, 17, 15, 16, 20, 18, 19], 0⟩,
               ⟨30, ⟨(some 52), .bin .and (.tmp 51) (.const (.int .i64 127)), (some (45, false))⟩, [29, 23, 22, 14, 13, 5, 4, 1, 0, 3, 2, 12, 8, 6, 7, 11, 9, 10, 21, 17, 15, 16, 20, 18, 19], 0⟩,
               ⟨31, ⟨(some 53), .call 26 [(.tmp 50), (.tmp 52)], (some (45, false))⟩, [28, 23, 22, 14, 13, 5, 4, 1, 0, 3, 2, 12, 8, 6, 7, 11, 9, 10, 21, 17, 15, 16, 20, 18, 19, 30, 29, 27, 24, 26, 25], 0⟩,
               ⟨32, ⟨(some 54), .eq true true [.int, .int] (.tmp 49) (.tmp 53), (some (45, false))⟩, [27, 24, 23, 22, 14, 13, 5, 4, 1, 0, 3, 2, 12, 8, 6, 7, 11, 9, 10, 21, 17, 15, 16, 20, 18, 19, 26, 25, 31, 28, 30, 29], 0⟩,
               ⟨33, ⟨(some 55), .pick (.tmp 45) (.const (.bool true)) (.tmp 54), none⟩, [23, 22, 14, 13, 5, 4, 1, 0, 3, 2, 12, 8, 6, 7, 11, 9, 10, 21, 17, 15, 16, 20, 18, 19, 32, 27, 24, 26, 25, 31, 28, 30, 29], 0⟩])
             (.cond (.tmp 55)
              (.seq
               (.ops [
                 ⟨(some 8), .move (.const (.bool false)), none⟩])
               .ret)
              .skip))))
          (.ops [
            ⟨(some 56), .bin .add (.tmp 18) (.const (.int .i64 1)), none⟩,
            ⟨(some 18), .move (.tmp 56), none⟩])))))))
    (.seq
     (.draw 0 [
       ⟨0, ⟨(some 57), .load 2 true (.tmp 4), none⟩, [], 0⟩,
       ⟨1, ⟨(some 58), .load 2 true (.tmp 5), none⟩, [], 0⟩,
       ⟨2, ⟨(some 59), .call 27 [(.tmp 57), (.tmp 58)], none⟩, [0, 1], 0⟩,
       ⟨3, ⟨(some 60), .load 2 true (.tmp 4), none⟩, [], 0⟩,
       ⟨4, ⟨(some 61), .load 2 true (.tmp 5), none⟩, [], 0⟩,
       ⟨5, ⟨(some 62), .call 28 [(.tmp 60), (.tmp 61)], none⟩, [3, 4, 2, 0, 1], 0⟩,
       ⟨6, ⟨(some 63), .eq false true [.int, .int] (.tmp 59) (.tmp 62), none⟩, [2, 0, 1, 5, 3, 4], 0⟩,
       ⟨7, ⟨(some 64), .move (.tmp 63), none⟩, [6, 2, 0, 1, 5, 3, 4], 0⟩,
       ⟨8, ⟨(some 65), .load 2 true (.tmp 4), (some (64, true))⟩, [7, 6, 2, 0, 1, 5, 3, 4], 0⟩,
       ⟨9, ⟨(some 66), .load 2 true (.tmp 5), (some (64, true))⟩, [7, 6, 2, 0, 1, 5, 3, 4], 0⟩,
       ⟨10, ⟨(some 67), .call 29 [(.tmp 65), (.tmp 66)], (some (64, true))⟩, [8, 7, 6, 2, 0, 1, 5, 3, 4, 9], 0⟩,
       ⟨11, ⟨(some 68), .load 2 true (.tmp 4), (some (64, true))⟩, [7, 6, 2, 0, 1, 5, 3, 4], 0⟩,
       ⟨12, ⟨(some 69), .load 2 true (.tmp 5), (some (64, true))⟩, [7, 6, 2, 0, 1, 5, 3, 4], 0⟩,
       ⟨13, ⟨(some 70), .call 30 [(.tmp 68), (.tmp 69)], (some (64, true))⟩, [11, 7, 6, 2, 0, 1, 5, 3, 4, 12, 10, 8, 9], 0⟩,
       ⟨14, ⟨(some 71), .eq false true [.int, .int] (.tmp 67) (.tmp 70), (some (64, true))⟩, [10, 8, 7, 6, 2, 0, 1, 5, 3, 4, 9, 13, 11, 12], 0⟩,
       ⟨15, ⟨(some 72), .pick (.tmp 64) (.tmp 71) (.const (.bool false)), none⟩, [7, 6, 2, 0, 1, 5, 3, 4, 14, 10, 8, 9, 13, 11, 12], 0⟩,
       ⟨16, ⟨(some 73), .move (.tmp 72), none⟩, [15, 7, 6, 2, 0, 1, 5, 3, 4, 14, 10, 8, 9, 13, 11, 12], 0⟩,
       ⟨17, ⟨(some 74), .load 2 true (.tmp 4), (some (73, true))⟩, [16, 15, 7, 6, 2, 0, 1, 5, 3, 4, 14, 10, 8, 9, 13, 11, 12], 0⟩,
       ⟨18, ⟨(some 75), .load 2 true (.tmp 5), (some (73, true))⟩, [16, 15, 7, 6, 2, 0, 1, 5, 3, 4, 14, 10, 8, 9, 13, 11, 12], 0⟩,
       ⟨19, ⟨(some 76), .call 31 [(.tmp 74), (.tmp 75)], (some (73, true))⟩, [17, 16, 15, 7, 6, 2, 0, 1, 5, 3, 4, 14, 10, 8, 9, 13, 11, 12, 18], 0⟩,
       ⟨20, ⟨(some 77), .load 2 true (.tmp 4), (some (73, true))⟩, [16, 15, 7, 6, 2, 0, 1, 5, 3, 4, 14, 10, 8, 9, 13, 11, 12], 0⟩,
       ⟨21, ⟨(some 78), .load 2 true (.tmp 5), (some (73, true))⟩, [16, 15, 7, 6, 2, 0, 1, 5, 3, 4, 14, 10, 8, 9, 13, 11, 12], 0⟩,
       ⟨22, ⟨(some 79), .call 32 [(.tmp 77), (.tmp 78)], (some (73, true))⟩, [20, 16, 15, 7, 6, 2, 0, 1, 5, 3, 4, 14, 10, 8, 9, 13, 11, 12, 21, 19, 17, 18], 0⟩,
       ⟨23, ⟨(some 80), .eq false true [.int, .int] (.tmp 76) (.tmp 79), (some (73, true))⟩, [19, 17, 16, 15, 7, 6, 2, 0, 1, 5, 3, 4, 14, 10, 8, 9, 13, 11, 12, 18, 22, 20, 21], 0⟩,
       ⟨24, ⟨(some 81), .pick (.tmp 73) (.tmp 80) (.const (.bool false)), none⟩, [16, 15, 7, 6, 2, 0, 1, 5, 3, 4, 14, 10, 8, 9, 13, 11, 12, 23, 19, 17, 18, 22, 20, 21], 0⟩,
       ⟨25, ⟨(some 82), .move (.tmp 81), none⟩, [24, 16, 15, 7, 6, 2, 0, 1, 5, 3, 4, 14, 10, 8, 9, 13, 11, 12, 23, 19, 17, 18, 22, 20, 21], 0⟩,
       ⟨26, ⟨(some 83), .call 20 [], (some (82, true))⟩, [25, 24, 16, 15, 7, 6, 2, 0, 1, 5, 3, 4, 14, 10, 8, 9, 13, 11, 12, 23, 19, 17, 18, 22, 20, 21], 0⟩,
       ⟨27, ⟨(some 84), .pick (.tmp 82) (.tmp 83) (.const (.bool false)), none⟩, [25, 24, 16, 15, 7, 6, 2, 0, 1, 5, 3, 4, 14, 10, 8, 9, 13, 11, 12, 23, 19, 17, 18, 22, 20, 21, 26], 0⟩,
       ⟨28, ⟨(some 8), .move (.tmp 84), none⟩, [27, 25, 24, 16, 15, 7, 6, 2, 0, 1, 5, 3, 4, 14, 10, 8, 9, 13, 11, 12, 23, 19, 17, 18, 22, 20, 21, 26], 0⟩])
     .ret)))⟩
theorem t4_ok : goodFn Try.prog 4 = true ∧ cfn Try.prog 4 = t4 := ⟨by kernel_rfl, by kernel_rfl⟩

/-- matchguard/matchguardlaw01.ValueCodes -/
def t5 : NFn := ⟨44, [(.tmp 4)],
  (.seq
   (.ops [
     ⟨(some 2), .box (.tmp 0), none⟩,
     ⟨(some 4), .move (.const (.bool false)), none⟩])
   (.seq
    (.ops [
      ⟨(some 9), .move (.tmp 1), none⟩,
      ⟨(some 10), .move (.tmp 1), none⟩,
      ⟨(some 11), .lenSl (.tmp 10), none⟩,
      ⟨(some 12), .minmax false [(.tmp 11), (.const (.int .i64 20))], none⟩,
      ⟨(some 13), .slice (.tmp 9) none (some (.tmp 12)) none 1, none⟩,
      ⟨(some 1), .move (.tmp 13), none⟩])
    (.seq
     (.ops [
       ⟨(some 15), .move (.tmp 1), none⟩,
       ⟨(some 16), .call 33 [(.tmp 15)], none⟩,
       ⟨(some 14), .move (.tmp 16), none⟩,
       ⟨(some 17), .extract (.tmp 14) 0, none⟩,
       ⟨(some 18), .extract (.tmp 14) 1, none⟩,
       ⟨(some 5), .alloc [(.int .u64 0), (.int .u64 0)], none⟩,
       ⟨none, .store 2 (.tmp 5) (.tmp 17), none⟩,
       ⟨(some 6), .move (.tmp 18), none⟩])
     (.seq
      (.ops [
        ⟨(some 20), .move (.tmp 1), none⟩,
        ⟨(some 21), .call 34 [(.tmp 20)], none⟩,
        ⟨(some 19), .move (.tmp 21), none⟩,
        ⟨(some 22), .extract (.tmp 19) 0, none⟩,
        ⟨(some 23), .extract (.tmp 19) 1, none⟩,
        ⟨(some 7), .alloc [(.int .u64 0), (.int .u64 0)], none⟩,
        ⟨none, .store 2 (.tmp 7) (.tmp 22), none⟩,
        ⟨(some 8), .move (.tmp 23), none⟩])
      (.seq
       (.draw 0 [
         ⟨0, ⟨(some 24), .load 2 true (.tmp 5), none⟩, [], 0⟩,
         ⟨1, ⟨(some 25), .load 2 true (.tmp 7), none⟩, [], 0⟩,
         ⟨2, ⟨(some 26), .eq false true [.int, .int] (.tmp 24) (.tmp 25), none⟩, [0, 1], 0⟩,
         ⟨3, ⟨(some 27), .move (.tmp 26), none⟩, [2, 0, 1], 0⟩,
         ⟨4, ⟨(some 28), .move (.tmp 6), (some (27, true))⟩, [3, 2, 0, 1], 0⟩,
         ⟨5, ⟨(some 29), .move (.tmp 8), (some (27, true))⟩, [3, 2, 0, 1], 0⟩,
         ⟨6, ⟨(some 30), .bin .eql (.tmp 28) (.tmp 29), (some (27, true))⟩, [4, 3, 2, 0, 1, 5], 0⟩,
         ⟨7, ⟨(some 31), .pick (.tmp 27) (.tmp 30) (.const (.bool false)), none⟩, [3, 2, 0, 1, 6, 4, 5], 0⟩,
         ⟨8, ⟨(some 32), .move (.tmp 31), none⟩, [7, 3, 2, 0, 1, 6, 4, 5], 0⟩,
         ⟨9, ⟨(some 33), .load 2 true (.tmp 2), (some (32, true))⟩, [8, 7, 3, 2, 0, 1, 6, 4, 5], 0⟩,
         ⟨10, ⟨(some 34), .call 35 [(.tmp 33)], (some (32, true))⟩, [9, 8, 7, 3, 2, 0, 1, 6, 4, 5], 0⟩,
         ⟨11, ⟨(some 35), .toStr (.tmp 34), (some (32, true))⟩, [10, 9, 8, 7, 3, 2, 0, 1, 6, 4, 5], 0⟩,
         ⟨12, ⟨(some 36), .load 2 true (.tmp 2), (some (32, true))⟩, [8, 7, 3, 2, 0, 1, 6, 4, 5], 0⟩,
         ⟨13, ⟨(some 37), .call 36 [(.tmp 36)], (some (32, true))⟩, [12, 8, 7, 3, 2, 0, 1, 6, 4, 5, 10, 9], 0⟩,
         ⟨14, ⟨(some 38), .toStr (.tmp 37), (some (32, true))⟩, [13, 12, 8, 7, 3, 2, 0, 1, 6, 4, 5, 10, 9], 0⟩,
         ⟨15, ⟨(some 39), .bin .eql (.tmp 35) (.tmp 38), (some (32, true))⟩, [11, 10, 9, 8, 7, 3, 2, 0, 1, 6, 4, 5, 14, 13, 12], 0⟩,
         ⟨16, ⟨(some 40), .pick (.tmp 32) (.tmp 39) (.const (.bool false)), none⟩, [8, 7, 3, 2, 0, 1, 6, 4, 5, 15, 11, 10, 9, 14, 13, 12], 0⟩,
         ⟨17, ⟨(some 41), .move (.tmp 40), none⟩, [16, 8, 7, 3, 2, 0, 1, 6, 4, 5, 15, 11, 10, 9, 14, 13, 12], 0⟩,
         ⟨18, ⟨(some 42), .call 20 [], (some (41, true))⟩, [17, 16, 8, 7, 3, 2, 0, 1, 6, 4, 5, 15, 11, 10, 9, 14, 13, 12], 0⟩,
         ⟨19, ⟨(some 43), .pick (.tmp 41) (.tmp 42) (.const (.bool false)), none⟩, [17, 16, 8, 7, 3, 2, 0, 1, 6, 4, 5, 15, 11, 10, 9, 14, 13, 12, 18], 0⟩,
         ⟨20, ⟨(some 4), .move (.tmp 43), none⟩, [19, 17, 16, 8, 7, 3, 2, 0, 1, 6, 4, 5, 15, 11, 10, 9, 14, 13, 12, 18], 0⟩])
       .ret)))))⟩
theorem t5_ok : goodFn Try.prog 5 = true ∧ cfn Try.prog 5 = t5 := ⟨by kernel_rfl, by kernel_rfl⟩

/-- matchguard/matchguardlaw01.ValueOrders -/
def t6 : NFn := ⟨53, [(.tmp 6)],
  (.seq
   (.ops [
     ⟨(some 3), .box (.tmp 0), none⟩,
     ⟨(some 4), .box (.tmp 1), none⟩,
     ⟨(some 6), .move (.const (.bool false)), none⟩])
   (.seq
    (.seq
     (.draw 0 [
       ⟨0, ⟨(some 10), .load 2 true (.tmp 3), none⟩, [], 0⟩,
       ⟨1, ⟨(some 11), .load 2 true (.tmp 4), none⟩, [], 0⟩,
       ⟨2, ⟨(some 12), .call 37 [(.tmp 10), (.tmp 11)], none⟩, [0, 1], 0⟩,
       ⟨3, ⟨(some 13), .load 2 true (.tmp 3), none⟩, [], 0⟩,
       ⟨4, ⟨(some 14), .load 2 true (.tmp 4), none⟩, [], 0⟩,
       ⟨5, ⟨(some 15), .call 38 [(.tmp 13), (.tmp 14)], none⟩, [3, 4, 2, 0, 1], 0⟩,
       ⟨6, ⟨(some 16), .bin .neq (.tmp 12) (.tmp 15), none⟩, [2, 0, 1, 5, 3, 4], 0⟩,
       ⟨7, ⟨(some 17), .move (.tmp 16), none⟩, [6, 2, 0, 1, 5, 3, 4], 0⟩,
       ⟨8, ⟨(some 18), .load 2 true (.tmp 4), (some (17, false))⟩, [7, 6, 2, 0, 1, 5, 3, 4], 0⟩,
       ⟨9, ⟨(some 19), .load 2 true (.tmp 3), (some (17, false))⟩, [7, 6, 2, 0, 1, 5, 3, 4], 0⟩,
       ⟨10, ⟨(some 20), .call 37 [(.tmp 18), (.tmp 19)], (some (17, false))⟩, [8, 7, 6, 2, 0, 1, 5, 3, 4, 9], 0⟩,
       ⟨11, ⟨(some 21), .load 2 true (.tmp 3), (some (17, false))⟩, [7, 6, 2, 0, 1, 5, 3, 4], 0⟩,
       ⟨12, ⟨(some 22), .load 2 true (.tmp 4), (some (17, false))⟩, [7, 6, 2, 0, 1, 5, 3, 4], 0⟩,
       ⟨13, ⟨(some 23), .call 37 [(.tmp 21), (.tmp 22)], (some (17, false))⟩, [11, 7, 6, 2, 0, 1, 5, 3, 4, 12, 10, 8, 9], 0⟩,
       ⟨14, ⟨(some 24), .un .neg (.tmp 23), (some (17, false))⟩, [13, 11, 7, 6, 2, 0, 1, 5, 3, 4, 12, 10, 8, 9], 0⟩,
       ⟨15, ⟨(some 25), .bin .neq (.tmp 20) (.tmp 24), (some (17, false))⟩, [10, 8, 7, 6, 2, 0, 1, 5, 3, 4, 9, 14, 13, 11, 12], 0⟩,
       ⟨16, ⟨(some 26), .pick (.tmp 17) (.const (.bool true)) (.tmp 25), none⟩, [7, 6, 2, 0, 1, 5, 3, 4, 15, 10, 8, 9, 14, 13, 11, 12], 0⟩,
       ⟨17, ⟨(some 27), .move (.tmp 26), none⟩, [16, 7, 6, 2, 0, 1, 5, 3, 4, 15, 10, 8, 9, 14, 13, 11, 12], 0⟩,
       ⟨18, ⟨(some 28), .load 2 true (.tmp 3), (some (27, false))⟩, [17, 16, 7, 6, 2, 0, 1, 5, 3, 4, 15, 10, 8, 9, 14, 13, 11, 12], 0⟩,
       ⟨19, ⟨(some 29), .load 2 true (.tmp 3), (some (27, false))⟩, [17, 16, 7, 6, 2, 0, 1, 5, 3, 4, 15, 10, 8, 9, 14, 13, 11, 12], 0⟩,
       ⟨20, ⟨(some 30), .call 37 [(.tmp 28), (.tmp 29)], (some (27, false))⟩, [18, 17, 16, 7, 6, 2, 0, 1, 5, 3, 4, 15, 10, 8, 9, 14, 13, 11, 12, 19], 0⟩,
       ⟨21, ⟨(some 31), .bin .neq (.tmp 30) (.const (.int .i64 0)), (some (27, false))⟩, [20, 18, 17, 16, 7, 6, 2, 0, 1, 5, 3, 4, 15, 10, 8, 9, 14, 13, 11, 12, 19], 0⟩,
       ⟨22, ⟨(some 32), .pick (.tmp 27) (.const (.bool true)) (.tmp 31), none⟩, [17, 16, 7, 6, 2, 0, 1, 5, 3, 4, 15, 10, 8, 9, 14, 13, 11, 12, 21, 20, 18, 19], 0⟩])
     (.cond (.tmp 32)
      (.seq
       (.ops [
         ⟨(some 6), .move (.const (.bool false)), none⟩])
       .ret)
      .skip))
    (.seq
     (.draw 2 [
       ⟨0, ⟨(some 33), .load 2 true (.tmp 3), none⟩, [], 0⟩,
       ⟨1, ⟨(some 34), .call 12 [(.tmp 33), (.const (.int .i64 1))], none⟩, [0], 0⟩,
       ⟨2, ⟨(some 35), .load 2 true (.tmp 4), none⟩, [], 0⟩,
       ⟨3, ⟨(some 36), .call 12 [(.tmp 35), (.const (.int .i64 1))], none⟩, [2, 1, 0], 0⟩,
       ⟨4, ⟨(some 7), .alloc [(.int .u64 0), (.int .u64 0)], none⟩, [], 0⟩,
       ⟨5, ⟨(some 8), .alloc [(.int .u64 0), (.int .u64 0)], none⟩, [], 1⟩,
       ⟨6, ⟨none, .store 2 (.tmp 7) (.tmp 34), none⟩, [4, 1, 0, 3, 2, 5], 2⟩,
       ⟨7, ⟨none, .store 2 (.tmp 8) (.tmp 36), none⟩, [5, 3, 2, 1, 0, 6, 4], 2⟩])
     (.seq
      (.ops [
        ⟨(some 37), .move (.tmp 2), none⟩,
        ⟨(some 38), .call 39 [(.tmp 37)], none⟩,
        ⟨(some 9), .alloc [(.int .u64 0), (.int .u64 0)], none⟩,
        ⟨none, .store 2 (.tmp 9) (.tmp 38), none⟩])
      (.seq
       (.draw 0 [
         ⟨0, ⟨(some 39), .load 2 true (.tmp 7), none⟩, [], 0⟩,
         ⟨1, ⟨(some 40), .load 2 true (.tmp 9), none⟩, [], 0⟩,
         ⟨2, ⟨(some 41), .call 40 [(.tmp 39), (.tmp 40), (.const (.int .i64 128))], none⟩, [0, 1], 0⟩,
         ⟨3, ⟨(some 42), .load 2 true (.tmp 8), none⟩, [], 0⟩,
         ⟨4, ⟨(some 43), .load 2 true (.tmp 9), none⟩, [], 0⟩,
         ⟨5, ⟨(some 44), .call 40 [(.tmp 42), (.tmp 43), (.const (.int .i64 128))], none⟩, [3, 4, 2, 0, 1], 0⟩,
         ⟨6, ⟨(some 45), .call 37 [(.tmp 41), (.tmp 44)], none⟩, [2, 0, 1, 5, 3, 4], 0⟩,
         ⟨7, ⟨(some 46), .load 2 true (.tmp 7), none⟩, [], 0⟩,
         ⟨8, ⟨(some 47), .load 2 true (.tmp 8), none⟩, [], 0⟩,
         ⟨9, ⟨(some 48), .call 37 [(.tmp 46), (.tmp 47)], none⟩, [7, 8, 6, 2, 0, 1, 5, 3, 4], 0⟩,
         ⟨10, ⟨(some 49), .bin .eql (.tmp 45) (.tmp 48), none⟩, [6, 2, 0, 1, 5, 3, 4, 9, 7, 8], 0⟩,
         ⟨11, ⟨(some 50), .move (.tmp 49), none⟩, [10, 6, 2, 0, 1, 5, 3, 4, 9, 7, 8], 0⟩,
         ⟨12, ⟨(some 51), .call 20 [], (some (50, true))⟩, [11, 10, 6, 2, 0, 1, 5, 3, 4, 9, 7, 8], 0⟩,
         ⟨13, ⟨(some 52), .pick (.tmp 50) (.tmp 51) (.const (.bool false)), none⟩, [11, 10, 6, 2, 0, 1, 5, 3, 4, 9, 7, 8, 12], 0⟩,
         ⟨14, ⟨(some 6), .move (.tmp 52), none⟩, [13, 11, 10, 6, 2, 0, 1, 5, 3, 4, 9, 7, 8, 12], 0⟩])
       .ret)))))⟩
theorem t6_ok : goodFn Try.prog 6 = true ∧ cfn Try.prog 6 = t6 := ⟨by kernel_rfl, by kernel_rfl⟩

/-- matchguard/matchguardlaw01.ValueSums -/
def t7 : NFn := ⟨40, [(.tmp 6)],
  (.seq
   (.ops [
     ⟨(some 3), .box (.tmp 0), none⟩,
     ⟨(some 4), .box (.tmp 1), none⟩,
     ⟨(some 6), .move (.const (.bool false)), none⟩])
   (.seq
    (.seq
     (.ops [
       ⟨(some 9), .move (.tmp 2), none⟩,
       ⟨(some 10), .move (.tmp 2), none⟩,
       ⟨(some 11), .bin .and (.tmp 10) (.const (.int .i64 127)), none⟩,
       ⟨(some 12), .bslice 5 [(.int .i64 0), (.int .i64 0), (.int .i64 0), (.int .i64 0), (.int .i64 0)] [(0, 1, (.tmp 9)), (1, 1, (.tmp 11)), (2, 1, (.const (.int .i64 128))), (3, 1, (.const (.int .i64 64))), (4, 1, (.const (.int .i64 65)))], none⟩,
       ⟨(some 13), .lenSl (.tmp 12), none⟩,
       ⟨(some 14), .move (.const (.int .i64 0)), none⟩])
     (.block 0
      (.loop
       (.seq
        (.ops [
          ⟨(some 15), .bin .lss (.tmp 14) (.tmp 13), none⟩])
        (.seq
         (.cond (.tmp 15)
          .skip
          (.exit 0))
         (.seq
          (.block 1
           (.seq
            (.ops [
              ⟨(some 16), .idxSl (.tmp 12) (.tmp 14) 1, none⟩,
              ⟨(some 17), .load 1 false (.tmp 16), none⟩,
              ⟨(some 8), .move (.tmp 17), none⟩])
            (.seq
             (.draw 0 [
               ⟨0, ⟨(some 18), .load 2 true (.tmp 3), none⟩, [], 0⟩,
               ⟨1, ⟨(some 19), .load 2 true (.tmp 4), none⟩, [], 0⟩,
               ⟨2, ⟨(some 20), .move (.tmp 8), none⟩, [], 0⟩,
               ⟨3, ⟨(some 21), .call 40 [(.tmp 18), (.tmp 19), (.tmp 20)], none⟩, [0, 1, 2], 0⟩,
               ⟨4, ⟨(some 22), .load 2 true (.tmp 3), none⟩, [], 0⟩,
               ⟨5, ⟨(some 23), .load 2 true (.tmp 4), none⟩, [], 0⟩,
               ⟨6, ⟨(some 24), .move (.tmp 8), none⟩, [], 0⟩,
               ⟨7, ⟨(some 25), .call 41 [(.tmp 22), (.tmp 23), (.tmp 24)], none⟩, [4, 5, 6, 3, 0, 1, 2], 0⟩,
               ⟨8, ⟨(some 26), .eq true true [.int, .int] (.tmp 21) (.tmp 25), none⟩, [3, 0, 1, 2, 7, 4, 5, 6], 0⟩,
               ⟨9, ⟨(some 27), .move (.tmp 26), none⟩, [8, 3, 0, 1, 2, 7, 4, 5, 6], 0⟩,
               ⟨10, ⟨(some 28), .load 2 true (.tmp 3), (some (27, false))⟩, [9, 8, 3, 0, 1, 2, 7, 4, 5, 6], 0⟩,
               ⟨11, ⟨(some 29), .load 2 true (.tmp 4), (some (27, false))⟩, [9, 8, 3, 0, 1, 2, 7, 4, 5, 6], 0⟩,
               ⟨12, ⟨(some 30), .move (.tmp 8), (some (27, false))⟩, [9, 8, 3, 0, 1, 2, 7, 4, 5, 6], 0⟩,
               ⟨13, ⟨(some 31), .call 42 [(.tmp 28), (.tmp 29), (.tmp 30)], (some (27, false))⟩, [10, 9, 8, 3, 0, 1, 2, 7, 4, 5, 6, 11, 12], 0⟩,
               ⟨14, ⟨(some 32), .load 2 true (.tmp 3), (some (27, false))⟩, [9, 8, 3, 0, 1, 2, 7, 4, 5, 6], 0⟩,
               ⟨15, ⟨(some 33), .load 2 true (.tmp 4), (some (27, false))⟩, [9, 8, 3, 0, 1, 2, 7, 4, 5, 6], 0⟩,
               ⟨16, ⟨(some 34), .move (.tmp 8), (some (27, false))⟩, [9, 8, 3, 0, 1, 2, 7, 4, 5, 6], 0⟩,
               ⟨17, ⟨(some 35), .call 43 [(.tmp 32), (.tmp 33), (.tmp 34)], (some (27, false))⟩, [14, 9, 8, 3, 0, 1, 2, 7, 4, 5, 6, 15, 16, 13, 10, 11, 12], 0⟩,
               ⟨18, ⟨(some 36), .eq true true [.int, .int] (.tmp 31) (.tmp 35), (some (27, false))⟩, [13, 10, 9, 8, 3, 0, 1, 2, 7, 4, 5, 6, 11, 12, 17, 14, 15, 16], 0⟩,
               ⟨19, ⟨(some 37), .pick (.tmp 27) (.const (.bool true)) (.tmp 36), none⟩, [9, 8, 3, 0, 1, 2, 7, 4, 5, 6, 18, 13, 10, 11, 12, 17, 14, 15, 16], 0⟩])
             (.cond (.tmp 37)
              (.seq
               (.ops [
                 ⟨(some 6), .move (.const (.bool false)), none⟩])
               .ret)
              .skip))))
          (.ops [
            ⟨(some 38), .bin .add (.tmp 14) (.const (.int .i64 1)), none⟩,
            ⟨(some 14), .move (.tmp 38), none⟩])))))))
    (.seq
     (.ops [
       ⟨(some 39), .call 20 [], none⟩,
       ⟨(some 6), .move (.tmp 39), none⟩])
     .ret)))⟩
theorem t7_ok : goodFn Try.prog 7 = true ∧ cfn Try.prog 7 = t7 := ⟨by kernel_rfl, by kernel_rfl⟩

/-- matchguard/matchguardlaw01.ValueBack -/
def t8 : NFn := ⟨68, [(.tmp 6)],
  (.seq
   (.ops [
     ⟨(some 3), .box (.tmp 0), none⟩,
     ⟨(some 4), .box (.tmp 1), none⟩,
     ⟨(some 6), .move (.const (.bool false)), none⟩])
   (.seq
    (.ops [
      ⟨(some 13), .move (.tmp 2), none⟩,
      ⟨(some 14), .move (.tmp 2), none⟩,
      ⟨(some 15), .lenSl (.tmp 14), none⟩,
      ⟨(some 16), .minmax false [(.tmp 15), (.const (.int .i64 18))], none⟩,
      ⟨(some 17), .slice (.tmp 13) none (some (.tmp 16)) none 1, none⟩,
      ⟨(some 2), .move (.tmp 17), none⟩])
    (.seq
     (.ops [
       ⟨(some 19), .load 2 true (.tmp 3), none⟩,
       ⟨(some 20), .call 35 [(.tmp 19)], none⟩,
       ⟨(some 21), .call 33 [(.tmp 20)], none⟩,
       ⟨(some 18), .move (.tmp 21), none⟩,
       ⟨(some 22), .extract (.tmp 18) 0, none⟩,
       ⟨(some 23), .extract (.tmp 18) 1, none⟩,
       ⟨(some 7), .alloc [(.int .u64 0), (.int .u64 0)], none⟩,
       ⟨none, .store 2 (.tmp 7) (.tmp 22), none⟩,
       ⟨(some 8), .move (.tmp 23), none⟩])
     (.seq
      (.ops [
        ⟨(some 25), .move (.tmp 2), none⟩,
        ⟨(some 26), .call 33 [(.tmp 25)], none⟩,
        ⟨(some 24), .move (.tmp 26), none⟩,
        ⟨(some 27), .extract (.tmp 24) 0, none⟩,
        ⟨(some 28), .extract (.tmp 24) 1, none⟩,
        ⟨(some 9), .alloc [(.int .u64 0), (.int .u64 0)], none⟩,
        ⟨none, .store 2 (.tmp 9) (.tmp 27), none⟩,
        ⟨(some 10), .move (.tmp 28), none⟩])
      (.seq
       (.draw 0 [
         ⟨0, ⟨(some 29), .load 2 true (.tmp 3), none⟩, [], 0⟩,
         ⟨1, ⟨(some 30), .call 35 [(.tmp 29)], none⟩, [0], 0⟩,
         ⟨2, ⟨(some 31), .load 2 true (.tmp 4), none⟩, [], 0⟩,
         ⟨3, ⟨(some 32), .call 35 [(.tmp 31)], none⟩, [2, 1, 0], 0⟩,
         ⟨4, ⟨(some 11), .move (.tmp 30), none⟩, [1, 0, 3, 2], 0⟩,
         ⟨5, ⟨(some 12), .move (.tmp 32), none⟩, [3, 2, 1, 0, 4], 0⟩])
       (.seq
        (.draw 0 [
          ⟨0, ⟨(some 33), .move (.tmp 8), none⟩, [], 0⟩,
          ⟨1, ⟨(some 34), .bin .eql (.tmp 33) (.const (.int .i64 0)), none⟩, [0], 0⟩,
          ⟨2, ⟨(some 35), .move (.tmp 34), none⟩, [1, 0], 0⟩,
          ⟨3, ⟨(some 36), .load 2 true (.tmp 7), (some (35, true))⟩, [2, 1, 0], 0⟩,
          ⟨4, ⟨(some 37), .load 2 true (.tmp 3), (some (35, true))⟩, [2, 1, 0], 0⟩,
          ⟨5, ⟨(some 38), .eq false true [.int, .int] (.tmp 36) (.tmp 37), (some (35, true))⟩, [3, 2, 1, 0, 4], 0⟩,
          ⟨6, ⟨(some 39), .pick (.tmp 35) (.tmp 38) (.const (.bool false)), none⟩, [2, 1, 0, 5, 3, 4], 0⟩,
          ⟨7, ⟨(some 40), .move (.tmp 39), none⟩, [6, 2, 1, 0, 5, 3, 4], 0⟩,
          ⟨8, ⟨(some 41), .move (.tmp 10), (some (40, true))⟩, [7, 6, 2, 1, 0, 5, 3, 4], 0⟩,
          ⟨9, ⟨(some 42), .bin .neq (.tmp 41) (.const (.int .i64 0)), (some (40, true))⟩, [8, 7, 6, 2, 1, 0, 5, 3, 4], 0⟩,
          ⟨10, ⟨(some 43), .move (.tmp 42), (some (40, true))⟩, [9, 8, 7, 6, 2, 1, 0, 5, 3, 4], 0⟩,
          ⟨11, ⟨(some 44), .load 2 true (.tmp 9), (some (43, false))⟩, [10, 9, 8, 7, 6, 2, 1, 0, 5, 3, 4], 0⟩,
          ⟨12, ⟨(some 45), .call 35 [(.tmp 44)], (some (43, false))⟩, [11, 10, 9, 8, 7, 6, 2, 1, 0, 5, 3, 4], 0⟩,
          ⟨13, ⟨(some 46), .toStr (.tmp 45), (some (43, false))⟩, [12, 11, 10, 9, 8, 7, 6, 2, 1, 0, 5, 3, 4], 0⟩,
          ⟨14, ⟨(some 47), .move (.tmp 2), (some (43, false))⟩, [10, 9, 8, 7, 6, 2, 1, 0, 5, 3, 4], 0⟩,
          ⟨15, ⟨(some 48), .toStr (.tmp 47), (some (43, false))⟩, [14, 10, 9, 8, 7, 6, 2, 1, 0, 5, 3, 4], 0⟩,
          ⟨16, ⟨(some 49), .bin .eql (.tmp 46) (.tmp 48), (some (43, false))⟩, [13, 12, 11, 10, 9, 8, 7, 6, 2, 1, 0, 5, 3, 4, 15, 14], 0⟩,
          ⟨17, ⟨(some 50), .pick (.tmp 43) (.const (.bool true)) (.tmp 49), (some (40, true))⟩, [10, 9, 8, 7, 6, 2, 1, 0, 5, 3, 4, 16, 13, 12, 11, 15, 14], 0⟩,
          ⟨18, ⟨(some 51), .pick (.tmp 40) (.tmp 50) (.const (.bool false)), none⟩, [7, 6, 2, 1, 0, 5, 3, 4, 17, 10, 9, 8, 16, 13, 12, 11, 15, 14], 0⟩,
          ⟨19, ⟨(some 52), .move (.tmp 51), none⟩, [18, 7, 6, 2, 1, 0, 5, 3, 4, 17, 10, 9, 8, 16, 13, 12, 11, 15, 14], 0⟩,
          ⟨20, ⟨(some 53), .move (.tmp 11), (some (52, true))⟩, [19, 18, 7, 6, 2, 1, 0, 5, 3, 4, 17, 10, 9, 8, 16, 13, 12, 11, 15, 14], 0⟩,
          ⟨21, ⟨(some 54), .lenSl (.tmp 53), (some (52, true))⟩, [20, 19, 18, 7, 6, 2, 1, 0, 5, 3, 4, 17, 10, 9, 8, 16, 13, 12, 11, 15, 14], 0⟩,
          ⟨22, ⟨(some 55), .move (.tmp 12), (some (52, true))⟩, [19, 18, 7, 6, 2, 1, 0, 5, 3, 4, 17, 10, 9, 8, 16, 13, 12, 11, 15, 14], 0⟩,
          ⟨23, ⟨(some 56), .lenSl (.tmp 55), (some (52, true))⟩, [22, 19, 18, 7, 6, 2, 1, 0, 5, 3, 4, 17, 10, 9, 8, 16, 13, 12, 11, 15, 14], 0⟩,
          ⟨24, ⟨(some 57), .bin .leq (.tmp 54) (.tmp 56), (some (52, true))⟩, [21, 20, 19, 18, 7, 6, 2, 1, 0, 5, 3, 4, 17, 10, 9, 8, 16, 13, 12, 11, 15, 14, 23, 22], 0⟩,
          ⟨25, ⟨(some 58), .move (.tmp 57), (some (52, true))⟩, [24, 21, 20, 19, 18, 7, 6, 2, 1, 0, 5, 3, 4, 17, 10, 9, 8, 16, 13, 12, 11, 15, 14, 23, 22], 0⟩,
          ⟨26, ⟨(some 59), .load 2 true (.tmp 3), (some (58, false))⟩, [25, 24, 21, 20, 19, 18, 7, 6, 2, 1, 0, 5, 3, 4, 17, 10, 9, 8, 16, 13, 12, 11, 15, 14, 23, 22], 0⟩,
          ⟨27, ⟨(some 60), .load 2 true (.tmp 4), (some (58, false))⟩, [25, 24, 21, 20, 19, 18, 7, 6, 2, 1, 0, 5, 3, 4, 17, 10, 9, 8, 16, 13, 12, 11, 15, 14, 23, 22], 0⟩,
          ⟨28, ⟨(some 61), .call 37 [(.tmp 59), (.tmp 60)], (some (58, false))⟩, [26, 25, 24, 21, 20, 19, 18, 7, 6, 2, 1, 0, 5, 3, 4, 17, 10, 9, 8, 16, 13, 12, 11, 15, 14, 23, 22, 27], 0⟩,
          ⟨29, ⟨(some 62), .bin .eql (.tmp 61) (.const (.int .i64 1)), (some (58, false))⟩, [28, 26, 25, 24, 21, 20, 19, 18, 7, 6, 2, 1, 0, 5, 3, 4, 17, 10, 9, 8, 16, 13, 12, 11, 15, 14, 23, 22, 27], 0⟩,
          ⟨30, ⟨(some 63), .pick (.tmp 58) (.const (.bool true)) (.tmp 62), (some (52, true))⟩, [25, 24, 21, 20, 19, 18, 7, 6, 2, 1, 0, 5, 3, 4, 17, 10, 9, 8, 16, 13, 12, 11, 15, 14, 23, 22, 29, 28, 26, 27], 0⟩,
          ⟨31, ⟨(some 64), .pick (.tmp 52) (.tmp 63) (.const (.bool false)), none⟩, [19, 18, 7, 6, 2, 1, 0, 5, 3, 4, 17, 10, 9, 8, 16, 13, 12, 11, 15, 14, 30, 25, 24, 21, 20, 23, 22, 29, 28, 26, 27], 0⟩,
          ⟨32, ⟨(some 65), .move (.tmp 64), none⟩, [31, 19, 18, 7, 6, 2, 1, 0, 5, 3, 4, 17, 10, 9, 8, 16, 13, 12, 11, 15, 14, 30, 25, 24, 21, 20, 23, 22, 29, 28, 26, 27], 0⟩,
          ⟨33, ⟨(some 66), .call 20 [], (some (65, true))⟩, [32, 31, 19, 18, 7, 6, 2, 1, 0, 5, 3, 4, 17, 10, 9, 8, 16, 13, 12, 11, 15, 14, 30, 25, 24, 21, 20, 23, 22, 29, 28, 26, 27], 0⟩,
          ⟨34, ⟨(some 67), .pick (.tmp 65) (.tmp 66) (.const (.bool false)), none⟩, [32, 31, 19, 18, 7, 6, 2, 1, 0, 5, 3, 4, 17, 10, 9, 8, 16, 13, 12, 11, 15, 14, 30, 25, 24, 21, 20, 23, 22, 29, 28, 26, 27, 33], 0⟩,
          ⟨35, ⟨(some 6), .move (.tmp 67), none⟩, [34, 32, 31, 19, 18, 7, 6, 2, 1, 0, 5, 3, 4, 17, 10, 9, 8, 16, 13, 12, 11, 15, 14, 30, 25, 24, 21, 20, 23, 22, 29, 28, 26, 27, 33], 0⟩])
        .ret))))))⟩
theorem t8_ok : goodFn Try.prog 8 = true ∧ cfn Try.prog 8 = t8 := ⟨by kernel_rfl, by kernel_rfl⟩

/-- matchguard/matchguardlaw01.ValueRings -/
def t9 : NFn := ⟨57, [(.tmp 8)],
  (.seq
   (.ops [
     ⟨(some 4), .box (.tmp 0), none⟩,
     ⟨(some 5), .box (.tmp 1), none⟩,
     ⟨(some 6), .box (.tmp 2), none⟩,
     ⟨(some 8), .move (.const (.bool false)), none⟩])
   (.seq
    (.ops [
      ⟨(some 9), .move (.tmp 3), none⟩,
      ⟨(some 10), .bin .and (.tmp 9) (.const (.int .i64 127)), none⟩,
      ⟨(some 3), .move (.tmp 10), none⟩])
    (.seq
     (.draw 0 [
       ⟨0, ⟨(some 11), .load 2 true (.tmp 4), none⟩, [], 0⟩,
       ⟨1, ⟨(some 12), .load 2 true (.tmp 5), none⟩, [], 0⟩,
       ⟨2, ⟨(some 13), .call 40 [(.tmp 11), (.tmp 12), (.const (.int .i64 128))], none⟩, [0, 1], 0⟩,
       ⟨3, ⟨(some 14), .load 2 true (.tmp 5), none⟩, [], 0⟩,
       ⟨4, ⟨(some 15), .call 42 [(.tmp 13), (.tmp 14), (.const (.int .i64 128))], none⟩, [2, 0, 1, 3], 0⟩,
       ⟨5, ⟨(some 16), .load 2 true (.tmp 4), none⟩, [], 0⟩,
       ⟨6, ⟨(some 17), .eq false true [.int, .int] (.tmp 15) (.tmp 16), none⟩, [4, 2, 0, 1, 3, 5], 0⟩,
       ⟨7, ⟨(some 18), .move (.tmp 17), none⟩, [6, 4, 2, 0, 1, 3, 5], 0⟩,
       ⟨8, ⟨(some 19), .load 2 true (.tmp 4), (some (18, true))⟩, [7, 6, 4, 2, 0, 1, 3, 5], 0⟩,
       ⟨9, ⟨(some 20), .load 2 true (.tmp 5), (some (18, true))⟩, [7, 6, 4, 2, 0, 1, 3, 5], 0⟩,
       ⟨10, ⟨(some 21), .move (.tmp 3), (some (18, true))⟩, [7, 6, 4, 2, 0, 1, 3, 5], 0⟩,
       ⟨11, ⟨(some 22), .call 40 [(.tmp 19), (.tmp 20), (.tmp 21)], (some (18, true))⟩, [8, 7, 6, 4, 2, 0, 1, 3, 5, 9, 10], 0⟩,
       ⟨12, ⟨(some 23), .load 2 true (.tmp 5), (some (18, true))⟩, [7, 6, 4, 2, 0, 1, 3, 5], 0⟩,
       ⟨13, ⟨(some 24), .load 2 true (.tmp 4), (some (18, true))⟩, [7, 6, 4, 2, 0, 1, 3, 5], 0⟩,
       ⟨14, ⟨(some 25), .move (.tmp 3), (some (18, true))⟩, [7, 6, 4, 2, 0, 1, 3, 5], 0⟩,
       ⟨15, ⟨(some 26), .call 40 [(.tmp 23), (.tmp 24), (.tmp 25)], (some (18, true))⟩, [12, 7, 6, 4, 2, 0, 1, 3, 5, 13, 14, 11, 8, 9, 10], 0⟩,
       ⟨16, ⟨(some 27), .eq false true [.int, .int] (.tmp 22) (.tmp 26), (some (18, true))⟩, [11, 8, 7, 6, 4, 2, 0, 1, 3, 5, 9, 10, 15, 12, 13, 14], 0⟩,
       ⟨17, ⟨(some 28), .pick (.tmp 18) (.tmp 27) (.const (.bool false)), none⟩, [7, 6, 4, 2, 0, 1, 3, 5, 16, 11, 8, 9, 10, 15, 12, 13, 14], 0⟩,
       ⟨18, ⟨(some 29), .move (.tmp 28), none⟩, [17, 7, 6, 4, 2, 0, 1, 3, 5, 16, 11, 8, 9, 10, 15, 12, 13, 14], 0⟩,
       ⟨19, ⟨(some 30), .load 2 true (.tmp 4), (some (29, true))⟩, [18, 17, 7, 6, 4, 2, 0, 1, 3, 5, 16, 11, 8, 9, 10, 15, 12, 13, 14], 0⟩,
       ⟨20, ⟨(some 31), .load 2 true (.tmp 5), (some (29, true))⟩, [18, 17, 7, 6, 4, 2, 0, 1, 3, 5, 16, 11, 8, 9, 10, 15, 12, 13, 14], 0⟩,
       ⟨21, ⟨(some 32), .move (.tmp 3), (some (29, true))⟩, [18, 17, 7, 6, 4, 2, 0, 1, 3, 5, 16, 11, 8, 9, 10, 15, 12, 13, 14], 0⟩,
       ⟨22, ⟨(some 33), .call 40 [(.tmp 30), (.tmp 31), (.tmp 32)], (some (29, true))⟩, [19, 18, 17, 7, 6, 4, 2, 0, 1, 3, 5, 16, 11, 8, 9, 10, 15, 12, 13, 14, 20, 21], 0⟩,
       ⟨23, ⟨(some 34), .load 2 true (.tmp 6), (some (29, true))⟩, [18, 17, 7, 6, 4, 2, 0, 1, 3, 5, 16, 11, 8, 9, 10, 15, 12, 13, 14], 0⟩,
       ⟨24, ⟨(some 35), .move (.tmp 3), (some (29, true))⟩, [18, 17, 7, 6, 4, 2, 0, 1, 3, 5, 16, 11, 8, 9, 10, 15, 12, 13, 14], 0⟩,
       ⟨25, ⟨(some 36), .call 40 [(.tmp 33), (.tmp 34), (.tmp 35)], (some (29, true))⟩, [22, 19, 18, 17, 7, 6, 4, 2, 0, 1, 3, 5, 16, 11, 8, 9, 10, 15, 12, 13, 14, 20, 21, 23, 24], 0⟩,
       ⟨26, ⟨(some 37), .load 2 true (.tmp 4), (some (29, true))⟩, [18, 17, 7, 6, 4, 2, 0, 1, 3, 5, 16, 11, 8, 9, 10, 15, 12, 13, 14], 0⟩,
       ⟨27, ⟨(some 38), .load 2 true (.tmp 5), (some (29, true))⟩, [18, 17, 7, 6, 4, 2, 0, 1, 3, 5, 16, 11, 8, 9, 10, 15, 12, 13, 14], 0⟩,
       ⟨28, ⟨(some 39), .load 2 true (.tmp 6), (some (29, true))⟩, [18, 17, 7, 6, 4, 2, 0, 1, 3, 5, 16, 11, 8, 9, 10, 15, 12, 13, 14], 0⟩,
       ⟨29, ⟨(some 40), .move (.tmp 3), (some (29, true))⟩, [18, 17, 7, 6, 4, 2, 0, 1, 3, 5, 16, 11, 8, 9, 10, 15, 12, 13, 14], 0⟩,
       ⟨30, ⟨(some 41), .call 40 [(.tmp 38), (.tmp 39), (.tmp 40)], (some (29, true))⟩, [27, 18, 17, 7, 6, 4, 2, 0, 1, 3, 5, 16, 11, 8, 9, 10, 15, 12, 13, 14, 28, 29, 25, 22, 19, 20, 21, 23, 24], 0⟩,
       ⟨31, ⟨(some 42), .move (.tmp 3), (some (29, true))⟩, [18, 17, 7, 6, 4, 2, 0, 1, 3, 5, 16, 11, 8, 9, 10, 15, 12, 13, 14], 0⟩,
       ⟨32, ⟨(some 43), .call 40 [(.tmp 37), (.tmp 41), (.tmp 42)], (some (29, true))⟩, [26, 18, 17, 7, 6, 4, 2, 0, 1, 3, 5, 16, 11, 8, 9, 10, 15, 12, 13, 14, 30, 27, 28, 29, 25, 22, 19, 20, 21, 23, 24, 31], 0⟩,
       ⟨33, ⟨(some 44), .eq false true [.int, .int] (.tmp 36) (.tmp 43), (some (29, true))⟩, [25, 22, 19, 18, 17, 7, 6, 4, 2, 0, 1, 3, 5, 16, 11, 8, 9, 10, 15, 12, 13, 14, 20, 21, 23, 24, 32, 26, 30, 27, 28, 29, 31], 0⟩,
       ⟨34, ⟨(some 45), .pick (.tmp 29) (.tmp 44) (.const (.bool false)), none⟩, [18, 17, 7, 6, 4, 2, 0, 1, 3, 5, 16, 11, 8, 9, 10, 15, 12, 13, 14, 33, 25, 22, 19, 20, 21, 23, 24, 32, 26, 30, 27, 28, 29, 31], 0⟩,
       ⟨35, ⟨(some 46), .move (.tmp 45), none⟩, [34, 18, 17, 7, 6, 4, 2, 0, 1, 3, 5, 16, 11, 8, 9, 10, 15, 12, 13, 14, 33, 25, 22, 19, 20, 21, 23, 24, 32, 26, 30, 27, 28, 29, 31], 0⟩,
       ⟨36, ⟨(some 47), .load 2 true (.tmp 4), (some (46, true))⟩, [35, 34, 18, 17, 7, 6, 4, 2, 0, 1, 3, 5, 16, 11, 8, 9, 10, 15, 12, 13, 14, 33, 25, 22, 19, 20, 21, 23, 24, 32, 26, 30, 27, 28, 29, 31], 0⟩,
       ⟨37, ⟨(some 48), .call 10 [(.tmp 47), (.const (.int .i64 1))], (some (46, true))⟩, [36, 35, 34, 18, 17, 7, 6, 4, 2, 0, 1, 3, 5, 16, 11, 8, 9, 10, 15, 12, 13, 14, 33, 25, 22, 19, 20, 21, 23, 24, 32, 26, 30, 27, 28, 29, 31], 0⟩,
       ⟨38, ⟨(some 49), .load 2 true (.tmp 4), (some (46, true))⟩, [35, 34, 18, 17, 7, 6, 4, 2, 0, 1, 3, 5, 16, 11, 8, 9, 10, 15, 12, 13, 14, 33, 25, 22, 19, 20, 21, 23, 24, 32, 26, 30, 27, 28, 29, 31], 0⟩,
       ⟨39, ⟨(some 50), .load 2 true (.tmp 4), (some (46, true))⟩, [35, 34, 18, 17, 7, 6, 4, 2, 0, 1, 3, 5, 16, 11, 8, 9, 10, 15, 12, 13, 14, 33, 25, 22, 19, 20, 21, 23, 24, 32, 26, 30, 27, 28, 29, 31], 0⟩,
       ⟨40, ⟨(some 51), .call 40 [(.tmp 49), (.tmp 50), (.const (.int .i64 128))], (some (46, true))⟩, [38, 35, 34, 18, 17, 7, 6, 4, 2, 0, 1, 3, 5, 16, 11, 8, 9, 10, 15, 12, 13, 14, 33, 25, 22, 19, 20, 21, 23, 24, 32, 26, 30, 27, 28, 29, 31, 39, 37, 36], 0⟩,
       ⟨41, ⟨(some 52), .eq false true [.int, .int] (.tmp 48) (.tmp 51), (some (46, true))⟩, [37, 36, 35, 34, 18, 17, 7, 6, 4, 2, 0, 1, 3, 5, 16, 11, 8, 9, 10, 15, 12, 13, 14, 33, 25, 22, 19, 20, 21, 23, 24, 32, 26, 30, 27, 28, 29, 31, 40, 38, 39], 0⟩,
       ⟨42, ⟨(some 53), .pick (.tmp 46) (.tmp 52) (.const (.bool false)), none⟩, [35, 34, 18, 17, 7, 6, 4, 2, 0, 1, 3, 5, 16, 11, 8, 9, 10, 15, 12, 13, 14, 33, 25, 22, 19, 20, 21, 23, 24, 32, 26, 30, 27, 28, 29, 31, 41, 37, 36, 40, 38, 39], 0⟩,
       ⟨43, ⟨(some 54), .move (.tmp 53), none⟩, [42, 35, 34, 18, 17, 7, 6, 4, 2, 0, 1, 3, 5, 16, 11, 8, 9, 10, 15, 12, 13, 14, 33, 25, 22, 19, 20, 21, 23, 24, 32, 26, 30, 27, 28, 29, 31, 41, 37, 36, 40, 38, 39], 0⟩,
       ⟨44, ⟨(some 55), .call 20 [], (some (54, true))⟩, [43, 42, 35, 34, 18, 17, 7, 6, 4, 2, 0, 1, 3, 5, 16, 11, 8, 9, 10, 15, 12, 13, 14, 33, 25, 22, 19, 20, 21, 23, 24, 32, 26, 30, 27, 28, 29, 31, 41, 37, 36, 40, 38, 39], 0⟩,
       ⟨45, ⟨(some 56), .pick (.tmp 54) (.tmp 55) (.const (.bool false)), none⟩, [43, 42, 35, 34, 18, 17, 7, 6, 4, 2, 0, 1, 3, 5, 16, 11, 8, 9, 10, 15, 12, 13, 14, 33, 25, 22, 19, 20, 21, 23, 24, 32, 26, 30, 27, 28, 29, 31, 41, 37, 36, 40, 38, 39, 44], 0⟩,
       ⟨46, ⟨(some 8), .move (.tmp 56), none⟩, [45, 43, 42, 35, 34, 18, 17, 7, 6, 4, 2, 0, 1, 3, 5, 16, 11, 8, 9, 10, 15, 12, 13, 14, 33, 25, 22, 19, 20, 21, 23, 24, 32, 26, 30, 27, 28, 29, 31, 41, 37, 36, 40, 38, 39, 44], 0⟩])
     .ret)))⟩
theorem t9_ok : goodFn Try.prog 9 = true ∧ cfn Try.prog 9 = t9 := ⟨by kernel_rfl, by kernel_rfl⟩

/-- matchguard/value.Left -/
def t10 : NFn := ⟨37, [(.cell 4 2 true)],
  (.seq
   (.ops [
     ⟨(some 2), .box (.tmp 0), none⟩,
     ⟨(some 4), .alloc [(.int .u64 0), (.int .u64 0)], none⟩])
   (.seq
    (.block 0
     (.seq
      (.ops [
        ⟨(some 6), .move (.tmp 1), none⟩,
        ⟨(some 7), .bin .leq (.tmp 6) (.const (.int .i64 0)), none⟩,
        ⟨(some 5), .move (.tmp 7), none⟩])
      (.cond (.tmp 5)
       (.seq
        (.ops [
          ⟨(some 8), .load 2 true (.tmp 2), none⟩,
          ⟨none, .store 2 (.tmp 4) (.tmp 8), none⟩])
        .ret)
       (.seq
        (.ops [
          ⟨(some 10), .move (.tmp 1), none⟩,
          ⟨(some 11), .bin .geq (.tmp 10) (.const (.int .i64 64)), none⟩,
          ⟨(some 9), .move (.tmp 11), none⟩])
        (.cond (.tmp 9)
         (.seq
          (.ops [
            ⟨(some 12), .off (.tmp 2) 1, none⟩,
            ⟨(some 13), .load 1 false (.tmp 12), none⟩,
            ⟨(some 14), .move (.tmp 1), none⟩,
            ⟨(some 15), .bin .sub (.tmp 14) (.const (.int .i64 64)), none⟩,
            ⟨(some 16), .conv .u64 (.tmp 15), none⟩,
            ⟨(some 17), .bin .shl (.tmp 13) (.tmp 16), none⟩,
            ⟨(some 18), .build [(.int .u64 0), (.int .u64 0)] [(0, 1, (.tmp 17))], none⟩,
            ⟨none, .store 2 (.tmp 4) (.tmp 18), none⟩])
          .ret)
         .skip)))))
    (.seq
     (.ops [
       ⟨(some 19), .off (.tmp 2) 0, none⟩,
       ⟨(some 20), .load 1 false (.tmp 19), none⟩,
       ⟨(some 21), .move (.tmp 1), none⟩,
       ⟨(some 22), .conv .u64 (.tmp 21), none⟩,
       ⟨(some 23), .bin .shl (.tmp 20) (.tmp 22), none⟩,
       ⟨(some 24), .off (.tmp 2) 1, none⟩,
       ⟨(some 25), .load 1 false (.tmp 24), none⟩,
       ⟨(some 26), .move (.tmp 1), none⟩,
       ⟨(some 27), .bin .sub (.const (.int .i64 64)) (.tmp 26), none⟩,
       ⟨(some 28), .conv .u64 (.tmp 27), none⟩,
       ⟨(some 29), .bin .shr (.tmp 25) (.tmp 28), none⟩,
       ⟨(some 30), .bin .or (.tmp 23) (.tmp 29), none⟩,
       ⟨(some 31), .off (.tmp 2) 1, none⟩,
       ⟨(some 32), .load 1 false (.tmp 31), none⟩,
       ⟨(some 33), .move (.tmp 1), none⟩,
       ⟨(some 34), .conv .u64 (.tmp 33), none⟩,
       ⟨(some 35), .bin .shl (.tmp 32) (.tmp 34), none⟩,
       ⟨(some 36), .build [(.int .u64 0), (.int .u64 0)] [(0, 1, (.tmp 30)), (1, 1, (.tmp 35))], none⟩,
       ⟨none, .store 2 (.tmp 4) (.tmp 36), none⟩])
     .ret)))⟩
theorem t10_ok : goodFn Try.prog 10 = true ∧ cfn Try.prog 10 = t10 := ⟨by kernel_rfl, by kernel_rfl⟩

/-- matchguard/matchguardref01.Left -/
def t11 : NFn := ⟨26, [(.cell 4 2 true)],
  (.seq
   (.ops [
     ⟨(some 2), .box (.tmp 0), none⟩,
     ⟨(some 4), .alloc [(.int .u64 0), (.int .u64 0)], none⟩])
   (.seq
    (.ops [
      ⟨(some 8), .load 2 true (.tmp 2), none⟩,
      ⟨(some 9), .call 44 [(.tmp 8)], none⟩,
      ⟨(some 5), .alloc (fill 128 (.bool false)), none⟩,
      ⟨none, .store 128 (.tmp 5) (.tmp 9), none⟩])
    (.seq
     (.ops [
       ⟨(some 10), .move (.tmp 1), none⟩,
       ⟨(some 11), .call 45 [(.tmp 10)], none⟩,
       ⟨(some 1), .move (.tmp 11), none⟩])
     (.seq
      (.ops [
        ⟨(some 6), .alloc (fill 128 (.bool false)), none⟩])
      (.seq
       (.seq
        (.ops [
          ⟨(some 12), .move (.tmp 1), none⟩,
          ⟨(some 7), .move (.tmp 12), none⟩])
        (.block 0
         (.loop
          (.seq
           (.seq
            (.ops [
              ⟨(some 13), .move (.tmp 7), none⟩,
              ⟨(some 14), .bin .lss (.tmp 13) (.const (.int .i64 128)), none⟩])
            (.cond (.tmp 14)
             .skip
             (.exit 0)))
           (.seq
            (.block 1
             (.ops [
               ⟨(some 17), .move (.tmp 7), none⟩,
               ⟨(some 18), .move (.tmp 7), none⟩,
               ⟨(some 19), .move (.tmp 1), none⟩,
               ⟨(some 20), .bin .sub (.tmp 18) (.tmp 19), none⟩,
               ⟨(some 21), .idxArr (.tmp 5) (.tmp 20) 128 1, none⟩,
               ⟨(some 22), .load 1 false (.tmp 21), none⟩,
               ⟨(some 23), .idxArr (.tmp 6) (.tmp 17) 128 1, none⟩,
               ⟨none, .store 1 (.tmp 23) (.tmp 22), none⟩]))
            (.ops [
              ⟨(some 15), .move (.tmp 7), none⟩,
              ⟨(some 16), .bin .add (.tmp 15) (.const (.int .i64 1)), none⟩,
              ⟨(some 7), .move (.tmp 16), none⟩]))))))
       (.seq
        (.ops [
          ⟨(some 24), .load 128 true (.tmp 6), none⟩,
          ⟨(some 25), .call 46 [(.tmp 24)], none⟩,
          ⟨none, .store 2 (.tmp 4) (.tmp 25), none⟩])
        .ret))))))⟩
theorem t11_ok : goodFn Try.prog 11 = true ∧ cfn Try.prog 11 = t11 := ⟨by kernel_rfl, by kernel_rfl⟩

/-- matchguard/value.Right -/
def t12 : NFn := ⟨37, [(.cell 4 2 true)],
  (.seq
   (.ops [
     ⟨(some 2), .box (.tmp 0), none⟩,
     ⟨(some 4), .alloc [(.int .u64 0), (.int .u64 0)], none⟩])
   (.seq
    (.block 0
     (.seq
      (.ops [
        ⟨(some 6), .move (.tmp 1), none⟩,
        ⟨(some 7), .bin .leq (.tmp 6) (.const (.int .i64 0)), none⟩,
        ⟨(some 5), .move (.tmp 7), none⟩])
      (.cond (.tmp 5)
       (.seq
        (.ops [
          ⟨(some 8), .load 2 true (.tmp 2), none⟩,
          ⟨none, .store 2 (.tmp 4) (.tmp 8), none⟩])
        .ret)
       (.seq
        (.ops [
          ⟨(some 10), .move (.tmp 1), none⟩,
          ⟨(some 11), .bin .geq (.tmp 10) (.const (.int .i64 64)), none⟩,
          ⟨(some 9), .move (.tmp 11), none⟩])
        (.cond (.tmp 9)
         (.seq
          (.ops [
            ⟨(some 12), .off (.tmp 2) 0, none⟩,
            ⟨(some 13), .load 1 false (.tmp 12), none⟩,
            ⟨(some 14), .move (.tmp 1), none⟩,
            ⟨(some 15), .bin .sub (.tmp 14) (.const (.int .i64 64)), none⟩,
            ⟨(some 16), .conv .u64 (.tmp 15), none⟩,
            ⟨(some 17), .bin .shr (.tmp 13) (.tmp 16), none⟩,
            ⟨(some 18), .build [(.int .u64 0), (.int .u64 0)] [(1, 1, (.tmp 17))], none⟩,
            ⟨none, .store 2 (.tmp 4) (.tmp 18), none⟩])
          .ret)
         .skip)))))
    (.seq
     (.ops [
       ⟨(some 19), .off (.tmp 2) 0, none⟩,
       ⟨(some 20), .load 1 false (.tmp 19), none⟩,
       ⟨(some 21), .move (.tmp 1), none⟩,
       ⟨(some 22), .conv .u64 (.tmp 21), none⟩,
       ⟨(some 23), .bin .shr (.tmp 20) (.tmp 22), none⟩,
       ⟨(some 24), .off (.tmp 2) 1, none⟩,
       ⟨(some 25), .load 1 false (.tmp 24), none⟩,
       ⟨(some 26), .move (.tmp 1), none⟩,
       ⟨(some 27), .conv .u64 (.tmp 26), none⟩,
       ⟨(some 28), .bin .shr (.tmp 25) (.tmp 27), none⟩,
       ⟨(some 29), .off (.tmp 2) 0, none⟩,
       ⟨(some 30), .load 1 false (.tmp 29), none⟩,
       ⟨(some 31), .move (.tmp 1), none⟩,
       ⟨(some 32), .bin .sub (.const (.int .i64 64)) (.tmp 31), none⟩,
       ⟨(some 33), .conv .u64 (.tmp 32), none⟩,
       ⟨(some 34), .bin .shl (.tmp 30) (.tmp 33), none⟩,
       ⟨(some 35), .bin .or (.tmp 28) (.tmp 34), none⟩,
       ⟨(some 36), .build [(.int .u64 0), (.int .u64 0)] [(0, 1, (.tmp 23)), (1, 1, (.tmp 35))], none⟩,
       ⟨none, .store 2 (.tmp 4) (.tmp 36), none⟩])
     .ret)))⟩
theorem t12_ok : goodFn Try.prog 12 = true ∧ cfn Try.prog 12 = t12 := ⟨by kernel_rfl, by kernel_rfl⟩

/-- matchguard/matchguardref01.Right -/
def t13 : NFn := ⟨26, [(.cell 4 2 true)],
  (.seq
   (.ops [
     ⟨(some 2), .box (.tmp 0), none⟩,
     ⟨(some 4), .alloc [(.int .u64 0), (.int .u64 0)], none⟩])
   (.seq
    (.ops [
      ⟨(some 8), .load 2 true (.tmp 2), none⟩,
      ⟨(some 9), .call 44 [(.tmp 8)], none⟩,
      ⟨(some 5), .alloc (fill 128 (.bool false)), none⟩,
      ⟨none, .store 128 (.tmp 5) (.tmp 9), none⟩])
    (.seq
     (.ops [
       ⟨(some 10), .move (.tmp 1), none⟩,
       ⟨(some 11), .call 45 [(.tmp 10)], none⟩,
       ⟨(some 1), .move (.tmp 11), none⟩])
     (.seq
      (.ops [
        ⟨(some 6), .alloc (fill 128 (.bool false)), none⟩])
      (.seq
       (.seq
        (.ops [
          ⟨(some 12), .move (.tmp 1), none⟩,
          ⟨(some 7), .move (.tmp 12), none⟩])
        (.block 0
         (.loop
          (.seq
           (.seq
            (.ops [
              ⟨(some 13), .move (.tmp 7), none⟩,
              ⟨(some 14), .bin .lss (.tmp 13) (.const (.int .i64 128)), none⟩])
            (.cond (.tmp 14)
             .skip
             (.exit 0)))
           (.seq
            (.block 1
             (.ops [
               ⟨(some 17), .move (.tmp 7), none⟩,
               ⟨(some 18), .move (.tmp 1), none⟩,
               ⟨(some 19), .bin .sub (.tmp 17) (.tmp 18), none⟩,
               ⟨(some 20), .move (.tmp 7), none⟩,
               ⟨(some 21), .idxArr (.tmp 5) (.tmp 20) 128 1, none⟩,
               ⟨(some 22), .load 1 false (.tmp 21), none⟩,
               ⟨(some 23), .idxArr (.tmp 6) (.tmp 19) 128 1, none⟩,
               ⟨none, .store 1 (.tmp 23) (.tmp 22), none⟩]))
            (.ops [
              ⟨(some 15), .move (.tmp 7), none⟩,
              ⟨(some 16), .bin .add (.tmp 15) (.const (.int .i64 1)), none⟩,
              ⟨(some 7), .move (.tmp 16), none⟩]))))))
       (.seq
        (.ops [
          ⟨(some 24), .load 128 true (.tmp 6), none⟩,
          ⟨(some 25), .call 46 [(.tmp 24)], none⟩,
          ⟨none, .store 2 (.tmp 4) (.tmp 25), none⟩])
        .ret))))))⟩
theorem t13_ok : goodFn Try.prog 13 = true ∧ cfn Try.prog 13 = t13 := ⟨by kernel_rfl, by kernel_rfl⟩

/-- matchguard/value.Bit -/
def t14 : NFn := ⟨19, [(.tmp 4)],
  (.seq
   (.ops [
     ⟨(some 2), .box (.tmp 0), none⟩,
     ⟨(some 4), .move (.const (.bool false)), none⟩])
   (.seq
    (.ops [
      ⟨(some 5), .move (.tmp 1), none⟩,
      ⟨(some 6), .bin .geq (.tmp 5) (.const (.int .i64 0)), none⟩,
      ⟨(some 7), .move (.tmp 6), none⟩,
      ⟨(some 8), .move (.tmp 1), (some (7, true))⟩,
      ⟨(some 9), .bin .lss (.tmp 8) (.const (.int .i64 128)), (some (7, true))⟩,
      ⟨(some 10), .pick (.tmp 7) (.tmp 9) (.const (.bool false)), none⟩,
      ⟨(some 11), .move (.tmp 10), none⟩,
      ⟨(some 12), .load 2 true (.tmp 2), (some (11, true))⟩,
      ⟨(some 13), .move (.tmp 1), (some (11, true))⟩,
      ⟨(some 14), .call 12 [(.tmp 12), (.tmp 13)], (some (11, true))⟩,
      ⟨(some 15), .fieldv (.tmp 14) 1 1 false, (some (11, true))⟩,
      ⟨(some 16), .bin .and (.tmp 15) (.const (.int .u64 1)), (some (11, true))⟩,
      ⟨(some 17), .bin .eql (.tmp 16) (.const (.int .u64 1)), (some (11, true))⟩,
      ⟨(some 18), .pick (.tmp 11) (.tmp 17) (.const (.bool false)), none⟩,
      ⟨(some 4), .move (.tmp 18), none⟩])
    .ret))⟩
theorem t14_ok : goodFn Try.prog 14 = true ∧ cfn Try.prog 14 = t14 := ⟨by kernel_rfl, by kernel_rfl⟩

/-- matchguard/matchguardref01.Bit -/
def t15 : NFn := ⟨17, [(.tmp 4)],
  (.seq
   (.ops [
     ⟨(some 2), .box (.tmp 0), none⟩,
     ⟨(some 4), .move (.const (.bool false)), none⟩])
   (.seq
    (.ops [
      ⟨(some 5), .move (.tmp 1), none⟩,
      ⟨(some 6), .bin .geq (.tmp 5) (.const (.int .i64 0)), none⟩,
      ⟨(some 7), .move (.tmp 6), none⟩,
      ⟨(some 8), .move (.tmp 1), (some (7, true))⟩,
      ⟨(some 9), .bin .lss (.tmp 8) (.const (.int .i64 128)), (some (7, true))⟩,
      ⟨(some 10), .pick (.tmp 7) (.tmp 9) (.const (.bool false)), none⟩,
      ⟨(some 11), .move (.tmp 10), none⟩,
      ⟨(some 12), .load 2 true (.tmp 2), (some (11, true))⟩,
      ⟨(some 13), .call 44 [(.tmp 12)], (some (11, true))⟩,
      ⟨(some 14), .move (.tmp 1), (some (11, true))⟩,
      ⟨(some 15), .indexv (.tmp 13) (.tmp 14) 128 1 false, (some (11, true))⟩,
      ⟨(some 16), .pick (.tmp 11) (.tmp 15) (.const (.bool false)), none⟩,
      ⟨(some 4), .move (.tmp 16), none⟩])
    .ret))⟩
theorem t15_ok : goodFn Try.prog 15 = true ∧ cfn Try.prog 15 = t15 := ⟨by kernel_rfl, by kernel_rfl⟩

/-- matchguard/value.Fits -/
def t16 : NFn := ⟨9, [(.tmp 4)],
  (.seq
   (.ops [
     ⟨(some 2), .box (.tmp 0), none⟩,
     ⟨(some 4), .move (.const (.bool false)), none⟩])
   (.seq
    (.ops [
      ⟨(some 5), .load 2 true (.tmp 2), none⟩,
      ⟨(some 6), .call 18 [(.tmp 5)], none⟩,
      ⟨(some 7), .move (.tmp 1), none⟩,
      ⟨(some 8), .bin .leq (.tmp 6) (.tmp 7), none⟩,
      ⟨(some 4), .move (.tmp 8), none⟩])
    .ret))⟩
theorem t16_ok : goodFn Try.prog 16 = true ∧ cfn Try.prog 16 = t16 := ⟨by kernel_rfl, by kernel_rfl⟩

/-- matchguard/matchguardref01.Fits -/
def t17 : NFn := ⟨9, [(.tmp 4)],
  (.seq
   (.ops [
     ⟨(some 2), .box (.tmp 0), none⟩,
     ⟨(some 4), .move (.const (.bool false)), none⟩])
   (.seq
    (.ops [
      ⟨(some 5), .load 2 true (.tmp 2), none⟩,
      ⟨(some 6), .call 19 [(.tmp 5)], none⟩,
      ⟨(some 7), .move (.tmp 1), none⟩,
      ⟨(some 8), .bin .leq (.tmp 6) (.tmp 7), none⟩,
      ⟨(some 4), .move (.tmp 8), none⟩])
    .ret))⟩
theorem t17_ok : goodFn Try.prog 17 = true ∧ cfn Try.prog 17 = t17 := ⟨by kernel_rfl, by kernel_rfl⟩

/-- matchguard/value.Len -/
def t18 : NFn := ⟨13, [(.tmp 2)],
  (.seq
   (.ops [
     ⟨(some 1), .box (.tmp 0), none⟩,
     ⟨(some 2), .move (.const (.int .i64 0)), none⟩])
   (.seq
    (.seq
     (.ops [
       ⟨(some 3), .off (.tmp 1) 0, none⟩,
       ⟨(some 4), .load 1 false (.tmp 3), none⟩,
       ⟨(some 5), .bin .neq (.tmp 4) (.const (.int .u64 0)), none⟩])
     (.cond (.tmp 5)
      (.seq
       (.ops [
         ⟨(some 6), .off (.tmp 1) 0, none⟩,
         ⟨(some 7), .load 1 false (.tmp 6), none⟩,
         ⟨(some 8), .call 47 [(.tmp 7)], none⟩,
         ⟨(some 9), .bin .add (.const (.int .i64 64)) (.tmp 8), none⟩,
         ⟨(some 2), .move (.tmp 9), none⟩])
       .ret)
      .skip))
    (.seq
     (.ops [
       ⟨(some 10), .off (.tmp 1) 1, none⟩,
       ⟨(some 11), .load 1 false (.tmp 10), none⟩,
       ⟨(some 12), .call 47 [(.tmp 11)], none⟩,
       ⟨(some 2), .move (.tmp 12), none⟩])
     .ret)))⟩
theorem t18_ok : goodFn Try.prog 18 = true ∧ cfn Try.prog 18 = t18 := ⟨by kernel_rfl, by kernel_rfl⟩

/-- matchguard/matchguardref01.Len -/
def t19 : NFn := ⟨14, [(.tmp 2)],
  (.seq
   (.ops [
     ⟨(some 1), .box (.tmp 0), none⟩,
     ⟨(some 2), .move (.const (.int .i64 0)), none⟩])
   (.seq
    (.seq
     (.ops [
       ⟨(some 3), .move (.const (.int .i64 127)), none⟩])
     (.block 0
      (.loop
       (.seq
        (.seq
         (.ops [
           ⟨(some 4), .move (.tmp 3), none⟩,
           ⟨(some 5), .bin .geq (.tmp 4) (.const (.int .i64 0)), none⟩])
         (.cond (.tmp 5)
          .skip
          (.exit 0)))
        (.seq
         (.block 1
          (.seq
           (.ops [
             ⟨(some 8), .load 2 true (.tmp 1), none⟩,
             ⟨(some 9), .call 44 [(.tmp 8)], none⟩,
             ⟨(some 10), .move (.tmp 3), none⟩,
             ⟨(some 11), .indexv (.tmp 9) (.tmp 10) 128 1 false, none⟩])
           (.cond (.tmp 11)
            (.seq
             (.ops [
               ⟨(some 12), .move (.tmp 3), none⟩,
               ⟨(some 13), .bin .add (.tmp 12) (.const (.int .i64 1)), none⟩,
               ⟨(some 2), .move (.tmp 13), none⟩])
             .ret)
            .skip)))
         (.ops [
           ⟨(some 6), .move (.tmp 3), none⟩,
           ⟨(some 7), .bin .sub (.tmp 6) (.const (.int .i64 1)), none⟩,
           ⟨(some 3), .move (.tmp 7), none⟩]))))))
    (.seq
     (.ops [
       ⟨(some 2), .move (.const (.int .i64 0)), none⟩])
     .ret)))⟩
theorem t19_ok : goodFn Try.prog 19 = true ∧ cfn Try.prog 19 = t19 := ⟨by kernel_rfl, by kernel_rfl⟩

/-- matchguard/matchguardlaw01.begun -/
def t20 : NFn := ⟨11, [(.tmp 0)],
  (.seq
   (.ops [
     ⟨(some 0), .move (.const (.bool false)), none⟩])
   (.seq
    (.ops [
      ⟨(some 1), .call 39 [(.const (.int .u64 256))], none⟩,
      ⟨(some 2), .call 35 [(.tmp 1)], none⟩,
      ⟨(some 3), .toStr (.tmp 2), none⟩,
      ⟨(some 4), .bin .eql (.tmp 3) (.const (.str ⟨#[1, 0]⟩)), none⟩,
      ⟨(some 5), .move (.tmp 4), none⟩,
      ⟨(some 6), .build [(.int .u64 0), (.int .u64 0)] [], (some (5, true))⟩,
      ⟨(some 7), .call 35 [(.tmp 6)], (some (5, true))⟩,
      ⟨(some 8), .toStr (.tmp 7), (some (5, true))⟩,
      ⟨(some 9), .bin .eql (.tmp 8) (.const (.str ⟨#[0]⟩)), (some (5, true))⟩,
      ⟨(some 10), .pick (.tmp 5) (.tmp 9) (.const (.bool false)), none⟩,
      ⟨(some 0), .move (.tmp 10), none⟩])
    .ret))⟩
theorem t20_ok : goodFn Try.prog 20 = true ∧ cfn Try.prog 20 = t20 := ⟨by kernel_rfl, by kernel_rfl⟩

/-- matchguard/value.Ones -/
def t21 : NFn := ⟨8, [(.cell 2 2 true)],
  (.seq
   (.ops [
     ⟨(some 2), .alloc [(.int .u64 0), (.int .u64 0)], none⟩])
   (.seq
    (.ops [
      ⟨(some 3), .build [(.int .u64 0), (.int .u64 0)] [(0, 1, (.const (.int .u64 18446744073709551615))), (1, 1, (.const (.int .u64 18446744073709551615)))], none⟩,
      ⟨(some 4), .move (.tmp 0), none⟩,
      ⟨(some 5), .call 48 [(.tmp 4)], none⟩,
      ⟨(some 6), .bin .sub (.const (.int .i64 128)) (.tmp 5), none⟩,
      ⟨(some 7), .call 12 [(.tmp 3), (.tmp 6)], none⟩,
      ⟨none, .store 2 (.tmp 2) (.tmp 7), none⟩])
    .ret))⟩
theorem t21_ok : goodFn Try.prog 21 = true ∧ cfn Try.prog 21 = t21 := ⟨by kernel_rfl, by kernel_rfl⟩

/-- matchguard/matchguardref01.Ones -/
def t22 : NFn := ⟨15, [(.cell 2 2 true)],
  (.seq
   (.ops [
     ⟨(some 2), .alloc [(.int .u64 0), (.int .u64 0)], none⟩])
   (.seq
    (.ops [
      ⟨(some 3), .alloc (fill 128 (.bool false)), none⟩])
    (.seq
     (.seq
      (.ops [
        ⟨(some 4), .move (.const (.int .i64 0)), none⟩])
      (.block 0
       (.loop
        (.seq
         (.seq
          (.ops [
            ⟨(some 5), .move (.tmp 4), none⟩,
            ⟨(some 6), .move (.tmp 0), none⟩,
            ⟨(some 7), .call 45 [(.tmp 6)], none⟩,
            ⟨(some 8), .bin .lss (.tmp 5) (.tmp 7), none⟩])
          (.cond (.tmp 8)
           .skip
           (.exit 0)))
         (.seq
          (.block 1
           (.ops [
             ⟨(some 11), .move (.tmp 4), none⟩,
             ⟨(some 12), .idxArr (.tmp 3) (.tmp 11) 128 1, none⟩,
             ⟨none, .store 1 (.tmp 12) (.const (.bool true)), none⟩]))
          (.ops [
            ⟨(some 9), .move (.tmp 4), none⟩,
            ⟨(some 10), .bin .add (.tmp 9) (.const (.int .i64 1)), none⟩,
            ⟨(some 4), .move (.tmp 10), none⟩]))))))
     (.seq
      (.ops [
        ⟨(some 13), .load 128 true (.tmp 3), none⟩,
        ⟨(some 14), .call 46 [(.tmp 13)], none⟩,
        ⟨none, .store 2 (.tmp 2) (.tmp 14), none⟩])
      .ret))))⟩
theorem t22_ok : goodFn Try.prog 22 = true ∧ cfn Try.prog 22 = t22 := ⟨by kernel_rfl, by kernel_rfl⟩

/-- matchguard/value.Not -/
def t23 : NFn := ⟨15, [(.cell 4 2 true)],
  (.seq
   (.ops [
     ⟨(some 2), .box (.tmp 0), none⟩,
     ⟨(some 4), .alloc [(.int .u64 0), (.int .u64 0)], none⟩])
   (.seq
    (.draw 0 [
      ⟨0, ⟨(some 5), .move (.tmp 1), none⟩, [], 0⟩,
      ⟨1, ⟨(some 6), .call 21 [(.tmp 5)], none⟩, [0], 0⟩,
      ⟨2, ⟨(some 7), .off (.tmp 2) 0, none⟩, [], 0⟩,
      ⟨3, ⟨(some 8), .load 1 false (.tmp 7), none⟩, [2], 0⟩,
      ⟨4, ⟨(some 9), .un .xor (.tmp 8), none⟩, [3, 2], 0⟩,
      ⟨5, ⟨(some 10), .off (.tmp 2) 1, none⟩, [], 0⟩,
      ⟨6, ⟨(some 11), .load 1 false (.tmp 10), none⟩, [5], 0⟩,
      ⟨7, ⟨(some 12), .un .xor (.tmp 11), none⟩, [6, 5], 0⟩,
      ⟨8, ⟨(some 13), .build [(.int .u64 0), (.int .u64 0)] [(0, 1, (.tmp 9)), (1, 1, (.tmp 12))], none⟩, [4, 3, 2, 7, 6, 5], 0⟩,
      ⟨9, ⟨(some 14), .call 27 [(.tmp 6), (.tmp 13)], none⟩, [1, 0, 8, 4, 3, 2, 7, 6, 5], 0⟩,
      ⟨10, ⟨none, .store 2 (.tmp 4) (.tmp 14), none⟩, [9, 1, 0, 8, 4, 3, 2, 7, 6, 5], 0⟩])
    .ret))⟩
theorem t23_ok : goodFn Try.prog 23 = true ∧ cfn Try.prog 23 = t23 := ⟨by kernel_rfl, by kernel_rfl⟩

/-- matchguard/matchguardref01.Not -/
def t24 : NFn := ⟨27, [(.cell 4 2 true)],
  (.seq
   (.ops [
     ⟨(some 2), .box (.tmp 0), none⟩,
     ⟨(some 4), .alloc [(.int .u64 0), (.int .u64 0)], none⟩])
   (.seq
    (.ops [
      ⟨(some 7), .load 2 true (.tmp 2), none⟩,
      ⟨(some 8), .call 44 [(.tmp 7)], none⟩,
      ⟨(some 5), .alloc (fill 128 (.bool false)), none⟩,
      ⟨none, .store 128 (.tmp 5) (.tmp 8), none⟩])
    (.seq
     (.seq
      (.ops [
        ⟨(some 9), .move (.const (.int .i64 0)), none⟩])
      (.block 0
       (.loop
        (.seq
         (.ops [
           ⟨(some 10), .bin .lss (.tmp 9) (.const (.int .i64 128)), none⟩])
         (.seq
          (.cond (.tmp 10)
           .skip
           (.exit 0))
          (.seq
           (.block 1
            (.seq
             (.ops [
               ⟨(some 11), .move (.tmp 9), none⟩,
               ⟨(some 6), .move (.tmp 11), none⟩])
             (.ops [
               ⟨(some 12), .move (.tmp 6), none⟩,
               ⟨(some 13), .move (.tmp 6), none⟩,
               ⟨(some 14), .move (.tmp 1), none⟩,
               ⟨(some 15), .call 45 [(.tmp 14)], none⟩,
               ⟨(some 16), .bin .lss (.tmp 13) (.tmp 15), none⟩,
               ⟨(some 17), .move (.tmp 16), none⟩,
               ⟨(some 18), .move (.tmp 6), (some (17, true))⟩,
               ⟨(some 19), .idxArr (.tmp 5) (.tmp 18) 128 1, (some (17, true))⟩,
               ⟨(some 20), .load 1 false (.tmp 19), (some (17, true))⟩,
               ⟨(some 21), .un .not (.tmp 20), (some (17, true))⟩,
               ⟨(some 22), .pick (.tmp 17) (.tmp 21) (.const (.bool false)), none⟩,
               ⟨(some 23), .idxArr (.tmp 5) (.tmp 12) 128 1, none⟩,
               ⟨none, .store 1 (.tmp 23) (.tmp 22), none⟩])))
           (.ops [
             ⟨(some 24), .bin .add (.tmp 9) (.const (.int .i64 1)), none⟩,
             ⟨(some 9), .move (.tmp 24), none⟩])))))))
     (.seq
      (.ops [
        ⟨(some 25), .load 128 true (.tmp 5), none⟩,
        ⟨(some 26), .call 46 [(.tmp 25)], none⟩,
        ⟨none, .store 2 (.tmp 4) (.tmp 26), none⟩])
      .ret))))⟩
theorem t24_ok : goodFn Try.prog 24 = true ∧ cfn Try.prog 24 = t24 := ⟨by kernel_rfl, by kernel_rfl⟩

/-- matchguard/value.Leading -/
def t25 : NFn := ⟨18, [(.cell 4 2 true)],
  (.seq
   (.ops [
     ⟨(some 4), .alloc [(.int .u64 0), (.int .u64 0)], none⟩])
   (.seq
    (.ops [
      ⟨(some 5), .move (.tmp 0), none⟩,
      ⟨(some 6), .call 48 [(.tmp 5)], none⟩,
      ⟨(some 0), .move (.tmp 6), none⟩])
    (.seq
     (.ops [
       ⟨(some 7), .move (.tmp 1), none⟩,
       ⟨(some 8), .minmax true [(.const (.int .i64 0)), (.tmp 7)], none⟩,
       ⟨(some 9), .move (.tmp 0), none⟩,
       ⟨(some 10), .minmax false [(.tmp 8), (.tmp 9)], none⟩,
       ⟨(some 1), .move (.tmp 10), none⟩])
     (.seq
      (.ops [
        ⟨(some 11), .move (.tmp 0), none⟩,
        ⟨(some 12), .call 21 [(.tmp 11)], none⟩,
        ⟨(some 13), .move (.tmp 0), none⟩,
        ⟨(some 14), .move (.tmp 1), none⟩,
        ⟨(some 15), .bin .sub (.tmp 13) (.tmp 14), none⟩,
        ⟨(some 16), .call 21 [(.tmp 15)], none⟩,
        ⟨(some 17), .call 31 [(.tmp 12), (.tmp 16)], none⟩,
        ⟨none, .store 2 (.tmp 4) (.tmp 17), none⟩])
      .ret))))⟩
theorem t25_ok : goodFn Try.prog 25 = true ∧ cfn Try.prog 25 = t25 := ⟨by kernel_rfl, by kernel_rfl⟩

/-- matchguard/matchguardref01.Leading -/
def t26 : NFn := ⟨25, [(.cell 4 2 true)],
  (.seq
   (.ops [
     ⟨(some 4), .alloc [(.int .u64 0), (.int .u64 0)], none⟩])
   (.seq
    (.ops [
      ⟨(some 5), .alloc (fill 128 (.bool false)), none⟩])
    (.seq
     (.ops [
       ⟨(some 7), .move (.tmp 0), none⟩,
       ⟨(some 8), .call 45 [(.tmp 7)], none⟩,
       ⟨(some 0), .move (.tmp 8), none⟩])
     (.seq
      (.ops [
        ⟨(some 9), .move (.tmp 1), none⟩,
        ⟨(some 10), .move (.tmp 0), none⟩,
        ⟨(some 11), .minmax false [(.tmp 9), (.tmp 10)], none⟩,
        ⟨(some 12), .minmax true [(.const (.int .i64 0)), (.tmp 11)], none⟩,
        ⟨(some 1), .move (.tmp 12), none⟩])
      (.seq
       (.seq
        (.ops [
          ⟨(some 13), .move (.tmp 0), none⟩,
          ⟨(some 14), .move (.tmp 1), none⟩,
          ⟨(some 15), .bin .sub (.tmp 13) (.tmp 14), none⟩,
          ⟨(some 6), .move (.tmp 15), none⟩])
        (.block 0
         (.loop
          (.seq
           (.seq
            (.ops [
              ⟨(some 16), .move (.tmp 6), none⟩,
              ⟨(some 17), .move (.tmp 0), none⟩,
              ⟨(some 18), .bin .lss (.tmp 16) (.tmp 17), none⟩])
            (.cond (.tmp 18)
             .skip
             (.exit 0)))
           (.seq
            (.block 1
             (.ops [
               ⟨(some 21), .move (.tmp 6), none⟩,
               ⟨(some 22), .idxArr (.tmp 5) (.tmp 21) 128 1, none⟩,
               ⟨none, .store 1 (.tmp 22) (.const (.bool true)), none⟩]))
            (.ops [
              ⟨(some 19), .move (.tmp 6), none⟩,
              ⟨(some 20), .bin .add (.tmp 19) (.const (.int .i64 1)), none⟩,
              ⟨(some 6), .move (.tmp 20), none⟩]))))))
       (.seq
        (.ops [
          ⟨(some 23), .load 128 true (.tmp 5), none⟩,
          ⟨(some 24), .call 46 [(.tmp 23)], none⟩,
          ⟨none, .store 2 (.tmp 4) (.tmp 24), none⟩])
        .ret))))))⟩
theorem t26_ok : goodFn Try.prog 26 = true ∧ cfn Try.prog 26 = t26 := ⟨by kernel_rfl, by kernel_rfl⟩

/-- matchguard/value.And -/
def t27 : NFn := ⟨16, [(.cell 4 2 true)],
  (.seq
   (.ops [
     ⟨(some 2), .box (.tmp 0), none⟩,
     ⟨(some 3), .box (.tmp 1), none⟩,
     ⟨(some 4), .alloc [(.int .u64 0), (.int .u64 0)], none⟩])
   (.seq
    (.ops [
      ⟨(some 5), .off (.tmp 2) 0, none⟩,
      ⟨(some 6), .load 1 false (.tmp 5), none⟩,
      ⟨(some 7), .off (.tmp 3) 0, none⟩,
      ⟨(some 8), .load 1 false (.tmp 7), none⟩,
      ⟨(some 9), .bin .and (.tmp 6) (.tmp 8), none⟩,
      ⟨(some 10), .off (.tmp 2) 1, none⟩,
      ⟨(some 11), .load 1 false (.tmp 10), none⟩,
      ⟨(some 12), .off (.tmp 3) 1, none⟩,
      ⟨(some 13), .load 1 false (.tmp 12), none⟩,
      ⟨(some 14), .bin .and (.tmp 11) (.tmp 13), none⟩,
      ⟨(some 15), .build [(.int .u64 0), (.int .u64 0)] [(0, 1, (.tmp 9)), (1, 1, (.tmp 14))], none⟩,
      ⟨none, .store 2 (.tmp 4) (.tmp 15), none⟩])
    .ret))⟩
theorem t27_ok : goodFn Try.prog 27 = true ∧ cfn Try.prog 27 = t27 := ⟨by kernel_rfl, by kernel_rfl⟩

/-- matchguard/matchguardref01.And -/
def t28 : NFn := ⟨28, [(.cell 4 2 true)],
  (.seq
   (.ops [
     ⟨(some 2), .box (.tmp 0), none⟩,
     ⟨(some 3), .box (.tmp 1), none⟩,
     ⟨(some 4), .alloc [(.int .u64 0), (.int .u64 0)], none⟩])
   (.seq
    (.draw 2 [
      ⟨0, ⟨(some 8), .load 2 true (.tmp 2), none⟩, [], 0⟩,
      ⟨1, ⟨(some 9), .call 44 [(.tmp 8)], none⟩, [0], 0⟩,
      ⟨2, ⟨(some 10), .load 2 true (.tmp 3), none⟩, [], 0⟩,
      ⟨3, ⟨(some 11), .call 44 [(.tmp 10)], none⟩, [2, 1, 0], 0⟩,
      ⟨4, ⟨(some 5), .alloc (fill 128 (.bool false)), none⟩, [], 0⟩,
      ⟨5, ⟨(some 6), .alloc (fill 128 (.bool false)), none⟩, [], 1⟩,
      ⟨6, ⟨none, .store 128 (.tmp 5) (.tmp 9), none⟩, [4, 1, 0, 3, 2, 5], 2⟩,
      ⟨7, ⟨none, .store 128 (.tmp 6) (.tmp 11), none⟩, [5, 3, 2, 1, 0, 6, 4], 2⟩])
    (.seq
     (.seq
      (.ops [
        ⟨(some 12), .move (.const (.int .i64 0)), none⟩])
      (.block 0
       (.loop
        (.seq
         (.ops [
           ⟨(some 13), .bin .lss (.tmp 12) (.const (.int .i64 128)), none⟩])
         (.seq
          (.cond (.tmp 13)
           .skip
           (.exit 0))
          (.seq
           (.block 1
            (.seq
             (.ops [
               ⟨(some 14), .move (.tmp 12), none⟩,
               ⟨(some 7), .move (.tmp 14), none⟩])
             (.ops [
               ⟨(some 15), .move (.tmp 7), none⟩,
               ⟨(some 16), .move (.tmp 7), none⟩,
               ⟨(some 17), .idxArr (.tmp 5) (.tmp 16) 128 1, none⟩,
               ⟨(some 18), .load 1 false (.tmp 17), none⟩,
               ⟨(some 19), .move (.tmp 18), none⟩,
               ⟨(some 20), .move (.tmp 7), (some (19, true))⟩,
               ⟨(some 21), .idxArr (.tmp 6) (.tmp 20) 128 1, (some (19, true))⟩,
               ⟨(some 22), .load 1 false (.tmp 21), (some (19, true))⟩,
               ⟨(some 23), .pick (.tmp 19) (.tmp 22) (.const (.bool false)), none⟩,
               ⟨(some 24), .idxArr (.tmp 5) (.tmp 15) 128 1, none⟩,
               ⟨none, .store 1 (.tmp 24) (.tmp 23), none⟩])))
           (.ops [
             ⟨(some 25), .bin .add (.tmp 12) (.const (.int .i64 1)), none⟩,
             ⟨(some 12), .move (.tmp 25), none⟩])))))))
     (.seq
      (.ops [
        ⟨(some 26), .load 128 true (.tmp 5), none⟩,
        ⟨(some 27), .call 46 [(.tmp 26)], none⟩,
        ⟨none, .store 2 (.tmp 4) (.tmp 27), none⟩])
      .ret))))⟩
theorem t28_ok : goodFn Try.prog 28 = true ∧ cfn Try.prog 28 = t28 := ⟨by kernel_rfl, by kernel_rfl⟩

/-- matchguard/value.Or -/
def t29 : NFn := ⟨16, [(.cell 4 2 true)],
  (.seq
   (.ops [
     ⟨(some 2), .box (.tmp 0), none⟩,
     ⟨(some 3), .box (.tmp 1), none⟩,
     ⟨(some 4), .alloc [(.int .u64 0), (.int .u64 0)], none⟩])
   (.seq
    (.ops [
      ⟨(some 5), .off (.tmp 2) 0, none⟩,
      ⟨(some 6), .load 1 false (.tmp 5), none⟩,
      ⟨(some 7), .off (.tmp 3) 0, none⟩,
      ⟨(some 8), .load 1 false (.tmp 7), none⟩,
      ⟨(some 9), .bin .or (.tmp 6) (.tmp 8), none⟩,
      ⟨(some 10), .off (.tmp 2) 1, none⟩,
      ⟨(some 11), .load 1 false (.tmp 10), none⟩,
      ⟨(some 12), .off (.tmp 3) 1, none⟩,
      ⟨(some 13), .load 1 false (.tmp 12), none⟩,
      ⟨(some 14), .bin .or (.tmp 11) (.tmp 13), none⟩,
      ⟨(some 15), .build [(.int .u64 0), (.int .u64 0)] [(0, 1, (.tmp 9)), (1, 1, (.tmp 14))], none⟩,
      ⟨none, .store 2 (.tmp 4) (.tmp 15), none⟩])
    .ret))⟩
theorem t29_ok : goodFn Try.prog 29 = true ∧ cfn Try.prog 29 = t29 := ⟨by kernel_rfl, by kernel_rfl⟩

/-- matchguard/matchguardref01.Or -/
def t30 : NFn := ⟨28, [(.cell 4 2 true)],
  (.seq
   (.ops [
     ⟨(some 2), .box (.tmp 0), none⟩,
     ⟨(some 3), .box (.tmp 1), none⟩,
     ⟨(some 4), .alloc [(.int .u64 0), (.int .u64 0)], none⟩])
   (.seq
    (.draw 2 [
      ⟨0, ⟨(some 8), .load 2 true (.tmp 2), none⟩, [], 0⟩,
      ⟨1, ⟨(some 9), .call 44 [(.tmp 8)], none⟩, [0], 0⟩,
      ⟨2, ⟨(some 10), .load 2 true (.tmp 3), none⟩, [], 0⟩,
      ⟨3, ⟨(some 11), .call 44 [(.tmp 10)], none⟩, [2, 1, 0], 0⟩,
      ⟨4, ⟨(some 5), .alloc (fill 128 (.bool false)), none⟩, [], 0⟩,
      ⟨5, ⟨(some 6), .alloc (fill 128 (.bool false)), none⟩, [], 1⟩,
      ⟨6, ⟨none, .store 128 (.tmp 5) (.tmp 9), none⟩, [4, 1, 0, 3, 2, 5], 2⟩,
      ⟨7, ⟨none, .store 128 (.tmp 6) (.tmp 11), none⟩, [5, 3, 2, 1, 0, 6, 4], 2⟩])
    (.seq
     (.seq
      (.ops [
        ⟨(some 12), .move (.const (.int .i64 0)), none⟩])
      (.block 0
       (.loop
        (.seq
         (.ops [
           ⟨(some 13), .bin .lss (.tmp 12) (.const (.int .i64 128)), none⟩])
         (.seq
          (.cond (.tmp 13)
           .skip
           (.exit 0))
          (.seq
           (.block 1
            (.seq
             (.ops [
               ⟨(some 14), .move (.tmp 12), none⟩,
               ⟨(some 7), .move (.tmp 14), none⟩])
             (.ops [
               ⟨(some 15), .move (.tmp 7), none⟩,
               ⟨(some 16), .move (.tmp 7), none⟩,
               ⟨(some 17), .idxArr (.tmp 5) (.tmp 16) 128 1, none⟩,
               ⟨(some 18), .load 1 false (.tmp 17), none⟩,
               ⟨(some 19), .move (.tmp 18), none⟩,
               ⟨(some 20), .move (.tmp 7), (some (19, false))⟩,
               ⟨(some 21), .idxArr (.tmp 6) (.tmp 20) 128 1, (some (19, false))⟩,
               ⟨(some 22), .load 1 false (.tmp 21), (some (19, false))⟩,
               ⟨(some 23), .pick (.tmp 19) (.const (.bool true)) (.tmp 22), none⟩,
               ⟨(some 24), .idxArr (.tmp 5) (.tmp 15) 128 1, none⟩,
               ⟨none, .store 1 (.tmp 24) (.tmp 23), none⟩])))
           (.ops [
             ⟨(some 25), .bin .add (.tmp 12) (.const (.int .i64 1)), none⟩,
             ⟨(some 12), .move (.tmp 25), none⟩])))))))
     (.seq
      (.ops [
        ⟨(some 26), .load 128 true (.tmp 5), none⟩,
        ⟨(some 27), .call 46 [(.tmp 26)], none⟩,
        ⟨none, .store 2 (.tmp 4) (.tmp 27), none⟩])
      .ret))))⟩
theorem t30_ok : goodFn Try.prog 30 = true ∧ cfn Try.prog 30 = t30 := ⟨by kernel_rfl, by kernel_rfl⟩

/-- matchguard/value.Xor -/
def t31 : NFn := ⟨16, [(.cell 4 2 true)],
  (.seq
   (.ops [
     ⟨(some 2), .box (.tmp 0), none⟩,
     ⟨(some 3), .box (.tmp 1), none⟩,
     ⟨(some 4), .alloc [(.int .u64 0), (.int .u64 0)], none⟩])
   (.seq
    (.ops [
      ⟨(some 5), .off (.tmp 2) 0, none⟩,
      ⟨(some 6), .load 1 false (.tmp 5), none⟩,
      ⟨(some 7), .off (.tmp 3) 0, none⟩,
      ⟨(some 8), .load 1 false (.tmp 7), none⟩,
      ⟨(some 9), .bin .xor (.tmp 6) (.tmp 8), none⟩,
      ⟨(some 10), .off (.tmp 2) 1, none⟩,
      ⟨(some 11), .load 1 false (.tmp 10), none⟩,
      ⟨(some 12), .off (.tmp 3) 1, none⟩,
      ⟨(some 13), .load 1 false (.tmp 12), none⟩,
      ⟨(some 14), .bin .xor (.tmp 11) (.tmp 13), none⟩,
      ⟨(some 15), .build [(.int .u64 0), (.int .u64 0)] [(0, 1, (.tmp 9)), (1, 1, (.tmp 14))], none⟩,
      ⟨none, .store 2 (.tmp 4) (.tmp 15), none⟩])
    .ret))⟩
theorem t31_ok : goodFn Try.prog 31 = true ∧ cfn Try.prog 31 = t31 := ⟨by kernel_rfl, by kernel_rfl⟩

/-- matchguard/matchguardref01.Xor -/
def t32 : NFn := ⟨27, [(.cell 4 2 true)],
  (.seq
   (.ops [
     ⟨(some 2), .box (.tmp 0), none⟩,
     ⟨(some 3), .box (.tmp 1), none⟩,
     ⟨(some 4), .alloc [(.int .u64 0), (.int .u64 0)], none⟩])
   (.seq
    (.draw 2 [
      ⟨0, ⟨(some 8), .load 2 true (.tmp 2), none⟩, [], 0⟩,
      ⟨1, ⟨(some 9), .call 44 [(.tmp 8)], none⟩, [0], 0⟩,
      ⟨2, ⟨(some 10), .load 2 true (.tmp 3), none⟩, [], 0⟩,
      ⟨3, ⟨(some 11), .call 44 [(.tmp 10)], none⟩, [2, 1, 0], 0⟩,
      ⟨4, ⟨(some 5), .alloc (fill 128 (.bool false)), none⟩, [], 0⟩,
      ⟨5, ⟨(some 6), .alloc (fill 128 (.bool false)), none⟩, [], 1⟩,
      ⟨6, ⟨none, .store 128 (.tmp 5) (.tmp 9), none⟩, [4, 1, 0, 3, 2, 5], 2⟩,
      ⟨7, ⟨none, .store 128 (.tmp 6) (.tmp 11), none⟩, [5, 3, 2, 1, 0, 6, 4], 2⟩])
    (.seq
     (.seq
      (.ops [
        ⟨(some 12), .move (.const (.int .i64 0)), none⟩])
      (.block 0
       (.loop
        (.seq
         (.ops [
           ⟨(some 13), .bin .lss (.tmp 12) (.const (.int .i64 128)), none⟩])
         (.seq
          (.cond (.tmp 13)
           .skip
           (.exit 0))
          (.seq
           (.block 1
            (.seq
             (.ops [
               ⟨(some 14), .move (.tmp 12), none⟩,
               ⟨(some 7), .move (.tmp 14), none⟩])
             (.draw 0 [
               ⟨0, ⟨(some 15), .move (.tmp 7), none⟩, [], 0⟩,
               ⟨1, ⟨(some 16), .move (.tmp 7), none⟩, [], 0⟩,
               ⟨2, ⟨(some 17), .idxArr (.tmp 5) (.tmp 16) 128 1, none⟩, [1], 0⟩,
               ⟨3, ⟨(some 18), .load 1 false (.tmp 17), none⟩, [2, 1], 0⟩,
               ⟨4, ⟨(some 19), .move (.tmp 7), none⟩, [], 0⟩,
               ⟨5, ⟨(some 20), .idxArr (.tmp 6) (.tmp 19) 128 1, none⟩, [4], 0⟩,
               ⟨6, ⟨(some 21), .load 1 false (.tmp 20), none⟩, [5, 4], 0⟩,
               ⟨7, ⟨(some 22), .eq true false [.bool] (.tmp 18) (.tmp 21), none⟩, [3, 2, 1, 6, 5, 4], 0⟩,
               ⟨8, ⟨(some 23), .idxArr (.tmp 5) (.tmp 15) 128 1, none⟩, [0, 1, 2, 3, 4, 5, 6, 7], 0⟩,
               ⟨9, ⟨none, .store 1 (.tmp 23) (.tmp 22), none⟩, [8, 0, 1, 2, 3, 4, 5, 6, 7], 0⟩])))
           (.ops [
             ⟨(some 24), .bin .add (.tmp 12) (.const (.int .i64 1)), none⟩,
             ⟨(some 12), .move (.tmp 24), none⟩])))))))
     (.seq
      (.ops [
        ⟨(some 25), .load 128 true (.tmp 5), none⟩,
        ⟨(some 26), .call 46 [(.tmp 25)], none⟩,
        ⟨none, .store 2 (.tmp 4) (.tmp 26), none⟩])
      .ret))))⟩
theorem t32_ok : goodFn Try.prog 32 = true ∧ cfn Try.prog 32 = t32 := ⟨by kernel_rfl, by kernel_rfl⟩

/-- matchguard/value.Parse -/
def t33 : NFn := ⟨42, [(.cell 2 2 true), (.tmp 3)],
  (.seq
   (.ops [
     ⟨(some 2), .alloc [(.int .u64 0), (.int .u64 0)], none⟩,
     ⟨(some 3), .move (.const (.int .i64 0)), none⟩])
   (.seq
    (.block 0
     (.seq
      (.ops [
        ⟨(some 8), .move (.tmp 0), none⟩,
        ⟨(some 9), .lenSl (.tmp 8), none⟩,
        ⟨(some 10), .bin .eql (.tmp 9) (.const (.int .i64 0)), none⟩,
        ⟨(some 7), .move (.tmp 10), none⟩])
      (.cond (.tmp 7)
       (.seq
        (.ops [
          ⟨(some 11), .build [(.int .u64 0), (.int .u64 0)] [], none⟩,
          ⟨none, .store 2 (.tmp 2) (.tmp 11), none⟩,
          ⟨(some 3), .move (.const (.int .i64 1)), none⟩])
        .ret)
       (.seq
        (.ops [
          ⟨(some 13), .move (.tmp 0), none⟩,
          ⟨(some 14), .lenSl (.tmp 13), none⟩,
          ⟨(some 15), .bin .gtr (.tmp 14) (.const (.int .i64 16)), none⟩,
          ⟨(some 12), .move (.tmp 15), none⟩])
        (.cond (.tmp 12)
         (.seq
          (.ops [
            ⟨(some 16), .build [(.int .u64 0), (.int .u64 0)] [], none⟩,
            ⟨none, .store 2 (.tmp 2) (.tmp 16), none⟩,
            ⟨(some 3), .move (.const (.int .i64 3)), none⟩])
          .ret)
         (.seq
          (.ops [
            ⟨(some 18), .move (.tmp 0), none⟩,
            ⟨(some 19), .lenSl (.tmp 18), none⟩,
            ⟨(some 20), .bin .gtr (.tmp 19) (.const (.int .i64 1)), none⟩,
            ⟨(some 21), .move (.tmp 20), none⟩,
            ⟨(some 22), .move (.tmp 0), (some (21, true))⟩,
            ⟨(some 23), .idxSl (.tmp 22) (.const (.int .i64 0)) 1, (some (21, true))⟩,
            ⟨(some 24), .load 1 false (.tmp 23), (some (21, true))⟩,
            ⟨(some 25), .bin .eql (.tmp 24) (.const (.int .u8 0)), (some (21, true))⟩,
            ⟨(some 26), .pick (.tmp 21) (.tmp 25) (.const (.bool false)), none⟩,
            ⟨(some 17), .move (.tmp 26), none⟩])
          (.cond (.tmp 17)
           (.seq
            (.ops [
              ⟨(some 27), .build [(.int .u64 0), (.int .u64 0)] [], none⟩,
              ⟨none, .store 2 (.tmp 2) (.tmp 27), none⟩,
              ⟨(some 3), .move (.const (.int .i64 5)), none⟩])
            .ret)
           .skip)))))))
    (.seq
     (.ops [
       ⟨(some 4), .alloc [(.int .u64 0), (.int .u64 0)], none⟩])
     (.seq
      (.seq
       (.ops [
         ⟨(some 28), .move (.tmp 0), none⟩,
         ⟨(some 29), .lenSl (.tmp 28), none⟩,
         ⟨(some 30), .move (.const (.int .i64 0)), none⟩])
       (.block 1
        (.loop
         (.seq
          (.ops [
            ⟨(some 31), .bin .lss (.tmp 30) (.tmp 29), none⟩])
          (.seq
           (.cond (.tmp 31)
            .skip
            (.exit 1))
           (.seq
            (.block 2
             (.seq
              (.ops [
                ⟨(some 32), .idxSl (.tmp 28) (.tmp 30) 1, none⟩,
                ⟨(some 33), .load 1 false (.tmp 32), none⟩,
                ⟨(some 6), .move (.tmp 33), none⟩])
              (.ops [
                ⟨(some 34), .load 2 true (.tmp 4), none⟩,
                ⟨(some 35), .call 10 [(.tmp 34), (.const (.int .i64 8))], none⟩,
                ⟨(some 36), .move (.tmp 6), none⟩,
                ⟨(some 37), .conv .u64 (.tmp 36), none⟩,
                ⟨(some 38), .call 39 [(.tmp 37)], none⟩,
                ⟨(some 39), .call 29 [(.tmp 35), (.tmp 38)], none⟩,
                ⟨none, .store 2 (.tmp 4) (.tmp 39), none⟩])))
            (.ops [
              ⟨(some 40), .bin .add (.tmp 30) (.const (.int .i64 1)), none⟩,
              ⟨(some 30), .move (.tmp 40), none⟩])))))))
      (.seq
       (.ops [
         ⟨(some 41), .load 2 true (.tmp 4), none⟩,
         ⟨none, .store 2 (.tmp 2) (.tmp 41), none⟩,
         ⟨(some 3), .move (.const (.int .i64 0)), none⟩])
       .ret)))))⟩
theorem t33_ok : goodFn Try.prog 33 = true ∧ cfn Try.prog 33 = t33 := ⟨by kernel_rfl, by kernel_rfl⟩

/-- matchguard/matchguardref01.Parse -/
def t34 : NFn := ⟨58, [(.cell 2 2 true), (.tmp 3)],
  (.seq
   (.ops [
     ⟨(some 2), .alloc [(.int .u64 0), (.int .u64 0)], none⟩,
     ⟨(some 3), .move (.const (.int .i64 0)), none⟩])
   (.seq
    (.block 0
     (.seq
      (.ops [
        ⟨(some 9), .move (.tmp 0), none⟩,
        ⟨(some 10), .lenSl (.tmp 9), none⟩,
        ⟨(some 11), .bin .eql (.tmp 10) (.const (.int .i64 0)), none⟩,
        ⟨(some 8), .move (.tmp 11), none⟩])
      (.cond (.tmp 8)
       (.seq
        (.ops [
          ⟨(some 12), .build [(.int .u64 0), (.int .u64 0)] [], none⟩,
          ⟨none, .store 2 (.tmp 2) (.tmp 12), none⟩,
          ⟨(some 3), .move (.const (.int .i64 1)), none⟩])
        .ret)
       (.seq
        (.ops [
          ⟨(some 14), .move (.tmp 0), none⟩,
          ⟨(some 15), .lenSl (.tmp 14), none⟩,
          ⟨(some 16), .bin .gtr (.tmp 15) (.const (.int .i64 16)), none⟩,
          ⟨(some 13), .move (.tmp 16), none⟩])
        (.cond (.tmp 13)
         (.seq
          (.ops [
            ⟨(some 17), .build [(.int .u64 0), (.int .u64 0)] [], none⟩,
            ⟨none, .store 2 (.tmp 2) (.tmp 17), none⟩,
            ⟨(some 3), .move (.const (.int .i64 3)), none⟩])
          .ret)
         (.seq
          (.ops [
            ⟨(some 19), .move (.tmp 0), none⟩,
            ⟨(some 20), .lenSl (.tmp 19), none⟩,
            ⟨(some 21), .bin .gtr (.tmp 20) (.const (.int .i64 1)), none⟩,
            ⟨(some 22), .move (.tmp 21), none⟩,
            ⟨(some 23), .move (.tmp 0), (some (22, true))⟩,
            ⟨(some 24), .idxSl (.tmp 23) (.const (.int .i64 0)) 1, (some (22, true))⟩,
            ⟨(some 25), .load 1 false (.tmp 24), (some (22, true))⟩,
            ⟨(some 26), .bin .eql (.tmp 25) (.const (.int .u8 0)), (some (22, true))⟩,
            ⟨(some 27), .pick (.tmp 22) (.tmp 26) (.const (.bool false)), none⟩,
            ⟨(some 18), .move (.tmp 27), none⟩])
          (.cond (.tmp 18)
           (.seq
            (.ops [
              ⟨(some 28), .build [(.int .u64 0), (.int .u64 0)] [], none⟩,
              ⟨none, .store 2 (.tmp 2) (.tmp 28), none⟩,
              ⟨(some 3), .move (.const (.int .i64 5)), none⟩])
            .ret)
           .skip)))))))
    (.seq
     (.ops [
       ⟨(some 4), .alloc (fill 128 (.bool false)), none⟩])
     (.seq
      (.seq
       (.ops [
         ⟨(some 29), .move (.tmp 0), none⟩,
         ⟨(some 30), .lenSl (.tmp 29), none⟩,
         ⟨(some 31), .move (.const (.int .i64 0)), none⟩])
       (.block 1
        (.loop
         (.seq
          (.ops [
            ⟨(some 32), .bin .lss (.tmp 31) (.tmp 30), none⟩])
          (.seq
           (.cond (.tmp 32)
            .skip
            (.exit 1))
           (.seq
            (.block 2
             (.seq
              (.ops [
                ⟨(some 33), .move (.tmp 31), none⟩,
                ⟨(some 34), .idxSl (.tmp 29) (.tmp 31) 1, none⟩,
                ⟨(some 35), .load 1 false (.tmp 34), none⟩,
                ⟨(some 5), .move (.tmp 33), none⟩,
                ⟨(some 6), .move (.tmp 35), none⟩])
              (.seq
               (.ops [
                 ⟨(some 7), .move (.const (.int .i64 0)), none⟩])
               (.block 3
                (.loop
                 (.seq
                  (.seq
                   (.ops [
                     ⟨(some 36), .move (.tmp 7), none⟩,
                     ⟨(some 37), .bin .lss (.tmp 36) (.const (.int .i64 8)), none⟩])
                   (.cond (.tmp 37)
                    .skip
                    (.exit 3)))
                  (.seq
                   (.block 4
                    (.ops [
                      ⟨(some 40), .move (.tmp 0), none⟩,
                      ⟨(some 41), .lenSl (.tmp 40), none⟩,
                      ⟨(some 42), .bin .sub (.tmp 41) (.const (.int .i64 1)), none⟩,
                      ⟨(some 43), .move (.tmp 5), none⟩,
                      ⟨(some 44), .bin .sub (.tmp 42) (.tmp 43), none⟩,
                      ⟨(some 45), .bin .mul (.const (.int .i64 8)) (.tmp 44), none⟩,
                      ⟨(some 46), .move (.tmp 7), none⟩,
                      ⟨(some 47), .bin .add (.tmp 45) (.tmp 46), none⟩,
                      ⟨(some 48), .move (.tmp 6), none⟩,
                      ⟨(some 49), .move (.tmp 7), none⟩,
                      ⟨(some 50), .conv .u64 (.tmp 49), none⟩,
                      ⟨(some 51), .bin .shr (.tmp 48) (.tmp 50), none⟩,
                      ⟨(some 52), .bin .and (.tmp 51) (.const (.int .u8 1)), none⟩,
                      ⟨(some 53), .bin .eql (.tmp 52) (.const (.int .u8 1)), none⟩,
                      ⟨(some 54), .idxArr (.tmp 4) (.tmp 47) 128 1, none⟩,
                      ⟨none, .store 1 (.tmp 54) (.tmp 53), none⟩]))
                   (.ops [
                     ⟨(some 38), .move (.tmp 7), none⟩,
                     ⟨(some 39), .bin .add (.tmp 38) (.const (.int .i64 1)), none⟩,
                     ⟨(some 7), .move (.tmp 39), none⟩]))))))))
            (.ops [
              ⟨(some 55), .bin .add (.tmp 31) (.const (.int .i64 1)), none⟩,
              ⟨(some 31), .move (.tmp 55), none⟩])))))))
      (.seq
       (.ops [
         ⟨(some 56), .load 128 true (.tmp 4), none⟩,
         ⟨(some 57), .call 46 [(.tmp 56)], none⟩,
         ⟨none, .store 2 (.tmp 2) (.tmp 57), none⟩,
         ⟨(some 3), .move (.const (.int .i64 0)), none⟩])
       .ret)))))⟩
theorem t34_ok : goodFn Try.prog 34 = true ∧ cfn Try.prog 34 = t34 := ⟨by kernel_rfl, by kernel_rfl⟩

/-- matchguard/value.Bytes -/
def t35 : NFn := ⟨16, [(.tmp 2)],
  (.seq
   (.ops [
     ⟨(some 1), .box (.tmp 0), none⟩,
     ⟨(some 2), .move (.const (.slice none 0 (.fix 0))), none⟩])
   (.seq
    (.ops [
      ⟨(some 5), .load 2 true (.tmp 1), none⟩,
      ⟨(some 6), .call 49 [(.tmp 5)], none⟩,
      ⟨(some 3), .alloc [(.int .u8 0), (.int .u8 0), (.int .u8 0), (.int .u8 0), (.int .u8 0), (.int .u8 0), (.int .u8 0), (.int .u8 0), (.int .u8 0), (.int .u8 0), (.int .u8 0), (.int .u8 0), (.int .u8 0), (.int .u8 0), (.int .u8 0), (.int .u8 0)], none⟩,
      ⟨none, .store 16 (.tmp 3) (.tmp 6), none⟩])
    (.seq
     (.ops [
       ⟨(some 7), .load 2 true (.tmp 1), none⟩,
       ⟨(some 8), .call 18 [(.tmp 7)], none⟩,
       ⟨(some 9), .bin .add (.tmp 8) (.const (.int .i64 7)), none⟩,
       ⟨(some 10), .bin .quo (.tmp 9) (.const (.int .i64 8)), none⟩,
       ⟨(some 11), .minmax true [(.const (.int .i64 1)), (.tmp 10)], none⟩,
       ⟨(some 4), .move (.tmp 11), none⟩])
     (.seq
      (.ops [
        ⟨(some 12), .move (.tmp 4), none⟩,
        ⟨(some 13), .bin .sub (.const (.int .i64 16)) (.tmp 12), none⟩,
        ⟨(some 14), .sliceArr (.tmp 3) (some (.tmp 13)) none none 16 1, none⟩,
        ⟨(some 15), .append 1 1 (.const (.slice none 0 (.fix 0))) (.tmp 14), none⟩,
        ⟨(some 2), .move (.tmp 15), none⟩])
      .ret))))⟩
theorem t35_ok : goodFn Try.prog 35 = true ∧ cfn Try.prog 35 = t35 := ⟨by kernel_rfl, by kernel_rfl⟩

/-- matchguard/matchguardref01.Bytes -/
def t36 : NFn := ⟨40, [(.tmp 2)],
  (.seq
   (.ops [
     ⟨(some 1), .box (.tmp 0), none⟩,
     ⟨(some 2), .move (.const (.slice none 0 (.fix 0))), none⟩])
   (.seq
    (.ops [
      ⟨(some 7), .load 2 true (.tmp 1), none⟩,
      ⟨(some 8), .call 44 [(.tmp 7)], none⟩,
      ⟨(some 3), .alloc (fill 128 (.bool false)), none⟩,
      ⟨none, .store 128 (.tmp 3) (.tmp 8), none⟩])
    (.seq
     (.ops [
       ⟨(some 9), .load 2 true (.tmp 1), none⟩,
       ⟨(some 10), .call 19 [(.tmp 9)], none⟩,
       ⟨(some 11), .bin .add (.tmp 10) (.const (.int .i64 7)), none⟩,
       ⟨(some 12), .bin .quo (.tmp 11) (.const (.int .i64 8)), none⟩,
       ⟨(some 13), .minmax true [(.const (.int .i64 1)), (.tmp 12)], none⟩,
       ⟨(some 4), .move (.tmp 13), none⟩])
     (.seq
      (.ops [
        ⟨(some 14), .move (.tmp 4), none⟩,
        ⟨(some 15), .mkslice 1 1 [(.int .u8 0)] (.tmp 14) (.tmp 14), none⟩,
        ⟨(some 5), .move (.tmp 15), none⟩])
      (.seq
       (.seq
        (.ops [
          ⟨(some 6), .move (.const (.int .i64 0)), none⟩])
        (.block 0
         (.loop
          (.seq
           (.seq
            (.ops [
              ⟨(some 16), .move (.tmp 6), none⟩,
              ⟨(some 17), .move (.tmp 4), none⟩,
              ⟨(some 18), .bin .mul (.const (.int .i64 8)) (.tmp 17), none⟩,
              ⟨(some 19), .bin .lss (.tmp 16) (.tmp 18), none⟩])
            (.cond (.tmp 19)
             .skip
             (.exit 0)))
           (.seq
            (.block 1
             (.seq
              (.ops [
                ⟨(some 22), .move (.tmp 6), none⟩,
                ⟨(some 23), .idxArr (.tmp 3) (.tmp 22) 128 1, none⟩,
                ⟨(some 24), .load 1 false (.tmp 23), none⟩])
              (.cond (.tmp 24)
               (.ops [
                 ⟨(some 25), .move (.tmp 5), none⟩,
                 ⟨(some 26), .move (.tmp 4), none⟩,
                 ⟨(some 27), .bin .sub (.tmp 26) (.const (.int .i64 1)), none⟩,
                 ⟨(some 28), .move (.tmp 6), none⟩,
                 ⟨(some 29), .bin .quo (.tmp 28) (.const (.int .i64 8)), none⟩,
                 ⟨(some 30), .bin .sub (.tmp 27) (.tmp 29), none⟩,
                 ⟨(some 31), .idxSl (.tmp 25) (.tmp 30) 1, none⟩,
                 ⟨(some 32), .load 1 false (.tmp 31), none⟩,
                 ⟨(some 33), .move (.tmp 6), none⟩,
                 ⟨(some 34), .bin .rem (.tmp 33) (.const (.int .i64 8)), none⟩,
                 ⟨(some 35), .conv .u64 (.tmp 34), none⟩,
                 ⟨(some 36), .bin .shl (.const (.int .u8 1)) (.tmp 35), none⟩,
                 ⟨(some 37), .bin .or (.tmp 32) (.tmp 36), none⟩,
                 ⟨(some 38), .idxSl (.tmp 25) (.tmp 30) 1, none⟩,
                 ⟨none, .store 1 (.tmp 38) (.tmp 37), none⟩])
               .skip)))
            (.ops [
              ⟨(some 20), .move (.tmp 6), none⟩,
              ⟨(some 21), .bin .add (.tmp 20) (.const (.int .i64 1)), none⟩,
              ⟨(some 6), .move (.tmp 21), none⟩]))))))
       (.seq
        (.ops [
          ⟨(some 39), .move (.tmp 5), none⟩,
          ⟨(some 2), .move (.tmp 39), none⟩])
        .ret))))))⟩
theorem t36_ok : goodFn Try.prog 36 = true ∧ cfn Try.prog 36 = t36 := ⟨by kernel_rfl, by kernel_rfl⟩

/-- matchguard/value.Compare -/
def t37 : NFn := ⟨29, [(.tmp 4)],
  (.seq
   (.ops [
     ⟨(some 2), .box (.tmp 0), none⟩,
     ⟨(some 3), .box (.tmp 1), none⟩,
     ⟨(some 4), .move (.const (.int .i64 0)), none⟩])
   (.seq
    (.block 0
     (.seq
      (.ops [
        ⟨(some 6), .load 2 true (.tmp 2), none⟩,
        ⟨(some 7), .load 2 true (.tmp 3), none⟩,
        ⟨(some 8), .eq false true [.int, .int] (.tmp 6) (.tmp 7), none⟩,
        ⟨(some 5), .move (.tmp 8), none⟩])
      (.cond (.tmp 5)
       (.seq
        (.ops [
          ⟨(some 4), .move (.const (.int .i64 0)), none⟩])
        .ret)
       (.seq
        (.ops [
          ⟨(some 10), .off (.tmp 2) 0, none⟩,
          ⟨(some 11), .load 1 false (.tmp 10), none⟩,
          ⟨(some 12), .off (.tmp 3) 0, none⟩,
          ⟨(some 13), .load 1 false (.tmp 12), none⟩,
          ⟨(some 14), .bin .lss (.tmp 11) (.tmp 13), none⟩,
          ⟨(some 15), .move (.tmp 14), none⟩,
          ⟨(some 16), .off (.tmp 2) 0, (some (15, false))⟩,
          ⟨(some 17), .load 1 false (.tmp 16), (some (15, false))⟩,
          ⟨(some 18), .off (.tmp 3) 0, (some (15, false))⟩,
          ⟨(some 19), .load 1 false (.tmp 18), (some (15, false))⟩,
          ⟨(some 20), .bin .eql (.tmp 17) (.tmp 19), (some (15, false))⟩,
          ⟨(some 21), .move (.tmp 20), (some (15, false))⟩,
          ⟨(some 22), .off (.tmp 2) 1, (some (21, true))⟩,
          ⟨(some 23), .load 1 false (.tmp 22), (some (21, true))⟩,
          ⟨(some 24), .off (.tmp 3) 1, (some (21, true))⟩,
          ⟨(some 25), .load 1 false (.tmp 24), (some (21, true))⟩,
          ⟨(some 26), .bin .lss (.tmp 23) (.tmp 25), (some (21, true))⟩,
          ⟨(some 27), .pick (.tmp 21) (.tmp 26) (.const (.bool false)), (some (15, false))⟩,
          ⟨(some 28), .pick (.tmp 15) (.const (.bool true)) (.tmp 27), none⟩,
          ⟨(some 9), .move (.tmp 28), none⟩])
        (.cond (.tmp 9)
         (.seq
          (.ops [
            ⟨(some 4), .move (.const (.int .i64 (-1))), none⟩])
          .ret)
         .skip)))))
    (.seq
     (.ops [
       ⟨(some 4), .move (.const (.int .i64 1)), none⟩])
     .ret)))⟩
theorem t37_ok : goodFn Try.prog 37 = true ∧ cfn Try.prog 37 = t37 := ⟨by kernel_rfl, by kernel_rfl⟩

/-- matchguard/matchguardref01.Compare -/
def t38 : NFn := ⟨26, [(.tmp 4)],
  (.seq
   (.ops [
     ⟨(some 2), .box (.tmp 0), none⟩,
     ⟨(some 3), .box (.tmp 1), none⟩,
     ⟨(some 4), .move (.const (.int .i64 0)), none⟩])
   (.seq
    (.draw 2 [
      ⟨0, ⟨(some 8), .load 2 true (.tmp 2), none⟩, [], 0⟩,
      ⟨1, ⟨(some 9), .call 44 [(.tmp 8)], none⟩, [0], 0⟩,
      ⟨2, ⟨(some 10), .load 2 true (.tmp 3), none⟩, [], 0⟩,
      ⟨3, ⟨(some 11), .call 44 [(.tmp 10)], none⟩, [2, 1, 0], 0⟩,
      ⟨4, ⟨(some 5), .alloc (fill 128 (.bool false)), none⟩, [], 0⟩,
      ⟨5, ⟨(some 6), .alloc (fill 128 (.bool false)), none⟩, [], 1⟩,
      ⟨6, ⟨none, .store 128 (.tmp 5) (.tmp 9), none⟩, [4, 1, 0, 3, 2, 5], 2⟩,
      ⟨7, ⟨none, .store 128 (.tmp 6) (.tmp 11), none⟩, [5, 3, 2, 1, 0, 6, 4], 2⟩])
    (.seq
     (.seq
      (.ops [
        ⟨(some 7), .move (.const (.int .i64 127)), none⟩])
      (.block 0
       (.loop
        (.seq
         (.seq
          (.ops [
            ⟨(some 12), .move (.tmp 7), none⟩,
            ⟨(some 13), .bin .geq (.tmp 12) (.const (.int .i64 0)), none⟩])
          (.cond (.tmp 13)
           .skip
           (.exit 0)))
         (.seq
          (.block 1
           (.seq
            (.draw 0 [
              ⟨0, ⟨(some 16), .move (.tmp 7), none⟩, [], 0⟩,
              ⟨1, ⟨(some 17), .idxArr (.tmp 5) (.tmp 16) 128 1, none⟩, [0], 0⟩,
              ⟨2, ⟨(some 18), .load 1 false (.tmp 17), none⟩, [1, 0], 0⟩,
              ⟨3, ⟨(some 19), .move (.tmp 7), none⟩, [], 0⟩,
              ⟨4, ⟨(some 20), .idxArr (.tmp 6) (.tmp 19) 128 1, none⟩, [3], 0⟩,
              ⟨5, ⟨(some 21), .load 1 false (.tmp 20), none⟩, [4, 3], 0⟩,
              ⟨6, ⟨(some 22), .eq true false [.bool] (.tmp 18) (.tmp 21), none⟩, [2, 1, 0, 5, 4, 3], 0⟩])
            (.cond (.tmp 22)
             (.seq
              (.seq
               (.ops [
                 ⟨(some 23), .move (.tmp 7), none⟩,
                 ⟨(some 24), .idxArr (.tmp 6) (.tmp 23) 128 1, none⟩,
                 ⟨(some 25), .load 1 false (.tmp 24), none⟩])
               (.cond (.tmp 25)
                (.seq
                 (.ops [
                   ⟨(some 4), .move (.const (.int .i64 (-1))), none⟩])
                 .ret)
                .skip))
              (.seq
               (.ops [
                 ⟨(some 4), .move (.const (.int .i64 1)), none⟩])
               .ret))
             .skip)))
          (.ops [
            ⟨(some 14), .move (.tmp 7), none⟩,
            ⟨(some 15), .bin .sub (.tmp 14) (.const (.int .i64 1)), none⟩,
            ⟨(some 7), .move (.tmp 15), none⟩]))))))
     (.seq
      (.ops [
        ⟨(some 4), .move (.const (.int .i64 0)), none⟩])
      .ret))))⟩
theorem t38_ok : goodFn Try.prog 38 = true ∧ cfn Try.prog 38 = t38 := ⟨by kernel_rfl, by kernel_rfl⟩

/-- matchguard/value.Of -/
def t39 : NFn := ⟨5, [(.cell 2 2 true)],
  (.seq
   (.ops [
     ⟨(some 2), .alloc [(.int .u64 0), (.int .u64 0)], none⟩])
   (.seq
    (.ops [
      ⟨(some 3), .move (.tmp 0), none⟩,
      ⟨(some 4), .build [(.int .u64 0), (.int .u64 0)] [(1, 1, (.tmp 3))], none⟩,
      ⟨none, .store 2 (.tmp 2) (.tmp 4), none⟩])
    .ret))⟩
theorem t39_ok : goodFn Try.prog 39 = true ∧ cfn Try.prog 39 = t39 := ⟨by kernel_rfl, by kernel_rfl⟩

/-- matchguard/value.Add -/
def t40 : NFn := ⟨34, [(.cell 6 2 true)],
  (.seq
   (.ops [
     ⟨(some 3), .box (.tmp 0), none⟩,
     ⟨(some 4), .box (.tmp 1), none⟩,
     ⟨(some 6), .alloc [(.int .u64 0), (.int .u64 0)], none⟩])
   (.seq
    (.ops [
      ⟨(some 12), .off (.tmp 3) 1, none⟩,
      ⟨(some 13), .load 1 false (.tmp 12), none⟩,
      ⟨(some 14), .off (.tmp 4) 1, none⟩,
      ⟨(some 15), .load 1 false (.tmp 14), none⟩,
      ⟨(some 16), .ext "math/bits.Add64" [(.tmp 13), (.tmp 15), (.const (.int .u64 0))], none⟩,
      ⟨(some 11), .move (.tmp 16), none⟩,
      ⟨(some 17), .extract (.tmp 11) 0, none⟩,
      ⟨(some 18), .extract (.tmp 11) 1, none⟩,
      ⟨(some 7), .move (.tmp 17), none⟩,
      ⟨(some 8), .move (.tmp 18), none⟩])
    (.seq
     (.ops [
       ⟨(some 20), .off (.tmp 3) 0, none⟩,
       ⟨(some 21), .load 1 false (.tmp 20), none⟩,
       ⟨(some 22), .off (.tmp 4) 0, none⟩,
       ⟨(some 23), .load 1 false (.tmp 22), none⟩,
       ⟨(some 24), .move (.tmp 8), none⟩,
       ⟨(some 25), .ext "math/bits.Add64" [(.tmp 21), (.tmp 23), (.tmp 24)], none⟩,
       ⟨(some 19), .move (.tmp 25), none⟩,
       ⟨(some 26), .extract (.tmp 19) 0, none⟩,
       ⟨(some 27), .extract (.tmp 19) 1, none⟩,
       ⟨(some 9), .move (.tmp 26), none⟩,
       ⟨(some 10), .move (.tmp 27), none⟩])
     (.seq
      (.ops [
        ⟨(some 28), .move (.tmp 9), none⟩,
        ⟨(some 29), .move (.tmp 7), none⟩,
        ⟨(some 30), .build [(.int .u64 0), (.int .u64 0)] [(0, 1, (.tmp 28)), (1, 1, (.tmp 29))], none⟩,
        ⟨(some 31), .move (.tmp 2), none⟩,
        ⟨(some 32), .call 21 [(.tmp 31)], none⟩,
        ⟨(some 33), .call 27 [(.tmp 30), (.tmp 32)], none⟩,
        ⟨none, .store 2 (.tmp 6) (.tmp 33), none⟩])
      .ret))))⟩
theorem t40_ok : goodFn Try.prog 40 = true ∧ cfn Try.prog 40 = t40 := ⟨by kernel_rfl, by kernel_rfl⟩

/-- matchguard/matchguardref01.Add -/
def t41 : NFn := ⟨14, [(.cell 6 2 true)],
  (.seq
   (.ops [
     ⟨(some 3), .box (.tmp 0), none⟩,
     ⟨(some 4), .box (.tmp 1), none⟩,
     ⟨(some 6), .alloc [(.int .u64 0), (.int .u64 0)], none⟩])
   (.seq
    (.draw 0 [
      ⟨0, ⟨(some 7), .load 2 true (.tmp 3), none⟩, [], 0⟩,
      ⟨1, ⟨(some 8), .call 44 [(.tmp 7)], none⟩, [0], 0⟩,
      ⟨2, ⟨(some 9), .load 2 true (.tmp 4), none⟩, [], 0⟩,
      ⟨3, ⟨(some 10), .call 44 [(.tmp 9)], none⟩, [2, 1, 0], 0⟩,
      ⟨4, ⟨(some 11), .move (.tmp 2), none⟩, [], 0⟩,
      ⟨5, ⟨(some 12), .call 51 [(.tmp 8), (.tmp 10), (.const (.bool false)), (.tmp 11)], none⟩, [1, 0, 3, 2, 4], 0⟩,
      ⟨6, ⟨(some 13), .call 46 [(.tmp 12)], none⟩, [5, 1, 0, 3, 2, 4], 0⟩,
      ⟨7, ⟨none, .store 2 (.tmp 6) (.tmp 13), none⟩, [6, 5, 1, 0, 3, 2, 4], 0⟩])
    .ret))⟩
theorem t41_ok : goodFn Try.prog 41 = true ∧ cfn Try.prog 41 = t41 := ⟨by kernel_rfl, by kernel_rfl⟩

/-- matchguard/value.Sub -/
def t42 : NFn := ⟨34, [(.cell 6 2 true)],
  (.seq
   (.ops [
     ⟨(some 3), .box (.tmp 0), none⟩,
     ⟨(some 4), .box (.tmp 1), none⟩,
     ⟨(some 6), .alloc [(.int .u64 0), (.int .u64 0)], none⟩])
   (.seq
    (.ops [
      ⟨(some 12), .off (.tmp 3) 1, none⟩,
      ⟨(some 13), .load 1 false (.tmp 12), none⟩,
      ⟨(some 14), .off (.tmp 4) 1, none⟩,
      ⟨(some 15), .load 1 false (.tmp 14), none⟩,
      ⟨(some 16), .ext "math/bits.Sub64" [(.tmp 13), (.tmp 15), (.const (.int .u64 0))], none⟩,
      ⟨(some 11), .move (.tmp 16), none⟩,
      ⟨(some 17), .extract (.tmp 11) 0, none⟩,
      ⟨(some 18), .extract (.tmp 11) 1, none⟩,
      ⟨(some 7), .move (.tmp 17), none⟩,
      ⟨(some 8), .move (.tmp 18), none⟩])
    (.seq
     (.ops [
       ⟨(some 20), .off (.tmp 3) 0, none⟩,
       ⟨(some 21), .load 1 false (.tmp 20), none⟩,
       ⟨(some 22), .off (.tmp 4) 0, none⟩,
       ⟨(some 23), .load 1 false (.tmp 22), none⟩,
       ⟨(some 24), .move (.tmp 8), none⟩,
       ⟨(some 25), .ext "math/bits.Sub64" [(.tmp 21), (.tmp 23), (.tmp 24)], none⟩,
       ⟨(some 19), .move (.tmp 25), none⟩,
       ⟨(some 26), .extract (.tmp 19) 0, none⟩,
       ⟨(some 27), .extract (.tmp 19) 1, none⟩,
       ⟨(some 9), .move (.tmp 26), none⟩,
       ⟨(some 10), .move (.tmp 27), none⟩])
     (.seq
      (.ops [
        ⟨(some 28), .move (.tmp 9), none⟩,
        ⟨(some 29), .move (.tmp 7), none⟩,
        ⟨(some 30), .build [(.int .u64 0), (.int .u64 0)] [(0, 1, (.tmp 28)), (1, 1, (.tmp 29))], none⟩,
        ⟨(some 31), .move (.tmp 2), none⟩,
        ⟨(some 32), .call 21 [(.tmp 31)], none⟩,
        ⟨(some 33), .call 27 [(.tmp 30), (.tmp 32)], none⟩,
        ⟨none, .store 2 (.tmp 6) (.tmp 33), none⟩])
      .ret))))⟩
theorem t42_ok : goodFn Try.prog 42 = true ∧ cfn Try.prog 42 = t42 := ⟨by kernel_rfl, by kernel_rfl⟩

/-- matchguard/matchguardref01.Sub -/
def t43 : NFn := ⟨15, [(.cell 6 2 true)],
  (.seq
   (.ops [
     ⟨(some 3), .box (.tmp 0), none⟩,
     ⟨(some 4), .box (.tmp 1), none⟩,
     ⟨(some 6), .alloc [(.int .u64 0), (.int .u64 0)], none⟩])
   (.seq
    (.draw 0 [
      ⟨0, ⟨(some 7), .load 2 true (.tmp 3), none⟩, [], 0⟩,
      ⟨1, ⟨(some 8), .call 44 [(.tmp 7)], none⟩, [0], 0⟩,
      ⟨2, ⟨(some 9), .load 2 true (.tmp 4), none⟩, [], 0⟩,
      ⟨3, ⟨(some 10), .call 24 [(.tmp 9), (.const (.int .i64 128))], none⟩, [2, 1, 0], 0⟩,
      ⟨4, ⟨(some 11), .call 44 [(.tmp 10)], none⟩, [3, 2, 1, 0], 0⟩,
      ⟨5, ⟨(some 12), .move (.tmp 2), none⟩, [], 0⟩,
      ⟨6, ⟨(some 13), .call 51 [(.tmp 8), (.tmp 11), (.const (.bool true)), (.tmp 12)], none⟩, [1, 0, 4, 3, 2, 5], 0⟩,
      ⟨7, ⟨(some 14), .call 46 [(.tmp 13)], none⟩, [6, 1, 0, 4, 3, 2, 5], 0⟩,
      ⟨8, ⟨none, .store 2 (.tmp 6) (.tmp 14), none⟩, [7, 6, 1, 0, 4, 3, 2, 5], 0⟩])
    .ret))⟩
theorem t43_ok : goodFn Try.prog 43 = true ∧ cfn Try.prog 43 = t43 := ⟨by kernel_rfl, by kernel_rfl⟩

/-- matchguard/matchguardref01.Read -/
def t44 : NFn := ⟨29, [(.cell 2 128 true)],
  (.seq
   (.ops [
     ⟨(some 1), .box (.tmp 0), none⟩,
     ⟨(some 2), .alloc (fill 128 (.bool false)), none⟩])
   (.seq
    (.ops [
      ⟨(some 3), .alloc (fill 128 (.bool false)), none⟩])
    (.seq
     (.seq
      (.ops [
        ⟨(some 4), .move (.const (.int .i64 0)), none⟩])
      (.block 0
       (.loop
        (.seq
         (.seq
          (.ops [
            ⟨(some 5), .move (.tmp 4), none⟩,
            ⟨(some 6), .bin .lss (.tmp 5) (.const (.int .i64 64)), none⟩])
          (.cond (.tmp 6)
           .skip
           (.exit 0)))
         (.seq
          (.block 1
           (.draw 0 [
             ⟨0, ⟨(some 9), .move (.tmp 4), none⟩, [], 0⟩,
             ⟨1, ⟨(some 10), .move (.tmp 4), none⟩, [], 0⟩,
             ⟨2, ⟨(some 11), .bin .add (.tmp 10) (.const (.int .i64 64)), none⟩, [1], 0⟩,
             ⟨3, ⟨(some 12), .off (.tmp 1) 1, none⟩, [], 0⟩,
             ⟨4, ⟨(some 13), .load 1 false (.tmp 12), none⟩, [3], 0⟩,
             ⟨5, ⟨(some 14), .move (.tmp 4), none⟩, [], 0⟩,
             ⟨6, ⟨(some 15), .conv .u64 (.tmp 14), none⟩, [5], 0⟩,
             ⟨7, ⟨(some 16), .bin .shr (.tmp 13) (.tmp 15), none⟩, [4, 3, 6, 5], 0⟩,
             ⟨8, ⟨(some 17), .bin .and (.tmp 16) (.const (.int .u64 1)), none⟩, [7, 4, 3, 6, 5], 0⟩,
             ⟨9, ⟨(some 18), .bin .eql (.tmp 17) (.const (.int .u64 1)), none⟩, [8, 7, 4, 3, 6, 5], 0⟩,
             ⟨10, ⟨(some 19), .off (.tmp 1) 0, none⟩, [], 0⟩,
             ⟨11, ⟨(some 20), .load 1 false (.tmp 19), none⟩, [10], 0⟩,
             ⟨12, ⟨(some 21), .move (.tmp 4), none⟩, [], 0⟩,
             ⟨13, ⟨(some 22), .conv .u64 (.tmp 21), none⟩, [12], 0⟩,
             ⟨14, ⟨(some 23), .bin .shr (.tmp 20) (.tmp 22), none⟩, [11, 10, 13, 12], 0⟩,
             ⟨15, ⟨(some 24), .bin .and (.tmp 23) (.const (.int .u64 1)), none⟩, [14, 11, 10, 13, 12], 0⟩,
             ⟨16, ⟨(some 25), .bin .eql (.tmp 24) (.const (.int .u64 1)), none⟩, [15, 14, 11, 10, 13, 12], 0⟩,
             ⟨17, ⟨(some 26), .idxArr (.tmp 3) (.tmp 9) 128 1, none⟩, [0, 3, 4, 5, 6, 7, 8, 9], 0⟩,
             ⟨18, ⟨none, .store 1 (.tmp 26) (.tmp 18), none⟩, [17, 0, 3, 4, 5, 6, 7, 8, 9], 0⟩,
             ⟨19, ⟨(some 27), .idxArr (.tmp 3) (.tmp 11) 128 1, none⟩, [2, 1, 0, 3, 4, 5, 6, 7, 8, 9, 10, 11, 12, 13, 14, 15, 16, 17, 18], 0⟩,
             ⟨20, ⟨none, .store 1 (.tmp 27) (.tmp 25), none⟩, [19, 2, 1, 0, 3, 4, 5, 6, 7, 8, 9, 10, 11, 12, 13, 14, 15, 16, 17, 18], 0⟩]))
          (.ops [
            ⟨(some 7), .move (.tmp 4), none⟩,
            ⟨(some 8), .bin .add (.tmp 7) (.const (.int .i64 1)), none⟩,
            ⟨(some 4), .move (.tmp 8), none⟩]))))))
     (.seq
      (.ops [
        ⟨(some 28), .load 128 true (.tmp 3), none⟩,
        ⟨none, .store 128 (.tmp 2) (.tmp 28), none⟩])
      .ret))))⟩
theorem t44_ok : goodFn Try.prog 44 = true ∧ cfn Try.prog 44 = t44 := ⟨by kernel_rfl, by kernel_rfl⟩

/-- matchguard/matchguardref01.clamp -/
def t45 : NFn := ⟨6, [(.tmp 2)],
  (.seq
   (.ops [
     ⟨(some 2), .move (.const (.int .i64 0)), none⟩])
   (.seq
    (.ops [
      ⟨(some 3), .move (.tmp 0), none⟩,
      ⟨(some 4), .minmax false [(.tmp 3), (.const (.int .i64 128))], none⟩,
      ⟨(some 5), .minmax true [(.const (.int .i64 0)), (.tmp 4)], none⟩,
      ⟨(some 2), .move (.tmp 5), none⟩])
    .ret))⟩
theorem t45_ok : goodFn Try.prog 45 = true ∧ cfn Try.prog 45 = t45 := ⟨by kernel_rfl, by kernel_rfl⟩

/-- matchguard/matchguardref01.Make -/
def t46 : NFn := ⟨31, [(.cell 2 2 true)],
  (.seq
   (.ops [
     ⟨(some 1), .box (.tmp 0), none⟩,
     ⟨(some 2), .alloc [(.int .u64 0), (.int .u64 0)], none⟩])
   (.seq
    (.ops [
      ⟨(some 3), .alloc [(.int .u64 0), (.int .u64 0)], none⟩])
    (.seq
     (.seq
      (.ops [
        ⟨(some 4), .move (.const (.int .i64 0)), none⟩])
      (.block 0
       (.loop
        (.seq
         (.seq
          (.ops [
            ⟨(some 5), .move (.tmp 4), none⟩,
            ⟨(some 6), .bin .lss (.tmp 5) (.const (.int .i64 64)), none⟩])
          (.cond (.tmp 6)
           .skip
           (.exit 0)))
         (.seq
          (.block 1
           (.seq
            (.seq
             (.ops [
               ⟨(some 9), .move (.tmp 4), none⟩,
               ⟨(some 10), .idxArr (.tmp 1) (.tmp 9) 128 1, none⟩,
               ⟨(some 11), .load 1 false (.tmp 10), none⟩])
             (.cond (.tmp 11)
              (.ops [
                ⟨(some 12), .off (.tmp 3) 1, none⟩,
                ⟨(some 13), .load 1 false (.tmp 12), none⟩,
                ⟨(some 14), .move (.tmp 4), none⟩,
                ⟨(some 15), .conv .u64 (.tmp 14), none⟩,
                ⟨(some 16), .bin .shl (.const (.int .u64 1)) (.tmp 15), none⟩,
                ⟨(some 17), .bin .or (.tmp 13) (.tmp 16), none⟩,
                ⟨(some 18), .off (.tmp 3) 1, none⟩,
                ⟨none, .store 1 (.tmp 18) (.tmp 17), none⟩])
              .skip))
            (.seq
             (.ops [
               ⟨(some 19), .move (.tmp 4), none⟩,
               ⟨(some 20), .bin .add (.tmp 19) (.const (.int .i64 64)), none⟩,
               ⟨(some 21), .idxArr (.tmp 1) (.tmp 20) 128 1, none⟩,
               ⟨(some 22), .load 1 false (.tmp 21), none⟩])
             (.cond (.tmp 22)
              (.ops [
                ⟨(some 23), .off (.tmp 3) 0, none⟩,
                ⟨(some 24), .load 1 false (.tmp 23), none⟩,
                ⟨(some 25), .move (.tmp 4), none⟩,
                ⟨(some 26), .conv .u64 (.tmp 25), none⟩,
                ⟨(some 27), .bin .shl (.const (.int .u64 1)) (.tmp 26), none⟩,
                ⟨(some 28), .bin .or (.tmp 24) (.tmp 27), none⟩,
                ⟨(some 29), .off (.tmp 3) 0, none⟩,
                ⟨none, .store 1 (.tmp 29) (.tmp 28), none⟩])
              .skip))))
          (.ops [
            ⟨(some 7), .move (.tmp 4), none⟩,
            ⟨(some 8), .bin .add (.tmp 7) (.const (.int .i64 1)), none⟩,
            ⟨(some 4), .move (.tmp 8), none⟩]))))))
     (.seq
      (.ops [
        ⟨(some 30), .load 2 true (.tmp 3), none⟩,
        ⟨none, .store 2 (.tmp 2) (.tmp 30), none⟩])
      .ret))))⟩
theorem t46_ok : goodFn Try.prog 46 = true ∧ cfn Try.prog 46 = t46 := ⟨by kernel_rfl, by kernel_rfl⟩

/-- math/bits.Len64 -/
def t47 : NFn := ⟨25, [(.tmp 2)],
  (.seq
   (.ops [
     ⟨(some 2), .move (.const (.int .i64 0)), none⟩])
   (.seq
    (.seq
     (.ops [
       ⟨(some 3), .move (.tmp 0), none⟩,
       ⟨(some 4), .bin .geq (.tmp 3) (.const (.int .u64 4294967296)), none⟩])
     (.cond (.tmp 4)
      (.seq
       (.ops [
         ⟨(some 5), .move (.tmp 0), none⟩,
         ⟨(some 6), .bin .shr (.tmp 5) (.const (.int .u64 32)), none⟩,
         ⟨(some 0), .move (.tmp 6), none⟩])
       (.ops [
         ⟨(some 2), .move (.const (.int .i64 32)), none⟩]))
      .skip))
    (.seq
     (.seq
      (.ops [
        ⟨(some 7), .move (.tmp 0), none⟩,
        ⟨(some 8), .bin .geq (.tmp 7) (.const (.int .u64 65536)), none⟩])
      (.cond (.tmp 8)
       (.seq
        (.ops [
          ⟨(some 9), .move (.tmp 0), none⟩,
          ⟨(some 10), .bin .shr (.tmp 9) (.const (.int .u64 16)), none⟩,
          ⟨(some 0), .move (.tmp 10), none⟩])
        (.ops [
          ⟨(some 11), .move (.tmp 2), none⟩,
          ⟨(some 12), .bin .add (.tmp 11) (.const (.int .i64 16)), none⟩,
          ⟨(some 2), .move (.tmp 12), none⟩]))
       .skip))
     (.seq
      (.seq
       (.ops [
         ⟨(some 13), .move (.tmp 0), none⟩,
         ⟨(some 14), .bin .geq (.tmp 13) (.const (.int .u64 256)), none⟩])
       (.cond (.tmp 14)
        (.seq
         (.ops [
           ⟨(some 15), .move (.tmp 0), none⟩,
           ⟨(some 16), .bin .shr (.tmp 15) (.const (.int .u64 8)), none⟩,
           ⟨(some 0), .move (.tmp 16), none⟩])
         (.ops [
           ⟨(some 17), .move (.tmp 2), none⟩,
           ⟨(some 18), .bin .add (.tmp 17) (.const (.int .i64 8)), none⟩,
           ⟨(some 2), .move (.tmp 18), none⟩]))
        .skip))
      (.seq
       (.ops [
         ⟨(some 19), .move (.tmp 2), none⟩,
         ⟨(some 20), .move (.tmp 0), none⟩,
         ⟨(some 21), .conv .u8 (.tmp 20), none⟩,
         ⟨(some 22), .strIdx (.const (.str ⟨#[0, 1, 2, 2, 3, 3, 3, 3, 4, 4, 4, 4, 4, 4, 4, 4, 5, 5, 5, 5, 5, 5, 5, 5, 5, 5, 5, 5, 5, 5, 5, 5, 6, 6, 6, 6, 6, 6, 6, 6, 6, 6, 6, 6, 6, 6, 6, 6, 6, 6, 6, 6, 6, 6, 6, 6, 6, 6, 6, 6, 6, 6, 6, 6, 7, 7, 7, 7, 7, 7, 7, 7, 7, 7, 7, 7, 7, 7, 7, 7, 7, 7, 7, 7, 7, 7, 7, 7, 7, 7, 7, 7, 7, 7, 7, 7, 7, 7, 7, 7, 7, 7, 7, 7, 7, 7, 7, 7, 7, 7, 7, 7, 7, 7, 7, 7, 7, 7, 7, 7, 7, 7, 7, 7, 7, 7, 7, 7, 8, 8, 8, 8, 8, 8, 8, 8, 8, 8, 8, 8, 8, 8, 8, 8, 8, 8, 8, 8, 8, 8, 8, 8, 8, 8, 8, 8, 8, 8, 8, 8, 8, 8, 8, 8, 8, 8, 8, 8, 8, 8, 8, 8, 8, 8, 8, 8, 8, 8, 8, 8, 8, 8, 8, 8, 8, 8, 8, 8, 8, 8, 8, 8, 8, 8, 8, 8, 8, 8, 8, 8, 8, 8, 8, 8, 8, 8, 8, 8, 8, 8, 8, 8, 8, 8, 8, 8, 8, 8, 8, 8, 8, 8, 8, 8, 8, 8, 8, 8, 8, 8, 8, 8, 8, 8, 8, 8, 8, 8, 8, 8, 8, 8, 8, 8, 8, 8, 8, 8, 8, 8, 8, 8, 8, 8, 8, 8]⟩)) (.tmp 21), none⟩,
         ⟨(some 23), .conv .i64 (.tmp 22), none⟩,
         ⟨(some 24), .bin .add (.tmp 19) (.tmp 23), none⟩,
         ⟨(some 2), .move (.tmp 24), none⟩])
       .ret)))))⟩
theorem t47_ok : goodFn Try.prog 47 = true ∧ cfn Try.prog 47 = t47 := ⟨by kernel_rfl, by kernel_rfl⟩

/-- matchguard/value.within -/
def t48 : NFn := ⟨6, [(.tmp 2)],
  (.seq
   (.ops [
     ⟨(some 2), .move (.const (.int .i64 0)), none⟩])
   (.seq
    (.ops [
      ⟨(some 3), .move (.tmp 0), none⟩,
      ⟨(some 4), .minmax true [(.const (.int .i64 0)), (.tmp 3)], none⟩,
      ⟨(some 5), .minmax false [(.tmp 4), (.const (.int .i64 128))], none⟩,
      ⟨(some 2), .move (.tmp 5), none⟩])
    .ret))⟩
theorem t48_ok : goodFn Try.prog 48 = true ∧ cfn Try.prog 48 = t48 := ⟨by kernel_rfl, by kernel_rfl⟩

/-- matchguard/value.all -/
def t49 : NFn := ⟨19, [(.cell 2 16 true)],
  (.seq
   (.ops [
     ⟨(some 1), .box (.tmp 0), none⟩,
     ⟨(some 2), .alloc [(.int .u8 0), (.int .u8 0), (.int .u8 0), (.int .u8 0), (.int .u8 0), (.int .u8 0), (.int .u8 0), (.int .u8 0), (.int .u8 0), (.int .u8 0), (.int .u8 0), (.int .u8 0), (.int .u8 0), (.int .u8 0), (.int .u8 0), (.int .u8 0)], none⟩])
   (.seq
    (.ops [
      ⟨(some 3), .alloc [(.int .u8 0), (.int .u8 0), (.int .u8 0), (.int .u8 0), (.int .u8 0), (.int .u8 0), (.int .u8 0), (.int .u8 0), (.int .u8 0), (.int .u8 0), (.int .u8 0), (.int .u8 0), (.int .u8 0), (.int .u8 0), (.int .u8 0), (.int .u8 0)], none⟩])
    (.seq
     (.seq
      (.ops [
        ⟨(some 5), .move (.const (.int .i64 0)), none⟩])
      (.block 0
       (.loop
        (.seq
         (.ops [
           ⟨(some 6), .bin .lss (.tmp 5) (.const (.int .i64 16)), none⟩])
         (.seq
          (.cond (.tmp 6)
           .skip
           (.exit 0))
          (.seq
           (.block 1
            (.seq
             (.ops [
               ⟨(some 7), .move (.tmp 5), none⟩,
               ⟨(some 4), .move (.tmp 7), none⟩])
             (.ops [
               ⟨(some 8), .move (.tmp 4), none⟩,
               ⟨(some 9), .load 2 true (.tmp 1), none⟩,
               ⟨(some 10), .move (.tmp 4), none⟩,
               ⟨(some 11), .bin .sub (.const (.int .i64 15)) (.tmp 10), none⟩,
               ⟨(some 12), .bin .mul (.const (.int .i64 8)) (.tmp 11), none⟩,
               ⟨(some 13), .call 12 [(.tmp 9), (.tmp 12)], none⟩,
               ⟨(some 14), .fieldv (.tmp 13) 1 1 false, none⟩,
               ⟨(some 15), .conv .u8 (.tmp 14), none⟩,
               ⟨(some 16), .idxArr (.tmp 3) (.tmp 8) 16 1, none⟩,
               ⟨none, .store 1 (.tmp 16) (.tmp 15), none⟩])))
           (.ops [
             ⟨(some 17), .bin .add (.tmp 5) (.const (.int .i64 1)), none⟩,
             ⟨(some 5), .move (.tmp 17), none⟩])))))))
     (.seq
      (.ops [
        ⟨(some 18), .load 16 true (.tmp 3), none⟩,
        ⟨none, .store 16 (.tmp 2) (.tmp 18), none⟩])
      .ret))))⟩
theorem t49_ok : goodFn Try.prog 49 = true ∧ cfn Try.prog 49 = t49 := ⟨by kernel_rfl, by kernel_rfl⟩

/-- matchguard/matchguardref01.sum -/
def t51 : NFn := ⟨45, [(.cell 8 128 true)],
  (.seq
   (.ops [
     ⟨(some 4), .box (.tmp 0), none⟩,
     ⟨(some 5), .box (.tmp 1), none⟩,
     ⟨(some 8), .alloc (fill 128 (.bool false)), none⟩])
   (.seq
    (.ops [
      ⟨(some 9), .alloc (fill 128 (.bool false)), none⟩])
    (.seq
     (.seq
      (.ops [
        ⟨(some 10), .move (.const (.int .i64 0)), none⟩])
      (.block 0
       (.loop
        (.seq
         (.seq
          (.ops [
            ⟨(some 14), .move (.tmp 10), none⟩,
            ⟨(some 15), .move (.tmp 3), none⟩,
            ⟨(some 16), .call 45 [(.tmp 15)], none⟩,
            ⟨(some 17), .bin .lss (.tmp 14) (.tmp 16), none⟩])
          (.cond (.tmp 17)
           .skip
           (.exit 0)))
         (.seq
          (.block 1
           (.seq
            (.ops [
              ⟨(some 11), .move (.const (.int .i64 0)), none⟩])
            (.seq
             (.seq
              (.draw 1 [
                ⟨0, ⟨(some 20), .move (.tmp 10), none⟩, [], 0⟩,
                ⟨1, ⟨(some 21), .idxArr (.tmp 4) (.tmp 20) 128 1, none⟩, [0], 0⟩,
                ⟨2, ⟨(some 22), .load 1 false (.tmp 21), none⟩, [1, 0], 0⟩,
                ⟨3, ⟨(some 23), .move (.tmp 10), none⟩, [], 0⟩,
                ⟨4, ⟨(some 24), .idxArr (.tmp 5) (.tmp 23) 128 1, none⟩, [3], 0⟩,
                ⟨5, ⟨(some 25), .load 1 false (.tmp 24), none⟩, [4, 3], 0⟩,
                ⟨6, ⟨(some 26), .move (.tmp 2), none⟩, [], 0⟩,
                ⟨7, ⟨(some 27), .bslice 3 [(.bool false), (.bool false), (.bool false)] [(0, 1, (.tmp 22)), (1, 1, (.tmp 25)), (2, 1, (.tmp 26))], none⟩, [2, 1, 0, 5, 4, 3, 6], 0⟩,
                ⟨8, ⟨(some 28), .lenSl (.tmp 27), none⟩, [7, 2, 1, 0, 5, 4, 3, 6], 1⟩,
                ⟨9, ⟨(some 29), .move (.const (.int .i64 0)), none⟩, [], 1⟩])
              (.block 2
               (.loop
                (.seq
                 (.ops [
                   ⟨(some 30), .bin .lss (.tmp 29) (.tmp 28), none⟩])
                 (.seq
                  (.cond (.tmp 30)
                   .skip
                   (.exit 2))
                  (.seq
                   (.block 3
                    (.seq
                     (.ops [
                       ⟨(some 31), .idxSl (.tmp 27) (.tmp 29) 1, none⟩,
                       ⟨(some 32), .load 1 false (.tmp 31), none⟩,
                       ⟨(some 13), .move (.tmp 32), none⟩])
                     (.seq
                      (.ops [
                        ⟨(some 33), .move (.tmp 13), none⟩])
                      (.cond (.tmp 33)
                       (.ops [
                         ⟨(some 34), .move (.tmp 11), none⟩,
                         ⟨(some 35), .bin .add (.tmp 34) (.const (.int .i64 1)), none⟩,
                         ⟨(some 11), .move (.tmp 35), none⟩])
                       .skip))))
                   (.ops [
                     ⟨(some 36), .bin .add (.tmp 29) (.const (.int .i64 1)), none⟩,
                     ⟨(some 29), .move (.tmp 36), none⟩])))))))
             (.ops [
               ⟨(some 37), .move (.tmp 10), none⟩,
               ⟨(some 38), .move (.tmp 11), none⟩,
               ⟨(some 39), .bin .rem (.tmp 38) (.const (.int .i64 2)), none⟩,
               ⟨(some 40), .bin .eql (.tmp 39) (.const (.int .i64 1)), none⟩,
               ⟨(some 41), .move (.tmp 11), none⟩,
               ⟨(some 42), .bin .gtr (.tmp 41) (.const (.int .i64 1)), none⟩,
               ⟨(some 43), .idxArr (.tmp 9) (.tmp 37) 128 1, none⟩,
               ⟨none, .store 1 (.tmp 43) (.tmp 40), none⟩,
               ⟨(some 2), .move (.tmp 42), none⟩]))))
          (.ops [
            ⟨(some 18), .move (.tmp 10), none⟩,
            ⟨(some 19), .bin .add (.tmp 18) (.const (.int .i64 1)), none⟩,
            ⟨(some 10), .move (.tmp 19), none⟩]))))))
     (.seq
      (.ops [
        ⟨(some 44), .load 128 true (.tmp 9), none⟩,
        ⟨none, .store 128 (.tmp 8) (.tmp 44), none⟩])
      .ret))))⟩
theorem t51_ok : goodFn Try.prog 51 = true ∧ cfn Try.prog 51 = t51 := ⟨by kernel_rfl, by kernel_rfl⟩

def tab : List (Nat × NFn) := [(2, t2), (3, t3), (4, t4), (5, t5), (6, t6), (7, t7), (8, t8), (9, t9), (10, t10), (11, t11), (12, t12), (13, t13), (14, t14), (15, t15), (16, t16), (17, t17), (18, t18), (19, t19), (20, t20), (21, t21), (22, t22), (23, t23), (24, t24), (25, t25), (26, t26), (27, t27), (28, t28), (29, t29), (30, t30), (31, t31), (32, t32), (33, t33), (34, t34), (35, t35), (36, t36), (37, t37), (38, t38), (39, t39), (40, t40), (41, t41), (42, t42), (43, t43), (44, t44), (45, t45), (46, t46), (47, t47), (48, t48), (49, t49), (51, t51)]
theorem tab_ok : ∀ p ∈ tab, goodFn Try.prog p.1 = true ∧ cfn Try.prog p.1 = p.2 := by
  intro p hp
  simp only [tab, List.mem_cons, List.not_mem_nil, or_false] at hp
  rcases hp with rfl | rfl | rfl | rfl | rfl | rfl | rfl | rfl | rfl | rfl | rfl | rfl | rfl | rfl | rfl | rfl | rfl | rfl | rfl | rfl | rfl | rfl | rfl | rfl | rfl | rfl | rfl | rfl | rfl | rfl | rfl | rfl | rfl | rfl | rfl | rfl | rfl | rfl | rfl | rfl | rfl | rfl | rfl | rfl | rfl | rfl | rfl | rfl | rfl
  · exact t2_ok
  · exact t3_ok
  · exact t4_ok
  · exact t5_ok
  · exact t6_ok
  · exact t7_ok
  · exact t8_ok
  · exact t9_ok
  · exact t10_ok
  · exact t11_ok
  · exact t12_ok
  · exact t13_ok
  · exact t14_ok
  · exact t15_ok
  · exact t16_ok
  · exact t17_ok
  · exact t18_ok
  · exact t19_ok
  · exact t20_ok
  · exact t21_ok
  · exact t22_ok
  · exact t23_ok
  · exact t24_ok
  · exact t25_ok
  · exact t26_ok
  · exact t27_ok
  · exact t28_ok
  · exact t29_ok
  · exact t30_ok
  · exact t31_ok
  · exact t32_ok
  · exact t33_ok
  · exact t34_ok
  · exact t35_ok
  · exact t36_ok
  · exact t37_ok
  · exact t38_ok
  · exact t39_ok
  · exact t40_ok
  · exact t41_ok
  · exact t42_ok
  · exact t43_ok
  · exact t44_ok
  · exact t45_ok
  · exact t46_ok
  · exact t47_ok
  · exact t48_ok
  · exact t49_ok
  · exact t51_ok
end Go.Proofs
